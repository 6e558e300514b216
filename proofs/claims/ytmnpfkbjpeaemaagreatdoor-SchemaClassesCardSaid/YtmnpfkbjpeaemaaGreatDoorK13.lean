/- One text out of several: SchH, Same, SchJ, TyF. -/
import Derived.Test.YtmnpfkbjpeaemaaGreatDoorK12
import Derived.Deep.QuietTactic
import Derived.BigQuiet
import Derived.Test.YtmnpfkbjpeaemaaGreatDoorK5
import Derived.Lib.LaidU8
import Derived.Deep.Strs
import Derived.Test.YtmnpfkbjpeaemaaGreatDoorK1
set_option linter.unusedVariables false
set_option linter.unusedSimpArgs false
set_option maxRecDepth 20000
set_option maxHeartbeats 16000000
namespace Go.Proofs.YtmnpfkbjpeaemaaGreatDoor
open Go.RowKit
namespace scw
open scp atp atw etp etw
open tupw (Strs strs_below)
def restA:Option Nat→List T
 | some k=>aboveK k
 | none=>[]
theorem above_step: ∀k:Fin 13,aboveK k.val=if(clsA k.val).above=[]then[]else(clsA k.val).above::restA (idx (clsA k.val).above):=by decide+kernel
theorem above_len3 (r:Option Nat)(h: ∀k,r=some k→k<13):(restA r).length≤3:=by
 cases r with
 | none=>exact Nat.zero_le _
 | some k=>exact above_len ⟨k,h k rfl⟩
theorem aboveN_rest (n:T):aboveN n=restA (idx n):=by unfold aboveN restA;cases idx n<;>rfl
theorem own_empty2 (w:World)(B:Nat)(hB:B≤w.heap.size):OwnS (w.alloc (.cells #[] 9)) B (.slice (some ⟨w.heap.size,0,none⟩) 0 0) []:=own_empty w B hB
theorem above_any (n:ByteArray)(w:World):Calls Tryz.prog 24 #[.string n] w fun e w'=> ∃v,e= .returned v∧ElS w' v (aboveN n.data.toList)∧Below w.heap.size w w':=by
 obtain⟨W1,hW1⟩: ∃W,w.alloc (.cells #[] 9)=W:=⟨_,rfl⟩;have hB1:Below w.heap.size w W1:=by rw[←hW1];exact(Below.refl _ _).alloc (Nat.le_refl _) _
 have HO1:Hid (OwnS W1 w.heap.size (.slice (some ⟨w.heap.size,0,none⟩) 0 0) []):=by rw[←hW1];exact own_empty2 w _ (Nat.le_refl _)
 have HB1:=Lib.hid hB1;have HOW:=Lib.hid (own_any n W1);have HLT:Hid (∀k,idx n.data.toList=some k→k<13):=fun k h=>idx_lt h;rw[aboveN_rest];generalize idx n.data.toList=r0 at HOW HLT ⊢;clear hB1;go_enter Tryz.func24,Tryz.ntmps24;go_wp2_with fail;refine HOW.out.mono ?_;rintro e w2 ⟨vm,vy,rfl,_,_,hB2⟩;have HO2:=Lib.hid (ownS_below HO1.out hB2);have HB2:=Lib.hid (HB1.out.trans (hB2.mono HB1.out.size));clear hB2 HOW hW1;obtain⟨b0,hb0⟩: ∃b,r0.isSome=b:=⟨_,rfl⟩;obtain⟨a0,ha0⟩: ∃a,bs (clsO r0).above=a:=⟨_,rfl⟩;rw[hb0,ha0];have HI0:Hid (Value.string a0= .string (bs (clsO r0).above)∧Value.bool b0= .bool r0.isSome):=by rw[ha0,hb0];exact⟨rfl,rfl⟩
 clear hb0 ha0;go_wp2_with fail;go_loopw [3,4,8] (fun ov uv bv wr=> ∃ (pre:List T) (r:Option Nat),Hid (uv= .string (bs (clsO r).above))∧Hid (bv= .bool r.isSome)∧Hid (OwnS wr w.heap.size ov pre)∧Hid (restA r0=pre++restA r)∧Hid (∀k,r=some k→k<13)∧Hid (Below w.heap.size w wr)) (fun ov _ _ _=>4-vlen ov);case atStart=>exact⟨[],r0,HI0.out.1,HI0.out.2,HO2,rfl,HLT,HB2⟩
 case round=>
  obtain⟨pre,r,hu,hb,hO,hJ,hK,hB⟩:=hrel;have hu1:=hu.out;have hb1:=hb.out;subst hu1 hb1;have hsz:=hB.out.size;clear hu hb HI0;cases r with
  | none=>have HE:=Lib.hid (elS_own hO.out);have HR:Hid (restA r0=pre):=(by show _=_;rw[hJ.out];simp[restA]);go_wp2_with fail;go_ret;exact⟨_,rfl,by rw[HR.out];exact HE.out,hB.out⟩
  | some k=>
   have hk:=hK.out k rfl;have hst:=above_step ⟨k,hk⟩;simp only at hst;have hl3:=above_len3 r0 HLT.out;have hj:=hJ.out;rw[show restA (some k)=aboveK k from rfl,hst]at hj;rw[show clsO (some k)=clsA k from rfl];generalize(clsA k).above=ab at hj ⊢;by_cases hab:ab=[]
   ·rw[if_pos hab,List.append_nil]at hj;have HR:=Lib.hid hj;have HE:=Lib.hid (elS_own hO.out);have q:(bs ab).toList.isEmpty=true:=(by rw[hab,Lib.toList_data];rfl);clear hj hst hl3 hab;go_wp2_with fail;go_ret;exact⟨_,rfl,by rw[HR.out];exact HE.out,hB.out⟩
   ·rw[if_neg hab]at hj;have hl4:pre.length≤2:=(by rw[hj]at hl3;simp only[List.length_append,List.length_cons]at hl3;omega);have HJ:Hid (restA r0=(pre++[ab])++restA (idx ab)):=(by show _=_;rw[hj];simp);have q:(bs ab).toList.isEmpty=false:=(by rw[Lib.toList_data,bs_data];exact List.isEmpty_eq_false_iff.2 hab);obtain⟨v',w3,hrun,ho3,hB3⟩:=ownS_app1 (w:=wr) (B:=w.heap.size) ab hO.out (by omega) hsz;have HVL:Hid (vlen v'=pre.length+1∧vlen u3=pre.length):=(by obtain⟨ao,cap,e1,_,_⟩:=prw.ownT_cells ho3;obtain⟨ao2,cap2,e2,_,_⟩:=prw.ownT_cells hO.out;exact⟨by rw[e1];show((pre++[ab]).map bs).length=_;simp,by rw[e2];show(pre.map bs).length=_;simp⟩);have HOW3:=Lib.hid (own_any (bs ab) w3);have HO3:=Lib.hid ho3;have HB3:=Lib.hid (hB.out.trans hB3);have HK3:Hid (∀j,idx ab=some j→j<13):=fun j h=>idx_lt h;rw[show(bs ab).data.toList=ab from rfl]at HOW3;clear hj hst hl3 hab ho3 hB3;go_wp2_with (refine Lib.wpList_append_run _ rfl _ _ _ _ rfl _ _ rfl rfl _ _ hrun ?_);refine HOW3.out.mono ?_;rintro e w4 ⟨vm4,vy4,rfl,_,_,hB4⟩;have HO4:=Lib.hid (ownS_below HO3.out hB4);have HB4:=Lib.hid (HB3.out.trans (hB4.mono HB3.out.size));clear hB4 HOW3 hrun;generalize idx ab=r2 at HJ HK3 ⊢;obtain⟨b2,hb2⟩: ∃b,r2.isSome=b:=⟨_,rfl⟩;obtain⟨a2,ha2⟩: ∃a,bs (clsO r2).above=a:=⟨_,rfl⟩;rw[hb2,ha2];have HI2:Hid (Value.string a2= .string (bs (clsO r2).above)∧Value.bool b2= .bool r2.isSome):=(by rw[ha2,hb2];exact⟨rfl,rfl⟩);clear hb2 ha2;go_wp2_with fail;go_roundw;case rel=>exact⟨pre++[ab],r2,HI2.out.1,HI2.out.2,HO4,HJ,HK3,HB4⟩
    case measure=>show 4-vlen v'<4-vlen u3;rw[HVL.out.1,HVL.out.2];omega
theorem putL_len (l:List T)(s:T):(putL l s).length≤l.length+1:=by
 unfold putL;split
 ·omega
 ·have h1:=congrArg List.length (List.takeWhile_append_dropWhile (p:=fun x=>ltT x s) (l:=l));rw[List.length_append]at h1;rw[List.length_append,List.length_cons];omega
theorem putL_mem {l:List T}{s x:T}(h:x∈putL l s):x∈l∨x=s:=by
 unfold putL at h;split at h
 ·exact Or.inl h
 ·rcases List.mem_append.1 h with h | h
  ·exact Or.inl (List.takeWhile_subset _ h)
  ·rcases List.mem_cons.1 h with h | h
   ·exact Or.inr h
   ·exact Or.inl (List.dropWhile_subset _ h)
def Sm (n:Nat)(l:List T):Prop:=l.length≤n∧ ∀x∈l,x.length≤1000
theorem sm_put {n:Nat}{l:List T}{s:T}(h:Sm n l)(hs:s.length≤1000):Sm (n+1) (putL l s):=
 ⟨Nat.le_trans (putL_len l s) (Nat.add_le_add_right h.1 1),fun x hx=>by
  rcases putL_mem hx with h2 | h2
  ·exact h.2 x h2
  ·rw[h2];exact hs⟩
theorem sm_le {n m:Nat}{l:List T}(h:Sm n l)(hm:n≤m):Sm m l:=⟨Nat.le_trans h.1 hm,h.2⟩
theorem own_small: ∀k:Fin 13,(ownMust k.val).length≤6∧(ownMay k.val).length≤6∧(∀x∈ownMust k.val,x.length≤1000)∧ ∀x∈ownMay k.val,x.length≤1000:=by decide+kernel
theorem putsM_step {M:List T}{A:List T}{j:Nat}(hj:j<A.length):(A.take (j+1)).foldl putL M=putL ((A.take j).foldl putL M) A[j]:=by rw[List.take_succ_eq_append_getElem hj,List.foldl_append];rfl
theorem puts_line {ls:List Nat}{f:Nat→List T}{i:Nat}(hi:i<ls.length):((ls.take (i+1)).flatMap f).foldl putL []=(f ls[i]).foldl putL (((ls.take i).flatMap f).foldl putL []):=by rw[List.take_succ_eq_append_getElem hi,List.flatMap_append,List.foldl_append];simp
theorem line_cons {k:Nat}(hk:k<13):lineK k=k::(lineK k).tail:=by rw[lineK_step ⟨k,hk⟩];rfl
theorem aboveK_len (k:Nat):(aboveK k).length=(lineK k).tail.length:=by unfold aboveK;rw[List.length_map]
theorem aboveK_get {k i:Nat}(hk:k<13)(hi:i<(aboveK k).length)(hi2:i+1<(lineK k).length):(aboveK k)[i]=(clsA (lineK k)[i+1]).name:=by
 have h:(aboveK k)[i]? =some (clsA (lineK k)[i+1]).name:=by unfold aboveK;rw[List.getElem?_map,List.getElem?_tail,List.getElem?_eq_getElem hi2];rfl
 rw[List.getElem?_eq_getElem hi]at h;exact Option.some.inj h
theorem sets_any (n:ByteArray)(w:World):Calls Tryz.prog 23 #[.string n] w fun e w'=> ∃vm vy,e= .returned (.tuple #[vm,vy])∧ElS w' vm (mustN n.data.toList)∧ElS w' vy (mayN n.data.toList)∧Below w.heap.size w w':=by
 obtain⟨W1,hW1⟩: ∃W,w.alloc (.cells #[] 9)=W:=⟨_,rfl⟩;have hB1:Below w.heap.size w W1:=by rw[←hW1];exact(Below.refl _ _).alloc (Nat.le_refl _) _
 have hO1:ElS W1 (.slice (some ⟨w.heap.size,0,none⟩) 0 0) []:=by rw[←hW1];exact elS_own (own_empty2 w w.heap.size (Nat.le_refl _))
 obtain⟨W2,hW2⟩: ∃W,W1.alloc (.cells #[] 9)=W:=⟨_,rfl⟩;have hB2:Below W1.heap.size W1 W2:=by rw[←hW2];exact(Below.refl _ _).alloc (Nat.le_refl _) _
 have HY2:Hid (ElS W2 (.slice (some ⟨W1.heap.size,0,none⟩) 0 0) []):=by rw[←hW2];exact elS_own (own_empty2 W1 W1.heap.size (Nat.le_refl _))
 have HM2:=Lib.hid (elS_below hO1 hB2);have HB2:=Lib.hid (hB1.trans (hB2.mono hB1.size));have HOW:=Lib.hid (own_any n W2);have HAB0:Hid (∀W,Calls Tryz.prog 24 #[.string n] W fun e w'=> ∃v,e= .returned v∧ElS w' v (aboveN n.data.toList)∧Below W.heap.size W w'):=fun W=>above_any n W;have HLT:Hid (∀k,idx n.data.toList=some k→k<13):=fun k h=>idx_lt h;rw[show mustN n.data.toList=(match idx n.data.toList with | some k=>mustK k | none=>[])from rfl,show mayN n.data.toList=(match idx n.data.toList with | some k=>mayK k | none=>[])from rfl];rw[show aboveN n.data.toList=(match idx n.data.toList with | some k=>aboveK k | none=>[])from rfl]at HAB0;clear hB1 hB2 hO1;cases hix:idx n.data.toList with
 | none=>rw[hix]at HOW;have HOW2:Hid (Calls Tryz.prog 22 #[.string n] W2 fun e w'=> ∃vm vy,e= .returned (.tuple #[.string (bs noCls.above),.int .i64 noCls.kind,vm,vy,.bool false])∧Below W2.heap.size W2 w'):=HOW.out.mono fun e w' ⟨vm,vy,he,_,_,hb⟩=>⟨vm,vy,he,hb⟩;clear hix HOW HAB0 HLT;go_enter Tryz.func23,Tryz.ntmps23;go_wp2_with fail;refine HOW2.out.mono ?_;rintro e w3 ⟨vm,vy,rfl,hB3⟩;have HM3:=Lib.hid (elS_below HM2.out hB3);have HY3:=Lib.hid (elS_below HY2.out hB3);have HB3:=Lib.hid (HB2.out.trans (hB3.mono HB2.out.size));clear hB3;go_wp2_with fail;go_ret2;exact⟨_,_,rfl,HM3.out,HY3.out,HB3.out⟩
 | some k=>
  have hk:=HLT.out k hix;rw[hix]at HOW HAB0;have HOW2:Hid (Calls Tryz.prog 22 #[.string n] W2 fun e w'=> ∃vm vy,e= .returned (.tuple #[.string (bs (clsA k).above),.int .i64 (clsA k).kind,vm,vy,.bool true])∧ElemAt w' vm ((ownMust k).map bs)∧ElemAt w' vy ((ownMay k).map bs)∧Below W2.heap.size W2 w'):=HOW.out;have HAB1:Hid (∀W,Calls Tryz.prog 24 #[.string n] W fun e w'=> ∃v,e= .returned v∧ElS w' v (aboveK k)∧Below W.heap.size W w'):=HAB0.out;have HL0:Hid (∃h:0<(lineK k).length,(lineK k)[0]=k):=by have h1:=line_cons hk;refine⟨by rw[h1];simp,?_⟩;have h2:(lineK k)[0]? =some k:=(by rw[h1];rfl);exact(List.getElem?_eq_some_iff.1 h2).2
  have HAG:Hid (∀i (hi:i<(aboveK k).length) (h2:i+1<(lineK k).length),(aboveK k)[i]=(clsA (lineK k)[i+1]).name):=fun i hi h2=>aboveK_get hk hi h2;have HLS13:Hid (∀j∈lineK k,j<13):=lineK_lt ⟨k,hk⟩;have hl4:(lineK k).length≤4:=lineK_len ⟨k,hk⟩;have hal:=aboveK_len k;have hal2:(lineK k).length=(aboveK k).length+1:=by rw[hal,List.length_tail];have:=HL0.out.1;omega
  have HMK:Hid (mustK k=((lineK k).flatMap ownMust).foldl putL []):=rfl;have HYK:Hid (mayK k=((lineK k).flatMap ownMay).foldl putL []):=rfl;show Calls _ _ _ _ fun e w'=> ∃vm vy,e= .returned (.tuple #[vm,vy])∧ElS w' vm (mustK k)∧ElS w' vy (mayK k)∧Below w.heap.size w w';rw[HMK.out,HYK.out];clear hix HOW HAB0 HLT hal HMK HYK;generalize hls:lineK k=ls at HL0 HAG HLS13 hl4 hal2 ⊢;clear hls;obtain⟨N,hN⟩: ∃N,(aboveK k).length=N:=⟨_,rfl⟩;rw[hN]at hal2;have HN:=Lib.hid hN;have HLL:=Lib.hid hal2;have hNb:N≤3:=by omega
  clear hN hl4 hal2;go_enter Tryz.func23,Tryz.ntmps23;go_wp2_with fail;refine HOW2.out.mono ?_;rintro e w3 ⟨vm,vy,rfl,hvm,hvy,hB3⟩;have HM3:=Lib.hid (elS_below HM2.out hB3);have HY3:=Lib.hid (elS_below HY2.out hB3);have HB3:=Lib.hid (HB2.out.trans (hB3.mono HB2.out.size));have HVM:=Lib.hid hvm;have HVY:=Lib.hid hvy;have HAB2:=Lib.hid (HAB1.out w3);clear hB3 hvm hvy hW1 hW2 HM2 HY2 HB2 HAB1 HOW2;go_wp2_with fail;refine HAB2.out.mono ?_;rintro e w4 ⟨up,rfl,hup,hB4⟩;have HM4:=Lib.hid (elS_below HM3.out hB4);have HY4:=Lib.hid (elS_below HY3.out hB4);have HVM4:=Lib.hid (elem_below HVM.out hB4);have HVY4:=Lib.hid (elem_below HVY.out hB4);have HB4:=Lib.hid (HB3.out.trans (hB4.mono HB3.out.size));obtain⟨ua,uc,hue,huc,hus,_⟩:=hup;rw[HN.out]at hue huc;subst hue;have HUS:=Lib.hid hus;clear hB4 HM3 HY3 HVM HVY HB3 HAB2 hus;go_wp2_with fail;go_loopw [4,5,8,9,12] (fun mv yv av bv iv wr=> ∃i:Nat,i≤N+1∧iv= .int .i64 (i:Int)∧Hid (ElS wr mv (((ls.take i).flatMap ownMust).foldl putL []))∧Hid (ElS wr yv (((ls.take i).flatMap ownMay).foldl putL []))∧Hid (Sm (6*i) (((ls.take i).flatMap ownMust).foldl putL []))∧Hid (Sm (6*i) (((ls.take i).flatMap ownMay).foldl putL []))∧Hid (∀h:i<ls.length,ElemAt wr av ((ownMust ls[i]).map bs)∧ElemAt wr bv ((ownMay ls[i]).map bs))∧Hid (Below w4.heap.size w4 wr)) (fun _ _ _ _ iv _=>N+1- (intOf iv).toNat);case atStart=>exact⟨0,Nat.zero_le _,rfl,HM4,HY4,⟨Nat.le_refl _,fun x hx=>by cases hx⟩,⟨Nat.le_refl _,fun x hx=>by cases hx⟩,(fun h=>by obtain⟨h0,h1⟩:=HL0.out;rw[h1];exact⟨HVM4.out,HVY4.out⟩),Below.refl _ _⟩
  case round=>
   obtain⟨i,hi,rfl,hM,hY,hSM,hSY,hAB,hB⟩:=hrel;have hsz:=hB.out.size;by_cases hlt:i≤N
   ·have hlt':(i:Int)≤(N:Int):=(by omega);have hil:i<ls.length:=(by rw[HLL.out];omega);obtain⟨hA,hA2⟩:=hAB.out hil;have hki:=HLS13.out ls[i] (List.getElem_mem _);have HSTM:=Lib.hid (puts_line (f:=ownMust) hil);have HSTY:=Lib.hid (puts_line (f:=ownMay) hil);obtain⟨os1,os2,os3,os4⟩:=own_small ⟨ls[i],hki⟩;have HNX:Hid (∀h2:i<N,∃ (h1:i<(aboveK k).length) (h3:i+1<ls.length),(aboveK k)[i]=(clsA ls[i+1]).name∧ls[i+1]<13):=fun h2=>by have h1:i<(aboveK k).length:=(by rw[HN.out];exact h2);have h3:i+1<ls.length:=(by rw[HLL.out];omega);exact⟨h1,h3,HAG.out i h1 h3,HLS13.out _ (List.getElem_mem _)⟩
    simp only at os1 os2 os3 os4;obtain⟨AM,hAM⟩: ∃A,ownMust ls[i]=A:=⟨_,rfl⟩;obtain⟨AY,hAY⟩: ∃A,ownMay ls[i]=A:=⟨_,rfl⟩;rw[hAM]at hA HSTM os1 os3;rw[hAY]at hA2 HSTY os2 os4;obtain⟨M0,hM0⟩: ∃M,((ls.take i).flatMap ownMust).foldl putL []=M:=⟨_,rfl⟩;obtain⟨Y0,hY0⟩: ∃M,((ls.take i).flatMap ownMay).foldl putL []=M:=⟨_,rfl⟩;rw[hM0]at hM hSM HSTM;rw[hY0]at hY hSY HSTY;obtain⟨xa,na,ca,rfl,hna,hca,hsa⟩:=elem_form hA;obtain⟨xb,nb,cb,rfl,hnb,hcb,hsb⟩:=elem_form hA2;have hna2:=hna.out;have hnb2:=hnb.out;rw[List.length_map]at hna2 hnb2;have naE:=Lib.hid hna2;have nbE:=Lib.hid hnb2;have HSA:=Lib.hid hsa;have HSB:=Lib.hid hsb;have AMS:=Lib.hid os3;have AYS:=Lib.hid os4;have HBr:=hB;have HUr:=Lib.hid (strs_below HUS.out hB.out);have hna6:na≤6:=(by omega);have hnb6:nb≤6:=(by omega);clear hA hA2 hAB hki os3 os4 hAM hAY hM0 hY0 hna hnb hsa hsb hna2 hnb2 os1 os2 hB HM4 HY4 HVM4 HVY4;go_wp2_with fail;obtain⟨w5,hw5⟩: ∃W,wr=W:=⟨_,rfl⟩;rw[hw5]at hM hY HBr HUr HSA HSB ⊢;clear hw5;go_loopw [4,13] (fun mv jv wi=> ∃j:Nat,j≤na∧jv= .int .i64 (j:Int)∧Hid (ElS wi mv ((AM.take j).foldl putL M0))∧Hid (Sm (6*i+j) ((AM.take j).foldl putL M0))∧Hid (Below w5.heap.size w5 wi)) (fun _ jv _=>na- (intOf jv).toNat);case' atStart=>exact⟨0,Nat.zero_le _,rfl,hM,hSM,Below.refl _ _⟩
    case' round=>
     obtain⟨j,hj,rfl,hm,hs,hBj⟩:=hrel;by_cases hjt:j<na
     ·have hjt':(j:Int)<(na:Int):=(by omega);have hjl:j<AM.length:=(by rw[←naE.out];exact hjt);obtain⟨b,o,hao,hc⟩:=(strs_below HSA.out hBj.out) j (by rw[List.length_map];exact hjl);subst hao;rw[List.getElem_map]at hc;have hss:=AMS.out AM[j] (List.getElem_mem _);have HST:=Lib.hid (putsM_step (M:=M0) hjl);obtain⟨s,hs0⟩: ∃s,AM[j]=s:=⟨_,rfl⟩;rw[hs0]at hc hss HST;have hsm:=hs.out;have HPU:=Lib.hid (put_any _ _ s wr hm (by have:=hsm.1;omega) (by omega) (Lib.hid fun x hx=>Nat.le_trans (hsm.2 x hx) (by decide)));have HSM2:Hid (Sm (6*i+(j+1)) ((AM.take (j+1)).foldl putL M0)):=(by show Sm _ _;rw[HST.out];exact sm_put hsm hss);clear hs0 hsm;go_wp2_with fail;refine HPU.out.mono ?_;rintro e w9 ⟨v9,rfl,hv9,hB9,_⟩;have HV9:Hid (ElS w9 v9 ((AM.take (j+1)).foldl putL M0)):=(by show ElS _ _ _;rw[HST.out];exact hv9);have HB9:=Lib.hid (hBj.out.trans (hB9.mono hBj.out.size));clear hB9 hv9 hc HPU;go_wp2_with fail;go_roundw;case rel=>exact⟨j+1,by omega,by go_num,HV9,HSM2,HB9⟩
      case measure=>simp[intOf];omega
     ·obtain rfl:na=j:=(by omega);have hm2:=hm.out;have hs2:=hs.out;rw[naE.out,List.take_length]at hm2 hs2;have HM6:=Lib.hid hm2;have HSM6:=Lib.hid (sm_le hs2 (show 6*i+AM.length≤6*(i+1)by have:=naE.out;omega));have HY6:=Lib.hid (elS_below hY.out hBj.out);have HB6:=Lib.hid (HBr.out.trans (hBj.out.mono HBr.out.size));have HUS6:=Lib.hid (strs_below HUr.out hBj.out);have HSB2:=Lib.hid (strs_below HSB.out hBj.out);clear hm2 hs2 hm hs hBj hM hY HSA HSB HUr HBr hSM;go_wp2_with fail;obtain⟨w6,hw6⟩: ∃W,wr=W:=⟨_,rfl⟩;rw[hw6]at HM6 HY6 HB6 HUS6 HSB2 ⊢;clear hw6;go_loopw [5,14] (fun mv jv wi=> ∃j:Nat,j≤nb∧jv= .int .i64 (j:Int)∧Hid (ElS wi mv ((AY.take j).foldl putL Y0))∧Hid (Sm (6*i+j) ((AY.take j).foldl putL Y0))∧Hid (Below w6.heap.size w6 wi)) (fun _ jv _=>nb- (intOf jv).toNat);case' atStart=>exact⟨0,Nat.zero_le _,rfl,HY6,hSY,Below.refl _ _⟩
      case' round=>
       obtain⟨j,hj,rfl,hm,hs,hBj⟩:=hrel;by_cases hjt:j<nb
       ·have hjt':(j:Int)<(nb:Int):=(by omega);have hjl:j<AY.length:=(by rw[←nbE.out];exact hjt);obtain⟨b,o,hao,hc⟩:=(strs_below HSB2.out hBj.out) j (by rw[List.length_map];exact hjl);subst hao;rw[List.getElem_map]at hc;have hss:=AYS.out AY[j] (List.getElem_mem _);have HST:=Lib.hid (putsM_step (M:=Y0) hjl);obtain⟨s,hs0⟩: ∃s,AY[j]=s:=⟨_,rfl⟩;rw[hs0]at hc hss HST;have hsm:=hs.out;have HPU:=Lib.hid (put_any _ _ s wr hm (by have:=hsm.1;omega) (by omega) (Lib.hid fun x hx=>Nat.le_trans (hsm.2 x hx) (by decide)));have HSM2:Hid (Sm (6*i+(j+1)) ((AY.take (j+1)).foldl putL Y0)):=(by show Sm _ _;rw[HST.out];exact sm_put hsm hss);clear hs0 hsm;go_wp2_with fail;refine HPU.out.mono ?_;rintro e w9 ⟨v9,rfl,hv9,hB9,_⟩;have HV9:Hid (ElS w9 v9 ((AY.take (j+1)).foldl putL Y0)):=(by show ElS _ _ _;rw[HST.out];exact hv9);have HB9:=Lib.hid (hBj.out.trans (hB9.mono hBj.out.size));clear hB9 hv9 hc HPU;go_wp2_with fail;go_roundw;case rel=>exact⟨j+1,by omega,by go_num,HV9,HSM2,HB9⟩
        case measure=>simp[intOf];omega
       ·obtain rfl:nb=j:=(by omega);have hm2:=hm.out;have hs2:=hs.out;rw[nbE.out,List.take_length]at hm2 hs2;have HY7:=Lib.hid hm2;have HSY7:=Lib.hid (sm_le hs2 (show 6*i+AY.length≤6*(i+1)by have:=nbE.out;omega));have HM7:=Lib.hid (elS_below HM6.out hBj.out);have HB7:=Lib.hid (HB6.out.trans (hBj.out.mono HB6.out.size));have HUS7:=Lib.hid (strs_below HUS6.out hBj.out);rw[←HSTM.out]at HM7 HSM6;rw[←HSTY.out]at HY7 HSY7;clear hm2 hs2 hm hs hBj HM6 HY6 HB6 HUS6 HSB2 hSY;by_cases hiN:i<N
        ·have hiN':(i:Int)<(N:Int):=(by omega);obtain⟨h1,h3,h5,h6⟩:=HNX.out hiN;obtain⟨b,o,hao,hc⟩:=HUS7.out i (by rw[List.length_map];exact h1);subst hao;rw[List.getElem_map,h5]at hc;have hix:=idx_name ⟨ls[i+1],h6⟩;simp only at hix;have HOW9:Hid (Calls Tryz.prog 22 #[.string (bs (clsA ls[i+1]).name)] wr fun e w'=> ∃u1 u2 vm vy,e= .returned (.tuple #[u1,u2,vm,vy,.bool true])∧ElemAt w' vm ((ownMust ls[i+1]).map bs)∧ElemAt w' vy ((ownMay ls[i+1]).map bs)∧Below wr.heap.size wr w'):=(by have:=own_any (bs (clsA ls[i+1]).name) wr;rw[show(bs (clsA ls[i+1]).name).data.toList=(clsA ls[i+1]).name from rfl,hix]at this;exact this.mono fun e w' ⟨vm,vy,he,h1,h2,h3⟩=>⟨_,_,vm,vy,he,h1,h2,h3⟩);clear hix h5;go_wp2_with fail;refine HOW9.out.mono ?_;rintro e w9 ⟨q1,q2,vm9,vy9,rfl,hm9,hy9,hB9⟩;have HB9:=Lib.hid (HB7.out.trans (hB9.mono HB7.out.size));have HM9:=Lib.hid (elS_below HM7.out hB9);have HY9:=Lib.hid (elS_below HY7.out hB9);have HAB9:Hid (∀h:i+1<ls.length,ElemAt w9 vm9 ((ownMust ls[i+1]).map bs)∧ElemAt w9 vy9 ((ownMay ls[i+1]).map bs)):=fun _=>⟨hm9,hy9⟩;clear hB9 hm9 hy9 hc HOW9;go_wp2_with fail;go_roundw;case rel=>exact⟨i+1,by omega,by go_num,HM9,HY9,HSM6,HSY7,HAB9,HB9⟩
         case measure=>simp[intOf];omega
        ·have HAB9:Hid (∀h:i+1<ls.length,ElemAt wr (.slice xa na ca) ((ownMust ls[i+1]).map bs)∧ElemAt wr (.slice xb nb cb) ((ownMay ls[i+1]).map bs)):=fun h=>absurd h (by rw[HLL.out];omega);go_wp2_with fail;go_roundw;case rel=>exact⟨i+1,by omega,by go_num,HM7,HY7,HSM6,HSY7,HAB9,HB7⟩
         case measure=>simp[intOf];omega
   ·obtain rfl:i=N+1:=(by omega);have hM2:=hM.out;have hY2:=hY.out;rw[←HLL.out,List.take_length]at hM2 hY2;have HM9:=Lib.hid hM2;have HY9:=Lib.hid hY2;have HB9:=Lib.hid (HB4.out.trans (hB.out.mono HB4.out.size));clear hM2 hY2;go_wp2_with fail;go_ret2;exact⟨_,_,rfl,HM9.out,HY9.out,HB9.out⟩
end scw
open Go.RowKit
namespace same
open tupw
theorem str_ne {x y:ByteArray}(h: ¬x=y):(x.toList==y.toList)=false:=by rw[beq_eq_false_iff_ne];intro e;exact h (kt.str_eq (by rw[←Lib.toList_data,←Lib.toList_data,e]))
theorem take_next {l m:List ByteArray}{i:Nat}(h1:i<l.length)(h2:i<m.length)(h:l.take i=m.take i)(he:l[i]=m[i]):l.take (i+1)=m.take (i+1):=by rw[List.take_succ_eq_append_getElem h1,List.take_succ_eq_append_getElem h2,h,he]
theorem ne_at {l m:List ByteArray}{i:Nat}(h1:i<l.length)(h2:i<m.length)(he: ¬l[i]=m[i]): ¬l=m:=by rintro rfl;exact he rfl
theorem below_drewN {B:Nat}{a b:World}(h:Below B a b)(n:Nat):Below B a (b.drewN n):=⟨h.os,h.tape,h.output,h.size,h.block⟩
theorem same_any (a1 a2:Option Addr)(c1 c2:Nat)(l m:List ByteArray)(w:World)(h1:Hid (Strs w a1 l))(h2:Hid (Strs w a2 m))(hm:m.length≤1100000):
  Calls Tryz.prog 26 #[.slice a1 l.length c1,.slice a2 m.length c2] w fun e w'=>e= .returned (.bool (decide (l=m)))∧Below w.heap.size w w':=by
 by_cases hl:l.length=m.length
 ·rw[hl];go_enter Tryz.func26,Tryz.ntmps26;go_wp2_with fail;go_loopw [5] (fun iv wr=> ∃i:Nat,i≤m.length∧iv= .int .i64 i∧Hid (l.take i=m.take i)∧Below w.heap.size w wr) (fun iv _=>m.length- (intOf iv).toNat);case atStart=>exact⟨0,Nat.zero_le _,rfl,by show _=_;simp,Below.refl _ _⟩
  case round=>
   obtain⟨i,hi,rfl,hE,hB⟩:=hrel;by_cases c:i<m.length
   ·have c':(i:Int)<(m.length:Int):=(by omega);have cl:i<l.length:=(by omega);have hcc:=Lib.hid c;obtain⟨b1,o1,e1,f1⟩:=h1.out i cl;obtain⟨b2,o2,e2,f2⟩:=h2.out i c;have g1:=(hB.cell (World.block_lt_of_cell? w _ f1)).trans f1;have g2:=(hB.cell (World.block_lt_of_cell? w _ f2)).trans f2;obtain⟨x,hx⟩: ∃x:ByteArray,Hid (x=l[i]'cl):=⟨l[i]'cl,rfl⟩;obtain⟨y,hy⟩: ∃y:ByteArray,Hid (y=m[i]'c):=⟨m[i]'c,rfl⟩;rw[←hx.out]at g1;rw[←hy.out]at g2;clear f1 f2;subst e1 e2;by_cases hxy:x=y
    ·have hn:Hid (l.take (i+1)=m.take (i+1)):=take_next cl c hE.out (by rw[←hx.out,←hy.out,hxy]);subst hxy;go_wp2_with fail;go_quiet (fail);go_wp2_with fail;go_roundw;case rel=>exact⟨i+1,hcc.out,by go_num,hn,below_drewN hB nq⟩
     case measure=>have:=hcc.out;simp[intOf];omega
    ·have hr:decide (l=m)=false:=(by rw[decide_eq_false_iff_not];exact ne_at cl c (by rw[←hx.out,←hy.out];exact hxy));have HR:=Lib.hid hr;have hne:=str_ne hxy;clear hr hxy;go_wp2_with fail;go_quiet (fail);go_wp2_with fail;go_ret;exact⟨by rw[HR.out];rfl,below_drewN hB nq⟩
   ·obtain rfl:i=m.length:=(by omega);have c': ¬ (m.length:Int)<(m.length:Int):=(by omega);have hr:decide (l=m)=true:=(by rw[decide_eq_true_iff];have:=hE.out;rw[List.take_of_length_le (Nat.le_refl _),List.take_of_length_le (by omega)]at this;exact this);have HR:=Lib.hid hr;clear hr;go_wp2_with fail;go_ret;exact⟨by rw[HR.out];rfl,hB⟩
 ·have hr:decide (l=m)=false:=by rw[decide_eq_false_iff_not];rintro rfl;exact hl rfl
  have HR:=Lib.hid hr;have hl':((l.length:Int)==(m.length:Int))=false:=by rw[beq_eq_false_iff_ne];omega
  clear hr hl;go_enter Tryz.func26,Tryz.ntmps26;go_wp2_with fail;go_ret;exact⟨by rw[HR.out];rfl,Below.refl _ _⟩
end same
open Go.RowKit
namespace scw
open scp atp atw etp etw
open tupw (Strs strs_below)
theorem sameE_any {w:World}{x y:Value}{l:List T}(h1:ElemAt w x (l.map bs))(h2:ElemAt w y (l.map bs))(hl:l.length≤1000000):
  Calls Tryz.prog 26 #[x,y] w fun e w'=>e= .returned (.bool true)∧Below w.heap.size w w':=by
 obtain⟨a,c,rfl,_,hs⟩:=h1;obtain⟨a2,c2,rfl,_,hs2⟩:=h2;have:=same.same_any a a2 c c2 (l.map bs) (l.map bs) w (Lib.hid hs) (Lib.hid hs2) (by rw[List.length_map];omega);refine this.mono fun e w' ⟨he,hb⟩=>⟨?_,hb⟩;rw[he];congr 2;exact decide_eq_true rfl
theorem small18_any (s:ByteArray)(w:World)(hs:s.size≤10000000):Calls Tryz.prog 21 #[.string s] w fun e w'=>e= .returned (.string (bs (sml.lowL s.data.toList)))∧Below w.heap.size w w':=by have HS:Hid (Calls Tryz.prog 80 #[.string s] w fun e w'=>e= .returned (.string (bs (sml.lowL s.data.toList)))∧Below w.heap.size w w'):=sml.small_any s w hs;generalize bs (sml.lowL s.data.toList)=r at HS ⊢;go_enter Tryz.func21,Tryz.ntmps21;go_wp2_with fail;refine HS.out.mono ?_;rintro e w1 ⟨rfl,hB⟩;have HB:=Lib.hid hB;clear hB;go_wp2_with fail;go_ret;exact⟨rfl,HB.out⟩
theorem mustN_small (n:T):(mustN n).length≤10∧(mayN n).length≤20:=by
 unfold mustN mayN;cases h:idx n with
 | none=>exact⟨Nat.zero_le _,Nat.zero_le _⟩
 | some k=>exact must_len ⟨k,idx_lt h⟩
theorem aboveN_small (n:T):(aboveN n).length≤3:=by rw[aboveN_rest];exact above_len3 _ fun k h=>idx_lt h
theorem sclasses_law (n:ByteArray)(w:World)(hE:Hid (EnvE w)):
  Calls Tryz.prog 5 #[.string n] w fun e w'=>e= .returned (.bool true)∧Below w.heap.size w w':=by
 have HAW:=Lib.hid (sawake_any w hE);by_cases hn:600<n.size
 ·have hn':(600:Int)<(n.size:Int):=by omega
  clear hn;go_enter Tryz.func5,Tryz.ntmps5;go_wp2_with fail;refine HAW.out.mono ?_;rintro e w1 ⟨rfl,hB1⟩;have HB1:=Lib.hid hB1;clear hB1;go_wp2_with fail;go_ret;exact⟨rfl,HB1.out⟩
 ·have hn': ¬ (600:Int)<(n.size:Int):=by omega
  have hns:n.size≤10000000:=by omega
  obtain⟨nl,hnl⟩: ∃nl,sml.lowL n.data.toList=nl:=⟨_,rfl⟩;have HSM:Hid (∀W,Calls Tryz.prog 21 #[.string n] W fun e w'=>e= .returned (.string (bs nl))∧Below W.heap.size W w'):=fun W=>by rw[←hnl];exact small18_any n W hns
  have HOW:Hid (∀W,Calls Tryz.prog 22 #[.string (bs nl)] W fun e w'=> ∃u1 u2 u3 u4,e= .returned (.tuple #[u1,u2,u3,u4,.bool (idx nl).isSome])∧Below W.heap.size W w'):=fun W=>(own_any (bs nl) W).mono fun e w' ⟨vm,vy,he,_,_,hb⟩=>⟨_,_,vm,vy,he,hb⟩;have HSE:Hid (∀W,Calls Tryz.prog 23 #[.string (bs nl)] W fun e w'=> ∃vm vy,e= .returned (.tuple #[vm,vy])∧ElemAt w' vm ((mustN nl).map bs)∧ElemAt w' vy ((mayN nl).map bs)∧Below W.heap.size W w'):=fun W=>(sets_any (bs nl) W).mono fun e w' ⟨vm,vy,he,h1,h2,hb⟩=>⟨vm,vy,he,elS_elem h1,elS_elem h2,hb⟩;have HAB:Hid (∀W,Calls Tryz.prog 24 #[.string (bs nl)] W fun e w'=> ∃v,e= .returned v∧ElemAt w' v ((aboveN nl).map bs)∧Below W.heap.size W w'):=fun W=>(above_any (bs nl) W).mono fun e w' ⟨v,he,h1,hb⟩=>⟨v,he,elS_elem h1,hb⟩;have HCL:Hid (∀W,Calls Tryz.prog 25 #[.string n] W fun e w'=>e= .returned (.bool (idx nl).isSome)∧Below W.heap.size W w'):=fun W=>by rw[←hnl];exact sclass_any n W hns
  have HMU:Hid (∀W,Calls Tryz.prog 27 #[.string n] W fun e w'=> ∃v,e= .returned v∧ElemAt w' v ((mustN nl).map bs)∧Below W.heap.size W w'):=fun W=>by rw[←hnl];exact(smust_any n W hns).mono fun e w' ⟨v,he,h1,hb⟩=>⟨v,he,ownS_elem h1,hb⟩
  have HMY:Hid (∀W,Calls Tryz.prog 28 #[.string n] W fun e w'=> ∃v,e= .returned v∧ElemAt w' v ((mayN nl).map bs)∧Below W.heap.size W w'):=fun W=>by rw[←hnl];exact(smay_any n W hns).mono fun e w' ⟨v,he,h1,hb⟩=>⟨v,he,ownS_elem h1,hb⟩
  have HAV:Hid (∀W,Calls Tryz.prog 29 #[.string n] W fun e w'=> ∃v,e= .returned v∧ElemAt w' v ((aboveN nl).map bs)∧Below W.heap.size W w'):=fun W=>by rw[←hnl];exact(sabove_any n W hns).mono fun e w' ⟨v,he,h1,hb⟩=>⟨v,he,ownS_elem h1,hb⟩
  have hms:=mustN_small nl;have has_:=aboveN_small nl;have HS1:Hid (∀x y W,ElemAt W x ((mustN nl).map bs)→ElemAt W y ((mustN nl).map bs)→Calls Tryz.prog 26 #[x,y] W fun e w'=>e= .returned (.bool true)∧Below W.heap.size W w'):=fun x y W h1 h2=>sameE_any h1 h2 (by omega);have HS2:Hid (∀x y W,ElemAt W x ((mayN nl).map bs)→ElemAt W y ((mayN nl).map bs)→Calls Tryz.prog 26 #[x,y] W fun e w'=>e= .returned (.bool true)∧Below W.heap.size W w'):=fun x y W h1 h2=>sameE_any h1 h2 (by omega);have HS3:Hid (∀x y W,ElemAt W x ((aboveN nl).map bs)→ElemAt W y ((aboveN nl).map bs)→Calls Tryz.prog 26 #[x,y] W fun e w'=>e= .returned (.bool true)∧Below W.heap.size W w'):=fun x y W h1 h2=>sameE_any h1 h2 (by omega);have HAN:Hid ((idx nl).isSome=false→aboveN nl=[]):=fun h=>by
   unfold aboveN;cases hi:idx nl with
   | none=>rfl
   | some k=>rw[hi]at h;cases h
  generalize(idx nl).isSome=ok at HOW HCL HAN;generalize mustN nl=lm at HSE HMU HS1;generalize mayN nl=ly at HSE HMY HS2;generalize aboveN nl=la at HAB HAV HS3 HAN;generalize bs nl=nb at HSM HOW HSE HAB;clear hn hns hnl hms has_;go_enter Tryz.func5,Tryz.ntmps5;go_wp2_with fail;refine HAW.out.mono ?_;rintro e w1 ⟨rfl,hB1⟩;have HB1:=Lib.hid hB1;have HSM1:=Lib.hid (HSM.out w1);clear hB1 HAW HSM;go_wp2_with fail;refine HSM1.out.mono ?_;rintro e w2 ⟨rfl,hB2⟩;have HB2:=Lib.hid (HB1.out.trans (hB2.mono HB1.out.size));have HOW2:=Lib.hid (HOW.out w2);clear hB2 HSM1 HOW;go_wp2_with fail;refine HOW2.out.mono ?_;rintro e w3 ⟨u1,u2,u3,u4,rfl,hB3⟩;have HB3:=Lib.hid (HB2.out.trans (hB3.mono HB2.out.size));have HSE3:=Lib.hid (HSE.out w3);clear hB3 HOW2 HSE;go_wp2_with fail;refine HSE3.out.mono ?_;rintro e w4 ⟨vm,vy,rfl,hm,hy,hB4⟩;obtain⟨W5,hW5⟩: ∃W,w4.alloc (.cells #[] 9)=W:=⟨_,rfl⟩;have hB5:Below w4.heap.size w4 W5:=by rw[←hW5];exact(Below.refl _ _).alloc (Nat.le_refl _) _
  have HE5:Hid (ElemAt W5 (.slice (some ⟨w4.heap.size,0,none⟩) 0 0) []):=by rw[←hW5];exact own_elem (own_empty w4 w4.heap.size (Nat.le_refl _))
  have HM5:=Lib.hid (elem_below hm hB5);have HY5:=Lib.hid (elem_below hy hB5);have HB5:=Lib.hid (HB3.out.trans ((hB4.trans (hB5.mono hB4.size)).mono HB3.out.size));clear hB4 hB5 hm hy HSE3;cases ok with
  | true=>have HAB5:=Lib.hid (HAB.out W5);go_wp2_with fail;clear hW5;refine HAB5.out.mono ?_;rintro e w6 ⟨va,rfl,ha,hB6⟩;have HA6:=Lib.hid ha;have HM6:=Lib.hid (elem_below HM5.out hB6);have HY6:=Lib.hid (elem_below HY5.out hB6);have HB6:=Lib.hid (HB5.out.trans (hB6.mono HB5.out.size));clear hB6 ha HAB5 HAB HM5 HY5 HB5 HE5;have HX:=Lib.hid (HCL.out w6);go_wp2_with fail;refine HX.out.mono ?_;rintro e w7 ⟨rfl,hB7⟩;have HM7:=Lib.hid (elem_below HM6.out hB7);have HY7:=Lib.hid (elem_below HY6.out hB7);have HA7:=Lib.hid (elem_below HA6.out hB7);have HB7:=Lib.hid (HB6.out.trans (hB7.mono HB6.out.size));clear hB7 HX;have HX:=Lib.hid (HMU.out w7);go_wp2_with fail;refine HX.out.mono ?_;rintro e w8 ⟨vx,rfl,hx,hB8⟩;have HM8:=Lib.hid (elem_below HM7.out hB8);have HY8:=Lib.hid (elem_below HY7.out hB8);have HA8:=Lib.hid (elem_below HA7.out hB8);have HB8:=Lib.hid (HB7.out.trans (hB8.mono HB7.out.size));have HZ:=Lib.hid (HS1.out _ _ _ hx HM8.out);clear hB8 HX hx;go_wp2_with fail;refine HZ.out.mono ?_;rintro e w9 ⟨rfl,hB9⟩;have HM9:=Lib.hid (elem_below HM8.out hB9);have HY9:=Lib.hid (elem_below HY8.out hB9);have HA9:=Lib.hid (elem_below HA8.out hB9);have HB9:=Lib.hid (HB8.out.trans (hB9.mono HB8.out.size));clear hB9 HZ;have HX:=Lib.hid (HMY.out w9);go_wp2_with fail;refine HX.out.mono ?_;rintro e w10 ⟨vx,rfl,hx,hB10⟩;have HM10:=Lib.hid (elem_below HM9.out hB10);have HY10:=Lib.hid (elem_below HY9.out hB10);have HA10:=Lib.hid (elem_below HA9.out hB10);have HB10:=Lib.hid (HB9.out.trans (hB10.mono HB9.out.size));have HZ:=Lib.hid (HS2.out _ _ _ hx HY10.out);clear hB10 HX hx;go_wp2_with fail;refine HZ.out.mono ?_;rintro e w11 ⟨rfl,hB11⟩;have HM11:=Lib.hid (elem_below HM10.out hB11);have HY11:=Lib.hid (elem_below HY10.out hB11);have HA11:=Lib.hid (elem_below HA10.out hB11);have HB11:=Lib.hid (HB10.out.trans (hB11.mono HB10.out.size));clear hB11 HZ;have HX:=Lib.hid (HAV.out w11);go_wp2_with fail;refine HX.out.mono ?_;rintro e w12 ⟨vx,rfl,hx,hB12⟩;have HM12:=Lib.hid (elem_below HM11.out hB12);have HY12:=Lib.hid (elem_below HY11.out hB12);have HA12:=Lib.hid (elem_below HA11.out hB12);have HB12:=Lib.hid (HB11.out.trans (hB12.mono HB11.out.size));have HZ:=Lib.hid (HS3.out _ _ _ hx HA12.out);clear hB12 HX hx;go_wp2_with fail;refine HZ.out.mono ?_;rintro e w13 ⟨rfl,hB13⟩;have HM13:=Lib.hid (elem_below HM12.out hB13);have HY13:=Lib.hid (elem_below HY12.out hB13);have HA13:=Lib.hid (elem_below HA12.out hB13);have HB13:=Lib.hid (HB12.out.trans (hB13.mono HB12.out.size));clear hB13 HZ;go_wp2_with fail;go_ret;exact⟨rfl,HB13.out⟩
  | false=>have HXX:=Lib.hid (HCL.out W5);go_wp2_with fail;clear hW5 HXX;have HA6:Hid (ElemAt W5 (.slice (some ⟨w4.heap.size,0,none⟩) 0 0) (la.map bs)):=(by rw[HAN.out trivial];exact HE5.out);obtain⟨va,hva⟩: ∃v,Value.slice (some ⟨w4.heap.size,0,none⟩) 0 0=v:=⟨_,rfl⟩;obtain⟨w6,hw6⟩: ∃W,W5=W:=⟨_,rfl⟩;rw[hva]at HA6 ⊢;rw[hw6]at HA6 HM5 HY5 HB5 ⊢;have HM6:=HM5;have HY6:=HY5;have HB6:=HB5;clear hva hw6 HAB HM5 HY5 HB5 HE5;have HX:=Lib.hid (HCL.out w6);go_wp2_with fail;refine HX.out.mono ?_;rintro e w7 ⟨rfl,hB7⟩;have HM7:=Lib.hid (elem_below HM6.out hB7);have HY7:=Lib.hid (elem_below HY6.out hB7);have HA7:=Lib.hid (elem_below HA6.out hB7);have HB7:=Lib.hid (HB6.out.trans (hB7.mono HB6.out.size));clear hB7 HX;have HX:=Lib.hid (HMU.out w7);go_wp2_with fail;refine HX.out.mono ?_;rintro e w8 ⟨vx,rfl,hx,hB8⟩;have HM8:=Lib.hid (elem_below HM7.out hB8);have HY8:=Lib.hid (elem_below HY7.out hB8);have HA8:=Lib.hid (elem_below HA7.out hB8);have HB8:=Lib.hid (HB7.out.trans (hB8.mono HB7.out.size));have HZ:=Lib.hid (HS1.out _ _ _ hx HM8.out);clear hB8 HX hx;go_wp2_with fail;refine HZ.out.mono ?_;rintro e w9 ⟨rfl,hB9⟩;have HM9:=Lib.hid (elem_below HM8.out hB9);have HY9:=Lib.hid (elem_below HY8.out hB9);have HA9:=Lib.hid (elem_below HA8.out hB9);have HB9:=Lib.hid (HB8.out.trans (hB9.mono HB8.out.size));clear hB9 HZ;have HX:=Lib.hid (HMY.out w9);go_wp2_with fail;refine HX.out.mono ?_;rintro e w10 ⟨vx,rfl,hx,hB10⟩;have HM10:=Lib.hid (elem_below HM9.out hB10);have HY10:=Lib.hid (elem_below HY9.out hB10);have HA10:=Lib.hid (elem_below HA9.out hB10);have HB10:=Lib.hid (HB9.out.trans (hB10.mono HB9.out.size));have HZ:=Lib.hid (HS2.out _ _ _ hx HY10.out);clear hB10 HX hx;go_wp2_with fail;refine HZ.out.mono ?_;rintro e w11 ⟨rfl,hB11⟩;have HM11:=Lib.hid (elem_below HM10.out hB11);have HY11:=Lib.hid (elem_below HY10.out hB11);have HA11:=Lib.hid (elem_below HA10.out hB11);have HB11:=Lib.hid (HB10.out.trans (hB11.mono HB10.out.size));clear hB11 HZ;have HX:=Lib.hid (HAV.out w11);go_wp2_with fail;refine HX.out.mono ?_;rintro e w12 ⟨vx,rfl,hx,hB12⟩;have HM12:=Lib.hid (elem_below HM11.out hB12);have HY12:=Lib.hid (elem_below HY11.out hB12);have HA12:=Lib.hid (elem_below HA11.out hB12);have HB12:=Lib.hid (HB11.out.trans (hB12.mono HB11.out.size));have HZ:=Lib.hid (HS3.out _ _ _ hx HA12.out);clear hB12 HX hx;go_wp2_with fail;refine HZ.out.mono ?_;rintro e w13 ⟨rfl,hB13⟩;have HM13:=Lib.hid (elem_below HM12.out hB13);have HY13:=Lib.hid (elem_below HY12.out hB13);have HA13:=Lib.hid (elem_below HA12.out hB13);have HB13:=Lib.hid (HB12.out.trans (hB13.mono HB12.out.size));clear hB13 HZ;go_wp2_with fail;go_ret;exact⟨rfl,HB13.out⟩
end scw
open Go.RowKit
namespace atw
open atp
def tyData:DataW Unit:= .agg (tys.map fun t=> .agg [.lit (.string t.name),.lit (.int .i64 t.syn),.lit (.bool t.single)])
theorem rows_take {α β:Type}(f:β→List α)(n:Nat): ∀ (l:List β) (cs:List α),(∀i (h:i<l.length),(cs.drop (i*n)).take n=f l[i])→cs.take (l.length*n)=l.flatMap f:=by
 intro l;induction l with
 | nil=>intro cs _;simp
 | cons b r ih=>intro cs h;have h0:=h 0 (by simp);rw[Nat.zero_mul,List.drop_zero]at h0;have h1:=ih (cs.drop n) (by intro i hi;have:=h (i+1) (by simp;omega);rw[List.drop_drop,show n+i*n=(i+1)*n by rw[Nat.add_mul,Nat.one_mul,Nat.add_comm]];exact this);rw[List.flatMap_cons,List.length_cons,show(r.length+1)*n=n+r.length*n by rw[Nat.add_mul,Nat.one_mul,Nat.add_comm],List.take_add,h0,h1];rfl
theorem trod_ty {H:Type}{enc:TypeId × Value→H}{w:World}{base:Nat}{sp:Nat→Bool}{held:Bool}{fuel:Nat}{cs:List Value}{q:List MemPlace}{t:Ty}
  (h:DataW.trod enc Tryz.prog w base sp held fuel 108 cs=some (.agg [.lit (.string t.name),.lit (.int .i64 t.syn),.lit (.bool t.single)],q)):cs=tval t:=by
 obtain⟨y0,y1,y2,n,hx,hl,h0,h1,h2⟩:=Deep.trod_struct3 Tryz.underlying108 h;obtain⟨s,e0,rfl,_⟩:=DataW.trod_string Tryz.underlying9 h0;obtain⟨z,e1,rfl,_⟩:=DataW.trod_int Tryz.underlying3 h1;obtain⟨b,e2,rfl⟩:=DataW.trod_bool Tryz.underlying4 h2;have hx1:=congrArg Prod.fst hx;simp only[DataW.agg.injEq,List.cons.injEq,DataW.lit.injEq,Lit.string.injEq,Lit.int.injEq,Lit.bool.injEq,true_and,and_true]at hx1;obtain⟨x0,x1,x2⟩:=hx1;have k0:Tryz.prog.cellsOf 9=1:=by kernel_rfl
 have k1:Tryz.prog.cellsOf 3=1:=by kernel_rfl
 have k2:Tryz.prog.cellsOf 4=1:=by kernel_rfl
 have k3:Tryz.prog.cellsOf 108=3:=by kernel_rfl
 rw[k3]at hl;obtain⟨a,b',c,rfl⟩: ∃a b' c,cs=[a,b',c]:=by
  match cs,hl with
  | [a,b',c],_=>exact⟨a,b',c,rfl⟩
 ·skip
  have e0':[a]=[Value.string s]:=by simpa[k0]using e0
  have e1':[b']=[Value.int .i64 z]:=by simpa[k1]using e1
  have e2':[c]=[Value.bool b]:=by simpa[k2]using e2
  cases e0';cases e1';cases e2';unfold tval bs;rw[x0,x1,x2]
theorem tyEnv_of_reads {w:World}(h:Lib.VarReads Tryz.prog w "rollbook/attr.types" tyData):Hid (TyEnv w):=by
 obtain⟨g,t,cs,fuel,p,hg,hty,hvar,hd⟩:=h;obtain rfl:=Option.some.inj ((show Tryz.prog.globalNamed "rollbook/attr.types" =some 0 by kernel_rfl).symm.trans hg);obtain rfl:=Option.some.inj ((show(Tryz.prog.globals[0]?).map (·.type)=some 169 by kernel_rfl).symm.trans hty);have k3:Tryz.prog.cellsOf 108=3:=by kernel_rfl
 have hall:=rows_take tval 3 tys cs.toList (by intro i hi;obtain⟨fuel',d,q,hdi,he⟩:=Lib.array_elem Tryz.underlying169 hd i hi;rw[List.getElem?_map,List.getElem?_eq_getElem hi]at hdi;simp only[Option.map_some,Option.some.injEq]at hdi;subst hdi;rw[k3]at he;exact trod_ty he);intro j v hj;have hlt:j<60:=by
  have h1:=(List.getElem?_eq_some_iff.1 hj).1;have h2:tcells.length=60:=by kernel_rfl
  omega
 have hj2:(cs.toList.take (tys.length*3))[j]? =some v:=by rw[hall];exact hj
 rw[List.getElem?_take,if_pos (by rw[tys_len];omega)]at hj2;rw[Nat.zero_add,World.var?_cell hg hvar j,←Array.getElem?_toList];exact hj2
end atw
end Go.Proofs.YtmnpfkbjpeaemaaGreatDoor
