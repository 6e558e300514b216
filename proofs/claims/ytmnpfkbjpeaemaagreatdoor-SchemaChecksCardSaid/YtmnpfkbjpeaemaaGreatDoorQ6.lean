/- One text out of several: ParseW, RefP, PrintQ, TupP, KeyP, Trim, TupW, DPrintW, KeyW, SchT, TakW, SchM, ParseV. -/
import Derived.Test.YtmnpfkbjpeaemaaGreatDoorQ5
import Derived.Lib.Replace
import Derived.Lib.CountLaws
import Derived.Test.YtmnpfkbjpeaemaaGreatDoorQ3
import Derived.Test.YtmnpfkbjpeaemaaGreatDoorQ2
import Derived.Sort.OwnSorted
import Derived.Test.YtmnpfkbjpeaemaaGreatDoorQ1
import Derived.OrdersHeld
import Derived.WalkKit
set_option linter.unusedVariables false
set_option linter.unusedSimpArgs false
set_option maxRecDepth 100000
set_option maxHeartbeats 8000000
namespace Go.Proofs.YtmnpfkbjpeaemaaGreatDoor
open Go.RowKit
namespace dnw
open dnp
def ParseE (s:ByteArray)(w:World)(e:Ending)(w':World):Prop:=
 Below w.heap.size w w'∧if 1000<s.size then e= .returned (.tuple #[.slice none 0 0,.int .i64 5])else match parseR s.data.toList with
  | none=>e= .returned (.tuple #[.slice none 0 0,.int .i64 4])
  | some n=> ∃ao cap,e= .returned (.tuple #[.slice ao n.length cap,.int .i64 0])∧n.length≤cap∧Rdns w' ao n∧ ∀l∈n,Smalls l
structure PRel (w wr:World)(s:ByteArray)(j0 j:Nat)(vn vl:Value)(ns:List (List Av))(cur:List Av)(vals:List Value):Prop where
 nest:Nest wr (w.heap.size+1) vn vl ns cur vals
 sc:Sc wr w.heap.size s j
 below:Below w.heap.size w wr
 gp:GP [] [] (s.data.toList.drop j0)=GP ns cur (s.data.toList.drop j)
 len:ns.length+cur.length≤j
 small:(∀l∈ns,Smalls l)∧Smalls cur
theorem below_gr {w wr w2:World}(h:Below w.heap.size w wr)(hg:wr.grownBy w2 (some w.heap.size)):Below w.heap.size w w2:=⟨hg.os.trans h.os,hg.tape.trans h.tape,hg.output.trans h.output,Nat.le_trans h.size hg.size,fun k hk=>(hg.block k (Nat.lt_of_lt_of_le hk h.size) (by intro e;cases e;omega)).trans (h.block k hk)⟩
theorem prel_gr {w wr w2:World}{s:ByteArray}{j0 j:Nat}{vn vl:Value}{ns:List (List Av)}{cur:List Av}{vals:List Value}(h:PRel w wr s j0 j vn vl ns cur vals)(hg:wr.grownBy w2 (some w.heap.size)):Nest w2 (w.heap.size+1) vn vl ns cur vals∧Below w.heap.size w w2:=⟨nest_gr h.nest (by omega) hg,below_gr h.below hg⟩
theorem tabs_gr {w wr w2:World}(hT:Tabs w)(hb:Below w.heap.size w wr)(hg:wr.grownBy w2 (some w.heap.size)):Tabs w2:=tabs_below hT (below_gr hb hg)
theorem nest_letters {w:World}{B:Nat}{vn vl:Value}{ns:List (List Av)}{cur:List Av}{vals:List Value}(h:Nest w B vn vl ns cur vals):(∃ (ao:Option Addr) (m cap:Nat),vn= .slice ao m cap∧Hid (m=ns.length)∧m≤cap)∧(∃ (ao:Option Addr) (m cap:Nat),vl= .slice ao m cap∧Hid (m=cur.length)∧m≤cap):=by obtain⟨⟨a,c,h1,h2⟩,⟨a',c',h3,h4⟩⟩:=nest_form h;exact⟨⟨a,_,c,h1,rfl,h2⟩,⟨a',_,c',h3,rfl,h4⟩⟩
theorem prel_move {w w4:World}{s:ByteArray}{j0 j2:Nat}{vn vl:Value}{ns:List (List Av)}{cur:List Av}{vals:List Value}(hN:Nest w4 (w.heap.size+1) vn vl ns cur vals)(hS:Sc w4 w.heap.size s j2)(hB:Below w.heap.size w w4)
  (hg:GP [] [] (s.data.toList.drop j0)=GP ns cur (s.data.toList.drop (j2+1))) (hl:ns.length+cur.length≤j2+1) (hs:(∀l∈ns,Smalls l)∧Smalls cur):
  PRel w (w4.setCell ⟨w.heap.size,1,none⟩ (.int .i64 ((j2:Int)+1))) s j0 (j2+1) vn vl ns cur vals:=by
 have hgr:w4.grownBy (w4.setCell ⟨w.heap.size,1,none⟩ (.int .i64 ((j2:Int)+1))) (some w.heap.size):=gr_set0 (gr_refl _ _) _;exact⟨nest_gr hN (by omega) hgr,sc_inc0 hS,below_gr hB hgr,hg,hl,hs⟩
theorem parse_any (s:ByteArray)(w:World)(hs:s.size≤140737488351232)(hE:Hid (prw.Env w))(hT:Hid (Tabs w)):
  Calls Tryz.prog 94 #[.string s] w fun e w'=>ParseE s w e w':=by
 by_cases h1000:1000<s.size
 ·have h':1000<(s.size:Int):=by omega
  have H1:=Lib.hid h1000;go_enter Tryz.func94,Tryz.ntmps94;go_wp2_with fail;go_ret2;refine⟨Below.refl _ _,?_⟩;rw[if_pos H1.out];rfl
 ·have h': ¬1000<(s.size:Int):=by omega
  have H1:=Lib.hid h1000;have hs1:s.size≤1000:=by omega
  have HW1:Hid (Sc (w.alloc (.cells #[.string s,.int .i64 0] 187)) w.heap.size s 0):=heap_alloc_new w _;have CB:=Lib.hid (blanks_any w.heap.size s 0 _ HW1 (Nat.zero_le _) (by omega));have HB1:Hid (Below w.heap.size w (w.alloc (.cells #[.string s,.int .i64 0] 187))):=(Below.refl _ _).alloc (Nat.le_refl _) _;go_enter Tryz.func94,Tryz.ntmps94;go_wp2_with fail;refine CB.out.mono ?_;rintro e w1 ⟨rfl,j0,_,hj0,hD0,hS1,hG1⟩;have HD0:=Lib.hid hD0;have HS1:=Lib.hid hS1;have HBw:=Lib.hid (below_gr HB1.out hG1);obtain⟨c0,c1,f1,hb1⟩:=sc_cells hS1;clear hD0 hS1 hG1 CB HB1 HW1;by_cases hend:j0=s.size
  ·subst hend;go_wp2_with fail;go_ret2;refine⟨HBw.out,?_⟩;rw[if_neg H1.out];have e0:parseR s.data.toList=some []:=(by unfold parseR;rw[if_pos];have:=HD0.out;rw[drop_end]at this;exact this.symm);rw[e0];exact⟨none,0,rfl,Nat.le_refl _,fun i hi=>by simp at hi,fun l hl=>by simp at hl⟩
  ·have hne:((j0:Int)==(s.size:Int))=false:=(by rw[beq_eq_false_iff_ne];omega);have hj0l:j0<s.size:=(by omega);have HNO:Hid (∀w',Below w.heap.size w w'→GP [] [] (s.data.toList.drop j0)=none→ParseE s w (.returned (.tuple #[.slice none 0 0,.int .i64 4])) w'):=(by intro w' hb hg;refine⟨hb,?_⟩;rw[if_neg H1.out];have e0:parseR s.data.toList=none:=(by unfold parseR;have:=HD0.out;rw[List.drop_zero]at this;rw[←this,if_neg (prw.drop_ne hj0l),hg]);rw[e0]);have HYES:Hid (∀n,GP [] [] (s.data.toList.drop j0)=some n→parseR s.data.toList=if nameOK n=true then some n else none):=(by intro n hg;unfold parseR;have:=HD0.out;rw[List.drop_zero]at this;rw[←this,if_neg (prw.drop_ne hj0l),hg]);clear hend;have HR0:Hid (PRel w w1 s j0 j0 (.slice none 0 0) (.slice none 0 0) [] [] []):=⟨nest_nil _ _,HS1.out,HBw.out,rfl,Nat.zero_le _,fun l hl=>by simp at hl,fun x hx=>by simp at hx⟩;go_wp2_with fail;clear c0 c1 f1 hb1;go_loopw [5,6,7,8,9,10] (fun nv lv _ _ _ _ wr=> ∃ (j:Nat) (ns:List (List Av)) (cur:List Av) (vals:List Value),j0≤j∧j≤s.size∧Hid (PRel w wr s j0 j nv lv ns cur vals)) (fun _ _ _ _ _ _ wr=>s.size+1-posOf wr w.heap.size);case atStart=>exact⟨j0,[],[],[],Nat.le_refl _,hj0,HR0⟩
   case round=>
    obtain⟨j,ns,cur,vals,hj0j,hj,hR⟩:=hrel;obtain⟨⟨aoN,mN,capN,rfl,hmN,hcN⟩,⟨aoL,mL,capL,rfl,hmL,hcL⟩⟩:=nest_letters hR.out.nest;have HPOS:=Lib.hid (posOf_sc hR.out.sc);have CK:=kind_any w.heap.size s j wr (Lib.hid hR.out.sc) hj (by omega) (Lib.hid (tabs_below hT.out hR.out.below)) (Lib.hid (fun w' hg=>tabs_gr hT.out hR.out.below hg));cases hk:kindP (s.data.toList.drop j)with
    | none=>have HC:Hid (Calls Tryz.prog 156 #[.pointer (some ⟨w.heap.size,0,none⟩)] wr fun e w'=>wr.grownBy w' (some w.heap.size)∧ ∃j',e= .returned (.tuple #[.string ⟨#[]⟩,.bool false])∧Sc w' w.heap.size s j'):=(by refine CK.mono fun e w' h=> ?_;unfold KindE at h;rw[hk]at h;exact h);have HG:Hid (GP [] [] (s.data.toList.drop j0)=none):=hR.out.gp.trans (GP_kind hk);clear CK hk;go_wp2_with fail;refine HC.out.mono ?_;rintro e w2 ⟨hg2,j',rfl,_⟩;go_wp2_with fail;go_ret2;exact HNO.out _ (below_gr hR.out.below hg2) HG.out
    | some kr=>
     obtain⟨t,r⟩:=kr;have HC:Hid (Calls Tryz.prog 156 #[.pointer (some ⟨w.heap.size,0,none⟩)] wr fun e w'=>wr.grownBy w' (some w.heap.size)∧ ∃j',e= .returned (.tuple #[.string ⟨t.toArray⟩,.bool true])∧j<j'∧j'≤s.size∧s.data.toList.drop j'=r∧Sc w' w.heap.size s j'):=(by refine CK.mono fun e w' h=> ?_;unfold KindE at h;rw[hk]at h;exact h);have HK:=Lib.hid hk;clear CK hk;go_wp2_with fail;refine HC.out.mono ?_;rintro e w2 ⟨hg2,j1,rfl,hjj1,hj1,hdr,hS2⟩;have HDR:=Lib.hid hdr;have HG2:=Lib.hid hg2;have CV:=value_any w.heap.size s j1 w2 (Lib.hid hS2) hj1 (by omega);clear hdr hg2 hS2 HC;cases hv:valueP (s.data.toList.drop j1)with
     | none=>have HC:Hid (Calls Tryz.prog 157 #[.pointer (some ⟨w.heap.size,0,none⟩)] w2 fun e w'=>w2.grownBy w' (some w.heap.size)∧ ∃j',e= .returned (.tuple #[.string ⟨#[]⟩,.bool false])∧Sc w' w.heap.size s j'):=(by refine CV.mono fun e w' h=> ?_;unfold ValE at h;rw[hv]at h;exact h);rw[HDR.out]at hv;have HG:Hid (GP [] [] (s.data.toList.drop j0)=none):=hR.out.gp.trans (GP_value HK.out hv);clear CV hv;go_wp2_with fail;refine HC.out.mono ?_;rintro e w3 ⟨hg3,j',rfl,_⟩;go_wp2_with fail;go_ret2;exact HNO.out _ (below_gr hR.out.below (gr_trans HG2.out hg3)) HG.out
     | some vr=>
      obtain⟨v,u⟩:=vr;have HC:Hid (Calls Tryz.prog 157 #[.pointer (some ⟨w.heap.size,0,none⟩)] w2 fun e w'=>w2.grownBy w' (some w.heap.size)∧ ∃j',e= .returned (.tuple #[.string ⟨v.toArray⟩,.bool true])∧j1≤j'∧j'≤s.size∧s.data.toList.drop j'=u∧Sc w' w.heap.size s j'):=(by refine CV.mono fun e w' h=> ?_;unfold ValE at h;rw[hv]at h;exact h);rw[HDR.out]at hv;have HV:=Lib.hid hv;clear CV hv;go_wp2_with fail;refine HC.out.mono ?_;rintro e w3 ⟨hg3,j2,rfl,hj12,hj2,hdu,hS3⟩;have HG3:=Lib.hid (gr_trans HG2.out hg3);obtain⟨hn3,hB3⟩:=prel_gr hR.out HG3.out;have hcl:cur.length≤1000:=(by have:=hR.out.len;omega);have hnl:ns.length≤1000:=(by have:=hR.out.len;omega);obtain⟨vl',w4,hap,hN4,hB4⟩:=nest_app (av (t,v)) hn3 (by omega) (by have:=kt.bld_lt hS3;omega);have hS4:Sc w4 w.heap.size s j2:=(hB4.block _ (by omega)).trans hS3;have hB4':Below w.heap.size w w4:=hB3.trans (hB4.mono (by omega));have hsm:Smalls (cur++[av (t,v)]):=by
       intro x hx;rcases List.mem_append.1 hx with hx | hx
       ·exact hR.out.small.2 x hx
       ·simp only[List.mem_singleton]at hx;subst hx;refine av_small (kind_len HK.out) ?_;have:=value_len HV.out;have h2:=congrArg List.length HDR.out;rw[List.length_drop,kt.size_len]at h2;omega
      obtain⟨_,⟨aoL4,mL4,capL4,rfl,hmL4,hcL4⟩⟩:=nest_letters hN4;have HN4:=Lib.hid hN4;have HS4:=Lib.hid hS4;have HB4:=Lib.hid hB4';have HSM:=Lib.hid hsm;have HDU:=Lib.hid hdu;obtain⟨d0,d1,g1,hb4⟩:=sc_cells hS4;have hap':(Builtin.append_ #[23,23] 23 #[_,.slice (some ⟨w3.heap.size,0,none⟩) 1 1]).run Tryz.prog (w3.alloc (.cells #[.string ⟨t.toArray⟩,.string ⟨v.toArray⟩] 51))= .ok (.slice aoL4 mL4 capL4) w4:=hap;clear hn3 hB3 hN4 hS4 hB4 hB4' hsm hdu hg3 hS3 HC hap;obtain⟨vn',w5,hap2,hN5,hB5⟩:=nest_push HN4.out (by rw[HN4.out.len];omega) (by have:=kt.bld_lt HS4.out;omega);have HN5:=Lib.hid hN5;have HB5:=Lib.hid (HB4.out.trans (hB5.mono (by omega)));have HS5:Hid (Sc w5 w.heap.size s j2):=(hB5.block _ (by omega)).trans HS4.out;have HSM5:Hid (∀l∈ns++[cur++[av (t,v)]],Smalls l):=by
       intro l hl;rcases List.mem_append.1 hl with hl | hl
       ·exact hR.out.small.1 l hl
       ·simp only[List.mem_singleton]at hl;subst hl;exact HSM.out
      have HLEN:Hid (ns.length+cur.length≤j):=hR.out.len;clear hN5 hB5;by_cases hend:j2=s.size
      ·have hq:((j2:Int)==(s.size:Int))=true:=(by rw[beq_iff_eq];omega);have HG:Hid (GP [] [] (s.data.toList.drop j0)=some (ns++[cur++[av (t,v)]])):=(by have hu:u=[]:=(by rw[←HDU.out,hend,drop_end]);have hv:=HV.out;rw[hu]at hv;exact hR.out.gp.trans (GP_end HK.out hv));obtain⟨⟨ao5,m5,cap5,hvn,hm5,hcap5⟩,_⟩:=nest_letters HN5.out;subst hvn;have hn5:=HN5.out;rw[hm5.out]at hn5 hcap5;have HRD:=Lib.hid (nest_rdns hn5);have CR:=right_any ao5 cap5 (ns++[cur++[av (t,v)]]) w5 HRD (Lib.hid (prw.env_below hE.out HB5.out)) (Lib.hid (fun l hl _=>HSM5.out l hl));have hy:=HYES.out _ HG.out;have HCAP:=Lib.hid hcap5;rw[←hm5.out]at CR;generalize hnn:ns++[cur++[av (t,v)]]=nn at HRD CR hy HCAP HSM5 hm5;clear hend hcap5 HG HV HN5 hnn hn5;cases hok:nameOK nn with
       | false=>rw[hok]at CR hy;have HCR:=Lib.hid CR;have HY:=Lib.hid hy;clear CR hy hok;go_wp2_with (first | (at_builtin;refine Lib.wpList_append_run _ rfl _ _ _ _ rfl _ _ rfl rfl _ _ hap' ?_) | (at_builtin;refine Lib.wpList_append_run _ rfl _ _ _ _ rfl _ _ rfl rfl _ _ hap2 ?_));refine HCR.out.mono ?_;rintro e w6 ⟨rfl,hB6⟩;go_wp2_with fail;go_ret2;refine⟨HB5.out.trans (hB6.mono HB5.out.size),?_⟩;rw[if_neg H1.out,HY.out];rfl
       | true=>rw[hok]at CR hy;have HCR:=Lib.hid CR;have HY:=Lib.hid hy;clear CR hy hok;go_wp2_with (first | (at_builtin;refine Lib.wpList_append_run _ rfl _ _ _ _ rfl _ _ rfl rfl _ _ hap' ?_) | (at_builtin;refine Lib.wpList_append_run _ rfl _ _ _ _ rfl _ _ rfl rfl _ _ hap2 ?_));refine HCR.out.mono ?_;rintro e w6 ⟨rfl,hB6⟩;go_wp2_with fail;go_ret2;refine⟨HB5.out.trans (hB6.mono HB5.out.size),?_⟩;rw[if_neg H1.out,HY.out];exact⟨ao5,cap5,by rw[←hm5.out];rfl,HCAP.out,rdns_below HRD.out hB6,HSM5.out⟩
      ·have hlt:j2<s.size:=(by omega);have hlt':(j2:Int)<(s.size:Int):=(by omega);have hq:((j2:Int)==(s.size:Int))=false:=(by rw[beq_eq_false_iff_ne];omega);have hu:u=s[j2]::s.data.toList.drop (j2+1):=(by rw[←HDU.out,drop_cons s j2 hlt]);have hv:=HV.out;rw[hu]at hv;by_cases h43:((s[j2]'hlt).toNat:Int)=43
       ·have q43a:(((s[j2]'hlt).toNat:Int)==43)=true:=(by rw[beq_iff_eq];exact h43);have q43b:(((s[j2]'hlt).toNat:Int) !=43)=false:=(by rw[bne_eq_false_iff_eq];exact h43);have h43':s[j2]=43:=u8_eq (n:=43) (by omega) h43;rw[h43']at hv;have hg:=hR.out.gp.trans (GP_plus HK.out hv);have HPR:=Lib.hid (prel_move HN4.out HS4.out HB4.out hg (by have:=HLEN.out;simp;omega) ⟨hR.out.small.1,HSM.out⟩);have HPOS2:=Lib.hid (posOf_sc HPR.out.sc);clear hend hu hv h43 h43' hg hap2 HV HN5 HB5 HS5 HSM5;go_wp2_with (first | (at_builtin;refine Lib.wpList_append_run _ rfl _ _ _ _ rfl _ _ rfl rfl _ _ hap' ?_));go_roundw;case rel=>exact⟨j2+1,ns,_,vals,by omega,by omega,HPR⟩
        case measure=>rw[HPOS.out,HPOS2.out];omega
       ·have q43a:(((s[j2]'hlt).toNat:Int)==43)=false:=(by rw[beq_eq_false_iff_ne];exact h43);have q43b:(((s[j2]'hlt).toNat:Int) !=43)=true:=(by rw[bne_iff_ne];exact h43);have hg:=hR.out.gp.trans (GP_next HK.out hv (u8_ne (n:=43) (by omega) h43));have HPR:=Lib.hid (prel_move HN5.out HS5.out HB5.out hg (by have:=HLEN.out;simp;omega) ⟨HSM5.out,fun x hx=>by simp at hx⟩);have HPOS2:=Lib.hid (posOf_sc HPR.out.sc);obtain⟨e0,e1,k1,hb5⟩:=sc_cells HS5.out;obtain⟨⟨ao5,m5,cap5,hvn,hm5,hcap5⟩,_⟩:=nest_letters HN5.out;subst hvn;clear hend hu hv h43 hg HV;go_wp2_with (first | (at_builtin;refine Lib.wpList_append_run _ rfl _ _ _ _ rfl _ _ rfl rfl _ _ hap' ?_) | (at_builtin;refine Lib.wpList_append_run _ rfl _ _ _ _ rfl _ _ rfl rfl _ _ hap2 ?_));go_roundw;case rel=>exact⟨j2+1,_,[],_,by omega,by omega,HPR⟩
        case measure=>rw[HPOS.out,HPOS2.out];omega
end dnw
namespace dnw
open dnp
def GR (ns:List (List Av))(cur:List Av)(L:List Sg):Option (List (List Av)):=(refL (segs L)).map fun q=>ns++grpA (cur++[av q.1]) q.2
theorem GR_bad_end {ns:List (List Av)}{cur:List Av}{B:List Sg}(h: ∀x∈B,sepS x=false)(hp:pairS B=none):GR ns cur B=none:=by unfold GR;rw[segs_none B h];unfold refL;simp only[];rw[hp];rfl
theorem GR_bad {ns:List (List Av)}{cur:List Av}{B L:List Sg}{c:UInt8}(h: ∀x∈B,sepS x=false)(hc:isSep c=true)(hp:pairS B=none):GR ns cur (B++(c,true)::L)=none:=by unfold GR;rw[segs_at B c L h hc];unfold refL;simp only[];rw[hp];rfl
theorem GR_end {ns:List (List Av)}{cur:List Av}{B:List Sg}{p:Pr}(h: ∀x∈B,sepS x=false)(hp:pairS B=some p):GR ns cur B=some (ns++[cur++[av p]]):=by unfold GR;rw[segs_none B h];unfold refL;simp only[];rw[hp];rfl
theorem GR_plus {ns:List (List Av)}{cur:List Av}{B L:List Sg}{p:Pr}(h: ∀x∈B,sepS x=false)(hp:pairS B=some p):GR ns cur (B++(43,true)::L)=GR ns (cur++[av p]) L:=by unfold GR;rw[segs_at B 43 L h (by decide),refL_cons,hp];simp only[Option.bind_some,Option.map_map];congr 1
theorem GR_next {ns:List (List Av)}{cur:List Av}{B L:List Sg}{p:Pr}{c:UInt8}(h: ∀x∈B,sepS x=false)(hs:isSep c=true)(hc:c≠43)(hp:pairS B=some p):GR ns cur (B++(c,true)::L)=GR (ns++[cur++[av p]]) [] L:=by unfold GR;rw[segs_at B c L h hs,refL_cons,hp];simp only[Option.bind_some,Option.map_map];congr 1;funext q;simp only[Function.comp];rw[grpA,if_neg hc];first | done | simp
theorem dropW_idem (l:List UInt8):(l.dropWhile (· =32)).dropWhile (· =32)=l.dropWhile (· =32):=by rw[dropW_id];intro x t h;exact dropW_head (fun c:UInt8=>decide (c=32)) _ _ _ h
theorem kindP_drop (l:List UInt8):kindP (l.dropWhile (· =32))=kindP l:=by unfold kindP;simp only[dropW_idem]
theorem P_drop (l:List UInt8):P (l.dropWhile (· =32))=P l:=by rw[P_step,P_step,kindP_drop]
theorem trim_blank {L:List Sg}(h:trim L=[]): ∀x∈L,blankS x=true:=by
 intro x hx;cases hb:blankS x with
 | true=>rfl
 | false=>have:=trim_keep L x hx hb;rw[h]at this;simp at this
theorem trim_of_blank {L:List Sg}(h: ∀x∈L,blankS x=true):trim L=[]:=by
 cases hL:trim L with
 | nil=>rfl
 | cons x t=>
  exfalso;have h0:L.dropWhile blankS=[]:=by have:=dropW_app blankS L [] h;rw[List.append_nil]at this;rw[this];rfl
  unfold trim at hL;rw[h0]at hL;cases hL
theorem parseR_signs (l:List UInt8):parseR l=match signs l with
  | none=>none
  | some L=>if trim L=[]then some []else match GR [] [] L with
   | none=>none
   | some n=>if nameOK n=true then some n else none:=by
 unfold parseR;obtain⟨a,ha,hab⟩:=dropW_split (fun c:UInt8=>decide (c=32)) l;have hab': ∀c∈a,c=32:=fun c hc=>by simpa using hab c hc
 by_cases h0:l.dropWhile (· =32)=[]
 ·rw[if_pos h0];rw[h0,List.append_nil]at ha;have hs:signs l=some (l.map (·,true)):=by have:=signs_app l [] (fun h=>by rw[ha]at h;have:=hab' 92 h;revert this;decide);rw[List.append_nil,signs_nil]at this;simpa using this
  rw[hs];have:trim (l.map fun c=>((c,true):Sg))=[]:=trim_of_blank (by intro x hx;obtain⟨c,hc,rfl⟩:=List.mem_map.1 hx;rw[ha]at hc;rw[hab' c hc];decide);simp only[this,if_true]
 ·rw[if_neg h0];have hg:GP [] [] (l.dropWhile (· =32))=(signs l).bind fun L=>GR [] [] L:=by
   unfold GP GR;rw[P_drop,P_R];unfold R;cases signs l with
   | none=>rfl
   | some L=>rfl
  rw[hg];cases hs:signs l with
  | none=>rfl
  | some L=>
   have ht: ¬trim L=[]:=by
    intro ht;apply h0;have hb:=trim_blank ht;have hL:L=(L.map (·.1)).map (·,true):=by
     rw[List.map_map];conv=>lhs;rw[←List.map_id L]
     apply List.map_congr_left;intro x hx;have:=hb x hx;obtain⟨c,b⟩:=x;unfold blankS at this;simp only[Bool.and_eq_true]at this;obtain⟨rfl,_⟩:=this;rfl
    rw[hL]at hs;rw[←List.append_nil (List.map _ _)]at hs;obtain⟨r,h1,_,h3⟩:=signs_of_bares _ _ _ hs;have hr:r=[]:=by
     cases r with
     | nil=>rfl
     | cons c r=>
      exfalso;by_cases e:c=92
      ·subst e;cases he:esc r with
       | none=>rw[signs_bad r he]at h3;cases h3
       | some p=>rw[signs_esc r p.1 p.2 he]at h3;obtain⟨M,_,hM⟩:=Option.map_eq_some_iff.1 h3;cases hM
      ·rw[signs_bare c r e]at h3;obtain⟨M,_,hM⟩:=Option.map_eq_some_iff.1 h3;cases hM
    rw[h1,hr,List.append_nil];have:=dropW_app (fun c:UInt8=>decide (c=32)) (L.map (·.1)) [] (by intro c hc;obtain⟨x,hx,rfl⟩:=List.mem_map.1 hc;have:=hb x hx;unfold blankS at this;simp only[Bool.and_eq_true]at this;exact this.2);rw[List.append_nil]at this;rw[this];rfl
   simp only[Option.bind_some];rw[if_neg ht];all_goals(cases GR [] [] L<;>rfl)
end dnw
namespace dnw
open dnp
theorem rdnOK_facts {l:List Av}(h:rdnOK l=true):1≤l.length∧l.length≤4∧ ∀i (hi:i<l.length),pairB l i l[i]=true:=by unfold rdnOK at h;simp only[Bool.and_eq_true,decide_eq_true_eq]at h;refine⟨h.1.1,h.1.2,fun i hi=> ?_⟩;have:=List.all_eq_true.1 h.2 i (List.mem_range.2 hi);rw[List.getElem?_eq_getElem hi]at this;exact this
theorem rdnOK_av {l:List Av}(h:rdnOK l=true): ∀x∈l,typeOK x.t.data.toList=true∧valOK x.v.data.toList=true:=by intro x hx;obtain⟨i,hi,rfl⟩:=List.mem_iff_getElem.1 hx;have:=(rdnOK_facts h).2.2 i hi;unfold pairB at this;simp only[Bool.and_eq_true]at this;exact⟨this.1.2,this.2⟩
theorem nameOK_facts {n:List (List Av)}(h:nameOK n=true):n.length≤12∧ ∀l∈n,rdnOK l=true:=by unfold nameOK at h;simp only[Bool.and_eq_true,decide_eq_true_eq]at h;exact⟨h.1,fun l hl=>List.all_eq_true.1 h.2 l hl⟩
theorem valOK_le {v:List UInt8}(h:valOK v=true):v.length≤255:=by unfold valOK at h;simp only[Bool.and_eq_true,decide_eq_true_eq]at h;exact h.1
theorem typeOK_le {t:List UInt8}(h:typeOK t=true):t.length≤32:=by unfold typeOK at h;simp only[Bool.and_eq_true,decide_eq_true_eq]at h;exact h.1.2
theorem low_type: ∀c:UInt8,typeCh c=true→low c=c:=by
 have all: ∀m:Fin 256,(!typeCh (UInt8.ofNat m.val)||decide (low (UInt8.ofNat m.val)=UInt8.ofNat m.val))=true:=by decide+kernel
 intro c h;have:=all ⟨c.toNat,c.toNat_lt⟩;simp only[UInt8.ofNat_toNat,h,Bool.not_true,Bool.false_or,decide_eq_true_eq]at this;exact this
end dnw
namespace tup
open Go.Lib
def rep (old new s:List UInt8):List UInt8:=replaceK old new (count s old) s
theorem replaceAll_rep {old new:List UInt8}(h:(old==new)=false)(s:List UInt8):replaceAll s old new=rep old new s:=by unfold replaceAll replace rep replaceNum;rw[h];simp
theorem rep_nil {old new:List UInt8}(h:old≠[]):rep old new []=[]:=by
 have h1:index [] old= -1:=by
  unfold index;cases old with
  | nil=>exact absurd rfl h
  | cons a t=>rfl
 unfold rep;rw[count_miss h1];rfl
theorem rep_miss {old new:List UInt8}(ho:old≠[])(x:UInt8)(r:List UInt8)(h:old.isPrefixOf (x::r)=false):rep old new (x::r)=x::rep old new r:=by
 have hi:index (x::r) old=if index r old== -1 then-1 else index r old+1:=by rw[index,h];rfl
 by_cases hm:index r old= -1
 ·rw[hm]at hi;have hi':index (x::r) old= -1:=hi;unfold rep;rw[count_miss hi',count_miss hm];rfl
 ·have hge:=index_ge r old;obtain⟨i,hi0⟩: ∃i:Nat,index r old=i:=⟨(index r old).toNat,by omega⟩;have hi1:index (x::r) old=((i+1:Nat):Int):=by rw[hi,hi0,if_neg (by simp)];rfl
  unfold rep;rw[count_hit ho hi0,count_hit ho hi1,Nat.add_comm 1,Nat.add_comm 1,replaceK_hit _ _ _ _ _ hi0,replaceK_hit _ _ _ _ _ hi1];have e:i+1+old.length=(i+old.length)+1:=by omega
  rw[e];simp
theorem rep_hit {old new:List UInt8}(ho:old≠[])(r:List UInt8):rep old new (old++r)=new++rep old new r:=by have hi:index (old++r) old=((0:Nat):Int):=index_first (i:=0) (Nat.zero_le _) (by simp[occAt]) (fun _ h=>absurd h (Nat.not_lt_zero _));unfold rep;rw[count_hit ho hi,Nat.add_comm 1,replaceK_hit _ _ _ _ _ hi];simp
def esc:List UInt8→List UInt8
 | []=>[]
 | c::r=>(if c=0 then[0,255]else[c])++esc r
theorem replace_esc (s:List UInt8):replaceAll s [0] [0,255]=esc s:=by
 rw[replaceAll_rep (by decide)];induction s with
 | nil=>exact rep_nil (by simp)
 | cons c r ih=>
  by_cases hc:c=0
  ·subst hc;have:=rep_hit (old:=[0]) (new:=[0,255]) (by simp) r;rw[List.singleton_append]at this;rw[this,ih];rfl
  ·rw[rep_miss (by simp) c r (by rw[Bool.eq_false_iff];intro e;simp[List.isPrefixOf]at e;exact hc e.symm),ih];simp[esc,hc]
theorem esc_length (s:List UInt8):s.length≤(esc s).length∧(esc s).length≤2*s.length:=by
 induction s with
 | nil=>simp[esc]
 | cons c r ih=>simp only[esc,List.length_append,List.length_cons];split<;>simp<;>omega
def bytes:List ByteArray→List UInt8
 | []=>[]
 | p::r=>esc p.data.toList++[0,1]++bytes r
theorem bytes_append (a b:List ByteArray):bytes (a++b)=bytes a++bytes b:=by
 induction a with
 | nil=>rfl
 | cons p r ih=>simp[bytes,ih]
theorem bytes_mem {l:List ByteArray}{p:ByteArray}(h:p∈l):p.size≤(bytes l).length:=by
 induction l with
 | nil=>cases h
 | cons q r ih=>
  have he:=(esc_length q.data.toList).1;rcases List.mem_cons.1 h with rfl | h'
  ·simp only[bytes,List.length_append];simp at he;omega
  ·have:=ih h';simp only[bytes,List.length_append];omega
theorem bytes_small {l:List ByteArray}(h: ∀p∈l,p.size≤4096):(bytes l).length≤8194*l.length:=by
 induction l with
 | nil=>simp[bytes]
 | cons q r ih=>have he:=(esc_length q.data.toList).2;have h1:=h q (by simp);have h2:=ih (fun p hp=>h p (by simp[hp]));simp at he;simp only[bytes,List.length_append,List.length_cons];simp;omega
def out (l:List ByteArray):ByteArray × Int:=if 16<l.length then(⟨#[]⟩,1)else if 4096<(bytes l).length then(⟨#[]⟩,5)else(⟨(bytes l).toArray⟩,0)
end tup
namespace dnw
open dnp
def rv (v:List UInt8):List UInt8:=(prp.readyO v true).getD []
theorem rv_ok {v:List UInt8}(h:valOK v=true):prp.readyO v true=some (rv v):=by
 unfold valOK at h;unfold rv;cases hr:prp.readyO v true with
 | none=>rw[hr]at h;simp at h
 | some t=>rfl
def partB (a:Av):ByteArray:=(tup.out [a.t,⟨(rv a.v.data.toList).toArray⟩]).1
theorem partB_len (a:Av):(partB a).size≤4096:=by
 unfold partB tup.out;rw[if_neg (by simp)];split
 ·exact Nat.zero_le _
 ·rename_i h;rw[←kt.size_len];show(tup.bytes _).length≤_;omega
def sortL (l:List (List UInt8)):List (List UInt8):=l.mergeSort fun x y=>decide (x≤y)
theorem sortL_sorted (l:List (List UInt8)):(sortL l).Pairwise (fun x y=>x≤y):=by
 have h:=List.pairwise_mergeSort (le:=fun x y:List UInt8=>decide (x≤y)) (fun a b c h1 h2=>by
  simp only[decide_eq_true_eq]at h1 h2 ⊢;exact List.le_trans h1 h2) (fun a b=>by
  simp only[Bool.or_eq_true,decide_eq_true_eq];exact List.le_total a b) l
 exact h.imp (fun h=>by simpa using h)
theorem sorted_eq {a b:List (List UInt8)}(ha:a.Pairwise (fun x y=>x≤y))(hb:b.Pairwise (fun x y=>x≤y))(h:a.Perm b):a=b:=List.Perm.eq_of_pairwise (le:=fun x y=>x≤y) (fun x y _ _ h1 h2=>List.le_antisymm h1 h2) ha hb h
theorem sortL_perm {a b:List (List UInt8)}(h:a.Perm b):sortL a=sortL b:=sorted_eq (sortL_sorted a) (sortL_sorted b) (((List.mergeSort_perm a _).trans h).trans (List.mergeSort_perm b _).symm)
def partsL (l:List Av):List (List UInt8):=l.map fun a=>(partB a).data.toList
def keyL (l:List Av):List UInt8:=(sortL (partsL l)).flatten
theorem join_flat (xs:List (List UInt8)):Lib.join xs []=xs.flatten:=by
 cases xs with
 | nil=>rfl
 | cons x r=>rw[Lib.join_cons,Lib.joinTail,List.flatten_cons];congr 2;simp
theorem flatten_len_le (k:Nat): ∀l:List (List UInt8),(∀x∈l,x.length≤k)→l.flatten.length≤l.length*k
 | [],_=>by simp
 | x::l,h=>by have h1:=h x (by simp);have h2:=flatten_len_le k l (fun y hy=>h y (by simp[hy]));rw[List.flatten_cons,List.length_append,List.length_cons,Nat.add_mul];omega
theorem keyL_len (l:List Av):(keyL l).length≤l.length*4096:=by
 have h:=flatten_len_le 4096 (sortL (partsL l)) (fun x hx=>by have:=(List.mergeSort_perm (partsL l) _).mem_iff.1 hx;unfold partsL at this;obtain⟨a,_,rfl⟩:=List.mem_map.1 this;rw[kt.size_len];exact partB_len a);have h2:(sortL (partsL l)).length=l.length:=by unfold sortL partsL;simp
 rw[h2]at h;exact h
def keysB (n:List (List Av)):List ByteArray:=n.reverse.map fun l=>⟨(keyL l).toArray⟩
theorem keysB_len (n:List (List Av)):(keysB n).length=n.length:=by simp[keysB]
end dnw
open Go.RowKit
namespace trm
def Env (w:World):Prop:=(∃m:Int,w.cell? ⟨1,0,none⟩=some (.int .i64 m))∧Lib.Utf8Tabs 2 3 w
theorem env_below {w w':World}(h:Env w)(hb:Below w.heap.size w w'):Env w':=by obtain⟨⟨m,hm⟩,ht⟩:=h;exact⟨⟨m,(hb.cell (World.block_lt_of_cell? w _ hm)).trans hm⟩,Utf8Tabs_below ht hb⟩
end trm
open Go.RowKit
namespace tupw
def Strs (w:World)(ao:Option Addr)(l:List ByteArray):Prop:= ∀ (i:Nat) (h:i<l.length),∃b o,ao=some ⟨b,o,none⟩∧w.cell? ⟨b,o+i,none⟩=some (.string l[i])
theorem strs_below {w w':World}{ao:Option Addr}{l:List ByteArray}(h:Strs w ao l)(hb:Below w.heap.size w w'):Strs w' ao l:=by intro i hi;obtain⟨b,o,e,hc⟩:=h i hi;exact⟨b,o,e,(hb.cell (World.block_lt_of_cell? w _ hc)).trans hc⟩
theorem is_below {B b:Nat}{l:List UInt8}{w w':World}(h:bld.Is B b l w)(hb:Below w.heap.size w w'):bld.Is B b l w':=by
 rcases h with h | h
 ·obtain⟨hB,v,hk,ho,hn⟩:=h;exact Or.inl ⟨hB,v,(hb.block b (bld.lt_of_heap hk)).trans hk,kt.row_below ho hb,hn⟩
 ·obtain⟨hB,v,hk,ho,hn⟩:=h;exact Or.inr ⟨hB,v,(hb.block b (bld.lt_of_heap hk)).trans hk,kt.row_below ho hb,hn⟩
def tupV (r:ByteArray × Int):Value:= .tuple #[.string r.1,.int .i64 r.2]
theorem tuple_any (ao:Option Addr)(cap:Nat)(l:List ByteArray)(w:World)(hE:Hid (trm.Env w))(hl:Hid (Strs w ao l)):
  Calls Tryz.prog 252 #[.slice ao l.length cap] w fun e w'=>e= .returned (tupV (tup.out l))∧Below w.heap.size w w':=by
 by_cases c16:16<l.length
 ·have hp:tup.out l=(⟨#[]⟩,1):=by unfold tup.out;rw[if_pos c16]
  have HP:=Lib.hid hp;clear hp;have c16':16<(l.length:Int):=by omega
  go_enter Tryz.func252,Tryz.ntmps252;go_wp2_with fail;go_ret2;exact⟨by rw[HP.out];rfl,Below.refl _ _⟩
 ·have c16': ¬16<(l.length:Int):=by omega
  go_enter Tryz.func252,Tryz.ntmps252;go_wp2_with fail;go_loopw [12] (fun iv wr=> ∃i:Nat,i≤l.length∧iv= .int .i64 i∧Hid (∀p∈l.take i,p.size≤4096)∧Hid (bld.Is w.heap.size w.heap.size (tup.bytes (l.take i)) wr)∧Below w.heap.size w wr) (fun iv _=>l.length- (intOf iv).toNat);case atStart=>exact⟨0,Nat.zero_le _,rfl,fun p hp=>by simp at hp,bld.fresh w,(Below.refl _ _).alloc (Nat.le_refl _) _⟩
  case round=>
   obtain⟨i,hi,rfl,hsm,hI,hB⟩:=hrel;have hsz:=hB.size;by_cases hil:i<l.length
   ·obtain⟨b,o,hao,hc0⟩:=hl.out i hil;have hc:=(hB.cell (World.block_lt_of_cell? w _ hc0)).trans hc0;clear hc0;obtain⟨p,hp⟩: ∃p:ByteArray,Hid (p=l[i]):=⟨l[i],rfl⟩;rw[←hp.out]at hc;subst hao;by_cases cp:4096<p.size
    ·have hbig:tup.out l=(⟨#[]⟩,5):=(by have:=tup.bytes_mem (l:=l) (p:=l[i]) (List.getElem_mem hil);rw[←hp.out]at this;unfold tup.out;rw[if_neg c16,if_pos (by omega)]);have HP:=Lib.hid hbig;clear hbig;have cp':4096<(p.size:Int):=(by omega);go_wp2_with fail;go_ret2;exact⟨by rw[HP.out];rfl,hB⟩
    ·have cp': ¬4096<(p.size:Int):=(by omega);obtain⟨⟨m,hm⟩,_⟩:=trm.env_below hE.out hB;have hcl:=Lib.count_le p.data.toList [0];have C:=Tryz.strings_ReplaceAll p ⟨#[0]⟩ ⟨#[0,255]⟩ m wr (by omega) hm (by decide) (by have:Lib.countB p ⟨#[0]⟩≤p.size+1:=(by simpa[Lib.countB]using hcl);show p.size+Lib.countB p ⟨#[0]⟩*2≤_;omega);rw[show(Lib.replaceAll p.data.toList (ByteArray.mk #[0]).data.toList (ByteArray.mk #[0,255]).data.toList)=tup.esc p.data.toList from tup.replace_esc _]at C;obtain⟨q,hq⟩: ∃q:ByteArray,Hid (q=⟨(tup.esc p.data.toList).toArray⟩):=⟨_,rfl⟩;rw[←hq.out]at C;have hqs:q.size≤8192:=(by have:=(tup.esc_length p.data.toList).2;rw[kt.size_len]at this;have h2:q.size=(tup.esc p.data.toList).length:=(by rw[hq.out];rfl);omega);have HC:=Lib.hid C;clear C hcl hm;have hbl:(tup.bytes (l.take i)).length≤131104:=(by have:=tup.bytes_small hsm.out;rw[List.length_take]at this;omega);go_wp2_with fail;refine HC.out.mono ?_;rintro e w1 ⟨rfl,hB1⟩;have hI1:=is_below hI.out hB1;have W1:=Lib.hid (bld.writeString_any _ _ _ q w1 hI1 (by omega) (Nat.le_trans hsz hB1.size));clear hI1;go_wp2_with fail;refine W1.out.mono ?_;rintro e w2 ⟨rfl,hI2,hB2⟩;have hs2:w.heap.size≤w2.heap.size:=Nat.le_trans (Nat.le_trans hsz hB1.size) hB2.size;have hqd:q.data.toList=tup.esc p.data.toList:=(by rw[hq.out]);have W2:=Lib.hid (bld.writeString_any _ _ _ ⟨#[0,1]⟩ w2 hI2 (by rw[List.length_append,kt.size_len];show _+2≤_;omega) hs2);clear hI2;go_wp2_with fail;refine W2.out.mono ?_;rintro e w3 ⟨rfl,hI3,hB3⟩;have hI3':=Lib.hid hI3;clear hI3;have ht:tup.bytes (l.take (i+1))=tup.bytes (l.take i)++q.data.toList++[0,1]:=(by rw[List.take_succ_eq_append_getElem hil,tup.bytes_append,hqd,←hp.out];simp[tup.bytes]);have HT:=Lib.hid ht;have HS:Hid (∀p∈l.take (i+1),p.size≤4096):=by
      rw[List.take_succ_eq_append_getElem hil];intro r hr;rcases List.mem_append.1 hr with h | h
      ·exact hsm.out r h
      ·rw[List.mem_singleton.1 h,←hp.out];omega
     clear ht hqd;go_wp2_with fail;go_roundw;case rel=>exact⟨i+1,by omega,by go_num,HS,by rw[HT.out];exact hI3'.out,((hB.trans (hB1.mono hsz)).trans hB2).trans hB3⟩
     case measure=>simp[intOf];omega
   ·obtain rfl:i=l.length:=(by omega);have hI':=hI;have hsm':=hsm.out;rw[List.take_of_length_le (Nat.le_refl _)]at hI' hsm';have hbl:=tup.bytes_small hsm';clear hsm hsm' hI;have hL:=(Tryz.Builder_Len _ _ _ wr hI'.out);rw[Lib.byteCells_length]at hL;have HL:=Lib.hid hL;clear hL;have hil': ¬ (l.length:Int)<(l.length:Int):=(by omega);go_wp2_with fail;refine HL.out.mono ?_;rintro e w1 ⟨rfl,rfl⟩;by_cases hb:4096<(tup.bytes l).length
    ·have hp:tup.out l=(⟨#[]⟩,5):=(by unfold tup.out;rw[if_neg c16,if_pos hb]);have HP:=Lib.hid hp;have hb':4096<((tup.bytes l).length:Int):=(by omega);clear hp hb;go_wp2_with fail;go_ret2;exact⟨by rw[HP.out];rfl,hB⟩
    ·have hp:tup.out l=(⟨(tup.bytes l).toArray⟩,0):=(by unfold tup.out;rw[if_neg c16,if_neg hb]);have HP:=Lib.hid hp;have hb': ¬4096<((tup.bytes l).length:Int):=(by omega);clear hp hb;have HSt:=Lib.hid (Tryz.Builder_String_any _ _ _ w1 hI'.out hsz);go_wp2_with fail;refine HSt.out.mono ?_;rintro e w2 ⟨rfl,hB2⟩;go_wp2_with fail;go_ret2;exact⟨by rw[HP.out];rfl,hB.trans hB2⟩
end tupw
open Go.RowKit
namespace dnw
open dnp
theorem joinT {w:World}{B:Nat}{v:Value}{l:List ByteArray}(h:prw.OwnT w B v l)(sep:ByteArray)(hl:l.length≤100000000)(hlen:(Lib.join (l.map (·.data.toList)) sep.data.toList).length≤140737488355328):
  Calls Tryz.prog 165 #[v,.string sep] w fun e w'=>e= .returned (.string ⟨(Lib.join (l.map (·.data.toList)) sep.data.toList).toArray⟩)∧Below w.heap.size w w':=by
 obtain⟨ao,cap,rfl,hcap,hcs⟩:=prw.ownT_cells h;by_cases hne:l=[]
 ·subst hne;refine(Tryz.strings_Join_none ao cap sep w).mono ?_;rintro e w' ⟨rfl,h2⟩;refine⟨rfl,?_⟩;first
   | (rw[h2];exact Below.refl _ _)
   | (rw[←h2];exact Below.refl _ _)
 ·obtain⟨g,rfl,hg,hcc⟩:=hcs hne;exact Tryz.strings_Join g 0 cap l sep w hcc hg (by omega) hcap hlen
def bytes (l:List UInt8):ByteArray:=⟨l.toArray⟩
theorem bytes_data (l:List UInt8):(bytes l).data.toList=l:=rfl
theorem ownT_below {w w':World}{B:Nat}{v:Value}{l:List ByteArray}(h:prw.OwnT w B v l)(hb:Below w.heap.size w w'):prw.OwnT w' B v l:=kt.row_below h hb
theorem ownT_appG {w:World}{B:Nat}{v:Value}{l:List ByteArray}(x:ByteArray)(hown:prw.OwnT w B v l)(hl:l.length≤100000000)(hbase:B≤w.heap.size):
  ∃ao m cap w1,(Builtin.append_ #[35,35] 35 #[v,.slice (some ⟨w.heap.size,0,none⟩) 1 1]).run Tryz.prog (w.alloc (.cells #[.string x] 9))= .ok (.slice ao m cap) w1∧prw.OwnT w1 B (.slice ao m cap) (l++[x])∧w.grownBy w1 v.ownBlock∧Below B w w1:=by
 obtain⟨v',w1,h1,h2,h4,h3⟩:=kt.app1 (P:=Tryz.prog) (t:=35) (ty:=35) Tryz.underlying35 prw.infoStr rfl (.string x) rfl hown (by rw[prw.scells_length];unfold maxLen;omega) (by rw[prw.scells_length];omega) hbase;have h2':prw.OwnT w1 B v' (l++[x]):=by
  unfold prw.OwnT;have e:prw.scells (l++[x])=prw.scells l++[.string x]:=by simp[prw.scells]
  rw[e];exact h2
 obtain⟨ao,cap,rfl,_,_⟩:=prw.ownT_cells h2';exact⟨ao,_,cap,w1,h1,h2',h4,h3⟩
theorem ownT_form {w:World}{B:Nat}{v:Value}{l:List ByteArray}(h:prw.OwnT w B v l): ∃ (ao:Option Addr) (m cap:Nat),v= .slice ao m cap∧Hid (m=l.length):=by obtain⟨ao,cap,rfl,_,_⟩:=prw.ownT_cells h;exact⟨ao,_,cap,rfl,rfl⟩
theorem takeMap_step {α:Type}(f:α→ByteArray)(l:List α)(i:Nat)(hi:i<l.length):(l.take (i+1)).map f=(l.take i).map f++[f l[i]]:=by rw[List.take_succ_eq_append_getElem hi,List.map_append];rfl
end dnw
open Go.RowKit
namespace dnw
open dnp
theorem trmEnv {w:World}(hE:prw.Env w)(hT:Tabs w):trm.Env w:=⟨hE,hT⟩
theorem scells_enc (l:List ByteArray):prw.scells l=(l.map (·.data.toList)).map encStr:=by unfold prw.scells;rw[List.map_map];rfl
theorem sortT {w:World}{B:Nat}{ao:Option Addr}{m cap:Nat}{l:List ByteArray}(h:prw.OwnT w B (.slice ao m cap) l)(hl:l.length≤1100000)(hB:B≤w.heap.size):
  Calls Tryz.prog 116 #[.slice ao m cap] w fun e w'=>e= .returned (.tuple #[])∧prw.OwnT w' B (.slice ao m cap) ((sortL (l.map (·.data.toList))).map bytes)∧Below B w w':=by
 obtain⟨ss,hss⟩: ∃ss,ss=l.map (·.data.toList):=⟨_,rfl⟩;have hsl:ss.length=l.length:=by rw[hss];simp
 have hm:m=l.length:=by obtain⟨ao',cap',hv,_,_⟩:=prw.ownT_cells h;simp only[Value.slice.injEq]at hv;exact hv.2.1
 subst hm;have hrow:w.ownsRow B 9 1 (.slice ao l.length cap) ss.length (ss.map encStr):=by have h1:w.ownsRow B 9 1 (.slice ao l.length cap) (prw.scells l).length (prw.scells l):=h;rw[scells_enc,←hss,List.length_map]at h1;exact h1
 have hsort:((sortL ss).map bytes).map (·.data.toList)=sortL ss:=by
  rw[List.map_map];conv=>rhs;rw[←List.map_id (sortL ss)]
  apply List.map_congr_left;intro x _;rfl
 have hsn:(sortL ss).length=ss.length:=by unfold sortL;simp
 rw[←hss];rcases hrow.2 with⟨hv,h0⟩ | ⟨g,cap',cur,hv,hBg,hg,h1,h2,h3,h4⟩
 ·simp only[Value.slice.injEq]at hv;obtain⟨rfl,hl0,rfl⟩:=hv;have hs0:ss=[]:=List.eq_nil_of_length_eq_zero h0;rw[hl0];refine(Tryz.slices_Sort_string_none none 0 w).mono ?_;rintro e w' ⟨rfl,h2⟩;have h2:w'=w:=by first | exact h2 | exact h2.symm
  subst h2;refine⟨rfl,?_,Below.refl _ _⟩;rw[hs0];have hn:sortL []=[]:=by unfold sortL;simp
  rw[hn];exact World.ownsRow_nil w' B _ _
 ·simp only[Value.slice.injEq]at hv;obtain⟨rfl,_,rfl⟩:=hv;rw[Nat.mul_one]at h4;have hH:=holds_of_block hg h4;have CS:=Tryz.slices_Sort_string g 0 cap ss w hH (bld.lt_of_heap hg) (by omega);rw[hsl]at CS;refine CS.mono ?_;rintro e w' ⟨rfl,n,os,rfl⟩;have ho:=ownsRow_sorted (n:=n) (os:=os) (ts:=sortL ss) hsn hBg hg h1 h2 h3;refine⟨rfl,?_,(Below.refl B w).grown (grownBy_sorted _) hB (fun k hk=>by cases hk;exact hBg)⟩;unfold prw.OwnT;rw[scells_enc,hsort,List.length_map,hsn];rw[hsl]at ho ⊢;exact ho
theorem part_any (x:Av)(R:ByteArray)(hR:R=⟨(rv x.v.data.toList).toArray⟩)(ao:Option Addr)(cap:Nat)(w:World)(hE:Hid (trm.Env w))(hS:Hid (tupw.Strs w ao [x.t,R])):
  Calls Tryz.prog 252 #[.slice ao 2 cap] w fun e w'=>(∃er:Int,e= .returned (.tuple #[.string (partB x),.int .i64 er]))∧Below w.heap.size w w':=by
 refine(tupw.tuple_any ao cap [x.t,R] w hE hS).mono ?_;rintro e w' ⟨rfl,hb⟩;exact⟨⟨(tup.out [x.t,R]).2,by unfold tupw.tupV partB;rw[hR]⟩,hb⟩
theorem key_any (ao:Option Addr)(cap:Nat)(l:List Av)(w:World)(hA:Hid (Avas w ao l))(hE:Hid (prw.Env w))(hT:Hid (Tabs w))(hok:rdnOK l=true):
  Calls Tryz.prog 191 #[.slice ao l.length cap] w fun e w'=>e= .returned (.string (bytes (keyL l)))∧Below w.heap.size w w':=by
 have h4:=(rdnOK_facts hok).2.1;have HX:=Lib.hid (rdnOK_av hok);obtain⟨m,hm⟩: ∃m,m=l.length:=⟨_,rfl⟩;have HM:=Lib.hid hm;rw[←hm]at h4 ⊢;clear hm hok;go_enter Tryz.func191,Tryz.ntmps191;go_wp2_with fail;go_loopw [3,5,6,7,8,9,12] (fun pv _ _ _ _ _ iv wr=> ∃ (i:Nat),i≤m∧iv= .int .i64 (i:Int)∧Hid (prw.OwnT wr w.heap.size pv ((l.take i).map partB))∧Below w.heap.size w wr) (fun _ _ _ _ _ _ iv _=>m- (intOf iv).toNat);case atStart=>exact⟨0,Nat.zero_le _,rfl,World.ownsRow_nil _ _ _ _,Below.refl _ _⟩
 case round=>
  obtain⟨i,hi,rfl,hO,hB⟩:=hrel;have hsz:=hB.size;obtain⟨aoR,mR,capR,rfl,hmR⟩:=ownT_form hO.out;by_cases hlt:i<m
  ·have hlt':(i:Int)<(m:Int):=(by omega);have hil:i<l.length:=(by rw[←HM.out];exact hlt);obtain⟨b,o,hao,c0,c1⟩:=(avas_below hA.out hB) i hil;subst hao;have HST:=takeMap_step partB l i hil;have hxx:=HX.out l[i] (List.getElem_mem hil);generalize l[i]=x at c0 c1 HST hxx;obtain⟨R,hR⟩: ∃R:ByteArray,R=⟨(rv x.v.data.toList).toArray⟩:=⟨_,rfl⟩;have hvs:x.v.size≤1100000:=(by have:=valOK_le hxx.2;rw[kt.size_len]at this;omega);have HRD:Hid (∀W,Below w.heap.size w W→Calls Tryz.prog 134 #[.string x.v,.bool true] W fun e w'=>e= .returned (.tuple #[.string R,.int .i64 0])∧Below W.heap.size W w'):=(by intro W hb;have:=prw.ready_any x.v true W hvs (Lib.hid (prw.env_below hE.out hb));rw[rv_ok hxx.2]at this;rw[hR];exact this);have HST:=Lib.hid HST;have HRe:=Lib.hid hR;obtain⟨w5,hw5⟩: ∃w5,w5=wr.alloc (.cells #[.string x.t,.string x.v] 51):=⟨_,rfl⟩;have e0:w5.cell? ⟨wr.heap.size,0,none⟩=some (.string x.t):=(by rw[hw5,World.cell?_alloc_new];rfl);have HB5:Hid (Below w.heap.size w w5):=(by show Below _ _ _;rw[hw5];exact hB.alloc hsz _);have HO5:Hid (prw.OwnT w5 w.heap.size (.slice aoR mR capR) ((l.take i).map partB)):=(by show prw.OwnT _ _ _ _;rw[hw5];exact ownT_below hO.out ((Below.refl _ _).alloc (Nat.le_refl _) _));have HE0:=Lib.hid e0;have hRD:=HRD.out w5 HB5.out;rw[hw5]at hRD;have HW5:=Lib.hid hw5;have HRD2:=Lib.hid hRD;clear hR hvs hxx hw5 e0 hRD;go_wp2_with fail;refine HRD2.out.mono ?_;rintro e w6 ⟨rfl,hB6⟩;rw[←HW5.out]at hB6;have hlt5:=World.block_lt_of_cell? w5 _ HE0.out;have e6:=(hB6.cell hlt5).trans HE0.out;have HB6:=Lib.hid (HB5.out.trans (hB6.mono HB5.out.size));have HO6:=Lib.hid (ownT_below HO5.out hB6);have HP:=Lib.hid (part_any x R HRe.out (some ⟨w6.heap.size,0,none⟩) 2 (w6.alloc (.cells #[.string x.t,.string R] 9)) (Lib.hid (trmEnv (prw.env_below hE.out (HB6.out.alloc HB6.out.size _)) (tabs_below hT.out (HB6.out.alloc HB6.out.size _)))) (Lib.hid (by
    intro j hj;refine⟨_,0,rfl,?_⟩;rw[World.cell?_alloc_new]
    match j,hj with
    | 0,_=>rfl
    | 1,_=>rfl)))
   clear hB6 HRD2;go_wp2_with fail;refine HP.out.mono ?_;rintro e w7 ⟨⟨er,rfl⟩,hB7⟩;have hB67:Below w6.heap.size w6 w7:=((Below.refl w6.heap.size w6).alloc (Nat.le_refl _) _).trans (hB7.mono (by simp));have HB7:=Lib.hid (HB6.out.trans (hB67.mono HB6.out.size));obtain⟨ao7,m7,cap7,w8,hap,hO8,_,hB8⟩:=ownT_appG (partB x) (ownT_below HO6.out hB67) (by rw[List.length_map,List.length_take];omega) HB7.out.size;have HO8:Hid (prw.OwnT w8 w.heap.size (.slice ao7 m7 cap7) ((l.take (i+1)).map partB)):=(by show prw.OwnT _ _ _ _;rw[HST.out];exact hO8);have HB8:=Lib.hid (HB7.out.trans hB8);clear hB7 hB67 hO8 hB8 HP e6;go_wp2_with (at_builtin;refine Lib.wpList_append_run _ rfl _ _ _ _ rfl _ _ rfl rfl _ _ hap ?_);go_roundw;case rel=>exact⟨i+1,by omega,by go_num,HO8,HB8.out⟩
   case measure=>simp[intOf]<;>omega
  ·obtain rfl:i=m:=(by omega);have hO1:=hO.out;rw[HM.out,List.take_length]at hO1;have hll:(l.map partB).length≤1100000:=(by rw[List.length_map,←HM.out];omega);have CS:=Lib.hid (sortT hO1 hll hsz);have e1:((l.map partB).map (·.data.toList))=partsL l:=(by rw[List.map_map];rfl);have hkl:=keyL_len l;clear hO1 hll;go_wp2_with fail;refine CS.out.mono ?_;rintro e w2 ⟨rfl,hO2,hB2⟩;rw[e1]at hO2;have e2:((sortL (partsL l)).map bytes).map (·.data.toList)=sortL (partsL l):=by
    rw[List.map_map];conv=>rhs;rw[←List.map_id (sortL (partsL l))]
    apply List.map_congr_left;intro x _;rfl
   have CJ:=joinT hO2 ⟨#[]⟩ (by rw[List.length_map];unfold sortL partsL;simp;rw[←HM.out];omega) (by rw[e2];show(Lib.join _ []).length≤_;rw[join_flat];show(keyL l).length≤_;rw[←HM.out]at hkl;omega);rw[e2]at CJ;have CJ':Calls Tryz.prog 165 #[.slice aoR mR capR,.string ⟨#[]⟩] w2 fun e w'=>e= .returned (.string (bytes (keyL l)))∧Below w2.heap.size w2 w':=(by refine CJ.mono fun e w' h=>⟨?_,h.2⟩;rw[h.1];show _=Ending.returned (.string ⟨(keyL l).toArray⟩);have:Lib.join (sortL (partsL l)) (⟨#[]⟩:ByteArray).data.toList=keyL l:=join_flat _;rw[this]);have HJ:=Lib.hid CJ';have HB2:=Lib.hid (hB.trans hB2);clear CJ CJ' e1 e2 hkl CS hB2 hO2;go_wp2_with fail;refine HJ.out.mono ?_;rintro e w3 ⟨rfl,hB3⟩;go_wp2_with fail;go_ret;exact⟨rfl,HB2.out.trans (hB3.mono HB2.out.size)⟩
end dnw
open Go.RowKit
namespace scw
open scp atw
open Go.Sort
theorem scells_ss (l:List (List UInt8)):prw.scells (l.map bs)=l.map encStr:=by unfold prw.scells;rw[List.map_map];rfl
def OwnS (w:World)(B:Nat)(v:Value)(l:List (List UInt8)):Prop:=prw.OwnT w B v (l.map bs)
theorem put_own {w:World}{B g cap q m:Nat}{cur:Array Value}(ts:List (List UInt8))(hBg:B≤g)(hg:w.heap[g]? =some (.cells cur 9 (0,0)))(h2:cap≤maxLen)(h3:cur.size=cap*1)(ht:ts.length≤cap)(hm:m≤ts.length):
  OwnS (putRow encStr (Sort.ahead w q) g 0 ts.toArray) B (.slice (some ⟨g,0,none⟩) m cap) (ts.take m)∧w.grownBy (putRow encStr (Sort.ahead w q) g 0 ts.toArray) (some g):=by
 have hb':=heap_sorted (os:=#[]) (n:=q) ts.toArray hg;have hgr:=grownBy_sorted (w:=w) (g:=g) (n:=q) (os:=#[]) ts.toArray;rw[grow_empty]at hb' hgr;refine⟨?_,hgr⟩;have htk:=take_putCells cur ts (by omega);have hml:((ts.take m).map bs).length=m:=by rw[List.length_map,List.length_take];omega
 unfold OwnS prw.OwnT;refine⟨(Nat.mul_one _).symm,.inr ⟨g,cap,_,?_,hBg,hb',?_,h2,?_,?_⟩⟩
 ·rw[prw.scells_length,hml]
 ·rw[prw.scells_length,hml];omega
 ·simp[putCells,h3]
 ·rw[Nat.mul_one,prw.scells_length,hml,scells_ss];have e3:=congrArg (List.take m) htk;rw[List.take_take,Nat.min_eq_left hm]at e3;rw[e3,List.map_take]
theorem ownS_cases {w:World}{B:Nat}{v:Value}{l:List (List UInt8)}(h:OwnS w B v l):(v= .slice none 0 0∧l=[])∨ ∃g cap cur,v= .slice (some ⟨g,0,none⟩) l.length cap∧B≤g∧g<w.heap.size∧w.heap[g]? =some (.cells cur 9 (0,0))∧l.length≤cap∧cap≤maxLen∧cur.size=cap*1∧Holds encStr w g 0 l.toArray:=by
 unfold OwnS prw.OwnT at h;rw[scells_ss,List.length_map]at h;rcases h.2 with⟨hv,h0⟩ | ⟨g,cap,cur,hv,hBg,hg,h1,h2,h3,h4⟩
 ·exact Or.inl ⟨hv,List.eq_nil_of_length_eq_zero h0⟩
 ·rw[Nat.mul_one]at h4;exact Or.inr ⟨g,cap,cur,hv,hBg,kt.bld_lt hg,hg,h1,h2,h3,holds_of_block hg h4⟩
theorem compact_len (zs:List (List UInt8)):(Lib.compact zs).length≤zs.length:=by unfold Lib.compact Lib.compactUpTo;rw[List.length_map];exact Nat.le_trans (List.length_filter_le _ _) (by simp)
def emptyL (x:List UInt8):Bool:=x.isEmpty
theorem tclo_any (x:List UInt8)(W:World):Calls Tryz.prog 144 #[encStr x] W fun e w'=>e= .returned (.bool (emptyL x))∧ ∃q,w'=W.drewN q:=by show Calls _ _ #[.string ⟨x.toArray⟩] _ _;go_enter Tryz.func144,Tryz.ntmps144;go_wp2_with fail;go_ret;exact⟨rfl,0,rfl⟩
theorem delfT {w:World}{B:Nat}{v:Value}{l:List (List UInt8)}(h:OwnS w B v l)(hl:l.length≤1000000)(hB:B≤w.heap.size):
  Calls Tryz.prog 143 #[v,.func (.func 144) #[] #[]] w fun e w'=> ∃v',e= .returned v'∧OwnS w' B v' (l.filter fun x=> !emptyL x)∧Below B w w':=by
 rcases ownS_cases h with⟨rfl,rfl⟩ | ⟨g,cap,cur,rfl,hBg,hgl,hg,h1,h2,h3,hH⟩
 ·have HIF:=Lib.hid (Tryz.slices_IndexFunc_empty (α:=List UInt8) none 0 (.func (.func 144) #[] #[]) w);have HO:=Lib.hid h;clear h;go_enter Tryz.func143,Tryz.ntmps143;go_wp2_with fail;refine HIF.out.mono ?_;rintro e w1 ⟨rfl,h1⟩;have h1:w1=w:=by first | exact h1 | exact h1.symm
  subst h1;go_wp2_with fail;go_ret;exact⟨_,rfl,HO.out,Below.refl _ _⟩
 ·have hp:PredAt Tryz.prog 144 #[] encStr emptyL w:=fun W x _=>by unfold FnGives;exact tclo_any x W
  have hpo:PredOver Tryz.prog 144 #[] encStr emptyL g 0 l.toArray.size w:=fun n os dk x _=>by unfold FnGives;exact tclo_any x _
  have C:=Tryz.slices_DeleteFunc encStr (fun x=>rfl) emptyL 144 #[] (fun args w=>by first | rfl | exact enters_of Tryz.func144 args w) [] (fun w=>by rfl) g 0 cap l.toArray w hp hpo hH (by simp;omega) (by simpa using h1);simp only[List.size_toArray]at C;refine C.mono ?_;rintro e w' ⟨rfl,q,rfl⟩;have hfl:(l.filter fun x=> !emptyL x).length≤l.length:=List.length_filter_le _ _;obtain⟨ho,hgr⟩:=put_own (w:=w) (q:=q) (m:=(l.filter fun x=> !emptyL x).length) ((l.filter fun x=> !emptyL x)++List.replicate (l.length- (l.filter fun x=> !emptyL x).length) []) hBg hg h2 h3 (by rw[List.length_append,List.length_replicate];omega) (by rw[List.length_append];omega);rw[List.take_left' rfl]at ho;exact⟨_,rfl,ho,(Below.refl B w).grown hgr hB (fun k hk=>by cases hk;exact hBg)⟩
theorem compactT {w:World}{B:Nat}{v:Value}{l:List (List UInt8)}(h:OwnS w B v l)(hl:l.length≤1000000)(hB:B≤w.heap.size):
  Calls Tryz.prog 117 #[v] w fun e w'=> ∃v',e= .returned v'∧OwnS w' B v' (Lib.compact l)∧Below B w w':=by
 rcases ownS_cases h with⟨rfl,rfl⟩ | ⟨g,cap,cur,rfl,hBg,hgl,hg,h1,h2,h3,hH⟩
 ·refine(Tryz.slices_Compact_string_empty none 0 w).mono ?_;rintro e w1 ⟨rfl,h1⟩;have h1:w1=w:=by first | exact h1 | exact h1.symm
  subst h1;exact⟨_,rfl,h,Below.refl _ _⟩
 ·refine(Tryz.slices_Compact_string g 0 cap l w hH (by omega) h1).mono ?_;rintro e w' ⟨rfl,q,rfl⟩;have hfl:(Lib.compact l).length≤l.length:=compact_len l;obtain⟨ho,hgr⟩:=put_own (w:=w) (q:=q) (m:=(Lib.compact l).length) (Lib.compact l++List.replicate (l.length- (Lib.compact l).length) []) hBg hg h2 h3 (by rw[List.length_append,List.length_replicate];omega) (by rw[List.length_append];omega);rw[List.take_left' rfl]at ho;exact⟨_,rfl,ho,(Below.refl B w).grown hgr hB (fun k hk=>by cases hk;exact hBg)⟩
def tidyL (l:List (List UInt8)):List (List UInt8):=Lib.compact (dnw.sortL (l.filter fun x=> !emptyL x))
theorem sortS {w:World}{B:Nat}{v:Value}{l:List (List UInt8)}(h:OwnS w B v l)(hl:l.length≤1000000)(hB:B≤w.heap.size):
  Calls Tryz.prog 116 #[v] w fun e w'=>e= .returned (.tuple #[])∧OwnS w' B v (dnw.sortL l)∧Below B w w':=by
 obtain⟨ao,cap,rfl,_,_⟩:=prw.ownT_cells h;have:=dnw.sortT h (by rw[List.length_map];omega) hB;refine this.mono ?_;rintro e w' ⟨he,ho,hb⟩;refine⟨he,?_,hb⟩;have e1:(l.map bs).map (·.data.toList)=l:=by
  rw[List.map_map];conv=>rhs;rw[←List.map_id l]
  exact List.map_congr_left fun x _=>rfl
 rw[e1]at ho;exact ho
theorem tidy_any {w:World}{B:Nat}{v:Value}{l:List (List UInt8)}(h:Hid (OwnS w B v l))(hl:l.length≤1000000)(hB:B≤w.heap.size):
  Calls Tryz.prog 84 #[v] w fun e w'=> ∃v',e= .returned v'∧OwnS w' B v' (tidyL l)∧Below B w w':=by
 have HD:=Lib.hid (delfT h.out hl hB);have hfl:(l.filter fun x=> !emptyL x).length≤l.length:=List.length_filter_le _ _;have HT:Hid (tidyL l=Lib.compact (dnw.sortL (l.filter fun x=> !emptyL x))):=rfl;rw[HT.out];clear HT;generalize(l.filter fun x=> !emptyL x)=m at HD hfl ⊢;have hsl:(dnw.sortL m).length=m.length:=by unfold dnw.sortL;simp
 go_enter Tryz.func84,Tryz.ntmps84;go_wp2_with fail;refine HD.out.mono ?_;rintro e w1 ⟨v1,rfl,h1,hB1⟩;have HS:=Lib.hid (sortS h1 (by omega) (Nat.le_trans hB hB1.size));have HB1:=Lib.hid hB1;clear h1 hB1;go_wp2_with fail;refine HS.out.mono ?_;rintro e w2 ⟨rfl,h2,hB2⟩;have HB2:=Lib.hid (HB1.out.trans hB2);have HC:=Lib.hid (compactT h2 (by omega) (Nat.le_trans hB HB2.out.size));clear h2 hB2;go_wp2_with fail;refine HC.out.mono ?_;rintro e w3 ⟨v3,rfl,h3,hB3⟩;have HB3:=Lib.hid (HB2.out.trans hB3);have HO:=Lib.hid h3;clear h3 hB3;go_wp2_with fail;go_ret;exact⟨_,rfl,HO.out,HB3.out⟩
end scw
open Go.RowKit
namespace etw
theorem tk {P:Program}{ops:Array Oper}{Q:Exit→Act→World→Prop}{md:Region.Mode}{S:World→Prop}(i:Nat)(oi:Oper){v:Value}{fuel:Nat}{listed:Array Bool}{a a2:Act}{w:World}(hi:ops[i]? =some oi)
  (h:wpAnyH P md ops Q S fuel (listed.setIfInBounds i true) a2 w)
  (hs:Region.noSelect ops=true:=by kernel_rfl) (hf:Region.free md ops listed i=true:=by kernel_rfl) (hr:(Region.ready md ops listed).contains i=true:=by kernel_rfl)
  (hQ: ∀c a w,Q (.panic c) (a.put oi.dst v) w→Q (.panic c) a w:=by exact fun _ _ _ h=>h) (hw:Region.wanted oi (yielded ops a.tmps)=true:=by rfl)
  (hy: ∀w,S w→(execOp a.eval oi).run P w= .ok (.value v) w:=by intro w hSw;(try dsimp only at hSw);go_simp;all_goals with_reducible rfl)
  (hS:S w:=by assumption) (ha:a.put oi.dst v=a2:=by first | (simp only[Act.put,List.setIfInBounds_toArray,List.set_cons_zero,List.set_cons_succ];rfl) | rfl):wpAnyH P md ops Q S (fuel+1) listed a w:=by
 subst ha;exact wpAnyH_take hi hs hf hr hQ (Or.inl ⟨hw,hy⟩) hS h
theorem tu {P:Program}{ops:Array Oper}{Q:Exit→Act→World→Prop}{md:Region.Mode}{S:World→Prop}(i:Nat)(oi:Oper){fuel:Nat}{listed:Array Bool}{a a2:Act}{w:World}(hi:ops[i]? =some oi)
  (h:wpAnyH P md ops Q S fuel (listed.setIfInBounds i true) a2 w)
  (hs:Region.noSelect ops=true:=by kernel_rfl) (hf:Region.free md ops listed i=true:=by kernel_rfl) (hr:(Region.ready md ops listed).contains i=true:=by kernel_rfl)
  (hQ: ∀c a w,Q (.panic c) (a.put oi.dst undef) w→Q (.panic c) a w:=by exact fun _ _ _ h=>h) (hw:Region.wanted oi (yielded ops a.tmps)=false:=by rfl)
  (hS:S w:=by assumption) (ha:a.put oi.dst undef=a2:=by first | (simp only[Act.put,List.setIfInBounds_toArray,List.set_cons_zero,List.set_cons_succ];rfl) | rfl):wpAnyH P md ops Q S (fuel+1) listed a w:=by
 subst ha;exact wpAnyH_take hi hs hf hr hQ (Or.inr ⟨hw,rfl⟩) hS h
theorem tc {P:Program}{ops:Array Oper}{Q:Exit→Act→World→Prop}{md:Region.Mode}{S:World→Prop}(i:Nat)(oi:Oper){fuel:Nat}{listed:Array Bool}{a:Act}{w:World}(ho:ops[i]? =some oi)
  (h: ∀K':Act→World→Prop,Shut (∀a w,S w→(S w→wpAnyH P md ops Q S fuel (listed.setIfInBounds i true) a w)→K' a w)→if Region.wanted oi (yielded ops a.tmps)=true then Oper.wp P oi a w K' Q else K' (a.put oi.dst undef) w)
  (hr:Region.ready md ops listed=[i]:=by kernel_rfl):wpAnyH P md ops Q S (fuel+1) listed a w:=
 wpAnyH_ready hr (by simp) (AllReadyH.cons ho h AllReadyH.nil)
end etw
open Go.RowKit
namespace scw
open scp atw etw
open Go.Sort
def rawMS (k:Nat):List T:=List.getD [[[111,98,106,101,99,116,99,108,97,115,115]],[[100,99],[111,98,106,101,99,116,99,108,97,115,115]],[[111],[111,98,106,101,99,116,99,108,97,115,115]],[[111,98,106,101,99,116,99,108,97,115,115],[111,117]],[[99,110],[111,98,106,101,99,116,99,108,97,115,115],[115,110]],[[99,110],[111,98,106,101,99,116,99,108,97,115,115],[115,110]],[[99,110],[111,98,106,101,99,116,99,108,97,115,115],[115,110]],[[111,98,106,101,99,116,99,108,97,115,115],[117,105,100]],[[99,110],[109,101,109,98,101,114],[111,98,106,101,99,116,99,108,97,115,115]],[[99,110],[111,98,106,101,99,116,99,108,97,115,115]],[[111,98,106,101,99,116,99,108,97,115,115],[117,105,100]],[[111,98,106,101,99,116,99,108,97,115,115]],[[111,98,106,101,99,116,99,108,97,115,115],[117,115,101,114,112,97,115,115,119,111,114,100]]] k []
def rawYS (k:Nat):List T:=List.getD [[],[[100,101,115,99,114,105,112,116,105,111,110],[108],[111],[115,101,101,97,108,115,111]],[[100,101,115,99,114,105,112,116,105,111,110],[108],[115,101,101,97,108,115,111],[116,101,108,101,112,104,111,110,101,110,117,109,98,101,114]],[[100,101,115,99,114,105,112,116,105,111,110],[108],[115,101,101,97,108,115,111],[116,101,108,101,112,104,111,110,101,110,117,109,98,101,114]],[[100,101,115,99,114,105,112,116,105,111,110],[115,101,101,97,108,115,111],[116,101,108,101,112,104,111,110,101,110,117,109,98,101,114],[117,115,101,114,112,97,115,115,119,111,114,100]],[[100,101,115,99,114,105,112,116,105,111,110],[108],[111,117],[115,101,101,97,108,115,111],[116,101,108,101,112,104,111,110,101,110,117,109,98,101,114],[116,105,116,108,101],[117,115,101,114,112,97,115,115,119,111,114,100]],[[100,101,115,99,114,105,112,116,105,111,110],[108],[109,97,105,108],[111],[111,117],[112,104,111,116,111],[115,101,101,97,108,115,111],[116,101,108,101,112,104,111,110,101,110,117,109,98,101,114],[116,105,116,108,101],[117,105,100],[117,115,101,114,112,97,115,115,119,111,114,100]],[[100,101,115,99,114,105,112,116,105,111,110],[108],[111],[111,117],[115,101,101,97,108,115,111]],[[100,101,115,99,114,105,112,116,105,111,110],[111],[111,117],[115,101,101,97,108,115,111]],[[100,101,115,99,114,105,112,116,105,111,110],[108],[111],[111,117],[115,101,101,97,108,115,111],[115,101,114,105,97,108,110,117,109,98,101,114]],[],[[101,110,97,98,108,101,100],[108,105,109,105,116],[117,105,100,110,117,109,98,101,114]],[]] k []
theorem rawM_perm: ∀k:Fin 13,((rawMust k.val).filter fun x=> !emptyL x).Perm (rawMS k.val):=by decide+kernel
theorem rawY_perm: ∀k:Fin 13,((rawMay k.val).filter fun x=> !emptyL x).Perm (rawYS k.val):=by decide+kernel
theorem rawM_sort: ∀k:Fin 13,(rawMS k.val).Pairwise (fun a b=>decide (a≤b)=true):=by decide+kernel
theorem rawY_sort: ∀k:Fin 13,(rawYS k.val).Pairwise (fun a b=>decide (a≤b)=true):=by decide+kernel
theorem rawM_comp: ∀k:Fin 13,Lib.compact (rawMS k.val)=mustK k.val:=by decide+kernel
theorem rawY_comp: ∀k:Fin 13,Lib.compact (rawYS k.val)=mayK k.val:=by decide+kernel
theorem tidy_of {l m r:List T}(h1:(l.filter fun x=> !emptyL x).Perm m)(h2:m.Pairwise (fun a b=>decide (a≤b)=true))(h3:Lib.compact m=r):tidyL l=r:=by
 unfold tidyL;rw[dnw.sortL_perm h1];have:dnw.sortL m=m:=by unfold dnw.sortL;exact List.mergeSort_of_pairwise h2
 rw[this,h3]
def mustN (n:T):List T:=match idx n with
 | some k=>mustK k
 | none=>[]
def mayN (n:T):List T:=match idx n with
 | some k=>mayK k
 | none=>[]
def aboveN (n:T):List T:=match idx n with
 | some k=>aboveK k
 | none=>[]
theorem tidy_must (n:T):tidyL ((lineN n).flatMap fun k=>(clsA k).must)=mustN n:=by
 unfold lineN mustN;cases h:idx n with
 | none=>exact tidy_of (m:=[]) (by decide) (by decide) (by decide)
 | some k=>exact tidy_of (rawM_perm ⟨k,idx_lt h⟩) (rawM_sort ⟨k,idx_lt h⟩) (rawM_comp ⟨k,idx_lt h⟩)
theorem tidy_may (n:T):tidyL ((lineN n).flatMap fun k=>(clsA k).may)=mayN n:=by
 unfold lineN mayN;cases h:idx n with
 | none=>exact tidy_of (m:=[]) (by decide) (by decide) (by decide)
 | some k=>exact tidy_of (rawY_perm ⟨k,idx_lt h⟩) (rawY_sort ⟨k,idx_lt h⟩) (rawY_comp ⟨k,idx_lt h⟩)
theorem line_lt {n:T}: ∀k∈lineN n,k<13:=by
 intro k hk;unfold lineN at hk;cases h:idx n with
 | none=>rw[h]at hk;cases hk
 | some j=>rw[h]at hk;exact lineK_lt ⟨j,idx_lt h⟩ k hk
theorem line_len (n:T):(lineN n).length≤4:=lineO_len _ fun k h=>idx_lt h
theorem ownC_at {w:World}{B:Nat}{ao:Option Addr}{n cap:Nat}{l:List Nat}(h:OwnC w B (.slice ao n cap) l){i:Nat}(hi:i<l.length): ∃g,ao=some ⟨g,0,none⟩∧CA w g (i*11) (clsA l[i]):=by
 have hn:n=l.length:=by have:=ownC_len h;exact this
 subst hn;obtain⟨g,rfl,hc,_⟩:=kt.rowS_some h (by omega);refine⟨g,rfl,fun j v hv=>hc _ _ ?_⟩;have hj:j<11:=(List.getElem?_eq_some_iff.1 hv).1;rw[kt.flat_get (fun k=>clsV (clsA k)) 11 (fun k=>rfl) l i j hi hj];exact hv
theorem ownS_below {w w':World}{B:Nat}{v:Value}{l:List T}(h:OwnS w B v l)(hb:Below w.heap.size w w'):OwnS w' B v l:=kt.row_below h hb
theorem ownS_mono {w:World}{B D:Nat}{v:Value}{l:List T}(h:OwnS w B v l)(hc:D≤B):OwnS w D v l:=by
 refine⟨h.1,?_⟩;rcases h.2 with h0 | ⟨g,cap,cur,hv,hBg,hr⟩
 ·exact Or.inl h0
 ·exact Or.inr ⟨g,cap,cur,hv,Nat.le_trans hc hBg,hr⟩
theorem ownS_nil (w:World)(B:Nat):OwnS w B (.slice none 0 0) []:=World.ownsRow_nil w B _ _
theorem ownS_appN {w:World}{B p o m c:Nat}{v:Value}{l:List T}(news:List T)(hm:news.length=m)(hc: ∀j x,news[j]? =some x→w.cell? ⟨p,o+j,none⟩=some (.string (bs x)))(h:OwnS w B v l)(hl:l.length+m≤100000000)(hB:B≤w.heap.size):
  ∃v' w1,(Builtin.append_ #[35,35] 35 #[v,.slice (some ⟨p,o,none⟩) m c]).run Tryz.prog w= .ok v' w1∧OwnS w1 B v' (l++news)∧Below B w w1:=by
 have hsl:(prw.scells (l.map bs)).length=l.length:=by rw[prw.scells_length,List.length_map]
 obtain⟨v',w1,h1,h2,_,h3⟩:=kt.appN (P:=Tryz.prog) (t:=35) (ty:=35) Tryz.underlying35 prw.infoStr rfl (xs:=prw.scells (l.map bs)) ⟨p,o,none⟩ m c (prw.scells (news.map bs)) (by rw[prw.scells_length,List.length_map];exact hm)
  (fun j u hj=>by
   rw[Addr.add_mid];unfold prw.scells at hj;rw[List.map_map,List.getElem?_map]at hj;cases hx:news[j]? with
   | none=>rw[hx]at hj;cases hj
   | some x=>rw[hx]at hj;cases hj;exact hc j x hx)
  (fun u hu=>by unfold prw.scells at hu;rw[List.map_map,List.mem_map]at hu;obtain⟨x,_,rfl⟩:=hu;rfl) h (by rw[hsl];unfold maxLen;omega) (by rw[hsl];omega) hB
 refine⟨v',w1,h1,?_,h3⟩;unfold OwnS prw.OwnT;have e:prw.scells ((l++news).map bs)=prw.scells (l.map bs)++prw.scells (news.map bs):=by simp[prw.scells]
 rw[e];exact h2
theorem must_two: ∀k:Fin 13,(clsA k.val).must=[(clsA k.val).must.getD 0 [],(clsA k.val).must.getD 1 []]:=by decide+kernel
theorem may_six: ∀k:Fin 13,(clsA k.val).may=[(clsA k.val).may.getD 0 [],(clsA k.val).may.getD 1 [],(clsA k.val).may.getD 2 [],(clsA k.val).may.getD 3 [],(clsA k.val).may.getD 4 [],(clsA k.val).may.getD 5 []]:=by decide+kernel
theorem must_cells {w:World}{p k:Nat}(hk:k<13)(h:CB w p (clsA k)): ∀j x,(clsA k).must[j]? =some x→w.cell? ⟨p,3+j,none⟩=some (.string (bs x)):=by
 intro j x hx;rw[must_two ⟨k,hk⟩]at hx;have hj:j<2:=(List.getElem?_eq_some_iff.1 hx).1;have hr:=h.1 (3+j);rw[Nat.zero_add]at hr;refine hr _ ?_;rcases j with _ | _ | j
 ·cases hx;rfl
 ·cases hx;rfl
 ·omega
theorem may_cells {w:World}{p k:Nat}(hk:k<13)(h:CB w p (clsA k)): ∀j x,(clsA k).may[j]? =some x→w.cell? ⟨p,5+j,none⟩=some (.string (bs x)):=by
 intro j x hx;rw[may_six ⟨k,hk⟩]at hx;have hj:j<6:=(List.getElem?_eq_some_iff.1 hx).1;have hr:=h.1 (5+j);rw[Nat.zero_add]at hr;refine hr _ ?_;rcases j with _ | _ | _ | _ | _ | _ | j
 ·cases hx;rfl
 ·cases hx;rfl
 ·cases hx;rfl
 ·cases hx;rfl
 ·cases hx;rfl
 ·cases hx;rfl
 ·omega
theorem must_len2: ∀k:Fin 13,(clsA k.val).must.length=2∧(clsA k.val).may.length=6:=by decide+kernel
theorem ownS_app1 {w:World}{B:Nat}{v:Value}{l:List T}(x:T)(h:OwnS w B v l)(hl:l.length≤1000000)(hB:B≤w.heap.size):
  ∃v' w1,(Builtin.append_ #[35,35] 35 #[v,.slice (some ⟨w.heap.size,0,none⟩) 1 1]).run Tryz.prog (w.alloc (.cells #[.string (bs x)] 9))= .ok v' w1∧OwnS w1 B v' (l++[x])∧Below B w w1:=by
 obtain⟨v',w1,h1,h2,h3⟩:=prw.ownT_app (bs x) h (by rw[List.length_map];omega) hB;refine⟨v',w1,h1,?_,h3⟩;unfold OwnS;rw[List.map_append];exact h2
theorem above_all: ∀k:Fin 13,aboveK k.val=((lineK k.val).filter fun j=>decide ((clsA j).name≠(clsA k.val).name)).map fun j=>(clsA j).name:=by decide+kernel
theorem above_filter (n:T):aboveN n=((lineN n).filter fun k=>decide ((clsA k).name≠n)).map fun k=>(clsA k).name:=by
 unfold aboveN lineN;cases h:idx n with
 | none=>rfl
 | some k=>have h2:=above_all ⟨k,idx_lt h⟩;rw[(idx_some h).2]at h2;exact h2
theorem lineC_any (n:ByteArray)(w:World):Calls Tryz.prog 83 #[.string n] w fun e w'=> ∃ao cap,e= .returned (.slice ao (lineN n.data.toList).length cap)∧OwnC w' w.heap.size (.slice ao (lineN n.data.toList).length cap) (lineN n.data.toList)∧Below w.heap.size w w':=(sline_any n w).mono fun e w' ⟨v,he,ho,hb⟩=>by obtain⟨ao,cap,rfl,_⟩:=kt.rowS_slice ho;exact⟨ao,cap,he,ho,hb⟩
theorem smust_any (n:ByteArray)(w:World)(hn:n.size≤10000000):
  Calls Tryz.prog 27 #[.string n] w fun e w'=> ∃v,e= .returned v∧OwnS w' w.heap.size v (mustN (sml.lowL n.data.toList))∧Below w.heap.size w w':=by
 obtain⟨nl,hnl⟩: ∃nl,sml.lowL n.data.toList=nl:=⟨_,rfl⟩;have HLO:Hid (∀W,Calls Tryz.prog 82 #[.string n] W fun e w'=>e= .returned (.string (bs nl))∧Below W.heap.size W w'):=fun W=>by rw[←hnl];exact slower_any n W hn
 have HLI:Hid (∀W,Calls Tryz.prog 83 #[.string (bs nl)] W fun e w'=> ∃ao cap,e= .returned (.slice ao (lineN nl).length cap)∧OwnC w' W.heap.size (.slice ao (lineN nl).length cap) (lineN nl)∧Below W.heap.size W w'):=fun W=>lineC_any (bs nl) W;have HRES:Hid (tidyL ((lineN nl).flatMap fun k=>(clsA k).must)=mustN nl):=tidy_must nl;rw[hnl,←HRES.out];have HLK:Hid (∀k∈lineN nl,k<13):=line_lt;have HL4:=line_len nl;clear HRES hnl;generalize lineN nl=ls at HLI HLK HL4 ⊢;obtain⟨N,hN⟩: ∃N,ls.length=N:=⟨_,rfl⟩;rw[hN]at HLI HL4;have HN:=Lib.hid hN;clear hN;go_enter Tryz.func27,Tryz.ntmps27;go_wp2_with fail;refine(HLO.out w).mono ?_;rintro e w1 ⟨rfl,hB1⟩;have HB1:=Lib.hid hB1;have HLI1:=Lib.hid (HLI.out w1);clear hB1 HLI HLO;go_wp2_with fail;refine HLI1.out.mono ?_;rintro e w2 ⟨ao,cap,rfl,hr,hB2⟩;have HB2:=Lib.hid (HB1.out.trans (hB2.mono HB1.out.size));have HR:=Lib.hid hr;clear hB2 hr HLI1;go_wp2_with fail;go_loopw [3,10] (fun lv iv wr=> ∃i:Nat,i≤N∧iv= .int .i64 (i:Int)∧Hid (OwnS wr w2.heap.size lv ((ls.take i).flatMap fun k=>(clsA k).must))∧Hid (Below w2.heap.size w2 wr)∧Hid (((ls.take i).flatMap fun k=>(clsA k).must).length≤6*i)) (fun _ iv _=>N- (intOf iv).toNat);case atStart=>exact⟨0,Nat.zero_le _,rfl,ownS_nil _ _,Below.refl _ _,Nat.le_refl _⟩
 case round=>
  obtain⟨i,hi,rfl,hO,hB,hS⟩:=hrel;have hsz:=hB.out.size;by_cases hlt:i<N
  ·skip
   have hlt':(i:Int)<(N:Int):=(by omega);have hil:i<ls.length:=(by rw[HN.out];exact hlt);obtain⟨g,hg,hca0⟩:=ownC_at HR.out hil;subst hg;have hk:=HLK.out ls[i] (List.getElem_mem _);have HTS:Hid (ls.take (i+1)=ls.take i++[ls[i]]):=(by show _=_;rw[List.take_succ_eq_append_getElem hil]);have hca:=ca_below hca0 hB.out;obtain⟨k,hk0⟩: ∃k,ls[i]=k:=⟨_,rfl⟩;rw[hk0]at hca hk HTS;obtain⟨c0,c1,c2,c3,c4,c5,c6,c7,c8,c9,c10,hv,hx0,hx1,hx2⟩:=cls_letters (clsA k);have HV:=Lib.hid hv;have HX0:=Lib.hid hx0;obtain⟨d0,d1,d2,d3,d4,d5,d6,d7,d8,d9,d10⟩:=ca_cells hca hv;obtain⟨W3,hW3⟩: ∃W,wr.alloc (.cells #[.string c0,.int .i64 c1,.string c2,.string c3,.string c4,.string c5,.string c6,.string c7,.string c8,.string c9,.string c10] 106)=W:=⟨_,rfl⟩;have hB3:Below wr.heap.size wr W3:=(by rw[←hW3];exact(Below.refl _ _).alloc (Nat.le_refl _) _);have HCB:Hid (CB W3 wr.heap.size (clsA k)):=(by rw[←hW3];have:=cb_new wr (clsA k);rw[hv]at this;exact this);obtain⟨g0,g1,g2,g3,g4,g5,g6,g7,g8,g9,g10⟩:=cb_cells HCB.out hv;have HO3:=Lib.hid (ownS_below hO.out hB3);have HB3:=Lib.hid (hB.out.trans (hB3.mono hsz));have hs3:=HB3.out.size;clear hk0 hv hx0 hx1 hx2 hca hca0 hB3;have HFM:Hid (((ls.take (i+1)).flatMap fun k=>(clsA k).must)=((ls.take i).flatMap fun k=>(clsA k).must)++(clsA k).must):=(by show _=_;rw[HTS.out,List.flatMap_append];simp);have hS1:=hS.out;have hlen:(clsA k).must.length=2:=(must_len2 ⟨k,hk⟩).1;obtain⟨v',w4,hrun,ho4,hB4⟩:=ownS_appN (w:=W3) (B:=w2.heap.size) (p:=wr.heap.size) (o:=3) (m:=2) (c:=2) (clsA k).must hlen (must_cells hk HCB.out) HO3.out (by omega) hs3;have HO4:Hid (OwnS w4 w2.heap.size v' ((ls.take (i+1)).flatMap fun k=>(clsA k).must)):=(by show OwnS _ _ _ _;rw[HFM.out];exact ho4);have HB4:=Lib.hid (HB3.out.trans hB4);have HS4:Hid (((ls.take (i+1)).flatMap fun k=>(clsA k).must).length≤6*(i+1)):=(by show _≤_;rw[HFM.out,List.length_append];omega);clear ho4 hB4 hlen hk hS1;go_wp2_with (refine Lib.wpList_append_run _ rfl _ _ _ _ rfl _ _ rfl rfl _ _ hrun ?_);go_roundw;case rel=>exact⟨i+1,by omega,by go_num,HO4,HB4,HS4⟩
   case measure=>simp[intOf];omega
  ·obtain rfl:N=i:=(by omega);have hO2:=hO.out;rw[←HN.out,List.take_length]at hO2;have hS2:=hS.out;rw[←HN.out,List.take_length]at hS2;have HT:=Lib.hid (tidy_any (Lib.hid hO2) (by have:=HN.out;omega) hsz);have HB5:=Lib.hid (HB2.out.trans (hB.out.mono HB2.out.size));have hw2:=HB2.out.size;clear hO2 hS2;go_wp2_with fail;refine HT.out.mono ?_;rintro e w5 ⟨v5,rfl,ho5,hB6⟩;have HO5:=Lib.hid (ownS_mono ho5 hw2);have HB6:=Lib.hid (HB5.out.trans (hB6.mono hw2));clear ho5 hB6;go_wp2_with fail;go_ret;exact⟨_,rfl,HO5.out,HB6.out⟩
theorem smay_any (n:ByteArray)(w:World)(hn:n.size≤10000000):
  Calls Tryz.prog 28 #[.string n] w fun e w'=> ∃v,e= .returned v∧OwnS w' w.heap.size v (mayN (sml.lowL n.data.toList))∧Below w.heap.size w w':=by
 obtain⟨nl,hnl⟩: ∃nl,sml.lowL n.data.toList=nl:=⟨_,rfl⟩;have HLO:Hid (∀W,Calls Tryz.prog 82 #[.string n] W fun e w'=>e= .returned (.string (bs nl))∧Below W.heap.size W w'):=fun W=>by rw[←hnl];exact slower_any n W hn
 have HLI:Hid (∀W,Calls Tryz.prog 83 #[.string (bs nl)] W fun e w'=> ∃ao cap,e= .returned (.slice ao (lineN nl).length cap)∧OwnC w' W.heap.size (.slice ao (lineN nl).length cap) (lineN nl)∧Below W.heap.size W w'):=fun W=>lineC_any (bs nl) W;have HRES:Hid (tidyL ((lineN nl).flatMap fun k=>(clsA k).may)=mayN nl):=tidy_may nl;rw[hnl,←HRES.out];have HLK:Hid (∀k∈lineN nl,k<13):=line_lt;have HL4:=line_len nl;clear HRES hnl;generalize lineN nl=ls at HLI HLK HL4 ⊢;obtain⟨N,hN⟩: ∃N,ls.length=N:=⟨_,rfl⟩;rw[hN]at HLI HL4;have HN:=Lib.hid hN;clear hN;go_enter Tryz.func28,Tryz.ntmps28;go_wp2_with fail;refine(HLO.out w).mono ?_;rintro e w1 ⟨rfl,hB1⟩;have HB1:=Lib.hid hB1;have HLI1:=Lib.hid (HLI.out w1);clear hB1 HLI HLO;go_wp2_with fail;refine HLI1.out.mono ?_;rintro e w2 ⟨ao,cap,rfl,hr,hB2⟩;have HB2:=Lib.hid (HB1.out.trans (hB2.mono HB1.out.size));have HR:=Lib.hid hr;clear hB2 hr HLI1;go_wp2_with fail;go_loopw [3,10] (fun lv iv wr=> ∃i:Nat,i≤N∧iv= .int .i64 (i:Int)∧Hid (OwnS wr w2.heap.size lv ((ls.take i).flatMap fun k=>(clsA k).may))∧Hid (Below w2.heap.size w2 wr)∧Hid (((ls.take i).flatMap fun k=>(clsA k).may).length≤6*i)) (fun _ iv _=>N- (intOf iv).toNat);case atStart=>exact⟨0,Nat.zero_le _,rfl,ownS_nil _ _,Below.refl _ _,Nat.le_refl _⟩
 case round=>
  obtain⟨i,hi,rfl,hO,hB,hS⟩:=hrel;have hsz:=hB.out.size;by_cases hlt:i<N
  ·skip
   have hlt':(i:Int)<(N:Int):=(by omega);have hil:i<ls.length:=(by rw[HN.out];exact hlt);obtain⟨g,hg,hca0⟩:=ownC_at HR.out hil;subst hg;have hk:=HLK.out ls[i] (List.getElem_mem _);have HTS:Hid (ls.take (i+1)=ls.take i++[ls[i]]):=(by show _=_;rw[List.take_succ_eq_append_getElem hil]);have hca:=ca_below hca0 hB.out;obtain⟨k,hk0⟩: ∃k,ls[i]=k:=⟨_,rfl⟩;rw[hk0]at hca hk HTS;obtain⟨c0,c1,c2,c3,c4,c5,c6,c7,c8,c9,c10,hv,hx0,hx1,hx2⟩:=cls_letters (clsA k);have HV:=Lib.hid hv;have HX0:=Lib.hid hx0;obtain⟨d0,d1,d2,d3,d4,d5,d6,d7,d8,d9,d10⟩:=ca_cells hca hv;obtain⟨W3,hW3⟩: ∃W,wr.alloc (.cells #[.string c0,.int .i64 c1,.string c2,.string c3,.string c4,.string c5,.string c6,.string c7,.string c8,.string c9,.string c10] 106)=W:=⟨_,rfl⟩;have hB3:Below wr.heap.size wr W3:=(by rw[←hW3];exact(Below.refl _ _).alloc (Nat.le_refl _) _);have HCB:Hid (CB W3 wr.heap.size (clsA k)):=(by rw[←hW3];have:=cb_new wr (clsA k);rw[hv]at this;exact this);obtain⟨g0,g1,g2,g3,g4,g5,g6,g7,g8,g9,g10⟩:=cb_cells HCB.out hv;have HO3:=Lib.hid (ownS_below hO.out hB3);have HB3:=Lib.hid (hB.out.trans (hB3.mono hsz));have hs3:=HB3.out.size;clear hk0 hv hx0 hx1 hx2 hca hca0 hB3;have HFM:Hid (((ls.take (i+1)).flatMap fun k=>(clsA k).may)=((ls.take i).flatMap fun k=>(clsA k).may)++(clsA k).may):=(by show _=_;rw[HTS.out,List.flatMap_append];simp);have hS1:=hS.out;have hlen:(clsA k).may.length=6:=(must_len2 ⟨k,hk⟩).2;obtain⟨v',w4,hrun,ho4,hB4⟩:=ownS_appN (w:=W3) (B:=w2.heap.size) (p:=wr.heap.size) (o:=5) (m:=6) (c:=6) (clsA k).may hlen (may_cells hk HCB.out) HO3.out (by omega) hs3;have HO4:Hid (OwnS w4 w2.heap.size v' ((ls.take (i+1)).flatMap fun k=>(clsA k).may)):=(by show OwnS _ _ _ _;rw[HFM.out];exact ho4);have HB4:=Lib.hid (HB3.out.trans hB4);have HS4:Hid (((ls.take (i+1)).flatMap fun k=>(clsA k).may).length≤6*(i+1)):=(by show _≤_;rw[HFM.out,List.length_append];omega);clear ho4 hB4 hlen hk hS1;go_wp2_with (refine Lib.wpList_append_run _ rfl _ _ _ _ rfl _ _ rfl rfl _ _ hrun ?_);go_roundw;case rel=>exact⟨i+1,by omega,by go_num,HO4,HB4,HS4⟩
   case measure=>simp[intOf];omega
  ·obtain rfl:N=i:=(by omega);have hO2:=hO.out;rw[←HN.out,List.take_length]at hO2;have hS2:=hS.out;rw[←HN.out,List.take_length]at hS2;have HT:=Lib.hid (tidy_any (Lib.hid hO2) (by have:=HN.out;omega) hsz);have HB5:=Lib.hid (HB2.out.trans (hB.out.mono HB2.out.size));have hw2:=HB2.out.size;clear hO2 hS2;go_wp2_with fail;refine HT.out.mono ?_;rintro e w5 ⟨v5,rfl,ho5,hB6⟩;have HO5:=Lib.hid (ownS_mono ho5 hw2);have HB6:=Lib.hid (HB5.out.trans (hB6.mono hw2));clear ho5 hB6;go_wp2_with fail;go_ret;exact⟨_,rfl,HO5.out,HB6.out⟩
theorem sabove_any (n:ByteArray)(w:World)(hn:n.size≤10000000):
  Calls Tryz.prog 29 #[.string n] w fun e w'=> ∃v,e= .returned v∧OwnS w' w.heap.size v (aboveN (sml.lowL n.data.toList))∧Below w.heap.size w w':=by
 obtain⟨nl,hnl⟩: ∃nl,sml.lowL n.data.toList=nl:=⟨_,rfl⟩;have HLO:Hid (∀W,Calls Tryz.prog 82 #[.string n] W fun e w'=>e= .returned (.string (bs nl))∧Below W.heap.size W w'):=fun W=>by rw[←hnl];exact slower_any n W hn
 have HLI:Hid (∀W,Calls Tryz.prog 83 #[.string (bs nl)] W fun e w'=> ∃ao cap,e= .returned (.slice ao (lineN nl).length cap)∧OwnC w' W.heap.size (.slice ao (lineN nl).length cap) (lineN nl)∧Below W.heap.size W w'):=fun W=>lineC_any (bs nl) W;have HRES:Hid (aboveN nl=((lineN nl).filter fun k=>decide ((clsA k).name≠nl)).map fun k=>(clsA k).name):=above_filter nl;rw[hnl,HRES.out];have HLK:Hid (∀k∈lineN nl,k<13):=line_lt;have HL4:=line_len nl;clear HRES hnl;generalize lineN nl=ls at HLI HLK HL4 ⊢;obtain⟨N,hN⟩: ∃N,ls.length=N:=⟨_,rfl⟩;rw[hN]at HLI HL4;have HN:=Lib.hid hN;have HLO1:=Lib.hid (HLO.out w);clear hN;go_enter Tryz.func29,Tryz.ntmps29;go_wp2_with fail;refine HLO1.out.mono ?_;rintro e w1 ⟨rfl,hB1⟩;have HB1:=Lib.hid hB1;have HLI1:=Lib.hid (HLI.out w1);clear hB1 HLI HLO1;go_wp2_with fail;refine HLI1.out.mono ?_;rintro e w2 ⟨ao,cap,rfl,hr,hB2⟩;have HB2:=Lib.hid (HB1.out.trans (hB2.mono HB1.out.size));have HR:=Lib.hid hr;clear hB2 hr HLI1;go_wp2_with fail;go_loopw [3,10] (fun lv iv wr=> ∃i:Nat,i≤N∧iv= .int .i64 (i:Int)∧Hid (OwnS wr w2.heap.size lv (((ls.take i).filter fun k=>decide ((clsA k).name≠nl)).map fun k=>(clsA k).name))∧Hid (Below w2.heap.size w2 wr)) (fun _ iv _=>N- (intOf iv).toNat);case atStart=>exact⟨0,Nat.zero_le _,rfl,ownS_nil _ _,Below.refl _ _⟩
 case round=>
  obtain⟨i,hi,rfl,hO,hB⟩:=hrel;have hsz:=hB.out.size;by_cases hlt:i<N
  ·skip
   have hlt':(i:Int)<(N:Int):=(by omega);have hil:i<ls.length:=(by rw[HN.out];exact hlt);obtain⟨g,hg,hca0⟩:=ownC_at HR.out hil;subst hg;have hk:=HLK.out ls[i] (List.getElem_mem _);have HTS:Hid (ls.take (i+1)=ls.take i++[ls[i]]):=(by show _=_;rw[List.take_succ_eq_append_getElem hil]);have hca:=ca_below hca0 hB.out;obtain⟨k,hk0⟩: ∃k,ls[i]=k:=⟨_,rfl⟩;rw[hk0]at hca hk HTS;obtain⟨c0,c1,c2,c3,c4,c5,c6,c7,c8,c9,c10,hv,hx0,hx1,hx2⟩:=cls_letters (clsA k);have HV:=Lib.hid hv;have HX0:=Lib.hid hx0;obtain⟨d0,d1,d2,d3,d4,d5,d6,d7,d8,d9,d10⟩:=ca_cells hca hv;obtain⟨W3,hW3⟩: ∃W,wr.alloc (.cells #[.string c0,.int .i64 c1,.string c2,.string c3,.string c4,.string c5,.string c6,.string c7,.string c8,.string c9,.string c10] 106)=W:=⟨_,rfl⟩;have hB3:Below wr.heap.size wr W3:=(by rw[←hW3];exact(Below.refl _ _).alloc (Nat.le_refl _) _);have HCB:Hid (CB W3 wr.heap.size (clsA k)):=(by rw[←hW3];have:=cb_new wr (clsA k);rw[hv]at this;exact this);obtain⟨g0,g1,g2,g3,g4,g5,g6,g7,g8,g9,g10⟩:=cb_cells HCB.out hv;have HO3:=Lib.hid (ownS_below hO.out hB3);have HB3:=Lib.hid (hB.out.trans (hB3.mono hsz));have hs3:=HB3.out.size;clear hk0 hv hx0 hx1 hx2 hca hca0 hB3;have HLO4:=Lib.hid (HLO.out W3.drew);have hl3:=World.block_lt_of_cell? W3 _ g0;have hbq:(c0.toList==(bs nl).toList)=decide ((clsA k).name=nl):=(by rw[HX0.out,bs_beq]);have hlen:(((ls.take i).filter fun k=>decide ((clsA k).name≠nl)).map fun k=>(clsA k).name).length≤13:=(by rw[List.length_map];have h1:=List.length_filter_le (fun k=>decide ((clsA k).name≠nl)) (ls.take i);rw[List.length_take]at h1;omega);by_cases he:(clsA k).name=nl
   ·rw[decide_eq_true he]at hbq;have HFM:Hid ((((ls.take (i+1)).filter fun k=>decide ((clsA k).name≠nl)).map fun k=>(clsA k).name)=(((ls.take i).filter fun k=>decide ((clsA k).name≠nl)).map fun k=>(clsA k).name)):=(by show _=_;rw[HTS.out,List.filter_append,List.map_append];simp[he]);clear he hlen hk;go_wp2_with fail;refine wp_region_held_drew (S:=fun W=>W.cell? ⟨wr.heap.size,0,none⟩=some (.string c0)) (by kernel_rfl) (g0) (fun hHeld=> ?_);refine tk 0 ⟨some 14,_,_,_,_,_⟩ rfl ?_;refine tk 1 ⟨some 15,_,_,_,_,_⟩ rfl ?_;refine tk 2 ⟨some 16,_,_,_,_,_⟩ rfl ?_;refine etw.tc 3 ⟨some 17,_,_,_,_,_⟩ rfl (fun K hK=> ?_);go_simp;go_at_call 82;refine HLO4.out.mono ?_;rintro e w4 ⟨rfl,hB4⟩;refine hK.out _ _ ((((Below.refl W3.heap.size W3).drew.trans hB4).cell (p:=⟨wr.heap.size,0,none⟩) hl3).trans (g0)) (fun hHeld=> ?_);clear hK;try simp only[Act.put,List.setIfInBounds_toArray,List.set_cons_zero,List.set_cons_succ]
    refine tk 4 ⟨some 18,_,_,_,_,_⟩ rfl ?_;refine wpAnyH_done (by kernel_rfl) ?_ _;have hB45:=(Below.refl W3.heap.size W3).drew.trans hB4;have HO4:Hid (OwnS w4 w2.heap.size u3 (((ls.take (i+1)).filter fun k=>decide ((clsA k).name≠nl)).map fun k=>(clsA k).name)):=(by show OwnS _ _ _ _;rw[HFM.out];exact ownS_below HO3.out hB45);have HB4:=Lib.hid (HB3.out.trans (hB45.mono hs3));clear hB4 hB45 hHeld g0 g1 g2 g3 g4 g5 g6 g7 g8 g9 g10 d0 d1 d2 d3 d4 d5 d6 d7 d8 d9 d10;go_wp2_with fail;go_roundw;case rel=>exact⟨i+1,by omega,by go_num,HO4,HB4⟩
    case measure=>simp[intOf];omega
   ·rw[decide_eq_false he]at hbq;have HFM:Hid ((((ls.take (i+1)).filter fun k=>decide ((clsA k).name≠nl)).map fun k=>(clsA k).name)=(((ls.take i).filter fun k=>decide ((clsA k).name≠nl)).map fun k=>(clsA k).name)++[(clsA k).name]):=(by show _=_;rw[HTS.out,List.filter_append,List.map_append];simp[he]);clear he hk;go_wp2_with fail;refine wp_region_held_drew (S:=fun W=>W.cell? ⟨wr.heap.size,0,none⟩=some (.string c0)) (by kernel_rfl) (g0) (fun hHeld=> ?_);refine tk 0 ⟨some 14,_,_,_,_,_⟩ rfl ?_;refine tk 1 ⟨some 15,_,_,_,_,_⟩ rfl ?_;refine tk 2 ⟨some 16,_,_,_,_,_⟩ rfl ?_;refine etw.tc 3 ⟨some 17,_,_,_,_,_⟩ rfl (fun K hK=> ?_);go_simp;go_at_call 82;refine HLO4.out.mono ?_;rintro e w4 ⟨rfl,hB4⟩;refine hK.out _ _ ((((Below.refl W3.heap.size W3).drew.trans hB4).cell (p:=⟨wr.heap.size,0,none⟩) hl3).trans (g0)) (fun hHeld=> ?_);clear hK;try simp only[Act.put,List.setIfInBounds_toArray,List.set_cons_zero,List.set_cons_succ]
    refine tk 4 ⟨some 18,_,_,_,_,_⟩ rfl ?_;refine wpAnyH_done (by kernel_rfl) ?_ _;have hB45:=(Below.refl W3.heap.size W3).drew.trans hB4;obtain⟨v',w5,hrun,ho5,hB5⟩:=ownS_app1 (w:=w4) (B:=w2.heap.size) (clsA k).name (ownS_below HO3.out hB45) (by omega) (Nat.le_trans hs3 hB45.size);rw[←HX0.out]at hrun;have HO4:Hid (OwnS w5 w2.heap.size v' (((ls.take (i+1)).filter fun k=>decide ((clsA k).name≠nl)).map fun k=>(clsA k).name)):=(by show OwnS _ _ _ _;rw[HFM.out];exact ho5);have HB5:=Lib.hid ((HB3.out.trans (hB45.mono hs3)).trans hB5);have q0:=hHeld;clear hB4 hB5 ho5 hB45 hlen;go_wp2_with (refine Lib.wpList_append_run _ rfl _ _ _ _ rfl _ _ rfl rfl _ _ hrun ?_);go_roundw;case rel=>exact⟨i+1,by omega,by go_num,HO4,HB5⟩
    case measure=>simp[intOf];omega
  ·obtain rfl:N=i:=(by omega);have hO2:=hO.out;rw[←HN.out,List.take_length]at hO2;have hw2:=HB2.out.size;have HB5:=Lib.hid (HB2.out.trans (hB.out.mono hw2));have HO5:=Lib.hid (ownS_mono hO2 hw2);clear hO2;go_wp2_with fail;go_ret;exact⟨_,rfl,HO5.out,HB5.out⟩
end scw
open Go.RowKit
namespace dnw
open dnp
theorem parseR_ok {l:List UInt8}{n:List (List Av)}(h:parseR l=some n):nameOK n=true:=by
 unfold parseR at h;split at h
 ·cases h;rfl
 ·split at h
  ·cases h
  ·split at h
   ·cases h;assumption
   ·cases h
def parseV (s:ByteArray):List (List Av) × Int:=if 1000<s.size then([],5)else match parseR s.data.toList with
 | none=>([],4)
 | some n=>(n,0)
theorem parseE_V {s:ByteArray}{w:World}{e:Ending}{w':World}(h:ParseE s w e w'):Below w.heap.size w w'∧ ∃ao cap,e= .returned (.tuple #[.slice ao (parseV s).1.length cap,.int .i64 (parseV s).2])∧Rdns w' ao (parseV s).1:=by
 obtain⟨h1,h2⟩:=h;refine⟨h1,?_⟩;unfold parseV;split at h2
 ·rename_i hl;rw[if_pos hl];exact⟨none,0,h2,fun i hi=>by simp at hi⟩
 ·rename_i hl;rw[if_neg hl];cases hp:parseR s.data.toList with
  | none=>rw[hp]at h2;exact⟨none,0,h2,fun i hi=>by simp at hi⟩
  | some n=>rw[hp]at h2;obtain⟨ao,cap,h3,_,h4,_⟩:=h2;exact⟨ao,cap,h3,h4⟩
end dnw
end Go.Proofs.YtmnpfkbjpeaemaaGreatDoor
