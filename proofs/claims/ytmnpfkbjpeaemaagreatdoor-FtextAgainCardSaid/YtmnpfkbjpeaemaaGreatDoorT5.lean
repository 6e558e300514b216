/- One text out of several: ParseW, RefP, PrintP, PrintQ, TupP, KeyP, ParseV, NormP, NumW, NumV, FindW, PhoneW, Trim, TupW, DPrintW, KeyW. -/
import Derived.Test.YtmnpfkbjpeaemaaGreatDoorT4
import Derived.Lib.Replace
import Derived.Lib.CountLaws
import Derived.Test.YtmnpfkbjpeaemaaGreatDoorT1
import Derived.Test.YtmnpfkbjpeaemaaGreatDoorRows
import Derived.Test.YtmnpfkbjpeaemaaGreatDoorT2
import Derived.Deep.MidRow
import Derived.Test.YtmnpfkbjpeaemaaGreatDoorT3
import Derived.Sort.OwnSorted
set_option linter.unusedVariables false
set_option linter.unusedSimpArgs false
set_option maxRecDepth 100000
set_option maxHeartbeats 8000000
namespace Go.Proofs.YtmnpfkbjpeaemaaGreatDoor
open Go.RowKit
namespace dnw
open dnp
def ParseE (s:ByteArray)(w:World)(e:Ending)(w':World):Prop:=
 Below w.heap.size w w'∧if 1000<s.size then e= .returned (.tuple #[.slice none 0 0,.int .i64 5])else match parseR s.data.toList with
  | none=>e= .returned (.tuple #[.slice none 0 0,.int .i64 4])
  | some n=> ∃ao cap,e= .returned (.tuple #[.slice ao n.length cap,.int .i64 0])∧n.length≤cap∧Rdns w' ao n∧ ∀l∈n,Smalls l
structure PRel (w wr:World)(s:ByteArray)(j0 j:Nat)(vn vl:Value)(ns:List (List Av))(cur:List Av)(vals:List Value):Prop where
 nest:Nest wr (w.heap.size+1) vn vl ns cur vals
 sc:Sc wr w.heap.size s j
 below:Below w.heap.size w wr
 gp:GP [] [] (s.data.toList.drop j0)=GP ns cur (s.data.toList.drop j)
 len:ns.length+cur.length≤j
 small:(∀l∈ns,Smalls l)∧Smalls cur
theorem below_gr {w wr w2:World}(h:Below w.heap.size w wr)(hg:wr.grownBy w2 (some w.heap.size)):Below w.heap.size w w2:=⟨hg.os.trans h.os,hg.tape.trans h.tape,hg.output.trans h.output,Nat.le_trans h.size hg.size,fun k hk=>(hg.block k (Nat.lt_of_lt_of_le hk h.size) (by intro e;cases e;omega)).trans (h.block k hk)⟩
theorem prel_gr {w wr w2:World}{s:ByteArray}{j0 j:Nat}{vn vl:Value}{ns:List (List Av)}{cur:List Av}{vals:List Value}(h:PRel w wr s j0 j vn vl ns cur vals)(hg:wr.grownBy w2 (some w.heap.size)):Nest w2 (w.heap.size+1) vn vl ns cur vals∧Below w.heap.size w w2:=⟨nest_gr h.nest (by omega) hg,below_gr h.below hg⟩
theorem tabs_gr {w wr w2:World}(hT:Tabs w)(hb:Below w.heap.size w wr)(hg:wr.grownBy w2 (some w.heap.size)):Tabs w2:=tabs_below hT (below_gr hb hg)
theorem nest_letters {w:World}{B:Nat}{vn vl:Value}{ns:List (List Av)}{cur:List Av}{vals:List Value}(h:Nest w B vn vl ns cur vals):(∃ (ao:Option Addr) (m cap:Nat),vn= .slice ao m cap∧Hid (m=ns.length)∧m≤cap)∧(∃ (ao:Option Addr) (m cap:Nat),vl= .slice ao m cap∧Hid (m=cur.length)∧m≤cap):=by obtain⟨⟨a,c,h1,h2⟩,⟨a',c',h3,h4⟩⟩:=nest_form h;exact⟨⟨a,_,c,h1,rfl,h2⟩,⟨a',_,c',h3,rfl,h4⟩⟩
theorem prel_move {w w4:World}{s:ByteArray}{j0 j2:Nat}{vn vl:Value}{ns:List (List Av)}{cur:List Av}{vals:List Value}(hN:Nest w4 (w.heap.size+1) vn vl ns cur vals)(hS:Sc w4 w.heap.size s j2)(hB:Below w.heap.size w w4)
  (hg:GP [] [] (s.data.toList.drop j0)=GP ns cur (s.data.toList.drop (j2+1))) (hl:ns.length+cur.length≤j2+1) (hs:(∀l∈ns,Smalls l)∧Smalls cur):
  PRel w (w4.setCell ⟨w.heap.size,1,none⟩ (.int .i64 ((j2:Int)+1))) s j0 (j2+1) vn vl ns cur vals:=by
 have hgr:w4.grownBy (w4.setCell ⟨w.heap.size,1,none⟩ (.int .i64 ((j2:Int)+1))) (some w.heap.size):=gr_set0 (gr_refl _ _) _;exact⟨nest_gr hN (by omega) hgr,sc_inc0 hS,below_gr hB hgr,hg,hl,hs⟩
theorem parse_any (s:ByteArray)(w:World)(hs:s.size≤140737488351232)(hE:Hid (prw.Env w))(hT:Hid (Tabs w)):
  Calls Tryz.prog 94 #[.string s] w fun e w'=>ParseE s w e w':=by
 by_cases h1000:1000<s.size
 ·have h':1000<(s.size:Int):=by omega
  have H1:=Lib.hid h1000;go_enter Tryz.func94,Tryz.ntmps94;go_wp2_with fail;go_ret2;refine⟨Below.refl _ _,?_⟩;rw[if_pos H1.out];rfl
 ·have h': ¬1000<(s.size:Int):=by omega
  have H1:=Lib.hid h1000;have hs1:s.size≤1000:=by omega
  have HW1:Hid (Sc (w.alloc (.cells #[.string s,.int .i64 0] 187)) w.heap.size s 0):=heap_alloc_new w _;have CB:=Lib.hid (blanks_any w.heap.size s 0 _ HW1 (Nat.zero_le _) (by omega));have HB1:Hid (Below w.heap.size w (w.alloc (.cells #[.string s,.int .i64 0] 187))):=(Below.refl _ _).alloc (Nat.le_refl _) _;go_enter Tryz.func94,Tryz.ntmps94;go_wp2_with fail;refine CB.out.mono ?_;rintro e w1 ⟨rfl,j0,_,hj0,hD0,hS1,hG1⟩;have HD0:=Lib.hid hD0;have HS1:=Lib.hid hS1;have HBw:=Lib.hid (below_gr HB1.out hG1);obtain⟨c0,c1,f1,hb1⟩:=sc_cells hS1;clear hD0 hS1 hG1 CB HB1 HW1;by_cases hend:j0=s.size
  ·subst hend;go_wp2_with fail;go_ret2;refine⟨HBw.out,?_⟩;rw[if_neg H1.out];have e0:parseR s.data.toList=some []:=(by unfold parseR;rw[if_pos];have:=HD0.out;rw[drop_end]at this;exact this.symm);rw[e0];exact⟨none,0,rfl,Nat.le_refl _,fun i hi=>by simp at hi,fun l hl=>by simp at hl⟩
  ·have hne:((j0:Int)==(s.size:Int))=false:=(by rw[beq_eq_false_iff_ne];omega);have hj0l:j0<s.size:=(by omega);have HNO:Hid (∀w',Below w.heap.size w w'→GP [] [] (s.data.toList.drop j0)=none→ParseE s w (.returned (.tuple #[.slice none 0 0,.int .i64 4])) w'):=(by intro w' hb hg;refine⟨hb,?_⟩;rw[if_neg H1.out];have e0:parseR s.data.toList=none:=(by unfold parseR;have:=HD0.out;rw[List.drop_zero]at this;rw[←this,if_neg (prw.drop_ne hj0l),hg]);rw[e0]);have HYES:Hid (∀n,GP [] [] (s.data.toList.drop j0)=some n→parseR s.data.toList=if nameOK n=true then some n else none):=(by intro n hg;unfold parseR;have:=HD0.out;rw[List.drop_zero]at this;rw[←this,if_neg (prw.drop_ne hj0l),hg]);clear hend;have HR0:Hid (PRel w w1 s j0 j0 (.slice none 0 0) (.slice none 0 0) [] [] []):=⟨nest_nil _ _,HS1.out,HBw.out,rfl,Nat.zero_le _,fun l hl=>by simp at hl,fun x hx=>by simp at hx⟩;go_wp2_with fail;clear c0 c1 f1 hb1;go_loopw [5,6,7,8,9,10] (fun nv lv _ _ _ _ wr=> ∃ (j:Nat) (ns:List (List Av)) (cur:List Av) (vals:List Value),j0≤j∧j≤s.size∧Hid (PRel w wr s j0 j nv lv ns cur vals)) (fun _ _ _ _ _ _ wr=>s.size+1-posOf wr w.heap.size);case atStart=>exact⟨j0,[],[],[],Nat.le_refl _,hj0,HR0⟩
   case round=>
    obtain⟨j,ns,cur,vals,hj0j,hj,hR⟩:=hrel;obtain⟨⟨aoN,mN,capN,rfl,hmN,hcN⟩,⟨aoL,mL,capL,rfl,hmL,hcL⟩⟩:=nest_letters hR.out.nest;have HPOS:=Lib.hid (posOf_sc hR.out.sc);have CK:=kind_any w.heap.size s j wr (Lib.hid hR.out.sc) hj (by omega) (Lib.hid (tabs_below hT.out hR.out.below)) (Lib.hid (fun w' hg=>tabs_gr hT.out hR.out.below hg));cases hk:kindP (s.data.toList.drop j)with
    | none=>have HC:Hid (Calls Tryz.prog 156 #[.pointer (some ⟨w.heap.size,0,none⟩)] wr fun e w'=>wr.grownBy w' (some w.heap.size)∧ ∃j',e= .returned (.tuple #[.string ⟨#[]⟩,.bool false])∧Sc w' w.heap.size s j'):=(by refine CK.mono fun e w' h=> ?_;unfold KindE at h;rw[hk]at h;exact h);have HG:Hid (GP [] [] (s.data.toList.drop j0)=none):=hR.out.gp.trans (GP_kind hk);clear CK hk;go_wp2_with fail;refine HC.out.mono ?_;rintro e w2 ⟨hg2,j',rfl,_⟩;go_wp2_with fail;go_ret2;exact HNO.out _ (below_gr hR.out.below hg2) HG.out
    | some kr=>
     obtain⟨t,r⟩:=kr;have HC:Hid (Calls Tryz.prog 156 #[.pointer (some ⟨w.heap.size,0,none⟩)] wr fun e w'=>wr.grownBy w' (some w.heap.size)∧ ∃j',e= .returned (.tuple #[.string ⟨t.toArray⟩,.bool true])∧j<j'∧j'≤s.size∧s.data.toList.drop j'=r∧Sc w' w.heap.size s j'):=(by refine CK.mono fun e w' h=> ?_;unfold KindE at h;rw[hk]at h;exact h);have HK:=Lib.hid hk;clear CK hk;go_wp2_with fail;refine HC.out.mono ?_;rintro e w2 ⟨hg2,j1,rfl,hjj1,hj1,hdr,hS2⟩;have HDR:=Lib.hid hdr;have HG2:=Lib.hid hg2;have CV:=value_any w.heap.size s j1 w2 (Lib.hid hS2) hj1 (by omega);clear hdr hg2 hS2 HC;cases hv:valueP (s.data.toList.drop j1)with
     | none=>have HC:Hid (Calls Tryz.prog 157 #[.pointer (some ⟨w.heap.size,0,none⟩)] w2 fun e w'=>w2.grownBy w' (some w.heap.size)∧ ∃j',e= .returned (.tuple #[.string ⟨#[]⟩,.bool false])∧Sc w' w.heap.size s j'):=(by refine CV.mono fun e w' h=> ?_;unfold ValE at h;rw[hv]at h;exact h);rw[HDR.out]at hv;have HG:Hid (GP [] [] (s.data.toList.drop j0)=none):=hR.out.gp.trans (GP_value HK.out hv);clear CV hv;go_wp2_with fail;refine HC.out.mono ?_;rintro e w3 ⟨hg3,j',rfl,_⟩;go_wp2_with fail;go_ret2;exact HNO.out _ (below_gr hR.out.below (gr_trans HG2.out hg3)) HG.out
     | some vr=>
      obtain⟨v,u⟩:=vr;have HC:Hid (Calls Tryz.prog 157 #[.pointer (some ⟨w.heap.size,0,none⟩)] w2 fun e w'=>w2.grownBy w' (some w.heap.size)∧ ∃j',e= .returned (.tuple #[.string ⟨v.toArray⟩,.bool true])∧j1≤j'∧j'≤s.size∧s.data.toList.drop j'=u∧Sc w' w.heap.size s j'):=(by refine CV.mono fun e w' h=> ?_;unfold ValE at h;rw[hv]at h;exact h);rw[HDR.out]at hv;have HV:=Lib.hid hv;clear CV hv;go_wp2_with fail;refine HC.out.mono ?_;rintro e w3 ⟨hg3,j2,rfl,hj12,hj2,hdu,hS3⟩;have HG3:=Lib.hid (gr_trans HG2.out hg3);obtain⟨hn3,hB3⟩:=prel_gr hR.out HG3.out;have hcl:cur.length≤1000:=(by have:=hR.out.len;omega);have hnl:ns.length≤1000:=(by have:=hR.out.len;omega);obtain⟨vl',w4,hap,hN4,hB4⟩:=nest_app (av (t,v)) hn3 (by omega) (by have:=kt.bld_lt hS3;omega);have hS4:Sc w4 w.heap.size s j2:=(hB4.block _ (by omega)).trans hS3;have hB4':Below w.heap.size w w4:=hB3.trans (hB4.mono (by omega));have hsm:Smalls (cur++[av (t,v)]):=by
       intro x hx;rcases List.mem_append.1 hx with hx | hx
       ·exact hR.out.small.2 x hx
       ·simp only[List.mem_singleton]at hx;subst hx;refine av_small (kind_len HK.out) ?_;have:=value_len HV.out;have h2:=congrArg List.length HDR.out;rw[List.length_drop,kt.size_len]at h2;omega
      obtain⟨_,⟨aoL4,mL4,capL4,rfl,hmL4,hcL4⟩⟩:=nest_letters hN4;have HN4:=Lib.hid hN4;have HS4:=Lib.hid hS4;have HB4:=Lib.hid hB4';have HSM:=Lib.hid hsm;have HDU:=Lib.hid hdu;obtain⟨d0,d1,g1,hb4⟩:=sc_cells hS4;have hap':(Builtin.append_ #[23,23] 23 #[_,.slice (some ⟨w3.heap.size,0,none⟩) 1 1]).run Tryz.prog (w3.alloc (.cells #[.string ⟨t.toArray⟩,.string ⟨v.toArray⟩] 51))= .ok (.slice aoL4 mL4 capL4) w4:=hap;clear hn3 hB3 hN4 hS4 hB4 hB4' hsm hdu hg3 hS3 HC hap;obtain⟨vn',w5,hap2,hN5,hB5⟩:=nest_push HN4.out (by rw[HN4.out.len];omega) (by have:=kt.bld_lt HS4.out;omega);have HN5:=Lib.hid hN5;have HB5:=Lib.hid (HB4.out.trans (hB5.mono (by omega)));have HS5:Hid (Sc w5 w.heap.size s j2):=(hB5.block _ (by omega)).trans HS4.out;have HSM5:Hid (∀l∈ns++[cur++[av (t,v)]],Smalls l):=by
       intro l hl;rcases List.mem_append.1 hl with hl | hl
       ·exact hR.out.small.1 l hl
       ·simp only[List.mem_singleton]at hl;subst hl;exact HSM.out
      have HLEN:Hid (ns.length+cur.length≤j):=hR.out.len;clear hN5 hB5;by_cases hend:j2=s.size
      ·have hq:((j2:Int)==(s.size:Int))=true:=(by rw[beq_iff_eq];omega);have HG:Hid (GP [] [] (s.data.toList.drop j0)=some (ns++[cur++[av (t,v)]])):=(by have hu:u=[]:=(by rw[←HDU.out,hend,drop_end]);have hv:=HV.out;rw[hu]at hv;exact hR.out.gp.trans (GP_end HK.out hv));obtain⟨⟨ao5,m5,cap5,hvn,hm5,hcap5⟩,_⟩:=nest_letters HN5.out;subst hvn;have hn5:=HN5.out;rw[hm5.out]at hn5 hcap5;have HRD:=Lib.hid (nest_rdns hn5);have CR:=right_any ao5 cap5 (ns++[cur++[av (t,v)]]) w5 HRD (Lib.hid (prw.env_below hE.out HB5.out)) (Lib.hid (fun l hl _=>HSM5.out l hl));have hy:=HYES.out _ HG.out;have HCAP:=Lib.hid hcap5;rw[←hm5.out]at CR;generalize hnn:ns++[cur++[av (t,v)]]=nn at HRD CR hy HCAP HSM5 hm5;clear hend hcap5 HG HV HN5 hnn hn5;cases hok:nameOK nn with
       | false=>rw[hok]at CR hy;have HCR:=Lib.hid CR;have HY:=Lib.hid hy;clear CR hy hok;go_wp2_with (first | (at_builtin;refine Lib.wpList_append_run _ rfl _ _ _ _ rfl _ _ rfl rfl _ _ hap' ?_) | (at_builtin;refine Lib.wpList_append_run _ rfl _ _ _ _ rfl _ _ rfl rfl _ _ hap2 ?_));refine HCR.out.mono ?_;rintro e w6 ⟨rfl,hB6⟩;go_wp2_with fail;go_ret2;refine⟨HB5.out.trans (hB6.mono HB5.out.size),?_⟩;rw[if_neg H1.out,HY.out];rfl
       | true=>rw[hok]at CR hy;have HCR:=Lib.hid CR;have HY:=Lib.hid hy;clear CR hy hok;go_wp2_with (first | (at_builtin;refine Lib.wpList_append_run _ rfl _ _ _ _ rfl _ _ rfl rfl _ _ hap' ?_) | (at_builtin;refine Lib.wpList_append_run _ rfl _ _ _ _ rfl _ _ rfl rfl _ _ hap2 ?_));refine HCR.out.mono ?_;rintro e w6 ⟨rfl,hB6⟩;go_wp2_with fail;go_ret2;refine⟨HB5.out.trans (hB6.mono HB5.out.size),?_⟩;rw[if_neg H1.out,HY.out];exact⟨ao5,cap5,by rw[←hm5.out];rfl,HCAP.out,rdns_below HRD.out hB6,HSM5.out⟩
      ·have hlt:j2<s.size:=(by omega);have hlt':(j2:Int)<(s.size:Int):=(by omega);have hq:((j2:Int)==(s.size:Int))=false:=(by rw[beq_eq_false_iff_ne];omega);have hu:u=s[j2]::s.data.toList.drop (j2+1):=(by rw[←HDU.out,drop_cons s j2 hlt]);have hv:=HV.out;rw[hu]at hv;by_cases h43:((s[j2]'hlt).toNat:Int)=43
       ·have q43a:(((s[j2]'hlt).toNat:Int)==43)=true:=(by rw[beq_iff_eq];exact h43);have q43b:(((s[j2]'hlt).toNat:Int) !=43)=false:=(by rw[bne_eq_false_iff_eq];exact h43);have h43':s[j2]=43:=u8_eq (n:=43) (by omega) h43;rw[h43']at hv;have hg:=hR.out.gp.trans (GP_plus HK.out hv);have HPR:=Lib.hid (prel_move HN4.out HS4.out HB4.out hg (by have:=HLEN.out;simp;omega) ⟨hR.out.small.1,HSM.out⟩);have HPOS2:=Lib.hid (posOf_sc HPR.out.sc);clear hend hu hv h43 h43' hg hap2 HV HN5 HB5 HS5 HSM5;go_wp2_with (first | (at_builtin;refine Lib.wpList_append_run _ rfl _ _ _ _ rfl _ _ rfl rfl _ _ hap' ?_));go_roundw;case rel=>exact⟨j2+1,ns,_,vals,by omega,by omega,HPR⟩
        case measure=>rw[HPOS.out,HPOS2.out];omega
       ·have q43a:(((s[j2]'hlt).toNat:Int)==43)=false:=(by rw[beq_eq_false_iff_ne];exact h43);have q43b:(((s[j2]'hlt).toNat:Int) !=43)=true:=(by rw[bne_iff_ne];exact h43);have hg:=hR.out.gp.trans (GP_next HK.out hv (u8_ne (n:=43) (by omega) h43));have HPR:=Lib.hid (prel_move HN5.out HS5.out HB5.out hg (by have:=HLEN.out;simp;omega) ⟨HSM5.out,fun x hx=>by simp at hx⟩);have HPOS2:=Lib.hid (posOf_sc HPR.out.sc);obtain⟨e0,e1,k1,hb5⟩:=sc_cells HS5.out;obtain⟨⟨ao5,m5,cap5,hvn,hm5,hcap5⟩,_⟩:=nest_letters HN5.out;subst hvn;clear hend hu hv h43 hg HV;go_wp2_with (first | (at_builtin;refine Lib.wpList_append_run _ rfl _ _ _ _ rfl _ _ rfl rfl _ _ hap' ?_) | (at_builtin;refine Lib.wpList_append_run _ rfl _ _ _ _ rfl _ _ rfl rfl _ _ hap2 ?_));go_roundw;case rel=>exact⟨j2+1,_,[],_,by omega,by omega,HPR⟩
        case measure=>rw[HPOS.out,HPOS2.out];omega
end dnw
namespace dnw
open dnp
theorem dropW_idem (l:List UInt8):(l.dropWhile (· =32)).dropWhile (· =32)=l.dropWhile (· =32):=by rw[dropW_id];intro x t h;exact dropW_head (fun c:UInt8=>decide (c=32)) _ _ _ h
theorem kindP_drop (l:List UInt8):kindP (l.dropWhile (· =32))=kindP l:=by unfold kindP;simp only[dropW_idem]
theorem P_drop (l:List UInt8):P (l.dropWhile (· =32))=P l:=by rw[P_step,P_step,kindP_drop]
end dnw
namespace dnw
open dnp
def hexed (c:UInt8):Bool:=decide (c<32∨c=127)
def fenced (first last:Bool)(c:UInt8):Bool:=special c||(decide (c=32)&&(first||last))||(decide (c=35)&&first)
def textB (first last:Bool)(c:UInt8):List UInt8:=if hexed c=true then 92::b64p.hex [c]else if fenced first last c=true then[92,c]else[c]
def textF:Bool→List UInt8→List UInt8
 | _,[]=>[]
 | f,c::t=>textB f t.isEmpty c++textF false t
def textL (v:List UInt8):List UInt8:=textF true v
def sgB (first last:Bool)(c:UInt8):Sg:=(c,!(hexed c||fenced first last c))
def sgF:Bool→List UInt8→List Sg
 | _,[]=>[]
 | f,c::t=>sgB f t.isEmpty c::sgF false t
theorem esc_hexed (c:UInt8)(r:List UInt8):esc (b64p.hex [c]++r)=some (c,2):=by
 have all: ∀m:Fin 256,(special (b64p.dg (m.val / 16))||decide (b64p.dg (m.val / 16)=35)||decide (b64p.dg (m.val / 16)=32))=false∧(0≤b64p.valI (b64p.dg (m.val / 16))∧0≤b64p.valI (b64p.dg (m.val % 16)))∧UInt8.ofNat (16*b64p.valI (b64p.dg (m.val / 16))+b64p.valI (b64p.dg (m.val % 16))).toNat=UInt8.ofNat m.val:=by decide+kernel
 obtain⟨h1,⟨h2,h3⟩,h4⟩:=all ⟨c.toNat,c.toNat_lt⟩;simp only[UInt8.ofNat_toNat]at h1 h2 h3 h4;have hp: ¬plainEsc (b64p.dg (c.toNat / 16)):=by
  rintro(h | h | h)
  ·rw[h]at h1;cases h1
  ·rw[h]at h1;revert h1;decide
  ·rw[h]at h1;revert h1;decide
 have:=esc_hex (t:=r) hp (e:=b64p.dg (c.toNat % 16)) (by omega);rw[h4]at this;exact this
theorem fenced_plain {f l:Bool}{c:UInt8}(h:fenced f l c=true):plainEsc c:=by
 unfold fenced at h;simp only[Bool.or_eq_true,Bool.and_eq_true,decide_eq_true_eq]at h;rcases h with(h | h) | h
 ·exact Or.inl h
 ·exact Or.inr (Or.inr h.1)
 ·exact Or.inr (Or.inl h.1)
theorem scan_textB (f l:Bool)(c:UInt8)(r:List UInt8):scan (textB f l c++r)=(scan r).map fun p=>(sgB f l c::p.1,p.2):=by
 unfold textB sgB;by_cases h1:hexed c=true
 ·rw[if_pos h1,h1,List.cons_append,scan_esc _ c 2 (esc_hexed c r)];rfl
 ·rw[if_neg h1];have h1':hexed c=false:=by simpa using h1
  rw[h1'];by_cases h2:fenced f l c=true
  ·rw[if_pos h2,h2];show scan (92::(c::r))=_;rw[scan_esc _ c 1 (esc_plain (fenced_plain h2))];rfl
  ·rw[if_neg h2];have h2':fenced f l c=false:=(by simpa using h2);rw[h2'];have hs:special c=false:=(by unfold fenced at h2';simp only[Bool.or_eq_false_iff]at h2';exact h2'.1.1);have h3:isSep c=false∧bad c=false∧c≠92:=by
    unfold special at hs;simp only[decide_eq_false_iff_not,not_or]at hs;refine⟨?_,?_,hs.2.2.2.2.2.2.2⟩
    ·simp only[isSep,decide_eq_false_iff_not,not_or];exact⟨hs.2.2.1,hs.2.2.2.1,hs.2.1⟩
    ·simp only[bad,decide_eq_false_iff_not,not_or];exact⟨hs.1,hs.2.2.2.2.1,hs.2.2.2.2.2.2.1⟩
   show scan (c::r)=_;rw[scan_bare c r h3.1 h3.2.1 h3.2.2];rfl
theorem scan_textF: ∀ (f:Bool) (v r:List UInt8),scan (textF f v++r)=(scan r).map fun p=>(sgF f v++p.1,p.2)
 | _,[],r=>by simp[textF,sgF]
 | f,c::t,r=>by rw[textF,List.append_assoc,scan_textB,scan_textF false t r,Option.map_map];rfl
theorem sgF_fst: ∀ (f:Bool) (v:List UInt8),(sgF f v).map (·.1)=v
 | _,[]=>rfl
 | f,c::t=>by rw[sgF,List.map_cons,sgF_fst false t];rfl
theorem sgF_last: ∀ (f:Bool) (c:UInt8) (t:List UInt8),∃A x,sgF f (c::t)=A++[x]∧blankS x=false
 | f,c,[]=>by
  refine⟨[],sgB f true c,rfl,?_⟩;unfold blankS sgB fenced;by_cases h:c=32
  ·subst h;simp
  ·simp[h]
 | f,c,d::t=>by obtain⟨A,x,h1,h2⟩:=sgF_last false d t;refine⟨sgB f false c::A,x,?_,h2⟩;rw[sgF,h1];rfl
theorem trimR_keepall (A u:List Sg)(x:Sg)(hx:blankS x=false)(hu: ∀y∈u,blankS y=true):trimR (A++[x]++u)=A++[x]:=by unfold trimR;rw[List.reverse_append,dropW_app _ u.reverse _ (fun y hy=>hu y (List.mem_reverse.1 hy)),dropW_id,List.reverse_reverse];intro y t h;rw[List.reverse_append]at h;cases h;exact hx
theorem scan_blanks: ∀ (u r:List UInt8),(∀c∈u,c=32)→scan (u++r)=(scan r).map fun p=>(u.map (·,true)++p.1,p.2)
 | [],r,_=>by simp
 | c::u,r,h=>by have hc:=h c (by simp);subst hc;rw[List.cons_append,scan_bare 32 _ (by decide) (by decide) (by decide),scan_blanks u r (fun d hd=>h d (by simp[hd])),Option.map_map];rfl
theorem textF_head (c:UInt8)(t:List UInt8): ∃d s,textF true (c::t)=d::s∧d≠32∧d≠35:=by
 rw[textF];unfold textB;by_cases h1:hexed c=true
 ·rw[if_pos h1];exact⟨92,_,rfl,by decide,by decide⟩
 ·rw[if_neg h1];by_cases h2:fenced true t.isEmpty c=true
  ·rw[if_pos h2];exact⟨92,_,rfl,by decide,by decide⟩
  ·rw[if_neg h2];refine⟨c,_,rfl,?_,?_⟩
   ·rintro rfl;apply h2;simp[fenced]
   ·rintro rfl;apply h2;simp[fenced]
def EndSep (r:List UInt8):Prop:=r=[]∨ ∃c t,r=c::t∧isSep c=true
theorem endSep_scan {r:List UInt8}(h:EndSep r):scan r=some ([],r):=by
 rcases h with rfl | ⟨c,t,rfl,h⟩
 ·exact scan_nil
 ·exact scan_sep c t h
theorem sep_ne {c:UInt8}(h:isSep c=true):c≠32∧c≠35:=by constructor<;>(rintro rfl;revert h;decide)
theorem value_text (z v u r:List UInt8)(hz: ∀c∈z,c=32)(hu: ∀c∈u,c=32)(hr:EndSep r):valueP (z++(textL v++(u++r)))=some (v,r):=by
 have hub: ∀y∈u.map (fun c=>((c,true):Sg)),blankS y=true:=by intro y hy;obtain⟨c,hc,rfl⟩:=List.mem_map.1 hy;rw[hu c hc];decide
 unfold valueP;rw[dropW_app _ z _ (fun c hc=>by simp[hz c hc])];cases v with
 | nil=>
  have e:(textL []++(u++r)).dropWhile (fun c=>decide (c=32))=r:=by
   show(u++r).dropWhile _=r;rw[dropW_app _ u _ (fun c hc=>by simp[hu c hc]),dropW_id];intro x t hx;rcases hr with rfl | ⟨c,t',rfl,h⟩
   ·cases hx
   ·cases hx;simpa using(sep_ne h).1
  rw[e,if_neg,endSep_scan hr]
  ·rfl
  ·rcases hr with rfl | ⟨c,t',rfl,h⟩
   ·simp
   ·simpa using(sep_ne h).2
 | cons c t=>
  obtain⟨d,s,hd,h32,h35⟩:=textF_head c t;have e:(textL (c::t)++(u++r)).dropWhile (fun c=>decide (c=32))=textL (c::t)++(u++r):=by rw[dropW_id];intro x t' hx;unfold textL at hx;rw[hd]at hx;cases hx;simpa using h32
  rw[e,if_neg]
  ·unfold textL;rw[scan_textF,scan_blanks u r hu,endSep_scan hr];simp only[Option.map_some,List.append_nil];obtain⟨A,x,h1,h2⟩:=sgF_last true c t;have h3:=sgF_fst true (c::t);rw[h1]at h3 ⊢;rw[trimR_keepall A _ x h2 hub,h3]
  ·unfold textL;rw[hd];simpa using h35
theorem av_back (a:Av):av (a.t.data.toList,a.v.data.toList)=a:=by unfold av;cases a with | mk t v=>simp
section
variable (U : List UInt8 → List UInt8) (b : List UInt8) (s2 : UInt8)
def pt (a:Av):List UInt8:=U a.t.data.toList++(b++61::(b++textL a.v.data.toList))
def tailR (r:List Av):List UInt8:=r.flatMap fun a=>b++43::(b++pt U b a)
def rdnT:List Av→List UInt8
 | []=>[]
 | a::r=>pt U b a++tailR U b r
def tailN (m:List (List Av)):List UInt8:=m.flatMap fun l=>b++s2::(b++rdnT U b l)
def nameT:List (List Av)→List UInt8
 | []=>[]
 | l::m=>rdnT U b l++tailN U b s2 m
end
def TyAs (U:List UInt8→List UInt8)(a:Av):Prop:=lowL (U a.t.data.toList)=a.t.data.toList∧typeOK a.t.data.toList=true
theorem kind_text {U:List UInt8→List UInt8}{a:Av}(h:TyAs U a){b pre:List UInt8}(hb: ∀c∈b,c=32)(hp: ∀c∈pre,c=32)(r:List UInt8):kindP (pre++(U a.t.data.toList++(b++61::r)))=some (a.t.data.toList,r):=by have:=kindP_of pre (U a.t.data.toList) b r hp hb (by rw[h.1];exact h.2);rw[h.1]at this;rw[←this];simp
theorem GP_text {U:List UInt8→List UInt8}{b:List UInt8}{s2:UInt8}(hb: ∀c∈b,c=32)(hs:isSep s2=true)(h43:s2≠43):
  ∀ (m:List (List Av)) (r:List Av) (ns:List (List Av)) (cur:List Av) (a:Av) (pre:List UInt8),(∀c∈pre,c=32)→(∀x∈a::r,TyAs U x)→(∀l∈m,l≠[]∧ ∀x∈l,TyAs U x)→
   GP ns cur (pre++(pt U b a++(tailR U b r++tailN U b s2 m)))=some (ns++(cur++a::r)::m):=by
 intro m;induction m with
 | nil=>
  intro r;induction r with
  | nil=>intro ns cur a pre hp ha _;have hk:=kind_text (ha a (by simp)) hb hp (b++(textL a.v.data.toList++([]++[])));have hv:=value_text b a.v.data.toList [] [] hb (by simp) (Or.inl rfl);have e:pre++(pt U b a++(tailR U b []++tailN U b s2 []))=pre++(U a.t.data.toList++(b++61::(b++(textL a.v.data.toList++([]++[]))))):=(by simp[pt,tailR,tailN]);rw[e,GP_end hk hv,av_back]
  | cons a' r ih=>intro ns cur a pre hp ha hm;have hk:=kind_text (ha a (by simp)) hb hp (b++(textL a.v.data.toList++(b++43::(b++(pt U b a'++(tailR U b r++tailN U b s2 []))))));have hv:=value_text b a.v.data.toList b (43::(b++(pt U b a'++(tailR U b r++tailN U b s2 [])))) hb hb (Or.inr ⟨43,_,rfl,by decide⟩);have e:pre++(pt U b a++(tailR U b (a'::r)++tailN U b s2 []))=pre++(U a.t.data.toList++(b++61::(b++(textL a.v.data.toList++(b++43::(b++(pt U b a'++(tailR U b r++tailN U b s2 [])))))))):=(by simp[pt,tailR,tailN]);rw[e,GP_plus hk hv,av_back,ih _ _ a' b hb (fun x hx=>ha x (by simp only[List.mem_cons]at hx ⊢;exact Or.inr hx)) hm];simp
 | cons l m ihm=>
  intro r;induction r with
  | nil=>intro ns cur a pre hp ha hm;obtain⟨hl,hlx⟩:=hm l (by simp);obtain⟨a',r',rfl⟩:=List.exists_cons_of_ne_nil hl;have hk:=kind_text (ha a (by simp)) hb hp (b++(textL a.v.data.toList++(b++s2::(b++(pt U b a'++(tailR U b r'++tailN U b s2 m))))));have hv:=value_text b a.v.data.toList b (s2::(b++(pt U b a'++(tailR U b r'++tailN U b s2 m)))) hb hb (Or.inr ⟨s2,_,rfl,hs⟩);have e:pre++(pt U b a++(tailR U b []++tailN U b s2 ((a'::r')::m)))=pre++(U a.t.data.toList++(b++61::(b++(textL a.v.data.toList++(b++s2::(b++(pt U b a'++(tailR U b r'++tailN U b s2 m)))))))):=(by simp[pt,tailR,tailN,rdnT]);rw[e,GP_next hk hv h43,av_back,ihm r' _ [] a' b hb hlx (fun l hl=>hm l (by simp[hl]))];simp
  | cons a' r ih=>intro ns cur a pre hp ha hm;have hk:=kind_text (ha a (by simp)) hb hp (b++(textL a.v.data.toList++(b++43::(b++(pt U b a'++(tailR U b r++tailN U b s2 (l::m)))))));have hv:=value_text b a.v.data.toList b (43::(b++(pt U b a'++(tailR U b r++tailN U b s2 (l::m))))) hb hb (Or.inr ⟨43,_,rfl,by decide⟩);have e:pre++(pt U b a++(tailR U b (a'::r)++tailN U b s2 (l::m)))=pre++(U a.t.data.toList++(b++61::(b++(textL a.v.data.toList++(b++43::(b++(pt U b a'++(tailR U b r++tailN U b s2 (l::m))))))))):=(by simp[pt,tailR,tailN]);rw[e,GP_plus hk hv,av_back,ih _ _ a' b hb (fun x hx=>ha x (by simp only[List.mem_cons]at hx ⊢;exact Or.inr hx)) hm];simp
theorem parse_text {U:List UInt8→List UInt8}{b:List UInt8}{s2:UInt8}(hb: ∀c∈b,c=32)(hs:isSep s2=true)(h43:s2≠43)(n:List (List Av))(hn:nameOK n=true)(hne: ∀l∈n,l≠[]∧ ∀x∈l,TyAs U x):parseR (nameT U b s2 n)=some n:=by
 cases n with
 | nil=>rfl
 | cons l m=>
  obtain⟨hl,hlx⟩:=hne l (by simp);obtain⟨a,r,rfl⟩:=List.exists_cons_of_ne_nil hl;have hg:=GP_text hb hs h43 m r [] [] a [] (by simp) hlx (fun l hl=>hne l (by simp[hl]));simp only[List.nil_append]at hg;have e:nameT U b s2 ((a::r)::m)=pt U b a++(tailR U b r++tailN U b s2 m):=by simp[nameT,rdnT]
  rw[←e]at hg;unfold parseR;have hd:GP [] [] ((nameT U b s2 ((a::r)::m)).dropWhile fun c=>decide (c=32))=some ((a::r)::m):=by rw[←hg];unfold GP;rw[P_drop]
  rw[if_neg]
  ·rw[hd];simp only[hn,if_true]
  ·intro h0;rw[h0]at hd;rw[GP_kind (l:=[]) rfl]at hd;cases hd
end dnw
namespace dnw
open dnp
theorem rdnOK_facts {l:List Av}(h:rdnOK l=true):1≤l.length∧l.length≤4∧ ∀i (hi:i<l.length),pairB l i l[i]=true:=by unfold rdnOK at h;simp only[Bool.and_eq_true,decide_eq_true_eq]at h;refine⟨h.1.1,h.1.2,fun i hi=> ?_⟩;have:=List.all_eq_true.1 h.2 i (List.mem_range.2 hi);rw[List.getElem?_eq_getElem hi]at this;exact this
theorem rdnOK_av {l:List Av}(h:rdnOK l=true): ∀x∈l,typeOK x.t.data.toList=true∧valOK x.v.data.toList=true:=by intro x hx;obtain⟨i,hi,rfl⟩:=List.mem_iff_getElem.1 hx;have:=(rdnOK_facts h).2.2 i hi;unfold pairB at this;simp only[Bool.and_eq_true]at this;exact⟨this.1.2,this.2⟩
theorem nameOK_facts {n:List (List Av)}(h:nameOK n=true):n.length≤12∧ ∀l∈n,rdnOK l=true:=by unfold nameOK at h;simp only[Bool.and_eq_true,decide_eq_true_eq]at h;exact⟨h.1,fun l hl=>List.all_eq_true.1 h.2 l hl⟩
theorem valOK_le {v:List UInt8}(h:valOK v=true):v.length≤255:=by unfold valOK at h;simp only[Bool.and_eq_true,decide_eq_true_eq]at h;exact h.1
theorem low_type: ∀c:UInt8,typeCh c=true→low c=c:=by
 have all: ∀m:Fin 256,(!typeCh (UInt8.ofNat m.val)||decide (low (UInt8.ofNat m.val)=UInt8.ofNat m.val))=true:=by decide+kernel
 intro c h;have:=all ⟨c.toNat,c.toNat_lt⟩;simp only[UInt8.ofNat_toNat,h,Bool.not_true,Bool.false_or,decide_eq_true_eq]at this;exact this
theorem lowL_type {t:List UInt8}(h:typeOK t=true):lowL t=t:=by
 unfold typeOK at h;simp only[Bool.and_eq_true]at h;unfold lowL;conv=>rhs;rw[←List.map_id t]
 apply List.map_congr_left;intro c hc;exact low_type c (List.all_eq_true.1 h.2 c hc)
theorem tyAs_id {a:Av}(h:typeOK a.t.data.toList=true):TyAs id a:=⟨lowL_type h,h⟩
def ptx (a:Av):List UInt8:=a.t.data.toList++61::textL a.v.data.toList
def rdnX (l:List Av):List UInt8:=Lib.join (l.map ptx) [43]
def nameX (n:List (List Av)):List UInt8:=Lib.join (n.map rdnX) [44]
theorem rdnX_cons (a:Av)(r:List Av):rdnX (a::r)=ptx a++r.flatMap fun a=>43::ptx a:=by unfold rdnX;rw[List.map_cons,Lib.join_cons,Lib.joinTail,List.map_map,List.flatMap_def];rfl
theorem nameX_cons (l:List Av)(m:List (List Av)):nameX (l::m)=rdnX l++m.flatMap fun l=>44::rdnX l:=by unfold nameX;rw[List.map_cons,Lib.join_cons,Lib.joinTail,List.map_map,List.flatMap_def];rfl
theorem rdnT_id (l:List Av):rdnT id [] l=rdnX l:=by
 cases l with
 | nil=>rfl
 | cons a r=>rw[rdnX_cons];rfl
theorem nameT_id (n:List (List Av)):nameT id [] 44 n=nameX n:=by
 cases n with
 | nil=>rfl
 | cons l m=>rw[nameX_cons];show rdnT id [] l++m.flatMap (fun l=>44::rdnT id [] l)=_;rw[rdnT_id];congr 2;funext l;rw[rdnT_id]
theorem parse_print (n:List (List Av))(h:nameOK n=true):parseR (nameX n)=some n:=by rw[←nameT_id];refine parse_text (by simp) (by decide) (by decide) n h fun l hl=> ?_;have hr:=(nameOK_facts h).2 l hl;refine⟨?_,fun x hx=>tyAs_id (rdnOK_av hr x hx).1⟩;rintro rfl;have:=(rdnOK_facts hr).1;simp at this
end dnw
namespace tup
open Go.Lib
def rep (old new s:List UInt8):List UInt8:=replaceK old new (count s old) s
theorem replaceAll_rep {old new:List UInt8}(h:(old==new)=false)(s:List UInt8):replaceAll s old new=rep old new s:=by unfold replaceAll replace rep replaceNum;rw[h];simp
theorem rep_nil {old new:List UInt8}(h:old≠[]):rep old new []=[]:=by
 have h1:index [] old= -1:=by
  unfold index;cases old with
  | nil=>exact absurd rfl h
  | cons a t=>rfl
 unfold rep;rw[count_miss h1];rfl
theorem rep_miss {old new:List UInt8}(ho:old≠[])(x:UInt8)(r:List UInt8)(h:old.isPrefixOf (x::r)=false):rep old new (x::r)=x::rep old new r:=by
 have hi:index (x::r) old=if index r old== -1 then-1 else index r old+1:=by rw[index,h];rfl
 by_cases hm:index r old= -1
 ·rw[hm]at hi;have hi':index (x::r) old= -1:=hi;unfold rep;rw[count_miss hi',count_miss hm];rfl
 ·have hge:=index_ge r old;obtain⟨i,hi0⟩: ∃i:Nat,index r old=i:=⟨(index r old).toNat,by omega⟩;have hi1:index (x::r) old=((i+1:Nat):Int):=by rw[hi,hi0,if_neg (by simp)];rfl
  unfold rep;rw[count_hit ho hi0,count_hit ho hi1,Nat.add_comm 1,Nat.add_comm 1,replaceK_hit _ _ _ _ _ hi0,replaceK_hit _ _ _ _ _ hi1];have e:i+1+old.length=(i+old.length)+1:=by omega
  rw[e];simp
theorem rep_hit {old new:List UInt8}(ho:old≠[])(r:List UInt8):rep old new (old++r)=new++rep old new r:=by have hi:index (old++r) old=((0:Nat):Int):=index_first (i:=0) (Nat.zero_le _) (by simp[occAt]) (fun _ h=>absurd h (Nat.not_lt_zero _));unfold rep;rw[count_hit ho hi,Nat.add_comm 1,replaceK_hit _ _ _ _ _ hi];simp
def esc:List UInt8→List UInt8
 | []=>[]
 | c::r=>(if c=0 then[0,255]else[c])++esc r
theorem replace_esc (s:List UInt8):replaceAll s [0] [0,255]=esc s:=by
 rw[replaceAll_rep (by decide)];induction s with
 | nil=>exact rep_nil (by simp)
 | cons c r ih=>
  by_cases hc:c=0
  ·subst hc;have:=rep_hit (old:=[0]) (new:=[0,255]) (by simp) r;rw[List.singleton_append]at this;rw[this,ih];rfl
  ·rw[rep_miss (by simp) c r (by rw[Bool.eq_false_iff];intro e;simp[List.isPrefixOf]at e;exact hc e.symm),ih];simp[esc,hc]
theorem esc_length (s:List UInt8):s.length≤(esc s).length∧(esc s).length≤2*s.length:=by
 induction s with
 | nil=>simp[esc]
 | cons c r ih=>simp only[esc,List.length_append,List.length_cons];split<;>simp<;>omega
def bytes:List ByteArray→List UInt8
 | []=>[]
 | p::r=>esc p.data.toList++[0,1]++bytes r
theorem bytes_append (a b:List ByteArray):bytes (a++b)=bytes a++bytes b:=by
 induction a with
 | nil=>rfl
 | cons p r ih=>simp[bytes,ih]
theorem bytes_mem {l:List ByteArray}{p:ByteArray}(h:p∈l):p.size≤(bytes l).length:=by
 induction l with
 | nil=>cases h
 | cons q r ih=>
  have he:=(esc_length q.data.toList).1;rcases List.mem_cons.1 h with rfl | h'
  ·simp only[bytes,List.length_append];simp at he;omega
  ·have:=ih h';simp only[bytes,List.length_append];omega
theorem bytes_small {l:List ByteArray}(h: ∀p∈l,p.size≤4096):(bytes l).length≤8194*l.length:=by
 induction l with
 | nil=>simp[bytes]
 | cons q r ih=>have he:=(esc_length q.data.toList).2;have h1:=h q (by simp);have h2:=ih (fun p hp=>h p (by simp[hp]));simp at he;simp only[bytes,List.length_append,List.length_cons];simp;omega
def out (l:List ByteArray):ByteArray × Int:=if 16<l.length then(⟨#[]⟩,1)else if 4096<(bytes l).length then(⟨#[]⟩,5)else(⟨(bytes l).toArray⟩,0)
end tup
namespace dnw
open dnp
def rv (v:List UInt8):List UInt8:=(prp.readyO v true).getD []
theorem rv_ok {v:List UInt8}(h:valOK v=true):prp.readyO v true=some (rv v):=by
 unfold valOK at h;unfold rv;cases hr:prp.readyO v true with
 | none=>rw[hr]at h;simp at h
 | some t=>rfl
def partB (a:Av):ByteArray:=(tup.out [a.t,⟨(rv a.v.data.toList).toArray⟩]).1
theorem partB_len (a:Av):(partB a).size≤4096:=by
 unfold partB tup.out;rw[if_neg (by simp)];split
 ·exact Nat.zero_le _
 ·rename_i h;rw[←kt.size_len];show(tup.bytes _).length≤_;omega
def sortL (l:List (List UInt8)):List (List UInt8):=l.mergeSort fun x y=>decide (x≤y)
def partsL (l:List Av):List (List UInt8):=l.map fun a=>(partB a).data.toList
def keyL (l:List Av):List UInt8:=(sortL (partsL l)).flatten
theorem join_flat (xs:List (List UInt8)):Lib.join xs []=xs.flatten:=by
 cases xs with
 | nil=>rfl
 | cons x r=>rw[Lib.join_cons,Lib.joinTail,List.flatten_cons];congr 2;simp
theorem flatten_len_le (k:Nat): ∀l:List (List UInt8),(∀x∈l,x.length≤k)→l.flatten.length≤l.length*k
 | [],_=>by simp
 | x::l,h=>by have h1:=h x (by simp);have h2:=flatten_len_le k l (fun y hy=>h y (by simp[hy]));rw[List.flatten_cons,List.length_append,List.length_cons,Nat.add_mul];omega
theorem keyL_len (l:List Av):(keyL l).length≤l.length*4096:=by
 have h:=flatten_len_le 4096 (sortL (partsL l)) (fun x hx=>by have:=(List.mergeSort_perm (partsL l) _).mem_iff.1 hx;unfold partsL at this;obtain⟨a,_,rfl⟩:=List.mem_map.1 this;rw[kt.size_len];exact partB_len a);have h2:(sortL (partsL l)).length=l.length:=by unfold sortL partsL;simp
 rw[h2]at h;exact h
def keysB (n:List (List Av)):List ByteArray:=n.reverse.map fun l=>⟨(keyL l).toArray⟩
theorem keysB_len (n:List (List Av)):(keysB n).length=n.length:=by simp[keysB]
end dnw
open Go.RowKit
namespace dnw
open dnp
theorem parseR_ok {l:List UInt8}{n:List (List Av)}(h:parseR l=some n):nameOK n=true:=by
 unfold parseR at h;split at h
 ·cases h;rfl
 ·split at h
  ·cases h
  ·split at h
   ·cases h;assumption
   ·cases h
def parseV (s:ByteArray):List (List Av) × Int:=if 1000<s.size then([],5)else match parseR s.data.toList with
 | none=>([],4)
 | some n=>(n,0)
theorem parseE_V {s:ByteArray}{w:World}{e:Ending}{w':World}(h:ParseE s w e w'):Below w.heap.size w w'∧ ∃ao cap,e= .returned (.tuple #[.slice ao (parseV s).1.length cap,.int .i64 (parseV s).2])∧Rdns w' ao (parseV s).1:=by
 obtain⟨h1,h2⟩:=h;refine⟨h1,?_⟩;unfold parseV;split at h2
 ·rename_i hl;rw[if_pos hl];exact⟨none,0,h2,fun i hi=>by simp at hi⟩
 ·rename_i hl;rw[if_neg hl];cases hp:parseR s.data.toList with
  | none=>rw[hp]at h2;exact⟨none,0,h2,fun i hi=>by simp at hi⟩
  | some n=>rw[hp]at h2;obtain⟨ao,cap,h3,_,h4,_⟩:=h2;exact⟨ao,cap,h3,h4⟩
end dnw
namespace atp
open atw (bs)
def tT:List UInt8:=[84,82,85,69]
def tF:List UInt8:=[70,65,76,83,69]
def ne0 (o:Option (List UInt8)):Option (List UInt8):=match o with
 | none=>none
 | some u=>if u=[]then none else some u
theorem ne0_some {u:List UInt8}(h:u≠[]):ne0 (some u)=some u:=by unfold ne0;exact if_neg h
def joinK (l:List ByteArray):List UInt8:=(l.map (·.data.toList)).flatten
def nameK (l:List UInt8):Option (List UInt8):=match dnw.parseR l with
 | none=>none
 | some n=>some (joinK (dnw.keysB n))
def formO (syn:Int)(l:List UInt8):Option (List UInt8):=
 if syn=1 then ne0 (prp.readyO l true)else if syn=2 then ne0 (prp.readyO l false)else if syn=7 then ne0 (prp.phoneO l)
 else if syn=4 then(if numOK l=true then some l else none)
 else if syn=5 then(if l=tT∨l=tF then some l else none)
 else if syn=6 then nameK l
 else some l
def normL (syn:Int)(l:List UInt8):List UInt8 × Int:=
 if¬ (1≤syn∧syn≤7)then([],14)else if 1000<l.length then([],5)else if l=[]then([],4)else match formO syn l with
  | none=>([],4)
  | some u=>(u,0)
theorem normL_bad {syn:Int}{l:List UInt8}(h: ¬ (1≤syn∧syn≤7)):normL syn l=([],14):=by unfold normL;rw[if_pos h]
theorem normL_long {syn:Int}{l:List UInt8}(h:1≤syn∧syn≤7)(h1:1000<l.length):normL syn l=([],5):=by unfold normL;rw[if_neg (not_not_intro h),if_pos h1]
theorem normL_nil {syn:Int}{l:List UInt8}(h:1≤syn∧syn≤7)(h1:l=[]):normL syn l=([],4):=by unfold normL;rw[if_neg (not_not_intro h),if_neg (by rw[h1];simp),if_pos h1]
theorem normL_form {syn:Int}{l:List UInt8}(h:1≤syn∧syn≤7)(h1:l.length≤1000)(h2:l≠[]):normL syn l=match formO syn l with
  | none=>([],4)
  | some u=>(u,0):=by unfold normL;rw[if_neg (not_not_intro h),if_neg (by omega),if_neg h2]
theorem name_smalls {n:List (List dnw.Av)}(h:dnw.nameOK n=true): ∀l∈n,dnw.Smalls l:=by intro l hl x hx;unfold dnw.nameOK at h;rw[Bool.and_eq_true]at h;have h1:=List.all_eq_true.1 h.2 l hl;unfold dnw.rdnOK at h1;simp only[Bool.and_eq_true]at h1;obtain⟨i,hi,rfl⟩:=List.mem_iff_getElem.1 hx;have h2:=List.all_eq_true.1 h1.2 i (List.mem_range.2 hi);rw[List.getElem?_eq_getElem hi]at h2;simp only at h2;unfold dnw.pairB at h2;simp only[Bool.and_eq_true]at h2;have h3:=(dnw.typeOK_iff _).1 h2.1.2;have h4:=h2.2;unfold dnw.valOK at h4;rw[Bool.and_eq_true,decide_eq_true_eq]at h4;have e1:=h3.2.1;have e2:=h4.1;rw[kt.size_len]at e1 e2;exact⟨by omega,by omega⟩
theorem parseR_ok {l:List UInt8}{n:List (List dnw.Av)}(h:dnw.parseR l=some n):dnw.nameOK n=true:=by
 unfold dnw.parseR at h;split at h
 ·cases h;decide
 ·split at h
  ·cases h
  ·split at h
   ·cases h;assumption
   ·cases h
theorem joinK_len (n:List (List dnw.Av))(h:dnw.nameOK n=true):(joinK (dnw.keysB n)).length≤200000:=by
 have hn:n.length≤12:=by unfold dnw.nameOK at h;rw[Bool.and_eq_true,decide_eq_true_eq]at h;exact h.1
 have hl: ∀l∈n,l.length≤4:=by intro l hl;unfold dnw.nameOK at h;rw[Bool.and_eq_true]at h;have h1:=List.all_eq_true.1 h.2 l hl;unfold dnw.rdnOK at h1;simp only[Bool.and_eq_true,decide_eq_true_eq]at h1;exact h1.1.2
 have h2:=dnw.flatten_len_le 16384 ((dnw.keysB n).map (·.data.toList)) (by intro x hx;unfold dnw.keysB at hx;rw[List.map_map]at hx;obtain⟨l,hl2,rfl⟩:=List.mem_map.1 hx;have:=dnw.keyL_len l;have:=hl l (List.mem_reverse.1 hl2);show(dnw.keyL l).length≤_;omega);unfold joinK;rw[List.length_map,dnw.keysB_len]at h2;omega
end atp
open Go.RowKit
namespace atw
open atp
theorem num_eq {l:List UInt8}(h:l≠[48]):numOK l=(decide (1≤(bare l).length)&&decide ((bare l).length≤18)&&decide ((bare l).head?≠some 48)&&(bare l).all digit):=by unfold numOK;rw[decide_eq_false h,Bool.false_or]
theorem num_len {l:List UInt8}(h:l≠[48])(h1:(bare l).length=0∨18<(bare l).length):false=numOK l:=by
 rw[num_eq h];rcases h1 with h1 | h1
 ·rw[h1];rfl
 ·rw[decide_eq_false (p:=(bare l).length≤18) (by omega)];simp
theorem num_zero {l:List UInt8}(h:l≠[48])(h1:(bare l).head?=some 48):false=numOK l:=by rw[num_eq h,h1];simp
theorem num_bad {l:List UInt8}{c:UInt8}(h:l≠[48])(hc:c∈bare l)(hd: ¬ (48≤(c.toNat:Int)∧(c.toNat:Int)≤57)):false=numOK l:=by
 rw[num_eq h];have:(bare l).all digit=false:=by rw[Bool.eq_false_iff];intro e;have:=List.all_eq_true.1 e c hc;unfold digit at this;rw[decide_eq_true_iff]at this;omega
 rw[this];simp
theorem num_yes {l:List UInt8}(h:l≠[48])(h1:1≤(bare l).length)(h2:(bare l).length≤18)(h3:(bare l).head?≠some 48)(h4: ∀c∈bare l,48≤(c.toNat:Int)∧(c.toNat:Int)≤57):true=numOK l:=by rw[num_eq h,decide_eq_true h1,decide_eq_true h2,decide_eq_true h3];symm;simp only[Bool.true_and];rw[List.all_eq_true];intro c hc;have:=h4 c hc;unfold digit;rw[decide_eq_true_iff];omega
theorem ne_s {s:ByteArray}(h:0<s.size): ∃t,s.data.toList=s[0]::t:=by refine⟨s.data.toList.drop 1,?_⟩;have:=List.drop_eq_getElem_cons (l:=s.data.toList) (i:=0) (by simpa using h);rw[List.drop_zero]at this;exact this
theorem head_s {s:ByteArray}(h:0<s.size):s.data.toList.head?=some s[0]:=by obtain⟨t,ht⟩:=ne_s h;rw[ht];rfl
theorem mem_s {s:ByteArray}{k:Nat}(h:k<s.size):s[k]∈s.data.toList:=by have:s.data.toList[k]'(by simpa using h)∈s.data.toList:=List.getElem_mem _;exact this
theorem zero_s {s:ByteArray}(h0:s.size=0):s=ByteArray.empty:=by
 apply kt.str_eq;have:s.data.toList.length=0:=by simpa using h0
 rw[List.eq_nil_of_length_eq_zero this];rfl
theorem u8_of {c:UInt8}{n:Nat}(hn:n<256)(h:(c.toNat:Int)=n):c=UInt8.ofNat n:=by apply UInt8.toNat_inj.1;rw[UInt8.toNat_ofNat'];omega
end atw
open Go.RowKit
namespace atw
open atp
theorem str_ne {s:ByteArray}(h:0<s.size):s.toList.isEmpty=false∧ ¬s.toList=[]:=by rw[Lib.toList_data];obtain⟨t,ht⟩:=ne_s h;rw[ht];exact⟨rfl,by simp⟩
theorem pre_one (l:List UInt8)(c:UInt8):Lib.hasPrefix l [c]=decide (l.head?=some c):=by
 unfold Lib.hasPrefix;cases l with
 | nil=>simp[List.isPrefixOf]
 | cons d t=>simp only[List.isPrefixOf,Bool.and_true,List.head?_cons,Option.some.injEq];rw[Bool.eq_iff_iff,beq_iff_eq,decide_eq_true_iff];exact eq_comm
theorem trim_45 (l:List UInt8):Lib.trimPrefix l [45]=bare l:=by
 unfold Lib.trimPrefix bare;rw[pre_one];by_cases h:l.head?=some 45
 ·rw[if_pos (by simpa using h),if_pos h];simp
 ·rw[if_neg (by simpa using h),if_neg h]
theorem number_any (s:ByteArray)(w:World)(hs:s.size≤1100000):Calls Tryz.prog 291 #[.string s] w fun e w'=>e= .returned (.bool (numOK s.data.toList))∧w=w':=by
  obtain⟨x,hx⟩: ∃x,x=bs (bare s.data.toList):=⟨_,rfl⟩;have HBX:Hid (bare s.data.toList=x.data.toList):=by rw[hx];rfl
  have hxs:x.size≤1100000:=by
    rw[hx,bs_size];unfold bare;split
    · rw[List.length_tail,kt.size_len];omega
    · rw[kt.size_len];exact hs
  have HTP:Hid (∀w,Calls Tryz.prog 315 #[.string s,.string ⟨#[45]⟩] w fun e w'=>e= .returned (.string x)∧w=w'):=by intro w;refine(Tryz.strings_TrimPrefix s ⟨#[45]⟩ w).mono ?_;rintro e w' ⟨rfl,rfl⟩;refine⟨?_,rfl⟩;rw[hx];show Ending.returned (.string (bs (Lib.trimPrefix s.data.toList [45])))=_;rw[trim_45]
  clear hx;by_cases h0:s.data.toList=[48]
  · have hne:=trivial;have hbx:bare s.data.toList=x.data.toList:=HBX.out;have hxs1:x.data.toList=[48]:=(by rw[←hbx,h0];rfl);have hx1s:x.size=1:=(by rw[←kt.size_len,hxs1];rfl);have hxp:0<x.size:=(by omega);obtain⟨xe1,xe2⟩:=str_ne hxp;have hxpI:(0:Int)<(x.size:Int):=(by omega);have hx1:decide ((18:Int)<(x.size:Int))=false:=(by rw[decide_eq_false_iff_not];omega);obtain⟨c0,hc0⟩: ∃c,x[0]'hxp=c:=⟨_,rfl⟩;have hc48:c0=48:=(by have:=head_s hxp;rw[hxs1,hc0]at this;simpa using this.symm);have q:((c0.toNat:Int)==48)=true:=(by rw[hc48];rfl);have q0:(s.toList==[48])=true:=(by rw[Lib.toList_data,h0];rfl);have HNY:Hid (true=numOK s.data.toList):=(by rw[h0];exact(by decide:true=numOK [48]));have HB:Hid (∀k (hk:k<x.size),¬ (48≤(x[k].toNat:Int)∧(x[k].toNat:Int)≤57)→false=numOK s.data.toList):=(by intro k hk h;exfalso;obtain rfl:k=0:=(by omega);rw[hc0,hc48]at h;exact h (by decide));have HY:Hid ((∀k (hk:k<x.size),48≤(x[k].toNat:Int)∧(x[k].toNat:Int)≤57)→true=numOK s.data.toList):=fun _=>HNY.out;have hxs9:=Lib.hid hx1s;clear h0 hxs1 hx1s hc48 hbx hne;go_enter Tryz.func291,Tryz.ntmps291;go_wp2_with fail;refine(HTP.out _).mono ?_;rintro e w1 ⟨rfl,rfl⟩;go_wp2_with fail;go_loop [4,25] (fun _ iv=> ∃k:Nat,k≤x.size∧iv= .int .i64 (k:Int)∧Hid (∀j (hj:j<x.size),j<k→48≤(x[j].toNat:Int)∧(x[j].toNat:Int)≤57)) (fun _ iv=>x.size- (intOf iv).toNat);case atStart=>exact⟨0,Nat.zero_le _,rfl,fun j hj h=>by omega⟩
    case round=>
      obtain⟨k,hk,rfl,hA⟩:=hrel;by_cases hlt:k<x.size
      · have hlt':(k:Int)<(x.size:Int):=(by omega);have HA:Hid (48≤((x[k]'hlt).toNat:Int)∧((x[k]'hlt).toNat:Int)≤57→ ∀j (hj:j<x.size),j<k+1→48≤(x[j].toNat:Int)∧(x[j].toNat:Int)≤57):=by
          intro ht j hj h;by_cases e:j=k
          · subst e;exact ht
          · exact hA.out j hj (by omega)
        have HN:=Lib.hid (HB.out k hlt);clear hc0;obtain⟨c,hc⟩: ∃c,x[k]'hlt=c:=⟨_,rfl⟩;rw[hc]at HA HN;have hcn:=c.toNat_lt;go_wp2_with fail;all_goals first
          | (go_ret;exact⟨kt.ret_bool (HN.out (by omega)),rfl⟩)
          | (go_round
             case rel=>exact⟨k+1,by omega,by go_num,HA.out (by omega)⟩
             case measure=>simp[intOf];omega)
          | (exfalso;simp only[Bool.not_eq_true',Bool.not_eq_false',Bool.or_eq_true,Bool.and_eq_true,Bool.or_eq_false_iff,Bool.and_eq_false_iff,decide_eq_true_eq,decide_eq_false_iff_not,beq_iff_eq,bne_iff_ne,bne_eq_false_iff_eq,beq_eq_false_iff_ne,ne_eq,Classical.not_not]at*;omega)
      · obtain rfl:k=x.size:=(by omega);have HE:=Lib.hid (HY.out (fun j hj=>hA.out j hj hj));clear hc0;go_wp2_with fail;go_ret;exact⟨kt.ret_bool HE.out,rfl⟩
  · have hne:=h0;have hbx:bare s.data.toList=x.data.toList:=HBX.out;have q0:(s.toList==[48])=false:=(by rw[Lib.toList_data];simpa using h0);clear h0;by_cases hx0:x.size=0
    · have HF:=Lib.hid (num_len hne (Or.inl (by rw[hbx,kt.size_len];exact hx0)));have hx1:x.toList=[]:=(by rw[zero_s hx0,Lib.toList_data];rfl);clear hx0 hbx hne;go_enter Tryz.func291,Tryz.ntmps291;go_wp2_with fail;refine(HTP.out _).mono ?_;rintro e w1 ⟨rfl,rfl⟩;go_wp2_with fail;go_ret;exact⟨kt.ret_bool HF.out,rfl⟩
    by_cases hx18:18<x.size
    · have HF:=Lib.hid (num_len hne (Or.inr (by rw[hbx,kt.size_len];exact hx18)));have hx1:(18:Int)<(x.size:Int):=(by omega);obtain⟨xe1,xe2⟩:=str_ne (s:=x) (by omega);clear hx0 hx18 hbx hne;go_enter Tryz.func291,Tryz.ntmps291;go_wp2_with fail;refine(HTP.out _).mono ?_;rintro e w1 ⟨rfl,rfl⟩;go_wp2_with fail;go_ret;exact⟨kt.ret_bool HF.out,rfl⟩
    have hxp:0<x.size:=(by omega);obtain⟨xe1,xe2⟩:=str_ne hxp;have hxpI:(0:Int)<(x.size:Int):=(by omega);have hx1:decide ((18:Int)<(x.size:Int))=false:=(by rw[decide_eq_false_iff_not];omega);have hx2:decide ((x.size:Int)<1)=false:=(by rw[decide_eq_false_iff_not];omega);obtain⟨c0,hc0⟩: ∃c,x[0]'hxp=c:=⟨_,rfl⟩;by_cases h48:(c0.toNat:Int)=48
    · have HF:=Lib.hid (num_zero hne (by rw[hbx,head_s hxp,hc0,u8_of (n:=48) (by omega) h48];rfl));have q:((c0.toNat:Int)==48)=true:=(by rw[beq_iff_eq];exact h48);clear hx0 hx18 hbx hne h48;go_enter Tryz.func291,Tryz.ntmps291;go_wp2_with fail;refine(HTP.out _).mono ?_;rintro e w1 ⟨rfl,rfl⟩;go_wp2_with fail;go_ret;exact⟨kt.ret_bool HF.out,rfl⟩
    have q:((c0.toNat:Int)==48)=false:=(by rw[beq_eq_false_iff_ne];exact h48);have HB:Hid (∀k (hk:k<x.size),¬ (48≤(x[k].toNat:Int)∧(x[k].toNat:Int)≤57)→false=numOK s.data.toList):=fun k hk h=>num_bad hne (by rw[hbx];exact mem_s hk) h;have HY:Hid ((∀k (hk:k<x.size),48≤(x[k].toNat:Int)∧(x[k].toNat:Int)≤57)→true=numOK s.data.toList):=(by intro h;refine num_yes hne (by rw[hbx,kt.size_len];omega) (by rw[hbx,kt.size_len];omega) (by rw[hbx,head_s hxp,hc0];intro e;apply h48;rw[Option.some.injEq]at e;rw[e];rfl) ?_;intro c hc;rw[hbx]at hc;obtain⟨k,hk,rfl⟩:=List.mem_iff_getElem.1 hc;exact h k (by simpa using hk));clear hx0 hx18 hbx hne h48;go_enter Tryz.func291,Tryz.ntmps291;go_wp2_with fail;refine(HTP.out _).mono ?_;rintro e w1 ⟨rfl,rfl⟩;go_wp2_with fail;go_loop [4,25] (fun _ iv=> ∃k:Nat,k≤x.size∧iv= .int .i64 (k:Int)∧Hid (∀j (hj:j<x.size),j<k→48≤(x[j].toNat:Int)∧(x[j].toNat:Int)≤57)) (fun _ iv=>x.size- (intOf iv).toNat);case atStart=>exact⟨0,Nat.zero_le _,rfl,fun j hj h=>by omega⟩
    case round=>
      obtain⟨k,hk,rfl,hA⟩:=hrel;by_cases hlt:k<x.size
      · have hlt':(k:Int)<(x.size:Int):=(by omega);have HA:Hid (48≤((x[k]'hlt).toNat:Int)∧((x[k]'hlt).toNat:Int)≤57→ ∀j (hj:j<x.size),j<k+1→48≤(x[j].toNat:Int)∧(x[j].toNat:Int)≤57):=by
          intro ht j hj h;by_cases e:j=k
          · subst e;exact ht
          · exact hA.out j hj (by omega)
        have HN:=Lib.hid (HB.out k hlt);clear hc0;obtain⟨c,hc⟩: ∃c,x[k]'hlt=c:=⟨_,rfl⟩;rw[hc]at HA HN;have hcn:=c.toNat_lt;go_wp2_with fail;all_goals first
          | (go_ret;exact⟨kt.ret_bool (HN.out (by omega)),rfl⟩)
          | (go_round
             case rel=>exact⟨k+1,by omega,by go_num,HA.out (by omega)⟩
             case measure=>simp[intOf];omega)
          | (exfalso;simp only[Bool.not_eq_true',Bool.not_eq_false',Bool.or_eq_true,Bool.and_eq_true,Bool.or_eq_false_iff,Bool.and_eq_false_iff,decide_eq_true_eq,decide_eq_false_iff_not,beq_iff_eq,bne_iff_ne,bne_eq_false_iff_eq,beq_eq_false_iff_ne,ne_eq,Classical.not_not]at*;omega)
      · obtain rfl:k=x.size:=(by omega);have HE:=Lib.hid (HY.out (fun j hj=>hA.out j hj hj));clear hc0;go_wp2_with fail;go_ret;exact⟨kt.ret_bool HE.out,rfl⟩
end atw
open Go.RowKit
namespace atw
open atp
def tval (t:Ty):List Value:=[.string (bs t.name),.int .i64 t.syn,.bool t.single]
def tcells:List Value:=tys.flatMap tval
def TyEnv (w:World):Prop:=w.rangeAt 0 0 tcells
theorem tyEnv_below {w w':World}(h:TyEnv w)(hb:Below w.heap.size w w'):TyEnv w':=fun j u hj=>(hb.cell (World.block_lt_of_cell? w _ (h j u hj))).trans (h j u hj)
theorem tinfo:(Tryz.prog.info? 169).map (·.size)=some tcells.length:=by kernel_rfl
theorem tix0 (w:World):(Instr.index 169 (.agg tcells.toArray) (.int .i64 (0:Nat))).run Tryz.prog w= .ok (.agg (tval (tys[0]'(by decide))).toArray) w:=by kernel_rfl
theorem tix1 (w:World):(Instr.index 169 (.agg tcells.toArray) (.int .i64 (1:Nat))).run Tryz.prog w= .ok (.agg (tval (tys[1]'(by decide))).toArray) w:=by kernel_rfl
theorem tix2 (w:World):(Instr.index 169 (.agg tcells.toArray) (.int .i64 (2:Nat))).run Tryz.prog w= .ok (.agg (tval (tys[2]'(by decide))).toArray) w:=by kernel_rfl
theorem tix3 (w:World):(Instr.index 169 (.agg tcells.toArray) (.int .i64 (3:Nat))).run Tryz.prog w= .ok (.agg (tval (tys[3]'(by decide))).toArray) w:=by kernel_rfl
theorem tix4 (w:World):(Instr.index 169 (.agg tcells.toArray) (.int .i64 (4:Nat))).run Tryz.prog w= .ok (.agg (tval (tys[4]'(by decide))).toArray) w:=by kernel_rfl
theorem tix5 (w:World):(Instr.index 169 (.agg tcells.toArray) (.int .i64 (5:Nat))).run Tryz.prog w= .ok (.agg (tval (tys[5]'(by decide))).toArray) w:=by kernel_rfl
theorem tix6 (w:World):(Instr.index 169 (.agg tcells.toArray) (.int .i64 (6:Nat))).run Tryz.prog w= .ok (.agg (tval (tys[6]'(by decide))).toArray) w:=by kernel_rfl
theorem tix7 (w:World):(Instr.index 169 (.agg tcells.toArray) (.int .i64 (7:Nat))).run Tryz.prog w= .ok (.agg (tval (tys[7]'(by decide))).toArray) w:=by kernel_rfl
theorem tix8 (w:World):(Instr.index 169 (.agg tcells.toArray) (.int .i64 (8:Nat))).run Tryz.prog w= .ok (.agg (tval (tys[8]'(by decide))).toArray) w:=by kernel_rfl
theorem tix9 (w:World):(Instr.index 169 (.agg tcells.toArray) (.int .i64 (9:Nat))).run Tryz.prog w= .ok (.agg (tval (tys[9]'(by decide))).toArray) w:=by kernel_rfl
theorem tix10 (w:World):(Instr.index 169 (.agg tcells.toArray) (.int .i64 (10:Nat))).run Tryz.prog w= .ok (.agg (tval (tys[10]'(by decide))).toArray) w:=by kernel_rfl
theorem tix11 (w:World):(Instr.index 169 (.agg tcells.toArray) (.int .i64 (11:Nat))).run Tryz.prog w= .ok (.agg (tval (tys[11]'(by decide))).toArray) w:=by kernel_rfl
theorem tix12 (w:World):(Instr.index 169 (.agg tcells.toArray) (.int .i64 (12:Nat))).run Tryz.prog w= .ok (.agg (tval (tys[12]'(by decide))).toArray) w:=by kernel_rfl
theorem tix13 (w:World):(Instr.index 169 (.agg tcells.toArray) (.int .i64 (13:Nat))).run Tryz.prog w= .ok (.agg (tval (tys[13]'(by decide))).toArray) w:=by kernel_rfl
theorem tix14 (w:World):(Instr.index 169 (.agg tcells.toArray) (.int .i64 (14:Nat))).run Tryz.prog w= .ok (.agg (tval (tys[14]'(by decide))).toArray) w:=by kernel_rfl
theorem tix15 (w:World):(Instr.index 169 (.agg tcells.toArray) (.int .i64 (15:Nat))).run Tryz.prog w= .ok (.agg (tval (tys[15]'(by decide))).toArray) w:=by kernel_rfl
theorem tix16 (w:World):(Instr.index 169 (.agg tcells.toArray) (.int .i64 (16:Nat))).run Tryz.prog w= .ok (.agg (tval (tys[16]'(by decide))).toArray) w:=by kernel_rfl
theorem tix17 (w:World):(Instr.index 169 (.agg tcells.toArray) (.int .i64 (17:Nat))).run Tryz.prog w= .ok (.agg (tval (tys[17]'(by decide))).toArray) w:=by kernel_rfl
theorem tix18 (w:World):(Instr.index 169 (.agg tcells.toArray) (.int .i64 (18:Nat))).run Tryz.prog w= .ok (.agg (tval (tys[18]'(by decide))).toArray) w:=by kernel_rfl
theorem tix19 (w:World):(Instr.index 169 (.agg tcells.toArray) (.int .i64 (19:Nat))).run Tryz.prog w= .ok (.agg (tval (tys[19]'(by decide))).toArray) w:=by kernel_rfl
theorem tix (i:Nat)(hi:i<20)(w:World):(Instr.index 169 (.agg tcells.toArray) (.int .i64 (i:Int))).run Tryz.prog w= .ok (.agg (tval (tys[i]'hi)).toArray) w:=by
 match i,hi with
 | 0,_=>exact tix0 w
 | 1,_=>exact tix1 w
 | 2,_=>exact tix2 w
 | 3,_=>exact tix3 w
 | 4,_=>exact tix4 w
 | 5,_=>exact tix5 w
 | 6,_=>exact tix6 w
 | 7,_=>exact tix7 w
 | 8,_=>exact tix8 w
 | 9,_=>exact tix9 w
 | 10,_=>exact tix10 w
 | 11,_=>exact tix11 w
 | 12,_=>exact tix12 w
 | 13,_=>exact tix13 w
 | 14,_=>exact tix14 w
 | 15,_=>exact tix15 w
 | 16,_=>exact tix16 w
 | 17,_=>exact tix17 w
 | 18,_=>exact tix18 w
 | 19,_=>exact tix19 w
 | n+20,h=>exact absurd h (by omega)
def resT:Option Ty→Value
 | some t=> .tuple #[.agg #[.string (bs t.name),.int .i64 t.syn,.bool t.single],.bool true]
 | none=> .tuple #[.agg #[.string ⟨#[]⟩,.int .i64 0,.bool false],.bool false]
def AC (w:World)(p:Nat):Prop:= ∃x i b,w.heap[p]? =some (.cells #[.string x,.int .i64 i,.bool b] 108 (0,0))
theorem ac_lt {w:World}{p:Nat}(h:AC w p):p<w.heap.size:=by obtain⟨x,i,b,h⟩:=h;exact kt.bld_lt h
theorem ac_below {w w':World}{p:Nat}(h:AC w p)(hb:Below w.heap.size w w'):AC w' p:=by have hlt:=ac_lt h;obtain⟨x,i,b,h⟩:=h;exact⟨x,i,b,(hb.block p hlt).trans h⟩
theorem ac_cells {w:World}{p:Nat}(h:AC w p):(∃x,w.cell? ⟨p,0,none⟩=some (.string x))∧(∃i,w.cell? ⟨p,1,none⟩=some (.int .i64 i))∧(∃b,w.cell? ⟨p,2,none⟩=some (.bool b))∧w.frozen? ⟨p,0,none⟩=false∧w.frozen? ⟨p,1,none⟩=false∧w.frozen? ⟨p,2,none⟩=false:=by obtain⟨x,i,b,h⟩:=h;exact⟨⟨x,by rw[Lib.cell_of_heap h];rfl⟩,⟨i,by rw[Lib.cell_of_heap h];rfl⟩,⟨b,by rw[Lib.cell_of_heap h];rfl⟩,Lib.frozen_of_heap h 0,Lib.frozen_of_heap h 1,Lib.frozen_of_heap h 2⟩
theorem ac_new (w:World)(x:ByteArray)(i:Int)(b:Bool):AC (w.alloc (.cells #[.string x,.int .i64 i,.bool b] 108)) w.heap.size:=⟨x,i,b,heap_alloc_new w _⟩
theorem ac_store {w:World}{p:Nat}(h:AC w p)(a b c:Value):(((w.setCell ⟨p,0,none⟩ a).setCell ⟨p,1,none⟩ b).setCell ⟨p,2,none⟩ c).cell? ⟨p,0,none⟩=some a∧(((w.setCell ⟨p,0,none⟩ a).setCell ⟨p,1,none⟩ b).setCell ⟨p,2,none⟩ c).cell? ⟨p,1,none⟩=some b∧(((w.setCell ⟨p,0,none⟩ a).setCell ⟨p,1,none⟩ b).setCell ⟨p,2,none⟩ c).cell? ⟨p,2,none⟩=some c:=by
 obtain⟨⟨x,h0⟩,⟨y,h1⟩,⟨z,h2⟩,_⟩:=ac_cells h;have n01:(⟨p,0,none⟩:Addr)≠⟨p,1,none⟩:=by intro hh;injection hh with _ h _;cases h
 have n02:(⟨p,0,none⟩:Addr)≠⟨p,2,none⟩:=by intro hh;injection hh with _ h _;cases h
 have n12:(⟨p,1,none⟩:Addr)≠⟨p,2,none⟩:=by intro hh;injection hh with _ h _;cases h
 have k0:=World.cell?_setCell_same w ⟨p,0,none⟩ a h0;have k1:(w.setCell ⟨p,0,none⟩ a).cell? ⟨p,1,none⟩=some (.int .i64 y):=by rw[World.cell?_setCell_other _ _ _ _ n01,h1]
 have k2:(w.setCell ⟨p,0,none⟩ a).cell? ⟨p,2,none⟩=some (.bool z):=by rw[World.cell?_setCell_other _ _ _ _ n02,h2]
 have m1:=World.cell?_setCell_same _ ⟨p,1,none⟩ b k1;have m0:((w.setCell ⟨p,0,none⟩ a).setCell ⟨p,1,none⟩ b).cell? ⟨p,0,none⟩=some a:=by rw[World.cell?_setCell_other _ _ _ _ n01.symm,k0]
 have m2:((w.setCell ⟨p,0,none⟩ a).setCell ⟨p,1,none⟩ b).cell? ⟨p,2,none⟩=some (.bool z):=by rw[World.cell?_setCell_other _ _ _ _ n12,k2]
 refine⟨?_,?_,World.cell?_setCell_same _ _ _ m2⟩
 ·rw[World.cell?_setCell_other _ _ _ _ n02.symm,m0]
 ·rw[World.cell?_setCell_other _ _ _ _ n12.symm,m1]
theorem below_put3 {B:Nat}{w w':World}(h:Below B w w'){p:Nat}(hp:B≤p)(a b c:Value):Below B w (((w'.setCell ⟨p,0,none⟩ a).setCell ⟨p,1,none⟩ b).setCell ⟨p,2,none⟩ c):=((h.setCell (p:=⟨p,0,none⟩) hp a).setCell (p:=⟨p,1,none⟩) hp b).setCell (p:=⟨p,2,none⟩) hp c
theorem bs_beq (a b:List UInt8):((bs a).toList==(bs b).toList)=decide (a=b):=by rw[Lib.toList_data,Lib.toList_data,bs_data,bs_data,Bool.eq_iff_iff,beq_iff_eq,decide_eq_true_iff]
theorem find_any (s:ByteArray)(w:World)(hs:s.size≤10000000)(hE:Hid (TyEnv w)):
  Calls Tryz.prog 74 #[.string s] w fun e w'=>e= .returned (resT (findS (sml.lowL s.data.toList)))∧Below w.heap.size w w':=by
 obtain⟨n,hn⟩: ∃n,n=sml.lowL s.data.toList:=⟨_,rfl⟩;have HL:Hid (∀w,Calls Tryz.prog 135 #[.string s] w fun e w'=>e= .returned (.string (bs n))∧Below w.heap.size w w'):=fun w=>by rw[hn];exact lower_any s w hs
 rw[←hn];clear hn;obtain⟨cs,hcs⟩: ∃cs:List Value,Hid (cs=tcells):=⟨_,rfl⟩;have HIX:Hid (∀ (i:Nat) (hi:i<20) w,(Instr.index 169 (.agg cs.toArray) (.int .i64 (i:Int))).run Tryz.prog w= .ok (.agg #[.string (bs (tys[i]'hi).name),.int .i64 (tys[i]'hi).syn,.bool (tys[i]'hi).single]) w):=by rw[hcs.out];exact tix
 have HPC0:=Lib.hid (ac_new w ByteArray.empty 0 false);have HTI:Hid ((Tryz.prog.info? 169).map (·.size)=some cs.length):=by rw[hcs.out];exact tinfo
 have HTE:Hid (∀w',Below w.heap.size w w'→w'.rangeAt 0 0 cs):=by rw[hcs.out];exact fun w' h=>tyEnv_below hE.out h
 clear hcs;go_enter Tryz.func74,Tryz.ntmps74;go_wp2_with fail;refine(HL.out _).mono ?_;rintro e w1 ⟨rfl,hB1⟩;have HPC1:=Lib.hid (ac_below HPC0.out hB1);have HB1:Hid (Below w.heap.size w w1):=((Below.refl _ w).alloc (Nat.le_refl _) _).trans (hB1.mono (by simp));have hw1:w.heap.size<w1.heap.size:=ac_lt HPC1.out;have hr:=HTE.out w1 HB1.out;clear hB1;go_wp2_with (refine wpList_load_mid rfl 169 _ rfl 0 0 rfl cs _ hr Tryz.underlying169 rfl HTI.out ?_);clear hr;go_loopw [9] (fun iv wr=> ∃i:Nat,i≤20∧iv= .int .i64 (i:Int)∧Hid (∀j (hj:j<tys.length),j<i→tys[j].name≠n)∧Hid (AC wr w.heap.size)∧Hid (Below w.heap.size w wr)) (fun iv _=>20- (intOf iv).toNat);case atStart=>exact⟨0,by omega,rfl,fun j hj h=>by omega,HPC1,HB1⟩
 case round=>
  obtain⟨i,hi,rfl,hN,hA,hB⟩:=hrel;have hwr:w.heap.size<wr.heap.size:=ac_lt hA.out;by_cases hlt:i<20
  ·have hlt':(i:Int)<20:=(by omega);have hix:=HIX.out i hlt;have HS:=Lib.hid (findS_at i hlt);have HNX:Hid ((tys[i]'hlt).name≠n→ ∀j (hj:j<tys.length),j<i+1→tys[j].name≠n):=by
    intro h j hj hji;by_cases e:j=i
    ·subst e;exact h
    ·exact hN.out j hj (by omega)
   generalize(tys[i]'hlt)=t at hix HS HNX;have hbeq:=bs_beq t.name n;have HAX:Hid (AC (wr.alloc (.cells #[.string (bs t.name),.int .i64 t.syn,.bool t.single] 108)) w.heap.size):=ac_below hA.out ((Below.refl _ _).alloc (Nat.le_refl _) _);have HBX:Hid (Below w.heap.size w (wr.alloc (.cells #[.string (bs t.name),.int .i64 t.syn,.bool t.single] 108))):=hB.out.alloc (by omega) _;by_cases htn:t.name=n
   ·have hbeq2:((bs t.name).toList==(bs n).toList)=true:=(by rw[hbeq];exact decide_eq_true htn);have HF:Hid (findS n=some t):=(by rw[←htn];exact HS.out);obtain⟨W,hW⟩: ∃W,wr.alloc (.cells #[.string (bs t.name),.int .i64 t.syn,.bool t.single] 108)=W:=⟨_,rfl⟩;rw[hW]at HAX HBX;have k0:W.cell? ⟨wr.heap.size,0,none⟩=some (.string (bs t.name)):=(by rw[←hW,World.cell?_alloc_new];rfl);have k1:W.cell? ⟨wr.heap.size,1,none⟩=some (.int .i64 t.syn):=(by rw[←hW,World.cell?_alloc_new];rfl);have k2:W.cell? ⟨wr.heap.size,2,none⟩=some (.bool t.single):=(by rw[←hW,World.cell?_alloc_new];rfl);obtain⟨⟨x0,c0⟩,⟨y0,c1⟩,⟨z0,c2⟩,f0,f1,f2⟩:=ac_cells HAX.out;obtain⟨e0,e1,e2⟩:=ac_store HAX.out (.string (bs t.name)) (.int .i64 t.syn) (.bool t.single);clear hbeq htn;go_wp2_with fail
    (try simp only[Exit.inBlock,Exit.then])
    refine bodyPost_ret (v:= .tuple #[.agg #[.string (bs t.name),.int .i64 t.syn,.bool t.single],.bool true]) (by rw[results_cell_tmp rfl];go_simp) rfl ?_;exact⟨by rw[HF.out];rfl,below_put3 HBX.out (Nat.le_refl _) _ _ _⟩
   ·have hbeq2:((bs t.name).toList==(bs n).toList)=false:=(by rw[hbeq];exact decide_eq_false htn);have HN2:=Lib.hid (HNX.out htn);clear hbeq htn;go_wp2_with fail;go_roundw;case rel=>exact⟨i+1,by omega,by go_num,HN2,HAX,HBX⟩
    case measure=>simp[intOf];omega
  ·obtain rfl:i=20:=(by omega);have HF:Hid (findS n=none):=findS_not (fun j hj=>hN.out j hj hj);obtain⟨⟨x0,c0⟩,⟨y0,c1⟩,⟨z0,c2⟩,f0,f1,f2⟩:=ac_cells hA.out;obtain⟨e0,e1,e2⟩:=ac_store hA.out (.string ⟨#[]⟩) (.int .i64 0) (.bool false);go_wp2_with fail
   (try simp only[Exit.inBlock,Exit.then])
   refine bodyPost_ret (v:= .tuple #[.agg #[.string ⟨#[]⟩,.int .i64 0,.bool false],.bool false]) (by rw[results_cell_tmp rfl];go_simp) rfl ?_;exact⟨by rw[HF.out];rfl,below_put3 hB.out (Nat.le_refl _) _ _ _⟩
end atw
open Go.RowKit
namespace prw
open run prp
theorem replaceAll_len (c:UInt8)(l:List UInt8):(Lib.replaceAll l [c] []).length≤l.length:=by rw[replaceAll_filter];exact List.length_filter_le _ _
theorem phone_any (s:ByteArray)(w:World)(hs:s.size≤1100000)(hE:Hid (Env w)):Calls Tryz.prog 290 #[.string s] w fun e w'=>e= .returned (pairV (phoneO s.data.toList))∧Below w.heap.size w w':=by
 have CR:=ready_any s true w hs hE;have HM:=Lib.hid (phoneO_of_ready s.data.toList);cases hrs:readyO s.data.toList true with
 | none=>rw[hrs]at CR HM;have CH:=Lib.hid CR;clear hrs CR;go_enter Tryz.func290,Tryz.ntmps290;go_wp2_with fail;refine CH.out.mono ?_;rintro e w1 ⟨rfl,hB1⟩;unfold pairV;go_wp2_with fail;go_ret2;refine⟨?_,hB1⟩;rw[HM.out];rfl
 | some t=>
  have htl:=readyO_len hrs;rw[kt.size_len]at htl;rw[hrs]at CR HM;obtain⟨ta,hta⟩: ∃ta:ByteArray,ta=⟨t.toArray⟩:=⟨_,rfl⟩;have htd:ta.data.toList=t:=by rw[hta]
  rw[pairV_some,←hta]at CR;have CH:=Lib.hid CR;have hl1:=replaceAll_len 32 t;have hts:ta.size≤1100000:=by rw[←kt.size_len,htd];omega
  have CS1:Hid (∀ (W:World) (m:Int),W.cell? ⟨1,0,none⟩=some (.int .i64 m)→Calls Tryz.prog 284 #[.string ta,.string ⟨#[32]⟩,.string ⟨#[]⟩] W fun e w'=>e= .returned (.string ⟨(Lib.replaceAll t [32] []).toArray⟩)∧Below W.heap.size W w'):=by intro W m hm;have:=Tryz.strings_ReplaceAll ta ⟨#[32]⟩ ⟨#[]⟩ m W (by omega) hm (by decide) (by show ta.size+_*0≤_;omega);rw[htd]at this;exact this
  have CS2:Hid (∀ (W:World) (m:Int),W.cell? ⟨1,0,none⟩=some (.int .i64 m)→Calls Tryz.prog 284 #[.string ⟨(Lib.replaceAll t [32] []).toArray⟩,.string ⟨#[45]⟩,.string ⟨#[]⟩] W fun e w'=>e= .returned (.string ⟨(Lib.replaceAll (Lib.replaceAll t [32] []) [45] []).toArray⟩)∧Below W.heap.size W w'):=by intro W m hm;have hz:(⟨(Lib.replaceAll t [32] []).toArray⟩:ByteArray).size≤1100000:=(by rw[←kt.size_len];show(Lib.replaceAll t [32] []).length≤_;omega);exact Tryz.strings_ReplaceAll ⟨(Lib.replaceAll t [32] []).toArray⟩ ⟨#[45]⟩ ⟨#[]⟩ m W (by omega) hm (by decide) (by show _+_*0≤_;omega)
  clear hrs CR htd hl1 hts htl hta;generalize(⟨(Lib.replaceAll t [32] []).toArray⟩:ByteArray)=t1 at CS1 CS2;go_enter Tryz.func290,Tryz.ntmps290;go_wp2_with fail;refine CH.out.mono ?_;rintro e w1 ⟨rfl,hB1⟩;have hE1:=env_below hE.out hB1;obtain⟨m1,hm1⟩:=hE1;have C1:=Lib.hid (CS1.out w1 m1 hm1);clear hm1;go_wp2_with fail;refine C1.out.mono ?_;rintro e w2 ⟨rfl,hB2⟩;have hB12:=hB1.trans (hB2.mono hB1.size);have hE2:=env_below hE.out hB12;obtain⟨m2,hm2⟩:=hE2;have C2:=Lib.hid (CS2.out w2 m2 hm2);clear hm2;go_wp2_with fail;refine C2.out.mono ?_;rintro e w3 ⟨rfl,hB3⟩;go_wp2_with fail;go_ret2;refine⟨?_,hB12.trans (hB3.mono hB12.size)⟩;rw[HM.out];rfl
end prw
open Go.RowKit
namespace trm
def Env (w:World):Prop:=(∃m:Int,w.cell? ⟨1,0,none⟩=some (.int .i64 m))∧Lib.Utf8Tabs 2 3 w
theorem env_below {w w':World}(h:Env w)(hb:Below w.heap.size w w'):Env w':=by obtain⟨⟨m,hm⟩,ht⟩:=h;exact⟨⟨m,(hb.cell (World.block_lt_of_cell? w _ hm)).trans hm⟩,Utf8Tabs_below ht hb⟩
end trm
open Go.RowKit
namespace tupw
def Strs (w:World)(ao:Option Addr)(l:List ByteArray):Prop:= ∀ (i:Nat) (h:i<l.length),∃b o,ao=some ⟨b,o,none⟩∧w.cell? ⟨b,o+i,none⟩=some (.string l[i])
theorem strs_below {w w':World}{ao:Option Addr}{l:List ByteArray}(h:Strs w ao l)(hb:Below w.heap.size w w'):Strs w' ao l:=by intro i hi;obtain⟨b,o,e,hc⟩:=h i hi;exact⟨b,o,e,(hb.cell (World.block_lt_of_cell? w _ hc)).trans hc⟩
theorem is_below {B b:Nat}{l:List UInt8}{w w':World}(h:bld.Is B b l w)(hb:Below w.heap.size w w'):bld.Is B b l w':=by
 rcases h with h | h
 ·obtain⟨hB,v,hk,ho,hn⟩:=h;exact Or.inl ⟨hB,v,(hb.block b (bld.lt_of_heap hk)).trans hk,kt.row_below ho hb,hn⟩
 ·obtain⟨hB,v,hk,ho,hn⟩:=h;exact Or.inr ⟨hB,v,(hb.block b (bld.lt_of_heap hk)).trans hk,kt.row_below ho hb,hn⟩
def tupV (r:ByteArray × Int):Value:= .tuple #[.string r.1,.int .i64 r.2]
theorem tuple_any (ao:Option Addr)(cap:Nat)(l:List ByteArray)(w:World)(hE:Hid (trm.Env w))(hl:Hid (Strs w ao l)):
  Calls Tryz.prog 252 #[.slice ao l.length cap] w fun e w'=>e= .returned (tupV (tup.out l))∧Below w.heap.size w w':=by
 by_cases c16:16<l.length
 ·have hp:tup.out l=(⟨#[]⟩,1):=by unfold tup.out;rw[if_pos c16]
  have HP:=Lib.hid hp;clear hp;have c16':16<(l.length:Int):=by omega
  go_enter Tryz.func252,Tryz.ntmps252;go_wp2_with fail;go_ret2;exact⟨by rw[HP.out];rfl,Below.refl _ _⟩
 ·have c16': ¬16<(l.length:Int):=by omega
  go_enter Tryz.func252,Tryz.ntmps252;go_wp2_with fail;go_loopw [12] (fun iv wr=> ∃i:Nat,i≤l.length∧iv= .int .i64 i∧Hid (∀p∈l.take i,p.size≤4096)∧Hid (bld.Is w.heap.size w.heap.size (tup.bytes (l.take i)) wr)∧Below w.heap.size w wr) (fun iv _=>l.length- (intOf iv).toNat);case atStart=>exact⟨0,Nat.zero_le _,rfl,fun p hp=>by simp at hp,bld.fresh w,(Below.refl _ _).alloc (Nat.le_refl _) _⟩
  case round=>
   obtain⟨i,hi,rfl,hsm,hI,hB⟩:=hrel;have hsz:=hB.size;by_cases hil:i<l.length
   ·obtain⟨b,o,hao,hc0⟩:=hl.out i hil;have hc:=(hB.cell (World.block_lt_of_cell? w _ hc0)).trans hc0;clear hc0;obtain⟨p,hp⟩: ∃p:ByteArray,Hid (p=l[i]):=⟨l[i],rfl⟩;rw[←hp.out]at hc;subst hao;by_cases cp:4096<p.size
    ·have hbig:tup.out l=(⟨#[]⟩,5):=(by have:=tup.bytes_mem (l:=l) (p:=l[i]) (List.getElem_mem hil);rw[←hp.out]at this;unfold tup.out;rw[if_neg c16,if_pos (by omega)]);have HP:=Lib.hid hbig;clear hbig;have cp':4096<(p.size:Int):=(by omega);go_wp2_with fail;go_ret2;exact⟨by rw[HP.out];rfl,hB⟩
    ·have cp': ¬4096<(p.size:Int):=(by omega);obtain⟨⟨m,hm⟩,_⟩:=trm.env_below hE.out hB;have hcl:=Lib.count_le p.data.toList [0];have C:=Tryz.strings_ReplaceAll p ⟨#[0]⟩ ⟨#[0,255]⟩ m wr (by omega) hm (by decide) (by have:Lib.countB p ⟨#[0]⟩≤p.size+1:=(by simpa[Lib.countB]using hcl);show p.size+Lib.countB p ⟨#[0]⟩*2≤_;omega);rw[show(Lib.replaceAll p.data.toList (ByteArray.mk #[0]).data.toList (ByteArray.mk #[0,255]).data.toList)=tup.esc p.data.toList from tup.replace_esc _]at C;obtain⟨q,hq⟩: ∃q:ByteArray,Hid (q=⟨(tup.esc p.data.toList).toArray⟩):=⟨_,rfl⟩;rw[←hq.out]at C;have hqs:q.size≤8192:=(by have:=(tup.esc_length p.data.toList).2;rw[kt.size_len]at this;have h2:q.size=(tup.esc p.data.toList).length:=(by rw[hq.out];rfl);omega);have HC:=Lib.hid C;clear C hcl hm;have hbl:(tup.bytes (l.take i)).length≤131104:=(by have:=tup.bytes_small hsm.out;rw[List.length_take]at this;omega);go_wp2_with fail;refine HC.out.mono ?_;rintro e w1 ⟨rfl,hB1⟩;have hI1:=is_below hI.out hB1;have W1:=Lib.hid (bld.writeString_any _ _ _ q w1 hI1 (by omega) (Nat.le_trans hsz hB1.size));clear hI1;go_wp2_with fail;refine W1.out.mono ?_;rintro e w2 ⟨rfl,hI2,hB2⟩;have hs2:w.heap.size≤w2.heap.size:=Nat.le_trans (Nat.le_trans hsz hB1.size) hB2.size;have hqd:q.data.toList=tup.esc p.data.toList:=(by rw[hq.out]);have W2:=Lib.hid (bld.writeString_any _ _ _ ⟨#[0,1]⟩ w2 hI2 (by rw[List.length_append,kt.size_len];show _+2≤_;omega) hs2);clear hI2;go_wp2_with fail;refine W2.out.mono ?_;rintro e w3 ⟨rfl,hI3,hB3⟩;have hI3':=Lib.hid hI3;clear hI3;have ht:tup.bytes (l.take (i+1))=tup.bytes (l.take i)++q.data.toList++[0,1]:=(by rw[List.take_succ_eq_append_getElem hil,tup.bytes_append,hqd,←hp.out];simp[tup.bytes]);have HT:=Lib.hid ht;have HS:Hid (∀p∈l.take (i+1),p.size≤4096):=by
      rw[List.take_succ_eq_append_getElem hil];intro r hr;rcases List.mem_append.1 hr with h | h
      ·exact hsm.out r h
      ·rw[List.mem_singleton.1 h,←hp.out];omega
     clear ht hqd;go_wp2_with fail;go_roundw;case rel=>exact⟨i+1,by omega,by go_num,HS,by rw[HT.out];exact hI3'.out,((hB.trans (hB1.mono hsz)).trans hB2).trans hB3⟩
     case measure=>simp[intOf];omega
   ·obtain rfl:i=l.length:=(by omega);have hI':=hI;have hsm':=hsm.out;rw[List.take_of_length_le (Nat.le_refl _)]at hI' hsm';have hbl:=tup.bytes_small hsm';clear hsm hsm' hI;have hL:=(Tryz.Builder_Len _ _ _ wr hI'.out);rw[Lib.byteCells_length]at hL;have HL:=Lib.hid hL;clear hL;have hil': ¬ (l.length:Int)<(l.length:Int):=(by omega);go_wp2_with fail;refine HL.out.mono ?_;rintro e w1 ⟨rfl,rfl⟩;by_cases hb:4096<(tup.bytes l).length
    ·have hp:tup.out l=(⟨#[]⟩,5):=(by unfold tup.out;rw[if_neg c16,if_pos hb]);have HP:=Lib.hid hp;have hb':4096<((tup.bytes l).length:Int):=(by omega);clear hp hb;go_wp2_with fail;go_ret2;exact⟨by rw[HP.out];rfl,hB⟩
    ·have hp:tup.out l=(⟨(tup.bytes l).toArray⟩,0):=(by unfold tup.out;rw[if_neg c16,if_neg hb]);have HP:=Lib.hid hp;have hb': ¬4096<((tup.bytes l).length:Int):=(by omega);clear hp hb;have HSt:=Lib.hid (Tryz.Builder_String_any _ _ _ w1 hI'.out hsz);go_wp2_with fail;refine HSt.out.mono ?_;rintro e w2 ⟨rfl,hB2⟩;go_wp2_with fail;go_ret2;exact⟨by rw[HP.out];rfl,hB.trans hB2⟩
end tupw
open Go.RowKit
namespace dnw
open dnp
theorem joinT {w:World}{B:Nat}{v:Value}{l:List ByteArray}(h:prw.OwnT w B v l)(sep:ByteArray)(hl:l.length≤100000000)(hlen:(Lib.join (l.map (·.data.toList)) sep.data.toList).length≤140737488355328):
  Calls Tryz.prog 165 #[v,.string sep] w fun e w'=>e= .returned (.string ⟨(Lib.join (l.map (·.data.toList)) sep.data.toList).toArray⟩)∧Below w.heap.size w w':=by
 obtain⟨ao,cap,rfl,hcap,hcs⟩:=prw.ownT_cells h;by_cases hne:l=[]
 ·subst hne;refine(Tryz.strings_Join_none ao cap sep w).mono ?_;rintro e w' ⟨rfl,h2⟩;refine⟨rfl,?_⟩;first
   | (rw[h2];exact Below.refl _ _)
   | (rw[←h2];exact Below.refl _ _)
 ·obtain⟨g,rfl,hg,hcc⟩:=hcs hne;exact Tryz.strings_Join g 0 cap l sep w hcc hg (by omega) hcap hlen
def bytes (l:List UInt8):ByteArray:=⟨l.toArray⟩
theorem ownT_below {w w':World}{B:Nat}{v:Value}{l:List ByteArray}(h:prw.OwnT w B v l)(hb:Below w.heap.size w w'):prw.OwnT w' B v l:=kt.row_below h hb
theorem ownT_appG {w:World}{B:Nat}{v:Value}{l:List ByteArray}(x:ByteArray)(hown:prw.OwnT w B v l)(hl:l.length≤100000000)(hbase:B≤w.heap.size):
  ∃ao m cap w1,(Builtin.append_ #[35,35] 35 #[v,.slice (some ⟨w.heap.size,0,none⟩) 1 1]).run Tryz.prog (w.alloc (.cells #[.string x] 9))= .ok (.slice ao m cap) w1∧prw.OwnT w1 B (.slice ao m cap) (l++[x])∧w.grownBy w1 v.ownBlock∧Below B w w1:=by
 obtain⟨v',w1,h1,h2,h4,h3⟩:=kt.app1 (P:=Tryz.prog) (t:=35) (ty:=35) Tryz.underlying35 prw.infoStr rfl (.string x) rfl hown (by rw[prw.scells_length];unfold maxLen;omega) (by rw[prw.scells_length];omega) hbase;have h2':prw.OwnT w1 B v' (l++[x]):=by
  unfold prw.OwnT;have e:prw.scells (l++[x])=prw.scells l++[.string x]:=by simp[prw.scells]
  rw[e];exact h2
 obtain⟨ao,cap,rfl,_,_⟩:=prw.ownT_cells h2';exact⟨ao,_,cap,w1,h1,h2',h4,h3⟩
theorem ownT_form {w:World}{B:Nat}{v:Value}{l:List ByteArray}(h:prw.OwnT w B v l): ∃ (ao:Option Addr) (m cap:Nat),v= .slice ao m cap∧Hid (m=l.length):=by obtain⟨ao,cap,rfl,_,_⟩:=prw.ownT_cells h;exact⟨ao,_,cap,rfl,rfl⟩
theorem takeMap_step {α:Type}(f:α→ByteArray)(l:List α)(i:Nat)(hi:i<l.length):(l.take (i+1)).map f=(l.take i).map f++[f l[i]]:=by rw[List.take_succ_eq_append_getElem hi,List.map_append];rfl
end dnw
open Go.RowKit
namespace dnw
open dnp
theorem trmEnv {w:World}(hE:prw.Env w)(hT:Tabs w):trm.Env w:=⟨hE,hT⟩
theorem scells_enc (l:List ByteArray):prw.scells l=(l.map (·.data.toList)).map encStr:=by unfold prw.scells;rw[List.map_map];rfl
theorem sortT {w:World}{B:Nat}{ao:Option Addr}{m cap:Nat}{l:List ByteArray}(h:prw.OwnT w B (.slice ao m cap) l)(hl:l.length≤1100000)(hB:B≤w.heap.size):
  Calls Tryz.prog 116 #[.slice ao m cap] w fun e w'=>e= .returned (.tuple #[])∧prw.OwnT w' B (.slice ao m cap) ((sortL (l.map (·.data.toList))).map bytes)∧Below B w w':=by
 obtain⟨ss,hss⟩: ∃ss,ss=l.map (·.data.toList):=⟨_,rfl⟩;have hsl:ss.length=l.length:=by rw[hss];simp
 have hm:m=l.length:=by obtain⟨ao',cap',hv,_,_⟩:=prw.ownT_cells h;simp only[Value.slice.injEq]at hv;exact hv.2.1
 subst hm;have hrow:w.ownsRow B 9 1 (.slice ao l.length cap) ss.length (ss.map encStr):=by have h1:w.ownsRow B 9 1 (.slice ao l.length cap) (prw.scells l).length (prw.scells l):=h;rw[scells_enc,←hss,List.length_map]at h1;exact h1
 have hsort:((sortL ss).map bytes).map (·.data.toList)=sortL ss:=by
  rw[List.map_map];conv=>rhs;rw[←List.map_id (sortL ss)]
  apply List.map_congr_left;intro x _;rfl
 have hsn:(sortL ss).length=ss.length:=by unfold sortL;simp
 rw[←hss];rcases hrow.2 with⟨hv,h0⟩ | ⟨g,cap',cur,hv,hBg,hg,h1,h2,h3,h4⟩
 ·simp only[Value.slice.injEq]at hv;obtain⟨rfl,hl0,rfl⟩:=hv;have hs0:ss=[]:=List.eq_nil_of_length_eq_zero h0;rw[hl0];refine(Tryz.slices_Sort_string_none none 0 w).mono ?_;rintro e w' ⟨rfl,h2⟩;have h2:w'=w:=by first | exact h2 | exact h2.symm
  subst h2;refine⟨rfl,?_,Below.refl _ _⟩;rw[hs0];have hn:sortL []=[]:=by unfold sortL;simp
  rw[hn];exact World.ownsRow_nil w' B _ _
 ·simp only[Value.slice.injEq]at hv;obtain⟨rfl,_,rfl⟩:=hv;rw[Nat.mul_one]at h4;have hH:=holds_of_block hg h4;have CS:=Tryz.slices_Sort_string g 0 cap ss w hH (bld.lt_of_heap hg) (by omega);rw[hsl]at CS;refine CS.mono ?_;rintro e w' ⟨rfl,n,os,rfl⟩;have ho:=ownsRow_sorted (n:=n) (os:=os) (ts:=sortL ss) hsn hBg hg h1 h2 h3;refine⟨rfl,?_,(Below.refl B w).grown (grownBy_sorted _) hB (fun k hk=>by cases hk;exact hBg)⟩;unfold prw.OwnT;rw[scells_enc,hsort,List.length_map,hsn];rw[hsl]at ho ⊢;exact ho
theorem part_any (x:Av)(R:ByteArray)(hR:R=⟨(rv x.v.data.toList).toArray⟩)(ao:Option Addr)(cap:Nat)(w:World)(hE:Hid (trm.Env w))(hS:Hid (tupw.Strs w ao [x.t,R])):
  Calls Tryz.prog 252 #[.slice ao 2 cap] w fun e w'=>(∃er:Int,e= .returned (.tuple #[.string (partB x),.int .i64 er]))∧Below w.heap.size w w':=by
 refine(tupw.tuple_any ao cap [x.t,R] w hE hS).mono ?_;rintro e w' ⟨rfl,hb⟩;exact⟨⟨(tup.out [x.t,R]).2,by unfold tupw.tupV partB;rw[hR]⟩,hb⟩
theorem key_any (ao:Option Addr)(cap:Nat)(l:List Av)(w:World)(hA:Hid (Avas w ao l))(hE:Hid (prw.Env w))(hT:Hid (Tabs w))(hok:rdnOK l=true):
  Calls Tryz.prog 191 #[.slice ao l.length cap] w fun e w'=>e= .returned (.string (bytes (keyL l)))∧Below w.heap.size w w':=by
 have h4:=(rdnOK_facts hok).2.1;have HX:=Lib.hid (rdnOK_av hok);obtain⟨m,hm⟩: ∃m,m=l.length:=⟨_,rfl⟩;have HM:=Lib.hid hm;rw[←hm]at h4 ⊢;clear hm hok;go_enter Tryz.func191,Tryz.ntmps191;go_wp2_with fail;go_loopw [3,5,6,7,8,9,12] (fun pv _ _ _ _ _ iv wr=> ∃ (i:Nat),i≤m∧iv= .int .i64 (i:Int)∧Hid (prw.OwnT wr w.heap.size pv ((l.take i).map partB))∧Below w.heap.size w wr) (fun _ _ _ _ _ _ iv _=>m- (intOf iv).toNat);case atStart=>exact⟨0,Nat.zero_le _,rfl,World.ownsRow_nil _ _ _ _,Below.refl _ _⟩
 case round=>
  obtain⟨i,hi,rfl,hO,hB⟩:=hrel;have hsz:=hB.size;obtain⟨aoR,mR,capR,rfl,hmR⟩:=ownT_form hO.out;by_cases hlt:i<m
  ·have hlt':(i:Int)<(m:Int):=(by omega);have hil:i<l.length:=(by rw[←HM.out];exact hlt);obtain⟨b,o,hao,c0,c1⟩:=(avas_below hA.out hB) i hil;subst hao;have HST:=takeMap_step partB l i hil;have hxx:=HX.out l[i] (List.getElem_mem hil);generalize l[i]=x at c0 c1 HST hxx;obtain⟨R,hR⟩: ∃R:ByteArray,R=⟨(rv x.v.data.toList).toArray⟩:=⟨_,rfl⟩;have hvs:x.v.size≤1100000:=(by have:=valOK_le hxx.2;rw[kt.size_len]at this;omega);have HRD:Hid (∀W,Below w.heap.size w W→Calls Tryz.prog 134 #[.string x.v,.bool true] W fun e w'=>e= .returned (.tuple #[.string R,.int .i64 0])∧Below W.heap.size W w'):=(by intro W hb;have:=prw.ready_any x.v true W hvs (Lib.hid (prw.env_below hE.out hb));rw[rv_ok hxx.2]at this;rw[hR];exact this);have HST:=Lib.hid HST;have HRe:=Lib.hid hR;obtain⟨w5,hw5⟩: ∃w5,w5=wr.alloc (.cells #[.string x.t,.string x.v] 51):=⟨_,rfl⟩;have e0:w5.cell? ⟨wr.heap.size,0,none⟩=some (.string x.t):=(by rw[hw5,World.cell?_alloc_new];rfl);have HB5:Hid (Below w.heap.size w w5):=(by show Below _ _ _;rw[hw5];exact hB.alloc hsz _);have HO5:Hid (prw.OwnT w5 w.heap.size (.slice aoR mR capR) ((l.take i).map partB)):=(by show prw.OwnT _ _ _ _;rw[hw5];exact ownT_below hO.out ((Below.refl _ _).alloc (Nat.le_refl _) _));have HE0:=Lib.hid e0;have hRD:=HRD.out w5 HB5.out;rw[hw5]at hRD;have HW5:=Lib.hid hw5;have HRD2:=Lib.hid hRD;clear hR hvs hxx hw5 e0 hRD;go_wp2_with fail;refine HRD2.out.mono ?_;rintro e w6 ⟨rfl,hB6⟩;rw[←HW5.out]at hB6;have hlt5:=World.block_lt_of_cell? w5 _ HE0.out;have e6:=(hB6.cell hlt5).trans HE0.out;have HB6:=Lib.hid (HB5.out.trans (hB6.mono HB5.out.size));have HO6:=Lib.hid (ownT_below HO5.out hB6);have HP:=Lib.hid (part_any x R HRe.out (some ⟨w6.heap.size,0,none⟩) 2 (w6.alloc (.cells #[.string x.t,.string R] 9)) (Lib.hid (trmEnv (prw.env_below hE.out (HB6.out.alloc HB6.out.size _)) (tabs_below hT.out (HB6.out.alloc HB6.out.size _)))) (Lib.hid (by
    intro j hj;refine⟨_,0,rfl,?_⟩;rw[World.cell?_alloc_new]
    match j,hj with
    | 0,_=>rfl
    | 1,_=>rfl)))
   clear hB6 HRD2;go_wp2_with fail;refine HP.out.mono ?_;rintro e w7 ⟨⟨er,rfl⟩,hB7⟩;have hB67:Below w6.heap.size w6 w7:=((Below.refl w6.heap.size w6).alloc (Nat.le_refl _) _).trans (hB7.mono (by simp));have HB7:=Lib.hid (HB6.out.trans (hB67.mono HB6.out.size));obtain⟨ao7,m7,cap7,w8,hap,hO8,_,hB8⟩:=ownT_appG (partB x) (ownT_below HO6.out hB67) (by rw[List.length_map,List.length_take];omega) HB7.out.size;have HO8:Hid (prw.OwnT w8 w.heap.size (.slice ao7 m7 cap7) ((l.take (i+1)).map partB)):=(by show prw.OwnT _ _ _ _;rw[HST.out];exact hO8);have HB8:=Lib.hid (HB7.out.trans hB8);clear hB7 hB67 hO8 hB8 HP e6;go_wp2_with (at_builtin;refine Lib.wpList_append_run _ rfl _ _ _ _ rfl _ _ rfl rfl _ _ hap ?_);go_roundw;case rel=>exact⟨i+1,by omega,by go_num,HO8,HB8.out⟩
   case measure=>simp[intOf]<;>omega
  ·obtain rfl:i=m:=(by omega);have hO1:=hO.out;rw[HM.out,List.take_length]at hO1;have hll:(l.map partB).length≤1100000:=(by rw[List.length_map,←HM.out];omega);have CS:=Lib.hid (sortT hO1 hll hsz);have e1:((l.map partB).map (·.data.toList))=partsL l:=(by rw[List.map_map];rfl);have hkl:=keyL_len l;clear hO1 hll;go_wp2_with fail;refine CS.out.mono ?_;rintro e w2 ⟨rfl,hO2,hB2⟩;rw[e1]at hO2;have e2:((sortL (partsL l)).map bytes).map (·.data.toList)=sortL (partsL l):=by
    rw[List.map_map];conv=>rhs;rw[←List.map_id (sortL (partsL l))]
    apply List.map_congr_left;intro x _;rfl
   have CJ:=joinT hO2 ⟨#[]⟩ (by rw[List.length_map];unfold sortL partsL;simp;rw[←HM.out];omega) (by rw[e2];show(Lib.join _ []).length≤_;rw[join_flat];show(keyL l).length≤_;rw[←HM.out]at hkl;omega);rw[e2]at CJ;have CJ':Calls Tryz.prog 165 #[.slice aoR mR capR,.string ⟨#[]⟩] w2 fun e w'=>e= .returned (.string (bytes (keyL l)))∧Below w2.heap.size w2 w':=(by refine CJ.mono fun e w' h=>⟨?_,h.2⟩;rw[h.1];show _=Ending.returned (.string ⟨(keyL l).toArray⟩);have:Lib.join (sortL (partsL l)) (⟨#[]⟩:ByteArray).data.toList=keyL l:=join_flat _;rw[this]);have HJ:=Lib.hid CJ';have HB2:=Lib.hid (hB.trans hB2);clear CJ CJ' e1 e2 hkl CS hB2 hO2;go_wp2_with fail;refine HJ.out.mono ?_;rintro e w3 ⟨rfl,hB3⟩;go_wp2_with fail;go_ret;exact⟨rfl,HB2.out.trans (hB3.mono HB2.out.size)⟩
end dnw
end Go.Proofs.YtmnpfkbjpeaemaaGreatDoor
