/- One text out of several: KindW, EscW, ValueW, RuneP, PrepP. -/
import Derived.Lib.LaidU8
import Derived.Deep.MidRow
import Derived.Test.YtmnpfkbjpeaemaaGreatDoorT1
import Derived.Test.YtmnpfkbjpeaemaaGreatDoorT2
import Derived.Lib.DecodeN
import Derived.Lib.RuneBytes
import Derived.Lib.Hide
import Derived.Lib.ReplaceLaws
import Derived.Lib.Join
set_option linter.unusedVariables false
set_option linter.unusedSimpArgs false
set_option maxRecDepth 100000
set_option maxHeartbeats 4000000
namespace Go.Proofs.YtmnpfkbjpeaemaaGreatDoor
open Go.RowKit
namespace dnw
open dnp
def Tabs (w:World):Prop:=Lib.Utf8Tabs 2 3 w
theorem tabs_below {w w':World}(h:Tabs w)(hb:Below w.heap.size w w'):Tabs w':=Utf8Tabs_below h hb
theorem lower1_any (W:World)(x:Nat)(hx:x≤1114111):Calls Tryz.prog 263 #[.int .i32 (x:Int)] W fun e w'=>e= .returned (.int .i32 (lowf (x:Int)))∧ ∃q,w'=W.drewN q:=by
 obtain⟨r,hr⟩: ∃r:Int,r=(x:Int):=⟨_,rfl⟩;have h0:0≤r:=by omega
 have h1:r≤1114111:=by omega
 rw[←hr];clear hr;unfold lowf;by_cases h:65≤r∧r≤90
 ·rw[if_pos h];obtain⟨h2,h3⟩:=h;go_enter Tryz.func263,Tryz.ntmps263;go_wp2_with fail;go_ret;exact⟨rfl,0,rfl⟩
 ·rw[if_neg h];by_cases h2:65≤r
  ·have h3: ¬r≤90:=(by omega);have h3':decide (r≤90)=false:=(by rw[decide_eq_false_iff_not];exact h3);clear h h3;go_enter Tryz.func263,Tryz.ntmps263;go_wp2_with fail;go_ret;exact⟨rfl,0,rfl⟩
  ·clear h;go_enter Tryz.func263,Tryz.ntmps263;go_wp2_with fail;go_ret;exact⟨rfl,0,rfl⟩
theorem lower_any (s:ByteArray)(w:World)(hs:s.size≤100000)(hT:Hid (Tabs w)):Calls Tryz.prog 203 #[.string s] w fun e w'=>e= .returned (.string ⟨(Lib.mapD lowf s.data.toList).toArray⟩)∧Below w.heap.size w w':=by have C:=Lib.hid (Tryz.strings_Map_runes 263 #[] (enters_of Tryz.func263 (by kernel_rfl) rfl) lowf s w (by omega) (fun W x hx _=>lower1_any W x hx) (fun x hx=>by unfold lowf;split<;>omega) hT.out);go_enter Tryz.func203,Tryz.ntmps203;go_wp2_with fail;refine C.out.mono ?_;rintro e w1 ⟨rfl,hB1⟩;go_wp2_with fail;go_ret;exact⟨rfl,hB1⟩
def KindE (b:Nat)(s:ByteArray)(i:Nat)(w:World)(e:Ending)(w':World):Prop:=
 w.grownBy w' (some b)∧match kindP (s.data.toList.drop i)with
  | none=> ∃j,e= .returned (.tuple #[.string ⟨#[]⟩,.bool false])∧Sc w' b s j
  | some (t,r)=> ∃j,e= .returned (.tuple #[.string ⟨t.toArray⟩,.bool true])∧i<j∧j≤s.size∧s.data.toList.drop j=r∧Sc w' b s j
def tpB (c:UInt8):Bool:=decide (c≠61∧c≠32)
theorem u8_ne {c:UInt8}{n:Nat}(hn:n<256)(h: ¬ (c.toNat:Int)=(n:Int)):c≠UInt8.ofNat n:=by rintro rfl;apply h;rw[UInt8.toNat_ofNat'];omega
theorem u8_eq {c:UInt8}{n:Nat}(hn:n<256)(h:(c.toNat:Int)=(n:Int)):c=UInt8.ofNat n:=by apply UInt8.toNat_inj.1;rw[UInt8.toNat_ofNat'];omega
theorem tpB_iff (c:UInt8):tpB c=true↔ ¬ (c.toNat:Int)=61∧ ¬ (c.toNat:Int)=32:=by
 unfold tpB;rw[decide_eq_true_iff];constructor
 ·rintro⟨h1,h2⟩;exact⟨fun e=>h1 (u8_eq (n:=61) (by omega) e),fun e=>h2 (u8_eq (n:=32) (by omega) e)⟩
 ·rintro⟨h1,h2⟩;exact⟨u8_ne (n:=61) (by omega) h1,u8_ne (n:=32) (by omega) h2⟩
def kTail (T:List UInt8):List UInt8→Option (List UInt8 × List UInt8)
 | []=>none
 | c::r=>if c=61∧typeOK (lowL T)=true then some (lowL T,r)else none
theorem kindP_eq (l:List UInt8)(T l3:List UInt8)(hT:(l.dropWhile (· =32)).takeWhile tpB=T)(h3:((l.dropWhile (· =32)).dropWhile tpB).dropWhile (· =32)=l3):
  kindP l=kTail T l3:=by
 subst hT h3;rfl
def TypeAt (s:ByteArray)(j1 j:Nat):Prop:=(s.data.toList.drop j1).takeWhile tpB=(s.data.toList.drop j1).take (j-j1)++(s.data.toList.drop j).takeWhile tpB∧(s.data.toList.drop j1).dropWhile tpB=(s.data.toList.drop j).dropWhile tpB
theorem typeAt_on {s:ByteArray}{j1 j:Nat}(h:TypeAt s j1 j)(h1:j1≤j)(hj:j<s.size)(hc:tpB s[j]=true):TypeAt s j1 (j+1):=by
 unfold TypeAt at*;rw[drop_cons s j hj,List.takeWhile_cons,if_pos hc,List.dropWhile_cons,if_pos hc]at h;refine⟨?_,h.2⟩;rw[h.1];have e:(s.data.toList.drop j1).take (j+1-j1)=(s.data.toList.drop j1).take (j-j1)++[s[j]]:=by
  have hl:j-j1<(s.data.toList.drop j1).length:=by simp;omega
  rw[show j+1-j1=(j-j1)+1 from by omega,List.take_succ_eq_append_getElem hl];congr 2;rw[List.getElem_drop];simp only[show j1+(j-j1)=j from by omega];rfl
 rw[e];simp
theorem typeAt_off {s:ByteArray}{j1 j:Nat}(h:TypeAt s j1 j)(hc: ∀c t,s.data.toList.drop j=c::t→tpB c=false):(s.data.toList.drop j1).takeWhile tpB=(s.data.toList.drop j1).take (j-j1)∧(s.data.toList.drop j1).dropWhile tpB=s.data.toList.drop j:=by
 unfold TypeAt at h;rw[dropW_id _ _ hc]at h;refine⟨?_,h.2⟩;have e:(s.data.toList.drop j).takeWhile tpB=[]:=by
  cases hd:s.data.toList.drop j with
  | nil=>rfl
  | cons c t=>rw[List.takeWhile_cons,if_neg (by rw[hc c t hd];simp)]
 rw[h.1,e,List.append_nil]
theorem gr_trans {w w1 w2:World}{k:Option Nat}(h:w.grownBy w1 k)(h2:w1.grownBy w2 k):w.grownBy w2 k:=kt.grown_trans h h2
theorem kindE_none {b i j:Nat}{s:ByteArray}{w w':World}{T l3:List UInt8}(hg:w.grownBy w' (some b))(hs:Sc w' b s j)(hT:((s.data.toList.drop i).dropWhile (· =32)).takeWhile tpB=T)(h3:(((s.data.toList.drop i).dropWhile (· =32)).dropWhile tpB).dropWhile (· =32)=l3)
  (h: ∀c r,l3=c::r→ ¬ (c=61∧typeOK (lowL T)=true)):KindE b s i w (.returned (.tuple #[.string ⟨#[]⟩,.bool false])) w':=by
 refine⟨hg,?_⟩;rw[kindP_eq _ T l3 hT h3];have e:kTail T l3=none:=by
  cases l3 with
  | nil=>rfl
  | cons c r=>exact if_neg (h c r rfl)
 rw[e];exact⟨j,rfl,hs⟩
theorem kindE_some {b i j:Nat}{s:ByteArray}{w w':World}{T r:List UInt8}(hg:w.grownBy w' (some b))(hs:Sc w' b s j)(hT:((s.data.toList.drop i).dropWhile (· =32)).takeWhile tpB=T)(h3:(((s.data.toList.drop i).dropWhile (· =32)).dropWhile tpB).dropWhile (· =32)=61::r)
  (h:typeOK (lowL T)=true) (hij:i<j) (hj:j≤s.size) (hr:s.data.toList.drop j=r):KindE b s i w (.returned (.tuple #[.string ⟨(lowL T).toArray⟩,.bool true])) w':=by
 refine⟨hg,?_⟩;rw[kindP_eq _ T _ hT h3];have e:kTail T (61::r)=some (lowL T,r):=if_pos ⟨rfl,h⟩;rw[e];exact⟨j,rfl,hij,hj,hr,hs⟩
theorem kind_any (b:Nat)(s:ByteArray)(i:Nat)(w:World)(hS:Hid (Sc w b s i))(hi:i≤s.size)(hs:s.size≤10000)(hT:Hid (Tabs w))(hTb:Hid (∀w',w.grownBy w' (some b)→Tabs w')):
  Calls Tryz.prog 156 #[.pointer (some ⟨b,0,none⟩)] w fun e w'=>KindE b s i w e w':=by
 have CB:=Lib.hid (blanks_any b s i w hS hi (by omega));go_enter Tryz.func156,Tryz.ntmps156;go_wp2_with fail;refine CB.out.mono ?_;rintro e w1 ⟨rfl,j1,hij1,hj1,hD1,hS1,hG1⟩;obtain⟨c0,c1,f1,hb1⟩:=sc_cells hS1;have HS1:=Lib.hid hS1;have HD1:=Lib.hid hD1;clear hS1 hD1 CB;go_wp2_with fail;clear c0 c1 f1;go_loopw [] (fun wr=> ∃j,j1≤j∧j≤s.size∧Hid (TypeAt s j1 j)∧Hid (Sc wr b s j)∧w.grownBy wr (some b)) (fun wr=>s.size-posOf wr b);case atStart=>exact⟨j1,Nat.le_refl _,hj1,⟨by simp,rfl⟩,HS1,hG1⟩
 case round=>
  obtain⟨j,hj1j,hj,hTA,hC,hG⟩:=hrel;obtain⟨c0,c1,f1,hb⟩:=sc_cells hC.out;have hjI:(j1:Int)≤(j:Int):=by omega
  by_cases hon: ∃hlt:j<s.size,tpB (s[j]'hlt)=true
  ·obtain⟨hlt,hc⟩:=hon;have hlt':(j:Int)<(s.size:Int):=(by omega);have HTA:=Lib.hid (typeAt_on hTA.out hj1j hlt hc);obtain⟨q1,q2⟩:=(tpB_iff _).1 hc;have q1a:(((s[j]'hlt).toNat:Int)==61)=false:=(by rw[beq_eq_false_iff_ne];exact q1);have q1b:(((s[j]'hlt).toNat:Int) !=61)=true:=(by rw[bne_iff_ne];exact q1);have q2a:(((s[j]'hlt).toNat:Int)==32)=false:=(by rw[beq_eq_false_iff_ne];exact q2);have q2b:(((s[j]'hlt).toNat:Int) !=32)=true:=(by rw[bne_iff_ne];exact q2);clear hc q1 q2;go_wp2_with fail;go_quiet (fail);go_wp2_with fail;go_roundw;case rel=>exact⟨j+1,by omega,by omega,HTA,sc_inc hC.out nq,gr_set hG nq _⟩
   case measure=>rw[posOf_sc hC.out,posOf_sc (sc_inc hC.out nq)];omega
  ·have hex: ∀c t,s.data.toList.drop j=c::t→tpB c=false:=by
    intro c t hct;by_cases hlt:j<s.size
    ·rw[drop_cons s j hlt]at hct;have hcc:s[j]=c:=(by simp only[List.cons.injEq]at hct;exact hct.1);rw[←hcc];by_cases e:tpB s[j]=true
     ·exact absurd ⟨hlt,e⟩ hon
     ·simpa using e
    ·rw[List.drop_of_length_le (by simp;omega)]at hct;cases hct
   obtain⟨hT1,hT2⟩:=typeAt_off hTA.out hex;rw[HD1.out]at hT1 hT2;obtain⟨U,hU⟩: ∃U:ByteArray,U=s.extract j1 j:=⟨_,rfl⟩;have hUd:U.data.toList=(s.data.toList.drop j1).take (j-j1):=(by rw[hU,Lib.extract_data]);rw[←HD1.out]at hT1;rw[←hUd]at hT1;rw[HD1.out]at hT1;have hUs:U.size≤10000:=(by rw[←kt.size_len,hUd,List.length_take,List.length_drop,kt.size_len];omega);obtain⟨lt1,lt2⟩:=low_type U.data.toList;have hml:=mapGoD_len lowf _ U.data.toList (Nat.le_refl _);rw[kt.size_len]at hml;have CL:Hid (∀W:World,Hid (Tabs W)→Calls Tryz.prog 203 #[.string U] W fun e w'=>e= .returned (.string ⟨(Lib.mapD lowf U.data.toList).toArray⟩)∧Below W.heap.size W w'):=fun W h=>lower_any U W (by omega) h;obtain⟨V,hV⟩: ∃V:ByteArray,V=⟨(Lib.mapD lowf U.data.toList).toArray⟩:=⟨_,rfl⟩;have hVd:V.data.toList=Lib.mapD lowf U.data.toList:=(by rw[hV]);have hVs:V.size≤40000:=(by rw[←kt.size_len,hVd];omega);rw[←hV]at CL;have LR: ∀W,_:=fun W=>rightType_any V W (by omega);rw[hVd,lt1]at LR;have HLT2:Hid (typeOK (lowL U.data.toList)=true→V=⟨(lowL U.data.toList).toArray⟩):=fun h=>by rw[hV,lt2 h]
   have CLD:Hid (∀n,Calls Tryz.prog 203 #[.string U] (wr.drewN n) fun e w'=>e= .returned (.string V)∧Below (wr.drewN n).heap.size (wr.drewN n) w'):=fun n=>CL.out _ (Lib.hid (hTb.out _ (gr_drewN hG n)));have HT1:=Lib.hid hT1;have HT2:=Lib.hid hT2;have hex3:j=s.size∨(∃hlt:j<s.size,((s[j]'hlt).toNat:Int)=61)∨(∃hlt:j<s.size,((s[j]'hlt).toNat:Int)=32):=by
    by_cases hlt:j<s.size
    ·right;by_cases e1:((s[j]'hlt).toNat:Int)=61
     ·exact Or.inl ⟨hlt,e1⟩
     ·by_cases e2:((s[j]'hlt).toNat:Int)=32
      ·exact Or.inr ⟨hlt,e2⟩
      ·exact absurd ⟨hlt,(tpB_iff _).2 ⟨e1,e2⟩⟩ hon
    ·left;omega
   have HUS:=Lib.hid hUs;have HVS:=Lib.hid hVs;clear hT1 hT2 hUd lt1 lt2 hml hV hVd hex hon hUs hVs;have hU':=hU.symm;clear hU;have hjj:(j:Int)≤(s.size:Int):=(by omega);have hj0:(0:Int)≤(j:Int):=(by omega);have hj10:(0:Int)≤(j1:Int):=(by omega);have htn:((j:Int)).toNat=j:=(by omega);have htn1:((j1:Int)).toNat=j1:=(by omega);rcases hex3 with h0 | ⟨hlt,h0⟩ | ⟨hlt,h0⟩
   ·have h0':decide (j<s.size)=false:=(by rw[decide_eq_false_iff_not];omega);clear h0;go_wp2_with fail;go_quiet (fail);clear h0';go_wp2_with fail;go_region_held3 (fun W=>W.cell? ⟨b,0,none⟩=some (.string s)∧W.cell? ⟨b,1,none⟩=some (.int .i64 (j:Int))∧Hid (Sc W b s j)) (first | exact⟨c0,c1,hC⟩ | exact⟨(sc_cells (sc_below (sc_drewN hC.out _) hBn)).1,(sc_cells (sc_below (sc_drewN hC.out _) hBn)).2.1,sc_below (sc_drewN hC.out _) hBn⟩)
     ((go_at_call 203;refine(CLD.out _).mono ?_;rintro e w2 ⟨rfl,hBn⟩))
    have HS2:=Lib.hid (sc_below (sc_drewN hC.out _) hBn);have HG2:=Lib.hid (gr_trans (gr_drewN hG _) (gr_below (some b) hBn));clear hBn c0 c1 f1;have CB2:=Lib.hid (blanks_any b s j w2 HS2 hj (by omega));go_wp2_with fail;refine CB2.out.mono ?_;rintro e w3 ⟨rfl,j3,hij3,hj3,hD3,hS3,hG3⟩;have HS3:=Lib.hid hS3;have HG3:=Lib.hid (gr_trans HG2.out hG3);rw[←HT2.out]at hD3;have HD3:=Lib.hid hD3;obtain⟨d0,d1,g1,hb3⟩:=sc_cells hS3;clear hS3 hG3 hD3 CB2;by_cases hl3:j3<s.size
    ·have hl3':decide (s.size≤j3)=false:=(by rw[decide_eq_false_iff_not];omega);have hl3i:(j3:Int)<(s.size:Int):=(by omega);have hdc:=drop_cons s j3 hl3;rw[HD3.out]at hdc;have HDC:=Lib.hid hdc;clear hdc;by_cases h61:((s[j3]'hl3).toNat:Int)=61
     ·have q3a:(((s[j3]'hl3).toNat:Int)==61)=true:=(by rw[beq_iff_eq];exact h61);have q3b:(((s[j3]'hl3).toNat:Int) !=61)=false:=(by rw[bne_eq_false_iff_eq];exact h61);have h61':s[j3]=61:=u8_eq (n:=61) (by omega) h61;rw[h61']at HDC;by_cases hty:typeOK (lowL U.data.toList)=true
      ·rw[hty]at LR;have HLR:=Lib.hid LR;have HV:=Lib.hid (HLT2.out hty);have HE:Hid (∀w',w.grownBy w' (some b)→Sc w' b s (j3+1)→KindE b s i w (.returned (.tuple #[.string V,.bool true])) w'):=(by intro w' hg hs';rw[HV.out];exact kindE_some hg hs' HT1.out HDC.out hty (by omega) (by omega) rfl);clear LR h61 h61' hty HV;go_wp2_with fail;go_quiet ((go_at_call 204;exact Calls.quiet_of_same (kt.flip (HLR.out _))));go_wp2_with fail;go_ret2;exact HE.out _ (gr_set HG3.out _ _) (sc_inc HS3.out _)
      ·have hty':typeOK (lowL U.data.toList)=false:=(by simpa using hty);rw[hty']at LR;have HLR:=Lib.hid LR;have HE:Hid (∀w',w.grownBy w' (some b)→Sc w' b s j3→KindE b s i w (.returned (.tuple #[.string ⟨#[]⟩,.bool false])) w'):=
        fun w' hg hs'=>kindE_none hg hs' HT1.out HDC.out (fun c r _ h=>hty h.2)
       clear LR h61 h61' hty hty';go_wp2_with fail;go_quiet ((go_at_call 204;exact Calls.quiet_of_same (kt.flip (HLR.out _))));go_wp2_with fail;go_ret2;exact HE.out _ (gr_drewN HG3.out _) (sc_drewN HS3.out _)
     ·have q3a:(((s[j3]'hl3).toNat:Int)==61)=false:=(by rw[beq_eq_false_iff_ne];exact h61);have q3b:(((s[j3]'hl3).toNat:Int) !=61)=true:=(by rw[bne_iff_ne];exact h61);have HE:Hid (∀w',w.grownBy w' (some b)→Sc w' b s j3→KindE b s i w (.returned (.tuple #[.string ⟨#[]⟩,.bool false])) w'):=
       fun w' hg hs'=>kindE_none hg hs' HT1.out HDC.out (fun c r hcr h=>by simp only[List.cons.injEq]at hcr;exact u8_ne (n:=61) (by omega) h61 (hcr.1.trans h.1))
      clear h61 LR;go_wp2_with fail;go_quiet (fail);go_wp2_with fail;go_ret2;exact HE.out _ (gr_drewN HG3.out _) (sc_drewN HS3.out _)
    ·have hl3':decide (s.size≤j3)=true:=(by rw[decide_eq_true_iff];omega);have hd0:s.data.toList.drop j3=[]:=List.drop_of_length_le (by simp;omega);rw[HD3.out]at hd0;have HD0:=Lib.hid hd0;have HE:Hid (∀w',w.grownBy w' (some b)→Sc w' b s j3→KindE b s i w (.returned (.tuple #[.string ⟨#[]⟩,.bool false])) w'):=
      fun w' hg hs'=>kindE_none hg hs' HT1.out HD0.out (fun c r hcr=>by cases hcr)
     clear hd0 LR;go_wp2_with fail;go_quiet (fail);go_wp2_with fail;go_ret2;exact HE.out _ (gr_drewN HG3.out _) (sc_drewN HS3.out _)
   ·have hlt':(j:Int)<(s.size:Int):=(by omega);have q1a:(((s[j]'hlt).toNat:Int)==61)=true:=(by rw[beq_iff_eq];exact h0);have q1b:(((s[j]'hlt).toNat:Int) !=61)=false:=(by rw[bne_eq_false_iff_eq];exact h0);clear h0;go_wp2_with fail;go_quiet (fail);clear q1a q1b;go_wp2_with fail;go_region_held3 (fun W=>W.cell? ⟨b,0,none⟩=some (.string s)∧W.cell? ⟨b,1,none⟩=some (.int .i64 (j:Int))∧Hid (Sc W b s j)) (first | exact⟨c0,c1,hC⟩ | exact⟨(sc_cells (sc_below (sc_drewN hC.out _) hBn)).1,(sc_cells (sc_below (sc_drewN hC.out _) hBn)).2.1,sc_below (sc_drewN hC.out _) hBn⟩)
     ((go_at_call 203;refine(CLD.out _).mono ?_;rintro e w2 ⟨rfl,hBn⟩))
    have HS2:=Lib.hid (sc_below (sc_drewN hC.out _) hBn);have HG2:=Lib.hid (gr_trans (gr_drewN hG _) (gr_below (some b) hBn));clear hBn c0 c1 f1;have CB2:=Lib.hid (blanks_any b s j w2 HS2 hj (by omega));go_wp2_with fail;refine CB2.out.mono ?_;rintro e w3 ⟨rfl,j3,hij3,hj3,hD3,hS3,hG3⟩;have HS3:=Lib.hid hS3;have HG3:=Lib.hid (gr_trans HG2.out hG3);rw[←HT2.out]at hD3;have HD3:=Lib.hid hD3;obtain⟨d0,d1,g1,hb3⟩:=sc_cells hS3;clear hS3 hG3 hD3 CB2;by_cases hl3:j3<s.size
    ·have hl3':decide (s.size≤j3)=false:=(by rw[decide_eq_false_iff_not];omega);have hl3i:(j3:Int)<(s.size:Int):=(by omega);have hdc:=drop_cons s j3 hl3;rw[HD3.out]at hdc;have HDC:=Lib.hid hdc;clear hdc;by_cases h61:((s[j3]'hl3).toNat:Int)=61
     ·have q3a:(((s[j3]'hl3).toNat:Int)==61)=true:=(by rw[beq_iff_eq];exact h61);have q3b:(((s[j3]'hl3).toNat:Int) !=61)=false:=(by rw[bne_eq_false_iff_eq];exact h61);have h61':s[j3]=61:=u8_eq (n:=61) (by omega) h61;rw[h61']at HDC;by_cases hty:typeOK (lowL U.data.toList)=true
      ·rw[hty]at LR;have HLR:=Lib.hid LR;have HV:=Lib.hid (HLT2.out hty);have HE:Hid (∀w',w.grownBy w' (some b)→Sc w' b s (j3+1)→KindE b s i w (.returned (.tuple #[.string V,.bool true])) w'):=(by intro w' hg hs';rw[HV.out];exact kindE_some hg hs' HT1.out HDC.out hty (by omega) (by omega) rfl);clear LR h61 h61' hty HV;go_wp2_with fail;go_quiet ((go_at_call 204;exact Calls.quiet_of_same (kt.flip (HLR.out _))));go_wp2_with fail;go_ret2;exact HE.out _ (gr_set HG3.out _ _) (sc_inc HS3.out _)
      ·have hty':typeOK (lowL U.data.toList)=false:=(by simpa using hty);rw[hty']at LR;have HLR:=Lib.hid LR;have HE:Hid (∀w',w.grownBy w' (some b)→Sc w' b s j3→KindE b s i w (.returned (.tuple #[.string ⟨#[]⟩,.bool false])) w'):=
        fun w' hg hs'=>kindE_none hg hs' HT1.out HDC.out (fun c r _ h=>hty h.2)
       clear LR h61 h61' hty hty';go_wp2_with fail;go_quiet ((go_at_call 204;exact Calls.quiet_of_same (kt.flip (HLR.out _))));go_wp2_with fail;go_ret2;exact HE.out _ (gr_drewN HG3.out _) (sc_drewN HS3.out _)
     ·have q3a:(((s[j3]'hl3).toNat:Int)==61)=false:=(by rw[beq_eq_false_iff_ne];exact h61);have q3b:(((s[j3]'hl3).toNat:Int) !=61)=true:=(by rw[bne_iff_ne];exact h61);have HE:Hid (∀w',w.grownBy w' (some b)→Sc w' b s j3→KindE b s i w (.returned (.tuple #[.string ⟨#[]⟩,.bool false])) w'):=
       fun w' hg hs'=>kindE_none hg hs' HT1.out HDC.out (fun c r hcr h=>by simp only[List.cons.injEq]at hcr;exact u8_ne (n:=61) (by omega) h61 (hcr.1.trans h.1))
      clear h61 LR;go_wp2_with fail;go_quiet (fail);go_wp2_with fail;go_ret2;exact HE.out _ (gr_drewN HG3.out _) (sc_drewN HS3.out _)
    ·have hl3':decide (s.size≤j3)=true:=(by rw[decide_eq_true_iff];omega);have hd0:s.data.toList.drop j3=[]:=List.drop_of_length_le (by simp;omega);rw[HD3.out]at hd0;have HD0:=Lib.hid hd0;have HE:Hid (∀w',w.grownBy w' (some b)→Sc w' b s j3→KindE b s i w (.returned (.tuple #[.string ⟨#[]⟩,.bool false])) w'):=
      fun w' hg hs'=>kindE_none hg hs' HT1.out HD0.out (fun c r hcr=>by cases hcr)
     clear hd0 LR;go_wp2_with fail;go_quiet (fail);go_wp2_with fail;go_ret2;exact HE.out _ (gr_drewN HG3.out _) (sc_drewN HS3.out _)
   ·have hlt':(j:Int)<(s.size:Int):=(by omega);have q1a:(((s[j]'hlt).toNat:Int)==61)=false:=(by rw[beq_eq_false_iff_ne];omega);have q1b:(((s[j]'hlt).toNat:Int) !=61)=true:=(by rw[bne_iff_ne];omega);have q2a:(((s[j]'hlt).toNat:Int)==32)=true:=(by rw[beq_iff_eq];exact h0);have q2b:(((s[j]'hlt).toNat:Int) !=32)=false:=(by rw[bne_eq_false_iff_eq];exact h0);clear h0;go_wp2_with fail;go_quiet (fail);clear q1a q1b q2a q2b;go_wp2_with fail;go_region_held3 (fun W=>W.cell? ⟨b,0,none⟩=some (.string s)∧W.cell? ⟨b,1,none⟩=some (.int .i64 (j:Int))∧Hid (Sc W b s j)) (first | exact⟨c0,c1,hC⟩ | exact⟨(sc_cells (sc_below (sc_drewN hC.out _) hBn)).1,(sc_cells (sc_below (sc_drewN hC.out _) hBn)).2.1,sc_below (sc_drewN hC.out _) hBn⟩)
     ((go_at_call 203;refine(CLD.out _).mono ?_;rintro e w2 ⟨rfl,hBn⟩))
    have HS2:=Lib.hid (sc_below (sc_drewN hC.out _) hBn);have HG2:=Lib.hid (gr_trans (gr_drewN hG _) (gr_below (some b) hBn));clear hBn c0 c1 f1;have CB2:=Lib.hid (blanks_any b s j w2 HS2 hj (by omega));go_wp2_with fail;refine CB2.out.mono ?_;rintro e w3 ⟨rfl,j3,hij3,hj3,hD3,hS3,hG3⟩;have HS3:=Lib.hid hS3;have HG3:=Lib.hid (gr_trans HG2.out hG3);rw[←HT2.out]at hD3;have HD3:=Lib.hid hD3;obtain⟨d0,d1,g1,hb3⟩:=sc_cells hS3;clear hS3 hG3 hD3 CB2;by_cases hl3:j3<s.size
    ·have hl3':decide (s.size≤j3)=false:=(by rw[decide_eq_false_iff_not];omega);have hl3i:(j3:Int)<(s.size:Int):=(by omega);have hdc:=drop_cons s j3 hl3;rw[HD3.out]at hdc;have HDC:=Lib.hid hdc;clear hdc;by_cases h61:((s[j3]'hl3).toNat:Int)=61
     ·have q3a:(((s[j3]'hl3).toNat:Int)==61)=true:=(by rw[beq_iff_eq];exact h61);have q3b:(((s[j3]'hl3).toNat:Int) !=61)=false:=(by rw[bne_eq_false_iff_eq];exact h61);have h61':s[j3]=61:=u8_eq (n:=61) (by omega) h61;rw[h61']at HDC;by_cases hty:typeOK (lowL U.data.toList)=true
      ·rw[hty]at LR;have HLR:=Lib.hid LR;have HV:=Lib.hid (HLT2.out hty);have HE:Hid (∀w',w.grownBy w' (some b)→Sc w' b s (j3+1)→KindE b s i w (.returned (.tuple #[.string V,.bool true])) w'):=(by intro w' hg hs';rw[HV.out];exact kindE_some hg hs' HT1.out HDC.out hty (by omega) (by omega) rfl);clear LR h61 h61' hty HV;go_wp2_with fail;go_quiet ((go_at_call 204;exact Calls.quiet_of_same (kt.flip (HLR.out _))));go_wp2_with fail;go_ret2;exact HE.out _ (gr_set HG3.out _ _) (sc_inc HS3.out _)
      ·have hty':typeOK (lowL U.data.toList)=false:=(by simpa using hty);rw[hty']at LR;have HLR:=Lib.hid LR;have HE:Hid (∀w',w.grownBy w' (some b)→Sc w' b s j3→KindE b s i w (.returned (.tuple #[.string ⟨#[]⟩,.bool false])) w'):=
        fun w' hg hs'=>kindE_none hg hs' HT1.out HDC.out (fun c r _ h=>hty h.2)
       clear LR h61 h61' hty hty';go_wp2_with fail;go_quiet ((go_at_call 204;exact Calls.quiet_of_same (kt.flip (HLR.out _))));go_wp2_with fail;go_ret2;exact HE.out _ (gr_drewN HG3.out _) (sc_drewN HS3.out _)
     ·have q3a:(((s[j3]'hl3).toNat:Int)==61)=false:=(by rw[beq_eq_false_iff_ne];exact h61);have q3b:(((s[j3]'hl3).toNat:Int) !=61)=true:=(by rw[bne_iff_ne];exact h61);have HE:Hid (∀w',w.grownBy w' (some b)→Sc w' b s j3→KindE b s i w (.returned (.tuple #[.string ⟨#[]⟩,.bool false])) w'):=
       fun w' hg hs'=>kindE_none hg hs' HT1.out HDC.out (fun c r hcr h=>by simp only[List.cons.injEq]at hcr;exact u8_ne (n:=61) (by omega) h61 (hcr.1.trans h.1))
      clear h61 LR;go_wp2_with fail;go_quiet (fail);go_wp2_with fail;go_ret2;exact HE.out _ (gr_drewN HG3.out _) (sc_drewN HS3.out _)
    ·have hl3':decide (s.size≤j3)=true:=(by rw[decide_eq_true_iff];omega);have hd0:s.data.toList.drop j3=[]:=List.drop_of_length_le (by simp;omega);rw[HD3.out]at hd0;have HD0:=Lib.hid hd0;have HE:Hid (∀w',w.grownBy w' (some b)→Sc w' b s j3→KindE b s i w (.returned (.tuple #[.string ⟨#[]⟩,.bool false])) w'):=
      fun w' hg hs'=>kindE_none hg hs' HT1.out HD0.out (fun c r hcr=>by cases hcr)
     clear hd0 LR;go_wp2_with fail;go_quiet (fail);go_wp2_with fail;go_ret2;exact HE.out _ (gr_drewN HG3.out _) (sc_drewN HS3.out _)
end dnw
open Go.RowKit
namespace dnw
open dnp
def EscE (b:Nat)(s:ByteArray)(i:Nat)(w:World)(e:Ending)(w':World):Prop:=
 w.grownBy w' (some b)∧match esc (s.data.toList.drop i)with
  | none=> ∃j,e= .returned (.tuple #[.int .u8 0,.bool false])∧Sc w' b s j
  | some (d,n)=>e= .returned (.tuple #[.int .u8 (d.toNat:Int),.bool true])∧Sc w' b s (i+n)
def plainEsc (d:UInt8):Prop:=special d=true∨d=35∨d=32
theorem ix_signs (d:UInt8):0≤Lib.indexByte [34,43,44,59,60,61,62,92,35,32] d↔plainEsc d:=by
 have all: ∀m:Fin 256,(decide (0≤Lib.indexByte [34,43,44,59,60,61,62,92,35,32] (UInt8.ofNat m.val)))=(special (UInt8.ofNat m.val)||decide (UInt8.ofNat m.val=35)||decide (UInt8.ofNat m.val=32)):=by decide+kernel
 have h:=all ⟨d.toNat,d.toNat_lt⟩;simp only[UInt8.ofNat_toNat]at h;unfold plainEsc;rw[←decide_eq_true_iff (p:=0≤_),h,Bool.or_eq_true,Bool.or_eq_true,decide_eq_true_iff,decide_eq_true_iff];constructor
 ·rintro((h | h) | h)
  ·exact Or.inl h
  ·exact Or.inr (Or.inl h)
  ·exact Or.inr (Or.inr h)
 ·rintro(h | h | h)
  ·exact Or.inl (Or.inl h)
  ·exact Or.inl (Or.inr h)
  ·exact Or.inr h
theorem esc_plain {d:UInt8}{t:List UInt8}(h:plainEsc d):esc (d::t)=some (d,1):=if_pos h
theorem esc_one {d:UInt8}(h: ¬plainEsc d):esc [d]=none:=if_neg h
theorem esc_hex {d e:UInt8}{t:List UInt8}(h: ¬plainEsc d)(h2: ¬ (b64p.valI d<0∨b64p.valI e<0)):esc (d::e::t)=some (UInt8.ofNat (16*b64p.valI d+b64p.valI e).toNat,2):=(if_neg h).trans (if_neg h2)
theorem esc_nohex {d e:UInt8}{t:List UInt8}(h: ¬plainEsc d)(h2:b64p.valI d<0∨b64p.valI e<0):esc (d::e::t)=none:=(if_neg h).trans (if_pos h2)
theorem unhex_two (d e:UInt8):b64p.unhex [d,e]=if b64p.valI d<0∨b64p.valI e<0 then none else some [UInt8.ofNat (16*b64p.valI d+b64p.valI e).toNat]:=by
 unfold b64p.unhex;split
 ·rfl
 ·rfl
theorem sc_two {w:World}{b i:Nat}{s:ByteArray}(h:Sc w b s i)(n:Nat):Sc ((w.drewN n).setCell ⟨b,1,none⟩ (.int .i64 ((i:Int)+2))) b s (i+2):=sc_set h n (i+2)
theorem sc_inc0 {w:World}{b i:Nat}{s:ByteArray}(h:Sc w b s i):Sc (w.setCell ⟨b,1,none⟩ (.int .i64 ((i:Int)+1))) b s (i+1):=sc_set0 h (i+1)
theorem sc_two0 {w:World}{b i:Nat}{s:ByteArray}(h:Sc w b s i):Sc (w.setCell ⟨b,1,none⟩ (.int .i64 ((i:Int)+2))) b s (i+2):=sc_set0 h (i+2)
theorem gr_set0 {w w':World}{b:Nat}(h:w.grownBy w' (some b))(v:Value):w.grownBy (w'.setCell ⟨b,1,none⟩ v) (some b):=gr_set h 0 v
theorem escaped_any (b:Nat)(s:ByteArray)(i:Nat)(w:World)(hS:Hid (Sc w b s i))(hi:i≤s.size)(hs:s.size≤10000):
  Calls Tryz.prog 205 #[.pointer (some ⟨b,0,none⟩)] w fun e w'=>EscE b s i w e w':=by
 obtain⟨c0,c1,f1,hb⟩:=sc_cells hS.out;obtain⟨U,hU⟩: ∃U:ByteArray,s.extract i s.size=U:=⟨_,rfl⟩;have hUd:U.data.toList=s.data.toList.drop i:=by rw[←hU,Lib.extract_to_end]
 have hUs:U.size=s.size-i:=by rw[←kt.size_len,hUd,List.length_drop,kt.size_len]
 have hi':(i:Int)≤(s.size:Int):=by omega
 have hi0:(0:Int)≤(i:Int):=by omega
 by_cases h0:U.size=0
 ·have hd0:s.data.toList.drop i=[]:=by rw[←hUd];exact List.eq_nil_of_length_eq_zero (by rw[kt.size_len];exact h0)
  have HD0:=Lib.hid hd0;obtain rfl:U=⟨#[]⟩:=kt.str_eq (by rw[hUd,hd0]);clear hUd hUs h0 hd0;go_enter Tryz.func205,Tryz.ntmps205;go_wp2_with fail;go_quiet (fail);go_wp2_with fail;go_ret2;refine⟨gr_drewN (gr_refl _ _) _,?_⟩;rw[HD0.out];exact⟨i,rfl,sc_drewN hS.out _⟩
 ·have hU0:0<U.size:=by omega
  have hU0':0<(U.size:Int):=by omega
  have hcons:s.data.toList.drop i=U[0]::U.data.toList.drop 1:=by rw[←hUd];have:=drop_cons U 0 hU0;simpa using this
  have g1:(U.toList==[])=false:=by rw[beq_eq_false_iff_ne,Lib.toList_data,hUd,hcons];simp
  have g2: ¬U.toList=[]:=by simpa using g1
  have CX:Hid (∀W:World,Calls Tryz.prog 175 #[.string ⟨#[34,43,44,59,60,61,62,92,35,32]⟩,.int .u8 ((U[0]'hU0).toNat:Int)] W fun e w'=>e= .returned (.int .i64 (Lib.indexByte [34,43,44,59,60,61,62,92,35,32] (U[0]'hU0)))∧w'=W):=by intro W;have:=Tryz.strings_IndexByte ⟨#[34,43,44,59,60,61,62,92,35,32]⟩ ((U[0]'hU0).toNat:Int) W;have e:((U[0]'hU0).toNat:Int).toNat.toUInt8=U[0]'hU0:=(by simp);rw[e]at this;exact this
  have hix:=ix_signs (U[0]'hU0);generalize Lib.indexByte [34,43,44,59,60,61,62,92,35,32] (U[0]'hU0)=ix at CX hix;by_cases hp:plainEsc (U[0]'hU0)
  ·have hix':0≤ix:=hix.2 hp;have HE:Hid (esc (s.data.toList.drop i)=some (U[0]'hU0,1)):=(by show _=_;rw[hcons];exact esc_plain hp);clear hix hp hcons hUd;go_enter Tryz.func205,Tryz.ntmps205;go_wp2_with fail;go_quiet (fail);go_wp2_with fail;refine(CX.out _).mono ?_;rintro e w1 ⟨rfl,rfl⟩;go_wp2_with fail;go_ret2;refine⟨gr_set (gr_refl _ _) _ _,?_⟩;rw[HE.out];exact⟨rfl,sc_inc hS.out _⟩
  ·have hix': ¬0≤ix:=fun h=>hp (hix.1 h);have hix2:decide (0≤ix)=false:=(by rw[decide_eq_false_iff_not];exact hix');by_cases h2:U.size<2
   ·have h2':(U.size:Int)<2:=(by omega);have HE:Hid (esc (s.data.toList.drop i)=none):=(by show _=_;rw[hcons,List.drop_of_length_le (by rw[kt.size_len];omega)];exact esc_one hp);clear hix hix' hp hcons hUd;go_enter Tryz.func205,Tryz.ntmps205;go_wp2_with fail;go_quiet (fail);go_wp2_with fail;refine(CX.out _).mono ?_;rintro e w1 ⟨rfl,rfl⟩;go_wp2_with fail;go_ret2;refine⟨gr_drewN (gr_refl _ _) _,?_⟩;rw[HE.out];exact⟨i,rfl,sc_drewN hS.out _⟩
   ·have h2': ¬ (U.size:Int)<2:=(by omega);have hU1:1<U.size:=(by omega);have h2b:(2:Int)≤(U.size:Int):=(by omega);have hc2:U.data.toList.drop 1=U[1]::U.data.toList.drop 2:=drop_cons U 1 hU1;rw[hc2]at hcons;obtain⟨V,hV⟩: ∃V:ByteArray,U.extract 0 2=V:=⟨_,rfl⟩;have hVd:V.data.toList=[U[0],U[1]]:=(by rw[←hV,Lib.extract_from_zero,hUd,hcons];rfl);have CU: ∀W,_:=fun W=>unhex_any V W (by rw[←kt.size_len,hVd];simp);rw[hVd,unhex_two]at CU;by_cases hn:b64p.valI (U[0]'hU0)<0∨b64p.valI (U[1]'hU1)<0
    ·have HE:Hid (esc (s.data.toList.drop i)=none):=(by show _=_;rw[hcons];exact esc_nohex hp hn);rw[if_pos hn]at CU;have HCU:=Lib.hid CU;clear hix hix' hp hcons hUd hc2 hVd hn CU;go_enter Tryz.func205,Tryz.ntmps205;go_wp2_with fail;go_quiet (fail);go_wp2_with fail;refine(CX.out _).mono ?_;rintro e w1 ⟨rfl,rfl⟩;go_wp2_with fail;refine(HCU.out _).mono ?_;rintro e w2 ⟨rfl,hB2⟩;unfold b64p.uhV;go_wp2_with fail;go_ret2;refine⟨gr_trans (gr_drewN (gr_refl _ _) _) (gr_below _ hB2),?_⟩;rw[HE.out];exact⟨i,rfl,sc_below (sc_drewN hS.out _) hB2⟩
    ·have HE:Hid (esc (s.data.toList.drop i)=some (UInt8.ofNat (16*b64p.valI (U[0]'hU0)+b64p.valI (U[1]'hU1)).toNat,2)):=(by show _=_;rw[hcons];exact esc_hex hp hn);rw[if_neg hn]at CU;generalize UInt8.ofNat (16*b64p.valI (U[0]'hU0)+b64p.valI (U[1]'hU1)).toNat=x at CU HE;have HCU:=Lib.hid CU;clear hix hix' hp hcons hUd hc2 hVd hn CU;go_enter Tryz.func205,Tryz.ntmps205;go_wp2_with fail;go_quiet (fail);go_wp2_with fail;refine(CX.out _).mono ?_;rintro e w1 ⟨rfl,rfl⟩;go_wp2_with fail;refine(HCU.out _).mono ?_;rintro e w2 ⟨rfl,hB2⟩;have HS2:=Lib.hid (sc_below (sc_drewN hS.out _) hB2);have HG2:=Lib.hid (gr_trans (gr_drewN (gr_refl w (some b)) _) (gr_below _ hB2));obtain⟨d0,d1,e1,hb2⟩:=sc_cells HS2.out;clear hB2 c0 c1 f1;unfold b64p.uhV;go_wp2_with fail;go_ret2;refine⟨gr_set0 HG2.out _,?_⟩;rw[HE.out];exact⟨rfl,sc_two0 HS2.out⟩
end dnw
open Go.RowKit
namespace dnw
open dnp
def ValE (b:Nat)(s:ByteArray)(i:Nat)(w:World)(e:Ending)(w':World):Prop:=
 w.grownBy w' (some b)∧match valueP (s.data.toList.drop i)with
  | none=> ∃j,e= .returned (.tuple #[.string ⟨#[]⟩,.bool false])∧Sc w' b s j
  | some (t,r)=> ∃j,e= .returned (.tuple #[.string ⟨t.toArray⟩,.bool true])∧i≤j∧j≤s.size∧s.data.toList.drop j=r∧Sc w' b s j
theorem row_same {w w':World}{B n:Nat}{e:TypeId}{sz:Nat}{v:Value}{xs:List Value}(h:w.ownsRow B e sz v n xs)(hb: ∀k,v.ownBlock=some k→w'.heap[k]? =w.heap[k]?):w'.ownsRow B e sz v n xs:=by
 refine⟨h.1,?_⟩;rcases h.2 with h0 | ⟨g,cap,cur,hv,hBg,hg,h1,h2,h3,h4⟩
 ·exact Or.inl h0
 ·exact Or.inr ⟨g,cap,cur,hv,hBg,(hb g (by rw[hv];rfl)).trans hg,h1,h2,h3,h4⟩
def OwnB (w:World)(B:Nat)(v:Value)(l:List UInt8):Prop:=w.ownsRow B 5 1 v (Lib.byteCells l).length (Lib.byteCells l)
theorem ownB_nil (w:World)(B:Nat):OwnB w B (.slice none 0 0) []:=World.ownsRow_nil _ _ _ _
theorem ownB_set {w:World}{B b n:Nat}{v u:Value}{l:List UInt8}(h:OwnB w B v l)(hb:b<B):OwnB ((w.drewN n).setCell ⟨b,1,none⟩ u) B v l:=row_same (w:=w) h fun k hk=>by have:=(World.ownsRow.lt h k hk).1;exact Below.heap_setCell (w.drewN n) ⟨b,1,none⟩ u k (by show k≠b;omega)
theorem ownB_drewN {w:World}{B n:Nat}{v:Value}{l:List UInt8}(h:OwnB w B v l):OwnB (w.drewN n) B v l:=row_same (w:=w) h fun k _=>rfl
theorem ownB_form {w:World}{B:Nat}{v:Value}{l:List UInt8}(h:OwnB w B v l): ∃ (ao:Option Addr) (cap:Nat),v= .slice ao l.length cap∧l.length≤cap:=by obtain⟨ao,cap,hv,_,hc⟩:=kt.row_slice h;rw[Lib.byteCells_length]at hv hc;exact⟨ao,cap,hv,hc⟩
theorem ownB_gr {w w':World}{B b:Nat}{v:Value}{l:List UInt8}(h:OwnB w B v l)(hb:b<B)(hg:w.grownBy w' (some b)):OwnB w' B v l:=row_same h fun k hk=>by obtain⟨h1,h2⟩:=World.ownsRow.lt h k hk;exact hg.block k h2 (by intro e;cases e;omega)
theorem ownB_app {w:World}{B:Nat}{v:Value}{l:List UInt8}(x:UInt8)(hown:OwnB w B v l)(hl:l.length≤100000000)(hbase:B≤w.heap.size):
  ∃v' w1,(Builtin.append_ #[131,131] 131 #[v,.slice (some ⟨w.heap.size,0,none⟩) 1 1]).run Tryz.prog (w.alloc (.cells #[.int .u8 (x.toNat:Int)] 5))= .ok v' w1∧OwnB w1 B v' (l++[x])∧Below B w w1:=by
 obtain⟨v',w1,h1,h2,_,h3⟩:=kt.app1 (P:=Tryz.prog) (t:=131) (ty:=131) Tryz.underlying131 bld.infoByte rfl (.int .u8 (x.toNat:Int)) rfl hown (by rw[Lib.byteCells_length];unfold maxLen;omega) (by rw[Lib.byteCells_length];omega) hbase;refine⟨v',w1,h1,?_,h3⟩;unfold OwnB;rw[Lib.byteCells_append];exact h2
theorem ownB_str {w:World}{B k cap:Nat}{ao:Option Addr}{l:List UInt8}(h:OwnB w B (.slice ao l.length cap) l)(hk:k≤l.length):
  (convert 131 9 (.slice ao k cap)).run Tryz.prog w= .ok (.string ⟨(l.take k).toArray⟩) w:=by
 by_cases hl:l.length=0
 ·obtain rfl:l=[]:=List.eq_nil_of_length_eq_zero hl;obtain rfl:k=0:=by simp at hk;exact hk
  rcases h.2 with⟨hv,_⟩ | ⟨g,cap',cur,hv,_,hg,_⟩
  ·simp only[Value.slice.injEq]at hv;obtain⟨rfl,_,rfl⟩:=hv;exact Lib.run_convert_nil_bytes w 131 9 5 0 Tryz.underlying131 Tryz.underlying5 Tryz.underlying9
  ·simp only[Value.slice.injEq]at hv;obtain⟨rfl,_,_⟩:=hv;exact run_convert_bytes_back w 131 9 5 ⟨g,0,none⟩ cap [] Tryz.underlying131 Tryz.underlying5 Tryz.underlying9 (fun j hj=>by simp at hj)
 ·have h':w.ownsRow B 5 1 (.slice ao l.length cap) l.length (Lib.byteCells l):=by have:=h;unfold OwnB at this;rw[Lib.byteCells_length]at this;exact this
  obtain⟨g,rfl,hc,_⟩:=kt.row_some h' (by omega);have hlen:(l.take k).length=k:=by rw[List.length_take];omega
  have:=run_convert_bytes_back (P:=Tryz.prog) w 131 9 5 ⟨g,0,none⟩ cap (l.take k) Tryz.underlying131 Tryz.underlying5 Tryz.underlying9 (fun j hj=>by rw[kt.addr_add];rw[hlen]at hj;refine hc j _ ?_;unfold Lib.byteCells;rw[List.getElem?_map,List.getElem?_eq_getElem (by omega)];simp[List.getElem_take]);rw[hlen]at this;exact this
theorem trimR_snoc (B:List Sg)(x:Sg):trimR (B++[x])=if blankS x=true then trimR B else B++[x]:=by
 unfold trimR;rw[List.reverse_append,List.reverse_singleton,List.singleton_append,List.dropWhile_cons];split
 ·rfl
 ·simp
theorem trimR_len (B:List Sg):(trimR B).length≤B.length:=by obtain⟨a,h1,_⟩:=trimR_split B;have:=congrArg List.length h1;rw[List.length_append]at this;omega
theorem trimR_take (B:List Sg):(B.map (·.1)).take (trimR B).length=(trimR B).map (·.1):=by
 obtain⟨a,h1,_⟩:=trimR_split B;have h2:B.map (·.1)=(trimR B).map (·.1)++a.map (·.1):=by rw[←List.map_append,←h1]
 rw[h2,List.take_append_of_le_length (by rw[List.length_map];exact Nat.le_refl _),List.take_of_length_le (by rw[List.length_map];exact Nat.le_refl _)]
def ScanAt (s:ByteArray)(j1 j:Nat)(B:List Sg):Prop:=scan (s.data.toList.drop j1)=(scan (s.data.toList.drop j)).map fun p=>(B++p.1,p.2)
theorem valE_none {b i j:Nat}{s:ByteArray}{w w':World}(hg:w.grownBy w' (some b))(hs:Sc w' b s j)(h:valueP (s.data.toList.drop i)=none):ValE b s i w (.returned (.tuple #[.string ⟨#[]⟩,.bool false])) w':=by refine⟨hg,?_⟩;rw[h];exact⟨j,rfl,hs⟩
theorem valE_some {b i j:Nat}{s:ByteArray}{w w':World}{t r:List UInt8}(hg:w.grownBy w' (some b))(hs:Sc w' b s j)(h:valueP (s.data.toList.drop i)=some (t,r))(hij:i≤j)(hj:j≤s.size)(hr:s.data.toList.drop j=r):ValE b s i w (.returned (.tuple #[.string ⟨t.toArray⟩,.bool true])) w':=by refine⟨hg,?_⟩;rw[h];exact⟨j,rfl,hij,hj,hr,hs⟩
theorem valueP_at {s:ByteArray}{i j1:Nat}(hD:s.data.toList.drop j1=(s.data.toList.drop i).dropWhile (· =32)):valueP (s.data.toList.drop i)=if(s.data.toList.drop j1).head?=some 35 then none else(scan (s.data.toList.drop j1)).map fun p=>((trimR p.1).map (·.1),p.2):=by unfold valueP;rw[←hD]
theorem u8_sep (c:UInt8):isSep c=true↔(c.toNat:Int)=44∨(c.toNat:Int)=59∨(c.toNat:Int)=43:=by
 have all: ∀m:Fin 256,isSep (UInt8.ofNat m.val)=decide ((m.val:Int)=44∨(m.val:Int)=59∨(m.val:Int)=43):=by decide+kernel
 have h:=all ⟨c.toNat,c.toNat_lt⟩;simp only[UInt8.ofNat_toNat]at h;rw[h,decide_eq_true_iff]
theorem u8_bad (c:UInt8):bad c=true↔(c.toNat:Int)=34∨(c.toNat:Int)=60∨(c.toNat:Int)=62:=by
 have all: ∀m:Fin 256,bad (UInt8.ofNat m.val)=decide ((m.val:Int)=34∨(m.val:Int)=60∨(m.val:Int)=62):=by decide+kernel
 have h:=all ⟨c.toNat,c.toNat_lt⟩;simp only[UInt8.ofNat_toNat]at h;rw[h,decide_eq_true_iff]
theorem scanAt_end {s:ByteArray}{j1:Nat}{B:List Sg}(h:ScanAt s j1 s.size B):scan (s.data.toList.drop j1)=some (B,[]):=by unfold ScanAt at h;rw[drop_end,scan_nil]at h;simpa using h
theorem scanAt_sep {s:ByteArray}{j1 j:Nat}{B:List Sg}(h:ScanAt s j1 j B)(hj:j<s.size)(hc:isSep s[j]=true):scan (s.data.toList.drop j1)=some (B,s.data.toList.drop j):=by unfold ScanAt at h;rw[drop_cons s j hj,scan_sep _ _ hc]at h;rw[h,drop_cons s j hj];simp
theorem scanAt_bad {s:ByteArray}{j1 j:Nat}{B:List Sg}(h:ScanAt s j1 j B)(hj:j<s.size)(hs:isSep s[j]=false)(hc:bad s[j]=true):scan (s.data.toList.drop j1)=none:=by unfold ScanAt at h;rw[drop_cons s j hj,scan_bad _ _ hs hc]at h;rw[h];rfl
theorem scanAt_bare {s:ByteArray}{j1 j:Nat}{B:List Sg}(h:ScanAt s j1 j B)(hj:j<s.size)(hs:isSep s[j]=false)(hc:bad s[j]=false)(h92:s[j]≠92):ScanAt s j1 (j+1) (B++[(s[j],true)]):=by unfold ScanAt at*;rw[drop_cons s j hj,scan_bare _ _ hs hc h92,Option.map_map]at h;rw[h];congr 1;funext p;simp
theorem scanAt_none {s:ByteArray}{j1 j:Nat}{B:List Sg}(h:ScanAt s j1 j B)(hj:j<s.size)(hc:s[j]=92)(he:esc (s.data.toList.drop (j+1))=none):scan (s.data.toList.drop j1)=none:=by unfold ScanAt at h;rw[drop_cons s j hj,hc,scan_none _ he]at h;rw[h];rfl
theorem scanAt_esc {s:ByteArray}{j1 j n:Nat}{d:UInt8}{B:List Sg}(h:ScanAt s j1 j B)(hj:j<s.size)(hc:s[j]=92)(he:esc (s.data.toList.drop (j+1))=some (d,n)):ScanAt s j1 (j+1+n) (B++[(d,false)]):=by unfold ScanAt at*;rw[drop_cons s j hj,hc,scan_esc _ _ _ he,Option.map_map,List.drop_drop]at h;rw[h];congr 1;funext p;simp
theorem valueP_none {s:ByteArray}{i j1:Nat}(hD:s.data.toList.drop j1=(s.data.toList.drop i).dropWhile (· =32))(h:scan (s.data.toList.drop j1)=none):valueP (s.data.toList.drop i)=none:=by rw[valueP_at hD,h];simp
theorem valueP_some {s:ByteArray}{i j1:Nat}{B:List Sg}{r:List UInt8}(hD:s.data.toList.drop j1=(s.data.toList.drop i).dropWhile (· =32))(h35: ¬ (s.data.toList.drop j1).head?=some 35)(h:scan (s.data.toList.drop j1)=some (B,r)):valueP (s.data.toList.drop i)=some ((trimR B).map (·.1),r):=by rw[valueP_at hD,if_neg h35,h];rfl
def ValRel (w wr:World)(b:Nat)(s:ByteArray)(j1 j:Nat)(B:List Sg)(ao:Option Addr)(n cap K:Nat):Prop:=Sc wr b s j∧w.grownBy wr (some b)∧OwnB wr w.heap.size (.slice ao n cap) (B.map (·.1))∧n=B.length∧n≤cap∧K=(trimR B).length∧ScanAt s j1 j B∧B.length≤j
theorem valRel_str {w wr:World}{b j1 j n cap K:Nat}{s:ByteArray}{B:List Sg}{ao:Option Addr}(h:ValRel w wr b s j1 j B ao n cap K):(convert 131 9 (.slice ao K cap)).run Tryz.prog wr= .ok (.string ⟨((trimR B).map (·.1)).toArray⟩) wr:=by
 obtain⟨_,_,h3,h4,_,h6,_⟩:=h;have h3':OwnB wr w.heap.size (.slice ao (B.map (·.1)).length cap) (B.map (·.1)):=by rw[List.length_map,←h4];exact h3
 have hk:=trimR_len B;have:=ownB_str h3' (k:=K) (by rw[List.length_map,h6];exact hk);rw[this,h6,trimR_take]
theorem valRel_drewN {w wr:World}{b j1 j n cap K:Nat}{s:ByteArray}{B:List Sg}{ao:Option Addr}(h:ValRel w wr b s j1 j B ao n cap K)(q:Nat):ValRel w (wr.drewN q) b s j1 j B ao n cap K:=⟨sc_drewN h.1 q,gr_drewN h.2.1 q,ownB_drewN h.2.2.1,h.2.2.2⟩
theorem valRel_move {w wr:World}{b j1 j n cap K:Nat}{s:ByteArray}{B:List Sg}{ao:Option Addr}(h:ValRel w wr b s j1 j B ao n cap K)(hb:b<w.heap.size):Sc (wr.setCell ⟨b,1,none⟩ (.int .i64 ((j:Int)+1))) b s (j+1)∧w.grownBy (wr.setCell ⟨b,1,none⟩ (.int .i64 ((j:Int)+1))) (some b)∧OwnB (wr.setCell ⟨b,1,none⟩ (.int .i64 ((j:Int)+1))) w.heap.size (.slice ao n cap) (B.map (·.1)):=⟨sc_inc0 h.1,gr_set0 h.2.1 _,ownB_set (n:=0) h.2.2.1 hb⟩
theorem valRel_app {w wr:World}{b j1 j j2 n cap K:Nat}{s:ByteArray}{B:List Sg}{ao:Option Addr}(x:Sg)(h:ValRel w wr b s j1 j B ao n cap K)(hs:s.size≤10000)(hj:j≤s.size)(hb:b<w.heap.size){w3:World}(h1:Sc w3 b s j2)(h2:w.grownBy w3 (some b))(h3:OwnB w3 w.heap.size (.slice ao n cap) (B.map (·.1)))(hS:ScanAt s j1 j2 (B++[x]))(hj2:j+1≤j2):
  ∃ao' cap' w4,(Builtin.append_ #[131,131] 131 #[.slice ao n cap,.slice (some ⟨w3.heap.size,0,none⟩) 1 1]).run Tryz.prog (w3.alloc (.cells #[.int .u8 (x.1.toNat:Int)] 5))= .ok (.slice ao' (n+1) cap') w4∧n+1≤cap'∧posOf w4 b=j2∧
   ValRel w w4 b s j1 j2 (B++[x]) ao' (n+1) cap' (if blankS x=true then K else n+1):=by
 obtain⟨_,_,_,k4,k5,k6,_,k8⟩:=h;obtain⟨v',w4,hap,hO4,hB4⟩:=ownB_app x.1 h3 (by rw[List.length_map];omega) h2.size;obtain⟨ao',cap',rfl,hc'⟩:=ownB_form hO4;have hl:(B.map (·.1)++[x.1]).length=n+1:=by simp[k4]
 rw[hl]at hap hc' hO4;have hS4:Sc w4 b s j2:=(hB4.block b hb).trans h1;refine⟨ao',cap',w4,hap,hc',posOf_sc hS4,hS4,⟨hB4.os.trans h2.os,hB4.tape.trans h2.tape,hB4.output.trans h2.output,Nat.le_trans h2.size hB4.size,fun k hk hne=>(hB4.block k hk).trans (h2.block k hk hne)⟩,?_,by simp[k4],hc',?_,hS,by simp;omega⟩
 ·have e:(B++[x]).map (·.1)=B.map (·.1)++[x.1]:=by simp
  rw[e];exact hO4
 ·rw[trimR_snoc];split
  ·exact k6
  ·simp[k4]
theorem value_any (b:Nat)(s:ByteArray)(i:Nat)(w:World)(hS:Hid (Sc w b s i))(hi:i≤s.size)(hs:s.size≤10000):
  Calls Tryz.prog 157 #[.pointer (some ⟨b,0,none⟩)] w fun e w'=>ValE b s i w e w':=by
 have CB:=Lib.hid (blanks_any b s i w hS hi (by omega));have hbw:b<w.heap.size:=(sc_cells hS.out).2.2.2;go_enter Tryz.func157,Tryz.ntmps157;go_wp2_with fail;refine CB.out.mono ?_;rintro e w1 ⟨rfl,j1,hij1,hj1,hD1,hS1,hG1⟩;obtain⟨c0,c1,f1,hb1⟩:=sc_cells hS1;have HS1:=Lib.hid hS1;have HD1:=Lib.hid hD1;have HG1:=Lib.hid hG1;obtain⟨U,hU⟩: ∃U:ByteArray,s.extract j1 s.size=U:=⟨_,rfl⟩;have hUd:U.data.toList=s.data.toList.drop j1:=by rw[←hU,Lib.extract_to_end]
 have CP: ∀W:World,Calls Tryz.prog 108 #[.string U,.string ⟨#[35]⟩] W fun e w'=>e= .returned (.bool (Lib.hasPrefix U.data.toList [35]))∧w'=W:=fun W=>Tryz.strings_HasPrefix U ⟨#[35]⟩ W;have hpx:Lib.hasPrefix U.data.toList [35]=true↔(s.data.toList.drop j1).head?=some 35:=by
  rw[hUd];unfold Lib.hasPrefix;cases s.data.toList.drop j1 with
  | nil=>simp[List.isPrefixOf]
  | cons c t=>simp[List.isPrefixOf];exact eq_comm
 have hj1':(j1:Int)≤(s.size:Int):=by omega
 have hj10:(0:Int)≤(j1:Int):=by omega
 clear hS1 hD1 hG1 CB hUd;by_cases h35:(s.data.toList.drop j1).head?=some 35
 ·have hp:=hpx.2 h35;rw[hp]at CP;have HCP:=Lib.hid CP;have HN:Hid (valueP (s.data.toList.drop i)=none):=by show _=_;rw[valueP_at HD1.out,if_pos h35]
  clear hpx h35 CP hp;go_wp2_with fail;go_quiet ((go_at_call 108;exact Calls.quiet_of_same (HCP.out _)));go_wp2_with fail;go_ret2;exact valE_none (gr_drewN HG1.out _) (sc_drewN HS1.out _) HN.out
 ·have hp:Lib.hasPrefix U.data.toList [35]=false:=by rw[Bool.eq_false_iff];exact fun e=>h35 (hpx.1 e)
  rw[hp]at CP;have HCP:=Lib.hid CP;have H35:=Lib.hid h35;clear hpx h35 CP hp;go_wp2_with fail;go_quiet ((go_at_call 108;exact Calls.quiet_of_same (HCP.out _)));go_wp2_with fail;have HS1':=Lib.hid (sc_drewN HS1.out nq);have HG1':=Lib.hid (gr_drewN HG1.out nq);clear c0 c1 f1 HS1 HG1 hU HCP;generalize w1.drewN nq=w2 at HS1' HG1' ⊢;go_loopw [4,5,6,7,8] (fun bv kv _ _ _ wr=> ∃ (j n cap K:Nat) (B:List Sg) (ao:Option Addr),j1≤j∧j≤s.size∧bv= .slice ao n cap∧kv= .int .i64 (K:Int)∧K≤n∧n≤cap∧Hid (ValRel w wr b s j1 j B ao n cap K)) (fun _ _ _ _ _ wr=>s.size-posOf wr b);case atStart=>exact⟨j1,0,0,0,[],none,Nat.le_refl _,hj1,rfl,rfl,Nat.le_refl _,Nat.le_refl _,HS1'.out,HG1'.out,ownB_nil _ _,rfl,Nat.le_refl _,rfl,by unfold ScanAt;simp,Nat.zero_le _⟩
  case round=>
   obtain⟨j,n,cap,K,B,ao,hj1j,hj,rfl,rfl,hKn,hnc,hV⟩:=hrel;obtain⟨c0,c1,f1,hb⟩:=sc_cells hV.out.1;by_cases hlt:j<s.size
   ·have hlt':(j:Int)<(s.size:Int):=(by omega);have hp2:=posOf_sc hV.out.1;have HP2:=Lib.hid hp2;clear hp2;go_wp2_with fail;go_quiet (fail);go_wp2_with fail;have HV2:=Lib.hid (valRel_drewN hV.out nq);clear c0 c1 f1 hb hV;generalize wr.drewN nq=wr2 at HV2 ⊢;obtain⟨c0,c1,f1,hb⟩:=sc_cells HV2.out.1;go_quiet (fail);have HV3:=Lib.hid (valRel_drewN HV2.out nq);clear c0 c1 f1 hb HV2;generalize wr2.drewN nq=wr3 at HV3 ⊢;obtain⟨c0,c1,f1,hb⟩:=sc_cells HV3.out.1;have g256:((s[j]'hlt).toNat:Int)<256:=(by have:=(s[j]'hlt).toNat_lt;omega);by_cases hsep:isSep (s[j]'hlt)=true
    ·have hst:=valRel_str HV3.out;have hcn:=(u8_sep _).1 hsep;have HR:Hid (valueP (s.data.toList.drop i)=some ((trimR B).map (·.1),s.data.toList.drop j)):=valueP_some HD1.out H35.out (scanAt_sep HV3.out.2.2.2.2.2.2.1 hlt hsep);clear hsep;have hK2:(K:Int)≤(cap:Int):=(by omega);go_wp2_with fail;all_goals first
      | (go_ret2;exact valE_some HV3.out.2.1 HV3.out.1 HR.out (by omega) hj rfl)
      | (exfalso;simp only[beq_eq_false_iff_ne,ne_eq]at*;omega)
    ·have hsep':isSep (s[j]'hlt)=false:=(by simpa using hsep);have hn3: ¬ (((s[j]'hlt).toNat:Int)=44∨((s[j]'hlt).toNat:Int)=59∨((s[j]'hlt).toNat:Int)=43):=fun e=>hsep ((u8_sep _).2 e);have q44a:(((s[j]'hlt).toNat:Int)==44)=false:=(by rw[beq_eq_false_iff_ne];omega);have q59a:(((s[j]'hlt).toNat:Int)==59)=false:=(by rw[beq_eq_false_iff_ne];omega);have q43a:(((s[j]'hlt).toNat:Int)==43)=false:=(by rw[beq_eq_false_iff_ne];omega);clear hn3 hsep;by_cases hbad:bad (s[j]'hlt)=true
     ·have HR:Hid (valueP (s.data.toList.drop i)=none):=valueP_none HD1.out (scanAt_bad HV3.out.2.2.2.2.2.2.1 hlt hsep' hbad);have hcn:=(u8_bad _).1 hbad;clear hbad hsep';go_wp2_with fail;all_goals first
       | (go_ret2;exact valE_none HV3.out.2.1 HV3.out.1 HR.out)
       | (exfalso;simp only[beq_eq_false_iff_ne,ne_eq]at*;omega)
     ·have hbad':bad (s[j]'hlt)=false:=(by simpa using hbad);have hn3: ¬ (((s[j]'hlt).toNat:Int)=34∨((s[j]'hlt).toNat:Int)=60∨((s[j]'hlt).toNat:Int)=62):=fun e=>hbad ((u8_bad _).2 e);have q34a:(((s[j]'hlt).toNat:Int)==34)=false:=(by rw[beq_eq_false_iff_ne];omega);have q60a:(((s[j]'hlt).toNat:Int)==60)=false:=(by rw[beq_eq_false_iff_ne];omega);have q62a:(((s[j]'hlt).toNat:Int)==62)=false:=(by rw[beq_eq_false_iff_ne];omega);clear hn3 hbad;obtain⟨m1,m2,m3⟩:=valRel_move HV3.out hbw;have M1:=Lib.hid m1;have M2:=Lib.hid m2;have M3:=Lib.hid m3;clear m1 m2 m3;by_cases h92:((s[j]'hlt).toNat:Int)=92
      ·have q92:(((s[j]'hlt).toNat:Int)==92)=true:=(by rw[beq_iff_eq];exact h92);have h92':=Lib.hid (u8_eq (n:=92) (by omega) h92);clear h92;have CE:=escaped_any b s (j+1) (wr3.setCell ⟨b,1,none⟩ (.int .i64 ((j:Int)+1))) M1 (by omega) hs;cases he:esc (s.data.toList.drop (j+1))with
       | none=>have HR:Hid (valueP (s.data.toList.drop i)=none):=valueP_none HD1.out (scanAt_none HV3.out.2.2.2.2.2.2.1 hlt h92'.out he);have HCE:Hid (Calls Tryz.prog 205 #[.pointer (some ⟨b,0,none⟩)] (wr3.setCell ⟨b,1,none⟩ (.int .i64 ((j:Int)+1))) fun e w'=>(wr3.setCell ⟨b,1,none⟩ (.int .i64 ((j:Int)+1))).grownBy w' (some b)∧ ∃j',e= .returned (.tuple #[.int .u8 0,.bool false])∧Sc w' b s j'):=(by refine CE.mono fun e w' h=> ?_;unfold EscE at h;rw[he]at h;exact h);clear CE he hbad' hsep';go_wp2_with fail;refine HCE.out.mono ?_;rintro e w5 ⟨hg5,j',rfl,hS5⟩;go_wp2_with fail;go_ret2;exact valE_none (gr_trans M2.out hg5) hS5 HR.out
       | some p=>
        obtain⟨d,n'⟩:=p;obtain⟨hn1,hn2,hn3⟩:=esc_two he;have hjn:j+1+n'≤s.size:=(by rw[List.length_drop,kt.size_len]at hn3;omega);have HSA:=Lib.hid (scanAt_esc HV3.out.2.2.2.2.2.2.1 hlt h92'.out he);have HCE:Hid (Calls Tryz.prog 205 #[.pointer (some ⟨b,0,none⟩)] (wr3.setCell ⟨b,1,none⟩ (.int .i64 ((j:Int)+1))) fun e w'=>(wr3.setCell ⟨b,1,none⟩ (.int .i64 ((j:Int)+1))).grownBy w' (some b)∧e= .returned (.tuple #[.int .u8 (d.toNat:Int),.bool true])∧Sc w' b s (j+1+n')):=(by refine CE.mono fun e w' h=> ?_;unfold EscE at h;rw[he]at h;exact h);clear CE he hbad' hsep' hn3;go_wp2_with fail;refine HCE.out.mono ?_;rintro e w5 ⟨hg5,rfl,hS5⟩;have HO5:=Lib.hid (ownB_gr M3.out hbw hg5);have HG5:=Lib.hid (gr_trans M2.out hg5);obtain⟨ao',cap',w6,hap,hc6,hpos,hV6⟩:=valRel_app (x:=(d,false)) HV3.out hs hj hbw hS5 HG5.out HO5.out HSA.out (by omega);dsimp only at hap;rw[if_neg (show¬blankS (d,false)=true from by simp[blankS])]at hV6;have HV6:=Lib.hid hV6;have HPOS:=Lib.hid hpos;clear hV6 hpos hg5 hS5 HCE c0 c1 f1;go_wp2_with (at_builtin;refine Lib.wpList_append_run _ rfl _ _ _ _ rfl _ _ rfl rfl _ _ hap ?_);go_roundw;case rel=>exact⟨j+1+n',n+1,cap',n+1,_,ao',by omega,hjn,rfl,by go_num,Nat.le_refl _,hc6,HV6⟩
        case measure=>rw[HPOS.out,HP2.out];omega
      ·have q92:(((s[j]'hlt).toNat:Int)==92)=false:=(by rw[beq_eq_false_iff_ne];exact h92);have h92':s[j]≠92:=u8_ne (n:=92) (by omega) h92;have hSA:=scanAt_bare HV3.out.2.2.2.2.2.2.1 hlt hsep' hbad' h92';obtain⟨ao',cap',w4,hap,hc4,hpos,hV4⟩:=valRel_app (x:=(s[j],true)) HV3.out hs hj hbw M1.out M2.out M3.out hSA (Nat.le_refl _);simp only[World.size_setCell]at hap;have HPOS:=Lib.hid hpos;have hbl:=blankS_bare (s[j]'hlt);by_cases h32:((s[j]'hlt).toNat:Int)=32
       ·have q32a:(((s[j]'hlt).toNat:Int)==32)=true:=(by rw[beq_iff_eq];exact h32);have q32b:(((s[j]'hlt).toNat:Int) !=32)=false:=(by rw[bne_eq_false_iff_eq];exact h32);have hb32:blankS (s[j],true)=true:=(by rw[hbl,decide_eq_true_iff];exact u8_eq (n:=32) (by omega) h32);rw[if_pos hb32]at hV4;have HV4:=Lib.hid hV4;clear hb32 hbl hV4 hSA h92 h92' h32 hsep' hbad' hpos;go_wp2_with (at_builtin;refine Lib.wpList_append_run _ rfl _ _ _ _ rfl _ _ rfl rfl _ _ hap ?_);go_roundw;case rel=>exact⟨j+1,n+1,cap',K,_,ao',by omega,by omega,rfl,rfl,by omega,hc4,HV4⟩
        case measure=>rw[HPOS.out,HP2.out];omega
       ·have q32a:(((s[j]'hlt).toNat:Int)==32)=false:=(by rw[beq_eq_false_iff_ne];exact h32);have q32b:(((s[j]'hlt).toNat:Int) !=32)=true:=(by rw[bne_iff_ne];exact h32);have hb32:blankS (s[j],true)=false:=(by rw[hbl,decide_eq_false_iff_not];exact u8_ne (n:=32) (by omega) h32);rw[if_neg (by rw[hb32];simp)]at hV4;have HV4:=Lib.hid hV4;clear hb32 hbl hV4 hSA h92 h92' h32 hsep' hbad' hpos;go_wp2_with (at_builtin;refine Lib.wpList_append_run _ rfl _ _ _ _ rfl _ _ rfl rfl _ _ hap ?_);go_roundw;case rel=>exact⟨j+1,n+1,cap',n+1,_,ao',by omega,by omega,rfl,by go_num,Nat.le_refl _,hc4,HV4⟩
        case measure=>rw[HPOS.out,HP2.out];omega
   ·obtain rfl:j=s.size:=(by omega);have HR:Hid (valueP (s.data.toList.drop i)=some ((trimR B).map (·.1),[])):=valueP_some HD1.out H35.out (scanAt_end hV.out.2.2.2.2.2.2.1);have hK2:(K:Int)≤(cap:Int):=(by omega);go_wp2_with fail;go_quiet (fail);have HV2:=Lib.hid (valRel_drewN hV.out nq);clear c0 c1 f1 hb hV;generalize wr.drewN nq=wr2 at HV2 ⊢;have hst:=valRel_str HV2.out;go_wp2_with fail;go_ret2;exact valE_some HV2.out.2.1 HV2.out.1 HR.out (by omega) (Nat.le_refl _) (drop_end s)
end dnw
namespace run
def fin (v low n:Nat):Nat × Nat:=if v<low∨1114111<v∨(55296≤v∧v≤57343)then(0,0)else(v,n)
def cont (b:Nat):Prop:=128≤b∧b≤191
instance (b:Nat):Decidable (cont b):=by unfold cont;infer_instance
def oneR (n b0 b1 b2 b3:Nat):Nat × Nat:=
 if b0<128 then(b0,1)
 else if 194≤b0∧b0<224 then(if 2≤n∧cont b1 then fin ((b0-192)*64+(b1-128)) 128 2 else(0,0))
 else if 224≤b0∧b0<240 then(if 3≤n∧cont b1∧cont b2 then fin (((b0-224)*64+(b1-128))*64+(b2-128)) 2048 3 else(0,0))
 else if 240≤b0∧b0<245 then(if 4≤n∧cont b1∧cont b2∧cont b3 then fin ((((b0-240)*64+(b1-128))*64+(b2-128))*64+(b3-128)) 65536 4 else(0,0))
 else(0,0)
theorem oneR_n (n b0 b1 b2 b3:Nat)(hn:1≤n):(oneR n b0 b1 b2 b3).2≤n:=by
 unfold oneR fin
 repeat' split
 all_goals(simp only;try omega)
theorem oneR_lt (n b0 b1 b2 b3:Nat)(h:(oneR n b0 b1 b2 b3).2≠0):(oneR n b0 b1 b2 b3).1≤1114111∧ ¬ (55296≤(oneR n b0 b1 b2 b3).1∧(oneR n b0 b1 b2 b3).1≤57343):=by
 generalize hp:oneR n b0 b1 b2 b3=p at*;unfold oneR fin at hp
 repeat' split at hp
 all_goals(subst hp;simp only at h ⊢;try omega)
theorem decode_one (n b0 b1 b2 b3:Nat)(h0:b0<256)(h1:b1<256)(h2:b2<256)(h3:b3<256)(hn:1≤n)(h:(oneR n b0 b1 b2 b3).2≠0):Lib.decodeN n b0 b1 b2 b3=oneR n b0 b1 b2 b3:=by
 unfold oneR fin cont at*;unfold Lib.decodeN;by_cases c0:b0<128
 ·simp only[c0,if_true]
 ·simp only[c0,if_false]at h ⊢;by_cases c1:194≤b0∧b0<224
  ·rw[if_pos c1]at h ⊢;by_cases d1:2≤n∧128≤b1∧b1≤191
   ·rw[if_pos d1]at h ⊢;rw[if_pos (by omega)];split at h
    ·simp at h
    ·rename_i f1;rw[if_pos (by omega),if_neg f1];apply Prod.ext<;>simp only<;>omega
   ·rw[if_neg d1]at h;simp at h
  ·rw[if_neg c1]at h ⊢;by_cases c2:224≤b0∧b0<240
   ·rw[if_pos c2]at h ⊢;rw[if_neg (by omega)];by_cases d1:3≤n∧(128≤b1∧b1≤191)∧(128≤b2∧b2≤191)
    ·rw[if_pos d1]at h ⊢;rw[if_pos (by omega)];split at h
     ·simp at h
     ·rename_i f1;rw[if_pos (by omega),if_neg f1];apply Prod.ext<;>simp only<;>omega
    ·rw[if_neg d1]at h;simp at h
   ·rw[if_neg c2]at h ⊢;by_cases c3:240≤b0∧b0<245
    ·rw[if_pos c3]at h ⊢;rw[if_neg (by omega),if_neg (by omega)];by_cases d1:4≤n∧(128≤b1∧b1≤191)∧(128≤b2∧b2≤191)∧(128≤b3∧b3≤191)
     ·rw[if_pos d1]at h ⊢;rw[if_pos (by omega)];split at h
      ·simp at h
      ·rename_i f1;rw[if_pos (by omega),if_neg f1];apply Prod.ext<;>simp only<;>omega
     ·rw[if_neg d1]at h;simp at h
    ·rw[if_neg c3]at h;simp at h
theorem decode_none (n b0 b1 b2 b3:Nat)(h0:b0<256)(h1:b1<256)(h2:b2<256)(h3:b3<256)(hn:1≤n)(h:(oneR n b0 b1 b2 b3).2=0):Lib.decodeN n b0 b1 b2 b3=(65533,1)∧ ¬ (3≤n∧b0=239∧b1=191∧b2=189):=by
 unfold oneR fin cont at h;unfold Lib.decodeN;refine⟨?_,?_⟩
 ·repeat' split at h
  all_goals first | (simp at h;done) | skip
  all_goals(repeat' split)
  all_goals first | rfl | (exfalso;omega)
 ·rintro⟨g0,rfl,rfl,rfl⟩;simp[g0]at h
theorem one_fffd (n b0 b1 b2 b3:Nat)(h0:b0<256)(h1:b1<256)(h2:b2<256)(h3:b3<256)(h:(oneR n b0 b1 b2 b3).2≠0)(hv:(oneR n b0 b1 b2 b3).1=65533):3≤n∧b0=239∧b1=191∧b2=189:=by
 generalize hp:oneR n b0 b1 b2 b3=p at*;unfold oneR fin cont at hp
 repeat' split at hp
 all_goals(subst hp;simp only at h hv;try omega)
def nth (l:List UInt8)(i:Nat):Nat:=(l.getD i 0).toNat
theorem nth_lt (l:List UInt8)(i:Nat):nth l i<256:=by unfold nth;exact(l.getD i 0).toNat_lt
def oneL (l:List UInt8):Nat × Nat:=oneR l.length (nth l 0) (nth l 1) (nth l 2) (nth l 3)
def runesF:Nat→List UInt8→Option (List Int)
 | 0,_=>some []
 | _+1,[]=>some []
 | f+1,b::t=>if(oneL (b::t)).2=0 then none else(runesF f ((b::t).drop (oneL (b::t)).2)).map (((oneL (b::t)).1:Int):: ·)
def runes (l:List UInt8):Option (List Int):=runesF l.length l
theorem runesF_more: ∀ (f g:Nat) (l:List UInt8),l.length≤f→l.length≤g→runesF f l=runesF g l
 | 0,g,l,h,_=>by have:l=[]:=List.eq_nil_of_length_eq_zero (by omega);subst this;cases g<;>rfl
 | f+1,0,l,_,h=>by have:l=[]:=List.eq_nil_of_length_eq_zero (by omega);subst this;rfl
 | f+1,g+1,[],_,_=>rfl
 | f+1,g+1,b::t,h,h'=>by
  unfold runesF;by_cases e:(oneL (b::t)).2=0
  ·rw[if_pos e,if_pos e]
  ·rw[if_neg e,if_neg e,runesF_more f g _ (by simp at h ⊢;omega) (by simp at h' ⊢;omega)]
theorem runes_nil:runes []=some []:=rfl
theorem runes_step (l:List UInt8)(h:l≠[]):runes l=if(oneL l).2=0 then none else(runes (l.drop (oneL l).2)).map (((oneL l).1:Int):: ·):=by
 cases l with
 | nil=>exact absurd rfl h
 | cons b t=>
  have h1:runes (b::t)=if(oneL (b::t)).2=0 then none else(runesF t.length ((b::t).drop (oneL (b::t)).2)).map (((oneL (b::t)).1:Int):: ·):=rfl;rw[h1];unfold runes;by_cases e:(oneL (b::t)).2=0
  ·rw[if_pos e,if_pos e]
  ·rw[if_neg e,if_neg e];rw[runesF_more t.length ((b::t).drop (oneL (b::t)).2).length _ (by rw[List.length_drop];simp only[List.length_cons];omega) (Nat.le_refl _)]
def okR (v:Int):Prop:=0≤v∧v≤1114111∧ ¬ (55296≤v∧v≤57343)
def enc (v:Int):List UInt8:=Lib.encodeRune v
def text (m:List Int):List UInt8:=m.flatMap enc
theorem text_cons (v:Int)(m:List Int):text (v::m)=enc v++text m:=rfl
theorem text_append (a b:List Int):text (a++b)=text a++text b:=List.flatMap_append ..
theorem enc_len (v:Int):1≤(enc v).length∧(enc v).length≤4:=by have:=Lib.runeCells_le v;rw[Lib.runeCells_length]at this;exact this
theorem enc_one {v:Int}(h0:0≤v)(h1:v≤127):enc v=[v.toNat.toUInt8]:=by unfold enc Lib.encodeRune;rw[Lib.encodeRuneZ_one h0 h1];rfl
theorem enc_two {v:Int}(h0:128≤v)(h1:v≤2047):enc v=[(192+v / 64).toNat.toUInt8,(128+v % 64).toNat.toUInt8]:=by unfold enc Lib.encodeRune;rw[Lib.encodeRuneZ_two h0 h1];rfl
theorem enc_three {v:Int}(h:(2048≤v∧v<55296)∨(57343<v∧v≤65535)):enc v=[(224+v / 4096).toNat.toUInt8,(128+v / 64 % 64).toNat.toUInt8,(128+v % 64).toNat.toUInt8]:=by unfold enc Lib.encodeRune;rw[Lib.encodeRuneZ_three h];rfl
theorem enc_four {v:Int}(h0:65536≤v)(h1:v≤1114111):enc v=[(240+v / 262144).toNat.toUInt8,(128+v / 4096 % 64).toNat.toUInt8,(128+v / 64 % 64).toNat.toUInt8,(128+v % 64).toNat.toUInt8]:=by unfold enc Lib.encodeRune;rw[Lib.encodeRuneZ_four h0 h1];rfl
theorem u8z (a:Int)(h0:0≤a)(h1:a<256):(a.toNat.toUInt8).toNat=a.toNat:=by simp;omega
theorem nth_cons (b:UInt8)(t:List UInt8):nth (b::t) 0=b.toNat:=rfl
theorem ex1 {b:UInt8}{l:List UInt8}{n:Nat}(hn:2≤n)(h:n≤(b::l).length): ∃c t,l=c::t:=by
 cases l with
 | nil=>simp at h;omega
 | cons c t=>exact⟨c,t,rfl⟩
theorem u8_of (b:UInt8)(n:Nat)(h:n=b.toNat):n.toUInt8=b:=by subst h;simp
theorem enc_of_one (l:List UInt8)(h:(oneL l).2≠0)(hl:l≠[]):l.take (oneL l).2=enc ((oneL l).1:Int):=by
 match l,hl with
 | b0::l1,_=>
 have hb0:=b0.toNat_lt;unfold oneL oneR at h ⊢;rw[nth_cons]at h ⊢;by_cases c0:b0.toNat<128
 ·simp only[c0,if_true];rw[enc_one (by omega) (by omega)];show[b0]=_;rw[u8_of b0 _ (by simp)]
 ·simp only[c0,if_false]at h ⊢;by_cases c1:194≤b0.toNat∧b0.toNat<224
  ·rw[if_pos c1]at h ⊢;split at h
   ·rename_i d1;rw[if_pos d1];unfold fin at h ⊢;split at h
    ·simp at h
    ·rename_i f1;rw[if_neg f1];obtain⟨d2,d3⟩:=d1;obtain⟨b1,l2,rfl⟩:=ex1 (n:=2) (by omega) d2;have e1:nth (b0::b1::l2) 1=b1.toNat:=rfl;rw[e1]at d3 f1 ⊢;unfold cont at d3;rw[enc_two (by omega) (by omega)];show[b0,b1]=_;rw[u8_of b0 _ (by omega),u8_of b1 _ (by omega)]
   ·simp at h
  ·rw[if_neg c1]at h ⊢;by_cases c2:224≤b0.toNat∧b0.toNat<240
   ·rw[if_pos c2]at h ⊢;split at h
    ·rename_i d1;rw[if_pos d1];unfold fin at h ⊢;split at h
     ·simp at h
     ·rename_i f1;rw[if_neg f1];obtain⟨d2,d3,d4⟩:=d1;obtain⟨b1,l2',rfl⟩:=ex1 (n:=3) (by omega) d2;obtain⟨b2,l2,rfl⟩:=ex1 (b:=b1) (l:=l2') (n:=2) (by omega) (by simp only[List.length_cons]at d2 ⊢;omega);have e1:nth (b0::b1::b2::l2) 1=b1.toNat:=rfl;have e2:nth (b0::b1::b2::l2) 2=b2.toNat:=rfl;rw[e1]at d3 f1 ⊢;rw[e2]at d4 f1 ⊢;unfold cont at d3 d4;rw[enc_three (by omega)];show[b0,b1,b2]=_;rw[u8_of b0 _ (by omega),u8_of b1 _ (by omega),u8_of b2 _ (by omega)]
    ·simp at h
   ·rw[if_neg c2]at h ⊢;by_cases c3:240≤b0.toNat∧b0.toNat<245
    ·rw[if_pos c3]at h ⊢;split at h
     ·rename_i d1;rw[if_pos d1];unfold fin at h ⊢;split at h
      ·simp at h
      ·rename_i f1;rw[if_neg f1];obtain⟨d2,d3,d4,d5⟩:=d1;obtain⟨b1,l2',rfl⟩:=ex1 (n:=4) (by omega) d2;obtain⟨b2,l2'',rfl⟩:=ex1 (b:=b1) (l:=l2') (n:=3) (by omega) (by simp only[List.length_cons]at d2 ⊢;omega);obtain⟨b3,l2,rfl⟩:=ex1 (b:=b2) (l:=l2'') (n:=2) (by omega) (by simp only[List.length_cons]at d2 ⊢;omega);have e1:nth (b0::b1::b2::b3::l2) 1=b1.toNat:=rfl;have e2:nth (b0::b1::b2::b3::l2) 2=b2.toNat:=rfl;have e3:nth (b0::b1::b2::b3::l2) 3=b3.toNat:=rfl;rw[e1]at d3 f1 ⊢;rw[e2]at d4 f1 ⊢;rw[e3]at d5 f1 ⊢;unfold cont at d3 d4 d5;rw[enc_four (by omega) (by omega)];show[b0,b1,b2,b3]=_;rw[u8_of b0 _ (by omega),u8_of b1 _ (by omega),u8_of b2 _ (by omega),u8_of b3 _ (by omega)]
     ·simp at h
    ·rw[if_neg c3]at h;simp at h
theorem one_ok (l:List UInt8)(h:(oneL l).2≠0):okR ((oneL l).1:Int):=by obtain⟨h1,h2⟩:=oneR_lt _ _ _ _ _ h;exact⟨by omega,by unfold oneL;omega,by unfold oneL;omega⟩
theorem runes_text: ∀ (n:Nat) (l:List UInt8) (m:List Int),l.length≤n→runes l=some m→text m=l∧ ∀v∈m,okR v
 | 0,l,m,hn,h=>by have:l=[]:=List.eq_nil_of_length_eq_zero (by omega);subst this;rw[runes_nil]at h;cases h;exact⟨rfl,by simp⟩
 | n+1,l,m,hn,h=>by
  by_cases hl:l=[]
  ·subst hl;rw[runes_nil]at h;cases h;exact⟨rfl,by simp⟩
  ·rw[runes_step l hl]at h;by_cases e:(oneL l).2=0
   ·rw[if_pos e]at h;cases h
   ·rw[if_neg e]at h;obtain⟨m',hm,rfl⟩:=Option.map_eq_some_iff.1 h;obtain⟨i1,i2⟩:=runes_text n _ m' (by rw[List.length_drop];omega) hm;refine⟨?_,?_⟩
    ·rw[text_cons,i1,←enc_of_one l e hl,List.take_append_drop]
    ·intro v hv;rcases List.mem_cons.1 hv with rfl | hv
     ·exact one_ok l e
     ·exact i2 v hv
theorem text_len (m:List Int):m.length≤(text m).length:=by
 induction m with
 | nil=>simp
 | cons v m ih=>have:=enc_len v;rw[text_cons,List.length_append,List.length_cons];omega
theorem runes_len {l:List UInt8}{m:List Int}(h:runes l=some m):m.length≤l.length:=by obtain⟨h1,_⟩:=runes_text _ l m (Nat.le_refl _) h;rw[←h1];exact text_len m
theorem get_nth (s:ByteArray)(i k:Nat):(s.get! (i+k)).toNat=nth (s.data.toList.drop i) k:=by
 unfold nth;have:s.get! (i+k)=s.data[i+k]! :=rfl;rw[this,List.getD_eq_getElem?_getD,List.getElem?_drop,Array.getElem?_toList];by_cases h:i+k<s.data.size
 ·rw[getElem!_pos s.data (i+k) h,Array.getElem?_eq_getElem h];rfl
 ·rw[getElem!_neg s.data (i+k) h,Array.getElem?_eq_none (by omega)];rfl
theorem decode_list (s:ByteArray)(i:Nat):Utf8.decode s i=Lib.decodeN (s.data.toList.drop i).length (nth (s.data.toList.drop i) 0) (nth (s.data.toList.drop i) 1) (nth (s.data.toList.drop i) 2) (nth (s.data.toList.drop i) 3):=by rw[Lib.decode_at];have h0:=get_nth s i 0;rw[Nat.add_zero]at h0;rw[h0,get_nth,get_nth,get_nth];congr 1;simp
theorem decode_yes (s:ByteArray)(i:Nat)(hi:i<s.size)(h:(oneL (s.data.toList.drop i)).2≠0):Utf8.decode s i=oneL (s.data.toList.drop i):=by
 have:s.data.toList.length=s.size:=by simp
 rw[decode_list];exact decode_one _ _ _ _ _ (nth_lt _ _) (nth_lt _ _) (nth_lt _ _) (nth_lt _ _) (by rw[List.length_drop];omega) h
def fffd (l:List UInt8):Prop:=3≤l.length∧nth l 0=239∧nth l 1=191∧nth l 2=189
theorem decode_no (s:ByteArray)(i:Nat)(hi:i<s.size)(h:(oneL (s.data.toList.drop i)).2=0):Utf8.decode s i=(65533,1)∧ ¬fffd (s.data.toList.drop i):=by
 have:s.data.toList.length=s.size:=by simp
 rw[decode_list];exact decode_none _ _ _ _ _ (nth_lt _ _) (nth_lt _ _) (nth_lt _ _) (nth_lt _ _) (by rw[List.length_drop];omega) h
theorem fffd_yes (l:List UInt8)(h:(oneL l).2≠0)(hv:(oneL l).1=65533):fffd l:=one_fffd _ _ _ _ _ (nth_lt _ _) (nth_lt _ _) (nth_lt _ _) (nth_lt _ _) h hv
theorem fffd_prefix (l:List UInt8):fffd l↔[239,191,189]<+:l:=by
 constructor
 ·rintro⟨h0,h1,h2,h3⟩
  match l,h0 with
  | a::b::c::t,_=>
  have e1:a=239:=UInt8.toNat_inj.1 h1;have e2:b=191:=UInt8.toNat_inj.1 h2;have e3:c=189:=UInt8.toNat_inj.1 h3;subst e1 e2 e3;exact⟨t,rfl⟩
 ·rintro⟨t,rfl⟩;exact⟨by simp,rfl,rfl,rfl⟩
theorem one_width (l:List UInt8)(hl:l≠[]):(oneL l).2≤l.length:=by refine oneR_n _ _ _ _ _ ?_;have:=List.length_pos_iff.2 hl;omega
end run
namespace prp
open run
section
variable {α : Type} [DecidableEq α]
def headNe (b:α):List α→Bool
 | []=>false
 | x::_=>decide (x≠b)
def sq (b:α):Bool→List α→List α
 | _,[]=>[]
 | st,x::t=>if x≠b then x::sq b true t else if st=true∧headNe b t=true then x::sq b true t else sq b st t
def pieces (b:α):List α→List (List α)
 | []=>[[]]
 | x::t=>if x=b then[]::pieces b t else match pieces b t with
  | []=>[[x]]
  | p::r=>(x::p)::r
theorem pieces_ne (b:α)(l:List α): ∃p r,pieces b l=p::r:=by
 cases l with
 | nil=>exact⟨_,_,rfl⟩
 | cons x t=>
  unfold pieces;split
  ·exact⟨_,_,rfl⟩
  ·split<;>exact⟨_,_,rfl⟩
theorem pieces_ne_cons (b x:α)(t p:List α)(r:List (List α))(h:x≠b)(hp:pieces b t=p::r):pieces b (x::t)=(x::p)::r:=by rw[pieces,if_neg h,hp]
theorem sq_ne (b x:α)(st:Bool)(t:List α)(h:x≠b):sq b st (x::t)=x::sq b true t:=by rw[sq,if_pos h]
theorem sq_on (b:α)(t:List α)(h:headNe b t=true):sq b true (b::t)=b::sq b true t:=by rw[sq,if_neg (by simp),if_pos ⟨rfl,h⟩]
theorem sq_off (b:α)(st:Bool)(t:List α)(h: ¬ (st=true∧headNe b t=true)):sq b st (b::t)=sq b st t:=by rw[sq,if_neg (by simp),if_neg h]
theorem sq_run (b:α): ∀ (xs t:List α) (st:Bool),xs≠[]→(∀x∈xs,x≠b)→sq b st (xs++t)=xs++sq b true t
 | [],_,_,h,_=>absurd rfl h
 | [x],t,st,_,h=>sq_ne b x st t (h x (by simp))
 | x::y::ys,t,st,_,h=>by rw[List.cons_append,sq_ne b x st _ (h x (by simp)),sq_run b (y::ys) t true (by simp) (fun z hz=>h z (by simp at hz ⊢;right;exact hz))];rfl
theorem sq_len (b:α): ∀ (l:List α) (st:Bool),(sq b st l).length≤l.length
 | [],_=>by simp[sq]
 | x::t,st=>by
  have h1:=sq_len b t true;have h2:=sq_len b t st;unfold sq
  repeat' split
  all_goals(simp;try omega)
theorem filter_sq (b:α)(p:α→Bool)(hp:p b=false): ∀ (l:List α) (st:Bool),(sq b st l).filter p=l.filter p
 | [],_=>by simp[sq]
 | x::t,st=>by
  have h1:=filter_sq b p hp t true;have h2:=filter_sq b p hp t st;by_cases hx:x=b
  ·subst hx;by_cases hh:st=true∧headNe x t=true
   ·obtain⟨rfl,hh⟩:=hh;rw[sq_on x t hh,List.filter_cons,List.filter_cons,h1]
   ·rw[sq_off x st t hh,h2,List.filter_cons,hp];rfl
  ·rw[sq_ne b x st t hx,List.filter_cons,List.filter_cons,h1]
end
def joinT (b:UInt8)(r:List (List UInt8)):List UInt8:=Lib.joinTail [b] r
theorem sq_true_pieces (b:UInt8): ∀ (l p:List UInt8) (r:List (List UInt8)),pieces b l=p::r→sq b true l=p++Lib.joinTail [b] (r.filter (· ≠[]))
 | [],p,r,h=>by simp only[pieces,List.cons.injEq]at h;obtain⟨rfl,rfl⟩:=h;simp[sq,Lib.joinTail]
 | x::t,p,r,h=>by
  obtain⟨p',r',h'⟩:=pieces_ne b t;have ih:=sq_true_pieces b t p' r' h';by_cases hx:x=b
  ·subst hx;rw[pieces,if_pos rfl,h']at h;simp only[List.cons.injEq]at h;obtain⟨rfl,rfl⟩:=h;cases t with
   | nil=>simp only[pieces,List.cons.injEq]at h';obtain⟨rfl,rfl⟩:=h';simp[sq,headNe,Lib.joinTail]
   | cons y t=>
    by_cases hy:y=x
    ·subst hy;rw[pieces,if_pos rfl]at h';simp only[List.cons.injEq]at h';obtain⟨rfl,rfl⟩:=h';rw[sq_off y true _ (by simp[headNe]),ih];simp
    ·rw[sq_on x _ (by simp[headNe,hy]),ih];clear ih;obtain⟨p2,r2,h2⟩:=pieces_ne x t;rw[pieces_ne_cons x y t p2 r2 hy h2]at h';simp only[List.cons.injEq]at h';obtain⟨rfl,rfl⟩:=h';simp[Lib.joinTail]
  ·rw[pieces_ne_cons b x t p' r' hx h']at h;simp only[List.cons.injEq]at h;obtain⟨rfl,rfl⟩:=h;rw[sq_ne b x true t hx,ih];rfl
theorem sq_pieces (b:UInt8): ∀ (l:List UInt8),sq b false l=Lib.join ((pieces b l).filter (· ≠[])) [b]
 | []=>by simp[sq,pieces,Lib.join_nil]
 | x::t=>by
  obtain⟨p',r',h'⟩:=pieces_ne b t;by_cases hx:x=b
  ·subst hx;have hp:pieces x (x::t)=[]::pieces x t:=(by rw[pieces,if_pos rfl]);rw[sq_off x false t (by simp),hp,sq_pieces x t];simp
  ·rw[sq_ne b x false t hx,pieces_ne_cons b x t p' r' hx h',sq_true_pieces b t p' r' h'];rw[show((x::p')::r').filter (· ≠[])=(x::p')::r'.filter (· ≠[])from by simp,Lib.join_cons];rfl
theorem pieces_no (c:UInt8): ∀l:List UInt8,c∉l→pieces c l=[l]
 | [],_=>rfl
 | x::t,h=>by simp only[List.mem_cons,not_or]at h;exact pieces_ne_cons c x t t [] (Ne.symm h.1) (pieces_no c t h.2)
theorem pieces_at (c:UInt8): ∀ (a t:List UInt8),c∉a→pieces c (a++c::t)=a::pieces c t
 | [],t,_=>by rw[List.nil_append,pieces,if_pos rfl]
 | x::a,t,h=>by simp only[List.mem_cons,not_or]at h;exact pieces_ne_cons c x _ a (pieces c t) (Ne.symm h.1) (pieces_at c a t h.2)
theorem index_one (c:UInt8): ∀l:List UInt8,(Lib.index l [c]= -1∧c∉l)∨ ∃a t,l=a++c::t∧c∉a∧Lib.index l [c]=(a.length:Int)
 | []=>Or.inl ⟨by simp[Lib.index],by simp⟩
 | x::t=>by
  by_cases hx:x=c
  ·subst hx;exact Or.inr ⟨[],t,rfl,by simp,by rw[Lib.index];simp[List.isPrefixOf]⟩
  ·have hp:([c]:List UInt8).isPrefixOf (x::t)=false:=(by simp[List.isPrefixOf,Ne.symm hx]);have hix:Lib.index (x::t) [c]=if Lib.index t [c]== -1 then-1 else Lib.index t [c]+1:=(by rw[Lib.index,hp];simp);rcases index_one c t with⟨h1,h2⟩ | ⟨a,r,rfl,h2,h3⟩
   ·refine Or.inl ⟨by rw[hix,h1];rfl,by simp[h2,Ne.symm hx]⟩
   ·refine Or.inr ⟨x::a,r,rfl,by simp[h2,Ne.symm hx],?_⟩;rw[hix,h3,if_neg (by simp)];simp
theorem splitK_pieces (c:UInt8): ∀ (k:Nat) (l:List UInt8),l.count c=k→Lib.splitK [c] 0 k l=pieces c l
 | 0,l,h=>by rw[pieces_no c l (List.count_eq_zero.1 h)];rfl
 | k+1,l,h=>by
  rcases index_one c l with⟨h1,h2⟩ | ⟨a,t,rfl,h2,h3⟩
  ·rw[List.count_eq_zero.2 h2]at h;omega
  ·rw[Lib.splitK,if_neg (by rw[h3];simp),h3,pieces_at c a t h2];have ht:t.count c=k:=(by rw[List.count_append,List.count_cons_self,List.count_eq_zero.2 h2]at h;omega);rw[show((a.length:Int).toNat+0)=a.length from by omega,List.take_left,show((a.length:Int).toNat+[c].length)=a.length+1 from by simp];rw[show(a++c::t).drop (a.length+1)=t from by rw[show a++c::t=(a++[c])++t from by simp,show a.length+1=(a++[c]).length from by simp,List.drop_left]];rw[splitK_pieces c k t ht]
theorem replaceK_filter (c:UInt8): ∀ (k:Nat) (l:List UInt8),l.count c=k→Lib.replaceK [c] [] k l=l.filter (· ≠c)
 | 0,l,h=>by have:=List.count_eq_zero.1 h;show l=_;rw[List.filter_eq_self.2];intro x hx;simp only[ne_eq,decide_not,Bool.not_eq_true',decide_eq_false_iff_not];rintro rfl;exact this hx
 | k+1,l,h=>by
  rcases index_one c l with⟨h1,h2⟩ | ⟨a,t,rfl,h2,h3⟩
  ·rw[List.count_eq_zero.2 h2]at h;omega
  ·rw[Lib.replaceK_hit [c] [] k _ a.length h3];have ht:t.count c=k:=(by rw[List.count_append,List.count_cons_self,List.count_eq_zero.2 h2]at h;omega);have ha:=replaceK_filter c 0 a (List.count_eq_zero.2 h2);rw[List.take_left,show(a++c::t).drop (a.length+[c].length)=t from by rw[show a++c::t=(a++[c])++t from by simp,show a.length+[c].length=(a++[c]).length from by simp,List.drop_left]];rw[replaceK_filter c k t ht,List.filter_append,←ha];simp[Lib.replaceK]
theorem replaceAll_filter (c:UInt8)(l:List UInt8):Lib.replaceAll l [c] []=l.filter (· ≠c):=by unfold Lib.replaceAll Lib.replace Lib.replaceNum;rw[if_neg (by simp),if_pos (Or.inl (by decide)),Lib.count_one,replaceK_filter c _ l rfl]
def dropB (r:Int):Bool:=decide (r≤8∨(14≤r∧r≤31)∨(127≤r∧r≤132)∨(134≤r∧r≤159)∨r=173∨(8203≤r∧r≤8207)∨r=65279)
def blankB (r:Int):Bool:=decide ((9≤r∧r≤13)∨r=32∨r=133∨r=160∨r=5760∨(8192≤r∧r≤8202)∨r=8232∨r=8233∨r=8239∨r=8287∨r=12288)
def smallI (r:Int):Int:=if(65≤r∧r≤90)∨(192≤r∧r≤222∧r≠215)∨(913≤r∧r≤937∧r≠930)∨(1040≤r∧r≤1071)then r+32 else if 1024≤r∧r≤1039 then r+80 else r
def mapR (fold:Bool)(r:Int):Int:=if blankB r=true then 32 else if fold=true then smallI r else r
def mapped (fold:Bool)(m:List Int):List Int:=(m.filter (fun r=> !dropB r)).map (mapR fold)
theorem mapped_append (fold:Bool)(a b:List Int):mapped fold (a++b)=mapped fold a++mapped fold b:=by unfold mapped;rw[List.filter_append,List.map_append]
theorem smallI_ok {r:Int}(h:okR r):okR (smallI r):=by
 unfold smallI okR at*
 repeat' split
 all_goals omega
theorem mapR_ok {fold:Bool}{r:Int}(h:okR r):okR (mapR fold r):=by
 unfold mapR
 repeat' split
 ·unfold okR;omega
 ·exact smallI_ok h
 ·exact h
theorem mapped_ok {fold:Bool}{m:List Int}(h: ∀v∈m,okR v): ∀v∈mapped fold m,okR v:=by intro v hv;obtain⟨u,hu,rfl⟩:=List.mem_map.1 hv;exact mapR_ok (h u (List.mem_filter.1 hu).1)
def readyR (fold:Bool)(m:List Int):List Int:=sq 32 false (mapped fold m)
theorem enc_ascii {v:Int}(h:okR v){c:Int}(h0:0≤c)(h1:c<128)(hx:c.toNat.toUInt8∈enc v):v=c:=by
 obtain⟨a0,a1,a2⟩:=h;have key: ∀z:Int,0≤z→z<256→c.toNat.toUInt8=z.toNat.toUInt8→z=c:=by intro z z0 z1 e;have:=congrArg UInt8.toNat e;rw[u8z c h0 (by omega),u8z z z0 z1]at this;omega
 by_cases b1:v≤127
 ·rw[enc_one a0 b1]at hx;simp only[List.mem_singleton]at hx;exact key v a0 (by omega) hx
 ·exfalso;by_cases b2:v≤2047
  ·rw[enc_two (by omega) b2]at hx;simp only[List.mem_cons,List.not_mem_nil,or_false]at hx;rcases hx with hx | hx
   ·have:=key _ (by omega) (by omega) hx;omega
   ·have:=key _ (by omega) (by omega) hx;omega
  ·by_cases b3:v≤65535
   ·rw[enc_three (by omega)]at hx;simp only[List.mem_cons,List.not_mem_nil,or_false]at hx;rcases hx with hx | hx | hx
    all_goals(have:=key _ (by omega) (by omega) hx;omega)
   ·rw[enc_four (by omega) a1]at hx;simp only[List.mem_cons,List.not_mem_nil,or_false]at hx;rcases hx with hx | hx | hx | hx
    all_goals(have:=key _ (by omega) (by omega) hx;omega)
theorem enc_no32 {v:Int}(h:okR v)(hv:v≠32): ∀x∈enc v,x≠32:=by rintro x hx rfl;exact hv (enc_ascii h (c:=32) (by omega) (by omega) hx)
theorem headNe_text {m:List Int}(h: ∀v∈m,okR v):headNe (32:UInt8) (text m)=headNe 32 m:=by
 cases m with
 | nil=>rfl
 | cons v m=>
  have hl:=enc_len v;rw[text_cons];by_cases hv:v=32
  ·subst hv;rfl
  ·have hn:=enc_no32 (h v (by simp)) hv;cases he:enc v with
   | nil=>rw[he]at hl;simp at hl
   | cons x t=>rw[he]at hn;have:=hn x (by simp);simp[headNe,hv,this]
theorem sq_text: ∀ (m:List Int) (st:Bool),(∀v∈m,okR v)→sq (32:UInt8) st (text m)=text (sq 32 st m)
 | [],_,_=>rfl
 | v::m,st,h=>by
  have hm: ∀u∈m,okR u:=fun u hu=>h u (by simp[hu]);have hl:=enc_len v;by_cases hv:v=32
  ·subst hv;have e1:text (32::m)=(32:UInt8)::text m:=rfl;rw[e1];by_cases h2:st=true∧headNe 32 m=true
   ·obtain⟨rfl,h2⟩:=h2;rw[sq_on 32 m h2,sq_on 32 (text m) (by rw[headNe_text hm];exact h2),sq_text m true hm];rfl
   ·rw[sq_off 32 st m h2,sq_off 32 st (text m) (by rw[headNe_text hm];exact h2),sq_text m st hm]
  ·rw[sq_ne 32 v st m hv,text_cons,text_cons,sq_run 32 (enc v) (text m) st (by intro e;rw[e]at hl;simp at hl) (enc_no32 (h v (by simp)) hv),sq_text m true hm]
theorem filter_text (c:Int)(h0:0≤c)(h1:c<128): ∀m:List Int,(∀v∈m,okR v)→(text m).filter (· ≠c.toNat.toUInt8)=text (m.filter (· ≠c))
 | [],_=>rfl
 | v::m,h=>by
  have ih:=filter_text c h0 h1 m (fun u hu=>h u (by simp[hu]));rw[text_cons,List.filter_append,ih];by_cases hv:v=c
  ·subst hv;rw[enc_one h0 (by omega)];simp
  ·have he:(enc v).filter (· ≠c.toNat.toUInt8)=enc v:=(by refine List.filter_eq_self.2 ?_;intro x hx;simp only[ne_eq,decide_not,Bool.not_eq_true',decide_eq_false_iff_not];rintro rfl;exact hv (enc_ascii (h v (by simp)) h0 h1 hx));rw[he];simp[hv,text_cons]
theorem mapR_len {fold:Bool}{r:Int}(h:okR r):(enc (mapR fold r)).length≤(enc r).length:=by
 have h1:=enc_len r;unfold mapR;split
 ·exact h1.1
 ·split
  ·obtain⟨a0,a1,a2⟩:=h;unfold smallI;split
   ·rename_i h2;by_cases b:r≤90
    ·rw[enc_one (by omega) (by omega),enc_one (by omega) (by omega)];simp
    ·rw[enc_two (by omega) (by omega),enc_two (by omega) (by omega)];simp
   ·split
    ·rw[enc_two (by omega) (by omega),enc_two (by omega) (by omega)];simp
    ·exact Nat.le_refl _
  ·exact Nat.le_refl _
theorem mapped_len (fold:Bool): ∀m:List Int,(∀v∈m,okR v)→(text (mapped fold m)).length≤(text m).length
 | [],_=>by simp[mapped,text]
 | v::m,h=>by
  have ih:=mapped_len fold m (fun u hu=>h u (by simp[hu]));have h1:=mapR_len (fold:=fold) (h v (by simp));unfold mapped at*;by_cases hd:dropB v=true
  ·simp only[List.filter_cons,hd,Bool.not_true,Bool.false_eq_true,if_false];rw[text_cons,List.length_append];omega
  ·have hd':dropB v=false:=(by simpa using hd);simp only[List.filter_cons,hd',Bool.not_false,if_true,List.map_cons];rw[text_cons,text_cons,List.length_append,List.length_append];omega
theorem ready_len (fold:Bool)(m:List Int)(h: ∀v∈m,okR v):(text (readyR fold m)).length≤(text m).length:=by unfold readyR;rw[←sq_text _ _ (mapped_ok h)];exact Nat.le_trans (sq_len _ _ _) (mapped_len fold m h)
def mapO (l:List UInt8)(fold:Bool):Option (List UInt8):=(runes l).map fun m=>text (mapped fold m)
def readyO (l:List UInt8)(fold:Bool):Option (List UInt8):=(runes l).map fun m=>text (readyR fold m)
def phoneR (m:List Int):List Int:=(mapped true m).filter fun v=>decide (v≠32)&&decide (v≠45)
def phoneO (l:List UInt8):Option (List UInt8):=(runes l).map fun m=>text (phoneR m)
theorem mapO_len {l o:List UInt8}{fold:Bool}(h:mapO l fold=some o):o.length≤l.length:=by unfold mapO at h;obtain⟨m,hm,rfl⟩:=Option.map_eq_some_iff.1 h;obtain⟨h1,h2⟩:=runes_text _ l m (Nat.le_refl _) hm;have:=mapped_len fold m h2;rw[h1]at this;exact this
theorem readyO_len {l o:List UInt8}{fold:Bool}(h:readyO l fold=some o):o.length≤l.length:=by unfold readyO at h;obtain⟨m,hm,rfl⟩:=Option.map_eq_some_iff.1 h;obtain⟨h1,h2⟩:=runes_text _ l m (Nat.le_refl _) hm;have:=ready_len fold m h2;rw[h1]at this;exact this
theorem readyO_of_map (l:List UInt8)(fold:Bool):readyO l fold=(mapO l fold).map fun t=>Lib.join ((pieces 32 t).filter (· ≠[])) [32]:=by
 unfold readyO mapO;cases h:runes l with
 | none=>rfl
 | some m=>obtain⟨h1,h2⟩:=runes_text _ l m (Nat.le_refl _) h;show some _=some _;congr 1;show text (readyR fold m)=Lib.join ((pieces 32 (text (mapped fold m))).filter (· ≠[])) [32];rw[←sq_pieces,sq_text _ _ (mapped_ok h2)];rfl
theorem phoneO_of_ready (l:List UInt8):phoneO l=(readyO l true).map fun t=>Lib.replaceAll (Lib.replaceAll t [32] []) [45] []:=by
 unfold readyO phoneO;cases h:runes l with
 | none=>rfl
 | some m=>obtain⟨h1,h2⟩:=runes_text _ l m (Nat.le_refl _) h;show some _=some _;congr 1;show text (phoneR m)=Lib.replaceAll (Lib.replaceAll (text (readyR true m)) [32] []) [45] [];rw[replaceAll_filter,replaceAll_filter];have h3:=mapped_ok (fold:=true) h2;unfold readyR;rw[←sq_text _ _ h3,filter_sq 32 _ (by simp)];rw[show(32:UInt8)=(32:Int).toNat.toUInt8 from rfl,filter_text 32 (by omega) (by omega) _ h3];rw[show(45:UInt8)=(45:Int).toNat.toUInt8 from rfl,filter_text 45 (by omega) (by omega) _ (fun v hv=>h3 v (List.mem_filter.1 hv).1)];unfold phoneR;rw[List.filter_filter];congr 1;apply List.filter_congr;intro x _;rw[Bool.and_comm]
end prp
end Go.Proofs.YtmnpfkbjpeaemaaGreatDoor
