/- One text out of several: FilUa, FilUb, FilUc, FilUd, FilUz, FtRc, HexD. -/
import Derived.Test.YtffkghkkobmhaaaP5
import Derived.Test.YtffkghkkobmhaaaRows
import Derived.Test.YtffkghkkobmhaaaP1
set_option linter.unusedVariables false
set_option linter.unusedSimpArgs false
set_option maxRecDepth 20000
set_option maxHeartbeats 16000000
namespace Go.Proofs.Ytffkghkkobmhaaa
open Go.RowKit
namespace flw
open flp atp atw etp etw
open tupw (Strs strs_below)
theorem one_k0 (F:Fl)(v:Value)(w:World)(hv:Hid (FlX w v F))(hf:Hid (FitX F))(hkd:F.kind=0):
  Calls Try.prog 32 #[v] w fun e w'=>e= .returned (.bool (oneF F))∧Below w.heap.size w w':=by
 have HR:=Lib.hid (rn01 F (Or.inl hkd));obtain⟨R,hR⟩: ∃R,oneF F=R:=⟨_,rfl⟩;rw[hR]at HR ⊢;clear hR;have q1:=isE_list F.attr;generalize isE F.attr=y1 at q1 HR;have q2:=isE_list F.value;generalize isE F.value=y2 at q2 HR;have q3:=isE_list F.first;generalize isE F.first=y3 at q3 HR;have q5:=isE_list F.last;generalize isE F.last=y5 at q5 HR;have qM:=(show decide ((0:Int)<(F.any.length:Int))=decide (0<F.any.length)from by rw[decide_eq_decide];omega);obtain⟨yM,qMn⟩: ∃b,decide (0<F.any.length)=b:=⟨_,rfl⟩;rw[qMn]at qM HR;obtain⟨xa,xc,ka,kc,rfl,HX,HK,hxc,hkc⟩:=flX_form hv.out;unfold flV;try unfold flV at qM
 try unfold flV at qMn
 obtain⟨N,hN⟩: ∃N,F.kids.length=N:=⟨_,rfl⟩;have HN:=Lib.hid hN;obtain⟨M,hM⟩: ∃M,F.any.length=M:=⟨_,rfl⟩;have HM:=Lib.hid hM;have HFH:=Lib.hid (fitX_head hf.out);have hNb:N≤100000:=by rw[←hN];exact HFH.out.2.2.2.2.2.2
 have hMb:M≤100000:=by rw[←hM];exact HFH.out.2.2.2.2.1
 rw[hN]at hkc ⊢;try rw[hN]at qM
 try rw[hN]at qMn
 rw[hM]at hxc ⊢;try rw[hM]at qM
 try rw[hM]at qMn
 clear hN hM;obtain⟨W1,hW1⟩: ∃W,w.alloc (.cells #[.int .i64 F.kind,.string F.attr,.string F.value,.string F.first,.slice xa M xc,.string F.last,.slice ka N kc] 25)=W:=⟨_,rfl⟩;have hB1:Below w.heap.size w W1:=by rw[←hW1];exact(Below.refl _ _).alloc (Nat.le_refl _) _
 have HF1:Hid (R7 W1 w.heap.size (.int .i64 F.kind) (.string F.attr) (.string F.value) (.string F.first) (.slice xa M xc) (.string F.last) (.slice ka N kc)):=by rw[←hW1];exact r7_new _ _ _ _ _ _ _ _
 obtain⟨k0,k1,k2,k3,k4,k5,k6⟩:=r7_cells HF1.out;have HB1:=Lib.hid hB1;have hs1:=hB1.size;clear hB1;have HF2:=HF1;rw[hkd]at HF2 hW1 ⊢;clear HF1 k0 k1 k2 k3 k4 k5 k6 hkd;have HF1:=HF2;clear HF2;obtain⟨k0,k1,k2,k3,k4,k5,k6⟩:=r7_cells HF1.out;cases y3 with
 | false=>
  cases y1 with
  | false=>go_enter Try.func32,Try.ntmps32;go_wp2_with fail;go_ret;exact⟨kt.ret_bool HR.out.symm,HB1.out⟩
  | true=>
   cases y2 with
   | false=>go_enter Try.func32,Try.ntmps32;go_wp2_with fail;go_ret;exact⟨kt.ret_bool HR.out.symm,HB1.out⟩
   | true=>go_enter Try.func32,Try.ntmps32;go_wp2_with fail;go_ret;exact⟨kt.ret_bool HR.out.symm,HB1.out⟩
 | true=>
  cases yM with
  | true=>
   cases y1 with
   | false=>go_enter Try.func32,Try.ntmps32;go_wp2_with fail;go_ret;exact⟨kt.ret_bool HR.out.symm,HB1.out⟩
   | true=>
    cases y2 with
    | false=>go_enter Try.func32,Try.ntmps32;go_wp2_with fail;go_ret;exact⟨kt.ret_bool HR.out.symm,HB1.out⟩
    | true=>go_enter Try.func32,Try.ntmps32;go_wp2_with fail;go_ret;exact⟨kt.ret_bool HR.out.symm,HB1.out⟩
  | false=>
   cases y5 with
   | false=>
    cases y1 with
    | false=>go_enter Try.func32,Try.ntmps32;go_wp2_with fail;go_ret;exact⟨kt.ret_bool HR.out.symm,HB1.out⟩
    | true=>
     cases y2 with
     | false=>go_enter Try.func32,Try.ntmps32;go_wp2_with fail;go_ret;exact⟨kt.ret_bool HR.out.symm,HB1.out⟩
     | true=>go_enter Try.func32,Try.ntmps32;go_wp2_with fail;go_ret;exact⟨kt.ret_bool HR.out.symm,HB1.out⟩
   | true=>
    cases y1 with
    | false=>go_enter Try.func32,Try.ntmps32;go_wp2_with fail;go_ret;exact⟨kt.ret_bool HR.out.symm,HB1.out⟩
    | true=>
     cases y2 with
     | false=>go_enter Try.func32,Try.ntmps32;go_wp2_with fail;go_ret;exact⟨kt.ret_bool HR.out.symm,HB1.out⟩
     | true=>go_enter Try.func32,Try.ntmps32;go_wp2_with fail;go_ret;exact⟨kt.ret_bool HR.out.symm,HB1.out⟩
theorem one_k1 (F:Fl)(v:Value)(w:World)(hv:Hid (FlX w v F))(hf:Hid (FitX F))(hkd:F.kind=1):
  Calls Try.prog 32 #[v] w fun e w'=>e= .returned (.bool (oneF F))∧Below w.heap.size w w':=by
 have HR:=Lib.hid (rn01 F (Or.inr hkd));obtain⟨R,hR⟩: ∃R,oneF F=R:=⟨_,rfl⟩;rw[hR]at HR ⊢;clear hR;have q1:=isE_list F.attr;generalize isE F.attr=y1 at q1 HR;have q2:=isE_list F.value;generalize isE F.value=y2 at q2 HR;have q3:=isE_list F.first;generalize isE F.first=y3 at q3 HR;have q5:=isE_list F.last;generalize isE F.last=y5 at q5 HR;have qM:=(show decide ((0:Int)<(F.any.length:Int))=decide (0<F.any.length)from by rw[decide_eq_decide];omega);obtain⟨yM,qMn⟩: ∃b,decide (0<F.any.length)=b:=⟨_,rfl⟩;rw[qMn]at qM HR;obtain⟨xa,xc,ka,kc,rfl,HX,HK,hxc,hkc⟩:=flX_form hv.out;unfold flV;try unfold flV at qM
 try unfold flV at qMn
 obtain⟨N,hN⟩: ∃N,F.kids.length=N:=⟨_,rfl⟩;have HN:=Lib.hid hN;obtain⟨M,hM⟩: ∃M,F.any.length=M:=⟨_,rfl⟩;have HM:=Lib.hid hM;have HFH:=Lib.hid (fitX_head hf.out);have hNb:N≤100000:=by rw[←hN];exact HFH.out.2.2.2.2.2.2
 have hMb:M≤100000:=by rw[←hM];exact HFH.out.2.2.2.2.1
 rw[hN]at hkc ⊢;try rw[hN]at qM
 try rw[hN]at qMn
 rw[hM]at hxc ⊢;try rw[hM]at qM
 try rw[hM]at qMn
 clear hN hM;obtain⟨W1,hW1⟩: ∃W,w.alloc (.cells #[.int .i64 F.kind,.string F.attr,.string F.value,.string F.first,.slice xa M xc,.string F.last,.slice ka N kc] 25)=W:=⟨_,rfl⟩;have hB1:Below w.heap.size w W1:=by rw[←hW1];exact(Below.refl _ _).alloc (Nat.le_refl _) _
 have HF1:Hid (R7 W1 w.heap.size (.int .i64 F.kind) (.string F.attr) (.string F.value) (.string F.first) (.slice xa M xc) (.string F.last) (.slice ka N kc)):=by rw[←hW1];exact r7_new _ _ _ _ _ _ _ _
 obtain⟨k0,k1,k2,k3,k4,k5,k6⟩:=r7_cells HF1.out;have HB1:=Lib.hid hB1;have hs1:=hB1.size;clear hB1;have HF2:=HF1;rw[hkd]at HF2 hW1 ⊢;clear HF1 k0 k1 k2 k3 k4 k5 k6 hkd;have HF1:=HF2;clear HF2;obtain⟨k0,k1,k2,k3,k4,k5,k6⟩:=r7_cells HF1.out;cases y3 with
 | false=>
  cases y1 with
  | false=>go_enter Try.func32,Try.ntmps32;go_wp2_with fail;go_ret;exact⟨kt.ret_bool HR.out.symm,HB1.out⟩
  | true=>
   cases y2 with
   | false=>go_enter Try.func32,Try.ntmps32;go_wp2_with fail;go_ret;exact⟨kt.ret_bool HR.out.symm,HB1.out⟩
   | true=>go_enter Try.func32,Try.ntmps32;go_wp2_with fail;go_ret;exact⟨kt.ret_bool HR.out.symm,HB1.out⟩
 | true=>
  cases yM with
  | true=>
   cases y1 with
   | false=>go_enter Try.func32,Try.ntmps32;go_wp2_with fail;go_ret;exact⟨kt.ret_bool HR.out.symm,HB1.out⟩
   | true=>
    cases y2 with
    | false=>go_enter Try.func32,Try.ntmps32;go_wp2_with fail;go_ret;exact⟨kt.ret_bool HR.out.symm,HB1.out⟩
    | true=>go_enter Try.func32,Try.ntmps32;go_wp2_with fail;go_ret;exact⟨kt.ret_bool HR.out.symm,HB1.out⟩
  | false=>
   cases y5 with
   | false=>
    cases y1 with
    | false=>go_enter Try.func32,Try.ntmps32;go_wp2_with fail;go_ret;exact⟨kt.ret_bool HR.out.symm,HB1.out⟩
    | true=>
     cases y2 with
     | false=>go_enter Try.func32,Try.ntmps32;go_wp2_with fail;go_ret;exact⟨kt.ret_bool HR.out.symm,HB1.out⟩
     | true=>go_enter Try.func32,Try.ntmps32;go_wp2_with fail;go_ret;exact⟨kt.ret_bool HR.out.symm,HB1.out⟩
   | true=>
    cases y1 with
    | false=>go_enter Try.func32,Try.ntmps32;go_wp2_with fail;go_ret;exact⟨kt.ret_bool HR.out.symm,HB1.out⟩
    | true=>
     cases y2 with
     | false=>go_enter Try.func32,Try.ntmps32;go_wp2_with fail;go_ret;exact⟨kt.ret_bool HR.out.symm,HB1.out⟩
     | true=>go_enter Try.func32,Try.ntmps32;go_wp2_with fail;go_ret;exact⟨kt.ret_bool HR.out.symm,HB1.out⟩
theorem one_k2 (F:Fl)(v:Value)(w:World)(hv:Hid (FlX w v F))(hf:Hid (FitX F))(hkd:F.kind=2):
  Calls Try.prog 32 #[v] w fun e w'=>e= .returned (.bool (oneF F))∧Below w.heap.size w w':=by
 have HR:=Lib.hid (rn2 F hkd);obtain⟨R,hR⟩: ∃R,oneF F=R:=⟨_,rfl⟩;rw[hR]at HR ⊢;clear hR;have q1:=isE_list F.attr;generalize isE F.attr=y1 at q1 HR;have q2:=isE_list F.value;generalize isE F.value=y2 at q2 HR;have q3:=isE_list F.first;generalize isE F.first=y3 at q3 HR;have q5:=isE_list F.last;generalize isE F.last=y5 at q5 HR;have qM:=(show decide ((0:Int)<(F.any.length:Int))=decide (0<F.any.length)from by rw[decide_eq_decide];omega);obtain⟨yM,qMn⟩: ∃b,decide (0<F.any.length)=b:=⟨_,rfl⟩;rw[qMn]at qM HR;have qn1:=(show((F.kids.length:Int)==1)=decide (F.kids.length=1)from by rw[Bool.eq_iff_iff,beq_iff_eq,decide_eq_true_iff];omega);obtain⟨yn1,qn1n⟩: ∃b,decide (F.kids.length=1)=b:=⟨_,rfl⟩;rw[qn1n]at qn1 HR;obtain⟨xa,xc,ka,kc,rfl,HX,HK,hxc,hkc⟩:=flX_form hv.out;unfold flV;try unfold flV at qM
 try unfold flV at qMn
 try unfold flV at qn1
 try unfold flV at qn1n
 obtain⟨N,hN⟩: ∃N,F.kids.length=N:=⟨_,rfl⟩;have HN:=Lib.hid hN;obtain⟨M,hM⟩: ∃M,F.any.length=M:=⟨_,rfl⟩;have HM:=Lib.hid hM;have HFH:=Lib.hid (fitX_head hf.out);have hNb:N≤100000:=by rw[←hN];exact HFH.out.2.2.2.2.2.2
 have hMb:M≤100000:=by rw[←hM];exact HFH.out.2.2.2.2.1
 rw[hN]at hkc ⊢;try rw[hN]at qM
 try rw[hN]at qMn
 try rw[hN]at qn1
 try rw[hN]at qn1n
 rw[hM]at hxc ⊢;try rw[hM]at qM
 try rw[hM]at qMn
 try rw[hM]at qn1
 try rw[hM]at qn1n
 clear hN hM;obtain⟨W1,hW1⟩: ∃W,w.alloc (.cells #[.int .i64 F.kind,.string F.attr,.string F.value,.string F.first,.slice xa M xc,.string F.last,.slice ka N kc] 25)=W:=⟨_,rfl⟩;have hB1:Below w.heap.size w W1:=by rw[←hW1];exact(Below.refl _ _).alloc (Nat.le_refl _) _
 have HF1:Hid (R7 W1 w.heap.size (.int .i64 F.kind) (.string F.attr) (.string F.value) (.string F.first) (.slice xa M xc) (.string F.last) (.slice ka N kc)):=by rw[←hW1];exact r7_new _ _ _ _ _ _ _ _
 obtain⟨k0,k1,k2,k3,k4,k5,k6⟩:=r7_cells HF1.out;have HB1:=Lib.hid hB1;have hs1:=hB1.size;clear hB1;have HF2:=HF1;rw[hkd]at HF2 hW1 ⊢;clear HF1 k0 k1 k2 k3 k4 k5 k6 hkd;have HF1:=HF2;clear HF2;obtain⟨k0,k1,k2,k3,k4,k5,k6⟩:=r7_cells HF1.out;cases y3 with
 | false=>
  cases y1 with
  | false=>go_enter Try.func32,Try.ntmps32;go_wp2_with fail;go_ret;exact⟨kt.ret_bool HR.out.symm,HB1.out⟩
  | true=>
   cases y2 with
   | false=>go_enter Try.func32,Try.ntmps32;go_wp2_with fail;go_ret;exact⟨kt.ret_bool HR.out.symm,HB1.out⟩
   | true=>go_enter Try.func32,Try.ntmps32;go_wp2_with fail;go_ret;exact⟨kt.ret_bool HR.out.symm,HB1.out⟩
 | true=>
  cases yM with
  | true=>
   cases y1 with
   | false=>go_enter Try.func32,Try.ntmps32;go_wp2_with fail;go_ret;exact⟨kt.ret_bool HR.out.symm,HB1.out⟩
   | true=>
    cases y2 with
    | false=>go_enter Try.func32,Try.ntmps32;go_wp2_with fail;go_ret;exact⟨kt.ret_bool HR.out.symm,HB1.out⟩
    | true=>go_enter Try.func32,Try.ntmps32;go_wp2_with fail;go_ret;exact⟨kt.ret_bool HR.out.symm,HB1.out⟩
  | false=>
   cases y5 with
   | false=>
    cases y1 with
    | false=>go_enter Try.func32,Try.ntmps32;go_wp2_with fail;go_ret;exact⟨kt.ret_bool HR.out.symm,HB1.out⟩
    | true=>
     cases y2 with
     | false=>go_enter Try.func32,Try.ntmps32;go_wp2_with fail;go_ret;exact⟨kt.ret_bool HR.out.symm,HB1.out⟩
     | true=>go_enter Try.func32,Try.ntmps32;go_wp2_with fail;go_ret;exact⟨kt.ret_bool HR.out.symm,HB1.out⟩
   | true=>
    cases y1 with
    | false=>go_enter Try.func32,Try.ntmps32;go_wp2_with fail;go_ret;exact⟨kt.ret_bool HR.out.symm,HB1.out⟩
    | true=>
     cases y2 with
     | false=>go_enter Try.func32,Try.ntmps32;go_wp2_with fail;go_ret;exact⟨kt.ret_bool HR.out.symm,HB1.out⟩
     | true=>
      cases yn1 with
      | false=>go_enter Try.func32,Try.ntmps32;go_wp2_with fail;go_ret;exact⟨kt.ret_bool HR.out.symm,HB1.out⟩
      | true=>go_enter Try.func32,Try.ntmps32;go_wp2_with fail;go_ret;exact⟨kt.ret_bool HR.out.symm,HB1.out⟩
end flw
open Go.RowKit
namespace flw
open flp atp atw etp etw
open tupw (Strs strs_below)
theorem one_k3 (F:Fl)(v:Value)(w:World)(hv:Hid (FlX w v F))(hf:Hid (FitX F))(hkd:F.kind=3):
  Calls Try.prog 32 #[v] w fun e w'=>e= .returned (.bool (oneF F))∧Below w.heap.size w w':=by
 have HR:=Lib.hid (rn3 F (by rw[hkd];simp));obtain⟨R,hR⟩: ∃R,oneF F=R:=⟨_,rfl⟩;rw[hR]at HR ⊢;clear hR;have q3:=isE_list F.first;generalize isE F.first=y3 at q3 HR;have q5:=isE_list F.last;generalize isE F.last=y5 at q5 HR;have qM:=(show decide ((0:Int)<(F.any.length:Int))=decide (0<F.any.length)from by rw[decide_eq_decide];omega);obtain⟨yM,qMn⟩: ∃b,decide (0<F.any.length)=b:=⟨_,rfl⟩;rw[qMn]at qM HR;have qa:=(show decide ((1:Int)≤(F.attr.size:Int))=decide (1≤F.attr.size)from by rw[decide_eq_decide];omega);obtain⟨ya,qan⟩: ∃b,decide (1≤F.attr.size)=b:=⟨_,rfl⟩;rw[qan]at qa HR;have qb:=(show decide ((F.attr.size:Int)≤64)=decide (F.attr.size≤64)from by rw[decide_eq_decide];omega);obtain⟨yb,qbn⟩: ∃b,decide (F.attr.size≤64)=b:=⟨_,rfl⟩;rw[qbn]at qb HR;have qn0:=(show((F.kids.length:Int)==0)=decide (F.kids.length=0)from by rw[Bool.eq_iff_iff,beq_iff_eq,decide_eq_true_iff];omega);obtain⟨yn0,qn0n⟩: ∃b,decide (F.kids.length=0)=b:=⟨_,rfl⟩;rw[qn0n]at qn0 HR;obtain⟨xa,xc,ka,kc,rfl,HX,HK,hxc,hkc⟩:=flX_form hv.out;unfold flV;try unfold flV at qM
 try unfold flV at qMn
 try unfold flV at qn0
 try unfold flV at qn0n
 obtain⟨N,hN⟩: ∃N,F.kids.length=N:=⟨_,rfl⟩;have HN:=Lib.hid hN;obtain⟨M,hM⟩: ∃M,F.any.length=M:=⟨_,rfl⟩;have HM:=Lib.hid hM;have HFH:=Lib.hid (fitX_head hf.out);have hNb:N≤100000:=by rw[←hN];exact HFH.out.2.2.2.2.2.2
 have hMb:M≤100000:=by rw[←hM];exact HFH.out.2.2.2.2.1
 rw[hN]at hkc ⊢;try rw[hN]at qM
 try rw[hN]at qMn
 try rw[hN]at qn0
 try rw[hN]at qn0n
 rw[hM]at hxc ⊢;try rw[hM]at qM
 try rw[hM]at qMn
 try rw[hM]at qn0
 try rw[hM]at qn0n
 clear hN hM;obtain⟨W1,hW1⟩: ∃W,w.alloc (.cells #[.int .i64 F.kind,.string F.attr,.string F.value,.string F.first,.slice xa M xc,.string F.last,.slice ka N kc] 25)=W:=⟨_,rfl⟩;have hB1:Below w.heap.size w W1:=by rw[←hW1];exact(Below.refl _ _).alloc (Nat.le_refl _) _
 have HF1:Hid (R7 W1 w.heap.size (.int .i64 F.kind) (.string F.attr) (.string F.value) (.string F.first) (.slice xa M xc) (.string F.last) (.slice ka N kc)):=by rw[←hW1];exact r7_new _ _ _ _ _ _ _ _
 obtain⟨k0,k1,k2,k3,k4,k5,k6⟩:=r7_cells HF1.out;have HB1:=Lib.hid hB1;have hs1:=hB1.size;clear hB1;have HF2:=HF1;rw[hkd]at HF2 hW1 ⊢;clear HF1 k0 k1 k2 k3 k4 k5 k6 hkd;have HF1:=HF2;clear HF2;obtain⟨k0,k1,k2,k3,k4,k5,k6⟩:=r7_cells HF1.out;cases y3 with
 | false=>
  cases ya with
  | false=>go_enter Try.func32,Try.ntmps32;go_wp2_with fail;go_ret;exact⟨kt.ret_bool HR.out.symm,HB1.out⟩
  | true=>
   cases yb with
   | false=>go_enter Try.func32,Try.ntmps32;go_wp2_with fail;go_ret;exact⟨kt.ret_bool HR.out.symm,HB1.out⟩
   | true=>go_enter Try.func32,Try.ntmps32;go_wp2_with fail;go_ret;exact⟨kt.ret_bool HR.out.symm,HB1.out⟩
 | true=>
  cases yM with
  | true=>
   cases ya with
   | false=>go_enter Try.func32,Try.ntmps32;go_wp2_with fail;go_ret;exact⟨kt.ret_bool HR.out.symm,HB1.out⟩
   | true=>
    cases yb with
    | false=>go_enter Try.func32,Try.ntmps32;go_wp2_with fail;go_ret;exact⟨kt.ret_bool HR.out.symm,HB1.out⟩
    | true=>go_enter Try.func32,Try.ntmps32;go_wp2_with fail;go_ret;exact⟨kt.ret_bool HR.out.symm,HB1.out⟩
  | false=>
   cases y5 with
   | false=>
    cases ya with
    | false=>go_enter Try.func32,Try.ntmps32;go_wp2_with fail;go_ret;exact⟨kt.ret_bool HR.out.symm,HB1.out⟩
    | true=>
     cases yb with
     | false=>go_enter Try.func32,Try.ntmps32;go_wp2_with fail;go_ret;exact⟨kt.ret_bool HR.out.symm,HB1.out⟩
     | true=>go_enter Try.func32,Try.ntmps32;go_wp2_with fail;go_ret;exact⟨kt.ret_bool HR.out.symm,HB1.out⟩
   | true=>
    cases ya with
    | false=>go_enter Try.func32,Try.ntmps32;go_wp2_with fail;go_ret;exact⟨kt.ret_bool HR.out.symm,HB1.out⟩
    | true=>
     cases yb with
     | false=>go_enter Try.func32,Try.ntmps32;go_wp2_with fail;go_ret;exact⟨kt.ret_bool HR.out.symm,HB1.out⟩
     | true=>
      cases yn0 with
      | false=>go_enter Try.func32,Try.ntmps32;go_wp2_with fail;go_ret;exact⟨kt.ret_bool HR.out.symm,HB1.out⟩
      | true=>go_enter Try.func32,Try.ntmps32;go_wp2_with fail;go_ret;exact⟨kt.ret_bool HR.out.symm,HB1.out⟩
theorem one_k5 (F:Fl)(v:Value)(w:World)(hv:Hid (FlX w v F))(hf:Hid (FitX F))(hkd:F.kind=5):
  Calls Try.prog 32 #[v] w fun e w'=>e= .returned (.bool (oneF F))∧Below w.heap.size w w':=by
 have HR:=Lib.hid (rn3 F (by rw[hkd];simp));obtain⟨R,hR⟩: ∃R,oneF F=R:=⟨_,rfl⟩;rw[hR]at HR ⊢;clear hR;have q3:=isE_list F.first;generalize isE F.first=y3 at q3 HR;have q5:=isE_list F.last;generalize isE F.last=y5 at q5 HR;have qM:=(show decide ((0:Int)<(F.any.length:Int))=decide (0<F.any.length)from by rw[decide_eq_decide];omega);obtain⟨yM,qMn⟩: ∃b,decide (0<F.any.length)=b:=⟨_,rfl⟩;rw[qMn]at qM HR;have qa:=(show decide ((1:Int)≤(F.attr.size:Int))=decide (1≤F.attr.size)from by rw[decide_eq_decide];omega);obtain⟨ya,qan⟩: ∃b,decide (1≤F.attr.size)=b:=⟨_,rfl⟩;rw[qan]at qa HR;have qb:=(show decide ((F.attr.size:Int)≤64)=decide (F.attr.size≤64)from by rw[decide_eq_decide];omega);obtain⟨yb,qbn⟩: ∃b,decide (F.attr.size≤64)=b:=⟨_,rfl⟩;rw[qbn]at qb HR;have qn0:=(show((F.kids.length:Int)==0)=decide (F.kids.length=0)from by rw[Bool.eq_iff_iff,beq_iff_eq,decide_eq_true_iff];omega);obtain⟨yn0,qn0n⟩: ∃b,decide (F.kids.length=0)=b:=⟨_,rfl⟩;rw[qn0n]at qn0 HR;obtain⟨xa,xc,ka,kc,rfl,HX,HK,hxc,hkc⟩:=flX_form hv.out;unfold flV;try unfold flV at qM
 try unfold flV at qMn
 try unfold flV at qn0
 try unfold flV at qn0n
 obtain⟨N,hN⟩: ∃N,F.kids.length=N:=⟨_,rfl⟩;have HN:=Lib.hid hN;obtain⟨M,hM⟩: ∃M,F.any.length=M:=⟨_,rfl⟩;have HM:=Lib.hid hM;have HFH:=Lib.hid (fitX_head hf.out);have hNb:N≤100000:=by rw[←hN];exact HFH.out.2.2.2.2.2.2
 have hMb:M≤100000:=by rw[←hM];exact HFH.out.2.2.2.2.1
 rw[hN]at hkc ⊢;try rw[hN]at qM
 try rw[hN]at qMn
 try rw[hN]at qn0
 try rw[hN]at qn0n
 rw[hM]at hxc ⊢;try rw[hM]at qM
 try rw[hM]at qMn
 try rw[hM]at qn0
 try rw[hM]at qn0n
 clear hN hM;obtain⟨W1,hW1⟩: ∃W,w.alloc (.cells #[.int .i64 F.kind,.string F.attr,.string F.value,.string F.first,.slice xa M xc,.string F.last,.slice ka N kc] 25)=W:=⟨_,rfl⟩;have hB1:Below w.heap.size w W1:=by rw[←hW1];exact(Below.refl _ _).alloc (Nat.le_refl _) _
 have HF1:Hid (R7 W1 w.heap.size (.int .i64 F.kind) (.string F.attr) (.string F.value) (.string F.first) (.slice xa M xc) (.string F.last) (.slice ka N kc)):=by rw[←hW1];exact r7_new _ _ _ _ _ _ _ _
 obtain⟨k0,k1,k2,k3,k4,k5,k6⟩:=r7_cells HF1.out;have HB1:=Lib.hid hB1;have hs1:=hB1.size;clear hB1;have HF2:=HF1;rw[hkd]at HF2 hW1 ⊢;clear HF1 k0 k1 k2 k3 k4 k5 k6 hkd;have HF1:=HF2;clear HF2;obtain⟨k0,k1,k2,k3,k4,k5,k6⟩:=r7_cells HF1.out;cases y3 with
 | false=>
  cases ya with
  | false=>go_enter Try.func32,Try.ntmps32;go_wp2_with fail;go_ret;exact⟨kt.ret_bool HR.out.symm,HB1.out⟩
  | true=>
   cases yb with
   | false=>go_enter Try.func32,Try.ntmps32;go_wp2_with fail;go_ret;exact⟨kt.ret_bool HR.out.symm,HB1.out⟩
   | true=>go_enter Try.func32,Try.ntmps32;go_wp2_with fail;go_ret;exact⟨kt.ret_bool HR.out.symm,HB1.out⟩
 | true=>
  cases yM with
  | true=>
   cases ya with
   | false=>go_enter Try.func32,Try.ntmps32;go_wp2_with fail;go_ret;exact⟨kt.ret_bool HR.out.symm,HB1.out⟩
   | true=>
    cases yb with
    | false=>go_enter Try.func32,Try.ntmps32;go_wp2_with fail;go_ret;exact⟨kt.ret_bool HR.out.symm,HB1.out⟩
    | true=>go_enter Try.func32,Try.ntmps32;go_wp2_with fail;go_ret;exact⟨kt.ret_bool HR.out.symm,HB1.out⟩
  | false=>
   cases y5 with
   | false=>
    cases ya with
    | false=>go_enter Try.func32,Try.ntmps32;go_wp2_with fail;go_ret;exact⟨kt.ret_bool HR.out.symm,HB1.out⟩
    | true=>
     cases yb with
     | false=>go_enter Try.func32,Try.ntmps32;go_wp2_with fail;go_ret;exact⟨kt.ret_bool HR.out.symm,HB1.out⟩
     | true=>go_enter Try.func32,Try.ntmps32;go_wp2_with fail;go_ret;exact⟨kt.ret_bool HR.out.symm,HB1.out⟩
   | true=>
    cases ya with
    | false=>go_enter Try.func32,Try.ntmps32;go_wp2_with fail;go_ret;exact⟨kt.ret_bool HR.out.symm,HB1.out⟩
    | true=>
     cases yb with
     | false=>go_enter Try.func32,Try.ntmps32;go_wp2_with fail;go_ret;exact⟨kt.ret_bool HR.out.symm,HB1.out⟩
     | true=>
      cases yn0 with
      | false=>go_enter Try.func32,Try.ntmps32;go_wp2_with fail;go_ret;exact⟨kt.ret_bool HR.out.symm,HB1.out⟩
      | true=>go_enter Try.func32,Try.ntmps32;go_wp2_with fail;go_ret;exact⟨kt.ret_bool HR.out.symm,HB1.out⟩
theorem one_k6 (F:Fl)(v:Value)(w:World)(hv:Hid (FlX w v F))(hf:Hid (FitX F))(hkd:F.kind=6):
  Calls Try.prog 32 #[v] w fun e w'=>e= .returned (.bool (oneF F))∧Below w.heap.size w w':=by
 have HR:=Lib.hid (rn3 F (by rw[hkd];simp));obtain⟨R,hR⟩: ∃R,oneF F=R:=⟨_,rfl⟩;rw[hR]at HR ⊢;clear hR;have q3:=isE_list F.first;generalize isE F.first=y3 at q3 HR;have q5:=isE_list F.last;generalize isE F.last=y5 at q5 HR;have qM:=(show decide ((0:Int)<(F.any.length:Int))=decide (0<F.any.length)from by rw[decide_eq_decide];omega);obtain⟨yM,qMn⟩: ∃b,decide (0<F.any.length)=b:=⟨_,rfl⟩;rw[qMn]at qM HR;have qa:=(show decide ((1:Int)≤(F.attr.size:Int))=decide (1≤F.attr.size)from by rw[decide_eq_decide];omega);obtain⟨ya,qan⟩: ∃b,decide (1≤F.attr.size)=b:=⟨_,rfl⟩;rw[qan]at qa HR;have qb:=(show decide ((F.attr.size:Int)≤64)=decide (F.attr.size≤64)from by rw[decide_eq_decide];omega);obtain⟨yb,qbn⟩: ∃b,decide (F.attr.size≤64)=b:=⟨_,rfl⟩;rw[qbn]at qb HR;have qn0:=(show((F.kids.length:Int)==0)=decide (F.kids.length=0)from by rw[Bool.eq_iff_iff,beq_iff_eq,decide_eq_true_iff];omega);obtain⟨yn0,qn0n⟩: ∃b,decide (F.kids.length=0)=b:=⟨_,rfl⟩;rw[qn0n]at qn0 HR;obtain⟨xa,xc,ka,kc,rfl,HX,HK,hxc,hkc⟩:=flX_form hv.out;unfold flV;try unfold flV at qM
 try unfold flV at qMn
 try unfold flV at qn0
 try unfold flV at qn0n
 obtain⟨N,hN⟩: ∃N,F.kids.length=N:=⟨_,rfl⟩;have HN:=Lib.hid hN;obtain⟨M,hM⟩: ∃M,F.any.length=M:=⟨_,rfl⟩;have HM:=Lib.hid hM;have HFH:=Lib.hid (fitX_head hf.out);have hNb:N≤100000:=by rw[←hN];exact HFH.out.2.2.2.2.2.2
 have hMb:M≤100000:=by rw[←hM];exact HFH.out.2.2.2.2.1
 rw[hN]at hkc ⊢;try rw[hN]at qM
 try rw[hN]at qMn
 try rw[hN]at qn0
 try rw[hN]at qn0n
 rw[hM]at hxc ⊢;try rw[hM]at qM
 try rw[hM]at qMn
 try rw[hM]at qn0
 try rw[hM]at qn0n
 clear hN hM;obtain⟨W1,hW1⟩: ∃W,w.alloc (.cells #[.int .i64 F.kind,.string F.attr,.string F.value,.string F.first,.slice xa M xc,.string F.last,.slice ka N kc] 25)=W:=⟨_,rfl⟩;have hB1:Below w.heap.size w W1:=by rw[←hW1];exact(Below.refl _ _).alloc (Nat.le_refl _) _
 have HF1:Hid (R7 W1 w.heap.size (.int .i64 F.kind) (.string F.attr) (.string F.value) (.string F.first) (.slice xa M xc) (.string F.last) (.slice ka N kc)):=by rw[←hW1];exact r7_new _ _ _ _ _ _ _ _
 obtain⟨k0,k1,k2,k3,k4,k5,k6⟩:=r7_cells HF1.out;have HB1:=Lib.hid hB1;have hs1:=hB1.size;clear hB1;have HF2:=HF1;rw[hkd]at HF2 hW1 ⊢;clear HF1 k0 k1 k2 k3 k4 k5 k6 hkd;have HF1:=HF2;clear HF2;obtain⟨k0,k1,k2,k3,k4,k5,k6⟩:=r7_cells HF1.out;cases y3 with
 | false=>
  cases ya with
  | false=>go_enter Try.func32,Try.ntmps32;go_wp2_with fail;go_ret;exact⟨kt.ret_bool HR.out.symm,HB1.out⟩
  | true=>
   cases yb with
   | false=>go_enter Try.func32,Try.ntmps32;go_wp2_with fail;go_ret;exact⟨kt.ret_bool HR.out.symm,HB1.out⟩
   | true=>go_enter Try.func32,Try.ntmps32;go_wp2_with fail;go_ret;exact⟨kt.ret_bool HR.out.symm,HB1.out⟩
 | true=>
  cases yM with
  | true=>
   cases ya with
   | false=>go_enter Try.func32,Try.ntmps32;go_wp2_with fail;go_ret;exact⟨kt.ret_bool HR.out.symm,HB1.out⟩
   | true=>
    cases yb with
    | false=>go_enter Try.func32,Try.ntmps32;go_wp2_with fail;go_ret;exact⟨kt.ret_bool HR.out.symm,HB1.out⟩
    | true=>go_enter Try.func32,Try.ntmps32;go_wp2_with fail;go_ret;exact⟨kt.ret_bool HR.out.symm,HB1.out⟩
  | false=>
   cases y5 with
   | false=>
    cases ya with
    | false=>go_enter Try.func32,Try.ntmps32;go_wp2_with fail;go_ret;exact⟨kt.ret_bool HR.out.symm,HB1.out⟩
    | true=>
     cases yb with
     | false=>go_enter Try.func32,Try.ntmps32;go_wp2_with fail;go_ret;exact⟨kt.ret_bool HR.out.symm,HB1.out⟩
     | true=>go_enter Try.func32,Try.ntmps32;go_wp2_with fail;go_ret;exact⟨kt.ret_bool HR.out.symm,HB1.out⟩
   | true=>
    cases ya with
    | false=>go_enter Try.func32,Try.ntmps32;go_wp2_with fail;go_ret;exact⟨kt.ret_bool HR.out.symm,HB1.out⟩
    | true=>
     cases yb with
     | false=>go_enter Try.func32,Try.ntmps32;go_wp2_with fail;go_ret;exact⟨kt.ret_bool HR.out.symm,HB1.out⟩
     | true=>
      cases yn0 with
      | false=>go_enter Try.func32,Try.ntmps32;go_wp2_with fail;go_ret;exact⟨kt.ret_bool HR.out.symm,HB1.out⟩
      | true=>go_enter Try.func32,Try.ntmps32;go_wp2_with fail;go_ret;exact⟨kt.ret_bool HR.out.symm,HB1.out⟩
theorem one_k8 (F:Fl)(v:Value)(w:World)(hv:Hid (FlX w v F))(hf:Hid (FitX F))(hkd:F.kind=8):
  Calls Try.prog 32 #[v] w fun e w'=>e= .returned (.bool (oneF F))∧Below w.heap.size w w':=by
 have HR:=Lib.hid (rn3 F (by rw[hkd];simp));obtain⟨R,hR⟩: ∃R,oneF F=R:=⟨_,rfl⟩;rw[hR]at HR ⊢;clear hR;have q3:=isE_list F.first;generalize isE F.first=y3 at q3 HR;have q5:=isE_list F.last;generalize isE F.last=y5 at q5 HR;have qM:=(show decide ((0:Int)<(F.any.length:Int))=decide (0<F.any.length)from by rw[decide_eq_decide];omega);obtain⟨yM,qMn⟩: ∃b,decide (0<F.any.length)=b:=⟨_,rfl⟩;rw[qMn]at qM HR;have qa:=(show decide ((1:Int)≤(F.attr.size:Int))=decide (1≤F.attr.size)from by rw[decide_eq_decide];omega);obtain⟨ya,qan⟩: ∃b,decide (1≤F.attr.size)=b:=⟨_,rfl⟩;rw[qan]at qa HR;have qb:=(show decide ((F.attr.size:Int)≤64)=decide (F.attr.size≤64)from by rw[decide_eq_decide];omega);obtain⟨yb,qbn⟩: ∃b,decide (F.attr.size≤64)=b:=⟨_,rfl⟩;rw[qbn]at qb HR;have qn0:=(show((F.kids.length:Int)==0)=decide (F.kids.length=0)from by rw[Bool.eq_iff_iff,beq_iff_eq,decide_eq_true_iff];omega);obtain⟨yn0,qn0n⟩: ∃b,decide (F.kids.length=0)=b:=⟨_,rfl⟩;rw[qn0n]at qn0 HR;obtain⟨xa,xc,ka,kc,rfl,HX,HK,hxc,hkc⟩:=flX_form hv.out;unfold flV;try unfold flV at qM
 try unfold flV at qMn
 try unfold flV at qn0
 try unfold flV at qn0n
 obtain⟨N,hN⟩: ∃N,F.kids.length=N:=⟨_,rfl⟩;have HN:=Lib.hid hN;obtain⟨M,hM⟩: ∃M,F.any.length=M:=⟨_,rfl⟩;have HM:=Lib.hid hM;have HFH:=Lib.hid (fitX_head hf.out);have hNb:N≤100000:=by rw[←hN];exact HFH.out.2.2.2.2.2.2
 have hMb:M≤100000:=by rw[←hM];exact HFH.out.2.2.2.2.1
 rw[hN]at hkc ⊢;try rw[hN]at qM
 try rw[hN]at qMn
 try rw[hN]at qn0
 try rw[hN]at qn0n
 rw[hM]at hxc ⊢;try rw[hM]at qM
 try rw[hM]at qMn
 try rw[hM]at qn0
 try rw[hM]at qn0n
 clear hN hM;obtain⟨W1,hW1⟩: ∃W,w.alloc (.cells #[.int .i64 F.kind,.string F.attr,.string F.value,.string F.first,.slice xa M xc,.string F.last,.slice ka N kc] 25)=W:=⟨_,rfl⟩;have hB1:Below w.heap.size w W1:=by rw[←hW1];exact(Below.refl _ _).alloc (Nat.le_refl _) _
 have HF1:Hid (R7 W1 w.heap.size (.int .i64 F.kind) (.string F.attr) (.string F.value) (.string F.first) (.slice xa M xc) (.string F.last) (.slice ka N kc)):=by rw[←hW1];exact r7_new _ _ _ _ _ _ _ _
 obtain⟨k0,k1,k2,k3,k4,k5,k6⟩:=r7_cells HF1.out;have HB1:=Lib.hid hB1;have hs1:=hB1.size;clear hB1;have HF2:=HF1;rw[hkd]at HF2 hW1 ⊢;clear HF1 k0 k1 k2 k3 k4 k5 k6 hkd;have HF1:=HF2;clear HF2;obtain⟨k0,k1,k2,k3,k4,k5,k6⟩:=r7_cells HF1.out;cases y3 with
 | false=>
  cases ya with
  | false=>go_enter Try.func32,Try.ntmps32;go_wp2_with fail;go_ret;exact⟨kt.ret_bool HR.out.symm,HB1.out⟩
  | true=>
   cases yb with
   | false=>go_enter Try.func32,Try.ntmps32;go_wp2_with fail;go_ret;exact⟨kt.ret_bool HR.out.symm,HB1.out⟩
   | true=>go_enter Try.func32,Try.ntmps32;go_wp2_with fail;go_ret;exact⟨kt.ret_bool HR.out.symm,HB1.out⟩
 | true=>
  cases yM with
  | true=>
   cases ya with
   | false=>go_enter Try.func32,Try.ntmps32;go_wp2_with fail;go_ret;exact⟨kt.ret_bool HR.out.symm,HB1.out⟩
   | true=>
    cases yb with
    | false=>go_enter Try.func32,Try.ntmps32;go_wp2_with fail;go_ret;exact⟨kt.ret_bool HR.out.symm,HB1.out⟩
    | true=>go_enter Try.func32,Try.ntmps32;go_wp2_with fail;go_ret;exact⟨kt.ret_bool HR.out.symm,HB1.out⟩
  | false=>
   cases y5 with
   | false=>
    cases ya with
    | false=>go_enter Try.func32,Try.ntmps32;go_wp2_with fail;go_ret;exact⟨kt.ret_bool HR.out.symm,HB1.out⟩
    | true=>
     cases yb with
     | false=>go_enter Try.func32,Try.ntmps32;go_wp2_with fail;go_ret;exact⟨kt.ret_bool HR.out.symm,HB1.out⟩
     | true=>go_enter Try.func32,Try.ntmps32;go_wp2_with fail;go_ret;exact⟨kt.ret_bool HR.out.symm,HB1.out⟩
   | true=>
    cases ya with
    | false=>go_enter Try.func32,Try.ntmps32;go_wp2_with fail;go_ret;exact⟨kt.ret_bool HR.out.symm,HB1.out⟩
    | true=>
     cases yb with
     | false=>go_enter Try.func32,Try.ntmps32;go_wp2_with fail;go_ret;exact⟨kt.ret_bool HR.out.symm,HB1.out⟩
     | true=>
      cases yn0 with
      | false=>go_enter Try.func32,Try.ntmps32;go_wp2_with fail;go_ret;exact⟨kt.ret_bool HR.out.symm,HB1.out⟩
      | true=>go_enter Try.func32,Try.ntmps32;go_wp2_with fail;go_ret;exact⟨kt.ret_bool HR.out.symm,HB1.out⟩
end flw
open Go.RowKit
namespace flw
open flp atp atw etp etw
open tupw (Strs strs_below)
theorem one_k4 (F:Fl)(v:Value)(w:World)(hv:Hid (FlX w v F))(hf:Hid (FitX F))(hkd:F.kind=4):
  Calls Try.prog 32 #[v] w fun e w'=>e= .returned (.bool (oneF F))∧Below w.heap.size w w':=by
 have HPI0:Hid (∀W,Below w.heap.size w W→Calls Try.prog 44 #[v] W fun e w'=>e= .returned (.bool (piecesF F))∧Below W.heap.size W w'):=fun W h=>pieces_any F v W (Lib.hid (flX_below hv.out h)) hf;have HR:=Lib.hid (rn4 F hkd);obtain⟨R,hR⟩: ∃R,oneF F=R:=⟨_,rfl⟩;rw[hR]at HR ⊢;clear hR;have q2:=isE_list F.value;generalize isE F.value=y2 at q2 HR;have q3:=isE_list F.first;generalize isE F.first=y3 at q3;have q5:=isE_list F.last;generalize isE F.last=y5 at q5;have qM:=(show decide ((0:Int)<(F.any.length:Int))=decide (0<F.any.length)from by rw[decide_eq_decide];omega);obtain⟨yM,qMn⟩: ∃b,decide (0<F.any.length)=b:=⟨_,rfl⟩;rw[qMn]at qM;have q8:=(show decide ((F.any.length:Int)≤8)=decide (F.any.length≤8)from by rw[decide_eq_decide];omega);obtain⟨y8,q8n⟩: ∃b,decide (F.any.length≤8)=b:=⟨_,rfl⟩;rw[q8n]at q8 HR;have qa:=(show decide ((1:Int)≤(F.attr.size:Int))=decide (1≤F.attr.size)from by rw[decide_eq_decide];omega);obtain⟨ya,qan⟩: ∃b,decide (1≤F.attr.size)=b:=⟨_,rfl⟩;rw[qan]at qa HR;have qb:=(show decide ((F.attr.size:Int)≤64)=decide (F.attr.size≤64)from by rw[decide_eq_decide];omega);obtain⟨yb,qbn⟩: ∃b,decide (F.attr.size≤64)=b:=⟨_,rfl⟩;rw[qbn]at qb HR;have qn0:=(show((F.kids.length:Int)==0)=decide (F.kids.length=0)from by rw[Bool.eq_iff_iff,beq_iff_eq,decide_eq_true_iff];omega);obtain⟨yn0,qn0n⟩: ∃b,decide (F.kids.length=0)=b:=⟨_,rfl⟩;rw[qn0n]at qn0 HR;generalize piecesF F=yp at HPI0 HR;obtain⟨xa,xc,ka,kc,rfl,HX,HK,hxc,hkc⟩:=flX_form hv.out;unfold flV;try unfold flV at HPI0
 try unfold flV at qM
 try unfold flV at qMn
 try unfold flV at q8
 try unfold flV at q8n
 try unfold flV at qn0
 try unfold flV at qn0n
 obtain⟨N,hN⟩: ∃N,F.kids.length=N:=⟨_,rfl⟩;have HN:=Lib.hid hN;obtain⟨M,hM⟩: ∃M,F.any.length=M:=⟨_,rfl⟩;have HM:=Lib.hid hM;have HFH:=Lib.hid (fitX_head hf.out);have hNb:N≤100000:=by rw[←hN];exact HFH.out.2.2.2.2.2.2
 have hMb:M≤100000:=by rw[←hM];exact HFH.out.2.2.2.2.1
 rw[hN]at hkc ⊢;try rw[hN]at HPI0
 try rw[hN]at qM
 try rw[hN]at qMn
 try rw[hN]at q8
 try rw[hN]at q8n
 try rw[hN]at qn0
 try rw[hN]at qn0n
 rw[hM]at hxc ⊢;try rw[hM]at HPI0
 try rw[hM]at qM
 try rw[hM]at qMn
 try rw[hM]at q8
 try rw[hM]at q8n
 try rw[hM]at qn0
 try rw[hM]at qn0n
 clear hN hM;obtain⟨W1,hW1⟩: ∃W,w.alloc (.cells #[.int .i64 F.kind,.string F.attr,.string F.value,.string F.first,.slice xa M xc,.string F.last,.slice ka N kc] 25)=W:=⟨_,rfl⟩;have hB1:Below w.heap.size w W1:=by rw[←hW1];exact(Below.refl _ _).alloc (Nat.le_refl _) _
 have HF1:Hid (R7 W1 w.heap.size (.int .i64 F.kind) (.string F.attr) (.string F.value) (.string F.first) (.slice xa M xc) (.string F.last) (.slice ka N kc)):=by rw[←hW1];exact r7_new _ _ _ _ _ _ _ _
 obtain⟨k0,k1,k2,k3,k4,k5,k6⟩:=r7_cells HF1.out;have HB1:=Lib.hid hB1;have hs1:=hB1.size;clear hB1;have HPI:=Lib.hid (HPI0.out W1 HB1.out);clear HPI0;have HF2:=HF1;rw[hkd]at HF2 HPI hW1 ⊢;clear HF1 k0 k1 k2 k3 k4 k5 k6 hkd;have HF1:=HF2;clear HF2;obtain⟨k0,k1,k2,k3,k4,k5,k6⟩:=r7_cells HF1.out;cases y3 with
 | false=>
  cases ya with
  | false=>go_enter Try.func32,Try.ntmps32;go_wp2_with fail;go_ret;exact⟨kt.ret_bool HR.out.symm,HB1.out⟩
  | true=>
   cases yb with
   | false=>go_enter Try.func32,Try.ntmps32;go_wp2_with fail;go_ret;exact⟨kt.ret_bool HR.out.symm,HB1.out⟩
   | true=>
    cases y2 with
    | false=>go_enter Try.func32,Try.ntmps32;go_wp2_with fail;go_ret;exact⟨kt.ret_bool HR.out.symm,HB1.out⟩
    | true=>
     cases yp with
     | false=>go_enter Try.func32,Try.ntmps32;go_wp2_with fail;refine HPI.out.mono ?_;rintro e w2 ⟨rfl,hB2⟩;have HB2:=Lib.hid (HB1.out.trans (hB2.mono hs1));have HF3:=Lib.hid (r7_below HF1.out hB2);clear hB2 k0 k1 k2 k3 k4 k5 k6;obtain⟨k0,k1,k2,k3,k4,k5,k6⟩:=r7_cells HF3.out;go_wp2_with fail;go_ret;exact⟨kt.ret_bool HR.out.symm,HB2.out⟩
     | true=>
      cases y8 with
      | false=>go_enter Try.func32,Try.ntmps32;go_wp2_with fail;refine HPI.out.mono ?_;rintro e w2 ⟨rfl,hB2⟩;have HB2:=Lib.hid (HB1.out.trans (hB2.mono hs1));have HF3:=Lib.hid (r7_below HF1.out hB2);clear hB2 k0 k1 k2 k3 k4 k5 k6;obtain⟨k0,k1,k2,k3,k4,k5,k6⟩:=r7_cells HF3.out;go_wp2_with fail;go_ret;exact⟨kt.ret_bool HR.out.symm,HB2.out⟩
      | true=>
       cases yn0 with
       | false=>go_enter Try.func32,Try.ntmps32;go_wp2_with fail;refine HPI.out.mono ?_;rintro e w2 ⟨rfl,hB2⟩;have HB2:=Lib.hid (HB1.out.trans (hB2.mono hs1));have HF3:=Lib.hid (r7_below HF1.out hB2);clear hB2 k0 k1 k2 k3 k4 k5 k6;obtain⟨k0,k1,k2,k3,k4,k5,k6⟩:=r7_cells HF3.out;go_wp2_with fail;go_ret;exact⟨kt.ret_bool HR.out.symm,HB2.out⟩
       | true=>go_enter Try.func32,Try.ntmps32;go_wp2_with fail;refine HPI.out.mono ?_;rintro e w2 ⟨rfl,hB2⟩;have HB2:=Lib.hid (HB1.out.trans (hB2.mono hs1));have HF3:=Lib.hid (r7_below HF1.out hB2);clear hB2 k0 k1 k2 k3 k4 k5 k6;obtain⟨k0,k1,k2,k3,k4,k5,k6⟩:=r7_cells HF3.out;go_wp2_with fail;go_ret;exact⟨kt.ret_bool HR.out.symm,HB2.out⟩
 | true=>
  cases yM with
  | true=>
   cases ya with
   | false=>go_enter Try.func32,Try.ntmps32;go_wp2_with fail;go_ret;exact⟨kt.ret_bool HR.out.symm,HB1.out⟩
   | true=>
    cases yb with
    | false=>go_enter Try.func32,Try.ntmps32;go_wp2_with fail;go_ret;exact⟨kt.ret_bool HR.out.symm,HB1.out⟩
    | true=>
     cases y2 with
     | false=>go_enter Try.func32,Try.ntmps32;go_wp2_with fail;go_ret;exact⟨kt.ret_bool HR.out.symm,HB1.out⟩
     | true=>
      cases yp with
      | false=>go_enter Try.func32,Try.ntmps32;go_wp2_with fail;refine HPI.out.mono ?_;rintro e w2 ⟨rfl,hB2⟩;have HB2:=Lib.hid (HB1.out.trans (hB2.mono hs1));have HF3:=Lib.hid (r7_below HF1.out hB2);clear hB2 k0 k1 k2 k3 k4 k5 k6;obtain⟨k0,k1,k2,k3,k4,k5,k6⟩:=r7_cells HF3.out;go_wp2_with fail;go_ret;exact⟨kt.ret_bool HR.out.symm,HB2.out⟩
      | true=>
       cases y8 with
       | false=>go_enter Try.func32,Try.ntmps32;go_wp2_with fail;refine HPI.out.mono ?_;rintro e w2 ⟨rfl,hB2⟩;have HB2:=Lib.hid (HB1.out.trans (hB2.mono hs1));have HF3:=Lib.hid (r7_below HF1.out hB2);clear hB2 k0 k1 k2 k3 k4 k5 k6;obtain⟨k0,k1,k2,k3,k4,k5,k6⟩:=r7_cells HF3.out;go_wp2_with fail;go_ret;exact⟨kt.ret_bool HR.out.symm,HB2.out⟩
       | true=>
        cases yn0 with
        | false=>go_enter Try.func32,Try.ntmps32;go_wp2_with fail;refine HPI.out.mono ?_;rintro e w2 ⟨rfl,hB2⟩;have HB2:=Lib.hid (HB1.out.trans (hB2.mono hs1));have HF3:=Lib.hid (r7_below HF1.out hB2);clear hB2 k0 k1 k2 k3 k4 k5 k6;obtain⟨k0,k1,k2,k3,k4,k5,k6⟩:=r7_cells HF3.out;go_wp2_with fail;go_ret;exact⟨kt.ret_bool HR.out.symm,HB2.out⟩
        | true=>go_enter Try.func32,Try.ntmps32;go_wp2_with fail;refine HPI.out.mono ?_;rintro e w2 ⟨rfl,hB2⟩;have HB2:=Lib.hid (HB1.out.trans (hB2.mono hs1));have HF3:=Lib.hid (r7_below HF1.out hB2);clear hB2 k0 k1 k2 k3 k4 k5 k6;obtain⟨k0,k1,k2,k3,k4,k5,k6⟩:=r7_cells HF3.out;go_wp2_with fail;go_ret;exact⟨kt.ret_bool HR.out.symm,HB2.out⟩
  | false=>
   cases y5 with
   | false=>
    cases ya with
    | false=>go_enter Try.func32,Try.ntmps32;go_wp2_with fail;go_ret;exact⟨kt.ret_bool HR.out.symm,HB1.out⟩
    | true=>
     cases yb with
     | false=>go_enter Try.func32,Try.ntmps32;go_wp2_with fail;go_ret;exact⟨kt.ret_bool HR.out.symm,HB1.out⟩
     | true=>
      cases y2 with
      | false=>go_enter Try.func32,Try.ntmps32;go_wp2_with fail;go_ret;exact⟨kt.ret_bool HR.out.symm,HB1.out⟩
      | true=>
       cases yp with
       | false=>go_enter Try.func32,Try.ntmps32;go_wp2_with fail;refine HPI.out.mono ?_;rintro e w2 ⟨rfl,hB2⟩;have HB2:=Lib.hid (HB1.out.trans (hB2.mono hs1));have HF3:=Lib.hid (r7_below HF1.out hB2);clear hB2 k0 k1 k2 k3 k4 k5 k6;obtain⟨k0,k1,k2,k3,k4,k5,k6⟩:=r7_cells HF3.out;go_wp2_with fail;go_ret;exact⟨kt.ret_bool HR.out.symm,HB2.out⟩
       | true=>
        cases y8 with
        | false=>go_enter Try.func32,Try.ntmps32;go_wp2_with fail;refine HPI.out.mono ?_;rintro e w2 ⟨rfl,hB2⟩;have HB2:=Lib.hid (HB1.out.trans (hB2.mono hs1));have HF3:=Lib.hid (r7_below HF1.out hB2);clear hB2 k0 k1 k2 k3 k4 k5 k6;obtain⟨k0,k1,k2,k3,k4,k5,k6⟩:=r7_cells HF3.out;go_wp2_with fail;go_ret;exact⟨kt.ret_bool HR.out.symm,HB2.out⟩
        | true=>
         cases yn0 with
         | false=>go_enter Try.func32,Try.ntmps32;go_wp2_with fail;refine HPI.out.mono ?_;rintro e w2 ⟨rfl,hB2⟩;have HB2:=Lib.hid (HB1.out.trans (hB2.mono hs1));have HF3:=Lib.hid (r7_below HF1.out hB2);clear hB2 k0 k1 k2 k3 k4 k5 k6;obtain⟨k0,k1,k2,k3,k4,k5,k6⟩:=r7_cells HF3.out;go_wp2_with fail;go_ret;exact⟨kt.ret_bool HR.out.symm,HB2.out⟩
         | true=>go_enter Try.func32,Try.ntmps32;go_wp2_with fail;refine HPI.out.mono ?_;rintro e w2 ⟨rfl,hB2⟩;have HB2:=Lib.hid (HB1.out.trans (hB2.mono hs1));have HF3:=Lib.hid (r7_below HF1.out hB2);clear hB2 k0 k1 k2 k3 k4 k5 k6;obtain⟨k0,k1,k2,k3,k4,k5,k6⟩:=r7_cells HF3.out;go_wp2_with fail;go_ret;exact⟨kt.ret_bool HR.out.symm,HB2.out⟩
   | true=>
    cases ya with
    | false=>go_enter Try.func32,Try.ntmps32;go_wp2_with fail;go_ret;exact⟨kt.ret_bool HR.out.symm,HB1.out⟩
    | true=>
     cases yb with
     | false=>go_enter Try.func32,Try.ntmps32;go_wp2_with fail;go_ret;exact⟨kt.ret_bool HR.out.symm,HB1.out⟩
     | true=>
      cases y2 with
      | false=>go_enter Try.func32,Try.ntmps32;go_wp2_with fail;go_ret;exact⟨kt.ret_bool HR.out.symm,HB1.out⟩
      | true=>
       cases yp with
       | false=>go_enter Try.func32,Try.ntmps32;go_wp2_with fail;refine HPI.out.mono ?_;rintro e w2 ⟨rfl,hB2⟩;have HB2:=Lib.hid (HB1.out.trans (hB2.mono hs1));have HF3:=Lib.hid (r7_below HF1.out hB2);clear hB2 k0 k1 k2 k3 k4 k5 k6;obtain⟨k0,k1,k2,k3,k4,k5,k6⟩:=r7_cells HF3.out;go_wp2_with fail;go_ret;exact⟨kt.ret_bool HR.out.symm,HB2.out⟩
       | true=>
        cases y8 with
        | false=>go_enter Try.func32,Try.ntmps32;go_wp2_with fail;refine HPI.out.mono ?_;rintro e w2 ⟨rfl,hB2⟩;have HB2:=Lib.hid (HB1.out.trans (hB2.mono hs1));have HF3:=Lib.hid (r7_below HF1.out hB2);clear hB2 k0 k1 k2 k3 k4 k5 k6;obtain⟨k0,k1,k2,k3,k4,k5,k6⟩:=r7_cells HF3.out;go_wp2_with fail;go_ret;exact⟨kt.ret_bool HR.out.symm,HB2.out⟩
        | true=>
         cases yn0 with
         | false=>go_enter Try.func32,Try.ntmps32;go_wp2_with fail;refine HPI.out.mono ?_;rintro e w2 ⟨rfl,hB2⟩;have HB2:=Lib.hid (HB1.out.trans (hB2.mono hs1));have HF3:=Lib.hid (r7_below HF1.out hB2);clear hB2 k0 k1 k2 k3 k4 k5 k6;obtain⟨k0,k1,k2,k3,k4,k5,k6⟩:=r7_cells HF3.out;go_wp2_with fail;go_ret;exact⟨kt.ret_bool HR.out.symm,HB2.out⟩
         | true=>go_enter Try.func32,Try.ntmps32;go_wp2_with fail;refine HPI.out.mono ?_;rintro e w2 ⟨rfl,hB2⟩;have HB2:=Lib.hid (HB1.out.trans (hB2.mono hs1));have HF3:=Lib.hid (r7_below HF1.out hB2);clear hB2 k0 k1 k2 k3 k4 k5 k6;obtain⟨k0,k1,k2,k3,k4,k5,k6⟩:=r7_cells HF3.out;go_wp2_with fail;go_ret;exact⟨kt.ret_bool HR.out.symm,HB2.out⟩
end flw
open Go.RowKit
namespace flw
open flp atp atw etp etw
open tupw (Strs strs_below)
theorem one_k7 (F:Fl)(v:Value)(w:World)(hv:Hid (FlX w v F))(hf:Hid (FitX F))(hkd:F.kind=7):
  Calls Try.prog 32 #[v] w fun e w'=>e= .returned (.bool (oneF F))∧Below w.heap.size w w':=by
 have HR:=Lib.hid (rn7 F hkd);obtain⟨R,hR⟩: ∃R,oneF F=R:=⟨_,rfl⟩;rw[hR]at HR ⊢;clear hR;have q2:=isE_list F.value;generalize isE F.value=y2 at q2 HR;have q3:=isE_list F.first;generalize isE F.first=y3 at q3 HR;have q5:=isE_list F.last;generalize isE F.last=y5 at q5 HR;have qM:=(show decide ((0:Int)<(F.any.length:Int))=decide (0<F.any.length)from by rw[decide_eq_decide];omega);obtain⟨yM,qMn⟩: ∃b,decide (0<F.any.length)=b:=⟨_,rfl⟩;rw[qMn]at qM HR;have qa:=(show decide ((1:Int)≤(F.attr.size:Int))=decide (1≤F.attr.size)from by rw[decide_eq_decide];omega);obtain⟨ya,qan⟩: ∃b,decide (1≤F.attr.size)=b:=⟨_,rfl⟩;rw[qan]at qa HR;have qb:=(show decide ((F.attr.size:Int)≤64)=decide (F.attr.size≤64)from by rw[decide_eq_decide];omega);obtain⟨yb,qbn⟩: ∃b,decide (F.attr.size≤64)=b:=⟨_,rfl⟩;rw[qbn]at qb HR;have qn0:=(show((F.kids.length:Int)==0)=decide (F.kids.length=0)from by rw[Bool.eq_iff_iff,beq_iff_eq,decide_eq_true_iff];omega);obtain⟨yn0,qn0n⟩: ∃b,decide (F.kids.length=0)=b:=⟨_,rfl⟩;rw[qn0n]at qn0 HR;obtain⟨xa,xc,ka,kc,rfl,HX,HK,hxc,hkc⟩:=flX_form hv.out;unfold flV;try unfold flV at qM
 try unfold flV at qMn
 try unfold flV at qn0
 try unfold flV at qn0n
 obtain⟨N,hN⟩: ∃N,F.kids.length=N:=⟨_,rfl⟩;have HN:=Lib.hid hN;obtain⟨M,hM⟩: ∃M,F.any.length=M:=⟨_,rfl⟩;have HM:=Lib.hid hM;have HFH:=Lib.hid (fitX_head hf.out);have hNb:N≤100000:=by rw[←hN];exact HFH.out.2.2.2.2.2.2
 have hMb:M≤100000:=by rw[←hM];exact HFH.out.2.2.2.2.1
 rw[hN]at hkc ⊢;try rw[hN]at qM
 try rw[hN]at qMn
 try rw[hN]at qn0
 try rw[hN]at qn0n
 rw[hM]at hxc ⊢;try rw[hM]at qM
 try rw[hM]at qMn
 try rw[hM]at qn0
 try rw[hM]at qn0n
 clear hN hM;obtain⟨W1,hW1⟩: ∃W,w.alloc (.cells #[.int .i64 F.kind,.string F.attr,.string F.value,.string F.first,.slice xa M xc,.string F.last,.slice ka N kc] 25)=W:=⟨_,rfl⟩;have hB1:Below w.heap.size w W1:=by rw[←hW1];exact(Below.refl _ _).alloc (Nat.le_refl _) _
 have HF1:Hid (R7 W1 w.heap.size (.int .i64 F.kind) (.string F.attr) (.string F.value) (.string F.first) (.slice xa M xc) (.string F.last) (.slice ka N kc)):=by rw[←hW1];exact r7_new _ _ _ _ _ _ _ _
 obtain⟨k0,k1,k2,k3,k4,k5,k6⟩:=r7_cells HF1.out;have HB1:=Lib.hid hB1;have hs1:=hB1.size;clear hB1;have HF2:=HF1;rw[hkd]at HF2 hW1 ⊢;clear HF1 k0 k1 k2 k3 k4 k5 k6 hkd;have HF1:=HF2;clear HF2;obtain⟨k0,k1,k2,k3,k4,k5,k6⟩:=r7_cells HF1.out;cases y3 with
 | false=>
  cases ya with
  | false=>go_enter Try.func32,Try.ntmps32;go_wp2_with fail;go_ret;exact⟨kt.ret_bool HR.out.symm,HB1.out⟩
  | true=>
   cases yb with
   | false=>go_enter Try.func32,Try.ntmps32;go_wp2_with fail;go_ret;exact⟨kt.ret_bool HR.out.symm,HB1.out⟩
   | true=>
    cases y2 with
    | false=>go_enter Try.func32,Try.ntmps32;go_wp2_with fail;go_ret;exact⟨kt.ret_bool HR.out.symm,HB1.out⟩
    | true=>go_enter Try.func32,Try.ntmps32;go_wp2_with fail;go_ret;exact⟨kt.ret_bool HR.out.symm,HB1.out⟩
 | true=>
  cases yM with
  | true=>
   cases ya with
   | false=>go_enter Try.func32,Try.ntmps32;go_wp2_with fail;go_ret;exact⟨kt.ret_bool HR.out.symm,HB1.out⟩
   | true=>
    cases yb with
    | false=>go_enter Try.func32,Try.ntmps32;go_wp2_with fail;go_ret;exact⟨kt.ret_bool HR.out.symm,HB1.out⟩
    | true=>
     cases y2 with
     | false=>go_enter Try.func32,Try.ntmps32;go_wp2_with fail;go_ret;exact⟨kt.ret_bool HR.out.symm,HB1.out⟩
     | true=>go_enter Try.func32,Try.ntmps32;go_wp2_with fail;go_ret;exact⟨kt.ret_bool HR.out.symm,HB1.out⟩
  | false=>
   cases y5 with
   | false=>
    cases ya with
    | false=>go_enter Try.func32,Try.ntmps32;go_wp2_with fail;go_ret;exact⟨kt.ret_bool HR.out.symm,HB1.out⟩
    | true=>
     cases yb with
     | false=>go_enter Try.func32,Try.ntmps32;go_wp2_with fail;go_ret;exact⟨kt.ret_bool HR.out.symm,HB1.out⟩
     | true=>
      cases y2 with
      | false=>go_enter Try.func32,Try.ntmps32;go_wp2_with fail;go_ret;exact⟨kt.ret_bool HR.out.symm,HB1.out⟩
      | true=>go_enter Try.func32,Try.ntmps32;go_wp2_with fail;go_ret;exact⟨kt.ret_bool HR.out.symm,HB1.out⟩
   | true=>
    cases ya with
    | false=>go_enter Try.func32,Try.ntmps32;go_wp2_with fail;go_ret;exact⟨kt.ret_bool HR.out.symm,HB1.out⟩
    | true=>
     cases yb with
     | false=>go_enter Try.func32,Try.ntmps32;go_wp2_with fail;go_ret;exact⟨kt.ret_bool HR.out.symm,HB1.out⟩
     | true=>
      cases y2 with
      | false=>go_enter Try.func32,Try.ntmps32;go_wp2_with fail;go_ret;exact⟨kt.ret_bool HR.out.symm,HB1.out⟩
      | true=>
       cases yn0 with
       | false=>go_enter Try.func32,Try.ntmps32;go_wp2_with fail;go_ret;exact⟨kt.ret_bool HR.out.symm,HB1.out⟩
       | true=>go_enter Try.func32,Try.ntmps32;go_wp2_with fail;go_ret;exact⟨kt.ret_bool HR.out.symm,HB1.out⟩
theorem one_kn (F:Fl)(v:Value)(w:World)(hv:Hid (FlX w v F))(hf:Hid (FitX F))(hk: ¬ (0≤F.kind∧F.kind≤8)):
  Calls Try.prog 32 #[v] w fun e w'=>e= .returned (.bool (oneF F))∧Below w.heap.size w w':=by
 have HR:=Lib.hid (rn_no F hk);obtain⟨R,hR⟩: ∃R,oneF F=R:=⟨_,rfl⟩;rw[hR]at HR ⊢;clear hR;have q3:=isE_list F.first;generalize isE F.first=y3 at q3;have q5:=isE_list F.last;generalize isE F.last=y5 at q5;have qM:=(show decide ((0:Int)<(F.any.length:Int))=decide (0<F.any.length)from by rw[decide_eq_decide];omega);obtain⟨yM,qMn⟩: ∃b,decide (0<F.any.length)=b:=⟨_,rfl⟩;rw[qMn]at qM;obtain⟨xa,xc,ka,kc,rfl,HX,HK,hxc,hkc⟩:=flX_form hv.out;unfold flV;try unfold flV at qM
 try unfold flV at qMn
 obtain⟨N,hN⟩: ∃N,F.kids.length=N:=⟨_,rfl⟩;have HN:=Lib.hid hN;obtain⟨M,hM⟩: ∃M,F.any.length=M:=⟨_,rfl⟩;have HM:=Lib.hid hM;have HFH:=Lib.hid (fitX_head hf.out);have hNb:N≤100000:=by rw[←hN];exact HFH.out.2.2.2.2.2.2
 have hMb:M≤100000:=by rw[←hM];exact HFH.out.2.2.2.2.1
 rw[hN]at hkc ⊢;try rw[hN]at qM
 try rw[hN]at qMn
 rw[hM]at hxc ⊢;try rw[hM]at qM
 try rw[hM]at qMn
 clear hN hM;obtain⟨W1,hW1⟩: ∃W,w.alloc (.cells #[.int .i64 F.kind,.string F.attr,.string F.value,.string F.first,.slice xa M xc,.string F.last,.slice ka N kc] 25)=W:=⟨_,rfl⟩;have hB1:Below w.heap.size w W1:=by rw[←hW1];exact(Below.refl _ _).alloc (Nat.le_refl _) _
 have HF1:Hid (R7 W1 w.heap.size (.int .i64 F.kind) (.string F.attr) (.string F.value) (.string F.first) (.slice xa M xc) (.string F.last) (.slice ka N kc)):=by rw[←hW1];exact r7_new _ _ _ _ _ _ _ _
 obtain⟨k0,k1,k2,k3,k4,k5,k6⟩:=r7_cells HF1.out;have HB1:=Lib.hid hB1;have hs1:=hB1.size;clear hB1;obtain⟨kd,hkd⟩: ∃k,F.kind=k:=⟨_,rfl⟩;have HF2:=HF1;rw[hkd]at HF2 hk hW1 ⊢;clear HF1 k0 k1 k2 k3 k4 k5 k6 hkd;have HF1:=HF2;clear HF2;obtain⟨k0,k1,k2,k3,k4,k5,k6⟩:=r7_cells HF1.out;have d0:(kd==0)=false:=by rw[beq_eq_false_iff_ne];omega
 have d1:(kd==1)=false:=by rw[beq_eq_false_iff_ne];omega
 have d2:(kd==2)=false:=by rw[beq_eq_false_iff_ne];omega
 have d3:(kd==3)=false:=by rw[beq_eq_false_iff_ne];omega
 have d4:(kd==4)=false:=by rw[beq_eq_false_iff_ne];omega
 have d5:(kd==5)=false:=by rw[beq_eq_false_iff_ne];omega
 have d6:(kd==6)=false:=by rw[beq_eq_false_iff_ne];omega
 have d7:(kd==7)=false:=by rw[beq_eq_false_iff_ne];omega
 have d8:(kd==8)=false:=by rw[beq_eq_false_iff_ne];omega
 clear hk;cases y3 with
 | false=>go_enter Try.func32,Try.ntmps32;go_wp2_with fail;go_ret;exact⟨kt.ret_bool HR.out.symm,HB1.out⟩
 | true=>
  cases yM with
  | true=>go_enter Try.func32,Try.ntmps32;go_wp2_with fail;go_ret;exact⟨kt.ret_bool HR.out.symm,HB1.out⟩
  | false=>
   cases y5 with
   | false=>go_enter Try.func32,Try.ntmps32;go_wp2_with fail;go_ret;exact⟨kt.ret_bool HR.out.symm,HB1.out⟩
   | true=>go_enter Try.func32,Try.ntmps32;go_wp2_with fail;go_ret;exact⟨kt.ret_bool HR.out.symm,HB1.out⟩
end flw
open Go.RowKit
namespace flw
open flp atp atw etp etw
open tupw (Strs strs_below)
theorem one_any (F:Fl)(v:Value)(w:World)(hv:Hid (FlX w v F))(hf:Hid (FitX F)):
  Calls Try.prog 32 #[v] w fun e w'=>e= .returned (.bool (oneF F))∧Below w.heap.size w w':=by
 by_cases hk:0≤F.kind∧F.kind≤8
 ·have hkk:F.kind=0∨F.kind=1∨F.kind=2∨F.kind=3∨F.kind=4∨F.kind=5∨F.kind=6∨F.kind=7∨F.kind=8:=by omega
  rcases hkk with h | h | h | h | h | h | h | h | h
  ·exact one_k0 F v w hv hf h
  ·exact one_k1 F v w hv hf h
  ·exact one_k2 F v w hv hf h
  ·exact one_k3 F v w hv hf h
  ·exact one_k4 F v w hv hf h
  ·exact one_k5 F v w hv hf h
  ·exact one_k6 F v w hv hf h
  ·exact one_k7 F v w hv hf h
  ·exact one_k8 F v w hv hf h
 ·exact one_kn F v w hv hf hk
def RCnt (o:Option Nat)(e:Ending):Prop:=match o with
 | some r=>e= .returned (.tuple #[.int .i64 ((40-r:Nat):Int),.bool true])
 | none=> ∃m:Int,e= .returned (.tuple #[.int .i64 m,.bool false])
theorem cntR_zero (d:Nat)(F:Fl):cntR d F 0=none:=by cases d<;>rfl
theorem cntR_one {d m:Nat}{F:Fl}(h:oneF F=true):cntR (d+1) F (m+1)=F.kids.foldlM (fun l k=>cntR d k l) m:=by show(if oneF F=true then _ else none)=_;rw[if_pos h]
theorem cntR_no {d m:Nat}{F:Fl}(h:oneF F=false):cntR (d+1) F (m+1)=none:=by show(if oneF F=true then _ else none)=_;rw[if_neg (by rw[h];decide)]
theorem fold_step {d m i:Nat}{l:List Fl}(hi:i<l.length):(l.drop i).foldlM (fun l k=>cntR d k l) m=match cntR d l[i] m with
  | some r=>(l.drop (i+1)).foldlM (fun l k=>cntR d k l) r
  | none=>none:=by
 rw[List.drop_eq_getElem_cons hi,List.foldlM_cons];cases cntR d l[i] m<;>rfl
theorem rcount_any: ∀ (d:Nat) (F:Fl) (v:Value) (dp n:Nat) (w:World),dp+d=9→n≤40→Hid (FlX w v F)→Hid (FitX F)→
  Calls Try.prog 22 #[v,.int .i64 (dp:Int),.int .i64 (n:Int)] w fun e w'=>RCnt (cntR d F (40-n)) e∧Below w.heap.size w w':=by
 intro d;induction d with
 | zero=>
  intro F v dp n w hd hn hv hf;obtain rfl:dp=9:=by omega
  have HR:Hid (cntR 0 F (40-n)=none):=rfl;rw[HR.out];clear HR;obtain⟨xa,xc,ka,kc,rfl,HX,HK,hxc,hkc⟩:=flX_form hv.out;unfold flV;obtain⟨N,hN⟩: ∃N,F.kids.length=N:=⟨_,rfl⟩;have HN:=Lib.hid hN;obtain⟨M,hM⟩: ∃M,F.any.length=M:=⟨_,rfl⟩;have HM:=Lib.hid hM;have HFH:=Lib.hid (fitX_head hf.out);have hNb:N≤100000:=by rw[←hN];exact HFH.out.2.2.2.2.2.2
  have hMb:M≤100000:=by rw[←hM];exact HFH.out.2.2.2.2.1
  rw[hN]at hkc ⊢;rw[hM]at hxc ⊢;clear hN hM;obtain⟨W1,hW1⟩: ∃W,w.alloc (.cells #[.int .i64 F.kind,.string F.attr,.string F.value,.string F.first,.slice xa M xc,.string F.last,.slice ka N kc] 25)=W:=⟨_,rfl⟩;have hB1:Below w.heap.size w W1:=by rw[←hW1];exact(Below.refl _ _).alloc (Nat.le_refl _) _
  have HF1:Hid (R7 W1 w.heap.size (.int .i64 F.kind) (.string F.attr) (.string F.value) (.string F.first) (.slice xa M xc) (.string F.last) (.slice ka N kc)):=by rw[←hW1];exact r7_new _ _ _ _ _ _ _ _
  obtain⟨k0,k1,k2,k3,k4,k5,k6⟩:=r7_cells HF1.out;have HB1:=Lib.hid hB1;have hs1:=hB1.size;clear hB1;by_cases h40:(40:Int)<(n:Int)+1
  ·go_enter Try.func22,Try.ntmps22;go_wp2_with fail;go_ret2;exact⟨⟨_,rfl⟩,HB1.out⟩
  ·go_enter Try.func22,Try.ntmps22;go_wp2_with fail;go_ret2;exact⟨⟨_,rfl⟩,HB1.out⟩
 | succ d ih=>
  intro F v dp n w hd hn hv hf;have hdp: ¬ (8:Int)<(dp:Int):=by omega
  have hdp0:(dp:Int)≤8:=by omega
  have IH:Hid (∀ (G:Fl) (u:Value) (r:Nat) (W:World),r≤40→FlX W u G→FitX G→Calls Try.prog 22 #[u,.int .i64 ((dp:Int)+1),.int .i64 (r:Int)] W fun e w'=>RCnt (cntR d G (40-r)) e∧Below W.heap.size W w'):=by intro G u r W hr hu hg;have:=ih G u (dp+1) r W (by omega) hr (Lib.hid hu) (Lib.hid hg);rw[show((dp+1:Nat):Int)=(dp:Int)+1 from by omega]at this;exact this
  clear ih hd;have HO0:Hid (∀W,Below w.heap.size w W→Calls Try.prog 32 #[v] W fun e w'=>e= .returned (.bool (oneF F))∧Below W.heap.size W w'):=fun W h=>one_any F v W (Lib.hid (flX_below hv.out h)) hf;by_cases h40:n=40
  ·have HR:=Lib.hid (cntR_zero (d+1) F);rw[h40,show 40-40=0 from rfl,HR.out];clear HR h40 hn;obtain⟨xa,xc,ka,kc,rfl,HX,HK,hxc,hkc⟩:=flX_form hv.out;unfold flV;obtain⟨N,hN⟩: ∃N,F.kids.length=N:=⟨_,rfl⟩;have HN:=Lib.hid hN;obtain⟨M,hM⟩: ∃M,F.any.length=M:=⟨_,rfl⟩;have HM:=Lib.hid hM;have HFH:=Lib.hid (fitX_head hf.out);have hNb:N≤100000:=(by rw[←hN];exact HFH.out.2.2.2.2.2.2);have hMb:M≤100000:=(by rw[←hM];exact HFH.out.2.2.2.2.1);rw[hN]at hkc ⊢;rw[hM]at hxc ⊢;clear hN hM;obtain⟨W1,hW1⟩: ∃W,w.alloc (.cells #[.int .i64 F.kind,.string F.attr,.string F.value,.string F.first,.slice xa M xc,.string F.last,.slice ka N kc] 25)=W:=⟨_,rfl⟩;have hB1:Below w.heap.size w W1:=(by rw[←hW1];exact(Below.refl _ _).alloc (Nat.le_refl _) _);have HF1:Hid (R7 W1 w.heap.size (.int .i64 F.kind) (.string F.attr) (.string F.value) (.string F.first) (.slice xa M xc) (.string F.last) (.slice ka N kc)):=(by rw[←hW1];exact r7_new _ _ _ _ _ _ _ _);obtain⟨k0,k1,k2,k3,k4,k5,k6⟩:=r7_cells HF1.out;have HB1:=Lib.hid hB1;have hs1:=hB1.size;clear hB1;go_enter Try.func22,Try.ntmps22;go_wp2_with fail;go_ret2;exact⟨⟨_,rfl⟩,HB1.out⟩
  ·obtain⟨m,hm⟩: ∃m,40-n=m+1:=⟨40-n-1,by omega⟩;have HR1:=Lib.hid (fun h=>cntR_one (d:=d) (m:=m) (F:=F) h);have HR0:=Lib.hid (fun h=>cntR_no (d:=d) (m:=m) (F:=F) h);obtain⟨R,hR⟩: ∃R,cntR (d+1) F (40-n)=R:=⟨_,rfl⟩;rw[←hm,hR]at HR1 HR0;rw[hR];obtain⟨n1,hn1⟩: ∃x,n+1=x:=⟨_,rfl⟩;have en:(n:Int)+1=(n1:Int):=(by omega);have hn41: ¬ (40:Int)<(n1:Int):=(by omega);have hn42:n1≤40:=(by omega);have HM1:Hid (m=40-n1):=(by show _=_;omega);clear hR hm h40 hn1;obtain⟨xa,xc,ka,kc,rfl,HX,HK,hxc,hkc⟩:=flX_form hv.out;unfold flV;try unfold flV at HO0
   obtain⟨N,hN⟩: ∃N,F.kids.length=N:=⟨_,rfl⟩;have HN:=Lib.hid hN;obtain⟨M,hM⟩: ∃M,F.any.length=M:=⟨_,rfl⟩;have HM:=Lib.hid hM;have HFH:=Lib.hid (fitX_head hf.out);have hNb:N≤100000:=(by rw[←hN];exact HFH.out.2.2.2.2.2.2);have hMb:M≤100000:=(by rw[←hM];exact HFH.out.2.2.2.2.1);rw[hN]at hkc ⊢;try rw[hN]at HO0
   rw[hM]at hxc ⊢;try rw[hM]at HO0
   clear hN hM;obtain⟨W1,hW1⟩: ∃W,w.alloc (.cells #[.int .i64 F.kind,.string F.attr,.string F.value,.string F.first,.slice xa M xc,.string F.last,.slice ka N kc] 25)=W:=⟨_,rfl⟩;have hB1:Below w.heap.size w W1:=(by rw[←hW1];exact(Below.refl _ _).alloc (Nat.le_refl _) _);have HF1:Hid (R7 W1 w.heap.size (.int .i64 F.kind) (.string F.attr) (.string F.value) (.string F.first) (.slice xa M xc) (.string F.last) (.slice ka N kc)):=(by rw[←hW1];exact r7_new _ _ _ _ _ _ _ _);obtain⟨k0,k1,k2,k3,k4,k5,k6⟩:=r7_cells HF1.out;have HB1:=Lib.hid hB1;have hs1:=hB1.size;clear hB1;have HO:=Lib.hid (HO0.out W1 HB1.out);clear HO0;obtain⟨ob,hob⟩: ∃b,oneF F=b:=⟨_,rfl⟩;rw[hob]at HO;have HOB:=Lib.hid hob;clear hob;cases ob with
   | false=>have HR:Hid (R=none):=HR0.out HOB.out;go_enter Try.func22,Try.ntmps22;go_wp2_with fail;refine HO.out.mono ?_;rintro e w2 ⟨rfl,hB2⟩;have HB2:=Lib.hid (HB1.out.trans (hB2.mono hs1));clear hB2 k0 k1 k2 k3 k4 k5 k6;go_wp2_with fail;go_ret2;exact⟨by rw[HR.out];exact⟨_,rfl⟩,HB2.out⟩
   | true=>
    have HR:Hid (R=F.kids.foldlM (fun l k=>cntR d k l) m):=HR1.out HOB.out;go_enter Try.func22,Try.ntmps22;go_wp2_with fail;refine HO.out.mono ?_;rintro e w2 ⟨rfl,hB2⟩;have HB2:=Lib.hid (HB1.out.trans (hB2.mono hs1));have HF2:=Lib.hid (r7_below HF1.out hB2);clear hB2 k0 k1 k2 k3 k4 k5 k6 HO;obtain⟨k0,k1,k2,k3,k4,k5,k6⟩:=r7_cells HF2.out;go_wp2_with fail;clear k0 k1 k2 k3 k4 k5 k6;go_loopw [2,8] (fun lv iv wr=> ∃ (i r:Nat),i≤N∧r≤40∧lv= .int .i64 (r:Int)∧iv= .int .i64 (i:Int)∧Hid (Below w.heap.size w wr)∧Hid (R7 wr w.heap.size (.int .i64 F.kind) (.string F.attr) (.string F.value) (.string F.first) (.slice xa M xc) (.string F.last) (.slice ka N kc))∧Hid (R=(F.kids.drop i).foldlM (fun l k=>cntR d k l) (40-r))) (fun _ iv _=>N- (intOf iv).toNat);case atStart=>exact⟨0,n1,Nat.zero_le _,hn42,rfl,rfl,HB2.out,HF2.out,by rw[HR.out,HM1.out];rfl⟩
    case round=>
     obtain⟨i,r,hi,hr,rfl,rfl,hB,hT,hJ⟩:=hrel;have HBw:=hB;have hsw:=hB.out.size;clear hB;obtain⟨k0,k1,k2,k3,k4,k5,k6⟩:=r7_cells hT.out;by_cases hlt:i<N
     ·have hltI:(i:Int)<(N:Int):=(by omega);have hil:i<F.kids.length:=(by rw[HN.out];exact hlt);obtain⟨b,o,ya,yc,la,lc,hao,hc,hkX⟩:=kidsX_at (kidsX_below HK.out HBw.out) i hil;subst hao;have HFK:=Lib.hid (fitX_kid hf.out (List.getElem_mem hil));obtain⟨G,hG⟩: ∃G,F.kids[i]=G:=⟨_,rfl⟩;have HG:=Lib.hid hG;rw[hG]at hc hkX HFK;clear hG;unfold flV at hkX;generalize G.any.length=m' at hc hkX;generalize G.kids.length=n' at hc hkX;obtain⟨c0,c1,c2,c3,c4,c5,c6⟩:=hc;have HKX:=Lib.hid hkX;clear hkX;have HST:=Lib.hid (fold_step (d:=d) (m:=40-r) hil);rw[HG.out]at HST;have HC:Hid (Calls Try.prog 22 #[.agg #[.int .i64 G.kind,.string G.attr,.string G.value,.string G.first,.slice ya m' yc,.string G.last,.slice la n' lc],.int .i64 ((dp:Int)+1),.int .i64 (r:Int)] wr fun e w'=>RCnt (cntR d G (40-r)) e∧Below wr.heap.size wr w'):=IH.out G _ r wr hr HKX.out HFK.out;have HLE:=Lib.hid (fun q h=>cntR_le (d:=d) (m:=40-r) (r:=q) (F:=G) h);cases hq:cntR d G (40-r)with
      | none=>rw[hq]at HST HC;have HR2:Hid (R=none):=hJ.out.trans HST.out;clear hq;go_wp2_with fail;refine HC.out.mono ?_;rintro e w3 ⟨⟨mm,rfl⟩,hB3⟩;have HB3:=Lib.hid (HBw.out.trans (hB3.mono hsw));clear hB3 c0 c1 c2 c3 c4 c5 c6 k0 k1 k2 k3 k4 k5 k6;go_wp2_with fail;go_ret2;exact⟨by rw[HR2.out];exact⟨_,rfl⟩,HB3.out⟩
      | some r2=>
       rw[hq]at HST HC;have hle:=HLE.out r2 hq;have HR2:Hid (R=(F.kids.drop (i+1)).foldlM (fun l k=>cntR d k l) r2):=hJ.out.trans HST.out;obtain⟨r3,hr3⟩: ∃x,40-r2=x:=⟨_,rfl⟩;have HR3:Hid (r2=40-r3):=(by show _=_;omega);have hr40:r3≤40:=(by omega);have HC2:Hid (Calls Try.prog 22 #[.agg #[.int .i64 G.kind,.string G.attr,.string G.value,.string G.first,.slice ya m' yc,.string G.last,.slice la n' lc],.int .i64 ((dp:Int)+1),.int .i64 (r:Int)] wr fun e w'=>e= .returned (.tuple #[.int .i64 (r3:Int),.bool true])∧Below wr.heap.size wr w'):=(by rw[←hr3];exact HC.out);clear hq hr3 hle HC;go_wp2_with fail;refine HC2.out.mono ?_;rintro e w3 ⟨rfl,hB3⟩;have HB3:=Lib.hid (HBw.out.trans (hB3.mono hsw));have HT3:=Lib.hid (r7_below hT.out hB3);clear hB3 c0 c1 c2 c3 c4 c5 c6 k0 k1 k2 k3 k4 k5 k6;go_wp2_with fail;go_roundw;case rel=>exact⟨i+1,r3,by omega,hr40,rfl,by go_num,HB3.out,HT3.out,by rw[HR2.out,HR3.out];rfl⟩
       case measure=>simp[intOf];omega
     ·obtain rfl:N=i:=(by omega);have HR2:Hid (R=some (40-r)):=(by show _=_;rw[hJ.out,←HN.out,List.drop_length];rfl);go_wp2_with fail;go_ret2;refine⟨?_,HBw.out⟩;rw[HR2.out];show _=Ending.returned (.tuple #[.int .i64 ((40- (40-r):Nat):Int),.bool true]);rw[show 40- (40-r)=r from by omega];rfl
theorem rright19_any (F:Fl)(v:Value)(w:World)(hv:Hid (FlX w v F))(hf:Hid (FitX F)):
  Calls Try.prog 13 #[v] w fun e w'=>e= .returned (.bool (rightF F))∧Below w.heap.size w w':=by
 have HC0:Hid (∀W,Below w.heap.size w W→Calls Try.prog 22 #[v,.int .i64 1,.int .i64 0] W fun e w'=>(∃m:Int,e= .returned (.tuple #[.int .i64 m,.bool (rightF F)]))∧Below W.heap.size W w'):=by
  intro W h;refine(rcount_any 8 F v 1 0 W rfl (by omega) (Lib.hid (flX_below hv.out h)) hf).mono fun e w' ⟨h1,h2⟩=>⟨?_,h2⟩;unfold rightF;cases hc:cntR 8 F 40 with
  | none=>rw[show 40-0=40 from rfl,hc]at h1;exact h1
  | some r=>rw[show 40-0=40 from rfl,hc]at h1;exact⟨_,h1⟩
 generalize rightF F=R at HC0 ⊢;obtain⟨xa,xc,ka,kc,rfl,HX,HK,hxc,hkc⟩:=flX_form hv.out;unfold flV;try unfold flV at HC0
 obtain⟨N,hN⟩: ∃N,F.kids.length=N:=⟨_,rfl⟩;have HN:=Lib.hid hN;obtain⟨M,hM⟩: ∃M,F.any.length=M:=⟨_,rfl⟩;have HM:=Lib.hid hM;have HFH:=Lib.hid (fitX_head hf.out);have hNb:N≤100000:=by rw[←hN];exact HFH.out.2.2.2.2.2.2
 have hMb:M≤100000:=by rw[←hM];exact HFH.out.2.2.2.2.1
 rw[hN]at hkc ⊢;try rw[hN]at HC0
 rw[hM]at hxc ⊢;try rw[hM]at HC0
 clear hN hM;obtain⟨W1,hW1⟩: ∃W,w.alloc (.cells #[.int .i64 F.kind,.string F.attr,.string F.value,.string F.first,.slice xa M xc,.string F.last,.slice ka N kc] 25)=W:=⟨_,rfl⟩;have hB1:Below w.heap.size w W1:=by rw[←hW1];exact(Below.refl _ _).alloc (Nat.le_refl _) _
 have HF1:Hid (R7 W1 w.heap.size (.int .i64 F.kind) (.string F.attr) (.string F.value) (.string F.first) (.slice xa M xc) (.string F.last) (.slice ka N kc)):=by rw[←hW1];exact r7_new _ _ _ _ _ _ _ _
 obtain⟨k0,k1,k2,k3,k4,k5,k6⟩:=r7_cells HF1.out;have HB1:=Lib.hid hB1;have hs1:=hB1.size;clear hB1;have HC:=Lib.hid (HC0.out W1 HB1.out);clear HC0;go_enter Try.func13,Try.ntmps13;go_wp2_with fail;refine HC.out.mono ?_;rintro e w2 ⟨⟨m,rfl⟩,hB2⟩;have HB2:=Lib.hid (HB1.out.trans (hB2.mono hs1));clear hB2 k0 k1 k2 k3 k4 k5 k6;go_wp2_with fail;go_ret;exact⟨rfl,HB2.out⟩
end flw
open Go.RowKit
namespace ftw
open ftp flp flw
open tupw (Strs strs_below)
theorem rprint_any (F:Fl)(v:Value)(w:World)(hv:Hid (FlX w v F))(hf:Hid (FitX F)):
  Calls Try.prog 7 #[v] w fun e w'=>e= .returned (.tuple #[.string (bb (printF F).1),.int .i64 (printF F).2])∧Below w.heap.size w w':=by
 have HR0:Hid (∀W,Below w.heap.size w W→Calls Try.prog 13 #[v] W fun e w'=>e= .returned (.bool (rightF F))∧Below W.heap.size W w'):=fun W h=>rright19_any F v W (Lib.hid (flX_below hv.out h)) hf;have HE0:Hid (rightF F=true→ ∀W,Below w.heap.size w W→Calls Try.prog 14 #[v] W (TextE (textF 8 F) W)):=fun hr W h=>rtext_any 8 F v W (Lib.hid (flX_below hv.out h)) (txB_fit 8 F ((rightF_iff F).1 hr).1 hf.out ((rightF_iff F).1 hr).2) ((rightF_iff F).1 hr).1;obtain⟨P,hP⟩: ∃P,Hid (printF F=P):=⟨_,Lib.hid rfl⟩;have HV0:Hid (rightF F=false→P=([],4)):=fun h=>by rw[←hP.out];exact print_no h
 have HVn:Hid (rightF F=true→textF 8 F=none→P=([],4)):=fun h h2=>by rw[←hP.out];exact print_none h h2
 have HVs:Hid (rightF F=true→ ∀t,textF 8 F=some t→P=(t,0)):=fun h t h2=>by rw[←hP.out];exact print_some h h2
 rw[hP.out];clear hP;generalize textF 8 F=o at HE0 HVn HVs;generalize rightF F=rb at HR0 HE0 HV0 HVn HVs;obtain⟨xa,xc,ka,kc,rfl,HX,HK,hxc,hkc⟩:=flX_form hv.out;unfold flV;unfold flV at HR0 HE0;generalize(Value.slice xa F.any.length xc)=x at HR0 HE0 ⊢;generalize(Value.slice ka F.kids.length kc)=y at HR0 HE0 ⊢;generalize F.kind=K at HR0 HE0 ⊢;generalize F.attr=s1 at HR0 HE0 ⊢;generalize F.value=s2 at HR0 HE0 ⊢;generalize F.first=s3 at HR0 HE0 ⊢;generalize F.last=s5 at HR0 HE0 ⊢;clear hv hf HX HK hxc hkc;obtain⟨W1,hW1⟩: ∃W,w.alloc (.cells #[.int .i64 K,.string s1,.string s2,.string s3,x,.string s5,y] 25)=W:=⟨_,rfl⟩;have hB1:Below w.heap.size w W1:=by rw[←hW1];exact(Below.refl _ _).alloc (Nat.le_refl _) _
 have HF1:Hid (R7 W1 w.heap.size (.int .i64 K) (.string s1) (.string s2) (.string s3) x (.string s5) y):=by rw[←hW1];exact r7_new _ _ _ _ _ _ _ _
 obtain⟨k0,k1,k2,k3,k4,k5,k6⟩:=r7_cells HF1.out;have HB1:=Lib.hid hB1;have hs1:=hB1.size;clear hB1;have HR1:=Lib.hid (HR0.out W1 HB1.out);clear HR0;cases rb with
 | false=>have HR:=Lib.hid (HV0.out rfl);clear HV0 HVn HVs HE0;go_enter Try.func7,Try.ntmps7;go_wp2_with fail;refine HR1.out.mono ?_;rintro e w2 ⟨rfl,hB2⟩;have HB2:=Lib.hid (HB1.out.trans (hB2.mono hs1));clear hB2 k0 k1 k2 k3 k4 k5 k6;go_wp2_with fail;go_ret2;exact⟨by rw[HR.out];rfl,HB2.out⟩
 | true=>
  have HE1:=Lib.hid (HE0.out rfl);have HVn1:=Lib.hid (HVn.out rfl);have HVs1:=Lib.hid (HVs.out rfl);clear HE0 HV0 HVn HVs;go_enter Try.func7,Try.ntmps7;go_wp2_with fail;refine HR1.out.mono ?_;rintro e w2 ⟨rfl,hB2⟩;have HB2:=Lib.hid (HB1.out.trans (hB2.mono hs1));have HF2:=Lib.hid (r7_below HF1.out hB2);clear hB2 k0 k1 k2 k3 k4 k5 k6;obtain⟨k0,k1,k2,k3,k4,k5,k6⟩:=r7_cells HF2.out;go_wp2_with fail;refine(HE1.out w2 HB2.out).mono ?_;rintro e w3 ⟨hB3,hE⟩;have HB3:=Lib.hid (HB2.out.trans (hB3.mono HB2.out.size));clear hB3 k0 k1 k2 k3 k4 k5 k6;cases o with
  | none=>obtain⟨s,rfl⟩:=hE;have HR:=Lib.hid (HVn1.out rfl);clear HVn1 HVs1;go_wp2_with fail;go_ret2;exact⟨by rw[HR.out];rfl,HB3.out⟩
  | some t=>subst hE;have HR:=Lib.hid (HVs1.out t rfl);clear HVn1 HVs1;go_wp2_with fail;go_ret2;exact⟨by rw[HR.out];rfl,HB3.out⟩
end ftw
open Go.RowKit
theorem hx_drewN {B:Nat}{a b:World}(h:Below B a b)(n:Nat):Below B a (b.drewN n):=⟨h.os,h.tape,h.output,h.size,h.block⟩
theorem ix_val (c:UInt8):Lib.indexByte b64p.digits ((if 65≤c.toNat∧c.toNat≤70 then c.toNat+32 else c.toNat).toUInt8)=b64p.valI c:=by
 have all: ∀m:Fin 256,Lib.indexByte b64p.digits ((if 65≤m.val∧m.val≤70 then m.val+32 else m.val).toUInt8)=b64p.valI (UInt8.ofNat m.val):=by decide+kernel
 have h:=all ⟨c.toNat,c.toNat_lt⟩;simpa using h
theorem digit_any (c:UInt8)(w:World):Calls Try.prog 50 #[.int .u8 (c.toNat:Int)] w fun e w'=>e= .returned (.int .i64 (b64p.valI c))∧w=w':=by
 have hx:=ix_val c;have hc:=c.toNat_lt;by_cases h1:65≤c.toNat
 ·by_cases h2:c.toNat≤70
  ·rw[if_pos ⟨h1,h2⟩]at hx;have C:=Try.strings_IndexByte {data:=#[48,49,50,51,52,53,54,55,56,57,97,98,99,100,101,102]} ((c.toNat:Int)+32) w;have hi:Lib.indexByte (ByteArray.mk #[48,49,50,51,52,53,54,55,56,57,97,98,99,100,101,102]).data.toList ((c.toNat:Int)+32).toNat.toUInt8=b64p.valI c:=hx;rw[hi]at C;have C:=Lib.hid C;clear hx hi;go_enter Try.func50,Try.ntmps50;go_wp2_with fail;refine C.out.mono ?_;rintro e w' ⟨rfl,rfl⟩;go_wp2_with fail;go_ret;exact⟨rfl,rfl⟩
  ·rw[if_neg (by omega)]at hx;have C:=Try.strings_IndexByte {data:=#[48,49,50,51,52,53,54,55,56,57,97,98,99,100,101,102]} (c.toNat:Int) w;have hi:Lib.indexByte (ByteArray.mk #[48,49,50,51,52,53,54,55,56,57,97,98,99,100,101,102]).data.toList (c.toNat:Int).toNat.toUInt8=b64p.valI c:=hx;rw[hi]at C;have C:=Lib.hid C;clear hx hi;go_enter Try.func50,Try.ntmps50;go_wp2_with fail;refine C.out.mono ?_;rintro e w' ⟨rfl,rfl⟩;go_wp2_with fail;go_ret;exact⟨rfl,rfl⟩
 ·rw[if_neg (by omega)]at hx;have C:=Try.strings_IndexByte {data:=#[48,49,50,51,52,53,54,55,56,57,97,98,99,100,101,102]} (c.toNat:Int) w;have hi:Lib.indexByte (ByteArray.mk #[48,49,50,51,52,53,54,55,56,57,97,98,99,100,101,102]).data.toList (c.toNat:Int).toNat.toUInt8=b64p.valI c:=hx;rw[hi]at C;have C:=Lib.hid C;clear hx hi;go_enter Try.func50,Try.ntmps50;go_wp2_with fail;refine C.out.mono ?_;rintro e w' ⟨rfl,rfl⟩;go_wp2_with fail;go_ret;exact⟨rfl,rfl⟩
end Go.Proofs.Ytffkghkkobmhaaa
