/- One text out of several: FilUb, FilUc, FilUd, FilUz, FilY, OpenS, StrsOf, EntO. -/
import Derived.Test.YtmnpfkbjpeaemaaGreatDoorM15
import Derived.Test.YtmnpfkbjpeaemaaGreatDoorM14
import Derived.Deep.Slices
import Derived.Deep.Fields
import Derived.ChangeSame
import Derived.Test.YtmnpfkbjpeaemaaGreatDoorM1
import Derived.SliceStrings
import Derived.Deep.MidRow
import Derived.Test.YtmnpfkbjpeaemaaGreatDoorM6
import Derived.Lib.SmallJoins
import Derived.Test.YtmnpfkbjpeaemaaGreatDoorM5
import Derived.Test.YtmnpfkbjpeaemaaGreatDoorM7
set_option linter.unusedVariables false
set_option linter.unusedSimpArgs false
set_option maxRecDepth 20000
set_option maxHeartbeats 16000000
namespace Go.Proofs.YtmnpfkbjpeaemaaGreatDoor
open Go.RowKit
namespace flw
open flp atp atw etp etw
open tupw (Strs strs_below)
theorem one_k3 (F:Fl)(v:Value)(w:World)(hv:Hid (FlX w v F))(hf:Hid (FitX F))(hkd:F.kind=3):
  Calls Tryz.prog 179 #[v] w fun e w'=>e= .returned (.bool (oneF F))∧Below w.heap.size w w':=by
 have HR:=Lib.hid (rn3 F (by rw[hkd];simp));obtain⟨R,hR⟩: ∃R,oneF F=R:=⟨_,rfl⟩;rw[hR]at HR ⊢;clear hR;have q3:=isE_list F.first;generalize isE F.first=y3 at q3 HR;have q5:=isE_list F.last;generalize isE F.last=y5 at q5 HR;have qM:=(show decide ((0:Int)<(F.any.length:Int))=decide (0<F.any.length)from by rw[decide_eq_decide];omega);obtain⟨yM,qMn⟩: ∃b,decide (0<F.any.length)=b:=⟨_,rfl⟩;rw[qMn]at qM HR;have qa:=(show decide ((1:Int)≤(F.attr.size:Int))=decide (1≤F.attr.size)from by rw[decide_eq_decide];omega);obtain⟨ya,qan⟩: ∃b,decide (1≤F.attr.size)=b:=⟨_,rfl⟩;rw[qan]at qa HR;have qb:=(show decide ((F.attr.size:Int)≤64)=decide (F.attr.size≤64)from by rw[decide_eq_decide];omega);obtain⟨yb,qbn⟩: ∃b,decide (F.attr.size≤64)=b:=⟨_,rfl⟩;rw[qbn]at qb HR;have qn0:=(show((F.kids.length:Int)==0)=decide (F.kids.length=0)from by rw[Bool.eq_iff_iff,beq_iff_eq,decide_eq_true_iff];omega);obtain⟨yn0,qn0n⟩: ∃b,decide (F.kids.length=0)=b:=⟨_,rfl⟩;rw[qn0n]at qn0 HR;obtain⟨xa,xc,ka,kc,rfl,HX,HK,hxc,hkc⟩:=flX_form hv.out;unfold flV;try unfold flV at qM
 try unfold flV at qMn
 try unfold flV at qn0
 try unfold flV at qn0n
 obtain⟨N,hN⟩: ∃N,F.kids.length=N:=⟨_,rfl⟩;have HN:=Lib.hid hN;obtain⟨M,hM⟩: ∃M,F.any.length=M:=⟨_,rfl⟩;have HM:=Lib.hid hM;have HFH:=Lib.hid (fitX_head hf.out);have hNb:N≤100000:=by rw[←hN];exact HFH.out.2.2.2.2.2.2
 have hMb:M≤100000:=by rw[←hM];exact HFH.out.2.2.2.2.1
 rw[hN]at hkc ⊢;try rw[hN]at qM
 try rw[hN]at qMn
 try rw[hN]at qn0
 try rw[hN]at qn0n
 rw[hM]at hxc ⊢;try rw[hM]at qM
 try rw[hM]at qMn
 try rw[hM]at qn0
 try rw[hM]at qn0n
 clear hN hM;obtain⟨W1,hW1⟩: ∃W,w.alloc (.cells #[.int .i64 F.kind,.string F.attr,.string F.value,.string F.first,.slice xa M xc,.string F.last,.slice ka N kc] 73)=W:=⟨_,rfl⟩;have hB1:Below w.heap.size w W1:=by rw[←hW1];exact(Below.refl _ _).alloc (Nat.le_refl _) _
 have HF1:Hid (R7 W1 w.heap.size (.int .i64 F.kind) (.string F.attr) (.string F.value) (.string F.first) (.slice xa M xc) (.string F.last) (.slice ka N kc)):=by rw[←hW1];exact r7_new _ _ _ _ _ _ _ _
 obtain⟨k0,k1,k2,k3,k4,k5,k6⟩:=r7_cells HF1.out;have HB1:=Lib.hid hB1;have hs1:=hB1.size;clear hB1;have HF2:=HF1;rw[hkd]at HF2 hW1 ⊢;clear HF1 k0 k1 k2 k3 k4 k5 k6 hkd;have HF1:=HF2;clear HF2;obtain⟨k0,k1,k2,k3,k4,k5,k6⟩:=r7_cells HF1.out;cases y3 with
 | false=>
  cases ya with
  | false=>go_enter Tryz.func179,Tryz.ntmps179;go_wp2_with fail;go_ret;exact⟨kt.ret_bool HR.out.symm,HB1.out⟩
  | true=>
   cases yb with
   | false=>go_enter Tryz.func179,Tryz.ntmps179;go_wp2_with fail;go_ret;exact⟨kt.ret_bool HR.out.symm,HB1.out⟩
   | true=>go_enter Tryz.func179,Tryz.ntmps179;go_wp2_with fail;go_ret;exact⟨kt.ret_bool HR.out.symm,HB1.out⟩
 | true=>
  cases yM with
  | true=>
   cases ya with
   | false=>go_enter Tryz.func179,Tryz.ntmps179;go_wp2_with fail;go_ret;exact⟨kt.ret_bool HR.out.symm,HB1.out⟩
   | true=>
    cases yb with
    | false=>go_enter Tryz.func179,Tryz.ntmps179;go_wp2_with fail;go_ret;exact⟨kt.ret_bool HR.out.symm,HB1.out⟩
    | true=>go_enter Tryz.func179,Tryz.ntmps179;go_wp2_with fail;go_ret;exact⟨kt.ret_bool HR.out.symm,HB1.out⟩
  | false=>
   cases y5 with
   | false=>
    cases ya with
    | false=>go_enter Tryz.func179,Tryz.ntmps179;go_wp2_with fail;go_ret;exact⟨kt.ret_bool HR.out.symm,HB1.out⟩
    | true=>
     cases yb with
     | false=>go_enter Tryz.func179,Tryz.ntmps179;go_wp2_with fail;go_ret;exact⟨kt.ret_bool HR.out.symm,HB1.out⟩
     | true=>go_enter Tryz.func179,Tryz.ntmps179;go_wp2_with fail;go_ret;exact⟨kt.ret_bool HR.out.symm,HB1.out⟩
   | true=>
    cases ya with
    | false=>go_enter Tryz.func179,Tryz.ntmps179;go_wp2_with fail;go_ret;exact⟨kt.ret_bool HR.out.symm,HB1.out⟩
    | true=>
     cases yb with
     | false=>go_enter Tryz.func179,Tryz.ntmps179;go_wp2_with fail;go_ret;exact⟨kt.ret_bool HR.out.symm,HB1.out⟩
     | true=>
      cases yn0 with
      | false=>go_enter Tryz.func179,Tryz.ntmps179;go_wp2_with fail;go_ret;exact⟨kt.ret_bool HR.out.symm,HB1.out⟩
      | true=>go_enter Tryz.func179,Tryz.ntmps179;go_wp2_with fail;go_ret;exact⟨kt.ret_bool HR.out.symm,HB1.out⟩
theorem one_k5 (F:Fl)(v:Value)(w:World)(hv:Hid (FlX w v F))(hf:Hid (FitX F))(hkd:F.kind=5):
  Calls Tryz.prog 179 #[v] w fun e w'=>e= .returned (.bool (oneF F))∧Below w.heap.size w w':=by
 have HR:=Lib.hid (rn3 F (by rw[hkd];simp));obtain⟨R,hR⟩: ∃R,oneF F=R:=⟨_,rfl⟩;rw[hR]at HR ⊢;clear hR;have q3:=isE_list F.first;generalize isE F.first=y3 at q3 HR;have q5:=isE_list F.last;generalize isE F.last=y5 at q5 HR;have qM:=(show decide ((0:Int)<(F.any.length:Int))=decide (0<F.any.length)from by rw[decide_eq_decide];omega);obtain⟨yM,qMn⟩: ∃b,decide (0<F.any.length)=b:=⟨_,rfl⟩;rw[qMn]at qM HR;have qa:=(show decide ((1:Int)≤(F.attr.size:Int))=decide (1≤F.attr.size)from by rw[decide_eq_decide];omega);obtain⟨ya,qan⟩: ∃b,decide (1≤F.attr.size)=b:=⟨_,rfl⟩;rw[qan]at qa HR;have qb:=(show decide ((F.attr.size:Int)≤64)=decide (F.attr.size≤64)from by rw[decide_eq_decide];omega);obtain⟨yb,qbn⟩: ∃b,decide (F.attr.size≤64)=b:=⟨_,rfl⟩;rw[qbn]at qb HR;have qn0:=(show((F.kids.length:Int)==0)=decide (F.kids.length=0)from by rw[Bool.eq_iff_iff,beq_iff_eq,decide_eq_true_iff];omega);obtain⟨yn0,qn0n⟩: ∃b,decide (F.kids.length=0)=b:=⟨_,rfl⟩;rw[qn0n]at qn0 HR;obtain⟨xa,xc,ka,kc,rfl,HX,HK,hxc,hkc⟩:=flX_form hv.out;unfold flV;try unfold flV at qM
 try unfold flV at qMn
 try unfold flV at qn0
 try unfold flV at qn0n
 obtain⟨N,hN⟩: ∃N,F.kids.length=N:=⟨_,rfl⟩;have HN:=Lib.hid hN;obtain⟨M,hM⟩: ∃M,F.any.length=M:=⟨_,rfl⟩;have HM:=Lib.hid hM;have HFH:=Lib.hid (fitX_head hf.out);have hNb:N≤100000:=by rw[←hN];exact HFH.out.2.2.2.2.2.2
 have hMb:M≤100000:=by rw[←hM];exact HFH.out.2.2.2.2.1
 rw[hN]at hkc ⊢;try rw[hN]at qM
 try rw[hN]at qMn
 try rw[hN]at qn0
 try rw[hN]at qn0n
 rw[hM]at hxc ⊢;try rw[hM]at qM
 try rw[hM]at qMn
 try rw[hM]at qn0
 try rw[hM]at qn0n
 clear hN hM;obtain⟨W1,hW1⟩: ∃W,w.alloc (.cells #[.int .i64 F.kind,.string F.attr,.string F.value,.string F.first,.slice xa M xc,.string F.last,.slice ka N kc] 73)=W:=⟨_,rfl⟩;have hB1:Below w.heap.size w W1:=by rw[←hW1];exact(Below.refl _ _).alloc (Nat.le_refl _) _
 have HF1:Hid (R7 W1 w.heap.size (.int .i64 F.kind) (.string F.attr) (.string F.value) (.string F.first) (.slice xa M xc) (.string F.last) (.slice ka N kc)):=by rw[←hW1];exact r7_new _ _ _ _ _ _ _ _
 obtain⟨k0,k1,k2,k3,k4,k5,k6⟩:=r7_cells HF1.out;have HB1:=Lib.hid hB1;have hs1:=hB1.size;clear hB1;have HF2:=HF1;rw[hkd]at HF2 hW1 ⊢;clear HF1 k0 k1 k2 k3 k4 k5 k6 hkd;have HF1:=HF2;clear HF2;obtain⟨k0,k1,k2,k3,k4,k5,k6⟩:=r7_cells HF1.out;cases y3 with
 | false=>
  cases ya with
  | false=>go_enter Tryz.func179,Tryz.ntmps179;go_wp2_with fail;go_ret;exact⟨kt.ret_bool HR.out.symm,HB1.out⟩
  | true=>
   cases yb with
   | false=>go_enter Tryz.func179,Tryz.ntmps179;go_wp2_with fail;go_ret;exact⟨kt.ret_bool HR.out.symm,HB1.out⟩
   | true=>go_enter Tryz.func179,Tryz.ntmps179;go_wp2_with fail;go_ret;exact⟨kt.ret_bool HR.out.symm,HB1.out⟩
 | true=>
  cases yM with
  | true=>
   cases ya with
   | false=>go_enter Tryz.func179,Tryz.ntmps179;go_wp2_with fail;go_ret;exact⟨kt.ret_bool HR.out.symm,HB1.out⟩
   | true=>
    cases yb with
    | false=>go_enter Tryz.func179,Tryz.ntmps179;go_wp2_with fail;go_ret;exact⟨kt.ret_bool HR.out.symm,HB1.out⟩
    | true=>go_enter Tryz.func179,Tryz.ntmps179;go_wp2_with fail;go_ret;exact⟨kt.ret_bool HR.out.symm,HB1.out⟩
  | false=>
   cases y5 with
   | false=>
    cases ya with
    | false=>go_enter Tryz.func179,Tryz.ntmps179;go_wp2_with fail;go_ret;exact⟨kt.ret_bool HR.out.symm,HB1.out⟩
    | true=>
     cases yb with
     | false=>go_enter Tryz.func179,Tryz.ntmps179;go_wp2_with fail;go_ret;exact⟨kt.ret_bool HR.out.symm,HB1.out⟩
     | true=>go_enter Tryz.func179,Tryz.ntmps179;go_wp2_with fail;go_ret;exact⟨kt.ret_bool HR.out.symm,HB1.out⟩
   | true=>
    cases ya with
    | false=>go_enter Tryz.func179,Tryz.ntmps179;go_wp2_with fail;go_ret;exact⟨kt.ret_bool HR.out.symm,HB1.out⟩
    | true=>
     cases yb with
     | false=>go_enter Tryz.func179,Tryz.ntmps179;go_wp2_with fail;go_ret;exact⟨kt.ret_bool HR.out.symm,HB1.out⟩
     | true=>
      cases yn0 with
      | false=>go_enter Tryz.func179,Tryz.ntmps179;go_wp2_with fail;go_ret;exact⟨kt.ret_bool HR.out.symm,HB1.out⟩
      | true=>go_enter Tryz.func179,Tryz.ntmps179;go_wp2_with fail;go_ret;exact⟨kt.ret_bool HR.out.symm,HB1.out⟩
theorem one_k6 (F:Fl)(v:Value)(w:World)(hv:Hid (FlX w v F))(hf:Hid (FitX F))(hkd:F.kind=6):
  Calls Tryz.prog 179 #[v] w fun e w'=>e= .returned (.bool (oneF F))∧Below w.heap.size w w':=by
 have HR:=Lib.hid (rn3 F (by rw[hkd];simp));obtain⟨R,hR⟩: ∃R,oneF F=R:=⟨_,rfl⟩;rw[hR]at HR ⊢;clear hR;have q3:=isE_list F.first;generalize isE F.first=y3 at q3 HR;have q5:=isE_list F.last;generalize isE F.last=y5 at q5 HR;have qM:=(show decide ((0:Int)<(F.any.length:Int))=decide (0<F.any.length)from by rw[decide_eq_decide];omega);obtain⟨yM,qMn⟩: ∃b,decide (0<F.any.length)=b:=⟨_,rfl⟩;rw[qMn]at qM HR;have qa:=(show decide ((1:Int)≤(F.attr.size:Int))=decide (1≤F.attr.size)from by rw[decide_eq_decide];omega);obtain⟨ya,qan⟩: ∃b,decide (1≤F.attr.size)=b:=⟨_,rfl⟩;rw[qan]at qa HR;have qb:=(show decide ((F.attr.size:Int)≤64)=decide (F.attr.size≤64)from by rw[decide_eq_decide];omega);obtain⟨yb,qbn⟩: ∃b,decide (F.attr.size≤64)=b:=⟨_,rfl⟩;rw[qbn]at qb HR;have qn0:=(show((F.kids.length:Int)==0)=decide (F.kids.length=0)from by rw[Bool.eq_iff_iff,beq_iff_eq,decide_eq_true_iff];omega);obtain⟨yn0,qn0n⟩: ∃b,decide (F.kids.length=0)=b:=⟨_,rfl⟩;rw[qn0n]at qn0 HR;obtain⟨xa,xc,ka,kc,rfl,HX,HK,hxc,hkc⟩:=flX_form hv.out;unfold flV;try unfold flV at qM
 try unfold flV at qMn
 try unfold flV at qn0
 try unfold flV at qn0n
 obtain⟨N,hN⟩: ∃N,F.kids.length=N:=⟨_,rfl⟩;have HN:=Lib.hid hN;obtain⟨M,hM⟩: ∃M,F.any.length=M:=⟨_,rfl⟩;have HM:=Lib.hid hM;have HFH:=Lib.hid (fitX_head hf.out);have hNb:N≤100000:=by rw[←hN];exact HFH.out.2.2.2.2.2.2
 have hMb:M≤100000:=by rw[←hM];exact HFH.out.2.2.2.2.1
 rw[hN]at hkc ⊢;try rw[hN]at qM
 try rw[hN]at qMn
 try rw[hN]at qn0
 try rw[hN]at qn0n
 rw[hM]at hxc ⊢;try rw[hM]at qM
 try rw[hM]at qMn
 try rw[hM]at qn0
 try rw[hM]at qn0n
 clear hN hM;obtain⟨W1,hW1⟩: ∃W,w.alloc (.cells #[.int .i64 F.kind,.string F.attr,.string F.value,.string F.first,.slice xa M xc,.string F.last,.slice ka N kc] 73)=W:=⟨_,rfl⟩;have hB1:Below w.heap.size w W1:=by rw[←hW1];exact(Below.refl _ _).alloc (Nat.le_refl _) _
 have HF1:Hid (R7 W1 w.heap.size (.int .i64 F.kind) (.string F.attr) (.string F.value) (.string F.first) (.slice xa M xc) (.string F.last) (.slice ka N kc)):=by rw[←hW1];exact r7_new _ _ _ _ _ _ _ _
 obtain⟨k0,k1,k2,k3,k4,k5,k6⟩:=r7_cells HF1.out;have HB1:=Lib.hid hB1;have hs1:=hB1.size;clear hB1;have HF2:=HF1;rw[hkd]at HF2 hW1 ⊢;clear HF1 k0 k1 k2 k3 k4 k5 k6 hkd;have HF1:=HF2;clear HF2;obtain⟨k0,k1,k2,k3,k4,k5,k6⟩:=r7_cells HF1.out;cases y3 with
 | false=>
  cases ya with
  | false=>go_enter Tryz.func179,Tryz.ntmps179;go_wp2_with fail;go_ret;exact⟨kt.ret_bool HR.out.symm,HB1.out⟩
  | true=>
   cases yb with
   | false=>go_enter Tryz.func179,Tryz.ntmps179;go_wp2_with fail;go_ret;exact⟨kt.ret_bool HR.out.symm,HB1.out⟩
   | true=>go_enter Tryz.func179,Tryz.ntmps179;go_wp2_with fail;go_ret;exact⟨kt.ret_bool HR.out.symm,HB1.out⟩
 | true=>
  cases yM with
  | true=>
   cases ya with
   | false=>go_enter Tryz.func179,Tryz.ntmps179;go_wp2_with fail;go_ret;exact⟨kt.ret_bool HR.out.symm,HB1.out⟩
   | true=>
    cases yb with
    | false=>go_enter Tryz.func179,Tryz.ntmps179;go_wp2_with fail;go_ret;exact⟨kt.ret_bool HR.out.symm,HB1.out⟩
    | true=>go_enter Tryz.func179,Tryz.ntmps179;go_wp2_with fail;go_ret;exact⟨kt.ret_bool HR.out.symm,HB1.out⟩
  | false=>
   cases y5 with
   | false=>
    cases ya with
    | false=>go_enter Tryz.func179,Tryz.ntmps179;go_wp2_with fail;go_ret;exact⟨kt.ret_bool HR.out.symm,HB1.out⟩
    | true=>
     cases yb with
     | false=>go_enter Tryz.func179,Tryz.ntmps179;go_wp2_with fail;go_ret;exact⟨kt.ret_bool HR.out.symm,HB1.out⟩
     | true=>go_enter Tryz.func179,Tryz.ntmps179;go_wp2_with fail;go_ret;exact⟨kt.ret_bool HR.out.symm,HB1.out⟩
   | true=>
    cases ya with
    | false=>go_enter Tryz.func179,Tryz.ntmps179;go_wp2_with fail;go_ret;exact⟨kt.ret_bool HR.out.symm,HB1.out⟩
    | true=>
     cases yb with
     | false=>go_enter Tryz.func179,Tryz.ntmps179;go_wp2_with fail;go_ret;exact⟨kt.ret_bool HR.out.symm,HB1.out⟩
     | true=>
      cases yn0 with
      | false=>go_enter Tryz.func179,Tryz.ntmps179;go_wp2_with fail;go_ret;exact⟨kt.ret_bool HR.out.symm,HB1.out⟩
      | true=>go_enter Tryz.func179,Tryz.ntmps179;go_wp2_with fail;go_ret;exact⟨kt.ret_bool HR.out.symm,HB1.out⟩
theorem one_k8 (F:Fl)(v:Value)(w:World)(hv:Hid (FlX w v F))(hf:Hid (FitX F))(hkd:F.kind=8):
  Calls Tryz.prog 179 #[v] w fun e w'=>e= .returned (.bool (oneF F))∧Below w.heap.size w w':=by
 have HR:=Lib.hid (rn3 F (by rw[hkd];simp));obtain⟨R,hR⟩: ∃R,oneF F=R:=⟨_,rfl⟩;rw[hR]at HR ⊢;clear hR;have q3:=isE_list F.first;generalize isE F.first=y3 at q3 HR;have q5:=isE_list F.last;generalize isE F.last=y5 at q5 HR;have qM:=(show decide ((0:Int)<(F.any.length:Int))=decide (0<F.any.length)from by rw[decide_eq_decide];omega);obtain⟨yM,qMn⟩: ∃b,decide (0<F.any.length)=b:=⟨_,rfl⟩;rw[qMn]at qM HR;have qa:=(show decide ((1:Int)≤(F.attr.size:Int))=decide (1≤F.attr.size)from by rw[decide_eq_decide];omega);obtain⟨ya,qan⟩: ∃b,decide (1≤F.attr.size)=b:=⟨_,rfl⟩;rw[qan]at qa HR;have qb:=(show decide ((F.attr.size:Int)≤64)=decide (F.attr.size≤64)from by rw[decide_eq_decide];omega);obtain⟨yb,qbn⟩: ∃b,decide (F.attr.size≤64)=b:=⟨_,rfl⟩;rw[qbn]at qb HR;have qn0:=(show((F.kids.length:Int)==0)=decide (F.kids.length=0)from by rw[Bool.eq_iff_iff,beq_iff_eq,decide_eq_true_iff];omega);obtain⟨yn0,qn0n⟩: ∃b,decide (F.kids.length=0)=b:=⟨_,rfl⟩;rw[qn0n]at qn0 HR;obtain⟨xa,xc,ka,kc,rfl,HX,HK,hxc,hkc⟩:=flX_form hv.out;unfold flV;try unfold flV at qM
 try unfold flV at qMn
 try unfold flV at qn0
 try unfold flV at qn0n
 obtain⟨N,hN⟩: ∃N,F.kids.length=N:=⟨_,rfl⟩;have HN:=Lib.hid hN;obtain⟨M,hM⟩: ∃M,F.any.length=M:=⟨_,rfl⟩;have HM:=Lib.hid hM;have HFH:=Lib.hid (fitX_head hf.out);have hNb:N≤100000:=by rw[←hN];exact HFH.out.2.2.2.2.2.2
 have hMb:M≤100000:=by rw[←hM];exact HFH.out.2.2.2.2.1
 rw[hN]at hkc ⊢;try rw[hN]at qM
 try rw[hN]at qMn
 try rw[hN]at qn0
 try rw[hN]at qn0n
 rw[hM]at hxc ⊢;try rw[hM]at qM
 try rw[hM]at qMn
 try rw[hM]at qn0
 try rw[hM]at qn0n
 clear hN hM;obtain⟨W1,hW1⟩: ∃W,w.alloc (.cells #[.int .i64 F.kind,.string F.attr,.string F.value,.string F.first,.slice xa M xc,.string F.last,.slice ka N kc] 73)=W:=⟨_,rfl⟩;have hB1:Below w.heap.size w W1:=by rw[←hW1];exact(Below.refl _ _).alloc (Nat.le_refl _) _
 have HF1:Hid (R7 W1 w.heap.size (.int .i64 F.kind) (.string F.attr) (.string F.value) (.string F.first) (.slice xa M xc) (.string F.last) (.slice ka N kc)):=by rw[←hW1];exact r7_new _ _ _ _ _ _ _ _
 obtain⟨k0,k1,k2,k3,k4,k5,k6⟩:=r7_cells HF1.out;have HB1:=Lib.hid hB1;have hs1:=hB1.size;clear hB1;have HF2:=HF1;rw[hkd]at HF2 hW1 ⊢;clear HF1 k0 k1 k2 k3 k4 k5 k6 hkd;have HF1:=HF2;clear HF2;obtain⟨k0,k1,k2,k3,k4,k5,k6⟩:=r7_cells HF1.out;cases y3 with
 | false=>
  cases ya with
  | false=>go_enter Tryz.func179,Tryz.ntmps179;go_wp2_with fail;go_ret;exact⟨kt.ret_bool HR.out.symm,HB1.out⟩
  | true=>
   cases yb with
   | false=>go_enter Tryz.func179,Tryz.ntmps179;go_wp2_with fail;go_ret;exact⟨kt.ret_bool HR.out.symm,HB1.out⟩
   | true=>go_enter Tryz.func179,Tryz.ntmps179;go_wp2_with fail;go_ret;exact⟨kt.ret_bool HR.out.symm,HB1.out⟩
 | true=>
  cases yM with
  | true=>
   cases ya with
   | false=>go_enter Tryz.func179,Tryz.ntmps179;go_wp2_with fail;go_ret;exact⟨kt.ret_bool HR.out.symm,HB1.out⟩
   | true=>
    cases yb with
    | false=>go_enter Tryz.func179,Tryz.ntmps179;go_wp2_with fail;go_ret;exact⟨kt.ret_bool HR.out.symm,HB1.out⟩
    | true=>go_enter Tryz.func179,Tryz.ntmps179;go_wp2_with fail;go_ret;exact⟨kt.ret_bool HR.out.symm,HB1.out⟩
  | false=>
   cases y5 with
   | false=>
    cases ya with
    | false=>go_enter Tryz.func179,Tryz.ntmps179;go_wp2_with fail;go_ret;exact⟨kt.ret_bool HR.out.symm,HB1.out⟩
    | true=>
     cases yb with
     | false=>go_enter Tryz.func179,Tryz.ntmps179;go_wp2_with fail;go_ret;exact⟨kt.ret_bool HR.out.symm,HB1.out⟩
     | true=>go_enter Tryz.func179,Tryz.ntmps179;go_wp2_with fail;go_ret;exact⟨kt.ret_bool HR.out.symm,HB1.out⟩
   | true=>
    cases ya with
    | false=>go_enter Tryz.func179,Tryz.ntmps179;go_wp2_with fail;go_ret;exact⟨kt.ret_bool HR.out.symm,HB1.out⟩
    | true=>
     cases yb with
     | false=>go_enter Tryz.func179,Tryz.ntmps179;go_wp2_with fail;go_ret;exact⟨kt.ret_bool HR.out.symm,HB1.out⟩
     | true=>
      cases yn0 with
      | false=>go_enter Tryz.func179,Tryz.ntmps179;go_wp2_with fail;go_ret;exact⟨kt.ret_bool HR.out.symm,HB1.out⟩
      | true=>go_enter Tryz.func179,Tryz.ntmps179;go_wp2_with fail;go_ret;exact⟨kt.ret_bool HR.out.symm,HB1.out⟩
end flw
open Go.RowKit
namespace flw
open flp atp atw etp etw
open tupw (Strs strs_below)
theorem one_k4 (F:Fl)(v:Value)(w:World)(hv:Hid (FlX w v F))(hf:Hid (FitX F))(hkd:F.kind=4):
  Calls Tryz.prog 179 #[v] w fun e w'=>e= .returned (.bool (oneF F))∧Below w.heap.size w w':=by
 have HPI0:Hid (∀W,Below w.heap.size w W→Calls Tryz.prog 225 #[v] W fun e w'=>e= .returned (.bool (piecesF F))∧Below W.heap.size W w'):=fun W h=>pieces_any F v W (Lib.hid (flX_below hv.out h)) hf;have HR:=Lib.hid (rn4 F hkd);obtain⟨R,hR⟩: ∃R,oneF F=R:=⟨_,rfl⟩;rw[hR]at HR ⊢;clear hR;have q2:=isE_list F.value;generalize isE F.value=y2 at q2 HR;have q3:=isE_list F.first;generalize isE F.first=y3 at q3;have q5:=isE_list F.last;generalize isE F.last=y5 at q5;have qM:=(show decide ((0:Int)<(F.any.length:Int))=decide (0<F.any.length)from by rw[decide_eq_decide];omega);obtain⟨yM,qMn⟩: ∃b,decide (0<F.any.length)=b:=⟨_,rfl⟩;rw[qMn]at qM;have q8:=(show decide ((F.any.length:Int)≤8)=decide (F.any.length≤8)from by rw[decide_eq_decide];omega);obtain⟨y8,q8n⟩: ∃b,decide (F.any.length≤8)=b:=⟨_,rfl⟩;rw[q8n]at q8 HR;have qa:=(show decide ((1:Int)≤(F.attr.size:Int))=decide (1≤F.attr.size)from by rw[decide_eq_decide];omega);obtain⟨ya,qan⟩: ∃b,decide (1≤F.attr.size)=b:=⟨_,rfl⟩;rw[qan]at qa HR;have qb:=(show decide ((F.attr.size:Int)≤64)=decide (F.attr.size≤64)from by rw[decide_eq_decide];omega);obtain⟨yb,qbn⟩: ∃b,decide (F.attr.size≤64)=b:=⟨_,rfl⟩;rw[qbn]at qb HR;have qn0:=(show((F.kids.length:Int)==0)=decide (F.kids.length=0)from by rw[Bool.eq_iff_iff,beq_iff_eq,decide_eq_true_iff];omega);obtain⟨yn0,qn0n⟩: ∃b,decide (F.kids.length=0)=b:=⟨_,rfl⟩;rw[qn0n]at qn0 HR;generalize piecesF F=yp at HPI0 HR;obtain⟨xa,xc,ka,kc,rfl,HX,HK,hxc,hkc⟩:=flX_form hv.out;unfold flV;try unfold flV at HPI0
 try unfold flV at qM
 try unfold flV at qMn
 try unfold flV at q8
 try unfold flV at q8n
 try unfold flV at qn0
 try unfold flV at qn0n
 obtain⟨N,hN⟩: ∃N,F.kids.length=N:=⟨_,rfl⟩;have HN:=Lib.hid hN;obtain⟨M,hM⟩: ∃M,F.any.length=M:=⟨_,rfl⟩;have HM:=Lib.hid hM;have HFH:=Lib.hid (fitX_head hf.out);have hNb:N≤100000:=by rw[←hN];exact HFH.out.2.2.2.2.2.2
 have hMb:M≤100000:=by rw[←hM];exact HFH.out.2.2.2.2.1
 rw[hN]at hkc ⊢;try rw[hN]at HPI0
 try rw[hN]at qM
 try rw[hN]at qMn
 try rw[hN]at q8
 try rw[hN]at q8n
 try rw[hN]at qn0
 try rw[hN]at qn0n
 rw[hM]at hxc ⊢;try rw[hM]at HPI0
 try rw[hM]at qM
 try rw[hM]at qMn
 try rw[hM]at q8
 try rw[hM]at q8n
 try rw[hM]at qn0
 try rw[hM]at qn0n
 clear hN hM;obtain⟨W1,hW1⟩: ∃W,w.alloc (.cells #[.int .i64 F.kind,.string F.attr,.string F.value,.string F.first,.slice xa M xc,.string F.last,.slice ka N kc] 73)=W:=⟨_,rfl⟩;have hB1:Below w.heap.size w W1:=by rw[←hW1];exact(Below.refl _ _).alloc (Nat.le_refl _) _
 have HF1:Hid (R7 W1 w.heap.size (.int .i64 F.kind) (.string F.attr) (.string F.value) (.string F.first) (.slice xa M xc) (.string F.last) (.slice ka N kc)):=by rw[←hW1];exact r7_new _ _ _ _ _ _ _ _
 obtain⟨k0,k1,k2,k3,k4,k5,k6⟩:=r7_cells HF1.out;have HB1:=Lib.hid hB1;have hs1:=hB1.size;clear hB1;have HPI:=Lib.hid (HPI0.out W1 HB1.out);clear HPI0;have HF2:=HF1;rw[hkd]at HF2 HPI hW1 ⊢;clear HF1 k0 k1 k2 k3 k4 k5 k6 hkd;have HF1:=HF2;clear HF2;obtain⟨k0,k1,k2,k3,k4,k5,k6⟩:=r7_cells HF1.out;cases y3 with
 | false=>
  cases ya with
  | false=>go_enter Tryz.func179,Tryz.ntmps179;go_wp2_with fail;go_ret;exact⟨kt.ret_bool HR.out.symm,HB1.out⟩
  | true=>
   cases yb with
   | false=>go_enter Tryz.func179,Tryz.ntmps179;go_wp2_with fail;go_ret;exact⟨kt.ret_bool HR.out.symm,HB1.out⟩
   | true=>
    cases y2 with
    | false=>go_enter Tryz.func179,Tryz.ntmps179;go_wp2_with fail;go_ret;exact⟨kt.ret_bool HR.out.symm,HB1.out⟩
    | true=>
     cases yp with
     | false=>go_enter Tryz.func179,Tryz.ntmps179;go_wp2_with fail;refine HPI.out.mono ?_;rintro e w2 ⟨rfl,hB2⟩;have HB2:=Lib.hid (HB1.out.trans (hB2.mono hs1));have HF3:=Lib.hid (r7_below HF1.out hB2);clear hB2 k0 k1 k2 k3 k4 k5 k6;obtain⟨k0,k1,k2,k3,k4,k5,k6⟩:=r7_cells HF3.out;go_wp2_with fail;go_ret;exact⟨kt.ret_bool HR.out.symm,HB2.out⟩
     | true=>
      cases y8 with
      | false=>go_enter Tryz.func179,Tryz.ntmps179;go_wp2_with fail;refine HPI.out.mono ?_;rintro e w2 ⟨rfl,hB2⟩;have HB2:=Lib.hid (HB1.out.trans (hB2.mono hs1));have HF3:=Lib.hid (r7_below HF1.out hB2);clear hB2 k0 k1 k2 k3 k4 k5 k6;obtain⟨k0,k1,k2,k3,k4,k5,k6⟩:=r7_cells HF3.out;go_wp2_with fail;go_ret;exact⟨kt.ret_bool HR.out.symm,HB2.out⟩
      | true=>
       cases yn0 with
       | false=>go_enter Tryz.func179,Tryz.ntmps179;go_wp2_with fail;refine HPI.out.mono ?_;rintro e w2 ⟨rfl,hB2⟩;have HB2:=Lib.hid (HB1.out.trans (hB2.mono hs1));have HF3:=Lib.hid (r7_below HF1.out hB2);clear hB2 k0 k1 k2 k3 k4 k5 k6;obtain⟨k0,k1,k2,k3,k4,k5,k6⟩:=r7_cells HF3.out;go_wp2_with fail;go_ret;exact⟨kt.ret_bool HR.out.symm,HB2.out⟩
       | true=>go_enter Tryz.func179,Tryz.ntmps179;go_wp2_with fail;refine HPI.out.mono ?_;rintro e w2 ⟨rfl,hB2⟩;have HB2:=Lib.hid (HB1.out.trans (hB2.mono hs1));have HF3:=Lib.hid (r7_below HF1.out hB2);clear hB2 k0 k1 k2 k3 k4 k5 k6;obtain⟨k0,k1,k2,k3,k4,k5,k6⟩:=r7_cells HF3.out;go_wp2_with fail;go_ret;exact⟨kt.ret_bool HR.out.symm,HB2.out⟩
 | true=>
  cases yM with
  | true=>
   cases ya with
   | false=>go_enter Tryz.func179,Tryz.ntmps179;go_wp2_with fail;go_ret;exact⟨kt.ret_bool HR.out.symm,HB1.out⟩
   | true=>
    cases yb with
    | false=>go_enter Tryz.func179,Tryz.ntmps179;go_wp2_with fail;go_ret;exact⟨kt.ret_bool HR.out.symm,HB1.out⟩
    | true=>
     cases y2 with
     | false=>go_enter Tryz.func179,Tryz.ntmps179;go_wp2_with fail;go_ret;exact⟨kt.ret_bool HR.out.symm,HB1.out⟩
     | true=>
      cases yp with
      | false=>go_enter Tryz.func179,Tryz.ntmps179;go_wp2_with fail;refine HPI.out.mono ?_;rintro e w2 ⟨rfl,hB2⟩;have HB2:=Lib.hid (HB1.out.trans (hB2.mono hs1));have HF3:=Lib.hid (r7_below HF1.out hB2);clear hB2 k0 k1 k2 k3 k4 k5 k6;obtain⟨k0,k1,k2,k3,k4,k5,k6⟩:=r7_cells HF3.out;go_wp2_with fail;go_ret;exact⟨kt.ret_bool HR.out.symm,HB2.out⟩
      | true=>
       cases y8 with
       | false=>go_enter Tryz.func179,Tryz.ntmps179;go_wp2_with fail;refine HPI.out.mono ?_;rintro e w2 ⟨rfl,hB2⟩;have HB2:=Lib.hid (HB1.out.trans (hB2.mono hs1));have HF3:=Lib.hid (r7_below HF1.out hB2);clear hB2 k0 k1 k2 k3 k4 k5 k6;obtain⟨k0,k1,k2,k3,k4,k5,k6⟩:=r7_cells HF3.out;go_wp2_with fail;go_ret;exact⟨kt.ret_bool HR.out.symm,HB2.out⟩
       | true=>
        cases yn0 with
        | false=>go_enter Tryz.func179,Tryz.ntmps179;go_wp2_with fail;refine HPI.out.mono ?_;rintro e w2 ⟨rfl,hB2⟩;have HB2:=Lib.hid (HB1.out.trans (hB2.mono hs1));have HF3:=Lib.hid (r7_below HF1.out hB2);clear hB2 k0 k1 k2 k3 k4 k5 k6;obtain⟨k0,k1,k2,k3,k4,k5,k6⟩:=r7_cells HF3.out;go_wp2_with fail;go_ret;exact⟨kt.ret_bool HR.out.symm,HB2.out⟩
        | true=>go_enter Tryz.func179,Tryz.ntmps179;go_wp2_with fail;refine HPI.out.mono ?_;rintro e w2 ⟨rfl,hB2⟩;have HB2:=Lib.hid (HB1.out.trans (hB2.mono hs1));have HF3:=Lib.hid (r7_below HF1.out hB2);clear hB2 k0 k1 k2 k3 k4 k5 k6;obtain⟨k0,k1,k2,k3,k4,k5,k6⟩:=r7_cells HF3.out;go_wp2_with fail;go_ret;exact⟨kt.ret_bool HR.out.symm,HB2.out⟩
  | false=>
   cases y5 with
   | false=>
    cases ya with
    | false=>go_enter Tryz.func179,Tryz.ntmps179;go_wp2_with fail;go_ret;exact⟨kt.ret_bool HR.out.symm,HB1.out⟩
    | true=>
     cases yb with
     | false=>go_enter Tryz.func179,Tryz.ntmps179;go_wp2_with fail;go_ret;exact⟨kt.ret_bool HR.out.symm,HB1.out⟩
     | true=>
      cases y2 with
      | false=>go_enter Tryz.func179,Tryz.ntmps179;go_wp2_with fail;go_ret;exact⟨kt.ret_bool HR.out.symm,HB1.out⟩
      | true=>
       cases yp with
       | false=>go_enter Tryz.func179,Tryz.ntmps179;go_wp2_with fail;refine HPI.out.mono ?_;rintro e w2 ⟨rfl,hB2⟩;have HB2:=Lib.hid (HB1.out.trans (hB2.mono hs1));have HF3:=Lib.hid (r7_below HF1.out hB2);clear hB2 k0 k1 k2 k3 k4 k5 k6;obtain⟨k0,k1,k2,k3,k4,k5,k6⟩:=r7_cells HF3.out;go_wp2_with fail;go_ret;exact⟨kt.ret_bool HR.out.symm,HB2.out⟩
       | true=>
        cases y8 with
        | false=>go_enter Tryz.func179,Tryz.ntmps179;go_wp2_with fail;refine HPI.out.mono ?_;rintro e w2 ⟨rfl,hB2⟩;have HB2:=Lib.hid (HB1.out.trans (hB2.mono hs1));have HF3:=Lib.hid (r7_below HF1.out hB2);clear hB2 k0 k1 k2 k3 k4 k5 k6;obtain⟨k0,k1,k2,k3,k4,k5,k6⟩:=r7_cells HF3.out;go_wp2_with fail;go_ret;exact⟨kt.ret_bool HR.out.symm,HB2.out⟩
        | true=>
         cases yn0 with
         | false=>go_enter Tryz.func179,Tryz.ntmps179;go_wp2_with fail;refine HPI.out.mono ?_;rintro e w2 ⟨rfl,hB2⟩;have HB2:=Lib.hid (HB1.out.trans (hB2.mono hs1));have HF3:=Lib.hid (r7_below HF1.out hB2);clear hB2 k0 k1 k2 k3 k4 k5 k6;obtain⟨k0,k1,k2,k3,k4,k5,k6⟩:=r7_cells HF3.out;go_wp2_with fail;go_ret;exact⟨kt.ret_bool HR.out.symm,HB2.out⟩
         | true=>go_enter Tryz.func179,Tryz.ntmps179;go_wp2_with fail;refine HPI.out.mono ?_;rintro e w2 ⟨rfl,hB2⟩;have HB2:=Lib.hid (HB1.out.trans (hB2.mono hs1));have HF3:=Lib.hid (r7_below HF1.out hB2);clear hB2 k0 k1 k2 k3 k4 k5 k6;obtain⟨k0,k1,k2,k3,k4,k5,k6⟩:=r7_cells HF3.out;go_wp2_with fail;go_ret;exact⟨kt.ret_bool HR.out.symm,HB2.out⟩
   | true=>
    cases ya with
    | false=>go_enter Tryz.func179,Tryz.ntmps179;go_wp2_with fail;go_ret;exact⟨kt.ret_bool HR.out.symm,HB1.out⟩
    | true=>
     cases yb with
     | false=>go_enter Tryz.func179,Tryz.ntmps179;go_wp2_with fail;go_ret;exact⟨kt.ret_bool HR.out.symm,HB1.out⟩
     | true=>
      cases y2 with
      | false=>go_enter Tryz.func179,Tryz.ntmps179;go_wp2_with fail;go_ret;exact⟨kt.ret_bool HR.out.symm,HB1.out⟩
      | true=>
       cases yp with
       | false=>go_enter Tryz.func179,Tryz.ntmps179;go_wp2_with fail;refine HPI.out.mono ?_;rintro e w2 ⟨rfl,hB2⟩;have HB2:=Lib.hid (HB1.out.trans (hB2.mono hs1));have HF3:=Lib.hid (r7_below HF1.out hB2);clear hB2 k0 k1 k2 k3 k4 k5 k6;obtain⟨k0,k1,k2,k3,k4,k5,k6⟩:=r7_cells HF3.out;go_wp2_with fail;go_ret;exact⟨kt.ret_bool HR.out.symm,HB2.out⟩
       | true=>
        cases y8 with
        | false=>go_enter Tryz.func179,Tryz.ntmps179;go_wp2_with fail;refine HPI.out.mono ?_;rintro e w2 ⟨rfl,hB2⟩;have HB2:=Lib.hid (HB1.out.trans (hB2.mono hs1));have HF3:=Lib.hid (r7_below HF1.out hB2);clear hB2 k0 k1 k2 k3 k4 k5 k6;obtain⟨k0,k1,k2,k3,k4,k5,k6⟩:=r7_cells HF3.out;go_wp2_with fail;go_ret;exact⟨kt.ret_bool HR.out.symm,HB2.out⟩
        | true=>
         cases yn0 with
         | false=>go_enter Tryz.func179,Tryz.ntmps179;go_wp2_with fail;refine HPI.out.mono ?_;rintro e w2 ⟨rfl,hB2⟩;have HB2:=Lib.hid (HB1.out.trans (hB2.mono hs1));have HF3:=Lib.hid (r7_below HF1.out hB2);clear hB2 k0 k1 k2 k3 k4 k5 k6;obtain⟨k0,k1,k2,k3,k4,k5,k6⟩:=r7_cells HF3.out;go_wp2_with fail;go_ret;exact⟨kt.ret_bool HR.out.symm,HB2.out⟩
         | true=>go_enter Tryz.func179,Tryz.ntmps179;go_wp2_with fail;refine HPI.out.mono ?_;rintro e w2 ⟨rfl,hB2⟩;have HB2:=Lib.hid (HB1.out.trans (hB2.mono hs1));have HF3:=Lib.hid (r7_below HF1.out hB2);clear hB2 k0 k1 k2 k3 k4 k5 k6;obtain⟨k0,k1,k2,k3,k4,k5,k6⟩:=r7_cells HF3.out;go_wp2_with fail;go_ret;exact⟨kt.ret_bool HR.out.symm,HB2.out⟩
end flw
open Go.RowKit
namespace flw
open flp atp atw etp etw
open tupw (Strs strs_below)
theorem one_k7 (F:Fl)(v:Value)(w:World)(hv:Hid (FlX w v F))(hf:Hid (FitX F))(hkd:F.kind=7):
  Calls Tryz.prog 179 #[v] w fun e w'=>e= .returned (.bool (oneF F))∧Below w.heap.size w w':=by
 have HR:=Lib.hid (rn7 F hkd);obtain⟨R,hR⟩: ∃R,oneF F=R:=⟨_,rfl⟩;rw[hR]at HR ⊢;clear hR;have q2:=isE_list F.value;generalize isE F.value=y2 at q2 HR;have q3:=isE_list F.first;generalize isE F.first=y3 at q3 HR;have q5:=isE_list F.last;generalize isE F.last=y5 at q5 HR;have qM:=(show decide ((0:Int)<(F.any.length:Int))=decide (0<F.any.length)from by rw[decide_eq_decide];omega);obtain⟨yM,qMn⟩: ∃b,decide (0<F.any.length)=b:=⟨_,rfl⟩;rw[qMn]at qM HR;have qa:=(show decide ((1:Int)≤(F.attr.size:Int))=decide (1≤F.attr.size)from by rw[decide_eq_decide];omega);obtain⟨ya,qan⟩: ∃b,decide (1≤F.attr.size)=b:=⟨_,rfl⟩;rw[qan]at qa HR;have qb:=(show decide ((F.attr.size:Int)≤64)=decide (F.attr.size≤64)from by rw[decide_eq_decide];omega);obtain⟨yb,qbn⟩: ∃b,decide (F.attr.size≤64)=b:=⟨_,rfl⟩;rw[qbn]at qb HR;have qn0:=(show((F.kids.length:Int)==0)=decide (F.kids.length=0)from by rw[Bool.eq_iff_iff,beq_iff_eq,decide_eq_true_iff];omega);obtain⟨yn0,qn0n⟩: ∃b,decide (F.kids.length=0)=b:=⟨_,rfl⟩;rw[qn0n]at qn0 HR;obtain⟨xa,xc,ka,kc,rfl,HX,HK,hxc,hkc⟩:=flX_form hv.out;unfold flV;try unfold flV at qM
 try unfold flV at qMn
 try unfold flV at qn0
 try unfold flV at qn0n
 obtain⟨N,hN⟩: ∃N,F.kids.length=N:=⟨_,rfl⟩;have HN:=Lib.hid hN;obtain⟨M,hM⟩: ∃M,F.any.length=M:=⟨_,rfl⟩;have HM:=Lib.hid hM;have HFH:=Lib.hid (fitX_head hf.out);have hNb:N≤100000:=by rw[←hN];exact HFH.out.2.2.2.2.2.2
 have hMb:M≤100000:=by rw[←hM];exact HFH.out.2.2.2.2.1
 rw[hN]at hkc ⊢;try rw[hN]at qM
 try rw[hN]at qMn
 try rw[hN]at qn0
 try rw[hN]at qn0n
 rw[hM]at hxc ⊢;try rw[hM]at qM
 try rw[hM]at qMn
 try rw[hM]at qn0
 try rw[hM]at qn0n
 clear hN hM;obtain⟨W1,hW1⟩: ∃W,w.alloc (.cells #[.int .i64 F.kind,.string F.attr,.string F.value,.string F.first,.slice xa M xc,.string F.last,.slice ka N kc] 73)=W:=⟨_,rfl⟩;have hB1:Below w.heap.size w W1:=by rw[←hW1];exact(Below.refl _ _).alloc (Nat.le_refl _) _
 have HF1:Hid (R7 W1 w.heap.size (.int .i64 F.kind) (.string F.attr) (.string F.value) (.string F.first) (.slice xa M xc) (.string F.last) (.slice ka N kc)):=by rw[←hW1];exact r7_new _ _ _ _ _ _ _ _
 obtain⟨k0,k1,k2,k3,k4,k5,k6⟩:=r7_cells HF1.out;have HB1:=Lib.hid hB1;have hs1:=hB1.size;clear hB1;have HF2:=HF1;rw[hkd]at HF2 hW1 ⊢;clear HF1 k0 k1 k2 k3 k4 k5 k6 hkd;have HF1:=HF2;clear HF2;obtain⟨k0,k1,k2,k3,k4,k5,k6⟩:=r7_cells HF1.out;cases y3 with
 | false=>
  cases ya with
  | false=>go_enter Tryz.func179,Tryz.ntmps179;go_wp2_with fail;go_ret;exact⟨kt.ret_bool HR.out.symm,HB1.out⟩
  | true=>
   cases yb with
   | false=>go_enter Tryz.func179,Tryz.ntmps179;go_wp2_with fail;go_ret;exact⟨kt.ret_bool HR.out.symm,HB1.out⟩
   | true=>
    cases y2 with
    | false=>go_enter Tryz.func179,Tryz.ntmps179;go_wp2_with fail;go_ret;exact⟨kt.ret_bool HR.out.symm,HB1.out⟩
    | true=>go_enter Tryz.func179,Tryz.ntmps179;go_wp2_with fail;go_ret;exact⟨kt.ret_bool HR.out.symm,HB1.out⟩
 | true=>
  cases yM with
  | true=>
   cases ya with
   | false=>go_enter Tryz.func179,Tryz.ntmps179;go_wp2_with fail;go_ret;exact⟨kt.ret_bool HR.out.symm,HB1.out⟩
   | true=>
    cases yb with
    | false=>go_enter Tryz.func179,Tryz.ntmps179;go_wp2_with fail;go_ret;exact⟨kt.ret_bool HR.out.symm,HB1.out⟩
    | true=>
     cases y2 with
     | false=>go_enter Tryz.func179,Tryz.ntmps179;go_wp2_with fail;go_ret;exact⟨kt.ret_bool HR.out.symm,HB1.out⟩
     | true=>go_enter Tryz.func179,Tryz.ntmps179;go_wp2_with fail;go_ret;exact⟨kt.ret_bool HR.out.symm,HB1.out⟩
  | false=>
   cases y5 with
   | false=>
    cases ya with
    | false=>go_enter Tryz.func179,Tryz.ntmps179;go_wp2_with fail;go_ret;exact⟨kt.ret_bool HR.out.symm,HB1.out⟩
    | true=>
     cases yb with
     | false=>go_enter Tryz.func179,Tryz.ntmps179;go_wp2_with fail;go_ret;exact⟨kt.ret_bool HR.out.symm,HB1.out⟩
     | true=>
      cases y2 with
      | false=>go_enter Tryz.func179,Tryz.ntmps179;go_wp2_with fail;go_ret;exact⟨kt.ret_bool HR.out.symm,HB1.out⟩
      | true=>go_enter Tryz.func179,Tryz.ntmps179;go_wp2_with fail;go_ret;exact⟨kt.ret_bool HR.out.symm,HB1.out⟩
   | true=>
    cases ya with
    | false=>go_enter Tryz.func179,Tryz.ntmps179;go_wp2_with fail;go_ret;exact⟨kt.ret_bool HR.out.symm,HB1.out⟩
    | true=>
     cases yb with
     | false=>go_enter Tryz.func179,Tryz.ntmps179;go_wp2_with fail;go_ret;exact⟨kt.ret_bool HR.out.symm,HB1.out⟩
     | true=>
      cases y2 with
      | false=>go_enter Tryz.func179,Tryz.ntmps179;go_wp2_with fail;go_ret;exact⟨kt.ret_bool HR.out.symm,HB1.out⟩
      | true=>
       cases yn0 with
       | false=>go_enter Tryz.func179,Tryz.ntmps179;go_wp2_with fail;go_ret;exact⟨kt.ret_bool HR.out.symm,HB1.out⟩
       | true=>go_enter Tryz.func179,Tryz.ntmps179;go_wp2_with fail;go_ret;exact⟨kt.ret_bool HR.out.symm,HB1.out⟩
theorem one_kn (F:Fl)(v:Value)(w:World)(hv:Hid (FlX w v F))(hf:Hid (FitX F))(hk: ¬ (0≤F.kind∧F.kind≤8)):
  Calls Tryz.prog 179 #[v] w fun e w'=>e= .returned (.bool (oneF F))∧Below w.heap.size w w':=by
 have HR:=Lib.hid (rn_no F hk);obtain⟨R,hR⟩: ∃R,oneF F=R:=⟨_,rfl⟩;rw[hR]at HR ⊢;clear hR;have q3:=isE_list F.first;generalize isE F.first=y3 at q3;have q5:=isE_list F.last;generalize isE F.last=y5 at q5;have qM:=(show decide ((0:Int)<(F.any.length:Int))=decide (0<F.any.length)from by rw[decide_eq_decide];omega);obtain⟨yM,qMn⟩: ∃b,decide (0<F.any.length)=b:=⟨_,rfl⟩;rw[qMn]at qM;obtain⟨xa,xc,ka,kc,rfl,HX,HK,hxc,hkc⟩:=flX_form hv.out;unfold flV;try unfold flV at qM
 try unfold flV at qMn
 obtain⟨N,hN⟩: ∃N,F.kids.length=N:=⟨_,rfl⟩;have HN:=Lib.hid hN;obtain⟨M,hM⟩: ∃M,F.any.length=M:=⟨_,rfl⟩;have HM:=Lib.hid hM;have HFH:=Lib.hid (fitX_head hf.out);have hNb:N≤100000:=by rw[←hN];exact HFH.out.2.2.2.2.2.2
 have hMb:M≤100000:=by rw[←hM];exact HFH.out.2.2.2.2.1
 rw[hN]at hkc ⊢;try rw[hN]at qM
 try rw[hN]at qMn
 rw[hM]at hxc ⊢;try rw[hM]at qM
 try rw[hM]at qMn
 clear hN hM;obtain⟨W1,hW1⟩: ∃W,w.alloc (.cells #[.int .i64 F.kind,.string F.attr,.string F.value,.string F.first,.slice xa M xc,.string F.last,.slice ka N kc] 73)=W:=⟨_,rfl⟩;have hB1:Below w.heap.size w W1:=by rw[←hW1];exact(Below.refl _ _).alloc (Nat.le_refl _) _
 have HF1:Hid (R7 W1 w.heap.size (.int .i64 F.kind) (.string F.attr) (.string F.value) (.string F.first) (.slice xa M xc) (.string F.last) (.slice ka N kc)):=by rw[←hW1];exact r7_new _ _ _ _ _ _ _ _
 obtain⟨k0,k1,k2,k3,k4,k5,k6⟩:=r7_cells HF1.out;have HB1:=Lib.hid hB1;have hs1:=hB1.size;clear hB1;obtain⟨kd,hkd⟩: ∃k,F.kind=k:=⟨_,rfl⟩;have HF2:=HF1;rw[hkd]at HF2 hk hW1 ⊢;clear HF1 k0 k1 k2 k3 k4 k5 k6 hkd;have HF1:=HF2;clear HF2;obtain⟨k0,k1,k2,k3,k4,k5,k6⟩:=r7_cells HF1.out;have d0:(kd==0)=false:=by rw[beq_eq_false_iff_ne];omega
 have d1:(kd==1)=false:=by rw[beq_eq_false_iff_ne];omega
 have d2:(kd==2)=false:=by rw[beq_eq_false_iff_ne];omega
 have d3:(kd==3)=false:=by rw[beq_eq_false_iff_ne];omega
 have d4:(kd==4)=false:=by rw[beq_eq_false_iff_ne];omega
 have d5:(kd==5)=false:=by rw[beq_eq_false_iff_ne];omega
 have d6:(kd==6)=false:=by rw[beq_eq_false_iff_ne];omega
 have d7:(kd==7)=false:=by rw[beq_eq_false_iff_ne];omega
 have d8:(kd==8)=false:=by rw[beq_eq_false_iff_ne];omega
 clear hk;cases y3 with
 | false=>go_enter Tryz.func179,Tryz.ntmps179;go_wp2_with fail;go_ret;exact⟨kt.ret_bool HR.out.symm,HB1.out⟩
 | true=>
  cases yM with
  | true=>go_enter Tryz.func179,Tryz.ntmps179;go_wp2_with fail;go_ret;exact⟨kt.ret_bool HR.out.symm,HB1.out⟩
  | false=>
   cases y5 with
   | false=>go_enter Tryz.func179,Tryz.ntmps179;go_wp2_with fail;go_ret;exact⟨kt.ret_bool HR.out.symm,HB1.out⟩
   | true=>go_enter Tryz.func179,Tryz.ntmps179;go_wp2_with fail;go_ret;exact⟨kt.ret_bool HR.out.symm,HB1.out⟩
end flw
open Go.RowKit
namespace flw
open flp atp atw etp etw
open tupw (Strs strs_below)
theorem one_any (F:Fl)(v:Value)(w:World)(hv:Hid (FlX w v F))(hf:Hid (FitX F)):
  Calls Tryz.prog 179 #[v] w fun e w'=>e= .returned (.bool (oneF F))∧Below w.heap.size w w':=by
 by_cases hk:0≤F.kind∧F.kind≤8
 ·have hkk:F.kind=0∨F.kind=1∨F.kind=2∨F.kind=3∨F.kind=4∨F.kind=5∨F.kind=6∨F.kind=7∨F.kind=8:=by omega
  rcases hkk with h | h | h | h | h | h | h | h | h
  ·exact one_k0 F v w hv hf h
  ·exact one_k1 F v w hv hf h
  ·exact one_k2 F v w hv hf h
  ·exact one_k3 F v w hv hf h
  ·exact one_k4 F v w hv hf h
  ·exact one_k5 F v w hv hf h
  ·exact one_k6 F v w hv hf h
  ·exact one_k7 F v w hv hf h
  ·exact one_k8 F v w hv hf h
 ·exact one_kn F v w hv hf hk
def RCnt (o:Option Nat)(e:Ending):Prop:=match o with
 | some r=>e= .returned (.tuple #[.int .i64 ((40-r:Nat):Int),.bool true])
 | none=> ∃m:Int,e= .returned (.tuple #[.int .i64 m,.bool false])
theorem cntR_zero (d:Nat)(F:Fl):cntR d F 0=none:=by cases d<;>rfl
theorem cntR_one {d m:Nat}{F:Fl}(h:oneF F=true):cntR (d+1) F (m+1)=F.kids.foldlM (fun l k=>cntR d k l) m:=by show(if oneF F=true then _ else none)=_;rw[if_pos h]
theorem cntR_no {d m:Nat}{F:Fl}(h:oneF F=false):cntR (d+1) F (m+1)=none:=by show(if oneF F=true then _ else none)=_;rw[if_neg (by rw[h];decide)]
theorem fold_step {d m i:Nat}{l:List Fl}(hi:i<l.length):(l.drop i).foldlM (fun l k=>cntR d k l) m=match cntR d l[i] m with
  | some r=>(l.drop (i+1)).foldlM (fun l k=>cntR d k l) r
  | none=>none:=by
 rw[List.drop_eq_getElem_cons hi,List.foldlM_cons];cases cntR d l[i] m<;>rfl
theorem rcount_any: ∀ (d:Nat) (F:Fl) (v:Value) (dp n:Nat) (w:World),dp+d=9→n≤40→Hid (FlX w v F)→Hid (FitX F)→
  Calls Tryz.prog 112 #[v,.int .i64 (dp:Int),.int .i64 (n:Int)] w fun e w'=>RCnt (cntR d F (40-n)) e∧Below w.heap.size w w':=by
 intro d;induction d with
 | zero=>
  intro F v dp n w hd hn hv hf;obtain rfl:dp=9:=by omega
  have HR:Hid (cntR 0 F (40-n)=none):=rfl;rw[HR.out];clear HR;obtain⟨xa,xc,ka,kc,rfl,HX,HK,hxc,hkc⟩:=flX_form hv.out;unfold flV;obtain⟨N,hN⟩: ∃N,F.kids.length=N:=⟨_,rfl⟩;have HN:=Lib.hid hN;obtain⟨M,hM⟩: ∃M,F.any.length=M:=⟨_,rfl⟩;have HM:=Lib.hid hM;have HFH:=Lib.hid (fitX_head hf.out);have hNb:N≤100000:=by rw[←hN];exact HFH.out.2.2.2.2.2.2
  have hMb:M≤100000:=by rw[←hM];exact HFH.out.2.2.2.2.1
  rw[hN]at hkc ⊢;rw[hM]at hxc ⊢;clear hN hM;obtain⟨W1,hW1⟩: ∃W,w.alloc (.cells #[.int .i64 F.kind,.string F.attr,.string F.value,.string F.first,.slice xa M xc,.string F.last,.slice ka N kc] 73)=W:=⟨_,rfl⟩;have hB1:Below w.heap.size w W1:=by rw[←hW1];exact(Below.refl _ _).alloc (Nat.le_refl _) _
  have HF1:Hid (R7 W1 w.heap.size (.int .i64 F.kind) (.string F.attr) (.string F.value) (.string F.first) (.slice xa M xc) (.string F.last) (.slice ka N kc)):=by rw[←hW1];exact r7_new _ _ _ _ _ _ _ _
  obtain⟨k0,k1,k2,k3,k4,k5,k6⟩:=r7_cells HF1.out;have HB1:=Lib.hid hB1;have hs1:=hB1.size;clear hB1;by_cases h40:(40:Int)<(n:Int)+1
  ·go_enter Tryz.func112,Tryz.ntmps112;go_wp2_with fail;go_ret2;exact⟨⟨_,rfl⟩,HB1.out⟩
  ·go_enter Tryz.func112,Tryz.ntmps112;go_wp2_with fail;go_ret2;exact⟨⟨_,rfl⟩,HB1.out⟩
 | succ d ih=>
  intro F v dp n w hd hn hv hf;have hdp: ¬ (8:Int)<(dp:Int):=by omega
  have hdp0:(dp:Int)≤8:=by omega
  have IH:Hid (∀ (G:Fl) (u:Value) (r:Nat) (W:World),r≤40→FlX W u G→FitX G→Calls Tryz.prog 112 #[u,.int .i64 ((dp:Int)+1),.int .i64 (r:Int)] W fun e w'=>RCnt (cntR d G (40-r)) e∧Below W.heap.size W w'):=by intro G u r W hr hu hg;have:=ih G u (dp+1) r W (by omega) hr (Lib.hid hu) (Lib.hid hg);rw[show((dp+1:Nat):Int)=(dp:Int)+1 from by omega]at this;exact this
  clear ih hd;have HO0:Hid (∀W,Below w.heap.size w W→Calls Tryz.prog 179 #[v] W fun e w'=>e= .returned (.bool (oneF F))∧Below W.heap.size W w'):=fun W h=>one_any F v W (Lib.hid (flX_below hv.out h)) hf;by_cases h40:n=40
  ·have HR:=Lib.hid (cntR_zero (d+1) F);rw[h40,show 40-40=0 from rfl,HR.out];clear HR h40 hn;obtain⟨xa,xc,ka,kc,rfl,HX,HK,hxc,hkc⟩:=flX_form hv.out;unfold flV;obtain⟨N,hN⟩: ∃N,F.kids.length=N:=⟨_,rfl⟩;have HN:=Lib.hid hN;obtain⟨M,hM⟩: ∃M,F.any.length=M:=⟨_,rfl⟩;have HM:=Lib.hid hM;have HFH:=Lib.hid (fitX_head hf.out);have hNb:N≤100000:=(by rw[←hN];exact HFH.out.2.2.2.2.2.2);have hMb:M≤100000:=(by rw[←hM];exact HFH.out.2.2.2.2.1);rw[hN]at hkc ⊢;rw[hM]at hxc ⊢;clear hN hM;obtain⟨W1,hW1⟩: ∃W,w.alloc (.cells #[.int .i64 F.kind,.string F.attr,.string F.value,.string F.first,.slice xa M xc,.string F.last,.slice ka N kc] 73)=W:=⟨_,rfl⟩;have hB1:Below w.heap.size w W1:=(by rw[←hW1];exact(Below.refl _ _).alloc (Nat.le_refl _) _);have HF1:Hid (R7 W1 w.heap.size (.int .i64 F.kind) (.string F.attr) (.string F.value) (.string F.first) (.slice xa M xc) (.string F.last) (.slice ka N kc)):=(by rw[←hW1];exact r7_new _ _ _ _ _ _ _ _);obtain⟨k0,k1,k2,k3,k4,k5,k6⟩:=r7_cells HF1.out;have HB1:=Lib.hid hB1;have hs1:=hB1.size;clear hB1;go_enter Tryz.func112,Tryz.ntmps112;go_wp2_with fail;go_ret2;exact⟨⟨_,rfl⟩,HB1.out⟩
  ·obtain⟨m,hm⟩: ∃m,40-n=m+1:=⟨40-n-1,by omega⟩;have HR1:=Lib.hid (fun h=>cntR_one (d:=d) (m:=m) (F:=F) h);have HR0:=Lib.hid (fun h=>cntR_no (d:=d) (m:=m) (F:=F) h);obtain⟨R,hR⟩: ∃R,cntR (d+1) F (40-n)=R:=⟨_,rfl⟩;rw[←hm,hR]at HR1 HR0;rw[hR];obtain⟨n1,hn1⟩: ∃x,n+1=x:=⟨_,rfl⟩;have en:(n:Int)+1=(n1:Int):=(by omega);have hn41: ¬ (40:Int)<(n1:Int):=(by omega);have hn42:n1≤40:=(by omega);have HM1:Hid (m=40-n1):=(by show _=_;omega);clear hR hm h40 hn1;obtain⟨xa,xc,ka,kc,rfl,HX,HK,hxc,hkc⟩:=flX_form hv.out;unfold flV;try unfold flV at HO0
   obtain⟨N,hN⟩: ∃N,F.kids.length=N:=⟨_,rfl⟩;have HN:=Lib.hid hN;obtain⟨M,hM⟩: ∃M,F.any.length=M:=⟨_,rfl⟩;have HM:=Lib.hid hM;have HFH:=Lib.hid (fitX_head hf.out);have hNb:N≤100000:=(by rw[←hN];exact HFH.out.2.2.2.2.2.2);have hMb:M≤100000:=(by rw[←hM];exact HFH.out.2.2.2.2.1);rw[hN]at hkc ⊢;try rw[hN]at HO0
   rw[hM]at hxc ⊢;try rw[hM]at HO0
   clear hN hM;obtain⟨W1,hW1⟩: ∃W,w.alloc (.cells #[.int .i64 F.kind,.string F.attr,.string F.value,.string F.first,.slice xa M xc,.string F.last,.slice ka N kc] 73)=W:=⟨_,rfl⟩;have hB1:Below w.heap.size w W1:=(by rw[←hW1];exact(Below.refl _ _).alloc (Nat.le_refl _) _);have HF1:Hid (R7 W1 w.heap.size (.int .i64 F.kind) (.string F.attr) (.string F.value) (.string F.first) (.slice xa M xc) (.string F.last) (.slice ka N kc)):=(by rw[←hW1];exact r7_new _ _ _ _ _ _ _ _);obtain⟨k0,k1,k2,k3,k4,k5,k6⟩:=r7_cells HF1.out;have HB1:=Lib.hid hB1;have hs1:=hB1.size;clear hB1;have HO:=Lib.hid (HO0.out W1 HB1.out);clear HO0;obtain⟨ob,hob⟩: ∃b,oneF F=b:=⟨_,rfl⟩;rw[hob]at HO;have HOB:=Lib.hid hob;clear hob;cases ob with
   | false=>have HR:Hid (R=none):=HR0.out HOB.out;go_enter Tryz.func112,Tryz.ntmps112;go_wp2_with fail;refine HO.out.mono ?_;rintro e w2 ⟨rfl,hB2⟩;have HB2:=Lib.hid (HB1.out.trans (hB2.mono hs1));clear hB2 k0 k1 k2 k3 k4 k5 k6;go_wp2_with fail;go_ret2;exact⟨by rw[HR.out];exact⟨_,rfl⟩,HB2.out⟩
   | true=>
    have HR:Hid (R=F.kids.foldlM (fun l k=>cntR d k l) m):=HR1.out HOB.out;go_enter Tryz.func112,Tryz.ntmps112;go_wp2_with fail;refine HO.out.mono ?_;rintro e w2 ⟨rfl,hB2⟩;have HB2:=Lib.hid (HB1.out.trans (hB2.mono hs1));have HF2:=Lib.hid (r7_below HF1.out hB2);clear hB2 k0 k1 k2 k3 k4 k5 k6 HO;obtain⟨k0,k1,k2,k3,k4,k5,k6⟩:=r7_cells HF2.out;go_wp2_with fail;clear k0 k1 k2 k3 k4 k5 k6;go_loopw [2,8] (fun lv iv wr=> ∃ (i r:Nat),i≤N∧r≤40∧lv= .int .i64 (r:Int)∧iv= .int .i64 (i:Int)∧Hid (Below w.heap.size w wr)∧Hid (R7 wr w.heap.size (.int .i64 F.kind) (.string F.attr) (.string F.value) (.string F.first) (.slice xa M xc) (.string F.last) (.slice ka N kc))∧Hid (R=(F.kids.drop i).foldlM (fun l k=>cntR d k l) (40-r))) (fun _ iv _=>N- (intOf iv).toNat);case atStart=>exact⟨0,n1,Nat.zero_le _,hn42,rfl,rfl,HB2.out,HF2.out,by rw[HR.out,HM1.out];rfl⟩
    case round=>
     obtain⟨i,r,hi,hr,rfl,rfl,hB,hT,hJ⟩:=hrel;have HBw:=hB;have hsw:=hB.out.size;clear hB;obtain⟨k0,k1,k2,k3,k4,k5,k6⟩:=r7_cells hT.out;by_cases hlt:i<N
     ·have hltI:(i:Int)<(N:Int):=(by omega);have hil:i<F.kids.length:=(by rw[HN.out];exact hlt);obtain⟨b,o,ya,yc,la,lc,hao,hc,hkX⟩:=kidsX_at (kidsX_below HK.out HBw.out) i hil;subst hao;have HFK:=Lib.hid (fitX_kid hf.out (List.getElem_mem hil));obtain⟨G,hG⟩: ∃G,F.kids[i]=G:=⟨_,rfl⟩;have HG:=Lib.hid hG;rw[hG]at hc hkX HFK;clear hG;unfold flV at hkX;generalize G.any.length=m' at hc hkX;generalize G.kids.length=n' at hc hkX;obtain⟨c0,c1,c2,c3,c4,c5,c6⟩:=hc;have HKX:=Lib.hid hkX;clear hkX;have HST:=Lib.hid (fold_step (d:=d) (m:=40-r) hil);rw[HG.out]at HST;have HC:Hid (Calls Tryz.prog 112 #[.agg #[.int .i64 G.kind,.string G.attr,.string G.value,.string G.first,.slice ya m' yc,.string G.last,.slice la n' lc],.int .i64 ((dp:Int)+1),.int .i64 (r:Int)] wr fun e w'=>RCnt (cntR d G (40-r)) e∧Below wr.heap.size wr w'):=IH.out G _ r wr hr HKX.out HFK.out;have HLE:=Lib.hid (fun q h=>cntR_le (d:=d) (m:=40-r) (r:=q) (F:=G) h);cases hq:cntR d G (40-r)with
      | none=>rw[hq]at HST HC;have HR2:Hid (R=none):=hJ.out.trans HST.out;clear hq;go_wp2_with fail;refine HC.out.mono ?_;rintro e w3 ⟨⟨mm,rfl⟩,hB3⟩;have HB3:=Lib.hid (HBw.out.trans (hB3.mono hsw));clear hB3 c0 c1 c2 c3 c4 c5 c6 k0 k1 k2 k3 k4 k5 k6;go_wp2_with fail;go_ret2;exact⟨by rw[HR2.out];exact⟨_,rfl⟩,HB3.out⟩
      | some r2=>
       rw[hq]at HST HC;have hle:=HLE.out r2 hq;have HR2:Hid (R=(F.kids.drop (i+1)).foldlM (fun l k=>cntR d k l) r2):=hJ.out.trans HST.out;obtain⟨r3,hr3⟩: ∃x,40-r2=x:=⟨_,rfl⟩;have HR3:Hid (r2=40-r3):=(by show _=_;omega);have hr40:r3≤40:=(by omega);have HC2:Hid (Calls Tryz.prog 112 #[.agg #[.int .i64 G.kind,.string G.attr,.string G.value,.string G.first,.slice ya m' yc,.string G.last,.slice la n' lc],.int .i64 ((dp:Int)+1),.int .i64 (r:Int)] wr fun e w'=>e= .returned (.tuple #[.int .i64 (r3:Int),.bool true])∧Below wr.heap.size wr w'):=(by rw[←hr3];exact HC.out);clear hq hr3 hle HC;go_wp2_with fail;refine HC2.out.mono ?_;rintro e w3 ⟨rfl,hB3⟩;have HB3:=Lib.hid (HBw.out.trans (hB3.mono hsw));have HT3:=Lib.hid (r7_below hT.out hB3);clear hB3 c0 c1 c2 c3 c4 c5 c6 k0 k1 k2 k3 k4 k5 k6;go_wp2_with fail;go_roundw;case rel=>exact⟨i+1,r3,by omega,hr40,rfl,by go_num,HB3.out,HT3.out,by rw[HR2.out,HR3.out];rfl⟩
       case measure=>simp[intOf];omega
     ·obtain rfl:N=i:=(by omega);have HR2:Hid (R=some (40-r)):=(by show _=_;rw[hJ.out,←HN.out,List.drop_length];rfl);go_wp2_with fail;go_ret2;refine⟨?_,HBw.out⟩;rw[HR2.out];show _=Ending.returned (.tuple #[.int .i64 ((40- (40-r):Nat):Int),.bool true]);rw[show 40- (40-r)=r from by omega];rfl
theorem rright19_any (F:Fl)(v:Value)(w:World)(hv:Hid (FlX w v F))(hf:Hid (FitX F)):
  Calls Tryz.prog 47 #[v] w fun e w'=>e= .returned (.bool (rightF F))∧Below w.heap.size w w':=by
 have HC0:Hid (∀W,Below w.heap.size w W→Calls Tryz.prog 112 #[v,.int .i64 1,.int .i64 0] W fun e w'=>(∃m:Int,e= .returned (.tuple #[.int .i64 m,.bool (rightF F)]))∧Below W.heap.size W w'):=by
  intro W h;refine(rcount_any 8 F v 1 0 W rfl (by omega) (Lib.hid (flX_below hv.out h)) hf).mono fun e w' ⟨h1,h2⟩=>⟨?_,h2⟩;unfold rightF;cases hc:cntR 8 F 40 with
  | none=>rw[show 40-0=40 from rfl,hc]at h1;exact h1
  | some r=>rw[show 40-0=40 from rfl,hc]at h1;exact⟨_,h1⟩
 generalize rightF F=R at HC0 ⊢;obtain⟨xa,xc,ka,kc,rfl,HX,HK,hxc,hkc⟩:=flX_form hv.out;unfold flV;try unfold flV at HC0
 obtain⟨N,hN⟩: ∃N,F.kids.length=N:=⟨_,rfl⟩;have HN:=Lib.hid hN;obtain⟨M,hM⟩: ∃M,F.any.length=M:=⟨_,rfl⟩;have HM:=Lib.hid hM;have HFH:=Lib.hid (fitX_head hf.out);have hNb:N≤100000:=by rw[←hN];exact HFH.out.2.2.2.2.2.2
 have hMb:M≤100000:=by rw[←hM];exact HFH.out.2.2.2.2.1
 rw[hN]at hkc ⊢;try rw[hN]at HC0
 rw[hM]at hxc ⊢;try rw[hM]at HC0
 clear hN hM;obtain⟨W1,hW1⟩: ∃W,w.alloc (.cells #[.int .i64 F.kind,.string F.attr,.string F.value,.string F.first,.slice xa M xc,.string F.last,.slice ka N kc] 73)=W:=⟨_,rfl⟩;have hB1:Below w.heap.size w W1:=by rw[←hW1];exact(Below.refl _ _).alloc (Nat.le_refl _) _
 have HF1:Hid (R7 W1 w.heap.size (.int .i64 F.kind) (.string F.attr) (.string F.value) (.string F.first) (.slice xa M xc) (.string F.last) (.slice ka N kc)):=by rw[←hW1];exact r7_new _ _ _ _ _ _ _ _
 obtain⟨k0,k1,k2,k3,k4,k5,k6⟩:=r7_cells HF1.out;have HB1:=Lib.hid hB1;have hs1:=hB1.size;clear hB1;have HC:=Lib.hid (HC0.out W1 HB1.out);clear HC0;go_enter Tryz.func47,Tryz.ntmps47;go_wp2_with fail;refine HC.out.mono ?_;rintro e w2 ⟨⟨m,rfl⟩,hB2⟩;have HB2:=Lib.hid (HB1.out.trans (hB2.mono hs1));clear hB2 k0 k1 k2 k3 k4 k5 k6;go_wp2_with fail;go_ret;exact⟨rfl,HB2.out⟩
end flw
open Go.RowKit
namespace flw
open flp atp atw etp etw
open tupw (Strs strs_below)
open scw scp
theorem elS_below {w w':World}{v:Value}{l:List T}(h:ElS w v l)(hb:Below w.heap.size w w'):ElS w' v l:=by obtain⟨a,c,h1,h2,h3,h4⟩:=h;exact⟨a,c,h1,h2,strs_below h3 hb,h4⟩
theorem ask_asked {F:Fl}(h:rightF F=true):(flp.ask 60 F).foldl putL []=asked F:=by unfold asked;rw[if_pos h,ask_fuel (rightD_ok ((rightF_iff F).1 h).1) (by omega)]
theorem right19_law (F:Fl)(v:Value)(w:World)(hv:Hid (FlX w v F))(hE:Hid (EnvE w)):
  Calls Tryz.prog 11 #[v] w fun e w'=>e= .returned (.bool true)∧Below w.heap.size w w':=by
 have HAW0:Hid (∀W,Below w.heap.size w W→Calls Tryz.prog 45 #[] W fun e w'=>e= .returned (.bool true)∧Below W.heap.size W w'):=fun W h=>awake19_any W (Lib.hid (envE_below hE.out h));have HLO0:Hid (∀W,Below w.heap.size w W→Calls Tryz.prog 46 #[v] W fun e w'=>e= .returned (.bool (longF F))∧Below W.heap.size W w'):=fun W h=>long_any F v W (Lib.hid (flX_below hv.out h));have HRR0:Hid (longF F=false→ ∀W,Below w.heap.size w W→Calls Tryz.prog 47 #[v] W fun e w'=>e= .returned (.bool (rightF F))∧Below W.heap.size W w'):=fun hl W h=>rright19_any F v W (Lib.hid (flX_below hv.out h)) (Lib.hid ⟨60,(long_no hl).1⟩);have HRI0:Hid (longF F=false→ ∀W,Below w.heap.size w W→Calls Tryz.prog 49 #[v] W fun e w'=>e= .returned (.bool (rightF F))∧Below W.heap.size W w'):=fun hl W h=>right_any F v W (Lib.hid (flX_below hv.out h)) (Lib.hid ⟨60,(long_no hl).1⟩);have HCN0:Hid (longF F=false→ ∀W,Below w.heap.size w W→Calls Tryz.prog 48 #[v,.int .i64 0] W fun e w'=>e= .returned (.int .i64 ((cntN 60 F:Nat):Int))∧Below W.heap.size W w'):=fun hl W h=>by have h1:=lcount_any 60 F v 0 W (by have:=(long_no hl).2;omega) (fit_ok (long_no hl).1) (Lib.hid (flX_below hv.out h)) (Lib.hid ⟨60,(long_no hl).1⟩);rw[Nat.zero_add]at h1;exact h1
 have HSI0:Hid (longF F=false→ ∀W,Below w.heap.size w W→Calls Tryz.prog 57 #[v] W fun e w'=>e= .returned (.int .i64 ((min (cntN 60 F) 41:Nat):Int))∧Below W.heap.size W w'):=fun hl W h=>sizeF_any 60 F v W (fit_ok (long_no hl).1) (Lib.hid (flX_below hv.out h)) (Lib.hid ⟨60,(long_no hl).1⟩);have HAT0:Hid (longF F=false→ ∀W,Below w.heap.size w W→Calls Tryz.prog 55 #[v] W fun e w'=>(∃u,e= .returned u∧ElemAt w' u ((asked F).map bs))∧Below W.heap.size W w'):=fun hl W h=>(attrs_any F v W (Lib.hid (flX_below hv.out h)) (Lib.hid ⟨60,(long_no hl).1⟩) (Lib.hid (envE_below hE.out h))).mono fun e w' ⟨u,h1,h2,h3⟩=>⟨⟨u,h1,ownS_elem h2⟩,h3⟩;have HRA0:Hid (longF F=false→rightF F=true→ ∀ (lv:Value) W,ElS W lv []→Below w.heap.size w W→Calls Tryz.prog 56 #[v,lv] W fun e w'=>(∃u,e= .returned u∧ElS w' u (asked F))∧Below W.heap.size W w'):=fun hl hr lv W h0 h=>by refine(rattrs_any 60 F v lv [] W (by have:=(long_no hl).2;simp;omega) (fit_ok (long_no hl).1) (fun x hx=>by cases hx) (Lib.hid (flX_below hv.out h)) (Lib.hid ⟨60,(long_no hl).1⟩) (Lib.hid h0)).mono fun e w' ⟨u,h1,h2,h3⟩=>⟨⟨u,h1,?_⟩,h3⟩;rw[ask_asked hr]at h2;exact h2
 have HNO:Hid (rightF F=false→asked F=[]):=fun h=>by unfold asked;rw[if_neg (by rw[h];decide)]
 have HAL:=Lib.hid (asked_len F);have HCB:Hid (longF F=false→cntN 60 F≤5000):=fun hl=>(long_no hl).2;generalize longF F=lg at HLO0 HRR0 HRI0 HCN0 HSI0 HAT0 HRA0 HCB;generalize rightF F=ok at HRR0 HRI0 HRA0 HNO;generalize asked F=ns at HAT0 HRA0 HNO HAL;generalize cntN 60 F=n at HCN0 HSI0 HCB;obtain⟨xa,xc,ka,kc,rfl,HX,HK,hxc,hkc⟩:=flX_form hv.out;unfold flV;try unfold flV at HAW0
 try unfold flV at HLO0
 try unfold flV at HRR0
 try unfold flV at HRI0
 try unfold flV at HCN0
 try unfold flV at HSI0
 try unfold flV at HAT0
 try unfold flV at HRA0
 obtain⟨N,hN⟩: ∃N,F.kids.length=N:=⟨_,rfl⟩;have HN:=Lib.hid hN;obtain⟨M,hM⟩: ∃M,F.any.length=M:=⟨_,rfl⟩;have HM:=Lib.hid hM;rw[hN]at hkc ⊢;try rw[hN]at HAW0
 try rw[hN]at HLO0
 try rw[hN]at HRR0
 try rw[hN]at HRI0
 try rw[hN]at HCN0
 try rw[hN]at HSI0
 try rw[hN]at HAT0
 try rw[hN]at HRA0
 rw[hM]at hxc ⊢;try rw[hM]at HAW0
 try rw[hM]at HLO0
 try rw[hM]at HRR0
 try rw[hM]at HRI0
 try rw[hM]at HCN0
 try rw[hM]at HSI0
 try rw[hM]at HAT0
 try rw[hM]at HRA0
 clear hN hM;obtain⟨W1,hW1⟩: ∃W,w.alloc (.cells #[.int .i64 F.kind,.string F.attr,.string F.value,.string F.first,.slice xa M xc,.string F.last,.slice ka N kc] 73)=W:=⟨_,rfl⟩;have hB1:Below w.heap.size w W1:=by rw[←hW1];exact(Below.refl _ _).alloc (Nat.le_refl _) _
 have HF1:Hid (R7 W1 w.heap.size (.int .i64 F.kind) (.string F.attr) (.string F.value) (.string F.first) (.slice xa M xc) (.string F.last) (.slice ka N kc)):=by rw[←hW1];exact r7_new _ _ _ _ _ _ _ _
 obtain⟨k0,k1,k2,k3,k4,k5,k6⟩:=r7_cells HF1.out;have HB1:=Lib.hid hB1;have hs1:=hB1.size;clear hB1;have HAW:=Lib.hid (HAW0.out W1 HB1.out);clear HAW0;go_enter Tryz.func11,Tryz.ntmps11;go_wp2_with fail;refine HAW.out.mono ?_;rintro e w2 ⟨rfl,hB2⟩;have HB2:=Lib.hid (HB1.out.trans (hB2.mono hs1));have HF2:=Lib.hid (r7_below HF1.out hB2);clear hB2 k0 k1 k2 k3 k4 k5 k6 hW1 HAW;obtain⟨k0,k1,k2,k3,k4,k5,k6⟩:=r7_cells HF2.out;go_wp2_with fail;refine(HLO0.out w2 HB2.out).mono ?_;rintro e w3 ⟨rfl,hB3⟩;have HB3:=Lib.hid (HB2.out.trans (hB3.mono HB2.out.size));have HF3:=Lib.hid (r7_below HF2.out hB3);clear hB3 k0 k1 k2 k3 k4 k5 k6 HLO0;obtain⟨k0,k1,k2,k3,k4,k5,k6⟩:=r7_cells HF3.out;cases lg with
 | true=>go_wp2_with fail;go_ret;exact⟨rfl,HB3.out⟩
 | false=>
  have HRR:=HRR0.out rfl;have HRI:=Lib.hid (HRI0.out rfl);have HCN:=Lib.hid (HCN0.out rfl);have HSI:=Lib.hid (HSI0.out rfl);have HAT:=Lib.hid (HAT0.out rfl);have HRA:=Lib.hid (HRA0.out rfl);have hn5:=HCB.out rfl;clear HRR0 HRI0 HCN0 HSI0 HAT0 HRA0 HCB;obtain⟨m,hm⟩: ∃m,min n 41=m:=⟨_,rfl⟩;rw[hm]at HSI;have HMN:Hid ((n≤40→m=n)∧(¬n≤40→m=41)):=by show _∧_;omega
  clear hm;go_wp2_with fail;refine(HRR w3 HB3.out).mono ?_;rintro e w4 ⟨rfl,hB4⟩;have HB4:=Lib.hid (HB3.out.trans (hB4.mono HB3.out.size));have HF4:=Lib.hid (r7_below HF3.out hB4);clear hB4 k0 k1 k2 k3 k4 k5 k6 HRR;obtain⟨k0,k1,k2,k3,k4,k5,k6⟩:=r7_cells HF4.out;obtain⟨p,hp⟩: ∃p,w4.heap.size=p:=⟨_,rfl⟩;obtain⟨w5,hw5⟩: ∃W,w4.alloc (.cells #[] 9)=W:=⟨_,rfl⟩;have hB5:Below w4.heap.size w4 w5:=by rw[←hw5];exact(Below.refl _ _).alloc (Nat.le_refl _) _
  have HB5:=Lib.hid (HB4.out.trans (hB5.mono HB4.out.size));have HF5:=Lib.hid (r7_below HF4.out hB5);have NM5:Hid (ElS w5 (.slice (some ⟨p,0,none⟩) 0 0) []):=⟨_,0,rfl,Nat.le_refl _,(fun i hi=>absurd hi (Nat.not_lt_zero i)),Or.inr ⟨_,_,rfl⟩⟩;clear hB5 k0 k1 k2 k3 k4 k5 k6;obtain⟨k0,k1,k2,k3,k4,k5,k6⟩:=r7_cells HF5.out;cases ok with
  | false=>
   obtain rfl:=HNO.out rfl;clear HRA HNO;go_wp2_with fail;refine(HCN.out w5 HB5.out).mono ?_;rintro e w6 ⟨rfl,hB6⟩;have HB6:=Lib.hid (HB5.out.trans (hB6.mono HB5.out.size));have HF6:=Lib.hid (r7_below HF5.out hB6);have NM6:=Lib.hid (elS_below NM5.out hB6);clear hB6 k0 k1 k2 k3 k4 k5 k6 HCN;obtain⟨k0,k1,k2,k3,k4,k5,k6⟩:=r7_cells HF6.out;go_wp2_with fail;refine(HSI.out w6 HB6.out).mono ?_;rintro e w7 ⟨rfl,hB7⟩;have HB7:=Lib.hid (HB6.out.trans (hB7.mono HB6.out.size));have HF7:=Lib.hid (r7_below HF6.out hB7);have NM7:=Lib.hid (elS_below NM6.out hB7);clear hB7 k0 k1 k2 k3 k4 k5 k6 HSI;obtain⟨k0,k1,k2,k3,k4,k5,k6⟩:=r7_cells HF7.out;by_cases h40:n≤40
   ·obtain rfl:m=n:=HMN.out.1 h40;have h40a:(m:Int)≤40:=(by omega);have h40b: ¬ (40:Int)<(m:Int):=(by omega);clear HMN;go_wp2_with fail;refine(HRI.out w7 HB7.out).mono ?_;rintro e w8 ⟨rfl,hB8⟩;have HB8:=Lib.hid (HB7.out.trans (hB8.mono HB7.out.size));have HF8:=Lib.hid (r7_below HF7.out hB8);have NM8:=Lib.hid (elS_below NM7.out hB8);clear hB8 k0 k1 k2 k3 k4 k5 k6 HRI;obtain⟨k0,k1,k2,k3,k4,k5,k6⟩:=r7_cells HF8.out;go_wp2_with fail;refine(HAT.out w8 HB8.out).mono ?_;rintro e w9 ⟨⟨u,rfl,HU⟩,hB9⟩;have HB9:=Lib.hid (HB8.out.trans (hB9.mono HB8.out.size));have HF9:=Lib.hid (r7_below HF8.out hB9);have NM9:=Lib.hid (elS_below NM8.out hB9);clear hB9 k0 k1 k2 k3 k4 k5 k6 HAT;obtain⟨k0,k1,k2,k3,k4,k5,k6⟩:=r7_cells HF9.out;have HSA:=Lib.hid (sameE_any HU (elS_elem NM9.out) (by have:=HAL.out;omega));go_wp2_with fail;refine HSA.out.mono ?_;rintro e w10 ⟨rfl,hB10⟩;have HB10:=Lib.hid (HB9.out.trans (hB10.mono HB9.out.size));have HF10:=Lib.hid (r7_below HF9.out hB10);clear hB10 k0 k1 k2 k3 k4 k5 k6 HSA;obtain⟨k0,k1,k2,k3,k4,k5,k6⟩:=r7_cells HF10.out;go_wp2_with fail;go_ret;exact⟨rfl,HB10.out⟩
   ·obtain rfl:m=41:=HMN.out.2 h40;have h40a: ¬ (n:Int)≤40:=(by omega);have h40b:(40:Int)<(n:Int):=(by omega);clear HMN;go_wp2_with fail;refine(HRI.out w7 HB7.out).mono ?_;rintro e w8 ⟨rfl,hB8⟩;have HB8:=Lib.hid (HB7.out.trans (hB8.mono HB7.out.size));have HF8:=Lib.hid (r7_below HF7.out hB8);have NM8:=Lib.hid (elS_below NM7.out hB8);clear hB8 k0 k1 k2 k3 k4 k5 k6 HRI;obtain⟨k0,k1,k2,k3,k4,k5,k6⟩:=r7_cells HF8.out;go_wp2_with fail;refine(HAT.out w8 HB8.out).mono ?_;rintro e w9 ⟨⟨u,rfl,HU⟩,hB9⟩;have HB9:=Lib.hid (HB8.out.trans (hB9.mono HB8.out.size));have HF9:=Lib.hid (r7_below HF8.out hB9);have NM9:=Lib.hid (elS_below NM8.out hB9);clear hB9 k0 k1 k2 k3 k4 k5 k6 HAT;obtain⟨k0,k1,k2,k3,k4,k5,k6⟩:=r7_cells HF9.out;have HSA:=Lib.hid (sameE_any HU (elS_elem NM9.out) (by have:=HAL.out;omega));go_wp2_with fail;refine HSA.out.mono ?_;rintro e w10 ⟨rfl,hB10⟩;have HB10:=Lib.hid (HB9.out.trans (hB10.mono HB9.out.size));have HF10:=Lib.hid (r7_below HF9.out hB10);clear hB10 k0 k1 k2 k3 k4 k5 k6 HSA;obtain⟨k0,k1,k2,k3,k4,k5,k6⟩:=r7_cells HF10.out;go_wp2_with fail;go_ret;exact⟨rfl,HB10.out⟩
  | true=>
   have HRT:=Lib.hid (HRA.out rfl _ w5 NM5.out HB5.out);clear HRA HNO NM5;go_wp2_with fail;refine HRT.out.mono ?_;rintro e w6 ⟨⟨nv,rfl,hNM⟩,hB6⟩;have HB6:=Lib.hid (HB5.out.trans (hB6.mono HB5.out.size));have HF6:=Lib.hid (r7_below HF5.out hB6);have NM6:=Lib.hid hNM;clear hB6 hNM k0 k1 k2 k3 k4 k5 k6 HRT;obtain⟨k0,k1,k2,k3,k4,k5,k6⟩:=r7_cells HF6.out;go_wp2_with fail;refine(HCN.out w6 HB6.out).mono ?_;rintro e w7 ⟨rfl,hB7⟩;have HB7:=Lib.hid (HB6.out.trans (hB7.mono HB6.out.size));have HF7:=Lib.hid (r7_below HF6.out hB7);have NM7:=Lib.hid (elS_below NM6.out hB7);clear hB7 k0 k1 k2 k3 k4 k5 k6 HCN;obtain⟨k0,k1,k2,k3,k4,k5,k6⟩:=r7_cells HF7.out;go_wp2_with fail;refine(HSI.out w7 HB7.out).mono ?_;rintro e w8 ⟨rfl,hB8⟩;have HB8:=Lib.hid (HB7.out.trans (hB8.mono HB7.out.size));have HF8:=Lib.hid (r7_below HF7.out hB8);have NM8:=Lib.hid (elS_below NM7.out hB8);clear hB8 k0 k1 k2 k3 k4 k5 k6 HSI;obtain⟨k0,k1,k2,k3,k4,k5,k6⟩:=r7_cells HF8.out;by_cases h40:n≤40
   ·obtain rfl:m=n:=HMN.out.1 h40;have h40a:(m:Int)≤40:=(by omega);have h40b: ¬ (40:Int)<(m:Int):=(by omega);clear HMN;go_wp2_with fail;refine(HRI.out w8 HB8.out).mono ?_;rintro e w9 ⟨rfl,hB9⟩;have HB9:=Lib.hid (HB8.out.trans (hB9.mono HB8.out.size));have HF9:=Lib.hid (r7_below HF8.out hB9);have NM9:=Lib.hid (elS_below NM8.out hB9);clear hB9 k0 k1 k2 k3 k4 k5 k6 HRI;obtain⟨k0,k1,k2,k3,k4,k5,k6⟩:=r7_cells HF9.out;go_wp2_with fail;refine(HAT.out w9 HB9.out).mono ?_;rintro e w10 ⟨⟨u,rfl,HU⟩,hB10⟩;have HB10:=Lib.hid (HB9.out.trans (hB10.mono HB9.out.size));have HF10:=Lib.hid (r7_below HF9.out hB10);have NM10:=Lib.hid (elS_below NM9.out hB10);clear hB10 k0 k1 k2 k3 k4 k5 k6 HAT;obtain⟨k0,k1,k2,k3,k4,k5,k6⟩:=r7_cells HF10.out;have HSA:=Lib.hid (sameE_any HU (elS_elem NM10.out) (by have:=HAL.out;omega));go_wp2_with fail;refine HSA.out.mono ?_;rintro e w11 ⟨rfl,hB11⟩;have HB11:=Lib.hid (HB10.out.trans (hB11.mono HB10.out.size));have HF11:=Lib.hid (r7_below HF10.out hB11);clear hB11 k0 k1 k2 k3 k4 k5 k6 HSA;obtain⟨k0,k1,k2,k3,k4,k5,k6⟩:=r7_cells HF11.out;go_wp2_with fail;go_ret;exact⟨rfl,HB11.out⟩
   ·obtain rfl:m=41:=HMN.out.2 h40;have h40a: ¬ (n:Int)≤40:=(by omega);have h40b:(40:Int)<(n:Int):=(by omega);clear HMN;go_wp2_with fail;refine(HRI.out w8 HB8.out).mono ?_;rintro e w9 ⟨rfl,hB9⟩;have HB9:=Lib.hid (HB8.out.trans (hB9.mono HB8.out.size));have HF9:=Lib.hid (r7_below HF8.out hB9);have NM9:=Lib.hid (elS_below NM8.out hB9);clear hB9 k0 k1 k2 k3 k4 k5 k6 HRI;obtain⟨k0,k1,k2,k3,k4,k5,k6⟩:=r7_cells HF9.out;go_wp2_with fail;refine(HAT.out w9 HB9.out).mono ?_;rintro e w10 ⟨⟨u,rfl,HU⟩,hB10⟩;have HB10:=Lib.hid (HB9.out.trans (hB10.mono HB9.out.size));have HF10:=Lib.hid (r7_below HF9.out hB10);have NM10:=Lib.hid (elS_below NM9.out hB10);clear hB10 k0 k1 k2 k3 k4 k5 k6 HAT;obtain⟨k0,k1,k2,k3,k4,k5,k6⟩:=r7_cells HF10.out;have HSA:=Lib.hid (sameE_any HU (elS_elem NM10.out) (by have:=HAL.out;omega));go_wp2_with fail;refine HSA.out.mono ?_;rintro e w11 ⟨rfl,hB11⟩;have HB11:=Lib.hid (HB10.out.trans (hB11.mono HB10.out.size));have HF11:=Lib.hid (r7_below HF10.out hB11);clear hB11 k0 k1 k2 k3 k4 k5 k6 HSA;obtain⟨k0,k1,k2,k3,k4,k5,k6⟩:=r7_cells HF11.out;go_wp2_with fail;go_ret;exact⟨rfl,HB11.out⟩
end flw
open Go.RowKit Go.ChangeShapes Go.WideShapes Go.Deep
namespace opn
theorem cell_spot {w:World}{b o:Nat}{sp:Option Nat}{v:Value}(h:w.cell? ⟨b,o,sp⟩=some v):sp=none:=by
 cases sp with
 | none=>rfl
 | some x=>unfold World.cell? at h;simp at h;split at h<;>cases h
theorem list_of {α:Type}{Q:Nat→α→Prop}: ∀ (n:Nat),(∀i,i<n→ ∃c,Q i c)→ ∃l:List α,l.length=n∧ ∀i (h:i<l.length),Q i l[i]:=by
 intro n;induction n with
 | zero=>intro _;exact⟨[],rfl,fun i h=>by simp at h⟩
 | succ n ih=>
  intro h;obtain⟨l,hl,hq⟩:=ih (fun i hi=>h i (by omega));obtain⟨c,hc⟩:=h n (by omega);refine⟨l++[c],by simp[hl],fun i hi=> ?_⟩;by_cases e:i<l.length
  ·rw[List.getElem_append_left e];exact hq i e
  ·have:i=n:=(by simp at hi;omega);subst this;rw[List.getElem_append_right (by omega)];simpa using hc
section
variable {H : Type} {enc : TypeId × Value → H} {P : Program} {w : World} {base : Nat} {spare : Nat → Bool} {held : Bool}
end
end opn
open Go.RowKit
namespace tupo
open tupw
theorem cell_spot {w:World}{b o:Nat}{sp:Option Nat}{v:Value}(h:w.cell? ⟨b,o,sp⟩=some v):sp=none:=by
 cases sp with
 | none=>rfl
 | some x=>unfold World.cell? at h;simp at h;split at h<;>cases h
theorem texts_of {H:Type}{enc:TypeId × Value→H}{P:Program}{w:World}{base:Nat}{sp:Nat→Bool}{held:Bool}{t e:TypeId}{d:DataW H}{p:List MemPlace}{ao:Option Addr}{len cap:Nat}
  (ht:P.underlying t=some (.slice e)) (he:P.underlying e=some .string) (hc:P.cellsOf e=1)
  (h: ∃fuel,DataW.trod enc P w base sp held fuel t [.slice ao len cap]=some (d,p)): ∃l:List ByteArray,len=l.length∧Strs w ao l∧(∀s∈l,s.size≤maxLen)∧len≤maxLen∧len≤cap∧(ao=none→len=0∧cap=0):=by
 obtain⟨fuel,h⟩:=h;rcases ChangeShapes.open_strings ht he hc h with⟨hcs,_⟩ | ⟨a,len',cap',ss,hcs,_,hlc,hcm,hlen,_,hcell,hsm⟩
 ·simp at hcs;obtain⟨rfl,rfl,rfl⟩:=hcs;exact⟨[],rfl,fun i hi=>by simp at hi,fun s hs=>by simp at hs,by omega,by omega,fun _=>⟨rfl,rfl⟩⟩
 ·simp at hcs;obtain⟨rfl,rfl,rfl⟩:=hcs;have hle:len≤ss.length:=by rw[hlen];split<;>omega
  refine⟨ss.take len,by simp;omega,fun i hi=> ?_,fun s hs=>hsm s (List.mem_of_mem_take hs),by omega,hlc,fun e=>by simp at e⟩;have hi':i<len:=by simp at hi;omega
  have hc2:=hcell i (by omega);obtain⟨b,o,spt⟩:=a;have hsp:spt=none:=by
   cases spt with
   | none=>rfl
   | some x=>exfalso;have hz:=hcell 0 (by omega);have e0:(⟨b,o,some x⟩:Addr).add 0=⟨b,o,some x⟩:=(by unfold Addr.add;rfl);rw[e0]at hz;exact absurd (cell_spot hz) (by simp)
  subst hsp;refine⟨b,o,rfl,?_⟩;rw[Addr.add_mid]at hc2;rw[hc2,List.getElem_take];simp[List.getD,List.getElem?_eq_getElem (show i<ss.length by omega)]
end tupo
open Go.RowKit Go.ChangeShapes Go.WideShapes Go.Deep
namespace etw
open etp
open dnw (Av Avas)
open tupw (Strs)
theorem strs_any {H:Type}{enc:TypeId × Value→H}{w:World}{base:Nat}{sp:Nat→Bool}{held:Bool}{cs:List Value}{x:DataW H × List MemPlace}{fuel:Nat}
  (h:DataW.trod enc Tryz.prog w base sp held fuel 35 cs=some x): ∃ (ao:Option Addr) (l:List ByteArray) (cap:Nat),cs=[.slice ao l.length cap]∧l.length≤cap∧l.length≤9223372036854775807∧Strs w ao l:=by
 obtain⟨ao,len,cap,hcs⟩: ∃ao len cap,cs=[.slice ao len cap]:=by
  rcases ChangeShapes.open_strings Tryz.underlying35 Tryz.underlying9 (by kernel_rfl) h with⟨hcs,_⟩ | ⟨a,len',cap',ss,hcs,_⟩
  ·exact⟨_,_,_,hcs⟩
  ·exact⟨_,_,_,hcs⟩
 subst hcs;obtain⟨d,p⟩:=x;obtain⟨l,hlen,hS,_,hm,hc,_⟩:=tupo.texts_of Tryz.underlying35 Tryz.underlying9 (by kernel_rfl) ⟨fuel,h⟩;subst hlen;unfold maxLen at hm;exact⟨ao,l,cap,rfl,hc,by omega,hS⟩
end etw
end Go.Proofs.YtmnpfkbjpeaemaaGreatDoor
