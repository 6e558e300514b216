/- One text out of several: FilT, BdW, ELongW, SchD, SchE, FilL, FilS, Same, FilZ, FilU, FilUa. -/
import Derived.Test.YtmnpfkbjpeaemaaGreatDoorN9
import Derived.Test.YtmnpfkbjpeaemaaGreatDoorN7
import Derived.Lib.SmallJoins
import Derived.Test.YtmnpfkbjpeaemaaGreatDoorN8
import Derived.Shelf.SlicesE.DeleteFunc
import Derived.Shelf.SlicesE.IndexFunc
import Derived.Test.YtmnpfkbjpeaemaaGreatDoorProg
import Derived.Test.YtmnpfkbjpeaemaaGreatDoorN6
import Derived.Test.YtmnpfkbjpeaemaaGreatDoorN11
import Derived.Test.YtmnpfkbjpeaemaaGreatDoorN5
import Derived.Test.YtmnpfkbjpeaemaaGreatDoorRows
import Derived.Deep.QuietTactic
import Derived.BigQuiet
import Derived.Test.YtmnpfkbjpeaemaaGreatDoorN1
import Derived.Test.YtmnpfkbjpeaemaaGreatDoorN4
set_option linter.unusedVariables false
set_option linter.unusedSimpArgs false
set_option maxRecDepth 20000
set_option maxHeartbeats 16000000
namespace Go.Proofs.YtmnpfkbjpeaemaaGreatDoor
open Go.RowKit
namespace flw
open flp atp atw etp etw
open tupw (Strs strs_below)
theorem cap_min (n:Nat):min (n:Int) 5001=((cap5 n:Nat):Int):=by unfold cap5;omega
theorem weigh_any: ∀ (d:Nat) (F:Fl) (v:Value) (n dp:Nat) (w:World),n≤5000→dp+d=61→Hid (FlX w v F)→
  Calls Tryz.prog 111 #[v,.int .i64 (n:Int),.int .i64 (dp:Int)] w fun e w'=>e= .returned (.int .i64 ((weighF d F n:Nat):Int))∧Below w.heap.size w w':=by
 intro d;induction d with
 | zero=>
  intro F v n dp w hn hd hv;obtain rfl:dp=61:=by omega
  obtain⟨xa,xc,ka,kc,rfl,HX,HK,hxc,hkc⟩:=flX_form hv.out;unfold flV;obtain⟨N,hN⟩: ∃N,F.kids.length=N:=⟨_,rfl⟩;have HN:=Lib.hid hN;obtain⟨M,hM⟩: ∃M,F.any.length=M:=⟨_,rfl⟩;have HM:=Lib.hid hM;rw[hN]at hkc ⊢;rw[hM]at hxc ⊢;clear hN hM;obtain⟨W1,hW1⟩: ∃W,w.alloc (.cells #[.int .i64 F.kind,.string F.attr,.string F.value,.string F.first,.slice xa M xc,.string F.last,.slice ka N kc] 73)=W:=⟨_,rfl⟩;have hB1:Below w.heap.size w W1:=by rw[←hW1];exact(Below.refl _ _).alloc (Nat.le_refl _) _
  have HF1:Hid (R7 W1 w.heap.size (.int .i64 F.kind) (.string F.attr) (.string F.value) (.string F.first) (.slice xa M xc) (.string F.last) (.slice ka N kc)):=by rw[←hW1];exact r7_new _ _ _ _ _ _ _ _
  obtain⟨k0,k1,k2,k3,k4,k5,k6⟩:=r7_cells HF1.out;have HB1:=Lib.hid hB1;have hs1:=hB1.size;clear hB1;go_enter Tryz.func111,Tryz.ntmps111;go_wp2_with fail;go_ret;exact⟨rfl,HB1.out⟩
 | succ d ih=>
  intro F v n dp w hn hd hv;have hdp: ¬ (60:Int)<(dp:Int):=by omega
  have hdp0:(dp:Int)≤60:=by omega
  have IH:Hid (∀ (G:Fl) (u:Value) (r:Nat) (W:World),r≤5000→FlX W u G→Calls Tryz.prog 111 #[u,.int .i64 (r:Int),.int .i64 ((dp:Int)+1)] W fun e w'=>e= .returned (.int .i64 ((weighF d G r:Nat):Int))∧Below W.heap.size W w'):=by intro G u r W hr hu;have:=ih G u r (dp+1) W hr (by omega) (Lib.hid hu);rw[show((dp+1:Nat):Int)=(dp:Int)+1 from by omega]at this;exact this
  have HLE:Hid (∀ (G:Fl) (r:Nat),r≤5000→weighF d G r≤60000):=fun G r h=>weigh_le d G r h;clear ih hd;have HR:Hid (weighF (d+1) F n=kidsW (weighF d) (anyW (n+headW F) F.any) F.kids):=rfl;obtain⟨R,hR⟩: ∃R,weighF (d+1) F n=R:=⟨_,rfl⟩;rw[hR]at HR ⊢;clear hR;have e1:=cap_min F.attr.size;have e2:=cap_min F.value.size;have e3:=cap_min F.first.size;have e4:=cap_min F.last.size;have b1:=cap5_le F.attr.size;have b2:=cap5_le F.value.size;have b3:=cap5_le F.first.size;have b4:=cap5_le F.last.size;have HH:Hid (headW F=1+cap5 F.attr.size+cap5 F.value.size+cap5 F.first.size+cap5 F.last.size):=rfl;generalize cap5 F.attr.size=a1 at e1 b1 HH;generalize cap5 F.value.size=a2 at e2 b2 HH;generalize cap5 F.first.size=a3 at e3 b3 HH;generalize cap5 F.last.size=a4 at e4 b4 HH;generalize headW F=h0 at HH HR;obtain⟨xa,xc,ka,kc,rfl,HX,HK,hxc,hkc⟩:=flX_form hv.out;unfold flV;obtain⟨N,hN⟩: ∃N,F.kids.length=N:=⟨_,rfl⟩;have HN:=Lib.hid hN;obtain⟨M,hM⟩: ∃M,F.any.length=M:=⟨_,rfl⟩;have HM:=Lib.hid hM;rw[hN]at hkc ⊢;rw[hM]at hxc ⊢;clear hN hM;obtain⟨W1,hW1⟩: ∃W,w.alloc (.cells #[.int .i64 F.kind,.string F.attr,.string F.value,.string F.first,.slice xa M xc,.string F.last,.slice ka N kc] 73)=W:=⟨_,rfl⟩;have hB1:Below w.heap.size w W1:=by rw[←hW1];exact(Below.refl _ _).alloc (Nat.le_refl _) _
  have HF1:Hid (R7 W1 w.heap.size (.int .i64 F.kind) (.string F.attr) (.string F.value) (.string F.first) (.slice xa M xc) (.string F.last) (.slice ka N kc)):=by rw[←hW1];exact r7_new _ _ _ _ _ _ _ _
  obtain⟨k0,k1,k2,k3,k4,k5,k6⟩:=r7_cells HF1.out;have HB1:=Lib.hid hB1;have hs1:=hB1.size;clear hB1;go_enter Tryz.func111,Tryz.ntmps111;go_wp2_with fail;clear k0 k1 k2 k3 k4 k5 k6 e1 e2 e3 e4;go_loopw [1,7] (fun lv iv wr=> ∃ (i a:Nat),i≤M∧i≤a∧a≤26000∧lv= .int .i64 (a:Int)∧iv= .int .i64 (i:Int)∧Hid (Below w.heap.size w wr)∧Hid (R7 wr w.heap.size (.int .i64 F.kind) (.string F.attr) (.string F.value) (.string F.first) (.slice xa M xc) (.string F.last) (.slice ka N kc))∧Hid (R=kidsW (weighF d) (anyW a (F.any.drop i)) F.kids)) (fun _ iv _=>M- (intOf iv).toNat);case atStart=>exact⟨0,n+h0,Nat.zero_le _,Nat.zero_le _,(by have:=HH.out;omega),congrArg (Value.int .i64) (by have:=HH.out;omega),rfl,HB1.out,HF1.out,HR.out⟩
  case round=>
   obtain⟨i,a,hi,hia,ha,rfl,rfl,hB,hT,hJ⟩:=hrel;have HBw:=hB;have hsw:=hB.out.size;clear hB;obtain⟨k0,k1,k2,k3,k4,k5,k6⟩:=r7_cells hT.out;by_cases hlt:i<M
   ·have hltI:(i:Int)<(M:Int):=(by omega);by_cases h5:a≤5000
    ·have h5I:(a:Int)≤5000:=(by omega);have hil:i<F.any.length:=(by rw[HM.out];exact hlt);obtain⟨b,o,hao,hc0⟩:=(strs_below HX.out HBw.out) i hil;subst hao;have HST:=Lib.hid (anyW_step h5 hil);obtain⟨x,hx⟩: ∃x,F.any[i]=x:=⟨_,rfl⟩;rw[hx]at hc0 HST;clear hx;have e1:=cap_min x.size;have b1:=cap5_le x.size;generalize cap5 x.size=c1 at e1 b1 HST;have HJ2:Hid (R=kidsW (weighF d) (anyW (a+1+c1) (F.any.drop (i+1))) F.kids):=(by show _=_;rw[hJ.out,HST.out]);go_wp2_with fail;go_roundw;case rel=>exact⟨i+1,a+1+c1,by omega,by omega,by omega,congrArg (Value.int .i64) (by omega),by go_num,HBw.out,hT.out,HJ2.out⟩
     case measure=>simp[intOf];omega
    ·have h5I: ¬ (a:Int)≤5000:=(by omega);have HK1:Hid (R=a):=(by show _=_;rw[hJ.out,anyW_stop h5,kidsW_stop h5]);clear hJ;go_wp2_with fail;clear k0 k1 k2 k3 k4 k5 k6;go_loopw [1,8] (fun lv iv wi=>lv= .int .i64 (a:Int)∧iv= .int .i64 ((0:Nat):Int)∧Hid (Below w.heap.size w wi)∧Hid (R7 wi w.heap.size (.int .i64 F.kind) (.string F.attr) (.string F.value) (.string F.first) (.slice xa M xc) (.string F.last) (.slice ka N kc))) (fun _ iv _=>0);case atStart=>exact⟨rfl,rfl,HBw.out,hT.out⟩
     case round=>
      obtain⟨rfl,rfl,hB,hT⟩:=hrel;obtain⟨k0,k1,k2,k3,k4,k5,k6⟩:=r7_cells hT.out;by_cases hN0:0<N
      ·have hN1:(0:Int)<(N:Int):=(by omega);go_wp2_with fail;go_ret;exact⟨kt.ret_int (by rw[HK1.out]),hB.out⟩
      ·have hN1: ¬ (0:Int)<(N:Int):=(by omega);go_wp2_with fail;go_ret;exact⟨kt.ret_int (by rw[HK1.out]),hB.out⟩
   ·obtain rfl:M=i:=(by omega);have HJ2:Hid (R=kidsW (weighF d) a F.kids):=(by show _=_;rw[hJ.out,←HM.out,List.drop_length];rfl);clear hJ;go_wp2_with fail;clear k0 k1 k2 k3 k4 k5 k6;go_loopw [1,8] (fun lv iv wi=> ∃ (i a:Nat),i≤N∧i≤a∧a≤60000∧lv= .int .i64 (a:Int)∧iv= .int .i64 (i:Int)∧Hid (Below w.heap.size w wi)∧Hid (R7 wi w.heap.size (.int .i64 F.kind) (.string F.attr) (.string F.value) (.string F.first) (.slice xa M xc) (.string F.last) (.slice ka N kc))∧Hid (R=kidsW (weighF d) a (F.kids.drop i))) (fun _ iv _=>N- (intOf iv).toNat);case atStart=>exact⟨0,a,Nat.zero_le _,Nat.zero_le _,by omega,rfl,rfl,HBw.out,hT.out,HJ2.out⟩
    case round=>
     obtain⟨i,a,hi,hia,ha,rfl,rfl,hB,hT,hJ⟩:=hrel;clear HBw;have HBw:=hB;have hsw:=hB.out.size;clear hB;obtain⟨k0,k1,k2,k3,k4,k5,k6⟩:=r7_cells hT.out;by_cases hlt:i<N
     ·by_cases h5:a≤5000
      ·have h5I:(a:Int)≤5000:=(by omega);have hltI:(i:Int)<(N:Int):=(by omega);have hil:i<F.kids.length:=(by rw[HN.out];exact hlt);obtain⟨b,o,ya,yc,la,lc,hao,hc,hkX⟩:=kidsX_at (kidsX_below HK.out HBw.out) i hil;subst hao;obtain⟨G,hG⟩: ∃G,F.kids[i]=G:=⟨_,rfl⟩;have HG:=Lib.hid hG;rw[hG]at hc hkX;clear hG;unfold flV at hkX;generalize G.any.length=m' at hc hkX;generalize G.kids.length=n' at hc hkX;obtain⟨c0,c1,c2,c3,c4,c5,c6⟩:=hc;have HKX:=Lib.hid hkX;clear hkX;have HST:=Lib.hid (kidsW_step (f:=weighF d) h5 hil);rw[HG.out]at HST;have HC:Hid (Calls Tryz.prog 111 #[.agg #[.int .i64 G.kind,.string G.attr,.string G.value,.string G.first,.slice ya m' yc,.string G.last,.slice la n' lc],.int .i64 (a:Int),.int .i64 ((dp:Int)+1)] wr fun e w'=>e= .returned (.int .i64 ((weighF d G a:Nat):Int))∧Below wr.heap.size wr w'):=IH.out G _ a wr h5 HKX.out;have hb:=HLE.out G a h5;have HGE:Hid (weighF d G a≤5000→a+1≤weighF d G a):=fun h=>by have:=weigh_fit d G a h;omega
       obtain⟨c,hc⟩: ∃c,weighF d G a=c:=⟨_,rfl⟩;rw[hc]at HC HST hb HGE;have hac:i+1≤c:=by
        by_cases h6:c≤5000
        ·have:=HGE.out h6;omega
        ·omega
       have HJ2:Hid (R=kidsW (weighF d) c (F.kids.drop (i+1))):=(by show _=_;rw[hJ.out,HST.out]);clear hc;go_wp2_with fail;refine HC.out.mono ?_;rintro e w3 ⟨rfl,hB3⟩;have HB3:=Lib.hid (HBw.out.trans (hB3.mono hsw));have HT3:=Lib.hid (r7_below hT.out hB3);clear hB3 c0 c1 c2 c3 c4 c5 c6 k0 k1 k2 k3 k4 k5 k6;go_wp2_with fail;go_roundw;case rel=>exact⟨i+1,c,by omega,hac,hb,rfl,by go_num,HB3.out,HT3.out,HJ2.out⟩
       case measure=>simp[intOf];omega
      ·have h5I: ¬ (a:Int)≤5000:=(by omega);have hltI:(i:Int)<(N:Int):=(by omega);have HR2:Hid (R=a):=(by show _=_;rw[hJ.out,kidsW_stop h5]);go_wp2_with fail;go_ret;exact⟨kt.ret_int (by rw[HR2.out]),HBw.out⟩
     ·obtain rfl:N=i:=(by omega);have HR2:Hid (R=a):=(by show _=_;rw[hJ.out,←HN.out,List.drop_length];rfl);go_wp2_with fail;go_ret;exact⟨kt.ret_int (by rw[HR2.out]),HBw.out⟩
theorem long_any (F:Fl)(v:Value)(w:World)(hv:Hid (FlX w v F)):
  Calls Tryz.prog 46 #[v] w fun e w'=>e= .returned (.bool (longF F))∧Below w.heap.size w w':=by
 have HC0:Hid (∀W,Below w.heap.size w W→Calls Tryz.prog 111 #[v,.int .i64 0,.int .i64 1] W fun e w'=>e= .returned (.int .i64 ((weighF 60 F 0:Nat):Int))∧Below W.heap.size W w'):=fun W h=>weigh_any 60 F v 0 1 W (by omega) rfl (Lib.hid (flX_below hv.out h));have HR:Hid (decide ((5000:Int)<((weighF 60 F 0:Nat):Int))=longF F):=by show _=_;unfold longF;rw[decide_eq_decide];omega
 generalize weighF 60 F 0=c at HC0 HR;generalize longF F=R at HR ⊢;obtain⟨xa,xc,ka,kc,rfl,HX,HK,hxc,hkc⟩:=flX_form hv.out;unfold flV;try unfold flV at HC0
 obtain⟨N,hN⟩: ∃N,F.kids.length=N:=⟨_,rfl⟩;have HN:=Lib.hid hN;obtain⟨M,hM⟩: ∃M,F.any.length=M:=⟨_,rfl⟩;have HM:=Lib.hid hM;rw[hN]at hkc ⊢;try rw[hN]at HC0
 rw[hM]at hxc ⊢;try rw[hM]at HC0
 clear hN hM;obtain⟨W1,hW1⟩: ∃W,w.alloc (.cells #[.int .i64 F.kind,.string F.attr,.string F.value,.string F.first,.slice xa M xc,.string F.last,.slice ka N kc] 73)=W:=⟨_,rfl⟩;have hB1:Below w.heap.size w W1:=by rw[←hW1];exact(Below.refl _ _).alloc (Nat.le_refl _) _
 have HF1:Hid (R7 W1 w.heap.size (.int .i64 F.kind) (.string F.attr) (.string F.value) (.string F.first) (.slice xa M xc) (.string F.last) (.slice ka N kc)):=by rw[←hW1];exact r7_new _ _ _ _ _ _ _ _
 obtain⟨k0,k1,k2,k3,k4,k5,k6⟩:=r7_cells HF1.out;have HB1:=Lib.hid hB1;have hs1:=hB1.size;clear hB1;have HC:=Lib.hid (HC0.out W1 HB1.out);clear HC0;have hq:=HR.out;cases R;all_goals
  go_enter Tryz.func46,Tryz.ntmps46;go_wp2_with fail;refine HC.out.mono ?_;rintro e w2 ⟨rfl,hB2⟩;have HB2:=Lib.hid (HB1.out.trans (hB2.mono hs1));clear hB2 k0 k1 k2 k3 k4 k5 k6;go_wp2_with fail;go_ret;exact⟨rfl,HB2.out⟩
end flw
open Go.RowKit
namespace etw
open atp atw etp
open dnw (Av Avas)
structure Bk (k:Nat)(e:En):Prop where
 rl:e.rdn.length≤1000
 rs: ∀a∈e.rdn,a.t.size≤1000∧a.v.size≤1200
 al:e.ats.length≤k
 as_: ∀a∈e.ats,a.t.size≤1000∧a.vs.length≤50∧ ∀v∈a.vs,v.size≤1200
end etw
open Go.RowKit
namespace etw
open atp atw etp
open dnw (Av Avas)
open tupw (Strs strs_below)
def bigV (v:ByteArray):Bool:=decide (1100<v.size)
def longL (l:List ByteArray):Bool:=decide (40<l.length)||l.any bigV
def bigR (a:Av):Bool:=decide (600<a.t.size)||decide (600<a.v.size)
def bigA (a:At):Bool:=decide (600<a.t.size)||longL a.vs
def longE (e:En):Bool:=decide (20<e.rdn.length)||decide (30<e.ats.length)||e.rdn.any bigR||e.ats.any bigA
theorem longL_no {l:List ByteArray}(h:longL l=false):l.length≤40∧ ∀v∈l,v.size≤1100:=by unfold longL at h;rw[Bool.or_eq_false_iff,decide_eq_false_iff_not,List.any_eq_false]at h;refine⟨by omega,fun v hv=> ?_⟩;have:=h.2 v hv;unfold bigV at this;simp at this;omega
theorem longE_no {e:En}(h:longE e=false):Bk 30 e:=by
 unfold longE at h;rw[Bool.or_eq_false_iff,Bool.or_eq_false_iff,Bool.or_eq_false_iff,decide_eq_false_iff_not,decide_eq_false_iff_not,List.any_eq_false,List.any_eq_false]at h;obtain⟨⟨⟨h1,h2⟩,h3⟩,h4⟩:=h;refine⟨by omega,fun a ha=> ?_,by omega,fun a ha=> ?_⟩
 ·have:=h3 a ha;unfold bigR at this;simp at this;omega
 ·have:=h4 a ha;unfold bigA at this;simp only[Bool.or_eq_true,decide_eq_true_eq,not_or,Bool.not_eq_true]at this;have h5:=longL_no this.2;refine⟨by omega,by omega,fun v hv=> ?_⟩;have:=h5.2 v hv;omega
theorem any_step {α:Type}{f:α→Bool}{l:List α}{i:Nat}(h:i<l.length):(l.drop i).any f=(f l[i]||(l.drop (i+1)).any f):=by rw[List.drop_eq_getElem_cons h,List.any_cons]
theorem longL_any (ao:Option Addr)(cap:Nat)(l:List ByteArray)(w:World)(hl:Hid (Strs w ao l)):Calls Tryz.prog 70 #[.slice ao l.length cap] w fun e w'=>e= .returned (.bool (longL l))∧w=w':=by
 have HLD:Hid (longL l=(decide (40<l.length)||l.any bigV)):=rfl;rw[HLD.out];clear HLD;obtain⟨N,hN⟩: ∃N,l.length=N:=⟨_,rfl⟩;have HN:=Lib.hid hN;rw[hN];clear hN;by_cases h40:40<N
 ·have d1:decide (40<N)=true:=decide_eq_true h40;have h40':(40:Int)<(N:Int):=by omega
  rw[d1,Bool.true_or];go_enter Tryz.func70,Tryz.ntmps70;go_wp2_with fail;go_ret;exact⟨rfl,rfl⟩
 ·have d1:decide (40<N)=false:=decide_eq_false h40;have h40': ¬ (40:Int)<(N:Int):=by omega
  rw[d1,Bool.false_or];go_enter Tryz.func70,Tryz.ntmps70;go_wp2_with fail;go_loop [3] (fun iv=> ∃i:Nat,i≤N∧iv= .int .i64 (i:Int)∧Hid (l.any bigV=(l.drop i).any bigV)) (fun iv=>N- (intOf iv).toNat);case atStart=>exact⟨0,Nat.zero_le _,rfl,rfl⟩
  case round=>
   obtain⟨i,hi,rfl,hJ⟩:=hrel;by_cases hlt:i<N
   ·have hltI:(i:Int)<(N:Int):=(by omega);have hil:i<l.length:=(by rw[HN.out];exact hlt);obtain⟨b,o,hao,hc0⟩:=hl.out i hil;subst hao;have HST:=Lib.hid (any_step (f:=bigV) hil);obtain⟨x,hx⟩: ∃x,l[i]=x:=⟨_,rfl⟩;rw[hx]at hc0 HST;clear hx;by_cases hb:1100<x.size
    ·have d2:decide (1100<x.size)=true:=decide_eq_true hb;have hb':(1100:Int)<(x.size:Int):=(by omega);have HJ:Hid (l.any bigV=true):=(by show _=_;rw[hJ.out,HST.out,show bigV x=true from d2];rfl);go_wp2_with fail;go_ret;exact⟨kt.ret_bool HJ.out.symm,rfl⟩
    ·have d2:decide (1100<x.size)=false:=decide_eq_false hb;have hb': ¬ (1100:Int)<(x.size:Int):=(by omega);have HJ:Hid (l.any bigV=(l.drop (i+1)).any bigV):=(by show _=_;rw[hJ.out,HST.out,show bigV x=false from d2];rfl);go_wp2_with fail;go_round;case rel=>exact⟨i+1,by omega,by go_num,HJ⟩
     case measure=>simp[intOf];omega
   ·obtain rfl:N=i:=(by omega);have HJ:Hid (l.any bigV=false):=(by show _=_;rw[hJ.out,←HN.out,List.drop_length];rfl);go_wp2_with fail;go_ret;exact⟨kt.ret_bool HJ.out.symm,rfl⟩
theorem longE_any (v:Value)(E:En)(w:World)(hv:Hid (EntV w v E)):Calls Tryz.prog 18 #[v] w fun e w'=>e= .returned (.bool (longE E))∧Below w.heap.size w w':=by
 have HLD:Hid (longE E=(decide (20<E.rdn.length)||decide (30<E.ats.length)||E.rdn.any bigR||E.ats.any bigA)):=rfl;rw[HLD.out];clear HLD;obtain⟨ro,rc,ao,ac,Nr,N,rfl,HN,HA,hac,HNr,HAv,hrc⟩:=ent_form hv.out;obtain⟨rdn,L⟩:=E;simp only at HN HA HNr HAv ⊢;rw[HN.out,HNr.out];obtain⟨W1,hW1⟩: ∃W,w.alloc (.cells #[.slice ro Nr rc,.slice ao N ac] 26)=W:=⟨_,rfl⟩;have hB1:Below w.heap.size w W1:=by rw[←hW1];exact(Below.refl _ _).alloc (Nat.le_refl _) _
 have HT1:Hid (EntB W1 w.heap.size (.slice ro Nr rc) (.slice ao N ac)):=by rw[←hW1];exact entB_new _ _ _
 obtain⟨k0,k1⟩:=entB_cells HT1.out;have HB1:=Lib.hid hB1;have HA1:=Lib.hid (ats_below HA.out hB1);have HAv1:=Lib.hid (dnw.avas_below HAv.out hB1);clear hB1 hv HA HAv HT1;by_cases h20:20<Nr
 ·have d1:decide (20<Nr)=true:=decide_eq_true h20;have h20':(20:Int)<(Nr:Int):=by omega
  rw[d1,Bool.true_or,Bool.true_or,Bool.true_or];go_enter Tryz.func18,Tryz.ntmps18;go_wp2_with fail;go_ret;exact⟨rfl,HB1.out⟩
 ·have d1:decide (20<Nr)=false:=decide_eq_false h20;have h20': ¬ (20:Int)<(Nr:Int):=by omega
  rw[d1,Bool.false_or];by_cases h30:30<N
  ·have d2:decide (30<N)=true:=decide_eq_true h30;have h30':(30:Int)<(N:Int):=(by omega);rw[d2,Bool.true_or,Bool.true_or];go_enter Tryz.func18,Tryz.ntmps18;go_wp2_with fail;go_ret;exact⟨rfl,HB1.out⟩
  ·have d2:decide (30<N)=false:=decide_eq_false h30;have h30': ¬ (30:Int)<(N:Int):=(by omega);rw[d2,Bool.false_or];go_enter Tryz.func18,Tryz.ntmps18;go_wp2_with fail;go_loop [3] (fun iv=> ∃i:Nat,i≤Nr∧iv= .int .i64 (i:Int)∧Hid (rdn.any bigR=(rdn.drop i).any bigR)) (fun iv=>Nr- (intOf iv).toNat);case atStart=>exact⟨0,Nat.zero_le _,rfl,rfl⟩
   case round=>
    obtain⟨i,hi,rfl,hJ⟩:=hrel;by_cases hlt:i<Nr
    ·have hltI:(i:Int)<(Nr:Int):=(by omega);have hil:i<rdn.length:=(by rw[HNr.out];exact hlt);obtain⟨b,o,hro,q0,q1⟩:=HAv1.out i hil;subst hro;have HST:=Lib.hid (any_step (f:=bigR) hil);obtain⟨a,ha⟩: ∃a,rdn[i]=a:=⟨_,rfl⟩;rw[ha]at HST q0 q1;clear ha;have HBR:Hid (bigR a=(decide (600<a.t.size)||decide (600<a.v.size))):=rfl;by_cases ht:600<a.t.size
     ·have d3:decide (600<a.t.size)=true:=decide_eq_true ht;have ht':(600:Int)<(a.t.size:Int):=(by omega);have HJ:Hid ((rdn.any bigR||L.any bigA)=true):=(by show _=_;rw[hJ.out,HST.out,HBR.out,d3];simp);go_wp2_with fail;go_ret;exact⟨kt.ret_bool HJ.out.symm,HB1.out⟩
     ·have d3:decide (600<a.t.size)=false:=decide_eq_false ht;have ht': ¬ (600:Int)<(a.t.size:Int):=(by omega);by_cases hvv:600<a.v.size
      ·have d4:decide (600<a.v.size)=true:=decide_eq_true hvv;have hv':(600:Int)<(a.v.size:Int):=(by omega);have HJ:Hid ((rdn.any bigR||L.any bigA)=true):=(by show _=_;rw[hJ.out,HST.out,HBR.out,d3,d4];simp);go_wp2_with fail;go_ret;exact⟨kt.ret_bool HJ.out.symm,HB1.out⟩
      ·have d4:decide (600<a.v.size)=false:=decide_eq_false hvv;have hv': ¬ (600:Int)<(a.v.size:Int):=(by omega);have HJ:Hid (rdn.any bigR=(rdn.drop (i+1)).any bigR):=(by show _=_;rw[hJ.out,HST.out,HBR.out,d3,d4];rfl);go_wp2_with fail;go_round;case rel=>exact⟨i+1,by omega,by go_num,HJ⟩
       case measure=>simp[intOf];omega
    ·obtain rfl:Nr=i:=(by omega);have HR0:Hid (rdn.any bigR=false):=(by show _=_;rw[hJ.out,←HNr.out,List.drop_length];rfl);go_wp2_with fail;go_loop [4] (fun iv=> ∃i:Nat,i≤N∧iv= .int .i64 (i:Int)∧Hid (L.any bigA=(L.drop i).any bigA)) (fun iv=>N- (intOf iv).toNat);case atStart=>exact⟨0,Nat.zero_le _,rfl,rfl⟩
     case round=>
      obtain⟨i,hi2,rfl,hJ2⟩:=hrel;by_cases hlt2:i<N
      ·have hltI:(i:Int)<(N:Int):=(by omega);have hil:i<L.length:=(by rw[HN.out];exact hlt2);obtain⟨b,o,ax,cx,hao,q0,q1,hcx,hST⟩:=HA1.out i hil;subst hao;have HST:=Lib.hid (any_step (f:=bigA) hil);obtain⟨a,ha⟩: ∃a,L[i]=a:=⟨_,rfl⟩;rw[ha]at HST q0 q1 hcx hST;clear ha;have HLL:=Lib.hid (longL_any ax cx a.vs W1 (Lib.hid hST));have HBA:Hid (bigA a=(decide (600<a.t.size)||longL a.vs)):=rfl;obtain⟨M,hM⟩: ∃M,a.vs.length=M:=⟨_,rfl⟩;rw[hM]at q1 HLL;clear hM hST hcx;by_cases ht:600<a.t.size
       ·have d3:decide (600<a.t.size)=true:=decide_eq_true ht;have ht':(600:Int)<(a.t.size:Int):=(by omega);have HJ:Hid ((rdn.any bigR||L.any bigA)=true):=(by show _=_;rw[hJ2.out,HST.out,HBA.out,d3];simp);go_wp2_with fail;go_ret;exact⟨kt.ret_bool HJ.out.symm,HB1.out⟩
       ·have d3:decide (600<a.t.size)=false:=decide_eq_false ht;have ht': ¬ (600:Int)<(a.t.size:Int):=(by omega);cases hll:longL a.vs with
        | true=>rw[hll]at HLL HBA;have HJ:Hid ((rdn.any bigR||L.any bigA)=true):=(by show _=_;rw[hJ2.out,HST.out,HBA.out,d3];simp);clear hll;go_wp2_with fail;refine HLL.out.mono ?_;rintro e w2 ⟨rfl,rfl⟩;go_wp2_with fail;go_ret;exact⟨kt.ret_bool HJ.out.symm,HB1.out⟩
        | false=>
         rw[hll]at HLL HBA;have HJ:Hid (L.any bigA=(L.drop (i+1)).any bigA):=(by show _=_;rw[hJ2.out,HST.out,HBA.out,d3];rfl);clear hll;go_wp2_with fail;refine HLL.out.mono ?_;rintro e w2 ⟨rfl,rfl⟩;go_wp2_with fail;go_round;case rel=>exact⟨i+1,by omega,by go_num,HJ⟩
         case measure=>simp[intOf];omega
      ·obtain rfl:N=i:=(by omega);have HJ:Hid ((rdn.any bigR||L.any bigA)=false):=(by show _=_;rw[HR0.out,hJ2.out,←HN.out,List.drop_length];rfl);go_wp2_with fail;go_ret;exact⟨kt.ret_bool HJ.out.symm,HB1.out⟩
end etw
open Go.RowKit
namespace scw
open scp atp atw etp etw
open tupw (Strs strs_below)
def tc (x:T):Value:= .string (bs x)
end scw
open Go.RowKit
namespace scw
open scp atp atw etp etw
open tupw (Strs strs_below)
def ownMO:Option Nat→List T
 | some k=>ownMust k
 | none=>[]
def ownYO:Option Nat→List T
 | some k=>ownMay k
 | none=>[]
def OwnR (r:Option Nat)(W:World)(e:Ending)(w':World):Prop:= ∃vm vy,e= .returned (.tuple #[.string (bs (clsO r).above),.int .i64 (clsO r).kind,vm,vy,.bool r.isSome])∧ElemAt w' vm ((ownMO r).map bs)∧ElemAt w' vy ((ownYO r).map bs)∧Below W.heap.size W w'
end scw
open Go.RowKit
namespace flw
open flp atp atw etp etw scw scp
open tupw (Strs strs_below)
theorem entV_ats {w:World}{ao:Option Addr}{cap:Nat}{L:List At}(h:Ats w ao L)(hc:L.length≤cap):EntV w (.agg #[.slice none 0 0,.slice ao L.length cap]) ⟨[],L⟩:=⟨none,0,ao,cap,rfl,Nat.le_refl _,hc,fun i hi=>absurd hi (Nat.not_lt_zero i),h⟩
theorem long_fitL {L:List At}(h:longE ⟨[],L⟩=false):FitL L:=by have hb:=longE_no h;refine⟨by have h2:L.length≤30:=hb.al;omega,fun a ha=> ?_⟩;have:=hb.as_ a ha;exact⟨by omega,fun v hv=>by have:=this.2.2 v hv;omega⟩
end flw
open Go.RowKit
namespace flw
open flp atp atw etp etw
open tupw (Strs strs_below)
theorem sum_kids (d:Nat)(F:Fl):cntN (d+1) F=1+(F.kids.map (cntN d)).sum:=rfl
theorem lcount_any: ∀ (d:Nat) (F:Fl) (v:Value) (n:Nat) (w:World),n+cntN d F≤1000000→okD d F→Hid (FlX w v F)→Hid (FitX F)→
  Calls Tryz.prog 48 #[v,.int .i64 (n:Int)] w fun e w'=>e= .returned (.int .i64 ((n+cntN d F:Nat):Int))∧Below w.heap.size w w':=by
 intro d;induction d with
 | zero=>intro F v n w hn hd hv hf;exact hd.elim
 | succ d ih=>
  intro F v n w hn hd hv hf;have IH:Hid (∀ (G:Fl) (u:Value) (r:Nat) (W:World),G∈F.kids→r+cntN d G≤1000000→FlX W u G→FitX G→Calls Tryz.prog 48 #[u,.int .i64 (r:Int)] W fun e w'=>e= .returned (.int .i64 ((r+cntN d G:Nat):Int))∧Below W.heap.size W w'):=fun G u r W hG hr hu hg=>ih G u r W hr (hd G hG) (Lib.hid hu) (Lib.hid hg);clear ih hd;have HS:=Lib.hid (sum_kids d F);obtain⟨R,hR⟩: ∃R,n+cntN (d+1) F=R:=⟨_,rfl⟩;rw[hR]at hn;rw[hR];have HR:=Lib.hid hR;clear hR;obtain⟨n1,hn1⟩: ∃x,n+1=x:=⟨_,rfl⟩;have en:(n:Int)+1=(n1:Int):=by omega
  have HN1:=Lib.hid hn1;have hnb:n≤1000000:=by have:=HR.out;omega
  have hn41:n1≤1000001:=by omega
  clear hn1;obtain⟨xa,xc,ka,kc,rfl,HX,HK,hxc,hkc⟩:=flX_form hv.out;unfold flV;obtain⟨N,hN⟩: ∃N,F.kids.length=N:=⟨_,rfl⟩;have HN:=Lib.hid hN;obtain⟨M,hM⟩: ∃M,F.any.length=M:=⟨_,rfl⟩;have HM:=Lib.hid hM;have HFH:=Lib.hid (fitX_head hf.out);have hNb:N≤100000:=by rw[←hN];exact HFH.out.2.2.2.2.2.2
  have hMb:M≤100000:=by rw[←hM];exact HFH.out.2.2.2.2.1
  rw[hN]at hkc ⊢;rw[hM]at hxc ⊢;clear hN hM;obtain⟨W1,hW1⟩: ∃W,w.alloc (.cells #[.int .i64 F.kind,.string F.attr,.string F.value,.string F.first,.slice xa M xc,.string F.last,.slice ka N kc] 73)=W:=⟨_,rfl⟩;have hB1:Below w.heap.size w W1:=by rw[←hW1];exact(Below.refl _ _).alloc (Nat.le_refl _) _
  have HF1:Hid (R7 W1 w.heap.size (.int .i64 F.kind) (.string F.attr) (.string F.value) (.string F.first) (.slice xa M xc) (.string F.last) (.slice ka N kc)):=by rw[←hW1];exact r7_new _ _ _ _ _ _ _ _
  obtain⟨k0,k1,k2,k3,k4,k5,k6⟩:=r7_cells HF1.out;have HB1:=Lib.hid hB1;have hs1:=hB1.size;clear hB1;go_enter Tryz.func48,Tryz.ntmps48;go_wp2_with fail;clear k0 k1 k2 k3 k4 k5 k6;go_loopw [1,5] (fun lv iv wr=> ∃ (i a:Nat),i≤N∧a≤1000001∧lv= .int .i64 (a:Int)∧iv= .int .i64 (i:Int)∧Hid (Below w.heap.size w wr)∧Hid (R7 wr w.heap.size (.int .i64 F.kind) (.string F.attr) (.string F.value) (.string F.first) (.slice xa M xc) (.string F.last) (.slice ka N kc))∧Hid (a=n+(1+((F.kids.take i).map (cntN d)).sum))) (fun _ iv _=>N- (intOf iv).toNat);case atStart=>exact⟨0,n1,Nat.zero_le _,hn41,rfl,rfl,HB1.out,HF1.out,(by have:=HN1.out;show _=_;simp;omega)⟩
  case round=>
   obtain⟨i,a,hi,ha,rfl,rfl,hB,hT,hJ⟩:=hrel;have HBw:=hB;have hsw:=hB.out.size;clear hB;obtain⟨k0,k1,k2,k3,k4,k5,k6⟩:=r7_cells hT.out;by_cases hlt:i<N
   ·have hltI:(i:Int)<(N:Int):=(by omega);have hil:i<F.kids.length:=(by rw[HN.out];exact hlt);obtain⟨b,o,ya,yc,la,lc,hao,hc,hkX⟩:=kidsX_at (kidsX_below HK.out HBw.out) i hil;subst hao;have HFK:=Lib.hid (fitX_kid hf.out (List.getElem_mem hil));obtain⟨G,hG⟩: ∃G,F.kids[i]=G:=⟨_,rfl⟩;have HG:=Lib.hid hG;rw[hG]at hc hkX HFK;clear hG;unfold flV at hkX;generalize G.any.length=m' at hc hkX;generalize G.kids.length=n' at hc hkX;obtain⟨c0,c1,c2,c3,c4,c5,c6⟩:=hc;have HKX:=Lib.hid hkX;clear hkX;have HST:=Lib.hid (cnt_step (d:=d) hil);have HTK:=Lib.hid (cnt_take (d:=d) F.kids (i+1));have HMEM:=Lib.hid (List.getElem_mem hil);rw[HG.out]at HST HMEM;have HKF:Hid (a+cntN d G≤1000000):=(by have h1:=HR.out;have h2:=HS.out;have h3:=HTK.out;have h4:=hJ.out;have h5:=HST.out;show _≤_;omega);have HC:Hid (Calls Tryz.prog 48 #[.agg #[.int .i64 G.kind,.string G.attr,.string G.value,.string G.first,.slice ya m' yc,.string G.last,.slice la n' lc],.int .i64 (a:Int)] wr fun e w'=>e= .returned (.int .i64 ((a+cntN d G:Nat):Int))∧Below wr.heap.size wr w'):=IH.out G _ a wr HMEM.out HKF.out HKX.out HFK.out;obtain⟨c,hc⟩: ∃c,a+cntN d G=c:=⟨_,rfl⟩;rw[hc]at HC;have HJ2:Hid (c=n+(1+((F.kids.take (i+1)).map (cntN d)).sum)):=(by have h4:=hJ.out;have h5:=HST.out;show _=_;omega);have hc41:c≤1000001:=(by have:=HKF.out;omega);clear hc;go_wp2_with fail;refine HC.out.mono ?_;rintro e w3 ⟨rfl,hB3⟩;have HB3:=Lib.hid (HBw.out.trans (hB3.mono hsw));have HT3:=Lib.hid (r7_below hT.out hB3);clear hB3 c0 c1 c2 c3 c4 c5 c6 k0 k1 k2 k3 k4 k5 k6;go_wp2_with fail;go_roundw;case rel=>exact⟨i+1,c,by omega,hc41,rfl,by go_num,HB3.out,HT3.out,HJ2.out⟩
    case measure=>simp[intOf];omega
   ·obtain rfl:N=i:=(by omega);have HR2:Hid (R=a):=(by have h1:=HR.out;have h2:=HS.out;have h4:=hJ.out;rw[←HN.out,List.take_length]at h4;show _=_;omega);go_wp2_with fail;go_ret;exact⟨kt.ret_int (by rw[HR2.out]),HBw.out⟩
end flw
open Go.RowKit
namespace same
open tupw
theorem str_ne {x y:ByteArray}(h: ¬x=y):(x.toList==y.toList)=false:=by rw[beq_eq_false_iff_ne];intro e;exact h (kt.str_eq (by rw[←Lib.toList_data,←Lib.toList_data,e]))
theorem take_next {l m:List ByteArray}{i:Nat}(h1:i<l.length)(h2:i<m.length)(h:l.take i=m.take i)(he:l[i]=m[i]):l.take (i+1)=m.take (i+1):=by rw[List.take_succ_eq_append_getElem h1,List.take_succ_eq_append_getElem h2,h,he]
theorem ne_at {l m:List ByteArray}{i:Nat}(h1:i<l.length)(h2:i<m.length)(he: ¬l[i]=m[i]): ¬l=m:=by rintro rfl;exact he rfl
theorem below_drewN {B:Nat}{a b:World}(h:Below B a b)(n:Nat):Below B a (b.drewN n):=⟨h.os,h.tape,h.output,h.size,h.block⟩
theorem same_any (a1 a2:Option Addr)(c1 c2:Nat)(l m:List ByteArray)(w:World)(h1:Hid (Strs w a1 l))(h2:Hid (Strs w a2 m))(hm:m.length≤1100000):
  Calls Tryz.prog 26 #[.slice a1 l.length c1,.slice a2 m.length c2] w fun e w'=>e= .returned (.bool (decide (l=m)))∧Below w.heap.size w w':=by
 by_cases hl:l.length=m.length
 ·rw[hl];go_enter Tryz.func26,Tryz.ntmps26;go_wp2_with fail;go_loopw [5] (fun iv wr=> ∃i:Nat,i≤m.length∧iv= .int .i64 i∧Hid (l.take i=m.take i)∧Below w.heap.size w wr) (fun iv _=>m.length- (intOf iv).toNat);case atStart=>exact⟨0,Nat.zero_le _,rfl,by show _=_;simp,Below.refl _ _⟩
  case round=>
   obtain⟨i,hi,rfl,hE,hB⟩:=hrel;by_cases c:i<m.length
   ·have c':(i:Int)<(m.length:Int):=(by omega);have cl:i<l.length:=(by omega);have hcc:=Lib.hid c;obtain⟨b1,o1,e1,f1⟩:=h1.out i cl;obtain⟨b2,o2,e2,f2⟩:=h2.out i c;have g1:=(hB.cell (World.block_lt_of_cell? w _ f1)).trans f1;have g2:=(hB.cell (World.block_lt_of_cell? w _ f2)).trans f2;obtain⟨x,hx⟩: ∃x:ByteArray,Hid (x=l[i]'cl):=⟨l[i]'cl,rfl⟩;obtain⟨y,hy⟩: ∃y:ByteArray,Hid (y=m[i]'c):=⟨m[i]'c,rfl⟩;rw[←hx.out]at g1;rw[←hy.out]at g2;clear f1 f2;subst e1 e2;by_cases hxy:x=y
    ·have hn:Hid (l.take (i+1)=m.take (i+1)):=take_next cl c hE.out (by rw[←hx.out,←hy.out,hxy]);subst hxy;go_wp2_with fail;go_quiet (fail);go_wp2_with fail;go_roundw;case rel=>exact⟨i+1,hcc.out,by go_num,hn,below_drewN hB nq⟩
     case measure=>have:=hcc.out;simp[intOf];omega
    ·have hr:decide (l=m)=false:=(by rw[decide_eq_false_iff_not];exact ne_at cl c (by rw[←hx.out,←hy.out];exact hxy));have HR:=Lib.hid hr;have hne:=str_ne hxy;clear hr hxy;go_wp2_with fail;go_quiet (fail);go_wp2_with fail;go_ret;exact⟨by rw[HR.out];rfl,below_drewN hB nq⟩
   ·obtain rfl:i=m.length:=(by omega);have c': ¬ (m.length:Int)<(m.length:Int):=(by omega);have hr:decide (l=m)=true:=(by rw[decide_eq_true_iff];have:=hE.out;rw[List.take_of_length_le (Nat.le_refl _),List.take_of_length_le (by omega)]at this;exact this);have HR:=Lib.hid hr;clear hr;go_wp2_with fail;go_ret;exact⟨by rw[HR.out];rfl,hB⟩
 ·have hr:decide (l=m)=false:=by rw[decide_eq_false_iff_not];rintro rfl;exact hl rfl
  have HR:=Lib.hid hr;have hl':((l.length:Int)==(m.length:Int))=false:=by rw[beq_eq_false_iff_ne];omega
  clear hr hl;go_enter Tryz.func26,Tryz.ntmps26;go_wp2_with fail;go_ret;exact⟨by rw[HR.out];rfl,Below.refl _ _⟩
end same
open Go.RowKit
namespace flw
open flp atp atw etp etw
open tupw (Strs strs_below)
theorem same19_ind: ∀ (d:Nat) (F:Fl) (v v2:Value) (w:World),okD d F→Hid (FlX w v F)→Hid (FlX w v2 F)→Hid (FitX F)→
  Calls Tryz.prog 53 #[v,v2] w fun e w'=>e= .returned (.bool true)∧Below w.heap.size w w':=by
 intro d;induction d with
 | zero=>intro F v v2 w hd _ _ _;exact hd.elim
 | succ d ih=>
  intro F v v2 w hd hv hv2 hf;have IH:Hid (∀ (G:Fl) (u u2:Value) (W:World),G∈F.kids→FlX W u G→FlX W u2 G→FitX G→Calls Tryz.prog 53 #[u,u2] W fun e w'=>e= .returned (.bool true)∧Below W.heap.size W w'):=fun G u u2 W hG hu hu2 hg=>ih G u u2 W (hd G hG) (Lib.hid hu) (Lib.hid hu2) (Lib.hid hg);clear ih hd;obtain⟨xa2,xc2,ka2,kc2,rfl,HX2,HK2,hxc2,hkc2⟩:=flX_form hv2.out;obtain⟨xa,xc,ka,kc,rfl,HX,HK,hxc,hkc⟩:=flX_form hv.out;unfold flV;obtain⟨N,hN⟩: ∃N,F.kids.length=N:=⟨_,rfl⟩;have HN:=Lib.hid hN;obtain⟨M,hM⟩: ∃M,F.any.length=M:=⟨_,rfl⟩;have HM:=Lib.hid hM;have HFH:=Lib.hid (fitX_head hf.out);have hNb:N≤100000:=by rw[←hN];exact HFH.out.2.2.2.2.2.2
  have hMb:M≤100000:=by rw[←hM];exact HFH.out.2.2.2.2.1
  rw[hN]at hkc ⊢;rw[hM]at hxc ⊢;clear hN hM;obtain⟨W1,hW1⟩: ∃W,w.alloc (.cells #[.int .i64 F.kind,.string F.attr,.string F.value,.string F.first,.slice xa M xc,.string F.last,.slice ka N kc] 73)=W:=⟨_,rfl⟩;have hB1:Below w.heap.size w W1:=by rw[←hW1];exact(Below.refl _ _).alloc (Nat.le_refl _) _
  have HF1:Hid (R7 W1 w.heap.size (.int .i64 F.kind) (.string F.attr) (.string F.value) (.string F.first) (.slice xa M xc) (.string F.last) (.slice ka N kc)):=by rw[←hW1];exact r7_new _ _ _ _ _ _ _ _
  obtain⟨k0,k1,k2,k3,k4,k5,k6⟩:=r7_cells HF1.out;have HB1:=Lib.hid hB1;have hs1:=hB1.size;clear hB1;rw[HM.out]at hxc2;rw[HN.out]at hkc2;clear hv2;obtain⟨W2,hW2⟩: ∃W,W1.alloc (.cells #[.int .i64 F.kind,.string F.attr,.string F.value,.string F.first,.slice xa2 M xc2,.string F.last,.slice ka2 N kc2] 73)=W:=⟨_,rfl⟩;have hB2:Below W1.heap.size W1 W2:=by rw[←hW2];exact(Below.refl _ _).alloc (Nat.le_refl _) _
  obtain⟨q,hqq⟩: ∃q,W1.heap.size=q:=⟨_,rfl⟩;have HQ2:Hid (R7 W2 q (.int .i64 F.kind) (.string F.attr) (.string F.value) (.string F.first) (.slice xa2 M xc2) (.string F.last) (.slice ka2 N kc2)):=by rw[←hW2,←hqq];exact r7_new _ _ _ _ _ _ _ _
  have HB2:=Lib.hid (HB1.out.trans (hB2.mono hs1));have HF2:=Lib.hid (r7_below HF1.out hB2);clear hB2 k0 k1 k2 k3 k4 k5 k6;obtain⟨k0,k1,k2,k3,k4,k5,k6⟩:=r7_cells HF2.out;obtain⟨m0,m1,m2,m3,m4,m5,m6⟩:=r7_cells HQ2.out;go_enter Tryz.func53,Tryz.ntmps53;go_wp2_with fail;clear k0 k1 k2 k3 k4 k5 k6 m0 m1 m2 m3 m4 m5 m6 hW1 hW2 hqq;go_loopw [5] (fun iv wr=> ∃i:Nat,i≤M∧iv= .int .i64 (i:Int)∧Hid (Below w.heap.size w wr)∧Hid (R7 wr w.heap.size (.int .i64 F.kind) (.string F.attr) (.string F.value) (.string F.first) (.slice xa M xc) (.string F.last) (.slice ka N kc))∧Hid (R7 wr q (.int .i64 F.kind) (.string F.attr) (.string F.value) (.string F.first) (.slice xa2 M xc2) (.string F.last) (.slice ka2 N kc2))) (fun iv _=>M- (intOf iv).toNat);case atStart=>exact⟨0,Nat.zero_le _,rfl,HB2.out,HF2.out,HQ2.out⟩
  case round=>
   obtain⟨i,hi,rfl,hB,hT,hQ⟩:=hrel;obtain⟨k0,k1,k2,k3,k4,k5,k6⟩:=r7_cells hT.out;obtain⟨m0,m1,m2,m3,m4,m5,m6⟩:=r7_cells hQ.out;clear k0 k1 k2 k3 k5 m0 m1 m2 m3 m5;by_cases hlt:i<M
   ·have hltI:(i:Int)<(M:Int):=(by omega);have hil:i<F.any.length:=(by rw[HM.out];exact hlt);obtain⟨b,o,hao,x0⟩:=(strs_below HX.out hB.out) i hil;obtain⟨b2,o2,hao2,y0⟩:=(strs_below HX2.out hB.out) i hil;subst hao hao2;generalize F.any[i]=x at x0 y0;clear k6 m6;go_wp2_with fail;go_quiet (fail);have HBQ:=Lib.hid (same.below_drewN hB.out nq);have HBR:=Lib.hid (same.below_drewN (Below.refl wr.heap.size wr) nq);have HTQ:=Lib.hid (r7_below hT.out HBR.out);have HQQ:=Lib.hid (r7_below hQ.out HBR.out);clear k4 m4 x0 y0;go_wp2_with fail;go_roundw;case rel=>exact⟨i+1,by omega,by go_num,HBQ.out,HTQ.out,HQQ.out⟩
    case measure=>simp[intOf];omega
   ·obtain rfl:M=i:=(by omega);go_wp2_with fail;clear k4 m4 k6 m6;have HB0:=hB;have HT0:=hT;have HQ0:=hQ;clear hB hT hQ;go_loopw [6] (fun iv wr=> ∃i:Nat,i≤N∧iv= .int .i64 (i:Int)∧Hid (Below w.heap.size w wr)∧Hid (R7 wr w.heap.size (.int .i64 F.kind) (.string F.attr) (.string F.value) (.string F.first) (.slice xa M xc) (.string F.last) (.slice ka N kc))∧Hid (R7 wr q (.int .i64 F.kind) (.string F.attr) (.string F.value) (.string F.first) (.slice xa2 M xc2) (.string F.last) (.slice ka2 N kc2))) (fun iv _=>N- (intOf iv).toNat);case atStart=>exact⟨0,Nat.zero_le _,rfl,HB0.out,HT0.out,HQ0.out⟩
    case round=>
     clear HB0 HT0 HQ0;obtain⟨i,hi,rfl,hB,hT,hQ⟩:=hrel;have HBw:=hB;clear hB;obtain⟨k0,k1,k2,k3,k4,k5,k6⟩:=r7_cells hT.out;obtain⟨m0,m1,m2,m3,m4,m5,m6⟩:=r7_cells hQ.out;clear k0 k1 k2 k3 k4 k5 m0 m1 m2 m3 m4 m5;by_cases hlt:i<N
     ·have hltI:(i:Int)<(N:Int):=(by omega);have hil:i<F.kids.length:=(by rw[HN.out];exact hlt);obtain⟨b,o,ya,yc,la,lc,hao,hc,hkX⟩:=kidsX_at (kidsX_below HK.out HBw.out) i hil;obtain⟨b2,o2,ya2,yc2,la2,lc2,hao2,hc2,hkX2⟩:=kidsX_at (kidsX_below HK2.out HBw.out) i hil;subst hao hao2;have HFK:=Lib.hid (fitX_kid hf.out (List.getElem_mem hil));have HMEM:=Lib.hid (List.getElem_mem hil);obtain⟨G,hG⟩: ∃G,F.kids[i]=G:=⟨_,rfl⟩;rw[hG]at hc hc2 hkX hkX2 HFK HMEM;clear hG;unfold flV at hkX hkX2;generalize G.any.length=m' at hc hkX hc2 hkX2;generalize G.kids.length=n' at hc hkX hc2 hkX2;obtain⟨c0,c1,c2,c3,c4,c5,c6⟩:=hc;obtain⟨d0,d1,d2,d3,d4,d5,d6⟩:=hc2;have HC:Hid (∀W,Below wr.heap.size wr W→Calls Tryz.prog 53 #[.agg #[.int .i64 G.kind,.string G.attr,.string G.value,.string G.first,.slice ya m' yc,.string G.last,.slice la n' lc],.agg #[.int .i64 G.kind,.string G.attr,.string G.value,.string G.first,.slice ya2 m' yc2,.string G.last,.slice la2 n' lc2]] W fun e w'=>e= .returned (.bool true)∧Below W.heap.size W w'):=fun W h=>IH.out G _ _ W HMEM.out (flX_below hkX h) (flX_below hkX2 h) HFK.out;clear hkX hkX2;have hk6:=World.block_lt_of_cell? wr _ k6;have hm6:=World.block_lt_of_cell? wr _ m6;have hc0:=World.block_lt_of_cell? wr _ c0;have hc1:=World.block_lt_of_cell? wr _ c1;have hc2:=World.block_lt_of_cell? wr _ c2;have hc3:=World.block_lt_of_cell? wr _ c3;have hc4:=World.block_lt_of_cell? wr _ c4;have hc5:=World.block_lt_of_cell? wr _ c5;have hc6:=World.block_lt_of_cell? wr _ c6;have hd0:=World.block_lt_of_cell? wr _ d0;have hd1:=World.block_lt_of_cell? wr _ d1;have hd2:=World.block_lt_of_cell? wr _ d2;have hd3:=World.block_lt_of_cell? wr _ d3;have hd4:=World.block_lt_of_cell? wr _ d4;have hd5:=World.block_lt_of_cell? wr _ d5;have hd6:=World.block_lt_of_cell? wr _ d6;go_wp2_with fail;refine wp_region_held_drew (S:=fun W=>W.cell? ⟨w.heap.size,6,none⟩=some ((.slice (some ⟨b,o,none⟩) N kc))∧W.cell? ⟨q,6,none⟩=some ((.slice (some ⟨b2,o2,none⟩) N kc2))∧W.cell? ⟨b,o+i*7,none⟩=some ((.int .i64 G.kind))∧W.cell? ⟨b,o+i*7+1,none⟩=some ((.string G.attr))∧W.cell? ⟨b,o+i*7+2,none⟩=some ((.string G.value))∧W.cell? ⟨b,o+i*7+3,none⟩=some ((.string G.first))∧W.cell? ⟨b,o+i*7+4,none⟩=some ((.slice ya m' yc))∧W.cell? ⟨b,o+i*7+5,none⟩=some ((.string G.last))∧W.cell? ⟨b,o+i*7+6,none⟩=some ((.slice la n' lc))∧W.cell? ⟨b2,o2+i*7,none⟩=some ((.int .i64 G.kind))∧W.cell? ⟨b2,o2+i*7+1,none⟩=some ((.string G.attr))∧W.cell? ⟨b2,o2+i*7+2,none⟩=some ((.string G.value))∧W.cell? ⟨b2,o2+i*7+3,none⟩=some ((.string G.first))∧W.cell? ⟨b2,o2+i*7+4,none⟩=some ((.slice ya2 m' yc2))∧W.cell? ⟨b2,o2+i*7+5,none⟩=some ((.string G.last))∧W.cell? ⟨b2,o2+i*7+6,none⟩=some ((.slice la2 n' lc2))) (by kernel_rfl) (⟨k6,m6,c0,c1,c2,c3,c4,c5,c6,d0,d1,d2,d3,d4,d5,d6⟩) (fun hHeld=> ?_);refine tk 0 ⟨some 83,_,_,_,_,_⟩ rfl ?_;refine tk 1 ⟨some 84,_,_,_,_,_⟩ rfl ?_;refine tk 2 ⟨some 85,_,_,_,_,_⟩ rfl ?_;refine tk 3 ⟨some 86,_,_,_,_,_⟩ rfl ?_;refine tk 4 ⟨some 87,_,_,_,_,_⟩ rfl ?_;refine tk 5 ⟨some 88,_,_,_,_,_⟩ rfl ?_;refine tk 6 ⟨some 89,_,_,_,_,_⟩ rfl ?_;refine tk 7 ⟨some 90,_,_,_,_,_⟩ rfl ?_;refine tk 8 ⟨some 91,_,_,_,_,_⟩ rfl ?_;refine tk 9 ⟨some 92,_,_,_,_,_⟩ rfl ?_;refine tc 10 ⟨some 93,_,_,_,_,_⟩ rfl (fun K hK=> ?_);go_simp;go_at_call 53;refine(HC.out _ ((Below.refl wr.heap.size wr).drew)).mono ?_;rintro e w6 ⟨rfl,hB6⟩;refine hK.out _ _ (⟨(hB6.cell (p:=⟨w.heap.size,6,none⟩) hk6).trans (k6),(hB6.cell (p:=⟨q,6,none⟩) hm6).trans (m6),(hB6.cell (p:=⟨b,o+i*7,none⟩) hc0).trans (c0),(hB6.cell (p:=⟨b,o+i*7+1,none⟩) hc1).trans (c1),(hB6.cell (p:=⟨b,o+i*7+2,none⟩) hc2).trans (c2),(hB6.cell (p:=⟨b,o+i*7+3,none⟩) hc3).trans (c3),(hB6.cell (p:=⟨b,o+i*7+4,none⟩) hc4).trans (c4),(hB6.cell (p:=⟨b,o+i*7+5,none⟩) hc5).trans (c5),(hB6.cell (p:=⟨b,o+i*7+6,none⟩) hc6).trans (c6),(hB6.cell (p:=⟨b2,o2+i*7,none⟩) hd0).trans (d0),(hB6.cell (p:=⟨b2,o2+i*7+1,none⟩) hd1).trans (d1),(hB6.cell (p:=⟨b2,o2+i*7+2,none⟩) hd2).trans (d2),(hB6.cell (p:=⟨b2,o2+i*7+3,none⟩) hd3).trans (d3),(hB6.cell (p:=⟨b2,o2+i*7+4,none⟩) hd4).trans (d4),(hB6.cell (p:=⟨b2,o2+i*7+5,none⟩) hd5).trans (d5),(hB6.cell (p:=⟨b2,o2+i*7+6,none⟩) hd6).trans (d6)⟩) (fun hHeld=> ?_);clear hK;try simp only[Act.put,List.setIfInBounds_toArray,List.set_cons_zero,List.set_cons_succ]
      refine tk 11 ⟨some 94,_,_,_,_,_⟩ rfl ?_;refine wpAnyH_done (by kernel_rfl) ?_ _;have HB6:=Lib.hid (((Below.refl wr.heap.size wr).drew).trans hB6);have HB7:=Lib.hid (HBw.out.trans (HB6.out.mono HBw.out.size));have HT7:=Lib.hid (r7_below hT.out HB6.out);have HQ7:=Lib.hid (r7_below hQ.out HB6.out);clear hHeld hB6 c0 c1 c2 c3 c4 c5 c6 d0 d1 d2 d3 d4 d5 d6 k6 m6;go_wp2_with fail;go_roundw;case rel=>exact⟨i+1,by omega,by go_num,HB7.out,HT7.out,HQ7.out⟩
      case measure=>simp[intOf];omega
     ·obtain rfl:N=i:=(by omega);go_wp2_with fail;go_ret;exact⟨rfl,HBw.out⟩
theorem same19_one (F:Fl)(v v2:Value)(w:World)(hv:Hid (FlX w v F))(hv2:Hid (FlX w v2 F))(hf:Hid (FitX F)):
  Calls Tryz.prog 53 #[v,v2] w fun e w'=>e= .returned (.bool true)∧Below w.heap.size w w':=by
 obtain⟨d,h⟩:=hf.out;exact same19_ind d F v v2 w (fit_ok h) hv hv2 hf
end flw
open Go.RowKit
namespace flw
open flp atp atw etp etw
open tupw (Strs strs_below)
theorem pieces_any (F:Fl)(v:Value)(w:World)(hv:Hid (FlX w v F))(hf:Hid (FitX F)):
  Calls Tryz.prog 225 #[v] w fun e w'=>e= .returned (.bool (piecesF F))∧Below w.heap.size w w':=by
 have HR0:Hid (piecesF F=((F.any.any fun x=> !isE x)|| !isE F.first|| !isE F.last)):=rfl;obtain⟨R,hR⟩: ∃R,piecesF F=R:=⟨_,rfl⟩;rw[hR]at HR0 ⊢;clear hR;have q3:=isE_list F.first;have q5:=isE_list F.last;generalize isE F.first=y3 at q3 HR0;generalize isE F.last=y5 at q5 HR0;obtain⟨xa,xc,ka,kc,rfl,HX,HK,hxc,hkc⟩:=flX_form hv.out;unfold flV;obtain⟨N,hN⟩: ∃N,F.kids.length=N:=⟨_,rfl⟩;have HN:=Lib.hid hN;obtain⟨M,hM⟩: ∃M,F.any.length=M:=⟨_,rfl⟩;have HM:=Lib.hid hM;have HFH:=Lib.hid (fitX_head hf.out);have hNb:N≤100000:=by rw[←hN];exact HFH.out.2.2.2.2.2.2
 have hMb:M≤100000:=by rw[←hM];exact HFH.out.2.2.2.2.1
 rw[hN]at hkc ⊢;rw[hM]at hxc ⊢;clear hN hM;obtain⟨W1,hW1⟩: ∃W,w.alloc (.cells #[.int .i64 F.kind,.string F.attr,.string F.value,.string F.first,.slice xa M xc,.string F.last,.slice ka N kc] 73)=W:=⟨_,rfl⟩;have hB1:Below w.heap.size w W1:=by rw[←hW1];exact(Below.refl _ _).alloc (Nat.le_refl _) _
 have HF1:Hid (R7 W1 w.heap.size (.int .i64 F.kind) (.string F.attr) (.string F.value) (.string F.first) (.slice xa M xc) (.string F.last) (.slice ka N kc)):=by rw[←hW1];exact r7_new _ _ _ _ _ _ _ _
 obtain⟨k0,k1,k2,k3,k4,k5,k6⟩:=r7_cells HF1.out;have HB1:=Lib.hid hB1;have hs1:=hB1.size;clear hB1;go_enter Tryz.func225,Tryz.ntmps225;go_wp2_with fail;clear k0 k1 k2 k3 k4 k5 k6;go_loopw [3] (fun iv wr=> ∃i:Nat,i≤M∧iv= .int .i64 (i:Int)∧Hid (Below w.heap.size w wr)∧Hid (R7 wr w.heap.size (.int .i64 F.kind) (.string F.attr) (.string F.value) (.string F.first) (.slice xa M xc) (.string F.last) (.slice ka N kc))∧Hid ((F.any.take i).any (fun x=> !isE x)=false)) (fun iv _=>M- (intOf iv).toNat);case atStart=>exact⟨0,Nat.zero_le _,rfl,HB1.out,HF1.out,rfl⟩
 case round=>
  obtain⟨i,hi,rfl,hB,hT,hJ⟩:=hrel;obtain⟨k0,k1,k2,k3,k4,k5,k6⟩:=r7_cells hT.out;by_cases hlt:i<M
  ·have hltI:(i:Int)<(M:Int):=(by omega);have hil:i<F.any.length:=(by rw[HM.out];exact hlt);obtain⟨b,o,hao,hc0⟩:=(strs_below HX.out hB.out) i hil;subst hao;have HTS:Hid (F.any.take (i+1)=F.any.take i++[F.any[i]]):=(by show _=_;rw[List.take_succ_eq_append_getElem hil]);have HMEM:=Lib.hid (List.getElem_mem hil);obtain⟨x,hx⟩: ∃x,F.any[i]=x:=⟨_,rfl⟩;rw[hx]at hc0 HTS HMEM;clear hx;have qx:=isE_list x;have HXE:Hid (isE x=isE x):=rfl;obtain⟨bx,hbx⟩: ∃b,isE x=b:=⟨_,rfl⟩;rw[hbx]at qx;have HBX:=Lib.hid hbx;clear hbx HXE;cases bx with
   | false=>have HR:Hid (R=true):=(by show _=_;rw[HR0.out,List.any_eq_true.2 ⟨x,HMEM.out,by rw[HBX.out];rfl⟩];rfl);go_wp2_with fail;go_ret;exact⟨kt.ret_bool HR.out.symm,hB.out⟩
   | true=>
    have HJ2:Hid ((F.any.take (i+1)).any (fun x=> !isE x)=false):=(by show _=_;rw[HTS.out,List.any_append,hJ.out,List.any_cons,HBX.out];rfl);go_wp2_with fail;go_roundw;case rel=>exact⟨i+1,by omega,by go_num,hB.out,hT.out,HJ2.out⟩
    case measure=>simp[intOf];omega
  ·obtain rfl:M=i:=(by omega);have HR:Hid (R=(false|| !y3|| !y5)):=(by have h:=hJ.out;rw[←HM.out,List.take_length]at h;show _=_;rw[HR0.out,h]);clear hJ HR0;cases y3 with
   | false=>go_wp2_with fail;go_ret;exact⟨kt.ret_bool HR.out.symm,hB.out⟩
   | true=>
    cases y5;all_goals
     go_wp2_with fail;go_ret;exact⟨kt.ret_bool HR.out.symm,hB.out⟩
section
variable (F : Fl)
theorem rn01 (h:F.kind=0∨F.kind=1):oneF F=(isE F.attr&&isE F.value&& !(!isE F.first||decide (0<F.any.length)|| !isE F.last)):=by unfold oneF;exact if_pos h
theorem rn2 (h:F.kind=2):oneF F=(isE F.attr&&isE F.value&& !(!isE F.first||decide (0<F.any.length)|| !isE F.last)&&decide (F.kids.length=1)):=by unfold oneF;rw[if_neg (show¬ (F.kind=0∨F.kind=1)from by show¬ (F.kind=0∨F.kind=1);omega)];exact if_pos h
theorem rn3 (h:F.kind=3∨F.kind=5∨F.kind=6∨F.kind=8):oneF F=(decide (1≤F.attr.size)&&decide (F.attr.size≤64)&& !(!isE F.first||decide (0<F.any.length)|| !isE F.last)&&decide (F.kids.length=0)):=by unfold oneF;rw[if_neg (show¬ (F.kind=0∨F.kind=1)from by show¬ (F.kind=0∨F.kind=1);omega),if_neg (show¬ (F.kind=2)from by show¬ (F.kind=2);omega)];exact if_pos h
theorem rn4 (h:F.kind=4):oneF F=(decide (1≤F.attr.size)&&decide (F.attr.size≤64)&&isE F.value&&piecesF F&&decide (F.any.length≤8)&&decide (F.kids.length=0)):=by unfold oneF;rw[if_neg (show¬ (F.kind=0∨F.kind=1)from by show¬ (F.kind=0∨F.kind=1);omega),if_neg (show¬ (F.kind=2)from by show¬ (F.kind=2);omega),if_neg (show¬ (F.kind=3∨F.kind=5∨F.kind=6∨F.kind=8)from by show¬ (F.kind=3∨F.kind=5∨F.kind=6∨F.kind=8);omega)];exact if_pos h
theorem rn7 (h:F.kind=7):oneF F=(decide (1≤F.attr.size)&&decide (F.attr.size≤64)&&isE F.value&& !(!isE F.first||decide (0<F.any.length)|| !isE F.last)&&decide (F.kids.length=0)):=by unfold oneF;rw[if_neg (show¬ (F.kind=0∨F.kind=1)from by show¬ (F.kind=0∨F.kind=1);omega),if_neg (show¬ (F.kind=2)from by show¬ (F.kind=2);omega),if_neg (show¬ (F.kind=3∨F.kind=5∨F.kind=6∨F.kind=8)from by show¬ (F.kind=3∨F.kind=5∨F.kind=6∨F.kind=8);omega),if_neg (show¬ (F.kind=4)from by show¬ (F.kind=4);omega)];exact if_pos h
theorem rn_no (h: ¬ (0≤F.kind∧F.kind≤8)):oneF F=false:=by have:=one_no F.kind F.attr F.value F.first F.last F.any F.kids h;rw[←Fl.eta F]at this;exact this
end
end flw
open Go.RowKit
namespace flw
open flp atp atw etp etw
open tupw (Strs strs_below)
theorem one_k0 (F:Fl)(v:Value)(w:World)(hv:Hid (FlX w v F))(hf:Hid (FitX F))(hkd:F.kind=0):
  Calls Tryz.prog 179 #[v] w fun e w'=>e= .returned (.bool (oneF F))∧Below w.heap.size w w':=by
 have HR:=Lib.hid (rn01 F (Or.inl hkd));obtain⟨R,hR⟩: ∃R,oneF F=R:=⟨_,rfl⟩;rw[hR]at HR ⊢;clear hR;have q1:=isE_list F.attr;generalize isE F.attr=y1 at q1 HR;have q2:=isE_list F.value;generalize isE F.value=y2 at q2 HR;have q3:=isE_list F.first;generalize isE F.first=y3 at q3 HR;have q5:=isE_list F.last;generalize isE F.last=y5 at q5 HR;have qM:=(show decide ((0:Int)<(F.any.length:Int))=decide (0<F.any.length)from by rw[decide_eq_decide];omega);obtain⟨yM,qMn⟩: ∃b,decide (0<F.any.length)=b:=⟨_,rfl⟩;rw[qMn]at qM HR;obtain⟨xa,xc,ka,kc,rfl,HX,HK,hxc,hkc⟩:=flX_form hv.out;unfold flV;try unfold flV at qM
 try unfold flV at qMn
 obtain⟨N,hN⟩: ∃N,F.kids.length=N:=⟨_,rfl⟩;have HN:=Lib.hid hN;obtain⟨M,hM⟩: ∃M,F.any.length=M:=⟨_,rfl⟩;have HM:=Lib.hid hM;have HFH:=Lib.hid (fitX_head hf.out);have hNb:N≤100000:=by rw[←hN];exact HFH.out.2.2.2.2.2.2
 have hMb:M≤100000:=by rw[←hM];exact HFH.out.2.2.2.2.1
 rw[hN]at hkc ⊢;try rw[hN]at qM
 try rw[hN]at qMn
 rw[hM]at hxc ⊢;try rw[hM]at qM
 try rw[hM]at qMn
 clear hN hM;obtain⟨W1,hW1⟩: ∃W,w.alloc (.cells #[.int .i64 F.kind,.string F.attr,.string F.value,.string F.first,.slice xa M xc,.string F.last,.slice ka N kc] 73)=W:=⟨_,rfl⟩;have hB1:Below w.heap.size w W1:=by rw[←hW1];exact(Below.refl _ _).alloc (Nat.le_refl _) _
 have HF1:Hid (R7 W1 w.heap.size (.int .i64 F.kind) (.string F.attr) (.string F.value) (.string F.first) (.slice xa M xc) (.string F.last) (.slice ka N kc)):=by rw[←hW1];exact r7_new _ _ _ _ _ _ _ _
 obtain⟨k0,k1,k2,k3,k4,k5,k6⟩:=r7_cells HF1.out;have HB1:=Lib.hid hB1;have hs1:=hB1.size;clear hB1;have HF2:=HF1;rw[hkd]at HF2 hW1 ⊢;clear HF1 k0 k1 k2 k3 k4 k5 k6 hkd;have HF1:=HF2;clear HF2;obtain⟨k0,k1,k2,k3,k4,k5,k6⟩:=r7_cells HF1.out;cases y3 with
 | false=>
  cases y1 with
  | false=>go_enter Tryz.func179,Tryz.ntmps179;go_wp2_with fail;go_ret;exact⟨kt.ret_bool HR.out.symm,HB1.out⟩
  | true=>
   cases y2 with
   | false=>go_enter Tryz.func179,Tryz.ntmps179;go_wp2_with fail;go_ret;exact⟨kt.ret_bool HR.out.symm,HB1.out⟩
   | true=>go_enter Tryz.func179,Tryz.ntmps179;go_wp2_with fail;go_ret;exact⟨kt.ret_bool HR.out.symm,HB1.out⟩
 | true=>
  cases yM with
  | true=>
   cases y1 with
   | false=>go_enter Tryz.func179,Tryz.ntmps179;go_wp2_with fail;go_ret;exact⟨kt.ret_bool HR.out.symm,HB1.out⟩
   | true=>
    cases y2 with
    | false=>go_enter Tryz.func179,Tryz.ntmps179;go_wp2_with fail;go_ret;exact⟨kt.ret_bool HR.out.symm,HB1.out⟩
    | true=>go_enter Tryz.func179,Tryz.ntmps179;go_wp2_with fail;go_ret;exact⟨kt.ret_bool HR.out.symm,HB1.out⟩
  | false=>
   cases y5 with
   | false=>
    cases y1 with
    | false=>go_enter Tryz.func179,Tryz.ntmps179;go_wp2_with fail;go_ret;exact⟨kt.ret_bool HR.out.symm,HB1.out⟩
    | true=>
     cases y2 with
     | false=>go_enter Tryz.func179,Tryz.ntmps179;go_wp2_with fail;go_ret;exact⟨kt.ret_bool HR.out.symm,HB1.out⟩
     | true=>go_enter Tryz.func179,Tryz.ntmps179;go_wp2_with fail;go_ret;exact⟨kt.ret_bool HR.out.symm,HB1.out⟩
   | true=>
    cases y1 with
    | false=>go_enter Tryz.func179,Tryz.ntmps179;go_wp2_with fail;go_ret;exact⟨kt.ret_bool HR.out.symm,HB1.out⟩
    | true=>
     cases y2 with
     | false=>go_enter Tryz.func179,Tryz.ntmps179;go_wp2_with fail;go_ret;exact⟨kt.ret_bool HR.out.symm,HB1.out⟩
     | true=>go_enter Tryz.func179,Tryz.ntmps179;go_wp2_with fail;go_ret;exact⟨kt.ret_bool HR.out.symm,HB1.out⟩
theorem one_k1 (F:Fl)(v:Value)(w:World)(hv:Hid (FlX w v F))(hf:Hid (FitX F))(hkd:F.kind=1):
  Calls Tryz.prog 179 #[v] w fun e w'=>e= .returned (.bool (oneF F))∧Below w.heap.size w w':=by
 have HR:=Lib.hid (rn01 F (Or.inr hkd));obtain⟨R,hR⟩: ∃R,oneF F=R:=⟨_,rfl⟩;rw[hR]at HR ⊢;clear hR;have q1:=isE_list F.attr;generalize isE F.attr=y1 at q1 HR;have q2:=isE_list F.value;generalize isE F.value=y2 at q2 HR;have q3:=isE_list F.first;generalize isE F.first=y3 at q3 HR;have q5:=isE_list F.last;generalize isE F.last=y5 at q5 HR;have qM:=(show decide ((0:Int)<(F.any.length:Int))=decide (0<F.any.length)from by rw[decide_eq_decide];omega);obtain⟨yM,qMn⟩: ∃b,decide (0<F.any.length)=b:=⟨_,rfl⟩;rw[qMn]at qM HR;obtain⟨xa,xc,ka,kc,rfl,HX,HK,hxc,hkc⟩:=flX_form hv.out;unfold flV;try unfold flV at qM
 try unfold flV at qMn
 obtain⟨N,hN⟩: ∃N,F.kids.length=N:=⟨_,rfl⟩;have HN:=Lib.hid hN;obtain⟨M,hM⟩: ∃M,F.any.length=M:=⟨_,rfl⟩;have HM:=Lib.hid hM;have HFH:=Lib.hid (fitX_head hf.out);have hNb:N≤100000:=by rw[←hN];exact HFH.out.2.2.2.2.2.2
 have hMb:M≤100000:=by rw[←hM];exact HFH.out.2.2.2.2.1
 rw[hN]at hkc ⊢;try rw[hN]at qM
 try rw[hN]at qMn
 rw[hM]at hxc ⊢;try rw[hM]at qM
 try rw[hM]at qMn
 clear hN hM;obtain⟨W1,hW1⟩: ∃W,w.alloc (.cells #[.int .i64 F.kind,.string F.attr,.string F.value,.string F.first,.slice xa M xc,.string F.last,.slice ka N kc] 73)=W:=⟨_,rfl⟩;have hB1:Below w.heap.size w W1:=by rw[←hW1];exact(Below.refl _ _).alloc (Nat.le_refl _) _
 have HF1:Hid (R7 W1 w.heap.size (.int .i64 F.kind) (.string F.attr) (.string F.value) (.string F.first) (.slice xa M xc) (.string F.last) (.slice ka N kc)):=by rw[←hW1];exact r7_new _ _ _ _ _ _ _ _
 obtain⟨k0,k1,k2,k3,k4,k5,k6⟩:=r7_cells HF1.out;have HB1:=Lib.hid hB1;have hs1:=hB1.size;clear hB1;have HF2:=HF1;rw[hkd]at HF2 hW1 ⊢;clear HF1 k0 k1 k2 k3 k4 k5 k6 hkd;have HF1:=HF2;clear HF2;obtain⟨k0,k1,k2,k3,k4,k5,k6⟩:=r7_cells HF1.out;cases y3 with
 | false=>
  cases y1 with
  | false=>go_enter Tryz.func179,Tryz.ntmps179;go_wp2_with fail;go_ret;exact⟨kt.ret_bool HR.out.symm,HB1.out⟩
  | true=>
   cases y2 with
   | false=>go_enter Tryz.func179,Tryz.ntmps179;go_wp2_with fail;go_ret;exact⟨kt.ret_bool HR.out.symm,HB1.out⟩
   | true=>go_enter Tryz.func179,Tryz.ntmps179;go_wp2_with fail;go_ret;exact⟨kt.ret_bool HR.out.symm,HB1.out⟩
 | true=>
  cases yM with
  | true=>
   cases y1 with
   | false=>go_enter Tryz.func179,Tryz.ntmps179;go_wp2_with fail;go_ret;exact⟨kt.ret_bool HR.out.symm,HB1.out⟩
   | true=>
    cases y2 with
    | false=>go_enter Tryz.func179,Tryz.ntmps179;go_wp2_with fail;go_ret;exact⟨kt.ret_bool HR.out.symm,HB1.out⟩
    | true=>go_enter Tryz.func179,Tryz.ntmps179;go_wp2_with fail;go_ret;exact⟨kt.ret_bool HR.out.symm,HB1.out⟩
  | false=>
   cases y5 with
   | false=>
    cases y1 with
    | false=>go_enter Tryz.func179,Tryz.ntmps179;go_wp2_with fail;go_ret;exact⟨kt.ret_bool HR.out.symm,HB1.out⟩
    | true=>
     cases y2 with
     | false=>go_enter Tryz.func179,Tryz.ntmps179;go_wp2_with fail;go_ret;exact⟨kt.ret_bool HR.out.symm,HB1.out⟩
     | true=>go_enter Tryz.func179,Tryz.ntmps179;go_wp2_with fail;go_ret;exact⟨kt.ret_bool HR.out.symm,HB1.out⟩
   | true=>
    cases y1 with
    | false=>go_enter Tryz.func179,Tryz.ntmps179;go_wp2_with fail;go_ret;exact⟨kt.ret_bool HR.out.symm,HB1.out⟩
    | true=>
     cases y2 with
     | false=>go_enter Tryz.func179,Tryz.ntmps179;go_wp2_with fail;go_ret;exact⟨kt.ret_bool HR.out.symm,HB1.out⟩
     | true=>go_enter Tryz.func179,Tryz.ntmps179;go_wp2_with fail;go_ret;exact⟨kt.ret_bool HR.out.symm,HB1.out⟩
theorem one_k2 (F:Fl)(v:Value)(w:World)(hv:Hid (FlX w v F))(hf:Hid (FitX F))(hkd:F.kind=2):
  Calls Tryz.prog 179 #[v] w fun e w'=>e= .returned (.bool (oneF F))∧Below w.heap.size w w':=by
 have HR:=Lib.hid (rn2 F hkd);obtain⟨R,hR⟩: ∃R,oneF F=R:=⟨_,rfl⟩;rw[hR]at HR ⊢;clear hR;have q1:=isE_list F.attr;generalize isE F.attr=y1 at q1 HR;have q2:=isE_list F.value;generalize isE F.value=y2 at q2 HR;have q3:=isE_list F.first;generalize isE F.first=y3 at q3 HR;have q5:=isE_list F.last;generalize isE F.last=y5 at q5 HR;have qM:=(show decide ((0:Int)<(F.any.length:Int))=decide (0<F.any.length)from by rw[decide_eq_decide];omega);obtain⟨yM,qMn⟩: ∃b,decide (0<F.any.length)=b:=⟨_,rfl⟩;rw[qMn]at qM HR;have qn1:=(show((F.kids.length:Int)==1)=decide (F.kids.length=1)from by rw[Bool.eq_iff_iff,beq_iff_eq,decide_eq_true_iff];omega);obtain⟨yn1,qn1n⟩: ∃b,decide (F.kids.length=1)=b:=⟨_,rfl⟩;rw[qn1n]at qn1 HR;obtain⟨xa,xc,ka,kc,rfl,HX,HK,hxc,hkc⟩:=flX_form hv.out;unfold flV;try unfold flV at qM
 try unfold flV at qMn
 try unfold flV at qn1
 try unfold flV at qn1n
 obtain⟨N,hN⟩: ∃N,F.kids.length=N:=⟨_,rfl⟩;have HN:=Lib.hid hN;obtain⟨M,hM⟩: ∃M,F.any.length=M:=⟨_,rfl⟩;have HM:=Lib.hid hM;have HFH:=Lib.hid (fitX_head hf.out);have hNb:N≤100000:=by rw[←hN];exact HFH.out.2.2.2.2.2.2
 have hMb:M≤100000:=by rw[←hM];exact HFH.out.2.2.2.2.1
 rw[hN]at hkc ⊢;try rw[hN]at qM
 try rw[hN]at qMn
 try rw[hN]at qn1
 try rw[hN]at qn1n
 rw[hM]at hxc ⊢;try rw[hM]at qM
 try rw[hM]at qMn
 try rw[hM]at qn1
 try rw[hM]at qn1n
 clear hN hM;obtain⟨W1,hW1⟩: ∃W,w.alloc (.cells #[.int .i64 F.kind,.string F.attr,.string F.value,.string F.first,.slice xa M xc,.string F.last,.slice ka N kc] 73)=W:=⟨_,rfl⟩;have hB1:Below w.heap.size w W1:=by rw[←hW1];exact(Below.refl _ _).alloc (Nat.le_refl _) _
 have HF1:Hid (R7 W1 w.heap.size (.int .i64 F.kind) (.string F.attr) (.string F.value) (.string F.first) (.slice xa M xc) (.string F.last) (.slice ka N kc)):=by rw[←hW1];exact r7_new _ _ _ _ _ _ _ _
 obtain⟨k0,k1,k2,k3,k4,k5,k6⟩:=r7_cells HF1.out;have HB1:=Lib.hid hB1;have hs1:=hB1.size;clear hB1;have HF2:=HF1;rw[hkd]at HF2 hW1 ⊢;clear HF1 k0 k1 k2 k3 k4 k5 k6 hkd;have HF1:=HF2;clear HF2;obtain⟨k0,k1,k2,k3,k4,k5,k6⟩:=r7_cells HF1.out;cases y3 with
 | false=>
  cases y1 with
  | false=>go_enter Tryz.func179,Tryz.ntmps179;go_wp2_with fail;go_ret;exact⟨kt.ret_bool HR.out.symm,HB1.out⟩
  | true=>
   cases y2 with
   | false=>go_enter Tryz.func179,Tryz.ntmps179;go_wp2_with fail;go_ret;exact⟨kt.ret_bool HR.out.symm,HB1.out⟩
   | true=>go_enter Tryz.func179,Tryz.ntmps179;go_wp2_with fail;go_ret;exact⟨kt.ret_bool HR.out.symm,HB1.out⟩
 | true=>
  cases yM with
  | true=>
   cases y1 with
   | false=>go_enter Tryz.func179,Tryz.ntmps179;go_wp2_with fail;go_ret;exact⟨kt.ret_bool HR.out.symm,HB1.out⟩
   | true=>
    cases y2 with
    | false=>go_enter Tryz.func179,Tryz.ntmps179;go_wp2_with fail;go_ret;exact⟨kt.ret_bool HR.out.symm,HB1.out⟩
    | true=>go_enter Tryz.func179,Tryz.ntmps179;go_wp2_with fail;go_ret;exact⟨kt.ret_bool HR.out.symm,HB1.out⟩
  | false=>
   cases y5 with
   | false=>
    cases y1 with
    | false=>go_enter Tryz.func179,Tryz.ntmps179;go_wp2_with fail;go_ret;exact⟨kt.ret_bool HR.out.symm,HB1.out⟩
    | true=>
     cases y2 with
     | false=>go_enter Tryz.func179,Tryz.ntmps179;go_wp2_with fail;go_ret;exact⟨kt.ret_bool HR.out.symm,HB1.out⟩
     | true=>go_enter Tryz.func179,Tryz.ntmps179;go_wp2_with fail;go_ret;exact⟨kt.ret_bool HR.out.symm,HB1.out⟩
   | true=>
    cases y1 with
    | false=>go_enter Tryz.func179,Tryz.ntmps179;go_wp2_with fail;go_ret;exact⟨kt.ret_bool HR.out.symm,HB1.out⟩
    | true=>
     cases y2 with
     | false=>go_enter Tryz.func179,Tryz.ntmps179;go_wp2_with fail;go_ret;exact⟨kt.ret_bool HR.out.symm,HB1.out⟩
     | true=>
      cases yn1 with
      | false=>go_enter Tryz.func179,Tryz.ntmps179;go_wp2_with fail;go_ret;exact⟨kt.ret_bool HR.out.symm,HB1.out⟩
      | true=>go_enter Tryz.func179,Tryz.ntmps179;go_wp2_with fail;go_ret;exact⟨kt.ret_bool HR.out.symm,HB1.out⟩
end flw
end Go.Proofs.YtmnpfkbjpeaemaaGreatDoor
