/- One text out of several: FilF, FilG, FilH, FilA, SchP, SchK, SchL, FilN. -/
import Derived.Test.YtmnpfkbjpeaemaaGreatDoorN10
import Derived.Deep.MidRow
import Derived.Lib.SlBuf
import Derived.Test.YtmnpfkbjpeaemaaGreatDoorN1
import Derived.Test.YtmnpfkbjpeaemaaGreatDoorN2
import Derived.Deep.Upon
import Derived.Test.YtmnpfkbjpeaemaaGreatDoorN5
import Derived.Lib.SlicesCompact
import Derived.Shelf.SlicesE.DeleteFunc
import Derived.Shelf.SlicesE.IndexFunc
import Derived.Test.YtmnpfkbjpeaemaaGreatDoorProg
import Derived.Test.YtmnpfkbjpeaemaaGreatDoorN6
import Derived.Test.YtmnpfkbjpeaemaaGreatDoorN7
import Derived.Test.YtmnpfkbjpeaemaaGreatDoorN9
set_option linter.unusedVariables false
set_option linter.unusedSimpArgs false
set_option maxRecDepth 20000
set_option maxHeartbeats 16000000
namespace Go.Proofs.YtmnpfkbjpeaemaaGreatDoor
open Go.RowKit
namespace flw
open flp atp atw etp etw
open tupw (Strs strs_below)
def partedI (F:Fl)(syn:Int)(vs:List ByteArray):Int:=if(partE syn (probe syn) F.first F.last F.any).2≠0 then 2 else someI (vs.any (partV F syn))
theorem fit_texts {F:Fl}(h:FitH F): ∀x∈F.first::(F.any++[F.last]),x.size≤1100000:=by
 intro x hx;obtain⟨_,_,h3,h4,_,h6,_⟩:=h;rcases List.mem_cons.1 hx with rfl | hx
 ·omega
 ·rcases List.mem_append.1 hx with hx | hx
  ·have:=h6 x hx;omega
  ·rw[List.mem_singleton]at hx;subst hx;omega
theorem probe_size (syn:Int):(probe syn).size≤1:=by unfold probe;split<;>exact Nat.le_refl _
theorem any_true (l:List ByteArray):(l.any fun _=>true)= !l.isEmpty:=by cases l<;>rfl
def FitL (L:List At):Prop:=L.length≤100000∧ ∀a∈L,a.vs.length≤1000000∧ ∀v∈a.vs,v.size≤140737488351232
theorem fitL_vals {L:List At}(h:FitL L)(n:ByteArray):(valsA L n).length≤1000000∧ ∀v∈valsA L n,v.size≤140737488351232:=by
 unfold valsA;cases hf:L.find? fun a=>decide (a.t=n)with
 | none=>exact⟨by simp,by simp⟩
 | some a=>exact h.2 a (List.mem_of_find?_eq_some hf)
theorem parted_any (F:Fl)(v:Value)(nm:ByteArray)(syn:Int)(sg:Bool)(x:Value)(vs:List ByteArray)(w:World)(hv:Hid (FlX w v F))(hf:Hid (FitX F))(h8:F.any.length≤8)(hx:Hid (ElemAt w x vs))(hvl:vs.length≤1000000)(hvs:Hid (∀v∈vs,v.size≤140737488351232))(hE:Hid (EnvE w)):
  Calls Tryz.prog 232 #[v,.agg #[.string nm,.int .i64 syn,.bool sg],x] w fun e w'=>e= .returned (.int .i64 (partedI F syn vs))∧Below w.heap.size w w':=by
 have HR:Hid (partedI F syn vs=if(partE syn (probe syn) F.first F.last F.any).2≠0 then 2 else someI (vs.any (partV F syn))):=rfl;obtain⟨R,hR⟩: ∃R,partedI F syn vs=R:=⟨_,rfl⟩;rw[hR]at HR ⊢;clear hR;have HPS:=Lib.hid (probe_size syn);have HTX:=Lib.hid (fit_texts (fitX_head hf.out));have HC0:Hid (∀xa xc W,Strs W xa F.any→(xa=none→xc=0)→Below w.heap.size w W→Calls Tryz.prog 272 #[.agg #[.string nm,.int .i64 syn,.bool sg],.string (probe syn),.string F.first,.slice xa F.any.length xc,.string F.last] W fun e w'=>e= .returned (.tuple #[.bool (partE syn (probe syn) F.first F.last F.any).1,.int .i64 (partE syn (probe syn) F.first F.last F.any).2])∧Below W.heap.size W w'):=fun xa xc W hS hn h=>part_any nm syn sg (probe syn) F.first F.last F.any xa xc W (Lib.hid hS) (Lib.hid hn) (by omega) (by have:=HPS.out;omega) HTX (Lib.hid (envE_below hE.out h).e) (Lib.hid (envE_below hE.out h).t);have HL0:Hid (∀xa xc kv bt bf W,Strs W xa F.any→(xa=none→xc=0)→TB W bt nm syn sg→R7 W bf (.int .i64 F.kind) (.string F.attr) (.string F.value) (.string F.first) (.slice xa F.any.length xc) (.string F.last) kv→Below w.heap.size w W→Calls Tryz.prog 230 #[x,.func (.func 273) #[] #[.pointer (some ⟨bt,0,none⟩),.pointer (some ⟨bf,0,none⟩)]] W fun e w'=>e= .returned (.int .i64 (someI (vs.any (partV F syn))))∧Below W.heap.size W w'):=by intro xa xc kv bt bf W hS hn hT hF h;exact some_pt (partV F syn) bt bf x vs W (Lib.hid (elem_below hx.out h)) hvl (Lib.hid fun W2 y hy hb=>clo3_any F nm syn sg xa xc kv y bt bf W2 (hvs.out y hy) (by omega) HTX (Lib.hid hn) (Lib.hid (envE_below hE.out (h.trans (hb.mono h.size)))) (Lib.hid (tb_below hT hb)) (Lib.hid (r7_below hF hb)) (Lib.hid (strs_below hS hb)))
 have HPR:Hid ((syn=7∧probe syn=⟨#[49]⟩)∨((syn==7)=false∧probe syn=⟨#[97]⟩)):=by
  by_cases h:syn=7
  ·exact Or.inl ⟨h,if_pos h⟩
  ·exact Or.inr ⟨by rw[beq_eq_false_iff_ne];exact h,if_neg h⟩
 have hsome:=some_three (vs.any (partV F syn));generalize probe syn=pb at HC0 HPR HR;generalize(partE syn pb F.first F.last F.any).1=c1 at HC0;generalize(partE syn pb F.first F.last F.any).2=er at HC0 HR;generalize someI (vs.any (partV F syn))=sm at HL0 HR hsome;clear hvs HPS HTX hvl;obtain⟨xa,xc,ka,kc,rfl,HX,HK,hxc,hkc⟩:=flX_form hv.out;unfold flV;try unfold flV at HC0
 try unfold flV at HL0
 obtain⟨N,hN⟩: ∃N,F.kids.length=N:=⟨_,rfl⟩;have HN:=Lib.hid hN;obtain⟨M,hM⟩: ∃M,F.any.length=M:=⟨_,rfl⟩;have HM:=Lib.hid hM;have HFH:=Lib.hid (fitX_head hf.out);have hNb:N≤100000:=by rw[←hN];exact HFH.out.2.2.2.2.2.2
 have hMb:M≤100000:=by rw[←hM];exact HFH.out.2.2.2.2.1
 rw[hN]at hkc ⊢;try rw[hN]at HC0
 try rw[hN]at HL0
 rw[hM]at hxc ⊢;try rw[hM]at HC0
 try rw[hM]at HL0
 clear hN hM;obtain⟨W1,hW1⟩: ∃W,w.alloc (.cells #[.int .i64 F.kind,.string F.attr,.string F.value,.string F.first,.slice xa M xc,.string F.last,.slice ka N kc] 73)=W:=⟨_,rfl⟩;have hB1:Below w.heap.size w W1:=by rw[←hW1];exact(Below.refl _ _).alloc (Nat.le_refl _) _
 have HF1:Hid (R7 W1 w.heap.size (.int .i64 F.kind) (.string F.attr) (.string F.value) (.string F.first) (.slice xa M xc) (.string F.last) (.slice ka N kc)):=by rw[←hW1];exact r7_new _ _ _ _ _ _ _ _
 obtain⟨k0,k1,k2,k3,k4,k5,k6⟩:=r7_cells HF1.out;have HB1:=Lib.hid hB1;have hs1:=hB1.size;clear hB1;obtain⟨W2,hW2⟩: ∃W,W1.alloc (.cells #[.string nm,.int .i64 syn,.bool sg] 108)=W:=⟨_,rfl⟩;have hB2:Below W1.heap.size W1 W2:=by rw[←hW2];exact(Below.refl _ _).alloc (Nat.le_refl _) _
 obtain⟨q,hqq⟩: ∃q,W1.heap.size=q:=⟨_,rfl⟩;have HY2:Hid (TB W2 q nm syn sg):=by rw[←hW2,←hqq];exact tb_new _ _ _ _
 obtain⟨y0,y1,y2⟩:=tb_cells HY2.out;have HB2:=Lib.hid (HB1.out.trans (hB2.mono hs1));have HF2:=Lib.hid (r7_below HF1.out hB2);obtain⟨l0,l1,l2,l3,l4,l5,l6⟩:=r7_cells HF2.out;have HX2:=Lib.hid (strs_below HX.out HB2.out);have HC:=Lib.hid (HC0.out xa xc W2 HX2.out hxc.2 HB2.out);clear hB2 HC0;rcases HPR.out with⟨hs7,hpb⟩ | ⟨hs7,hpb⟩
 all_goals
  subst hpb
  (try subst hs7)
  by_cases he:er=0
  ·have qe:(er !=0)=false:=(by rw[bne_eq_false_iff_eq];exact he);rw[if_neg (not_not_intro he)]at HR;clear he;go_enter Tryz.func232,Tryz.ntmps232;go_wp2_with fail;refine HC.out.mono ?_;rintro e w3 ⟨rfl,hB3⟩;have HB3:=Lib.hid (HB2.out.trans (hB3.mono HB2.out.size));have HY3:=Lib.hid (tb_below HY2.out hB3);have HF3:=Lib.hid (r7_below HF2.out hB3);have HS3:=Lib.hid (HL0.out xa xc _ q w.heap.size w3 (strs_below HX2.out hB3) hxc.2 HY3.out HF3.out HB3.out);clear hB3 k0 k1 k2 k3 k4 k5 k6 y0 y1 y2 l0 l1 l2 l3 l4 l5 l6;go_wp2_with fail;refine HS3.out.mono ?_;rintro e w4 ⟨rfl,hB4⟩;have HB4:=Lib.hid (HB3.out.trans (hB4.mono HB3.out.size));clear hB4;go_wp2_with fail;go_ret;exact⟨kt.ret_int HR.out.symm,HB4.out⟩
  ·have qe:(er !=0)=true:=(by rw[bne_iff_ne];exact he);rw[if_pos he]at HR;clear he;go_enter Tryz.func232,Tryz.ntmps232;go_wp2_with fail;refine HC.out.mono ?_;rintro e w3 ⟨rfl,hB3⟩;have HB3:=Lib.hid (HB2.out.trans (hB3.mono HB2.out.size));clear hB3 k0 k1 k2 k3 k4 k5 k6 y0 y1 y2 l0 l1 l2 l3 l4 l5 l6;go_wp2_with fail;go_ret;exact⟨kt.ret_int HR.out.symm,HB3.out⟩
theorem leaf_any (F:Fl)(v:Value)(ao:Option Addr)(cap:Nat)(L:List At)(w:World)(hv:Hid (FlX w v F))(hf:Hid (FitX F))(hk4:F.kind=4→F.any.length≤8)(hA:Hid (Ats w ao L))(hL:Hid (FitL L))(hE:Hid (EnvE w)):
  Calls Tryz.prog 181 #[v,.slice ao L.length cap] w fun e w'=>e= .returned (.int .i64 (leafI F L))∧Below w.heap.size w w':=by
 have HFH0:=Lib.hid (fitX_head hf.out);have HFI:Hid (∀W,Below w.heap.size w W→Calls Tryz.prog 74 #[.string F.attr] W fun e w'=>e= .returned (resT (findS (sml.lowL F.attr.data.toList)))∧Below W.heap.size W w'):=fun W h=>find_any F.attr W (by have:=HFH0.out.1;omega) (Lib.hid (envE_below hE.out h).y);have HVA:Hid (∀n W,Below w.heap.size w W→Calls Tryz.prog 229 #[.slice ao L.length cap,.string n] W fun e w'=>ValsE (valsA L n) W e w'):=fun n W h=>fvals_any ao cap L n W (Lib.hid (ats_below hA.out h)) hL.out.1;have HVL:=Lib.hid (fun n=>fitL_vals hL.out n);have HPT:Hid (F.kind=4→ ∀u nm syn sg x vs W,FlX W u F→ElemAt W x vs→vs.length≤1000000→(∀v∈vs,v.size≤140737488351232)→Below w.heap.size w W→Calls Tryz.prog 232 #[u,.agg #[.string nm,.int .i64 syn,.bool sg],x] W fun e w'=>e= .returned (.int .i64 (partedI F syn vs))∧Below W.heap.size W w'):=fun h4 u nm syn sg x vs W h1 h2 h3 h5 h6=>parted_any F u nm syn sg x vs W (Lib.hid h1) hf (hk4 h4) (Lib.hid h2) h3 (Lib.hid h5) (Lib.hid (envE_below hE.out h6));have HCK0:Hid (∀nm syn sg W,Below w.heap.size w W→Calls Tryz.prog 145 #[.agg #[.string nm,.int .i64 syn,.bool sg],.string F.value] W fun e w'=>e= .returned (.int .i64 (normL syn F.value.data.toList).2)∧Below W.heap.size W w'):=fun nm syn sg W h=>check_any nm syn sg F.value W (by have:=HFH0.out.2.1;omega) (Lib.hid (envE_below hE.out h).e) (Lib.hid (envE_below hE.out h).t);have HSM0:Hid (∀nm syn sg vs x av kv bt bf W,ElemAt W x vs→vs.length≤1000000→(∀v∈vs,v.size≤140737488351232)→TB W bt nm syn sg→R7 W bf (.int .i64 F.kind) (.string F.attr) (.string F.value) (.string F.first) av (.string F.last) kv→Below w.heap.size w W→Calls Tryz.prog 230 #[x,.func (.func 234) #[] #[.pointer (some ⟨bf,0,none⟩),.pointer (some ⟨bt,0,none⟩)]] W fun e w'=>e= .returned (.int .i64 (someI (vs.any (askV F syn))))∧Below W.heap.size W w'):=by intro nm syn sg vs x av kv bt bf W h1 h2 h3 hT hF h;exact some_l2 (askV F syn) bf bt x vs W (Lib.hid h1) h2 (Lib.hid fun W2 y hy hb=>clo4_any F nm syn sg av kv y bt bf W2 (h3 y hy) (by have:=HFH0.out.2.1;omega) (Lib.hid (envE_below hE.out (h.trans (hb.mono h.size)))) (Lib.hid (tb_below hT hb)) (Lib.hid (r7_below hF hb)))
 have HS1:Hid (∀x vs W,ElemAt W x vs→vs.length≤1000000→Calls Tryz.prog 230 #[x,.func (.func 231) #[] #[]] W fun e w'=>e= .returned (.int .i64 (someI (!vs.isEmpty)))∧Below W.heap.size W w'):=by intro x vs W h1 h2;have:=some_l1 (fun _=>true) x vs W (Lib.hid h1) h2 (Lib.hid fun W2 y hy hb=>clo2_any y W2);rw[any_true]at this;exact this
 have HRL:Hid (leafI F L=match findS (sml.lowL F.attr.data.toList)with
  | none=>2
  | some t=>leafT F L t):=rfl
 have HLT:Hid (∀t,leafT F L t=if F.kind=7 then someI (!(valsA L (bs t.name)).isEmpty)
  else if F.kind=4 then partedI F t.syn (valsA L (bs t.name))
  else if okV t.syn F.value=false∨((F.kind=5∨F.kind=6)∧ordS t.syn=false)then 2
  else someI ((valsA L (bs t.name)).any (askV F t.syn))):=fun _=>rfl
 have HLV:Hid (∀syn,okV syn F.value=decide ((normL syn F.value.data.toList).2=0)):=fun _=>rfl;obtain⟨R,hR⟩: ∃R,leafI F L=R:=⟨_,rfl⟩;rw[hR]at HRL ⊢;clear hR HFH0;obtain⟨NL,hNL⟩: ∃n,L.length=n:=⟨_,rfl⟩;rw[hNL]at HVA ⊢;clear hNL;have HV0:=hv;obtain⟨xa,xc,ka,kc,rfl,HX,HK,hxc,hkc⟩:=flX_form hv.out;unfold flV;obtain⟨N,hN⟩: ∃N,F.kids.length=N:=⟨_,rfl⟩;have HN:=Lib.hid hN;obtain⟨M,hM⟩: ∃M,F.any.length=M:=⟨_,rfl⟩;have HM:=Lib.hid hM;have HFH:=Lib.hid (fitX_head hf.out);have hNb:N≤100000:=by rw[←hN];exact HFH.out.2.2.2.2.2.2
 have hMb:M≤100000:=by rw[←hM];exact HFH.out.2.2.2.2.1
 rw[hN]at hkc ⊢;rw[hM]at hxc ⊢;clear hN hM;obtain⟨W1,hW1⟩: ∃W,w.alloc (.cells #[.int .i64 F.kind,.string F.attr,.string F.value,.string F.first,.slice xa M xc,.string F.last,.slice ka N kc] 73)=W:=⟨_,rfl⟩;have hB1:Below w.heap.size w W1:=by rw[←hW1];exact(Below.refl _ _).alloc (Nat.le_refl _) _
 have HF1:Hid (R7 W1 w.heap.size (.int .i64 F.kind) (.string F.attr) (.string F.value) (.string F.first) (.slice xa M xc) (.string F.last) (.slice ka N kc)):=by rw[←hW1];exact r7_new _ _ _ _ _ _ _ _
 obtain⟨k0,k1,k2,k3,k4,k5,k6⟩:=r7_cells HF1.out;have HB1:=Lib.hid hB1;have hs1:=hB1.size;clear hB1;have HVV:Hid (FlX W1 (.agg #[.int .i64 F.kind,.string F.attr,.string F.value,.string F.first,.slice xa M xc,.string F.last,.slice ka N kc]) F):=by have h:=flX_below HV0.out HB1.out;unfold flV at h;rw[HM.out,HN.out]at h;exact h
 have HFI1:=Lib.hid (HFI.out W1 HB1.out);clear HFI HV0;go_enter Tryz.func181,Tryz.ntmps181;go_wp2_with fail;refine HFI1.out.mono ?_;rintro e w2 ⟨hfr,hB2⟩;have HB2:=Lib.hid (HB1.out.trans (hB2.mono hs1));have HF2:=Lib.hid (r7_below HF1.out hB2);have HV2:=Lib.hid (flX_below HVV.out hB2);clear hB2 k0 k1 k2 k3 k4 k5 k6 HFI1 hW1;cases hfe:findS (sml.lowL F.attr.data.toList)with
 | none=>rw[hfe]at hfr HRL;have hfr2:e= .returned (.tuple #[.agg #[.string ⟨#[]⟩,.int .i64 0,.bool false],.bool false]):=hfr;have HR:Hid (R=2):=HRL.out;subst hfr2;clear hfr hfe;have hB3:Below w2.heap.size w2 (w2.alloc (.cells #[.string ⟨#[]⟩,.int .i64 0,.bool false] 108)):=(Below.refl _ _).alloc (Nat.le_refl _) _;have HB3:=Lib.hid (HB2.out.trans (hB3.mono HB2.out.size));clear hB3;go_wp2_with fail;go_ret;exact⟨kt.ret_int HR.out.symm,HB3.out⟩
 | some ty=>
  rw[hfe]at hfr HRL;have hfr2:e= .returned (.tuple #[.agg #[.string (bs ty.name),.int .i64 ty.syn,.bool ty.single],.bool true]):=hfr;have HR0:Hid (R=leafT F L ty):=HRL.out;subst hfr2;clear hfr hfe HRL;have HR:=Lib.hid (HR0.out.trans (HLT.out ty));have HV1:=Lib.hid (HVL.out (bs ty.name)).2;have hvl:=(HVL.out (bs ty.name)).1;have HVA1:Hid (∀W,Below w.heap.size w W→Calls Tryz.prog 229 #[.slice ao NL cap,.string (bs ty.name)] W fun e w'=>ValsE (valsA L (bs ty.name)) W e w'):=fun W h=>HVA.out _ W h;have HOV:=Lib.hid (HLV.out ty.syn);clear HVA HVL HLT HR0 HLV;generalize bs ty.name=nm at HR HV1 hvl HVA1;generalize ty.syn=syn at HR HOV;generalize ty.single=sg;generalize valsA L nm=vs at HR HV1 hvl HVA1;have HCK1:Hid (∀W,Below w.heap.size w W→Calls Tryz.prog 145 #[.agg #[.string nm,.int .i64 syn,.bool sg],.string F.value] W fun e w'=>e= .returned (.int .i64 (normL syn F.value.data.toList).2)∧Below W.heap.size W w'):=fun W h=>HCK0.out nm syn sg W h;generalize(normL syn F.value.data.toList).2=ck at HCK1 HOV;have HSM:Hid (∀x av kv bt bf W,ElemAt W x vs→TB W bt nm syn sg→R7 W bf (.int .i64 F.kind) (.string F.attr) (.string F.value) (.string F.first) av (.string F.last) kv→Below w.heap.size w W→Calls Tryz.prog 230 #[x,.func (.func 234) #[] #[.pointer (some ⟨bf,0,none⟩),.pointer (some ⟨bt,0,none⟩)]] W fun e w'=>e= .returned (.int .i64 (someI (vs.any (askV F syn))))∧Below W.heap.size W w'):=fun x av kv bt bf W h1 h2 h3 h4=>HSM0.out nm syn sg vs x av kv bt bf W h1 hvl HV1.out h2 h3 h4;generalize someI (vs.any (askV F syn))=sm at HSM HR;have HOR:=Lib.hid (fun W=>ordered_any nm syn sg W);generalize ordS syn=od at HOR HR;clear HCK0 HSM0;obtain⟨w4,hw4⟩: ∃W,w2.alloc (.cells #[.string nm,.int .i64 syn,.bool sg] 108)=W:=⟨_,rfl⟩;have hB4:Below w2.heap.size w2 w4:=by rw[←hw4];exact(Below.refl _ _).alloc (Nat.le_refl _) _
  obtain⟨tb,htb⟩: ∃tb,w2.heap.size=tb:=⟨_,rfl⟩;have HY4:Hid (TB w4 tb nm syn sg):=by rw[←hw4,←htb];exact tb_new _ _ _ _
  have HB4:=Lib.hid (HB2.out.trans (hB4.mono HB2.out.size));have HF4:=Lib.hid (r7_below HF2.out hB4);have HV4:=Lib.hid (flX_below HV2.out hB4);obtain⟨y0,y1,y2⟩:=tb_cells HY4.out;obtain⟨i0,i1,i2,i3,i4,i5,i6⟩:=r7_cells HF4.out;have HVA:=Lib.hid (HVA1.out w4 HB4.out);clear hB4 HVA1;go_wp2_with fail;refine HVA.out.mono ?_;rintro e w5 ⟨x5,rfl,hx5,hB5⟩;have HX5:=Lib.hid hx5;have HB5:=Lib.hid (HB4.out.trans (hB5.mono HB4.out.size));have HY5:=Lib.hid (tb_below HY4.out hB5);have HF5:=Lib.hid (r7_below HF4.out hB5);have HV5:=Lib.hid (flX_below HV4.out hB5);clear hx5 hB5 y0 y1 y2 i0 i1 i2 i3 i4 i5 i6 hw4 htb HVA;obtain⟨kd,hkd⟩: ∃k,F.kind=k:=⟨_,rfl⟩;have HPT2:=HPT;rw[hkd]at HR HF5 HV5 HPT2 HSM;clear HPT hkd;obtain⟨j0,j1,j2,j3,j4,j5,j6⟩:=r7_cells HF5.out;obtain⟨z0,z1,z2⟩:=tb_cells HY5.out;by_cases h7:kd=7
  ·rw[if_pos h7]at HR;subst h7;have HC7:=Lib.hid (HS1.out x5 vs w5 HX5.out hvl);generalize someI (!vs.isEmpty)=s1 at HC7 HR;go_wp2_with fail;refine HC7.out.mono ?_;rintro e w9 ⟨rfl,hB9⟩;have HB9:=Lib.hid (HB5.out.trans (hB9.mono HB5.out.size));clear hB9;go_wp2_with fail;go_ret;exact⟨kt.ret_int HR.out.symm,HB9.out⟩
  ·rw[if_neg h7]at HR;have d7:(kd==7)=false:=(by rw[beq_eq_false_iff_ne];exact h7);clear h7;by_cases h4:kd=4
   ·rw[if_pos h4]at HR;subst h4;have HC4:=Lib.hid (HPT2.out rfl _ nm syn sg x5 vs w5 HV5.out HX5.out hvl HV1.out HB5.out);generalize partedI F syn vs=s1 at HC4 HR;go_wp2_with fail;refine HC4.out.mono ?_;rintro e w9 ⟨rfl,hB9⟩;have HB9:=Lib.hid (HB5.out.trans (hB9.mono HB5.out.size));clear hB9;go_wp2_with fail;go_ret;exact⟨kt.ret_int HR.out.symm,HB9.out⟩
   ·rw[if_neg h4]at HR;have d4:(kd==4)=false:=(by rw[beq_eq_false_iff_ne];exact h4);clear h4 HPT2;have HCK:=Lib.hid (HCK1.out w5 HB5.out);clear HCK1;generalize okV syn F.value=ok at HOV HR;by_cases hck:ck=0
    ·have qc:(ck !=0)=false:=(by rw[bne_eq_false_iff_eq];exact hck);have hok:ok=true:=HOV.out.trans (decide_eq_true hck);subst hok;clear hck HOV;by_cases h5:kd=5
     ·subst h5;cases od with
      | false=>rw[if_pos (by simp)]at HR;go_wp2_with fail;refine HCK.out.mono ?_;rintro e w6 ⟨rfl,hB6⟩;have HB6:=Lib.hid (HB5.out.trans (hB6.mono HB5.out.size));have HY6:=Lib.hid (tb_below HY5.out hB6);have HF6:=Lib.hid (r7_below HF5.out hB6);have HE6:=Lib.hid (elem_below HX5.out hB6);clear hB6 j0 j1 j2 j3 j4 j5 j6 z0 z1 z2;obtain⟨j0,j1,j2,j3,j4,j5,j6⟩:=r7_cells HF6.out;obtain⟨z0,z1,z2⟩:=tb_cells HY6.out;go_wp2_with fail;refine(HOR.out w6).mono ?_;rintro e w7 ⟨rfl,hB7⟩;have HB7:=Lib.hid (HB6.out.trans (hB7.mono HB6.out.size));have HY7:=Lib.hid (tb_below HY6.out hB7);have HF7:=Lib.hid (r7_below HF6.out hB7);have HE7:=Lib.hid (elem_below HE6.out hB7);clear hB7 j0 j1 j2 j3 j4 j5 j6 z0 z1 z2;go_wp2_with fail;go_ret;exact⟨kt.ret_int HR.out.symm,HB7.out⟩
      | true=>rw[if_neg (by simp)]at HR;go_wp2_with fail;refine HCK.out.mono ?_;rintro e w6 ⟨rfl,hB6⟩;have HB6:=Lib.hid (HB5.out.trans (hB6.mono HB5.out.size));have HY6:=Lib.hid (tb_below HY5.out hB6);have HF6:=Lib.hid (r7_below HF5.out hB6);have HE6:=Lib.hid (elem_below HX5.out hB6);clear hB6 j0 j1 j2 j3 j4 j5 j6 z0 z1 z2;obtain⟨j0,j1,j2,j3,j4,j5,j6⟩:=r7_cells HF6.out;obtain⟨z0,z1,z2⟩:=tb_cells HY6.out;go_wp2_with fail;refine(HOR.out w6).mono ?_;rintro e w7 ⟨rfl,hB7⟩;have HB7:=Lib.hid (HB6.out.trans (hB7.mono HB6.out.size));have HY7:=Lib.hid (tb_below HY6.out hB7);have HF7:=Lib.hid (r7_below HF6.out hB7);have HE7:=Lib.hid (elem_below HE6.out hB7);clear hB7 j0 j1 j2 j3 j4 j5 j6 z0 z1 z2;have HSS:=Lib.hid (HSM.out x5 (.slice xa M xc) (.slice ka N kc) tb w.heap.size w7 HE7.out HY7.out HF7.out HB7.out);go_wp2_with fail;refine HSS.out.mono ?_;rintro e w9 ⟨rfl,hB9⟩;have HB9:=Lib.hid (HB7.out.trans (hB9.mono HB7.out.size));clear hB9;go_wp2_with fail;go_ret;exact⟨kt.ret_int HR.out.symm,HB9.out⟩
     ·have d5:(kd==5)=false:=(by rw[beq_eq_false_iff_ne];exact h5);by_cases h6:kd=6
      ·subst h6;cases od with
       | false=>rw[if_pos (by simp)]at HR;go_wp2_with fail;refine HCK.out.mono ?_;rintro e w6 ⟨rfl,hB6⟩;have HB6:=Lib.hid (HB5.out.trans (hB6.mono HB5.out.size));have HY6:=Lib.hid (tb_below HY5.out hB6);have HF6:=Lib.hid (r7_below HF5.out hB6);have HE6:=Lib.hid (elem_below HX5.out hB6);clear hB6 j0 j1 j2 j3 j4 j5 j6 z0 z1 z2;obtain⟨j0,j1,j2,j3,j4,j5,j6⟩:=r7_cells HF6.out;obtain⟨z0,z1,z2⟩:=tb_cells HY6.out;go_wp2_with fail;refine(HOR.out w6).mono ?_;rintro e w7 ⟨rfl,hB7⟩;have HB7:=Lib.hid (HB6.out.trans (hB7.mono HB6.out.size));have HY7:=Lib.hid (tb_below HY6.out hB7);have HF7:=Lib.hid (r7_below HF6.out hB7);have HE7:=Lib.hid (elem_below HE6.out hB7);clear hB7 j0 j1 j2 j3 j4 j5 j6 z0 z1 z2;go_wp2_with fail;go_ret;exact⟨kt.ret_int HR.out.symm,HB7.out⟩
       | true=>rw[if_neg (by simp)]at HR;go_wp2_with fail;refine HCK.out.mono ?_;rintro e w6 ⟨rfl,hB6⟩;have HB6:=Lib.hid (HB5.out.trans (hB6.mono HB5.out.size));have HY6:=Lib.hid (tb_below HY5.out hB6);have HF6:=Lib.hid (r7_below HF5.out hB6);have HE6:=Lib.hid (elem_below HX5.out hB6);clear hB6 j0 j1 j2 j3 j4 j5 j6 z0 z1 z2;obtain⟨j0,j1,j2,j3,j4,j5,j6⟩:=r7_cells HF6.out;obtain⟨z0,z1,z2⟩:=tb_cells HY6.out;go_wp2_with fail;refine(HOR.out w6).mono ?_;rintro e w7 ⟨rfl,hB7⟩;have HB7:=Lib.hid (HB6.out.trans (hB7.mono HB6.out.size));have HY7:=Lib.hid (tb_below HY6.out hB7);have HF7:=Lib.hid (r7_below HF6.out hB7);have HE7:=Lib.hid (elem_below HE6.out hB7);clear hB7 j0 j1 j2 j3 j4 j5 j6 z0 z1 z2;have HSS:=Lib.hid (HSM.out x5 (.slice xa M xc) (.slice ka N kc) tb w.heap.size w7 HE7.out HY7.out HF7.out HB7.out);go_wp2_with fail;refine HSS.out.mono ?_;rintro e w9 ⟨rfl,hB9⟩;have HB9:=Lib.hid (HB7.out.trans (hB9.mono HB7.out.size));clear hB9;go_wp2_with fail;go_ret;exact⟨kt.ret_int HR.out.symm,HB9.out⟩
      ·have d6:(kd==6)=false:=(by rw[beq_eq_false_iff_ne];exact h6);rw[if_neg (by simp[h5,h6])]at HR;clear h5 h6;go_wp2_with fail;refine HCK.out.mono ?_;rintro e w6 ⟨rfl,hB6⟩;have HB6:=Lib.hid (HB5.out.trans (hB6.mono HB5.out.size));have HY6:=Lib.hid (tb_below HY5.out hB6);have HF6:=Lib.hid (r7_below HF5.out hB6);have HE6:=Lib.hid (elem_below HX5.out hB6);clear hB6 j0 j1 j2 j3 j4 j5 j6 z0 z1 z2;obtain⟨j0,j1,j2,j3,j4,j5,j6⟩:=r7_cells HF6.out;obtain⟨z0,z1,z2⟩:=tb_cells HY6.out;have HSS:=Lib.hid (HSM.out x5 (.slice xa M xc) (.slice ka N kc) tb w.heap.size w6 HE6.out HY6.out HF6.out HB6.out);go_wp2_with fail;refine HSS.out.mono ?_;rintro e w9 ⟨rfl,hB9⟩;have HB9:=Lib.hid (HB6.out.trans (hB9.mono HB6.out.size));clear hB9;go_wp2_with fail;go_ret;exact⟨kt.ret_int HR.out.symm,HB9.out⟩
    ·have qc:(ck !=0)=true:=(by rw[bne_iff_ne];exact hck);have hok:ok=false:=HOV.out.trans (decide_eq_false hck);subst hok;rw[if_pos (Or.inl rfl)]at HR;clear hck HOV;go_wp2_with fail;refine HCK.out.mono ?_;rintro e w6 ⟨rfl,hB6⟩;have HB6:=Lib.hid (HB5.out.trans (hB6.mono HB5.out.size));have HY6:=Lib.hid (tb_below HY5.out hB6);have HF6:=Lib.hid (r7_below HF5.out hB6);have HE6:=Lib.hid (elem_below HX5.out hB6);clear hB6 j0 j1 j2 j3 j4 j5 j6 z0 z1 z2;obtain⟨j0,j1,j2,j3,j4,j5,j6⟩:=r7_cells HF6.out;obtain⟨z0,z1,z2⟩:=tb_cells HY6.out;go_wp2_with fail;go_ret;exact⟨kt.ret_int HR.out.symm,HB6.out⟩
end flw
open Go.RowKit
namespace flw
open flp atp atw etp etw
open tupw (Strs strs_below)
def connA (k:Int)(ns:List Int):Int:=if ns.any (fun n=>decide (n=2))=true then 2 else 1-k
theorem connA_snoc (k:Int)(ns:List Int)(n:Int):connA k (ns++[n])=if n=2 then 2 else connA k ns:=by
 unfold connA;rw[List.any_append,List.any_cons,List.any_nil,Bool.or_false];by_cases h:n=2
 ·rw[decide_eq_true h,Bool.or_true,if_pos rfl,if_pos h]
 ·rw[decide_eq_false h,Bool.or_false,if_neg h]
theorem conn_hit {k n:Int}{ns:List Int}(h:n∈ns)(e:n=k):conn k ns=k:=by unfold conn;rw[if_pos];exact List.any_eq_true.2 ⟨n,h,decide_eq_true e⟩
theorem conn_all {k:Int}{ns:List Int}(h: ∀n∈ns,n≠k):conn k ns=connA k ns:=by unfold conn connA;rw[if_neg];rw[Bool.not_eq_true,List.any_eq_false];intro x hx;simp[h x hx]
theorem eval_both {d:Nat}{F:Fl}{L:List At}(h:F.kind=0∨F.kind=1):evalF (d+1) F L=conn F.kind (F.kids.map fun k=>evalF d k L):=by show(if F.kind=2 then _ else if F.kind=0∨F.kind=1 then conn F.kind (F.kids.map fun k=>evalF d k L)else _)=_;rw[if_neg (by omega),if_pos h]
theorem eval_not {d:Nat}{F:Fl}{L:List At}(h:F.kind=2)(hl:0<F.kids.length):evalF (d+1) F L=flipI (evalF d F.kids[0] L):=by
 obtain⟨kd,x1,x2,x3,m,x5,ks⟩:=F;cases ks with
 | nil=>exact absurd hl (Nat.lt_irrefl 0)
 | cons k r=>show(if kd=2 then flipI (evalF d k L)else _)=flipI (evalF d k L);exact if_pos h
theorem eval_leaf {d:Nat}{F:Fl}{L:List At}(h: ¬F.kind=2)(h2: ¬ (F.kind=0∨F.kind=1)):evalF (d+1) F L=leafI F L:=by show(if F.kind=2 then _ else if F.kind=0∨F.kind=1 then _ else leafI F L)=_;rw[if_neg h,if_neg h2]
theorem one_kind {F:Fl}(h:oneF F=true):(F.kind=2→F.kids.length=1)∧(F.kind=4→F.any.length≤8)∧0≤F.kind∧F.kind≤8:=by
 refine⟨fun hk=> ?_,fun hk=> ?_,?_⟩
 ·unfold oneF at h;rw[if_neg (by omega),if_pos hk,Bool.and_eq_true]at h;exact of_decide_eq_true h.2
 ·unfold oneF at h;rw[if_neg (by omega),if_neg (by omega),if_neg (by omega),if_pos hk,Bool.and_eq_true,Bool.and_eq_true]at h;exact of_decide_eq_true h.1.2
 ·by_cases hk:0≤F.kind∧F.kind≤8
  ·exact hk
  ·have:=one_no F.kind F.attr F.value F.first F.last F.any F.kids hk;rw[←Fl.eta F,h]at this;cases this
theorem eval_any (ao:Option Addr)(cap:Nat)(L:List At)(w0:World)(hA:Hid (Ats w0 ao L))(hL:Hid (FitL L))(hE:Hid (EnvE w0)): ∀ (d:Nat) (F:Fl) (v:Value) (w:World),Below w0.heap.size w0 w→rightD d F=true→Hid (FlX w v F)→Hid (FitX F)→
  Calls Tryz.prog 114 #[v,.slice ao L.length cap] w fun e w'=>e= .returned (.int .i64 (evalF d F L))∧Below w.heap.size w w':=by
 obtain⟨NL,hNL⟩: ∃n,L.length=n:=⟨_,rfl⟩;have HNL:=Lib.hid hNL;rw[hNL];clear hNL;intro d;induction d with
 | zero=>intro F v w hb hr hv hf;cases hr
 | succ d ih=>
  intro F v w hb hr hv hf;have hr2:(oneF F&&F.kids.all (rightD d))=true:=hr;rw[Bool.and_eq_true,List.all_eq_true]at hr2;have HRK:=Lib.hid hr2.2;have HO:=Lib.hid (one_kind hr2.1);have IH:Hid (∀ (G:Fl) (u:Value) (W:World),rightD d G=true→FlX W u G→FitX G→Below w.heap.size w W→Calls Tryz.prog 114 #[u,.slice ao NL cap] W fun e w'=>e= .returned (.int .i64 (evalF d G L))∧Below W.heap.size W w'):=fun G u W h1 hu hg h=>ih G u W (hb.trans (h.mono hb.size)) h1 (Lib.hid hu) (Lib.hid hg);have HLF:Hid (∀W,Below w.heap.size w W→Calls Tryz.prog 181 #[v,.slice ao NL cap] W fun e w'=>e= .returned (.int .i64 (leafI F L))∧Below W.heap.size W w'):=by intro W h;have hbW:=hb.trans (h.mono hb.size);have:=leaf_any F v ao cap L W (Lib.hid (flX_below hv.out h)) hf HO.out.2.1 (Lib.hid (ats_below hA.out hbW)) hL (Lib.hid (envE_below hE.out hbW));rw[HNL.out]at this;exact this
  have HEV:Hid (∀n,evalF (d+1) F L=n→evalF (d+1) F L=n):=fun _ h=>h;have HE01:=Lib.hid (fun h=>eval_both (d:=d) (F:=F) (L:=L) h);have HE2:=Lib.hid (fun h h2=>eval_not (d:=d) (F:=F) (L:=L) h h2);have HEL:=Lib.hid (fun h h2=>eval_leaf (d:=d) (F:=F) (L:=L) h h2);obtain⟨R,hR⟩: ∃R,evalF (d+1) F L=R:=⟨_,rfl⟩;rw[hR]at HE01 HE2 HEL ⊢;clear hR ih hr hr2 hb HEV;obtain⟨xa,xc,ka,kc,rfl,HX,HK,hxc,hkc⟩:=flX_form hv.out;unfold flV;try unfold flV at HLF
  obtain⟨N,hN⟩: ∃N,F.kids.length=N:=⟨_,rfl⟩;have HN:=Lib.hid hN;obtain⟨M,hM⟩: ∃M,F.any.length=M:=⟨_,rfl⟩;have HM:=Lib.hid hM;have HFH:=Lib.hid (fitX_head hf.out);have hNb:N≤100000:=by rw[←hN];exact HFH.out.2.2.2.2.2.2
  have hMb:M≤100000:=by rw[←hM];exact HFH.out.2.2.2.2.1
  rw[hN]at hkc ⊢;try rw[hN]at HLF
  rw[hM]at hxc ⊢;try rw[hM]at HLF
  clear hN hM;obtain⟨W1,hW1⟩: ∃W,w.alloc (.cells #[.int .i64 F.kind,.string F.attr,.string F.value,.string F.first,.slice xa M xc,.string F.last,.slice ka N kc] 73)=W:=⟨_,rfl⟩;have hB1:Below w.heap.size w W1:=by rw[←hW1];exact(Below.refl _ _).alloc (Nat.le_refl _) _
  have HF1:Hid (R7 W1 w.heap.size (.int .i64 F.kind) (.string F.attr) (.string F.value) (.string F.first) (.slice xa M xc) (.string F.last) (.slice ka N kc)):=by rw[←hW1];exact r7_new _ _ _ _ _ _ _ _
  obtain⟨k0,k1,k2,k3,k4,k5,k6⟩:=r7_cells HF1.out;have HB1:=Lib.hid hB1;have hs1:=hB1.size;clear hB1;obtain⟨kd,hkd⟩: ∃k,F.kind=k:=⟨_,rfl⟩;have HF1':=HF1;rw[hkd]at HE01 HE2 HEL HF1' HO hW1 HLF ⊢;clear HF1 k0 k1 k2 k3 k4 k5 k6;have HF1:=HF1';clear HF1';clear hkd;obtain⟨k0,k1,k2,k3,k4,k5,k6⟩:=r7_cells HF1.out;by_cases h2:kd=2
  ·subst h2;have hl1:N=1:=(by rw[←HN.out];exact HO.out.1 rfl);have hil:0<F.kids.length:=(by rw[HN.out];omega);have HR:=Lib.hid (HE2.out rfl hil);have HNP:(0:Int)<(N:Int):=(by omega);obtain⟨b,o,ya,yc,la,lc,hao,hc,hkX⟩:=kidsX_at (kidsX_below HK.out HB1.out) 0 hil;subst hao;have HFK:=Lib.hid (fitX_kid hf.out (List.getElem_mem hil));have HMEM:=Lib.hid (List.getElem_mem hil);obtain⟨G,hG⟩: ∃G,F.kids[0]=G:=⟨_,rfl⟩;rw[hG]at hc hkX HFK HR HMEM;clear hG hl1;unfold flV at hkX;generalize G.any.length=m' at hc hkX;generalize G.kids.length=n' at hc hkX;rw[Nat.zero_mul,Nat.add_zero]at hc;obtain⟨c0,c1,c2,c3,c4,c5,c6⟩:=hc;have HC:=Lib.hid (IH.out G _ W1 (HRK.out G HMEM.out) hkX HFK.out HB1.out);have h3:=eval_three L d G;generalize evalF d G L=c at HC h3 HR;clear hkX HMEM;rcases h3 with rfl | rfl | rfl
   all_goals go_enter Tryz.func114,Tryz.ntmps114;go_wp2_with fail;refine HC.out.mono ?_;rintro e w3 ⟨rfl,hB3⟩;have HB3:=Lib.hid (HB1.out.trans (hB3.mono hs1));clear hB3 c0 c1 c2 c3 c4 c5 c6 k0 k1 k2 k3 k4 k5 k6;go_wp2_with fail;go_ret;exact⟨kt.ret_int HR.out.symm,HB3.out⟩
  ·by_cases h01:kd=0∨kd=1
   ·have HR:=Lib.hid (HE01.out h01);clear h2;rcases h01 with rfl | rfl
    ·go_enter Tryz.func114,Tryz.ntmps114;go_wp2_with fail;clear k0 k1 k2 k3 k4 k5 k6;go_loopw [5,36] (fun lv iv wr=> ∃ (i:Nat) (a:Int),i≤N∧(a=2∨a=1- (0))∧lv= .int .i64 a∧iv= .int .i64 (i:Int)∧Hid (Below w.heap.size w wr)∧Hid (a=connA (0) ((F.kids.take i).map fun k=>evalF d k L))∧Hid (∀n∈(F.kids.take i).map (fun k=>evalF d k L),n≠(0))) (fun _ iv _=>N- (intOf iv).toNat);case atStart=>exact⟨0,1- (0),Nat.zero_le _,Or.inr rfl,rfl,rfl,HB1.out,rfl,fun n hn=>by simp at hn⟩
     case round=>
      obtain⟨i,a,hi,ha,rfl,rfl,hB,hJ,hQ⟩:=hrel;have HBw:=hB;have hsw:=hB.out.size;clear hB;by_cases hlt:i<N
      ·have hltI:(i:Int)<(N:Int):=(by omega);have hil:i<F.kids.length:=(by rw[HN.out];exact hlt);obtain⟨b,o,ya,yc,la,lc,hao,hc,hkX⟩:=kidsX_at (kidsX_below HK.out HBw.out) i hil;subst hao;have HFK:=Lib.hid (fitX_kid hf.out (List.getElem_mem hil));obtain⟨G,hG⟩: ∃G,F.kids[i]=G:=⟨_,rfl⟩;have HG:=Lib.hid hG;rw[hG]at hc hkX HFK;clear hG;unfold flV at hkX;generalize G.any.length=m' at hc hkX;generalize G.kids.length=n' at hc hkX;obtain⟨c0,c1,c2,c3,c4,c5,c6⟩:=hc;have HKX:=Lib.hid hkX;clear hkX;have HMEM:=Lib.hid (List.getElem_mem hil);have HTK:Hid (F.kids.take (i+1)=F.kids.take i++[F.kids[i]]):=(by show _=_;rw[List.take_succ_eq_append_getElem hil]);rw[HG.out]at HMEM HTK;obtain⟨Wa,hWa⟩: ∃W,wr.alloc (.cells #[.int .i64 G.kind,.string G.attr,.string G.value,.string G.first,.slice ya m' yc,.string G.last,.slice la n' lc] 73)=W:=⟨_,rfl⟩;have hBA:Below wr.heap.size wr Wa:=(by rw[←hWa];exact(Below.refl _ _).alloc (Nat.le_refl _) _);have HTA:Hid (R7 Wa wr.heap.size (.int .i64 G.kind) (.string G.attr) (.string G.value) (.string G.first) (.slice ya m' yc) (.string G.last) (.slice la n' lc)):=(by rw[←hWa];exact r7_new _ _ _ _ _ _ _ _);obtain⟨x0,x1,x2,x3,x4,x5,x6⟩:=r7_cells HTA.out;have HBA:=Lib.hid hBA;have HKA:=Lib.hid (flX_below HKX.out hBA);clear hBA;have HC:Hid (Calls Tryz.prog 114 #[.agg #[.int .i64 G.kind,.string G.attr,.string G.value,.string G.first,.slice ya m' yc,.string G.last,.slice la n' lc],.slice ao NL cap] Wa fun e w'=>e= .returned (.int .i64 (evalF d G L))∧Below Wa.heap.size Wa w'):=IH.out G _ Wa (HRK.out G HMEM.out) HKA.out HFK.out (HBw.out.trans (HBA.out.mono hsw));have h3:=eval_three L d G;have HRH:Hid (evalF d G L=(0)→R=(0)):=fun h=>HR.out.trans (conn_hit (List.mem_map.2 ⟨G,HMEM.out,rfl⟩) h);have HAS:Hid (connA (0) ((F.kids.take (i+1)).map fun k=>evalF d k L)=if evalF d G L=2 then 2 else connA (0) ((F.kids.take i).map fun k=>evalF d k L)):=(by show _=_;rw[HTK.out,List.map_append];exact connA_snoc _ _ _);have HQS:Hid (evalF d G L≠(0)→ ∀n∈(F.kids.take (i+1)).map (fun k=>evalF d k L),n≠(0)):=by
        intro h n hn;rw[HTK.out,List.map_append]at hn;rcases List.mem_append.1 hn with hn | hn
        ·exact hQ.out n hn
        ·simp only[List.map_cons,List.map_nil,List.mem_singleton]at hn;rw[hn];exact h
       generalize evalF d G L=c at HC h3 HRH HAS HQS;clear HMEM HTK;by_cases hck:c=(0)
       ·subst hck;have HR2:Hid (R=(0)):=HRH.out rfl;clear h3;go_wp2_with fail;refine HC.out.mono ?_;rintro e w3 ⟨rfl,hB3⟩;have HB3:=Lib.hid (HBw.out.trans ((HBA.out.trans (hB3.mono HBA.out.size)).mono hsw));clear hB3 x0 x1 x2 x3 x4 x5 x6 c0 c1 c2 c3 c4 c5 c6;go_wp2_with fail;go_ret;exact⟨kt.ret_int HR2.out.symm,HB3.out⟩
       ·have HQ2:=Lib.hid (HQS.out hck);by_cases hc2:c=2
        ·subst hc2;have HJ2:Hid ((2:Int)=connA (0) ((F.kids.take (i+1)).map fun k=>evalF d k L)):=(by show _=_;rw[HAS.out,if_pos rfl]);clear h3 hck;go_wp2_with fail;refine HC.out.mono ?_;rintro e w3 ⟨rfl,hB3⟩;have HB3:=Lib.hid (HBw.out.trans ((HBA.out.trans (hB3.mono HBA.out.size)).mono hsw));clear hB3 x0 x1 x2 x3 x4 x5 x6 c0 c1 c2 c3 c4 c5 c6;go_wp2_with fail;go_roundw;case rel=>exact⟨i+1,2,by omega,Or.inl rfl,rfl,by go_num,HB3.out,HJ2.out,HQ2.out⟩
         case measure=>simp[intOf];omega
        ·obtain rfl:c=1- (0):=(by omega);have HJ2:Hid (a=connA (0) ((F.kids.take (i+1)).map fun k=>evalF d k L)):=(by show _=_;rw[HAS.out,if_neg hc2];exact hJ.out);clear h3 hck hc2;go_wp2_with fail;refine HC.out.mono ?_;rintro e w3 ⟨rfl,hB3⟩;have HB3:=Lib.hid (HBw.out.trans ((HBA.out.trans (hB3.mono HBA.out.size)).mono hsw));clear hB3 x0 x1 x2 x3 x4 x5 x6 c0 c1 c2 c3 c4 c5 c6;go_wp2_with fail;go_roundw;case rel=>exact⟨i+1,a,by omega,ha,rfl,by go_num,HB3.out,HJ2.out,HQ2.out⟩
         case measure=>simp[intOf];omega
      ·obtain rfl:N=i:=(by omega);have HR2:Hid (R=a):=(by show _=_;rw[HR.out,hJ.out,←HN.out,List.take_length];have:=hQ.out;rw[←HN.out,List.take_length]at this;exact conn_all this);go_wp2_with fail;go_ret;exact⟨kt.ret_int HR2.out.symm,HBw.out⟩
    ·go_enter Tryz.func114,Tryz.ntmps114;go_wp2_with fail;clear k0 k1 k2 k3 k4 k5 k6;go_loopw [5,36] (fun lv iv wr=> ∃ (i:Nat) (a:Int),i≤N∧(a=2∨a=1- (1))∧lv= .int .i64 a∧iv= .int .i64 (i:Int)∧Hid (Below w.heap.size w wr)∧Hid (a=connA (1) ((F.kids.take i).map fun k=>evalF d k L))∧Hid (∀n∈(F.kids.take i).map (fun k=>evalF d k L),n≠(1))) (fun _ iv _=>N- (intOf iv).toNat);case atStart=>exact⟨0,1- (1),Nat.zero_le _,Or.inr rfl,rfl,rfl,HB1.out,rfl,fun n hn=>by simp at hn⟩
     case round=>
      obtain⟨i,a,hi,ha,rfl,rfl,hB,hJ,hQ⟩:=hrel;have HBw:=hB;have hsw:=hB.out.size;clear hB;by_cases hlt:i<N
      ·have hltI:(i:Int)<(N:Int):=(by omega);have hil:i<F.kids.length:=(by rw[HN.out];exact hlt);obtain⟨b,o,ya,yc,la,lc,hao,hc,hkX⟩:=kidsX_at (kidsX_below HK.out HBw.out) i hil;subst hao;have HFK:=Lib.hid (fitX_kid hf.out (List.getElem_mem hil));obtain⟨G,hG⟩: ∃G,F.kids[i]=G:=⟨_,rfl⟩;have HG:=Lib.hid hG;rw[hG]at hc hkX HFK;clear hG;unfold flV at hkX;generalize G.any.length=m' at hc hkX;generalize G.kids.length=n' at hc hkX;obtain⟨c0,c1,c2,c3,c4,c5,c6⟩:=hc;have HKX:=Lib.hid hkX;clear hkX;have HMEM:=Lib.hid (List.getElem_mem hil);have HTK:Hid (F.kids.take (i+1)=F.kids.take i++[F.kids[i]]):=(by show _=_;rw[List.take_succ_eq_append_getElem hil]);rw[HG.out]at HMEM HTK;obtain⟨Wa,hWa⟩: ∃W,wr.alloc (.cells #[.int .i64 G.kind,.string G.attr,.string G.value,.string G.first,.slice ya m' yc,.string G.last,.slice la n' lc] 73)=W:=⟨_,rfl⟩;have hBA:Below wr.heap.size wr Wa:=(by rw[←hWa];exact(Below.refl _ _).alloc (Nat.le_refl _) _);have HTA:Hid (R7 Wa wr.heap.size (.int .i64 G.kind) (.string G.attr) (.string G.value) (.string G.first) (.slice ya m' yc) (.string G.last) (.slice la n' lc)):=(by rw[←hWa];exact r7_new _ _ _ _ _ _ _ _);obtain⟨x0,x1,x2,x3,x4,x5,x6⟩:=r7_cells HTA.out;have HBA:=Lib.hid hBA;have HKA:=Lib.hid (flX_below HKX.out hBA);clear hBA;have HC:Hid (Calls Tryz.prog 114 #[.agg #[.int .i64 G.kind,.string G.attr,.string G.value,.string G.first,.slice ya m' yc,.string G.last,.slice la n' lc],.slice ao NL cap] Wa fun e w'=>e= .returned (.int .i64 (evalF d G L))∧Below Wa.heap.size Wa w'):=IH.out G _ Wa (HRK.out G HMEM.out) HKA.out HFK.out (HBw.out.trans (HBA.out.mono hsw));have h3:=eval_three L d G;have HRH:Hid (evalF d G L=(1)→R=(1)):=fun h=>HR.out.trans (conn_hit (List.mem_map.2 ⟨G,HMEM.out,rfl⟩) h);have HAS:Hid (connA (1) ((F.kids.take (i+1)).map fun k=>evalF d k L)=if evalF d G L=2 then 2 else connA (1) ((F.kids.take i).map fun k=>evalF d k L)):=(by show _=_;rw[HTK.out,List.map_append];exact connA_snoc _ _ _);have HQS:Hid (evalF d G L≠(1)→ ∀n∈(F.kids.take (i+1)).map (fun k=>evalF d k L),n≠(1)):=by
        intro h n hn;rw[HTK.out,List.map_append]at hn;rcases List.mem_append.1 hn with hn | hn
        ·exact hQ.out n hn
        ·simp only[List.map_cons,List.map_nil,List.mem_singleton]at hn;rw[hn];exact h
       generalize evalF d G L=c at HC h3 HRH HAS HQS;clear HMEM HTK;by_cases hck:c=(1)
       ·subst hck;have HR2:Hid (R=(1)):=HRH.out rfl;clear h3;go_wp2_with fail;refine HC.out.mono ?_;rintro e w3 ⟨rfl,hB3⟩;have HB3:=Lib.hid (HBw.out.trans ((HBA.out.trans (hB3.mono HBA.out.size)).mono hsw));clear hB3 x0 x1 x2 x3 x4 x5 x6 c0 c1 c2 c3 c4 c5 c6;go_wp2_with fail;go_ret;exact⟨kt.ret_int HR2.out.symm,HB3.out⟩
       ·have HQ2:=Lib.hid (HQS.out hck);by_cases hc2:c=2
        ·subst hc2;have HJ2:Hid ((2:Int)=connA (1) ((F.kids.take (i+1)).map fun k=>evalF d k L)):=(by show _=_;rw[HAS.out,if_pos rfl]);clear h3 hck;go_wp2_with fail;refine HC.out.mono ?_;rintro e w3 ⟨rfl,hB3⟩;have HB3:=Lib.hid (HBw.out.trans ((HBA.out.trans (hB3.mono HBA.out.size)).mono hsw));clear hB3 x0 x1 x2 x3 x4 x5 x6 c0 c1 c2 c3 c4 c5 c6;go_wp2_with fail;go_roundw;case rel=>exact⟨i+1,2,by omega,Or.inl rfl,rfl,by go_num,HB3.out,HJ2.out,HQ2.out⟩
         case measure=>simp[intOf];omega
        ·obtain rfl:c=1- (1):=(by omega);have HJ2:Hid (a=connA (1) ((F.kids.take (i+1)).map fun k=>evalF d k L)):=(by show _=_;rw[HAS.out,if_neg hc2];exact hJ.out);clear h3 hck hc2;go_wp2_with fail;refine HC.out.mono ?_;rintro e w3 ⟨rfl,hB3⟩;have HB3:=Lib.hid (HBw.out.trans ((HBA.out.trans (hB3.mono HBA.out.size)).mono hsw));clear hB3 x0 x1 x2 x3 x4 x5 x6 c0 c1 c2 c3 c4 c5 c6;go_wp2_with fail;go_roundw;case rel=>exact⟨i+1,a,by omega,ha,rfl,by go_num,HB3.out,HJ2.out,HQ2.out⟩
         case measure=>simp[intOf];omega
      ·obtain rfl:N=i:=(by omega);have HR2:Hid (R=a):=(by show _=_;rw[HR.out,hJ.out,←HN.out,List.take_length];have:=hQ.out;rw[←HN.out,List.take_length]at this;exact conn_all this);go_wp2_with fail;go_ret;exact⟨kt.ret_int HR2.out.symm,HBw.out⟩
   ·have HR:=Lib.hid (HEL.out h2 h01);have d0:(kd==0)=false:=(by rw[beq_eq_false_iff_ne];omega);have d1:(kd==1)=false:=(by rw[beq_eq_false_iff_ne];omega);have d2:(kd==2)=false:=(by rw[beq_eq_false_iff_ne];omega);have HC:=Lib.hid (HLF.out W1 HB1.out);clear h2 h01;go_enter Tryz.func114,Tryz.ntmps114;go_wp2_with fail;refine HC.out.mono ?_;rintro e w3 ⟨rfl,hB3⟩;have HB3:=Lib.hid (HB1.out.trans (hB3.mono hs1));clear hB3 k0 k1 k2 k3 k4 k5 k6;go_wp2_with fail;go_ret;exact⟨kt.ret_int HR.out.symm,HB3.out⟩
theorem evalE_any (ao:Option Addr)(cap:Nat)(L:List At)(F:Fl)(v:Value)(w:World)(hA:Hid (Ats w ao L))(hL:Hid (FitL L))(hE:Hid (EnvE w))(hv:Hid (FlX w v F))(hf:Hid (FitX F)):
  Calls Tryz.prog 51 #[v,.slice ao L.length cap] w fun e w'=>e= .returned (.int .i64 (evalE F L))∧Below w.heap.size w w':=by
 have HR0:Hid (∀W,Below w.heap.size w W→Calls Tryz.prog 49 #[v] W fun e w'=>e= .returned (.bool (rightF F))∧Below W.heap.size W w'):=fun W h=>right_any F v W (Lib.hid (flX_below hv.out h)) hf;have HE0:Hid (rightF F=true→ ∀W,Below w.heap.size w W→Calls Tryz.prog 114 #[v,.slice ao L.length cap] W fun e w'=>e= .returned (.int .i64 (evalF 8 F L))∧Below W.heap.size W w'):=fun hr W h=>eval_any ao cap L w hA hL hE 8 F v W h ((rightF_iff F).1 hr).1 (Lib.hid (flX_below hv.out h)) hf;have HV:Hid (evalE F L=if rightF F=true then evalF 8 F L else 2):=rfl;generalize evalE F L=R at HV ⊢;generalize evalF 8 F L=c at HE0 HV;generalize L.length=NL at HE0 ⊢;generalize rightF F=rb at HR0 HE0 HV;obtain⟨xa,xc,ka,kc,rfl,HX,HK,hxc,hkc⟩:=flX_form hv.out;unfold flV;try unfold flV at HR0
 try unfold flV at HE0
 obtain⟨N,hN⟩: ∃N,F.kids.length=N:=⟨_,rfl⟩;have HN:=Lib.hid hN;obtain⟨M,hM⟩: ∃M,F.any.length=M:=⟨_,rfl⟩;have HM:=Lib.hid hM;have HFH:=Lib.hid (fitX_head hf.out);have hNb:N≤100000:=by rw[←hN];exact HFH.out.2.2.2.2.2.2
 have hMb:M≤100000:=by rw[←hM];exact HFH.out.2.2.2.2.1
 rw[hN]at hkc ⊢;try rw[hN]at HR0
 try rw[hN]at HE0
 rw[hM]at hxc ⊢;try rw[hM]at HR0
 try rw[hM]at HE0
 clear hN hM;obtain⟨W1,hW1⟩: ∃W,w.alloc (.cells #[.int .i64 F.kind,.string F.attr,.string F.value,.string F.first,.slice xa M xc,.string F.last,.slice ka N kc] 73)=W:=⟨_,rfl⟩;have hB1:Below w.heap.size w W1:=by rw[←hW1];exact(Below.refl _ _).alloc (Nat.le_refl _) _
 have HF1:Hid (R7 W1 w.heap.size (.int .i64 F.kind) (.string F.attr) (.string F.value) (.string F.first) (.slice xa M xc) (.string F.last) (.slice ka N kc)):=by rw[←hW1];exact r7_new _ _ _ _ _ _ _ _
 obtain⟨k0,k1,k2,k3,k4,k5,k6⟩:=r7_cells HF1.out;have HB1:=Lib.hid hB1;have hs1:=hB1.size;clear hB1;have HR1:=Lib.hid (HR0.out W1 HB1.out);clear HR0;cases rb with
 | false=>have HR:Hid (R=2):=HV.out;go_enter Tryz.func51,Tryz.ntmps51;go_wp2_with fail;refine HR1.out.mono ?_;rintro e w2 ⟨rfl,hB2⟩;have HB2:=Lib.hid (HB1.out.trans (hB2.mono hs1));clear hB2 k0 k1 k2 k3 k4 k5 k6;go_wp2_with fail;go_ret;exact⟨kt.ret_int HR.out.symm,HB2.out⟩
 | true=>have HR:Hid (R=c):=HV.out;have HE1:=Lib.hid (HE0.out rfl);clear HE0;go_enter Tryz.func51,Tryz.ntmps51;go_wp2_with fail;refine HR1.out.mono ?_;rintro e w2 ⟨rfl,hB2⟩;have HB2:=Lib.hid (HB1.out.trans (hB2.mono hs1));have HF2:=Lib.hid (r7_below HF1.out hB2);clear hB2 k0 k1 k2 k3 k4 k5 k6;obtain⟨k0,k1,k2,k3,k4,k5,k6⟩:=r7_cells HF2.out;go_wp2_with fail;refine(HE1.out w2 HB2.out).mono ?_;rintro e w3 ⟨rfl,hB3⟩;have HB3:=Lib.hid (HB2.out.trans (hB3.mono HB2.out.size));clear hB3 k0 k1 k2 k3 k4 k5 k6;go_wp2_with fail;go_ret;exact⟨kt.ret_int HR.out.symm,HB3.out⟩
end flw
open Go.RowKit
namespace flw
open flp atp atw etp etw
open tupw (Strs strs_below)
theorem r7_put {w:World}{q:Nat}{d0 d1 d2 d3 d4 d5 d6:Value}(h:R7 w q d0 d1 d2 d3 d4 d5 d6)(c0 c1 c2 c3 c4 c5 c6:Value):R7 (w.setCells q 0 [c0,c1,c2,c3,c4,c5,c6]) q c0 c1 c2 c3 c4 c5 c6:=r7_set6 (r7_set5 (r7_set4 (r7_set3 (r7_set2 (r7_set1 (r7_set0 (h) c0) c1) c2) c3) c4) c5) c6
theorem r7_away {w:World}{p q:Nat}{d0 d1 d2 d3 d4 d5 d6:Value}(h:R7 w p d0 d1 d2 d3 d4 d5 d6)(hq:p≠q)(c0 c1 c2 c3 c4 c5 c6:Value):R7 (w.setCells q 0 [c0,c1,c2,c3,c4,c5,c6]) p d0 d1 d2 d3 d4 d5 d6:=r7_other (r7_other (r7_other (r7_other (r7_other (r7_other (r7_other (h) hq c0) hq c1) hq c2) hq c3) hq c4) hq c5) hq c6
theorem r7_there {w:World}{q:Nat}{d0 d1 d2 d3 d4 d5 d6:Value}(h:R7 w q d0 d1 d2 d3 d4 d5 d6):w.there q 0 7:=by
 obtain⟨k0,k1,k2,k3,k4,k5,k6⟩:=r7_cells h;intro j hj;refine⟨?_,Lib.frozen_of_heap h _⟩
 match j,hj with
 | 0,_=>exact Option.isSome_iff_exists.2 ⟨_,k0⟩
 | 1,_=>exact Option.isSome_iff_exists.2 ⟨_,k1⟩
 | 2,_=>exact Option.isSome_iff_exists.2 ⟨_,k2⟩
 | 3,_=>exact Option.isSome_iff_exists.2 ⟨_,k3⟩
 | 4,_=>exact Option.isSome_iff_exists.2 ⟨_,k4⟩
 | 5,_=>exact Option.isSome_iff_exists.2 ⟨_,k5⟩
 | 6,_=>exact Option.isSome_iff_exists.2 ⟨_,k6⟩
theorem szFl:(Tryz.prog.info? 73).map (·.size)=some 7:=by kernel_rfl
theorem kidsX_one {w:World}{p:Nat}{F:Fl}{xa ka:Option Addr}{xc kc:Nat}(h:R7 w p (.int .i64 F.kind) (.string F.attr) (.string F.value) (.string F.first) (.slice xa F.any.length xc) (.string F.last) (.slice ka F.kids.length kc))(hx:OkA xa F.any.length xc)(hS:Strs w xa F.any)(hk:F.kids.length≤kc)(hK:KidsX w ka F.kids):KidsX w (some ⟨p,0,none⟩) [F]:=by
 obtain⟨e,hK⟩:=hK;refine⟨e+1,fun i hi=> ?_⟩;obtain rfl:i=0:=by simp at hi;omega
 obtain⟨k0,k1,k2,k3,k4,k5,k6⟩:=r7_cells h;exact⟨p,0,xa,xc,ka,kc,rfl,trivial,⟨k0,k1,k2,k3,k4,k5,k6⟩,hx,⟨hS,fun _ _ _=>trivial⟩,hk,hK⟩
theorem flX_both {w:World}{k:Int}{ka:Option Addr}{n kc:Nat}{Ks:List Fl}(hn:n=Ks.length)(hk:n≤kc)(hK:KidsX w ka Ks):FlX w (.agg #[.int .i64 k,.string ⟨#[]⟩,.string ⟨#[]⟩,.string ⟨#[]⟩,.slice none 0 0,.string ⟨#[]⟩,.slice ka n kc]) (both k Ks):=by obtain⟨e,hK⟩:=hK;subst hn;exact⟨e,none,0,ka,kc,rfl,⟨Nat.le_refl _,fun _=>rfl⟩,⟨fun i hi=>absurd hi (Nat.not_lt_zero i),fun h=>absurd rfl h⟩,hk,hK⟩
theorem negF_one {F:Fl}(h:F.kind=2)(hl:F.kids.length=1)(h0:0<F.kids.length):negF F=F.kids[0]:=by
 obtain⟨kd,x1,x2,x3,m,x5,ks⟩:=F
 match ks,hl with
 | [k],_=>exact if_pos h
theorem negF_not {F:Fl}(h: ¬ (F.kind=2∧F.kids.length=1)):negF F=notF F:=by
 obtain⟨kd,x1,x2,x3,m,x5,ks⟩:=F;unfold negF;by_cases hk:kd=2
 ·rw[if_pos (show(Fl.mk kd x1 x2 x3 m x5 ks).kind=2 from hk)]
  match ks with
  | []=>rfl
  | [k]=>exact absurd ⟨hk,rfl⟩ h
  | a::b::r=>rfl
 ·exact if_neg hk
theorem negate_any (F:Fl)(v:Value)(w:World)(hv:Hid (FlX w v F))(hf:Hid (FitX F)):
  Calls Tryz.prog 50 #[v] w fun e w'=> ∃u,e= .returned u∧FlX w' u (negF F)∧Below w.heap.size w w':=by
 obtain⟨xa,xc,ka,kc,rfl,HX,HK,hxc,hkc⟩:=flX_form hv.out;unfold flV;obtain⟨N,hN⟩: ∃N,F.kids.length=N:=⟨_,rfl⟩;have HN:=Lib.hid hN;obtain⟨M,hM⟩: ∃M,F.any.length=M:=⟨_,rfl⟩;have HM:=Lib.hid hM;have HFH:=Lib.hid (fitX_head hf.out);have hNb:N≤100000:=by rw[←hN];exact HFH.out.2.2.2.2.2.2
 have hMb:M≤100000:=by rw[←hM];exact HFH.out.2.2.2.2.1
 rw[hN]at hkc ⊢;rw[hM]at hxc ⊢;clear hN hM;obtain⟨W1,hW1⟩: ∃W,w.alloc (.cells #[.int .i64 F.kind,.string F.attr,.string F.value,.string F.first,.slice xa M xc,.string F.last,.slice ka N kc] 73)=W:=⟨_,rfl⟩;have hB1:Below w.heap.size w W1:=by rw[←hW1];exact(Below.refl _ _).alloc (Nat.le_refl _) _
 have HF1:Hid (R7 W1 w.heap.size (.int .i64 F.kind) (.string F.attr) (.string F.value) (.string F.first) (.slice xa M xc) (.string F.last) (.slice ka N kc)):=by rw[←hW1];exact r7_new _ _ _ _ _ _ _ _
 obtain⟨k0,k1,k2,k3,k4,k5,k6⟩:=r7_cells HF1.out;have HB1:=Lib.hid hB1;have hs1:=hB1.size;clear hB1;obtain⟨W2,hW2⟩: ∃W,W1.alloc (.cells #[.int .i64 0,.string ⟨#[]⟩,.string ⟨#[]⟩,.string ⟨#[]⟩,.slice none 0 0,.string ⟨#[]⟩,.slice none 0 0] 73)=W:=⟨_,rfl⟩;have hB2:Below W1.heap.size W1 W2:=by rw[←hW2];exact(Below.refl _ _).alloc (Nat.le_refl _) _
 obtain⟨q,hqq⟩: ∃q,W1.heap.size=q:=⟨_,rfl⟩;have hqw:w.heap.size≤q:=by rw[←hqq];exact hs1
 have HQ2:Hid (R7 W2 q (.int .i64 0) (.string ⟨#[]⟩) (.string ⟨#[]⟩) (.string ⟨#[]⟩) (.slice none 0 0) (.string ⟨#[]⟩) (.slice none 0 0)):=by rw[←hW2,←hqq];exact r7_new _ _ _ _ _ _ _ _
 have HF2:=Lib.hid (r7_below HF1.out hB2);have HB2:=Lib.hid (HB1.out.trans (hB2.mono hs1));have HN1:=Lib.hid (fun h hl h0=>negF_one (F:=F) h hl h0);have HN0:=Lib.hid (fun h=>negF_not (F:=F) h);obtain⟨kd,hkd⟩: ∃k,F.kind=k:=⟨_,rfl⟩;have HKD:=Lib.hid hkd;have HF3:=HF2;rw[hkd]at HF3 HN1 HN0 hW1 ⊢;clear HF1 HF2 k0 k1 k2 k3 k4 k5 k6 hkd hB2;obtain⟨k0,k1,k2,k3,k4,k5,k6⟩:=r7_cells HF3.out;by_cases h2:kd=2
 ·subst h2;by_cases hN1:N=1
  ·subst hN1;have hil:0<F.kids.length:=(by rw[HN.out];omega);have HNG:=Lib.hid (HN1.out rfl HN.out hil);obtain⟨b,o,ya,yc,la,lc,hao,hc,hkX⟩:=kidsX_at HK.out 0 hil;subst hao;obtain⟨G,hG⟩: ∃G,F.kids[0]=G:=⟨_,rfl⟩;rw[hG]at hc hkX HNG;clear hG;unfold flV at hkX;generalize G.any.length=m' at hc hkX;generalize G.kids.length=n' at hc hkX;rw[Nat.zero_mul,Nat.add_zero]at hc;obtain⟨c0,c1,c2,c3,c4,c5,c6⟩:=cellsF_same hc (HB2.out.block b (cellsF_lt hc));have hth:=r7_there HQ2.out;have HBE:Hid (Below w.heap.size w (W2.setCells q 0 [.int .i64 G.kind,.string G.attr,.string G.value,.string G.first,.slice ya m' yc,.string G.last,.slice la n' lc])):=Lib.below_setCells _ hqw _ _ HB2.out;have HQE:Hid (R7 (W2.setCells q 0 [.int .i64 G.kind,.string G.attr,.string G.value,.string G.first,.slice ya m' yc,.string G.last,.slice la n' lc]) q (.int .i64 G.kind) (.string G.attr) (.string G.value) (.string G.first) (.slice ya m' yc) (.string G.last) (.slice la n' lc)):=r7_put HQ2.out _ _ _ _ _ _ _;have HKE:=Lib.hid (flX_below hkX HBE.out);clear hc hkX;go_enter Tryz.func50,Tryz.ntmps50;go_wp2_with (refine wpList_store_mid rfl 73 _ _ rfl q 0 #[.int .i64 G.kind,.string G.attr,.string G.value,.string G.first,.slice ya m' yc,.string G.last,.slice la n' lc] rfl rfl hth szFl (by simp[Value.oneCell']) ?_);refine bodyPost_ret (v:= .agg #[.int .i64 G.kind,.string G.attr,.string G.value,.string G.first,.slice ya m' yc,.string G.last,.slice la n' lc]) (results_cell_row rfl _ _ q 73 _ (0,0) _ rfl HQE.out Tryz.underlying73 rfl (by kernel_rfl)) rfl ?_;refine⟨_,rfl,?_,HBE.out⟩;rw[HNG.out];exact HKE.out
  ·have HNG:=Lib.hid (HN0.out fun h=>hN1 (by rw[←HN.out];exact h.2));have hNI:((N:Int)==1)=false:=(by rw[beq_eq_false_iff_ne];omega);clear hN1;obtain⟨W3,hW3⟩: ∃W,W2.alloc (.cells #[.int .i64 2,.string F.attr,.string F.value,.string F.first,.slice xa M xc,.string F.last,.slice ka N kc] 73)=W:=⟨_,rfl⟩;have hB3:Below W2.heap.size W2 W3:=(by rw[←hW3];exact(Below.refl _ _).alloc (Nat.le_refl _) _);obtain⟨p,hpp⟩: ∃p,W2.heap.size=p:=⟨_,rfl⟩;have HT3:Hid (R7 W3 p (.int .i64 2) (.string F.attr) (.string F.value) (.string F.first) (.slice xa M xc) (.string F.last) (.slice ka N kc)):=(by rw[←hW3,←hpp];exact r7_new _ _ _ _ _ _ _ _);have HQ3:=Lib.hid (r7_below HQ2.out hB3);have HB3:=Lib.hid (HB2.out.trans (hB3.mono HB2.out.size));have hpq:p≠q:=(by have:=r7_lt HQ2.out;omega);have hth:=r7_there HQ3.out;have HBE:Hid (Below w.heap.size w (W3.setCells q 0 [.int .i64 2,.string ⟨#[]⟩,.string ⟨#[]⟩,.string ⟨#[]⟩,.slice none 0 0,.string ⟨#[]⟩,.slice (some ⟨p,0,none⟩) 1 1])):=Lib.below_setCells _ hqw _ _ HB3.out;have HQE:Hid (R7 (W3.setCells q 0 [.int .i64 2,.string ⟨#[]⟩,.string ⟨#[]⟩,.string ⟨#[]⟩,.slice none 0 0,.string ⟨#[]⟩,.slice (some ⟨p,0,none⟩) 1 1]) q (.int .i64 2) (.string ⟨#[]⟩) (.string ⟨#[]⟩) (.string ⟨#[]⟩) (.slice none 0 0) (.string ⟨#[]⟩) (.slice (some ⟨p,0,none⟩) 1 1)):=r7_put HQ3.out _ _ _ _ _ _ _;have HTE:Hid (R7 (W3.setCells q 0 [.int .i64 2,.string ⟨#[]⟩,.string ⟨#[]⟩,.string ⟨#[]⟩,.slice none 0 0,.string ⟨#[]⟩,.slice (some ⟨p,0,none⟩) 1 1]) p (.int .i64 2) (.string F.attr) (.string F.value) (.string F.first) (.slice xa M xc) (.string F.last) (.slice ka N kc)):=r7_away HT3.out hpq _ _ _ _ _ _ _;clear hB3;go_enter Tryz.func50,Tryz.ntmps50;go_wp2_with (refine wpList_store_mid rfl 73 _ _ rfl q 0 #[.int .i64 2,.string ⟨#[]⟩,.string ⟨#[]⟩,.string ⟨#[]⟩,.slice none 0 0,.string ⟨#[]⟩,.slice (some ⟨p,0,none⟩) 1 1] rfl rfl hth szFl (by simp[Value.oneCell']) ?_);refine bodyPost_ret (v:= .agg #[.int .i64 2,.string ⟨#[]⟩,.string ⟨#[]⟩,.string ⟨#[]⟩,.slice none 0 0,.string ⟨#[]⟩,.slice (some ⟨p,0,none⟩) 1 1]) (results_cell_row rfl _ _ q 73 _ (0,0) _ rfl HQE.out Tryz.underlying73 rfl (by kernel_rfl)) rfl ?_;refine⟨_,rfl,?_,HBE.out⟩;rw[HNG.out];have hR:R7 (W3.setCells q 0 [.int .i64 2,.string ⟨#[]⟩,.string ⟨#[]⟩,.string ⟨#[]⟩,.slice none 0 0,.string ⟨#[]⟩,.slice (some ⟨p,0,none⟩) 1 1]) p (.int .i64 F.kind) (.string F.attr) (.string F.value) (.string F.first) (.slice xa F.any.length xc) (.string F.last) (.slice ka F.kids.length kc):=(by rw[HKD.out,HM.out,HN.out];exact HTE.out);have hxc2:=hxc;rw[←HM.out]at hxc2;exact flX_both rfl (Nat.le_refl _) (kidsX_one hR hxc2 (strs_below HX.out HBE.out) (by rw[HN.out];exact hkc) (kidsX_below HK.out HBE.out))
 ·have HNG:=Lib.hid (HN0.out fun h=>h2 h.1);have d2:(kd==2)=false:=by rw[beq_eq_false_iff_ne];exact h2
  clear h2;obtain⟨W3,hW3⟩: ∃W,W2.alloc (.cells #[.int .i64 kd,.string F.attr,.string F.value,.string F.first,.slice xa M xc,.string F.last,.slice ka N kc] 73)=W:=⟨_,rfl⟩;have hB3:Below W2.heap.size W2 W3:=by rw[←hW3];exact(Below.refl _ _).alloc (Nat.le_refl _) _
  obtain⟨p,hpp⟩: ∃p,W2.heap.size=p:=⟨_,rfl⟩;have HT3:Hid (R7 W3 p (.int .i64 kd) (.string F.attr) (.string F.value) (.string F.first) (.slice xa M xc) (.string F.last) (.slice ka N kc)):=by rw[←hW3,←hpp];exact r7_new _ _ _ _ _ _ _ _
  have HQ3:=Lib.hid (r7_below HQ2.out hB3);have HB3:=Lib.hid (HB2.out.trans (hB3.mono HB2.out.size));have hpq:p≠q:=by have:=r7_lt HQ2.out;omega
  have hth:=r7_there HQ3.out;have HBE:Hid (Below w.heap.size w (W3.setCells q 0 [.int .i64 2,.string ⟨#[]⟩,.string ⟨#[]⟩,.string ⟨#[]⟩,.slice none 0 0,.string ⟨#[]⟩,.slice (some ⟨p,0,none⟩) 1 1])):=Lib.below_setCells _ hqw _ _ HB3.out;have HQE:Hid (R7 (W3.setCells q 0 [.int .i64 2,.string ⟨#[]⟩,.string ⟨#[]⟩,.string ⟨#[]⟩,.slice none 0 0,.string ⟨#[]⟩,.slice (some ⟨p,0,none⟩) 1 1]) q (.int .i64 2) (.string ⟨#[]⟩) (.string ⟨#[]⟩) (.string ⟨#[]⟩) (.slice none 0 0) (.string ⟨#[]⟩) (.slice (some ⟨p,0,none⟩) 1 1)):=r7_put HQ3.out _ _ _ _ _ _ _;have HTE:Hid (R7 (W3.setCells q 0 [.int .i64 2,.string ⟨#[]⟩,.string ⟨#[]⟩,.string ⟨#[]⟩,.slice none 0 0,.string ⟨#[]⟩,.slice (some ⟨p,0,none⟩) 1 1]) p (.int .i64 kd) (.string F.attr) (.string F.value) (.string F.first) (.slice xa M xc) (.string F.last) (.slice ka N kc)):=r7_away HT3.out hpq _ _ _ _ _ _ _;clear hB3;go_enter Tryz.func50,Tryz.ntmps50;go_wp2_with (refine wpList_store_mid rfl 73 _ _ rfl q 0 #[.int .i64 2,.string ⟨#[]⟩,.string ⟨#[]⟩,.string ⟨#[]⟩,.slice none 0 0,.string ⟨#[]⟩,.slice (some ⟨p,0,none⟩) 1 1] rfl rfl hth szFl (by simp[Value.oneCell']) ?_);refine bodyPost_ret (v:= .agg #[.int .i64 2,.string ⟨#[]⟩,.string ⟨#[]⟩,.string ⟨#[]⟩,.slice none 0 0,.string ⟨#[]⟩,.slice (some ⟨p,0,none⟩) 1 1]) (results_cell_row rfl _ _ q 73 _ (0,0) _ rfl HQE.out Tryz.underlying73 rfl (by kernel_rfl)) rfl ?_;refine⟨_,rfl,?_,HBE.out⟩;rw[HNG.out];have hR:R7 (W3.setCells q 0 [.int .i64 2,.string ⟨#[]⟩,.string ⟨#[]⟩,.string ⟨#[]⟩,.slice none 0 0,.string ⟨#[]⟩,.slice (some ⟨p,0,none⟩) 1 1]) p (.int .i64 F.kind) (.string F.attr) (.string F.value) (.string F.first) (.slice xa F.any.length xc) (.string F.last) (.slice ka F.kids.length kc):=by rw[HKD.out,HM.out,HN.out];exact HTE.out
  have hxc2:=hxc;rw[←HM.out]at hxc2;exact flX_both rfl (Nat.le_refl _) (kidsX_one hR hxc2 (strs_below HX.out HBE.out) (by rw[HN.out];exact hkc) (kidsX_below HK.out HBE.out))
end flw
open Go.RowKit
namespace flw
open flp atp atw etp etw
open tupw (Strs strs_below)
def leafS (n v:ByteArray):Fl:= .mk 3 n v ⟨#[]⟩ [] ⟨#[]⟩ []
theorem flX_leafS (w:World)(n v:ByteArray):FlX w (.agg #[.int .i64 3,.string n,.string v,.string ⟨#[]⟩,.slice none 0 0,.string ⟨#[]⟩,.slice none 0 0]) (leafS n v):=⟨0,none,0,none,0,rfl,⟨Nat.le_refl _,fun _=>rfl⟩,⟨fun i hi=>absurd hi (Nat.not_lt_zero i),fun h=>absurd rfl h⟩,Nat.le_refl _,rfl⟩
theorem fit_leafS {n v:ByteArray}(hn:n.size≤1000)(hv:v.size≤1000):FitX (leafS n v):=⟨1,⟨by show n.size≤100000;omega,by show v.size≤100000;omega,Nat.zero_le _,Nat.zero_le _,Nat.zero_le _,(fun x hx=>by cases hx),Nat.zero_le _⟩,fun k hk=>by cases hk⟩
def awL:List At:=[⟨⟨#[99,110]⟩,[⟨#[97]⟩]⟩]
theorem aw_a:evalE (leafS ⟨#[99,110]⟩ ⟨#[65]⟩) awL=1:=by decide+kernel
theorem aw_b:evalE (negF (leafS ⟨#[99,110]⟩ ⟨#[97]⟩)) awL=0:=by decide+kernel
theorem aw_c:evalE (leafS ⟨#[110,111,110,101]⟩ ⟨#[97]⟩) awL=2:=by decide+kernel
theorem aw_d:evalE (both 1 [leafS ⟨#[110,111,110,101]⟩ ⟨#[97]⟩,leafS ⟨#[99,110]⟩ ⟨#[97]⟩]) awL=1:=by decide+kernel
theorem same_any (n v:ByteArray)(w:World):Calls Tryz.prog 110 #[.string n,.string v] w fun e w'=>e= .returned (.agg #[.int .i64 3,.string n,.string v,.string ⟨#[]⟩,.slice none 0 0,.string ⟨#[]⟩,.slice none 0 0])∧Below w.heap.size w w':=by
 obtain⟨q,hqq⟩: ∃q,w.heap.size=q:=⟨_,rfl⟩;obtain⟨W1,hW1⟩: ∃W,w.alloc (.cells #[.int .i64 0,.string ⟨#[]⟩,.string ⟨#[]⟩,.string ⟨#[]⟩,.slice none 0 0,.string ⟨#[]⟩,.slice none 0 0] 73)=W:=⟨_,rfl⟩;have hB1:Below w.heap.size w W1:=by rw[←hW1];exact(Below.refl _ _).alloc (Nat.le_refl _) _
 have HQ1:Hid (R7 W1 q (.int .i64 0) (.string ⟨#[]⟩) (.string ⟨#[]⟩) (.string ⟨#[]⟩) (.slice none 0 0) (.string ⟨#[]⟩) (.slice none 0 0)):=by rw[←hW1,←hqq];exact r7_new _ _ _ _ _ _ _ _
 have hqw:w.heap.size≤q:=by rw[hqq];exact Nat.le_refl _
 have hth:=r7_there HQ1.out;have HBE:Hid (Below w.heap.size w (W1.setCells q 0 [.int .i64 3,.string n,.string v,.string ⟨#[]⟩,.slice none 0 0,.string ⟨#[]⟩,.slice none 0 0])):=Lib.below_setCells _ hqw _ _ hB1;have HQE:Hid (R7 (W1.setCells q 0 [.int .i64 3,.string n,.string v,.string ⟨#[]⟩,.slice none 0 0,.string ⟨#[]⟩,.slice none 0 0]) q (.int .i64 3) (.string n) (.string v) (.string ⟨#[]⟩) (.slice none 0 0) (.string ⟨#[]⟩) (.slice none 0 0)):=r7_put HQ1.out _ _ _ _ _ _ _;clear hB1 hqw;go_enter Tryz.func110,Tryz.ntmps110;go_wp2_with (refine wpList_store_mid rfl 73 _ _ rfl q 0 #[.int .i64 3,.string n,.string v,.string ⟨#[]⟩,.slice none 0 0,.string ⟨#[]⟩,.slice none 0 0] rfl rfl hth szFl (by simp[Value.oneCell']) ?_);refine bodyPost_ret (v:= .agg #[.int .i64 3,.string n,.string v,.string ⟨#[]⟩,.slice none 0 0,.string ⟨#[]⟩,.slice none 0 0]) (results_cell_row rfl _ _ q 73 _ (0,0) _ rfl HQE.out Tryz.underlying73 rfl (by kernel_rfl)) rfl ?_;exact⟨rfl,HBE.out⟩
theorem fit_neg (F:Fl)(h:FitX F):FitX (negF F):=by
 obtain⟨d,h⟩:=h;have hnot:FitX (notF F):=⟨d+1,⟨Nat.zero_le _,Nat.zero_le _,Nat.zero_le _,Nat.zero_le _,Nat.zero_le _,(fun x hx=>by cases hx),(by show 1≤100000;omega)⟩,fun k hk=>by
  have:k=F:=by simpa[notF,both,Fl.kids]using hk
  subst this;exact h⟩
 by_cases hk:F.kind=2∧F.kids.length=1
 ·have h0:0<F.kids.length:=by omega
  rw[negF_one hk.1 hk.2 h0];exact fitX_kid ⟨d,h⟩ (List.getElem_mem h0)
 ·rw[negF_not hk];exact hnot
theorem fit_aw:FitX (both 1 [leafS ⟨#[110,111,110,101]⟩ ⟨#[97]⟩,leafS ⟨#[99,110]⟩ ⟨#[97]⟩]):=⟨2,⟨by decide,by decide,by decide,by decide,Nat.zero_le _,(fun x hx=>by cases hx),by decide⟩,fun k hk=>by
 have hk2:k=leafS ⟨#[110,111,110,101]⟩ ⟨#[97]⟩∨k=leafS ⟨#[99,110]⟩ ⟨#[97]⟩:=by simpa[both,Fl.kids]using hk
 rcases hk2 with rfl | rfl
 ·exact⟨⟨by decide,by decide,by decide,by decide,Nat.zero_le _,(fun x hx=>by cases hx),by decide⟩,fun k hk=>by cases hk⟩
 ·exact⟨⟨by decide,by decide,by decide,by decide,Nat.zero_le _,(fun x hx=>by cases hx),by decide⟩,fun k hk=>by cases hk⟩⟩
theorem kidsX_twoS {w:World}{q:Nat}{n1 v1 n2 v2:ByteArray}(h:w.heap[q]? =some (.cells #[.int .i64 3,.string n1,.string v1,.string ⟨#[]⟩,.slice none 0 0,.string ⟨#[]⟩,.slice none 0 0,.int .i64 3,.string n2,.string v2,.string ⟨#[]⟩,.slice none 0 0,.string ⟨#[]⟩,.slice none 0 0] 73 (0,0))):KidsX w (some ⟨q,0,none⟩) [leafS n1 v1,leafS n2 v2]:=by
 refine⟨1,fun i hi=> ?_⟩;have hx:OkA none 0 0:=⟨Nat.le_refl _,fun _=>rfl⟩;have hs:StrsO anyB w none []:=⟨fun i hi=>absurd hi (Nat.not_lt_zero i),fun h=>absurd rfl h⟩
 match i,hi with
 | 0,_=>exact⟨q,0,none,0,none,0,rfl,trivial,⟨(Lib.cell_of_heap h 0).trans rfl,(Lib.cell_of_heap h 1).trans rfl,(Lib.cell_of_heap h 2).trans rfl,(Lib.cell_of_heap h 3).trans rfl,(Lib.cell_of_heap h 4).trans rfl,(Lib.cell_of_heap h 5).trans rfl,(Lib.cell_of_heap h 6).trans rfl⟩,hx,hs,Nat.le_refl _,rfl⟩
 | 1,_=>exact⟨q,0,none,0,none,0,rfl,trivial,⟨(Lib.cell_of_heap h 7).trans rfl,(Lib.cell_of_heap h 8).trans rfl,(Lib.cell_of_heap h 9).trans rfl,(Lib.cell_of_heap h 10).trans rfl,(Lib.cell_of_heap h 11).trans rfl,(Lib.cell_of_heap h 12).trans rfl,(Lib.cell_of_heap h 13).trans rfl⟩,hx,hs,Nat.le_refl _,rfl⟩
theorem awake19_any (w:World)(hE:Hid (EnvE w)):Calls Tryz.prog 45 #[] w fun e w'=>e= .returned (.bool true)∧Below w.heap.size w w':=by
 obtain⟨p1,hp1⟩: ∃p,w.heap.size=p:=⟨_,rfl⟩;obtain⟨W1,hW1⟩: ∃W,w.alloc (.cells #[.string ⟨#[97]⟩] 9)=W:=⟨_,rfl⟩;have hB1:Below w.heap.size w W1:=by rw[←hW1];exact(Below.refl _ _).alloc (Nat.le_refl _) _
 have hc1:W1.cell? ⟨p1,0,none⟩=some (.string ⟨#[97]⟩):=by rw[←hW1,←hp1];exact(Lib.cell_of_heap (heap_alloc_new w _) 0).trans rfl
 obtain⟨p2,hp2⟩: ∃p,W1.heap.size=p:=⟨_,rfl⟩;obtain⟨W2,hW2⟩: ∃W,W1.alloc (.cells #[.string ⟨#[99,110]⟩,.slice (some ⟨p1,0,none⟩) 1 1] 43)=W:=⟨_,rfl⟩;have hB2:Below W1.heap.size W1 W2:=by rw[←hW2];exact(Below.refl _ _).alloc (Nat.le_refl _) _
 have hc2:W2.cell? ⟨p2,0,none⟩=some (.string ⟨#[99,110]⟩):=by rw[←hW2,←hp2];exact(Lib.cell_of_heap (heap_alloc_new W1 _) 0).trans rfl
 have hc3:W2.cell? ⟨p2,1,none⟩=some (.slice (some ⟨p1,0,none⟩) 1 1):=by rw[←hW2,←hp2];exact(Lib.cell_of_heap (heap_alloc_new W1 _) 1).trans rfl
 have hc4:W2.cell? ⟨p1,0,none⟩=some (.string ⟨#[97]⟩):=(hB2.cell (World.block_lt_of_cell? W1 _ hc1)).trans hc1;have HAT:Hid (Ats W2 (some ⟨p2,0,none⟩) awL):=by
  intro i hi;obtain rfl:i=0:=by simp[awL]at hi;omega
  refine⟨p2,0,some ⟨p1,0,none⟩,1,rfl,hc2,hc3,Nat.le_refl _,fun j hj=> ?_⟩;obtain rfl:j=0:=by simp[awL]at hj;omega
  exact⟨p1,0,rfl,hc4⟩
 have HBW2:=Lib.hid (hB1.trans (hB2.mono hB1.size));have HSW2:=Lib.hid (Below.refl W2.heap.size W2);have hLL:Hid (FitL awL):=⟨by decide,fun a ha=>by simp only[awL,List.mem_singleton]at ha;subst ha;exact⟨by decide,fun v hv=>by simp only[List.mem_singleton]at hv;subst hv;decide⟩⟩;have HE2:=Lib.hid (envE_below hE.out HBW2.out);have HEV:Hid (∀ (F:Fl) (u:Value) (n:Int) W,evalE F awL=n→FlX W u F→FitX F→Below W2.heap.size W2 W→Calls Tryz.prog 51 #[u,.slice (some ⟨p2,0,none⟩) 1 1] W fun e w'=>e= .returned (.int .i64 n)∧Below W.heap.size W w'):=by intro F u n W hn hu hf h;have:=evalE_any (some ⟨p2,0,none⟩) 1 awL F u W (Lib.hid (ats_below HAT.out h)) hLL (Lib.hid (envE_below HE2.out h)) (Lib.hid hu) (Lib.hid hf);rw[hn]at this;exact this
 have HSM:=Lib.hid (fun n v W=>same_any n v W);have HNG:=Lib.hid (fun F u W (h:FlX W u F) (hf:FitX F)=>negate_any F u W (Lib.hid h) (Lib.hid hf));clear hB1 hB2 hc1 hc2 hc3 hc4;go_enter Tryz.func45,Tryz.ntmps45;go_wp2_with fail;refine(HSM.out ⟨#[99,110]⟩ ⟨#[65]⟩ W2).mono ?_;rintro e w3 ⟨rfl,hBw3⟩;have HBw3:=Lib.hid (HBW2.out.trans (hBw3.mono HBW2.out.size));have HSw3:=Lib.hid (HSW2.out.trans (hBw3.mono HSW2.out.size));clear hBw3;go_wp2_with fail;refine(HEV.out (leafS ⟨#[99,110]⟩ ⟨#[65]⟩) _ 1 w3 aw_a (flX_leafS w3 ⟨#[99,110]⟩ ⟨#[65]⟩) (fit_leafS (n:=⟨#[99,110]⟩) (v:=⟨#[65]⟩) (by decide) (by decide)) HSw3.out).mono ?_;rintro e w4 ⟨rfl,hBw4⟩;have HBw4:=Lib.hid (HBw3.out.trans (hBw4.mono HBw3.out.size));have HSw4:=Lib.hid (HSw3.out.trans (hBw4.mono HSw3.out.size));clear hBw4;go_wp2_with fail;refine(HSM.out ⟨#[99,110]⟩ ⟨#[97]⟩ w4).mono ?_;rintro e w5 ⟨rfl,hBw5⟩;have HBw5:=Lib.hid (HBw4.out.trans (hBw5.mono HBw4.out.size));have HSw5:=Lib.hid (HSw4.out.trans (hBw5.mono HSw4.out.size));clear hBw5;go_wp2_with fail;refine(HNG.out (leafS ⟨#[99,110]⟩ ⟨#[97]⟩) _ w5 (flX_leafS w5 ⟨#[99,110]⟩ ⟨#[97]⟩) (fit_leafS (n:=⟨#[99,110]⟩) (v:=⟨#[97]⟩) (by decide) (by decide))).mono ?_;rintro e w6 ⟨u6,rfl,hu6,hBw6⟩;have HU6:=Lib.hid hu6;have HBw6:=Lib.hid (HBw5.out.trans (hBw6.mono HBw5.out.size));have HSw6:=Lib.hid (HSw5.out.trans (hBw6.mono HSw5.out.size));clear hBw6 hu6;go_wp2_with fail;refine(HEV.out (negF (leafS ⟨#[99,110]⟩ ⟨#[97]⟩)) _ 0 w6 aw_b HU6.out (fit_neg (leafS ⟨#[99,110]⟩ ⟨#[97]⟩) (fit_leafS (n:=⟨#[99,110]⟩) (v:=⟨#[97]⟩) (by decide) (by decide))) HSw6.out).mono ?_;rintro e w7 ⟨rfl,hBw7⟩;have HBw7:=Lib.hid (HBw6.out.trans (hBw7.mono HBw6.out.size));have HSw7:=Lib.hid (HSw6.out.trans (hBw7.mono HSw6.out.size));clear hBw7;go_wp2_with fail;refine(HSM.out ⟨#[110,111,110,101]⟩ ⟨#[97]⟩ w7).mono ?_;rintro e w8 ⟨rfl,hBw8⟩;have HBw8:=Lib.hid (HBw7.out.trans (hBw8.mono HBw7.out.size));have HSw8:=Lib.hid (HSw7.out.trans (hBw8.mono HSw7.out.size));clear hBw8;go_wp2_with fail;refine(HEV.out (leafS ⟨#[110,111,110,101]⟩ ⟨#[97]⟩) _ 2 w8 aw_c (flX_leafS w8 ⟨#[110,111,110,101]⟩ ⟨#[97]⟩) (fit_leafS (n:=⟨#[110,111,110,101]⟩) (v:=⟨#[97]⟩) (by decide) (by decide)) HSw8.out).mono ?_;rintro e w9 ⟨rfl,hBw9⟩;have HBw9:=Lib.hid (HBw8.out.trans (hBw9.mono HBw8.out.size));have HSw9:=Lib.hid (HSw8.out.trans (hBw9.mono HSw8.out.size));clear hBw9;go_wp2_with fail;refine(HSM.out ⟨#[110,111,110,101]⟩ ⟨#[97]⟩ w9).mono ?_;rintro e w10 ⟨rfl,hBw10⟩;have HBw10:=Lib.hid (HBw9.out.trans (hBw10.mono HBw9.out.size));have HSw10:=Lib.hid (HSw9.out.trans (hBw10.mono HSw9.out.size));clear hBw10;go_wp2_with fail;refine(HSM.out ⟨#[99,110]⟩ ⟨#[97]⟩ w10).mono ?_;rintro e w11 ⟨rfl,hBw11⟩;have HBw11:=Lib.hid (HBw10.out.trans (hBw11.mono HBw10.out.size));have HSw11:=Lib.hid (HSw10.out.trans (hBw11.mono HSw10.out.size));clear hBw11;obtain⟨q,hq⟩: ∃q,w11.heap.size=q:=⟨_,rfl⟩;obtain⟨w12,hw12⟩: ∃W,w11.alloc (.cells #[.int .i64 3,.string ⟨#[110,111,110,101]⟩,.string ⟨#[97]⟩,.string ⟨#[]⟩,.slice none 0 0,.string ⟨#[]⟩,.slice none 0 0,.int .i64 3,.string ⟨#[99,110]⟩,.string ⟨#[97]⟩,.string ⟨#[]⟩,.slice none 0 0,.string ⟨#[]⟩,.slice none 0 0] 73)=W:=⟨_,rfl⟩;have hB12:Below w11.heap.size w11 w12:=by rw[←hw12];exact(Below.refl _ _).alloc (Nat.le_refl _) _
 have HH:Hid (w12.heap[q]? =some (.cells #[.int .i64 3,.string ⟨#[110,111,110,101]⟩,.string ⟨#[97]⟩,.string ⟨#[]⟩,.slice none 0 0,.string ⟨#[]⟩,.slice none 0 0,.int .i64 3,.string ⟨#[99,110]⟩,.string ⟨#[97]⟩,.string ⟨#[]⟩,.slice none 0 0,.string ⟨#[]⟩,.slice none 0 0] 73 (0,0))):=by rw[←hw12,←hq];exact heap_alloc_new w11 _
 have HK12:Hid (KidsX w12 (some ⟨q,0,none⟩) [leafS ⟨#[110,111,110,101]⟩ ⟨#[97]⟩,leafS ⟨#[99,110]⟩ ⟨#[97]⟩]):=kidsX_twoS HH.out;have HBw12:=Lib.hid (HBw11.out.trans (hB12.mono HBw11.out.size));have HSw12:=Lib.hid (HSw11.out.trans (hB12.mono HSw11.out.size));clear hB12;go_wp2_with fail;refine(HEV.out (both 1 [leafS ⟨#[110,111,110,101]⟩ ⟨#[97]⟩,leafS ⟨#[99,110]⟩ ⟨#[97]⟩]) _ 1 w12 aw_d (flX_both rfl (by decide) HK12.out) fit_aw HSw12.out).mono ?_;rintro e w13 ⟨rfl,hB13⟩;have HB13:=Lib.hid (HBw12.out.trans (hB13.mono HBw12.out.size));clear hB13;go_wp2_with fail;go_ret;exact⟨rfl,HB13.out⟩
end flw
namespace scp
abbrev T:=List UInt8
structure Cls where
 name:T
 kind:Int
 above:T
 must:List T
 may:List T
deriving DecidableEq
def clsL:List Cls:=[⟨[116,111,112],0,[],[[111,98,106,101,99,116,99,108,97,115,115],[]],[[],[],[],[],[],[]]⟩,
 ⟨[100,111,109,97,105,110],1,[116,111,112],[[100,99],[]],[[100,101,115,99,114,105,112,116,105,111,110],[111],[108],[115,101,101,97,108,115,111],[],[]]⟩,
 ⟨[111,114,103,97,110,105,122,97,116,105,111,110],1,[116,111,112],[[111],[]],[[100,101,115,99,114,105,112,116,105,111,110],[108],[116,101,108,101,112,104,111,110,101,110,117,109,98,101,114],[115,101,101,97,108,115,111],[],[]]⟩,
 ⟨[111,114,103,97,110,105,122,97,116,105,111,110,97,108,117,110,105,116],1,[116,111,112],[[111,117],[]],[[100,101,115,99,114,105,112,116,105,111,110],[108],[116,101,108,101,112,104,111,110,101,110,117,109,98,101,114],[115,101,101,97,108,115,111],[],[]]⟩,
 ⟨[112,101,114,115,111,110],1,[116,111,112],[[99,110],[115,110]],[[117,115,101,114,112,97,115,115,119,111,114,100],[116,101,108,101,112,104,111,110,101,110,117,109,98,101,114],[115,101,101,97,108,115,111],[100,101,115,99,114,105,112,116,105,111,110],[],[]]⟩,
 ⟨[111,114,103,97,110,105,122,97,116,105,111,110,97,108,112,101,114,115,111,110],1,[112,101,114,115,111,110],[[],[]],[[116,105,116,108,101],[111,117],[108],[],[],[]]⟩,
 ⟨[105,110,101,116,111,114,103,112,101,114,115,111,110],1,[111,114,103,97,110,105,122,97,116,105,111,110,97,108,112,101,114,115,111,110],[[],[]],[[109,97,105,108],[117,105,100],[112,104,111,116,111],[111],[],[]]⟩,
 ⟨[97,99,99,111,117,110,116],1,[116,111,112],[[117,105,100],[]],[[100,101,115,99,114,105,112,116,105,111,110],[115,101,101,97,108,115,111],[108],[111],[111,117],[]]⟩,
 ⟨[103,114,111,117,112,111,102,110,97,109,101,115],1,[116,111,112],[[99,110],[109,101,109,98,101,114]],[[100,101,115,99,114,105,112,116,105,111,110],[115,101,101,97,108,115,111],[111],[111,117],[],[]]⟩,
 ⟨[100,101,118,105,99,101],1,[116,111,112],[[99,110],[]],[[115,101,114,105,97,108,110,117,109,98,101,114],[100,101,115,99,114,105,112,116,105,111,110],[115,101,101,97,108,115,111],[108],[111],[111,117]]⟩,
 ⟨[117,105,100,111,98,106,101,99,116],2,[116,111,112],[[117,105,100],[]],[[],[],[],[],[],[]]⟩,
 ⟨[108,105,109,105,116,111,98,106,101,99,116],2,[116,111,112],[[],[]],[[108,105,109,105,116],[117,105,100,110,117,109,98,101,114],[101,110,97,98,108,101,100],[],[],[]]⟩,
 ⟨[115,101,99,114,101,116,111,98,106,101,99,116],2,[116,111,112],[[117,115,101,114,112,97,115,115,119,111,114,100],[]],[[],[],[],[],[],[]]⟩]
def noCls:Cls:=⟨[],0,[],[[],[]],[[],[],[],[],[],[]]⟩
def clsA (k:Nat):Cls:=clsL.getD k noCls
def ownMust (k:Nat):List T:=(List.getD [[[111,98,106,101,99,116,99,108,97,115,115]],[[100,99]],[[111]],[[111,117]],[[99,110],[115,110]],[],[],[[117,105,100]],[[99,110],[109,101,109,98,101,114]],[[99,110]],[[117,105,100]],[],[[117,115,101,114,112,97,115,115,119,111,114,100]]] k [])
def ownMay (k:Nat):List T:=(List.getD [[],[[100,101,115,99,114,105,112,116,105,111,110],[108],[111],[115,101,101,97,108,115,111]],[[100,101,115,99,114,105,112,116,105,111,110],[108],[115,101,101,97,108,115,111],[116,101,108,101,112,104,111,110,101,110,117,109,98,101,114]],[[100,101,115,99,114,105,112,116,105,111,110],[108],[115,101,101,97,108,115,111],[116,101,108,101,112,104,111,110,101,110,117,109,98,101,114]],[[100,101,115,99,114,105,112,116,105,111,110],[115,101,101,97,108,115,111],[116,101,108,101,112,104,111,110,101,110,117,109,98,101,114],[117,115,101,114,112,97,115,115,119,111,114,100]],[[108],[111,117],[116,105,116,108,101]],[[109,97,105,108],[111],[112,104,111,116,111],[117,105,100]],[[100,101,115,99,114,105,112,116,105,111,110],[108],[111],[111,117],[115,101,101,97,108,115,111]],[[100,101,115,99,114,105,112,116,105,111,110],[111],[111,117],[115,101,101,97,108,115,111]],[[100,101,115,99,114,105,112,116,105,111,110],[108],[111],[111,117],[115,101,101,97,108,115,111],[115,101,114,105,97,108,110,117,109,98,101,114]],[],[[101,110,97,98,108,101,100],[108,105,109,105,116],[117,105,100,110,117,109,98,101,114]],[]] k [])
def ltT (a b:T):Bool:=decide (Lib.compareBytes a b= -1)
def putL (l:List T)(s:T):List T:=if s∈l then l else l.takeWhile (fun x=>ltT x s)++s::l.dropWhile (fun x=>ltT x s)
end scp
open Go.RowKit
namespace scw
open scp atw
def clsV (c:Cls):List Value:=[.string (bs c.name),.int .i64 c.kind,.string (bs c.above),.string (bs (c.must.getD 0 [])),.string (bs (c.must.getD 1 [])),.string (bs (c.may.getD 0 [])),.string (bs (c.may.getD 1 [])),.string (bs (c.may.getD 2 [])),.string (bs (c.may.getD 3 [])),.string (bs (c.may.getD 4 [])),.string (bs (c.may.getD 5 []))]
def CA (w:World)(b o:Nat)(c:Cls):Prop:=w.rangeAt b o (clsV c)
def CB (w:World)(p:Nat)(c:Cls):Prop:=w.rangeAt p 0 (clsV c)∧w.there p 0 11
end scw
open Go.RowKit
namespace scw
open scp atw
def clsO:Option Nat→Cls
 | some k=>clsA k
 | none=>noCls
end scw
open Go.RowKit
namespace flw
open flp atp atw etp etw scw scp
open tupw (Strs strs_below)
theorem flat_take {d i:Nat}{l:List Fl}(hi:i<l.length):(l.take (i+1)).flatMap (flp.ask d)=(l.take i).flatMap (flp.ask d)++flp.ask d l[i]:=by rw[List.take_succ_eq_append_getElem hi,List.flatMap_append];simp
def asked (F:Fl):List (List UInt8):=if rightF F=true then(flp.ask 8 F).foldl putL []else[]
end flw
end Go.Proofs.YtmnpfkbjpeaemaaGreatDoor
