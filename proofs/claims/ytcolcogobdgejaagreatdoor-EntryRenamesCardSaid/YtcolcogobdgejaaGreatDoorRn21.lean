/- One text out of several: RenLW, OpenS, ArgsW, StrsOf, EntO, TyF. -/
import Derived.Test.YtcolcogobdgejaaGreatDoorRn13
import Derived.Test.YtcolcogobdgejaaGreatDoorRn14
import Derived.Test.YtcolcogobdgejaaGreatDoorRn15
import Derived.Test.YtcolcogobdgejaaGreatDoorRn18
import Derived.Test.YtcolcogobdgejaaGreatDoorRn20
import Derived.Deep.Slices
import Derived.Deep.Fields
import Derived.ChangeSame
import Derived.Test.YtcolcogobdgejaaGreatDoorRn1
import Derived.Test.YtcolcogobdgejaaGreatDoorRn5
import Derived.SliceStrings
import Derived.Deep.MidRow
import Derived.Test.YtcolcogobdgejaaGreatDoorRn6
import Derived.Lib.SmallJoins
import Derived.Test.YtcolcogobdgejaaGreatDoorRn9
import Derived.Lib.LaidU8
import Derived.Deep.Strs
set_option linter.unusedVariables false
set_option linter.unusedSimpArgs false
set_option maxRecDepth 20000
set_option maxHeartbeats 16000000
namespace Go.Proofs.YtcolcogobdgejaaGreatDoor
open Go.RowKit
namespace etw
open atp atw etp
open dnw (Av Avas)
open tupw (Strs strs_below)
theorem bk_gone {rdn:List Av}: ∀ {l:List Av} {out out':En} {k:Nat},Bk k out→goneF rdn l out= .ok out'→Bk (k+l.length) out'
 | [],out,out',k,h,e=>by cases e;exact h
 | a::r,out,out',k,h,e=>by
  unfold goneF at e;have up: ∀ {o:En} {m:Nat},Bk m o→m≤k+1→goneF rdn r o= .ok out'→Bk (k+(a::r).length) out':=fun hb hm he=>bk_le (bk_gone (bk_le hb hm) he) (by simp only[List.length_cons];omega);split at e
  ·exact up h (by omega) e
  ·split at e
   ·exact up h (by omega) e
   ·split at e
    ·cases e
    ·rename_i less hl;exact up (bk_remove h hl) (Nat.le_refl _) e
theorem bk_come: ∀ {l:List Av} {out out':En} {k:Nat},(∀a∈l,a.v.size≤1200)→Bk k out→comeF l out= .ok out'→Bk (k+l.length) out'
 | [],out,out',k,hl,h,e=>by cases e;exact h
 | a::r,out,out',k,hl,h,e=>by
  unfold comeF at e;have up: ∀ {o:En} {m:Nat},Bk m o→m≤k+1→comeF r o= .ok out'→Bk (k+(a::r).length) out':=fun hb hm he=>bk_le (bk_come (fun b hb=>hl b (by simp[hb])) (bk_le hb hm) he) (by simp only[List.length_cons];omega);split at e
  ·exact up h (by omega) e
  ·split at e
   ·exact up h (by omega) e
   ·split at e
    ·cases e
    ·rename_i more hm;exact up (bk_add h (fun v hv=>by rw[List.mem_singleton]at hv;rw[hv];exact hl a (by simp)) hm) (Nat.le_refl _) e
theorem come_err: ∀ {l:List Av} {out:En} {f:Int},comeF l out= .error f→f≠0
 | [],out,f,e=>by cases e
 | a::r,out,f,e=>by
  unfold comeF at e;split at e
  ·exact come_err e
  ·split at e
   ·exact come_err e
   ·split at e
    ·rename_i g hg;cases e;exact add_err hg
    ·exact come_err e
theorem rename_res {E:En}{rdn:List Av}{keep:Bool}(hb:Bk 30 E)(hbr:E.rdn.length≤20)(hl:rdn.length≤20)(hs: ∀a∈rdn,a.t.size≤1000∧a.v.size≤1200):
  Bd (valE (renameE E rdn keep))∧(codeE (renameE E rdn keep)=0→namedE (valE (renameE E rdn keep))=true∧rightE (valE (renameE E rdn keep))=true):=by
 cases hr:renameE E rdn keep with
 | ok A=>
  refine⟨?_,fun _=>rename_ok hr⟩;unfold renameE at hr;split at hr
  ·cases hr
  ·split at hr
   ·cases hr
   ·split at hr
    ·cases hr
    ·split at hr
     ·cases hr
     ·rename_i out ho;have h1:Bk 50 out:=by
       split at ho
       ·cases ho;exact bk_le hb (by omega)
       ·exact bk_le (bk_gone hb ho) (by omega)
      split at hr
      ·cases hr
      ·rename_i out2 ho2;cases hr;have h2:=bk_come (fun a ha=>(hs a ha).2) h1 ho2;exact bk_bd (k:=50+rdn.length) ⟨by show rdn.length≤1000;omega,hs,h2.al,h2.as_⟩ (by omega)
 | error f=>
  refine⟨bd_zero,fun h0=> ?_⟩;exfalso;have h0':f=0:=h0
  revert h0'
  show f≠0;unfold renameE at hr;split at hr
  ·cases hr;decide
  ·rename_i hri;split at hr
   ·cases hr;decide
   ·split at hr
    ·cases hr;decide
    ·split at hr
     ·rename_i g ho;cases hr;split at ho
      ·cases ho
      ·obtain⟨o2,hg,_⟩:=gone_ok rdn E.rdn E (by simpa using hri);rw[hg]at ho;cases ho
     ·split at hr
      ·rename_i g ho;cases hr;exact come_err ho
      ·cases hr
theorem long_len {e:En}(h:longE e=false):e.rdn.length≤20:=by unfold longE at h;rw[Bool.or_eq_false_iff,Bool.or_eq_false_iff,Bool.or_eq_false_iff,decide_eq_false_iff_not]at h;omega
theorem long_rdn {rdn:List Av}(h:longE ⟨rdn,[]⟩=false):rdn.length≤20∧ ∀a∈rdn,a.t.size≤600∧a.v.size≤600:=by refine⟨long_len h,fun a ha=> ?_⟩;unfold longE at h;rw[Bool.or_eq_false_iff,Bool.or_eq_false_iff,Bool.or_eq_false_iff,decide_eq_false_iff_not,decide_eq_false_iff_not,List.any_eq_false,List.any_eq_false]at h;have:=h.1.2 a ha;unfold bigR at this;simp at this;omega
theorem renames_law (v:Value)(E:En)(bo:Option Addr)(bcap:Nat)(rdn:List Av)(keep:Bool)(w:World)(hv:Hid (EntV w v E))(hR:Hid (Avas w bo rdn))(hlc:rdn.length≤bcap)(hE:Hid (EnvE w)):
  Calls Tryz.prog 6 #[v,.slice bo rdn.length bcap,.bool keep] w fun e w'=>e= .returned (.bool true)∧Below w.heap.size w w':=by
 have HLO0:Hid (∀W,Below w.heap.size w W→Calls Tryz.prog 15 #[v] W fun e w'=>e= .returned (.bool (longE E))∧Below W.heap.size W w'):=fun W h=>longE_any v E W (Lib.hid (entV_below hv.out h));have HLL0:Hid (∀W,Below w.heap.size w W→Calls Tryz.prog 15 #[.agg #[.slice bo rdn.length bcap,.slice none 0 0]] W fun e w'=>e= .returned (.bool (longE ⟨rdn,[]⟩))∧Below W.heap.size W w'):=fun W h=>longE_any _ ⟨rdn,[]⟩ W (Lib.hid ⟨bo,bcap,none,0,rfl,hlc,Nat.le_refl _,dnw.avas_below hR.out h,fun i hi=>absurd hi (Nat.not_lt_zero _)⟩);obtain⟨ro,rc,ao,ac,Nr,N,rfl,HN,HA,hac,HNr,HAv,hrc⟩:=ent_form hv.out;obtain⟨W0,hW0⟩: ∃W,w.alloc (.cells #[.slice ro Nr rc,.slice ao N ac] 25)=W:=⟨_,rfl⟩;have hB0:Below w.heap.size w W0:=by rw[←hW0];exact(Below.refl _ _).alloc (Nat.le_refl _) _
 have HT0:Hid (EntB W0 w.heap.size (.slice ro Nr rc) (.slice ao N ac)):=by rw[←hW0];exact entB_new _ _ _
 have HB0:=Lib.hid hB0;have HAW:=Lib.hid (eawake_any W0 (Lib.hid (envE_below hE.out hB0)));obtain⟨K,hK⟩: ∃K,rdn.length=K:=⟨_,rfl⟩;rw[hK]at HLL0 hlc ⊢;have HK:=Lib.hid hK;clear hB0 hK HN HA HNr HAv hac hrc;go_enter Tryz.func6,Tryz.ntmps6;go_wp2_with fail;refine HAW.out.mono ?_;rintro e w1 ⟨rfl,hB1⟩;have HB1:=Lib.hid (HB0.out.trans (hB1.mono HB0.out.size));have HT1:=Lib.hid (entB_below HT0.out hB1);obtain⟨k0,k1⟩:=entB_cells HT1.out;have HLO:=Lib.hid (HLO0.out w1 HB1.out);clear hB1 hW0 HAW HLO0;cases hlo:longE E with
 | true=>rw[hlo]at HLO;clear hlo;go_wp2_with fail;refine HLO.out.mono ?_;rintro e w2 ⟨rfl,hB2⟩;have HBE:=Lib.hid (HB1.out.trans (hB2.mono HB1.out.size));clear hB2 k0 k1;go_wp2_with fail;go_ret;exact⟨rfl,HBE.out⟩
 | false=>
  rw[hlo]at HLO;have HBK:=Lib.hid (longE_no hlo);have HBR:=Lib.hid (long_len hlo);clear hlo;cases hll:longE ⟨rdn,[]⟩with
  | true=>rw[hll]at HLL0;clear hll;go_wp2_with fail;refine HLO.out.mono ?_;rintro e w2 ⟨rfl,hB2⟩;have HB2:=Lib.hid (HB1.out.trans (hB2.mono HB1.out.size));have HLL:=Lib.hid (HLL0.out w2 HB2.out);clear hB2 k0 k1 HLL0 HLO;go_wp2_with fail;refine HLL.out.mono ?_;rintro e w3 ⟨rfl,hB3⟩;have HB3:=Lib.hid (HB2.out.trans (hB3.mono HB2.out.size));clear hB3;go_wp2_with fail;go_ret;exact⟨rfl,HB3.out⟩
  | false=>
   rw[hll]at HLL0;obtain⟨hk20,hls⟩:=long_rdn hll;have HLS:Hid (∀a∈rdn,a.t.size≤1000∧a.v.size≤1200):=fun a ha=>by have:=hls a ha;omega
   have HBD:=Lib.hid (bk_bd HBK.out (by omega));have hRS:=rename_res (keep:=keep) HBK.out HBR.out hk20 HLS.out;have HC1:Hid (∀W,Below w.heap.size w W→Calls Tryz.prog 33 #[.agg #[.slice ro Nr rc,.slice ao N ac],.slice bo K bcap,.bool keep] W fun e w'=>ResX (valE (renameE E rdn keep)) (codeE (renameE E rdn keep)) W e w'):=(by intro W h;have:=rename_any _ E bo bcap rdn keep W (Lib.hid (entV_below hv.out h)) HBK HBR (Lib.hid (dnw.avas_below hR.out h)) hk20 (by rw[HK.out];exact hlc) HLS (Lib.hid (envE_below hE.out h));rw[HK.out]at this;exact this.mono fun e w' hr=>resX_of hr);have HR1:Hid (∀W,Below w.heap.size w W→Calls Tryz.prog 34 #[.agg #[.slice ro Nr rc,.slice ao N ac],.slice bo K bcap,.bool keep] W fun e w'=>ResX (valE (renameE E rdn keep)) (codeE (renameE E rdn keep)) W e w'):=(by intro W h;have:=rrename_any _ E bo bcap rdn keep W (Lib.hid (entV_below hv.out h)) HBK HBR (Lib.hid (dnw.avas_below hR.out h)) hk20 (by rw[HK.out];exact hlc) HLS;rw[HK.out]at this;exact this.mono fun e w' hr=>resX_of hr);have HNE:Hid (∀W,Below w.heap.size w W→Calls Tryz.prog 35 #[.agg #[.slice ro Nr rc,.slice ao N ac]] W fun e w'=>e= .returned (.bool (namedE E))∧Below W.heap.size W w'):=fun W h=>named_any _ E W (Lib.hid (entV_below hv.out h)) HBD (Lib.hid (envE_below hE.out h));have HRN:Hid (∀W,Below w.heap.size w W→Calls Tryz.prog 36 #[.agg #[.slice ro Nr rc,.slice ao N ac]] W fun e w'=>e= .returned (.bool (namedE E))∧Below W.heap.size W w'):=fun W h=>rnamed_any _ E W (Lib.hid (entV_below hv.out h)) HBD;generalize namedE E=nb at HNE HRN;obtain⟨X1,hX1⟩: ∃X,valE (renameE E rdn keep)=X:=⟨_,rfl⟩;obtain⟨F1,hF1⟩: ∃F,codeE (renameE E rdn keep)=F:=⟨_,rfl⟩;rw[hX1,hF1]at HC1 HR1 hRS;have HXB:=Lib.hid hRS.1;have HXR:=Lib.hid hRS.2;have HS:Hid (∀u1 u2 W,EntV W u1 X1→EntV W u2 X1→Calls Tryz.prog 27 #[u1,u2] W fun e w'=>e= .returned (.bool true)∧Below W.heap.size W w'):=fun u1 u2 W h1 h2=>same17_eq u1 u2 _ W (Lib.hid h1) (Lib.hid h2) HXB;have HN1:Hid (∀u W,Below w.heap.size w W→EntV W u X1→Calls Tryz.prog 35 #[u] W fun e w'=>e= .returned (.bool (namedE X1))∧Below W.heap.size W w'):=fun u W hw h=>named_any _ X1 W (Lib.hid h) HXB (Lib.hid (envE_below hE.out hw));have HI1:Hid (∀u W,Below w.heap.size w W→EntV W u X1→Calls Tryz.prog 26 #[u] W fun e w'=>e= .returned (.bool (rightE X1))∧Below W.heap.size W w'):=fun u W hw h=>right_any _ X1 W (Lib.hid h) HXB (Lib.hid (envE_below hE.out hw));clear hll hls hRS hX1 hF1 HBK HBR HBD HXB;go_wp2_with fail;refine HLO.out.mono ?_;rintro e w2 ⟨rfl,hB2⟩;have HB2:=Lib.hid (HB1.out.trans (hB2.mono HB1.out.size));have HT2:=Lib.hid (entB_below HT1.out hB2);have HLL:=Lib.hid (HLL0.out w2 HB2.out);clear hB2 k0 k1 HLO HLL0;go_wp2_with fail;refine HLL.out.mono ?_;rintro e w3 ⟨rfl,hB3⟩;have HBw3:=Lib.hid (HB2.out.trans (hB3.mono HB2.out.size));have HTw3:=Lib.hid (entB_below HT2.out hB3);clear hB3 HLL;obtain⟨k0,k1⟩:=entB_cells HTw3.out;have HC:=Lib.hid (HC1.out w3 HBw3.out);go_wp2_with fail;refine HC.out.mono ?_;rintro e wa1 ⟨r1,n1,c1,r2,n2,c2,rfl,hv1,hB1⟩;have HBwa1:=Lib.hid (HBw3.out.trans (hB1.mono HBw3.out.size));have HTwa1:=Lib.hid (entB_below HTw3.out hB1);obtain⟨wb1,hwwb1⟩: ∃W,wa1.alloc (.cells #[.slice r1 n1 c1,.slice r2 n2 c2] 25)=W:=⟨_,rfl⟩;have hB2:Below wa1.heap.size wa1 wb1:=(by rw[←hwwb1];exact(Below.refl _ _).alloc (Nat.le_refl _) _);obtain⟨p9,hp9⟩: ∃q,wa1.heap.size=q:=⟨_,rfl⟩;have HXwb1:Hid (EntB wb1 p9 (.slice r1 n1 c1) (.slice r2 n2 c2)):=(by rw[←hwwb1,←hp9];exact entB_new _ _ _);have hp9w:w.heap.size≤p9:=(by rw[←hp9];exact HBwa1.out.size);have hp9n:p9≠w.heap.size:=(by rw[←hp9];exact Nat.ne_of_gt (kt.bld_lt HTwa1.out));have HBwb1:=Lib.hid (HBwa1.out.trans (hB2.mono HBwa1.out.size));have HTwb1:=Lib.hid (entB_below HTwa1.out hB2);have HVwb1:=Lib.hid (entV_below hv1 hB2);clear hB2;have HD:=Lib.hid (HR1.out wb1 HBwb1.out);clear hv1 hB1 k0 k1 HC;obtain⟨k0,k1⟩:=entB_cells HTwb1.out;go_wp2_with fail;refine HD.out.mono ?_;rintro e wc1 ⟨s1,m1,d1,s2,m2,d2,rfl,hv2,hB1⟩;have HBwc1:=Lib.hid (HBwb1.out.trans (hB1.mono HBwb1.out.size));have HTwc1:=Lib.hid (entB_below HTwb1.out hB1);have HXwc1:=Lib.hid (entB_below HXwb1.out hB1);have HVwc1:=Lib.hid (entV_below HVwb1.out hB1);try clear v0 v1 f0 f1 hwwb1
   try clear hp9
   obtain⟨wd1,hwwd1⟩: ∃W,wc1.alloc (.cells #[.slice s1 m1 d1,.slice s2 m2 d2] 25)=W:=⟨_,rfl⟩;have hB2:Below wc1.heap.size wc1 wd1:=(by rw[←hwwd1];exact(Below.refl _ _).alloc (Nat.le_refl _) _);obtain⟨p11,hp11⟩: ∃q,wc1.heap.size=q:=⟨_,rfl⟩;have HYwd1:Hid (EntB wd1 p11 (.slice s1 m1 d1) (.slice s2 m2 d2)):=(by rw[←hwwd1,←hp11];exact entB_new _ _ _);have hp11w:w.heap.size≤p11:=(by rw[←hp11];exact HBwc1.out.size);have hp11n:p11≠w.heap.size:=(by rw[←hp11];exact Nat.ne_of_gt (kt.bld_lt HTwc1.out));have hpn:p9≠p11:=(by rw[←hp11];exact Nat.ne_of_lt (kt.bld_lt HXwc1.out));have HBwd1:=Lib.hid (HBwc1.out.trans (hB2.mono HBwc1.out.size));have HTwd1:=Lib.hid (entB_below HTwc1.out hB2);have HXwd1:=Lib.hid (entB_below HXwc1.out hB2);have HUwd1:=Lib.hid (entV_below HVwc1.out hB2);have HVwd1:=Lib.hid (entV_below hv2 hB2);clear hB2;clear hv2 hB1 k0 k1 HD;have HB7:=HBwd1;have HU7:=HUwd1;have HV7:=HVwd1;obtain⟨k0,k1⟩:=entB_cells HTwd1.out;obtain⟨x0,x1⟩:=entB_cells HXwd1.out;obtain⟨y0,y1⟩:=entB_cells HYwd1.out;have hlk:=World.block_lt_of_cell? wd1 _ k0;have hlx:=World.block_lt_of_cell? wd1 _ x0;have hly:=World.block_lt_of_cell? wd1 _ y0;go_wp2_with fail;clear hwwd1;refine wp_region_held_drew (S:=fun W=>W.cell? ⟨w.heap.size,0,none⟩=some (.slice ro Nr rc)∧W.cell? ⟨w.heap.size,1,none⟩=some (.slice ao N ac)∧W.cell? ⟨p9,0,none⟩=some (.slice r1 n1 c1)∧W.cell? ⟨p9,1,none⟩=some (.slice r2 n2 c2)∧W.cell? ⟨p11,0,none⟩=some (.slice s1 m1 d1)∧W.cell? ⟨p11,1,none⟩=some (.slice s2 m2 d2)) (by kernel_rfl) (⟨k0,k1,x0,x1,y0,y1⟩) (fun hHeld=> ?_);refine tk 0 ⟨some 34,_,_,_,_,_⟩ rfl ?_;refine tk 1 ⟨some 35,_,_,_,_,_⟩ rfl ?_;refine tk 2 ⟨some 36,_,_,_,_,_⟩ rfl ?_;refine tk 3 ⟨some 37,_,_,_,_,_⟩ rfl ?_;refine tk 4 ⟨some 38,_,_,_,_,_⟩ rfl ?_;refine tk 5 ⟨some 39,_,_,_,_,_⟩ rfl ?_;refine tc 6 ⟨some 40,_,_,_,_,_⟩ rfl (fun K hK=> ?_);go_simp;go_at_call 27;refine(HS.out _ _ _ (entV_below HU7.out ((Below.refl wd1.heap.size wd1).drew)) (entV_below HV7.out ((Below.refl wd1.heap.size wd1).drew))).mono ?_;rintro e w8 ⟨rfl,hB8⟩;refine hK.out _ _ (⟨(hB8.cell (p:=⟨w.heap.size,0,none⟩) hlk).trans (k0),(hB8.cell (p:=⟨w.heap.size,1,none⟩) hlk).trans (k1),(hB8.cell (p:=⟨p9,0,none⟩) hlx).trans (x0),(hB8.cell (p:=⟨p9,1,none⟩) hlx).trans (x1),(hB8.cell (p:=⟨p11,0,none⟩) hly).trans (y0),(hB8.cell (p:=⟨p11,1,none⟩) hly).trans (y1)⟩) (fun hHeld=> ?_);clear hK;try simp only[Act.put,List.setIfInBounds_toArray,List.set_cons_zero,List.set_cons_succ]
   refine tk 7 ⟨some 41,_,_,_,_,_⟩ rfl ?_;refine tk 8 ⟨some 42,_,_,_,_,_⟩ rfl ?_;refine tk 9 ⟨some 43,_,_,_,_,_⟩ rfl ?_;refine tk 10 ⟨some 44,_,_,_,_,_⟩ rfl ?_;refine tk 12 ⟨some 46,_,_,_,_,_⟩ rfl ?_;refine tc 11 ⟨some 45,_,_,_,_,_⟩ rfl (fun K hK=> ?_);go_simp;go_at_call 35;refine(HNE.out _ (HB7.out.trans ((((Below.refl wd1.heap.size wd1).drew).trans hB8).mono HB7.out.size))).mono ?_;rintro e w9 ⟨rfl,hB9⟩;refine hK.out _ _ (⟨(hB9.cell (p:=⟨w.heap.size,0,none⟩) (Nat.lt_of_lt_of_le hlk hB8.size)).trans ((hB8.cell (p:=⟨w.heap.size,0,none⟩) hlk).trans (k0)),(hB9.cell (p:=⟨w.heap.size,1,none⟩) (Nat.lt_of_lt_of_le hlk hB8.size)).trans ((hB8.cell (p:=⟨w.heap.size,1,none⟩) hlk).trans (k1)),(hB9.cell (p:=⟨p9,0,none⟩) (Nat.lt_of_lt_of_le hlx hB8.size)).trans ((hB8.cell (p:=⟨p9,0,none⟩) hlx).trans (x0)),(hB9.cell (p:=⟨p9,1,none⟩) (Nat.lt_of_lt_of_le hlx hB8.size)).trans ((hB8.cell (p:=⟨p9,1,none⟩) hlx).trans (x1)),(hB9.cell (p:=⟨p11,0,none⟩) (Nat.lt_of_lt_of_le hly hB8.size)).trans ((hB8.cell (p:=⟨p11,0,none⟩) hly).trans (y0)),(hB9.cell (p:=⟨p11,1,none⟩) (Nat.lt_of_lt_of_le hly hB8.size)).trans ((hB8.cell (p:=⟨p11,1,none⟩) hly).trans (y1))⟩) (fun hHeld=> ?_);clear hK;try simp only[Act.put,List.setIfInBounds_toArray,List.set_cons_zero,List.set_cons_succ]
   refine tc 13 ⟨some 47,_,_,_,_,_⟩ rfl (fun K hK=> ?_);go_simp;go_at_call 36;refine(HRN.out _ (HB7.out.trans (((((Below.refl wd1.heap.size wd1).drew).trans hB8).trans (hB9.mono hB8.size)).mono HB7.out.size))).mono ?_;rintro e w10 ⟨rfl,hB10⟩;refine hK.out _ _ (⟨(hB10.cell (p:=⟨w.heap.size,0,none⟩) (Nat.lt_of_lt_of_le (Nat.lt_of_lt_of_le hlk hB8.size) hB9.size)).trans ((hB9.cell (p:=⟨w.heap.size,0,none⟩) (Nat.lt_of_lt_of_le hlk hB8.size)).trans ((hB8.cell (p:=⟨w.heap.size,0,none⟩) hlk).trans (k0))),(hB10.cell (p:=⟨w.heap.size,1,none⟩) (Nat.lt_of_lt_of_le (Nat.lt_of_lt_of_le hlk hB8.size) hB9.size)).trans ((hB9.cell (p:=⟨w.heap.size,1,none⟩) (Nat.lt_of_lt_of_le hlk hB8.size)).trans ((hB8.cell (p:=⟨w.heap.size,1,none⟩) hlk).trans (k1))),(hB10.cell (p:=⟨p9,0,none⟩) (Nat.lt_of_lt_of_le (Nat.lt_of_lt_of_le hlx hB8.size) hB9.size)).trans ((hB9.cell (p:=⟨p9,0,none⟩) (Nat.lt_of_lt_of_le hlx hB8.size)).trans ((hB8.cell (p:=⟨p9,0,none⟩) hlx).trans (x0))),(hB10.cell (p:=⟨p9,1,none⟩) (Nat.lt_of_lt_of_le (Nat.lt_of_lt_of_le hlx hB8.size) hB9.size)).trans ((hB9.cell (p:=⟨p9,1,none⟩) (Nat.lt_of_lt_of_le hlx hB8.size)).trans ((hB8.cell (p:=⟨p9,1,none⟩) hlx).trans (x1))),(hB10.cell (p:=⟨p11,0,none⟩) (Nat.lt_of_lt_of_le (Nat.lt_of_lt_of_le hly hB8.size) hB9.size)).trans ((hB9.cell (p:=⟨p11,0,none⟩) (Nat.lt_of_lt_of_le hly hB8.size)).trans ((hB8.cell (p:=⟨p11,0,none⟩) hly).trans (y0))),(hB10.cell (p:=⟨p11,1,none⟩) (Nat.lt_of_lt_of_le (Nat.lt_of_lt_of_le hly hB8.size) hB9.size)).trans ((hB9.cell (p:=⟨p11,1,none⟩) (Nat.lt_of_lt_of_le hly hB8.size)).trans ((hB8.cell (p:=⟨p11,1,none⟩) hly).trans (y1)))⟩) (fun hHeld=> ?_);clear hK;try simp only[Act.put,List.setIfInBounds_toArray,List.set_cons_zero,List.set_cons_succ]
   refine tk 14 ⟨some 48,_,_,_,_,_⟩ rfl ?_;refine tk 15 ⟨some 49,_,_,_,_,_⟩ rfl ?_;refine wpAnyH_done (by kernel_rfl) ?_ _;have hB79:=((Below.refl wd1.heap.size wd1).drew).trans hB8;have hB7a:=(hB79.trans (hB9.mono hB79.size)).trans (hB10.mono (Nat.le_trans hB79.size hB9.size));have HB10:=Lib.hid (HB7.out.trans (hB7a.mono HB7.out.size));have HX10:=Lib.hid (entB_below HXwd1.out hB7a);have HU10:=Lib.hid (entV_below HU7.out hB7a);clear hHeld hB8 hB9 hB10 hB79 hB7a k0 k1 x0 x1 y0 y1 hlk hlx hly HS HNE HRN;by_cases hf:F1=0
   ·obtain⟨hn,hr⟩:=HXR.out hf;subst hf;have HNX:=Lib.hid (HN1.out _ w10 HB10.out HU10.out);rw[hn]at HNX;clear hn;obtain⟨x0,x1⟩:=entB_cells HX10.out;go_wp2_with fail;refine HNX.out.mono ?_;rintro e w11 ⟨rfl,hB11⟩;have HB11:=Lib.hid (HB10.out.trans (hB11.mono HB10.out.size));have HIX:=Lib.hid (HI1.out _ w11 HB11.out (entV_below HU10.out hB11));rw[hr]at HIX;clear x0 x1 hr;obtain⟨x0,x1⟩:=entB_cells (entB_below HX10.out hB11);clear hB11;go_wp2_with fail;refine HIX.out.mono ?_;rintro e w12 ⟨rfl,hB12⟩;have HB12:=Lib.hid (HB11.out.trans (hB12.mono HB11.out.size));clear hB12 x0 x1;go_wp2_with fail;go_ret;exact⟨rfl,HB12.out⟩
   ·have qf:(F1 !=0)=true:=(by rw[bne_iff_ne];exact hf);go_wp2_with fail;go_ret;exact⟨rfl,HB10.out⟩
end etw
open Go.RowKit Go.ChangeShapes Go.WideShapes Go.Deep
namespace opn
theorem cell_spot {w:World}{b o:Nat}{sp:Option Nat}{v:Value}(h:w.cell? ⟨b,o,sp⟩=some v):sp=none:=by
 cases sp with
 | none=>rfl
 | some x=>unfold World.cell? at h;simp at h;split at h<;>cases h
theorem list_of {α:Type}{Q:Nat→α→Prop}: ∀ (n:Nat),(∀i,i<n→ ∃c,Q i c)→ ∃l:List α,l.length=n∧ ∀i (h:i<l.length),Q i l[i]:=by
 intro n;induction n with
 | zero=>intro _;exact⟨[],rfl,fun i h=>by simp at h⟩
 | succ n ih=>
  intro h;obtain⟨l,hl,hq⟩:=ih (fun i hi=>h i (by omega));obtain⟨c,hc⟩:=h n (by omega);refine⟨l++[c],by simp[hl],fun i hi=> ?_⟩;by_cases e:i<l.length
  ·rw[List.getElem_append_left e];exact hq i e
  ·have:i=n:=(by simp at hi;omega);subst this;rw[List.getElem_append_right (by omega)];simpa using hc
section
variable {H : Type} {enc : TypeId × Value → H} {P : Program} {w : World} {base : Nat} {spare : Nat → Bool} {held : Bool}
theorem open_slice_fields {t e:TypeId}{fs:Array Field}{fuel:Nat}{cs:List Value}{x:DataW H × List MemPlace}(ht:P.underlying t=some (.slice e))(he:P.underlying e=some (.struct fs))
  (hone:oneCellFields P fs=true) (hC:P.cellsOf e=fs.size) (h:DataW.trod enc P w base spare held fuel t cs=some x):
  (cs=[.slice none 0 0]∧x=(.nil,[]))∨
  ∃ (a:Addr) (len cap m:Nat) (D:Nat→DataW H) (Pl:Nat→List MemPlace),cs=[.slice (some a) len cap]∧base≤a.block∧len≤cap∧cap≤maxLen∧m=(if spare a.block then cap else len)∧
   x=(.slice ((List.range len).map D) ((List.range (m-len)).map fun j=>D (len+j)),MemPlace.row a (m*fs.size)++(List.range m).flatMap Pl)∧
   ∀i,i<m→ ∃ (ys:List (DataW H × List MemPlace)) (n:Nat),D i= .agg (ys.map (·.1))∧Pl i=ys.flatMap (·.2)∧ys.length=fs.size∧
    ∀ (j:Nat) (f:Field),fs[j]? =some f→ ∃ (v:Value) (y:DataW H × List MemPlace),w.cell? (a.add (i*fs.size+j))=some v∧ys[j]? =some y∧DataW.trod enc P w base spare held n f.type [v]=some y:=by
 rcases open_slice ht h with h0 | ⟨a,len,cap,m,n,D,Pl,hcs,hb,hl,hm,hmm,hx,hi⟩
 ·exact .inl h0
 ·refine .inr ⟨a,len,cap,m,D,Pl,hcs,hb,hl,hm,hmm,by rw[hC]at hx;exact hx,fun i him=> ?_⟩;obtain⟨cs',hc,ht'⟩:=hi i him;rw[hC]at hc;obtain⟨ys,n',hn',hy,hlen,hyl,hf⟩:=DataW.trod_struct he ht';obtain⟨_,hcl,hat⟩:=World.cells?_some hc;simp only[Prod.mk.injEq]at hy;refine⟨ys,n',hy.1,hy.2,hyl,fun j f hj=> ?_⟩;obtain⟨ho,hk⟩:=hone_of hone j f hj;have hjl:j<fs.size:=(Array.getElem?_eq_some_iff.1 hj).1;have hcell:=hat j hjl;have hv:cs'[j]? =some (cs'[j]'(by omega)):=List.getElem?_eq_getElem (by omega);have h1:=hf j f hj;rw[ho,hk]at h1;have hone':(cs'.drop j).take 1=[cs'[j]'(by omega)]:=by rw[List.drop_eq_getElem_cons (by omega)];rfl
  rw[hone']at h1;have hys:ys[j]? =some (ys[j]'(by omega)):=List.getElem?_eq_getElem (by omega);refine⟨_,_,?_,hys,h1.trans hys⟩;rw[←Go.Deep.add_add,hcell,hv]
end
end opn
open Go.RowKit Go.ChangeShapes Go.WideShapes Go.Deep
namespace dnw
theorem avas_of {H:Type}{enc:TypeId × Value→H}{w:World}{base:Nat}{sp:Nat→Bool}{held:Bool}{cs:List Value}{x:DataW H × List MemPlace}{fuel:Nat}
  (h:DataW.trod enc Tryz.prog w base sp held fuel 22 cs=some x): ∃ (ao:Option Addr) (l:List Av) (cap:Nat),cs=[.slice ao l.length cap]∧l.length≤cap∧l.length≤9223372036854775807∧Avas w ao l:=by
 rcases opn.open_slice_fields Tryz.underlying22 Tryz.underlying62 (by kernel_rfl) (by kernel_rfl) h with⟨hcs,_⟩ | ⟨a,len,cap,m,D,Pl,hcs,_,hlc,hcm,hm,_,hf⟩
 ·exact⟨none,[],0,hcs,Nat.le_refl _,by simp,fun i hi=>by simp at hi⟩
 ·have hlm:len≤m:=by rw[hm];split<;>omega
  have hlmax:len≤9223372036854775807:=by unfold maxLen at hcm;omega
  have key: ∀i,i<len→ ∃c:Av,∃b o,some a=some ⟨b,o,none⟩∧w.cell? ⟨b,o+i*2,none⟩=some (.string c.t)∧w.cell? ⟨b,o+i*2+1,none⟩=some (.string c.v):=by
   intro i hi;obtain⟨ys,n,_,_,_,hfs⟩:=hf i (by omega);obtain⟨v0,y0,c0,_,t0⟩:=hfs 0 _ rfl;obtain⟨v1,y1,c1,_,t1⟩:=hfs 1 _ rfl;obtain⟨k,e0,_⟩:=DataW.trod_string Tryz.underlying9 t0;obtain⟨y,e1,_⟩:=DataW.trod_string Tryz.underlying9 t1;simp only[List.cons.injEq,and_true]at e0 e1;subst e0 e1;have hcell: ∃b o,a=⟨b,o,none⟩:=(by obtain⟨ys0,n0,_,_,_,hfs0⟩:=hf 0 (by omega);obtain⟨v,y,c,_,_⟩:=hfs0 0 _ rfl;obtain⟨b,o,s⟩:=a;have e0:(⟨b,o,s⟩:Addr).add (0*2+0)=⟨b,o,s⟩:=(by unfold Addr.add;rfl);have hc:w.cell? ((⟨b,o,s⟩:Addr).add (0*2+0))=some v:=c;rw[e0]at hc;obtain rfl:=opn.cell_spot hc;exact⟨b,o,rfl⟩);obtain⟨b,o',rfl⟩:=hcell;have ad: ∀j,(⟨b,o',none⟩:Addr).add j=⟨b,o'+j,none⟩:=fun j=>by rw[Addr.add_mid]
   have d0:w.cell? ((⟨b,o',none⟩:Addr).add (i*2+0))=_:=c0;have d1:w.cell? ((⟨b,o',none⟩:Addr).add (i*2+1))=_:=c1;rw[ad]at d0 d1;exact⟨⟨k,y⟩,b,o',rfl,d0,by rw[Nat.add_assoc];exact d1⟩
  obtain⟨l,hl,hq⟩:=opn.list_of len key;subst hl;exact⟨some a,l,cap,hcs,hlc,hlmax,hq⟩
end dnw
open Go.RowKit
namespace tupo
open tupw
theorem cell_spot {w:World}{b o:Nat}{sp:Option Nat}{v:Value}(h:w.cell? ⟨b,o,sp⟩=some v):sp=none:=by
 cases sp with
 | none=>rfl
 | some x=>unfold World.cell? at h;simp at h;split at h<;>cases h
theorem texts_of {H:Type}{enc:TypeId × Value→H}{P:Program}{w:World}{base:Nat}{sp:Nat→Bool}{held:Bool}{t e:TypeId}{d:DataW H}{p:List MemPlace}{ao:Option Addr}{len cap:Nat}
  (ht:P.underlying t=some (.slice e)) (he:P.underlying e=some .string) (hc:P.cellsOf e=1)
  (h: ∃fuel,DataW.trod enc P w base sp held fuel t [.slice ao len cap]=some (d,p)): ∃l:List ByteArray,len=l.length∧Strs w ao l∧(∀s∈l,s.size≤maxLen)∧len≤maxLen∧len≤cap∧(ao=none→len=0∧cap=0):=by
 obtain⟨fuel,h⟩:=h;rcases ChangeShapes.open_strings ht he hc h with⟨hcs,_⟩ | ⟨a,len',cap',ss,hcs,_,hlc,hcm,hlen,_,hcell,hsm⟩
 ·simp at hcs;obtain⟨rfl,rfl,rfl⟩:=hcs;exact⟨[],rfl,fun i hi=>by simp at hi,fun s hs=>by simp at hs,by omega,by omega,fun _=>⟨rfl,rfl⟩⟩
 ·simp at hcs;obtain⟨rfl,rfl,rfl⟩:=hcs;have hle:len≤ss.length:=by rw[hlen];split<;>omega
  refine⟨ss.take len,by simp;omega,fun i hi=> ?_,fun s hs=>hsm s (List.mem_of_mem_take hs),by omega,hlc,fun e=>by simp at e⟩;have hi':i<len:=by simp at hi;omega
  have hc2:=hcell i (by omega);obtain⟨b,o,spt⟩:=a;have hsp:spt=none:=by
   cases spt with
   | none=>rfl
   | some x=>exfalso;have hz:=hcell 0 (by omega);have e0:(⟨b,o,some x⟩:Addr).add 0=⟨b,o,some x⟩:=(by unfold Addr.add;rfl);rw[e0]at hz;exact absurd (cell_spot hz) (by simp)
  subst hsp;refine⟨b,o,rfl,?_⟩;rw[Addr.add_mid]at hc2;rw[hc2,List.getElem_take];simp[List.getD,List.getElem?_eq_getElem (show i<ss.length by omega)]
end tupo
open Go.RowKit Go.ChangeShapes Go.WideShapes Go.Deep
namespace etw
open etp
open dnw (Av Avas)
open tupw (Strs)
theorem strs_any {H:Type}{enc:TypeId × Value→H}{w:World}{base:Nat}{sp:Nat→Bool}{held:Bool}{cs:List Value}{x:DataW H × List MemPlace}{fuel:Nat}
  (h:DataW.trod enc Tryz.prog w base sp held fuel 32 cs=some x): ∃ (ao:Option Addr) (l:List ByteArray) (cap:Nat),cs=[.slice ao l.length cap]∧l.length≤cap∧l.length≤9223372036854775807∧Strs w ao l:=by
 obtain⟨ao,len,cap,hcs⟩: ∃ao len cap,cs=[.slice ao len cap]:=by
  rcases ChangeShapes.open_strings Tryz.underlying32 Tryz.underlying9 (by kernel_rfl) h with⟨hcs,_⟩ | ⟨a,len',cap',ss,hcs,_⟩
  ·exact⟨_,_,_,hcs⟩
  ·exact⟨_,_,_,hcs⟩
 subst hcs;obtain⟨d,p⟩:=x;obtain⟨l,hlen,hS,_,hm,hc,_⟩:=tupo.texts_of Tryz.underlying32 Tryz.underlying9 (by kernel_rfl) ⟨fuel,h⟩;subst hlen;unfold maxLen at hm;exact⟨ao,l,cap,rfl,hc,by omega,hS⟩
theorem ats_of {H:Type}{enc:TypeId × Value→H}{w:World}{base:Nat}{sp:Nat→Bool}{held:Bool}{cs:List Value}{x:DataW H × List MemPlace}{fuel:Nat}
  (h:DataW.trod enc Tryz.prog w base sp held fuel 23 cs=some x): ∃ (ao:Option Addr) (l:List At) (cap:Nat),cs=[.slice ao l.length cap]∧l.length≤cap∧l.length≤9223372036854775807∧Ats w ao l∧ ∀a∈l,a.vs.length≤9223372036854775807:=by
 rcases opn.open_slice_fields Tryz.underlying23 Tryz.underlying57 (by kernel_rfl) (by kernel_rfl) h with⟨hcs,_⟩ | ⟨a,len,cap,m,D,Pl,hcs,_,hlc,hcm,hm,_,hf⟩
 ·exact⟨none,[],0,hcs,Nat.le_refl _,by simp,fun i hi=>by simp at hi,fun a ha=>by simp at ha⟩
 ·have hlm:len≤m:=by rw[hm];split<;>omega
  have hlmax:len≤9223372036854775807:=by unfold maxLen at hcm;omega
  have key: ∀i,i<len→ ∃c:At,(∃b o ax cx,some a=some ⟨b,o,none⟩∧w.cell? ⟨b,o+i*2,none⟩=some (.string c.t)∧w.cell? ⟨b,o+i*2+1,none⟩=some (.slice ax c.vs.length cx)∧c.vs.length≤cx∧Strs w ax c.vs)∧c.vs.length≤9223372036854775807:=by
   intro i hi;obtain⟨ys,n,_,_,_,hfs⟩:=hf i (by omega);obtain⟨v0,y0,c0,_,t0⟩:=hfs 0 _ rfl;obtain⟨v1,y1,c1,_,t1⟩:=hfs 1 _ rfl;obtain⟨k,e0,_⟩:=DataW.trod_string Tryz.underlying9 t0;obtain⟨ax,vs,cx,e1,g1,g2,g3⟩:=strs_any t1;simp only[List.cons.injEq,and_true]at e0 e1;subst e0 e1;have hcell: ∃b o,a=⟨b,o,none⟩:=(by obtain⟨ys0,n0,_,_,_,hfs0⟩:=hf 0 (by omega);obtain⟨v,y,c,_,_⟩:=hfs0 0 _ rfl;obtain⟨b,o,s⟩:=a;have e0:(⟨b,o,s⟩:Addr).add (0*2+0)=⟨b,o,s⟩:=(by unfold Addr.add;rfl);have hc:w.cell? ((⟨b,o,s⟩:Addr).add (0*2+0))=some v:=c;rw[e0]at hc;obtain rfl:=opn.cell_spot hc;exact⟨b,o,rfl⟩);obtain⟨b,o',rfl⟩:=hcell;have ad: ∀j,(⟨b,o',none⟩:Addr).add j=⟨b,o'+j,none⟩:=fun j=>by rw[Addr.add_mid]
   have d0:w.cell? ((⟨b,o',none⟩:Addr).add (i*2+0))=_:=c0;have d1:w.cell? ((⟨b,o',none⟩:Addr).add (i*2+1))=_:=c1;rw[ad]at d0 d1;exact⟨⟨k,vs⟩,⟨b,o',ax,cx,rfl,d0,by rw[Nat.add_assoc];exact d1,g1,g3⟩,g2⟩
  obtain⟨l,hl,hq⟩:=opn.list_of len key;subst hl;refine⟨some a,l,cap,hcs,hlc,hlmax,fun i hi=>(hq i hi).1,fun c hc=> ?_⟩;obtain⟨i,hi,rfl⟩:=List.mem_iff_getElem.1 hc;exact(hq i hi).2
theorem ent_of {H:Type}{enc:TypeId × Value→H}{w:World}{base:Nat}{sp:Nat→Bool}{held:Bool}{r:Reach}{b0:Nat}{v:Value}{d:DataW H}{p:List MemPlace}
  (hv:Value.okWide Tryz.prog w r b0 25 v) (h:DataW.Trod enc Tryz.prog w base sp held 25 v d p): ∃e:En,EntV w v e∧e.rdn.length≤9223372036854775807∧e.ats.length≤9223372036854775807∧ ∀a∈e.ats,a.vs.length≤9223372036854775807:=by
 obtain⟨v0,v1,y0,y1,n,rfl,_,_,h0,h1⟩:=Joins.open_agg2 Tryz.underlying25 (by kernel_rfl) (by kernel_rfl) hv h;obtain⟨ro,l,rc,e0,g0,g1,g2⟩:=dnw.avas_of h0;obtain⟨ao,m,ac,e1,k0,k1,k2,k3⟩:=ats_of h1;simp only[List.cons.injEq,and_true]at e0 e1;subst e0 e1;exact⟨⟨l,m⟩,⟨ro,rc,ao,ac,rfl,g0,k0,g2,k2⟩,g1,k1,k3⟩
theorem rdn_of {H:Type}{enc:TypeId × Value→H}{w:World}{base:Nat}{sp:Nat→Bool}{held:Bool}{d:DataW H}{p:List MemPlace}{ao:Option Addr}{len cap:Nat}
  (h: ∃fuel,DataW.trod enc Tryz.prog w base sp held fuel 22 [.slice ao len cap]=some (d,p)): ∃l:List Av,len=l.length∧Avas w ao l∧len≤cap∧len≤9223372036854775807:=by
 obtain⟨fuel,h⟩:=h;obtain⟨ao',l,cap',hcs,h1,h2,h3⟩:=dnw.avas_of h;simp only[List.cons.injEq,and_true,Value.slice.injEq]at hcs;obtain⟨rfl,rfl,rfl⟩:=hcs;exact⟨l,rfl,h3,h1,h2⟩
end etw
open Go.RowKit
namespace atw
open atp
def tyData:DataW Unit:= .agg (tys.map fun t=> .agg [.lit (.string t.name),.lit (.int .i64 t.syn),.lit (.bool t.single)])
theorem rows_take {α β:Type}(f:β→List α)(n:Nat): ∀ (l:List β) (cs:List α),(∀i (h:i<l.length),(cs.drop (i*n)).take n=f l[i])→cs.take (l.length*n)=l.flatMap f:=by
 intro l;induction l with
 | nil=>intro cs _;simp
 | cons b r ih=>intro cs h;have h0:=h 0 (by simp);rw[Nat.zero_mul,List.drop_zero]at h0;have h1:=ih (cs.drop n) (by intro i hi;have:=h (i+1) (by simp;omega);rw[List.drop_drop,show n+i*n=(i+1)*n by rw[Nat.add_mul,Nat.one_mul,Nat.add_comm]];exact this);rw[List.flatMap_cons,List.length_cons,show(r.length+1)*n=n+r.length*n by rw[Nat.add_mul,Nat.one_mul,Nat.add_comm],List.take_add,h0,h1];rfl
theorem trod_ty {H:Type}{enc:TypeId × Value→H}{w:World}{base:Nat}{sp:Nat→Bool}{held:Bool}{fuel:Nat}{cs:List Value}{q:List MemPlace}{t:Ty}
  (h:DataW.trod enc Tryz.prog w base sp held fuel 29 cs=some (.agg [.lit (.string t.name),.lit (.int .i64 t.syn),.lit (.bool t.single)],q)):cs=tval t:=by
 obtain⟨y0,y1,y2,n,hx,hl,h0,h1,h2⟩:=Deep.trod_struct3 Tryz.underlying29 h;obtain⟨s,e0,rfl,_⟩:=DataW.trod_string Tryz.underlying9 h0;obtain⟨z,e1,rfl,_⟩:=DataW.trod_int Tryz.underlying3 h1;obtain⟨b,e2,rfl⟩:=DataW.trod_bool Tryz.underlying4 h2;have hx1:=congrArg Prod.fst hx;simp only[DataW.agg.injEq,List.cons.injEq,DataW.lit.injEq,Lit.string.injEq,Lit.int.injEq,Lit.bool.injEq,true_and,and_true]at hx1;obtain⟨x0,x1,x2⟩:=hx1;have k0:Tryz.prog.cellsOf 9=1:=by kernel_rfl
 have k1:Tryz.prog.cellsOf 3=1:=by kernel_rfl
 have k2:Tryz.prog.cellsOf 4=1:=by kernel_rfl
 have k3:Tryz.prog.cellsOf 29=3:=by kernel_rfl
 rw[k3]at hl;obtain⟨a,b',c,rfl⟩: ∃a b' c,cs=[a,b',c]:=by
  match cs,hl with
  | [a,b',c],_=>exact⟨a,b',c,rfl⟩
 ·skip
  have e0':[a]=[Value.string s]:=by simpa[k0]using e0
  have e1':[b']=[Value.int .i64 z]:=by simpa[k1]using e1
  have e2':[c]=[Value.bool b]:=by simpa[k2]using e2
  cases e0';cases e1';cases e2';unfold tval bs;rw[x0,x1,x2]
theorem tyEnv_of_reads {w:World}(h:Lib.VarReads Tryz.prog w "rollbook/attr.types" tyData):Hid (TyEnv w):=by
 obtain⟨g,t,cs,fuel,p,hg,hty,hvar,hd⟩:=h;obtain rfl:=Option.some.inj ((show Tryz.prog.globalNamed "rollbook/attr.types" =some 0 by kernel_rfl).symm.trans hg);obtain rfl:=Option.some.inj ((show(Tryz.prog.globals[0]?).map (·.type)=some 152 by kernel_rfl).symm.trans hty);have k3:Tryz.prog.cellsOf 29=3:=by kernel_rfl
 have hall:=rows_take tval 3 tys cs.toList (by intro i hi;obtain⟨fuel',d,q,hdi,he⟩:=Lib.array_elem Tryz.underlying152 hd i hi;rw[List.getElem?_map,List.getElem?_eq_getElem hi]at hdi;simp only[Option.map_some,Option.some.injEq]at hdi;subst hdi;rw[k3]at he;exact trod_ty he);intro j v hj;have hlt:j<60:=by
  have h1:=(List.getElem?_eq_some_iff.1 hj).1;have h2:tcells.length=60:=by kernel_rfl
  omega
 have hj2:(cs.toList.take (tys.length*3))[j]? =some v:=by rw[hall];exact hj
 rw[List.getElem?_take,if_pos (by rw[tys_len];omega)]at hj2;rw[Nat.zero_add,World.var?_cell hg hvar j,←Array.getElem?_toList];exact hj2
end atw
end Go.Proofs.YtcolcogobdgejaaGreatDoor
