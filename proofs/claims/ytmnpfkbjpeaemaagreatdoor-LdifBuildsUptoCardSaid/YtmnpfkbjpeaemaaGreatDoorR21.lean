/- One text out of several: LbL, OpenS, ArgsW, StrsOf, EntO, LbF, TyF. -/
import Derived.Test.YtmnpfkbjpeaemaaGreatDoorR20
import Derived.Deep.Slices
import Derived.Deep.Fields
import Derived.ChangeSame
import Derived.Test.YtmnpfkbjpeaemaaGreatDoorR1
import Derived.Test.YtmnpfkbjpeaemaaGreatDoorR5
import Derived.SliceStrings
import Derived.Deep.MidRow
import Derived.Test.YtmnpfkbjpeaemaaGreatDoorR6
import Derived.Lib.SmallJoins
import Derived.Test.YtmnpfkbjpeaemaaGreatDoorR10
import Derived.Test.YtmnpfkbjpeaemaaGreatDoorRows
import Derived.Test.YtmnpfkbjpeaemaaGreatDoorR13
import Derived.Lib.LaidU8
import Derived.Deep.Strs
set_option linter.unusedVariables false
set_option linter.unusedSimpArgs false
set_option maxRecDepth 20000
set_option maxHeartbeats 8000000
namespace Go.Proofs.YtmnpfkbjpeaemaaGreatDoor
open Go.RowKit
namespace lbw
open lbp atw etp etw
open dnw (Av Avas Rdns parseV nameOK printR)
open tupw (Strs strs_below)
theorem builds21_law (nm:ByteArray)(po:Option Addr)(pc:Nat)(ps:List Av)(no:Option Addr)(nc:Nat)(n:List (List Av))(v:Value)(E:En)(w:World)(hA:Hid (Avas w po ps))(hps:ps.length≤1048576)(hN:Hid (Rdns w no n))(hl:Hid (∀l∈n,l.length≤1048576))(hv:Hid (EntV w v E))(hE:Hid (EnvE w)):
  Calls Tryz.prog 7 #[.agg #[.string nm,.slice po ps.length pc],.slice no n.length nc,v] w fun e w'=>e= .returned (.bool true)∧Below w.heap.size w w':=by
 have HAW0:Hid (∀W,Below w.heap.size w W→Calls Tryz.prog 34 #[] W fun e w'=>e= .returned (.bool true)∧Below W.heap.size W w'):=fun W _=>ldw.awake_any W;have HLG0:Hid (∀q W,RecB W q nm (.slice po ps.length pc)→Below w.heap.size w W→Calls Tryz.prog 35 #[.slice (some ⟨q,0,none⟩) 1 1] W fun e w'=>e= .returned (.bool (long21 [recOf nm ps]))∧Below W.heap.size W w'):=fun q W hq h=>long21_any _ 1 (recOf nm ps) W (Lib.hid (rdR_one hq rfl (dnw.avas_below hA.out h))) (by have:(recOf nm ps).pairs.length=ps.length:=List.length_map _;omega);have HLE0:Hid (∀W,Below w.heap.size w W→Calls Tryz.prog 18 #[v] W fun e w'=>e= .returned (.bool (longE E))∧Below W.heap.size W w'):=fun W h=>longE_any v E W (Lib.hid (entV_below hv.out h));have HAL0:Hid (n.length≤20→ ∀W,Below w.heap.size w W→Calls Tryz.prog 36 #[.slice no n.length nc] W fun e w'=>(∃ao cap,e= .returned (.slice ao n.flatten.length cap)∧EntV w' (.agg #[.slice ao n.flatten.length cap,.slice none 0 0]) ⟨n.flatten,[]⟩)∧Below W.heap.size W w'):=fun hn W h=>(all_any no nc n W (Lib.hid (dnw.rdns_below hN.out h)) hn hl).mono fun e w' ⟨ao,cap,he,ha,hc,hb⟩=>⟨⟨ao,cap,he,ao,cap,none,0,rfl,hc,Nat.le_refl _,ha,fun i hi=>absurd hi (Nat.not_lt_zero i)⟩,hb⟩;have HL20:Hid (∀x W,EntV W x ⟨n.flatten,[]⟩→Calls Tryz.prog 18 #[x] W fun e w'=>e= .returned (.bool (longE ⟨n.flatten,[]⟩))∧Below W.heap.size W w'):=fun x W h=>longE_any x _ W (Lib.hid h);have HBU0:Hid (long21 [recOf nm ps]=false→ps.length≤60→ ∀W,Below w.heap.size w W→Calls Tryz.prog 37 #[.agg #[.string nm,.slice po ps.length pc]] W fun e w'=>(∃no cap r1 n1 c1 r2 n2 c2,e= .returned (.tuple #[.slice no (bldN (bldE nm ps)).length cap,.agg #[.slice r1 n1 c1,.slice r2 n2 c2],.int .i64 (codeO (bldE nm ps))])∧Rdns w' no (bldN (bldE nm ps))∧EntV w' (.agg #[.slice r1 n1 c1,.slice r2 n2 c2]) (bldA (bldE nm ps)))∧Below W.heap.size W w'):=fun hl hk W h=>(build_any nm po pc ps W (Lib.hid (dnw.avas_below hA.out h)) (by omega) (Lib.hid (rec_small hl).2) (rec_small hl).1 (Lib.hid (envE_below hE.out h))).mono fun e w' h=>bldR_of h;have HRB0:Hid (long21 [recOf nm ps]=false→ps.length≤60→ ∀W,Below w.heap.size w W→Calls Tryz.prog 38 #[.agg #[.string nm,.slice po ps.length pc]] W fun e w'=>(∃no cap r1 n1 c1 r2 n2 c2,e= .returned (.tuple #[.slice no (bldN (bldE nm ps)).length cap,.agg #[.slice r1 n1 c1,.slice r2 n2 c2],.int .i64 (codeO (bldE nm ps))])∧Rdns w' no (bldN (bldE nm ps))∧EntV w' (.agg #[.slice r1 n1 c1,.slice r2 n2 c2]) (bldA (bldE nm ps)))∧Below W.heap.size W w'):=fun hl hk W h=>(rbuild_any nm po pc ps W (Lib.hid (dnw.avas_below hA.out h)) (by omega) (Lib.hid (rec_small hl).2) (rec_small hl).1).mono fun e w' h=>bldR_of h;have HRC0:Hid (longE E=false→n.length≤20→longE ⟨n.flatten,[]⟩=false→ ∀W,Below w.heap.size w W→Calls Tryz.prog 39 #[.slice no n.length nc,v] W fun e w'=>(∃po pc,e= .returned (.tuple #[.agg #[.string (recN (recE n E)),.slice po (recP (recE n E)).length pc],.int .i64 (codeO (recE n E))])∧Avas w' po (recP (recE n E))∧(recP (recE n E)).length≤pc)∧Below W.heap.size W w'):=fun hl hn h2 W h=>(record_any no nc n v E W (Lib.hid (dnw.rdns_below hN.out h)) (by omega) (Lib.hid fun l hl _=>flat_small h2 l hl) (Lib.hid (entV_below hv.out h)) (Lib.hid (bk_bd (longE_no hl) (by omega))) (Lib.hid (bk_pairs (longE_no hl))) (Lib.hid (envE_below hE.out h))).mono fun e w' h=>recR_of h;have HOF0:Hid (longE E=false→n.length≤20→longE ⟨n.flatten,[]⟩=false→ ∀W,Below w.heap.size w W→Calls Tryz.prog 40 #[.slice no n.length nc,v] W fun e w'=>(∃po pc,e= .returned (.tuple #[.agg #[.string (recN (recE n E)),.slice po (recP (recE n E)).length pc],.int .i64 (codeO (recE n E))])∧Avas w' po (recP (recE n E))∧(recP (recE n E)).length≤pc)∧Below W.heap.size W w'):=fun hl hn h2 W h=>(rof21_any no nc n v E W (Lib.hid (dnw.rdns_below hN.out h)) (by omega) (Lib.hid fun l hl _=>flat_small h2 l hl) (Lib.hid (entV_below hv.out h)) (Lib.hid (bk_bd (longE_no hl) (by omega))) (Lib.hid (bk_pairs (longE_no hl)))).mono fun e w' h=>recR_of h;have HBS:Hid (ps.length≤60→(bldN (bldE nm ps)).length≤1000∧(∀l∈bldN (bldE nm ps),l.length≤1000)∧Bd (bldA (bldE nm ps))):=fun h=>bld_small nm ps (by omega);have HEQ0:Hid (ps.length≤60→ ∀ao bo ca cb W,Rdns W ao (bldN (bldE nm ps))→Rdns W bo (bldN (bldE nm ps))→Calls Tryz.prog 41 #[.slice ao (bldN (bldE nm ps)).length ca,.slice bo (bldN (bldE nm ps)).length cb] W fun e w'=>e= .returned (.bool true)∧Below W.heap.size W w'):=fun h ao bo ca cb W h1 h2=>(dnw.equal_any ao bo ca cb _ _ W (Lib.hid h1) (Lib.hid h2) (HBS.out h).1 (HBS.out h).1 (Lib.hid (HBS.out h).2.1) (Lib.hid (HBS.out h).2.1)).mono fun e w' ⟨hb,r,he,hr⟩=>⟨by rw[he,hr.2 rfl],hb⟩;have HS70:Hid (ps.length≤60→ ∀x y W,EntV W x (bldA (bldE nm ps))→EntV W y (bldA (bldE nm ps))→Calls Tryz.prog 16 #[x,y] W fun e w'=>e= .returned (.bool true)∧Below W.heap.size W w'):=fun h x y W h1 h2=>same17_eq x y _ W (Lib.hid h1) (Lib.hid h2) (Lib.hid (HBS.out h).2.2);have HS10:Hid (longE E=false→ ∀q1 q2 po1 po2 pc1 pc2 W,RecB W q1 (recN (recE n E)) (.slice po1 (recP (recE n E)).length pc1)→RecB W q2 (recN (recE n E)) (.slice po2 (recP (recE n E)).length pc2)→Avas W po1 (recP (recE n E))→Avas W po2 (recP (recE n E))→Calls Tryz.prog 42 #[.slice (some ⟨q1,0,none⟩) 1 1,.slice (some ⟨q2,0,none⟩) 1 1] W fun e w'=>e= .returned (.bool true)∧Below W.heap.size W w'):=fun hl q1 q2 po1 po2 pc1 pc2 W h1 h2 h3 h4=>ldw.same_eq _ _ 1 1 1 [recOf (recN (recE n E)) (recP (recE n E))] W (Lib.hid rfl) (Lib.hid (rdR_one h1 rfl h3)) (Lib.hid (rdR_one h2 rfl h4)) (by omega) (Lib.hid fun r hr=>by
  rw[List.mem_singleton.1 hr];have e:(recOf (recN (recE n E)) (recP (recE n E))).pairs.length=(recP (recE n E)).length:=List.length_map _;rw[e];cases hq:recE n E with
  | error f=>exact Nat.zero_le _
  | ok x=>obtain⟨_,_,_,_,_,h6⟩:=rec_ok (nm:=x.1) (ps:=x.2) hq;show x.2.length≤1000000;rw[h6];exact bk_pairs (longE_no hl))
 generalize long21 [recOf nm ps]=lg at HLG0 HBU0 HRB0;generalize longE ⟨n.flatten,[]⟩=l2 at HL20 HRC0 HOF0;generalize longE E=le at HLE0 HRC0 HOF0 HS10;generalize bldN (bldE nm ps)=BN at HBU0 HRB0 HEQ0;generalize bldA (bldE nm ps)=BA at HBU0 HRB0 HS70;generalize codeO (bldE nm ps)=bc at HBU0 HRB0;generalize recN (recE n E)=RN at HRC0 HOF0 HS10;generalize recP (recE n E)=RP at HRC0 HOF0 HS10;generalize codeO (recE n E)=rcd at HRC0 HOF0;generalize BN.length=bnl at HBU0 HRB0 HEQ0;generalize hRPL:RP.length=rpl at HRC0 HOF0 HS10;generalize n.flatten.length=fl at HAL0;obtain⟨K,hK⟩: ∃k,ps.length=k:=⟨_,rfl⟩;rw[hK]at HLG0 HBU0 HRB0 HEQ0 HS70 hps ⊢;obtain⟨M,hM⟩: ∃k,n.length=k:=⟨_,rfl⟩;rw[hM]at HAL0 HRC0 HOF0 ⊢;obtain⟨ro,rc,ao,ac,Nr,N,rfl,HN,HA,hac,HNr,HAv,hrc⟩:=ent_form hv.out;clear hK hM hN hl hv hE HBS hA HN HA hac HNr HAv hrc hRPL;obtain⟨w1,hw1⟩: ∃W,w.alloc (.cells #[.string nm,.slice po K pc] 54)=W:=⟨_,rfl⟩;have hB1:Below w.heap.size w w1:=by rw[←hw1];exact(Below.refl _ _).alloc (Nat.le_refl _) _
 obtain⟨p,hp⟩: ∃q,w.heap.size=q:=⟨_,rfl⟩;have hR1:RecB w1 p nm (.slice po K pc):=by rw[←hw1,←hp];exact recB_new _ _ _
 obtain⟨w2,hw2⟩: ∃W,w1.alloc (.cells #[.slice ro Nr rc,.slice ao N ac] 26)=W:=⟨_,rfl⟩;have hB2:Below w1.heap.size w1 w2:=by rw[←hw2];exact(Below.refl _ _).alloc (Nat.le_refl _) _
 obtain⟨g,hg⟩: ∃q,w1.heap.size=q:=⟨_,rfl⟩;have HE2:Hid (EntB w2 g (.slice ro Nr rc) (.slice ao N ac)):=by rw[←hw2,←hg];exact entB_new _ _ _
 have HR2:=Lib.hid (recB_below hR1 hB2);have HB2:=Lib.hid (hB1.trans (hB2.mono hB1.size));obtain⟨k0,k1⟩:=recB_cells HR2.out;obtain⟨e0,e1⟩:=entB_cells HE2.out;clear hB1 hB2 hR1;go_enter Tryz.func7,Tryz.ntmps7;go_wp2_with fail;clear hw1 hw2 hp hg;refine(HAW0.out w2 HB2.out).mono ?_;rintro e w3 ⟨rfl,hBc⟩;have HB3:=Lib.hid (HB2.out.trans (hBc.mono HB2.out.size));have HR3:=Lib.hid (recB_below HR2.out hBc);have HE3:=Lib.hid (entB_below HE2.out hBc);clear hBc k0 k1 e0 e1;obtain⟨k0,k1⟩:=recB_cells HR3.out;obtain⟨e0,e1⟩:=entB_cells HE3.out;obtain⟨w4,hw4⟩: ∃W,w3.alloc (.cells #[.string nm,.slice po K pc] 54)=W:=⟨_,rfl⟩;have hBc:Below w3.heap.size w3 w4:=by rw[←hw4];exact(Below.refl _ _).alloc (Nat.le_refl _) _
 obtain⟨q3,hq3⟩: ∃q,w3.heap.size=q:=⟨_,rfl⟩;have HX4:Hid (RecB w4 q3 nm (.slice po K pc)):=by rw[←hw4,←hq3];exact recB_new _ _ _
 have HB4:=Lib.hid (HB3.out.trans (hBc.mono HB3.out.size));have HR4:=Lib.hid (recB_below HR3.out hBc);have HE4:=Lib.hid (entB_below HE3.out hBc);clear hBc;go_wp2_with fail;clear hw4 hq3;refine(HLG0.out q3 w4 HX4.out HB4.out).mono ?_;rintro e w5 ⟨rfl,hBc⟩;have HB5:=Lib.hid (HB4.out.trans (hBc.mono HB4.out.size));have HR5:=Lib.hid (recB_below HR4.out hBc);have HE5:=Lib.hid (entB_below HE4.out hBc);clear hBc k0 k1 e0 e1;obtain⟨k0,k1⟩:=recB_cells HR5.out;obtain⟨e0,e1⟩:=entB_cells HE5.out;cases lg with
 | true=>go_wp2_with fail;go_ret;exact⟨rfl,HB5.out⟩
 | false=>
  have HBU1:=Lib.hid (HBU0.out rfl);have HRB1:=Lib.hid (HRB0.out rfl);clear HBU0 HRB0 HLG0 HX4;by_cases hK60:K≤60
  ·have hKI: ¬ (60:Int)<(K:Int):=(by omega);have HBU:=Lib.hid (HBU1.out hK60);have HRB:=Lib.hid (HRB1.out hK60);have HEQ:=Lib.hid (HEQ0.out hK60);have HS7:=Lib.hid (HS70.out hK60);clear HBU1 HRB1 HEQ0 HS70 hK60;go_wp2_with fail;refine(HLE0.out w5 HB5.out).mono ?_;rintro e w6 ⟨rfl,hBc⟩;have HB6:=Lib.hid (HB5.out.trans (hBc.mono HB5.out.size));have HR6:=Lib.hid (recB_below HR5.out hBc);have HE6:=Lib.hid (entB_below HE5.out hBc);clear hBc k0 k1 e0 e1;obtain⟨k0,k1⟩:=recB_cells HR6.out;obtain⟨e0,e1⟩:=entB_cells HE6.out;cases le with
   | true=>go_wp2_with fail;go_ret;exact⟨rfl,HB6.out⟩
   | false=>
    have HRC1:=Lib.hid (HRC0.out rfl);have HOF1:=Lib.hid (HOF0.out rfl);have HS1:=Lib.hid (HS10.out rfl);clear HRC0 HOF0 HS10 HLE0;by_cases hM20:M≤20
    ·have hMI: ¬ (20:Int)<(M:Int):=(by omega);have HAL:=Lib.hid (HAL0.out hM20);have HRC2:=Lib.hid (HRC1.out hM20);have HOF2:=Lib.hid (HOF1.out hM20);clear HAL0 HRC1 HOF1 hM20;go_wp2_with fail;refine(HAL.out w6 HB6.out).mono ?_;rintro e w7 ⟨⟨fo,fc,rfl,hFV⟩,hBc⟩;have HB7:=Lib.hid (HB6.out.trans (hBc.mono HB6.out.size));have HR7:=Lib.hid (recB_below HR6.out hBc);have HE7:=Lib.hid (entB_below HE6.out hBc);have HFV:=Lib.hid hFV;clear hFV;clear hBc k0 k1 e0 e1;obtain⟨k0,k1⟩:=recB_cells HR7.out;obtain⟨e0,e1⟩:=entB_cells HE7.out;go_wp2_with fail;refine(HL20.out _ w7 HFV.out).mono ?_;rintro e w8 ⟨rfl,hBc⟩;have HB8:=Lib.hid (HB7.out.trans (hBc.mono HB7.out.size));have HR8:=Lib.hid (recB_below HR7.out hBc);have HE8:=Lib.hid (entB_below HE7.out hBc);clear HFV;clear hBc k0 k1 e0 e1;obtain⟨k0,k1⟩:=recB_cells HR8.out;obtain⟨e0,e1⟩:=entB_cells HE8.out;cases l2 with
     | true=>go_wp2_with fail;go_ret;exact⟨rfl,HB8.out⟩
     | false=>have HRC:=Lib.hid (HRC2.out rfl);have HOF:=Lib.hid (HOF2.out rfl);clear HRC2 HOF2 HAL HL20;go_wp2_with fail;refine(HBU.out w8 HB8.out).mono ?_;rintro e w9 ⟨⟨no1,cn1,r1,n1,c1,r2,n2,c2,rfl,hN1,hV1⟩,hBc⟩;have HB9:=Lib.hid (HB8.out.trans (hBc.mono HB8.out.size));have HR9:=Lib.hid (recB_below HR8.out hBc);have HE9:=Lib.hid (entB_below HE8.out hBc);have HN9:=Lib.hid hN1;have HV9:=Lib.hid hV1;clear hN1 hV1;clear hBc k0 k1 e0 e1;obtain⟨k0,k1⟩:=recB_cells HR9.out;obtain⟨e0,e1⟩:=entB_cells HE9.out;obtain⟨w10,hw10⟩: ∃W,w9.alloc (.cells #[.slice r1 n1 c1,.slice r2 n2 c2] 26)=W:=⟨_,rfl⟩;have hBc:Below w9.heap.size w9 w10:=(by rw[←hw10];exact(Below.refl _ _).alloc (Nat.le_refl _) _);obtain⟨q1,hq1⟩: ∃q,w9.heap.size=q:=⟨_,rfl⟩;have HQ10:Hid (EntB w10 q1 (.slice r1 n1 c1) (.slice r2 n2 c2)):=(by rw[←hw10,←hq1];exact entB_new _ _ _);have HB10:=Lib.hid (HB9.out.trans (hBc.mono HB9.out.size));have HR10:=Lib.hid (recB_below HR9.out hBc);have HE10:=Lib.hid (entB_below HE9.out hBc);have HN10:=Lib.hid (dnw.rdns_below HN9.out hBc);have HV10:=Lib.hid (entV_below HV9.out hBc);clear hBc;obtain⟨k0b,k1b⟩:=recB_cells HR10.out;obtain⟨e0b,e1b⟩:=entB_cells HE10.out;go_wp2_with fail;clear hw10 hq1 k0b k1b e0b e1b;refine(HRB.out w10 HB10.out).mono ?_;rintro e w11 ⟨⟨no2,cn2,s1,m1,d1,s2,m2,d2,rfl,hN2,hV2⟩,hBc⟩;have HB11:=Lib.hid (HB10.out.trans (hBc.mono HB10.out.size));have HR11:=Lib.hid (recB_below HR10.out hBc);have HE11:=Lib.hid (entB_below HE10.out hBc);have HN11:=Lib.hid (dnw.rdns_below HN10.out hBc);have HV11:=Lib.hid (entV_below HV10.out hBc);have HQ11:=Lib.hid (entB_below HQ10.out hBc);have HP11:=Lib.hid hN2;have HW11:=Lib.hid hV2;clear hN2 hV2;clear hBc k0 k1 e0 e1;obtain⟨k0,k1⟩:=recB_cells HR11.out;obtain⟨e0,e1⟩:=entB_cells HE11.out;obtain⟨w12,hw12⟩: ∃W,w11.alloc (.cells #[.slice s1 m1 d1,.slice s2 m2 d2] 26)=W:=⟨_,rfl⟩;have hBc:Below w11.heap.size w11 w12:=(by rw[←hw12];exact(Below.refl _ _).alloc (Nat.le_refl _) _);obtain⟨q2,hq2⟩: ∃q,w11.heap.size=q:=⟨_,rfl⟩;have HY12:Hid (EntB w12 q2 (.slice s1 m1 d1) (.slice s2 m2 d2)):=(by rw[←hw12,←hq2];exact entB_new _ _ _);have HB12:=Lib.hid (HB11.out.trans (hBc.mono HB11.out.size));have HR12:=Lib.hid (recB_below HR11.out hBc);have HE12:=Lib.hid (entB_below HE11.out hBc);have HN12:=Lib.hid (dnw.rdns_below HN11.out hBc);have HV12:=Lib.hid (entV_below HV11.out hBc);have HQ12:=Lib.hid (entB_below HQ11.out hBc);have HP12:=Lib.hid (dnw.rdns_below HP11.out hBc);have HW12:=Lib.hid (entV_below HW11.out hBc);clear hBc;obtain⟨k0b,k1b⟩:=recB_cells HR12.out;obtain⟨e0b,e1b⟩:=entB_cells HE12.out;go_wp2_with fail;clear hw12 hq2 k0b k1b e0b e1b;refine(HRC.out w12 HB12.out).mono ?_;rintro e w13 ⟨⟨po1,pc1,rfl,hA1,hc1⟩,hBc⟩;have HB13:=Lib.hid (HB12.out.trans (hBc.mono HB12.out.size));have HR13:=Lib.hid (recB_below HR12.out hBc);have HE13:=Lib.hid (entB_below HE12.out hBc);have HN13:=Lib.hid (dnw.rdns_below HN12.out hBc);have HV13:=Lib.hid (entV_below HV12.out hBc);have HQ13:=Lib.hid (entB_below HQ12.out hBc);have HP13:=Lib.hid (dnw.rdns_below HP12.out hBc);have HW13:=Lib.hid (entV_below HW12.out hBc);have HY13:=Lib.hid (entB_below HY12.out hBc);have HA13:=Lib.hid hA1;clear hA1;clear hBc k0 k1 e0 e1;obtain⟨k0,k1⟩:=recB_cells HR13.out;obtain⟨e0,e1⟩:=entB_cells HE13.out;obtain⟨w14,hw14⟩: ∃W,w13.alloc (.cells #[.string RN,.slice po1 rpl pc1] 54)=W:=⟨_,rfl⟩;have hBc:Below w13.heap.size w13 w14:=(by rw[←hw14];exact(Below.refl _ _).alloc (Nat.le_refl _) _);obtain⟨q3',hq3'⟩: ∃q,w13.heap.size=q:=⟨_,rfl⟩;have HZ14:Hid (RecB w14 q3' RN (.slice po1 rpl pc1)):=(by rw[←hw14,←hq3'];exact recB_new _ _ _);have HB14:=Lib.hid (HB13.out.trans (hBc.mono HB13.out.size));have HR14:=Lib.hid (recB_below HR13.out hBc);have HE14:=Lib.hid (entB_below HE13.out hBc);have HN14:=Lib.hid (dnw.rdns_below HN13.out hBc);have HV14:=Lib.hid (entV_below HV13.out hBc);have HQ14:=Lib.hid (entB_below HQ13.out hBc);have HP14:=Lib.hid (dnw.rdns_below HP13.out hBc);have HW14:=Lib.hid (entV_below HW13.out hBc);have HY14:=Lib.hid (entB_below HY13.out hBc);have HA14:=Lib.hid (dnw.avas_below HA13.out hBc);clear hBc;obtain⟨k0b,k1b⟩:=recB_cells HR14.out;obtain⟨e0b,e1b⟩:=entB_cells HE14.out;go_wp2_with fail;clear hw14 hq3' k0b k1b e0b e1b;refine(HOF.out w14 HB14.out).mono ?_;rintro e w15 ⟨⟨po2,pc2,rfl,hA2,hc2⟩,hBc⟩;have HB15:=Lib.hid (HB14.out.trans (hBc.mono HB14.out.size));have HR15:=Lib.hid (recB_below HR14.out hBc);have HE15:=Lib.hid (entB_below HE14.out hBc);have HN15:=Lib.hid (dnw.rdns_below HN14.out hBc);have HV15:=Lib.hid (entV_below HV14.out hBc);have HQ15:=Lib.hid (entB_below HQ14.out hBc);have HP15:=Lib.hid (dnw.rdns_below HP14.out hBc);have HW15:=Lib.hid (entV_below HW14.out hBc);have HY15:=Lib.hid (entB_below HY14.out hBc);have HA15:=Lib.hid (dnw.avas_below HA14.out hBc);have HZ15:=Lib.hid (recB_below HZ14.out hBc);have HC15:=Lib.hid hA2;clear hA2;clear hBc k0 k1 e0 e1;obtain⟨k0,k1⟩:=recB_cells HR15.out;obtain⟨e0,e1⟩:=entB_cells HE15.out;obtain⟨w16,hw16⟩: ∃W,w15.alloc (.cells #[.string RN,.slice po2 rpl pc2] 54)=W:=⟨_,rfl⟩;have hBc:Below w15.heap.size w15 w16:=(by rw[←hw16];exact(Below.refl _ _).alloc (Nat.le_refl _) _);obtain⟨q4,hq4⟩: ∃q,w15.heap.size=q:=⟨_,rfl⟩;have HD16:Hid (RecB w16 q4 RN (.slice po2 rpl pc2)):=(by rw[←hw16,←hq4];exact recB_new _ _ _);have HB16:=Lib.hid (HB15.out.trans (hBc.mono HB15.out.size));have HR16:=Lib.hid (recB_below HR15.out hBc);have HE16:=Lib.hid (entB_below HE15.out hBc);have HN16:=Lib.hid (dnw.rdns_below HN15.out hBc);have HV16:=Lib.hid (entV_below HV15.out hBc);have HQ16:=Lib.hid (entB_below HQ15.out hBc);have HP16:=Lib.hid (dnw.rdns_below HP15.out hBc);have HW16:=Lib.hid (entV_below HW15.out hBc);have HY16:=Lib.hid (entB_below HY15.out hBc);have HA16:=Lib.hid (dnw.avas_below HA15.out hBc);have HZ16:=Lib.hid (recB_below HZ15.out hBc);have HC16:=Lib.hid (dnw.avas_below HC15.out hBc);clear hBc;obtain⟨k0b,k1b⟩:=recB_cells HR16.out;obtain⟨e0b,e1b⟩:=entB_cells HE16.out;go_wp2_with fail;clear hw16 hq4 k0b k1b e0b e1b;refine(HEQ.out _ _ _ _ w16 HN16.out HP16.out).mono ?_;rintro e w17 ⟨rfl,hBc⟩;have HB17:=Lib.hid (HB16.out.trans (hBc.mono HB16.out.size));have HR17:=Lib.hid (recB_below HR16.out hBc);have HE17:=Lib.hid (entB_below HE16.out hBc);have HN17:=Lib.hid (dnw.rdns_below HN16.out hBc);have HV17:=Lib.hid (entV_below HV16.out hBc);have HQ17:=Lib.hid (entB_below HQ16.out hBc);have HP17:=Lib.hid (dnw.rdns_below HP16.out hBc);have HW17:=Lib.hid (entV_below HW16.out hBc);have HY17:=Lib.hid (entB_below HY16.out hBc);have HA17:=Lib.hid (dnw.avas_below HA16.out hBc);have HZ17:=Lib.hid (recB_below HZ16.out hBc);have HC17:=Lib.hid (dnw.avas_below HC16.out hBc);have HD17:=Lib.hid (recB_below HD16.out hBc);obtain⟨x0,x1⟩:=entB_cells HQ17.out;obtain⟨y0,y1⟩:=entB_cells HY17.out;clear hBc k0 k1 e0 e1;obtain⟨k0,k1⟩:=recB_cells HR17.out;obtain⟨e0,e1⟩:=entB_cells HE17.out;go_wp2_with fail;clear x0 x1 y0 y1;refine(HS7.out _ _ w17 HV17.out HW17.out).mono ?_;rintro e w18 ⟨rfl,hBc⟩;have HB18:=Lib.hid (HB17.out.trans (hBc.mono HB17.out.size));have HR18:=Lib.hid (recB_below HR17.out hBc);have HE18:=Lib.hid (entB_below HE17.out hBc);have HN18:=Lib.hid (dnw.rdns_below HN17.out hBc);have HV18:=Lib.hid (entV_below HV17.out hBc);have HQ18:=Lib.hid (entB_below HQ17.out hBc);have HP18:=Lib.hid (dnw.rdns_below HP17.out hBc);have HW18:=Lib.hid (entV_below HW17.out hBc);have HY18:=Lib.hid (entB_below HY17.out hBc);have HA18:=Lib.hid (dnw.avas_below HA17.out hBc);have HZ18:=Lib.hid (recB_below HZ17.out hBc);have HC18:=Lib.hid (dnw.avas_below HC17.out hBc);have HD18:=Lib.hid (recB_below HD17.out hBc);obtain⟨z0,z1⟩:=recB_cells HZ18.out;clear hBc k0 k1 e0 e1;obtain⟨k0,k1⟩:=recB_cells HR18.out;obtain⟨e0,e1⟩:=entB_cells HE18.out;obtain⟨w19,hw19⟩: ∃W,w18.alloc (.cells #[.string RN,.slice po1 rpl pc1] 54)=W:=⟨_,rfl⟩;have hBc:Below w18.heap.size w18 w19:=(by rw[←hw19];exact(Below.refl _ _).alloc (Nat.le_refl _) _);obtain⟨q5,hq5⟩: ∃q,w18.heap.size=q:=⟨_,rfl⟩;have HF19:Hid (RecB w19 q5 RN (.slice po1 rpl pc1)):=(by rw[←hw19,←hq5];exact recB_new _ _ _);have HB19:=Lib.hid (HB18.out.trans (hBc.mono HB18.out.size));have HR19:=Lib.hid (recB_below HR18.out hBc);have HE19:=Lib.hid (entB_below HE18.out hBc);have HN19:=Lib.hid (dnw.rdns_below HN18.out hBc);have HV19:=Lib.hid (entV_below HV18.out hBc);have HQ19:=Lib.hid (entB_below HQ18.out hBc);have HP19:=Lib.hid (dnw.rdns_below HP18.out hBc);have HW19:=Lib.hid (entV_below HW18.out hBc);have HY19:=Lib.hid (entB_below HY18.out hBc);have HA19:=Lib.hid (dnw.avas_below HA18.out hBc);have HZ19:=Lib.hid (recB_below HZ18.out hBc);have HC19:=Lib.hid (dnw.avas_below HC18.out hBc);have HD19:=Lib.hid (recB_below HD18.out hBc);obtain⟨y0,y1⟩:=recB_cells HD19.out;clear hBc;obtain⟨w20,hw20⟩: ∃W,w19.alloc (.cells #[.string RN,.slice po2 rpl pc2] 54)=W:=⟨_,rfl⟩;have hBc:Below w19.heap.size w19 w20:=(by rw[←hw20];exact(Below.refl _ _).alloc (Nat.le_refl _) _);obtain⟨q6,hq6⟩: ∃q,w19.heap.size=q:=⟨_,rfl⟩;have HG20:Hid (RecB w20 q6 RN (.slice po2 rpl pc2)):=(by rw[←hw20,←hq6];exact recB_new _ _ _);have HB20:=Lib.hid (HB19.out.trans (hBc.mono HB19.out.size));have HR20:=Lib.hid (recB_below HR19.out hBc);have HE20:=Lib.hid (entB_below HE19.out hBc);have HN20:=Lib.hid (dnw.rdns_below HN19.out hBc);have HV20:=Lib.hid (entV_below HV19.out hBc);have HQ20:=Lib.hid (entB_below HQ19.out hBc);have HP20:=Lib.hid (dnw.rdns_below HP19.out hBc);have HW20:=Lib.hid (entV_below HW19.out hBc);have HY20:=Lib.hid (entB_below HY19.out hBc);have HA20:=Lib.hid (dnw.avas_below HA19.out hBc);have HZ20:=Lib.hid (recB_below HZ19.out hBc);have HC20:=Lib.hid (dnw.avas_below HC19.out hBc);have HD20:=Lib.hid (recB_below HD19.out hBc);have HF20:=Lib.hid (recB_below HF19.out hBc);clear hBc;go_wp2_with fail;clear hw19 hq5 hw20 hq6 z0 z1 y0 y1;refine(HS1.out q5 q6 po1 po2 pc1 pc2 w20 HF20.out HG20.out HA20.out HC20.out).mono ?_;rintro e w21 ⟨rfl,hBc⟩;have HB21:=Lib.hid (HB20.out.trans (hBc.mono HB20.out.size));have HR21:=Lib.hid (recB_below HR20.out hBc);have HE21:=Lib.hid (entB_below HE20.out hBc);have HN21:=Lib.hid (dnw.rdns_below HN20.out hBc);have HV21:=Lib.hid (entV_below HV20.out hBc);have HQ21:=Lib.hid (entB_below HQ20.out hBc);have HP21:=Lib.hid (dnw.rdns_below HP20.out hBc);have HW21:=Lib.hid (entV_below HW20.out hBc);have HY21:=Lib.hid (entB_below HY20.out hBc);have HA21:=Lib.hid (dnw.avas_below HA20.out hBc);have HZ21:=Lib.hid (recB_below HZ20.out hBc);have HC21:=Lib.hid (dnw.avas_below HC20.out hBc);have HD21:=Lib.hid (recB_below HD20.out hBc);have HF21:=Lib.hid (recB_below HF20.out hBc);clear hBc k0 k1 e0 e1;go_wp2_with fail;go_ret;exact⟨rfl,HB21.out⟩
    ·have hMI:(20:Int)<(M:Int):=(by omega);go_wp2_with fail;go_ret;exact⟨rfl,HB6.out⟩
  ·have hKI:(60:Int)<(K:Int):=(by omega);go_wp2_with fail;go_ret;exact⟨rfl,HB5.out⟩
end lbw
open Go.RowKit Go.ChangeShapes Go.WideShapes Go.Deep
namespace opn
theorem cell_spot {w:World}{b o:Nat}{sp:Option Nat}{v:Value}(h:w.cell? ⟨b,o,sp⟩=some v):sp=none:=by
 cases sp with
 | none=>rfl
 | some x=>unfold World.cell? at h;simp at h;split at h<;>cases h
theorem list_of {α:Type}{Q:Nat→α→Prop}: ∀ (n:Nat),(∀i,i<n→ ∃c,Q i c)→ ∃l:List α,l.length=n∧ ∀i (h:i<l.length),Q i l[i]:=by
 intro n;induction n with
 | zero=>intro _;exact⟨[],rfl,fun i h=>by simp at h⟩
 | succ n ih=>
  intro h;obtain⟨l,hl,hq⟩:=ih (fun i hi=>h i (by omega));obtain⟨c,hc⟩:=h n (by omega);refine⟨l++[c],by simp[hl],fun i hi=> ?_⟩;by_cases e:i<l.length
  ·rw[List.getElem_append_left e];exact hq i e
  ·have:i=n:=(by simp at hi;omega);subst this;rw[List.getElem_append_right (by omega)];simpa using hc
section
variable {H : Type} {enc : TypeId × Value → H} {P : Program} {w : World} {base : Nat} {spare : Nat → Bool} {held : Bool}
theorem open_slice_fields {t e:TypeId}{fs:Array Field}{fuel:Nat}{cs:List Value}{x:DataW H × List MemPlace}(ht:P.underlying t=some (.slice e))(he:P.underlying e=some (.struct fs))
  (hone:oneCellFields P fs=true) (hC:P.cellsOf e=fs.size) (h:DataW.trod enc P w base spare held fuel t cs=some x):
  (cs=[.slice none 0 0]∧x=(.nil,[]))∨
  ∃ (a:Addr) (len cap m:Nat) (D:Nat→DataW H) (Pl:Nat→List MemPlace),cs=[.slice (some a) len cap]∧base≤a.block∧len≤cap∧cap≤maxLen∧m=(if spare a.block then cap else len)∧
   x=(.slice ((List.range len).map D) ((List.range (m-len)).map fun j=>D (len+j)),MemPlace.row a (m*fs.size)++(List.range m).flatMap Pl)∧
   ∀i,i<m→ ∃ (ys:List (DataW H × List MemPlace)) (n:Nat),D i= .agg (ys.map (·.1))∧Pl i=ys.flatMap (·.2)∧ys.length=fs.size∧
    ∀ (j:Nat) (f:Field),fs[j]? =some f→ ∃ (v:Value) (y:DataW H × List MemPlace),w.cell? (a.add (i*fs.size+j))=some v∧ys[j]? =some y∧DataW.trod enc P w base spare held n f.type [v]=some y:=by
 rcases open_slice ht h with h0 | ⟨a,len,cap,m,n,D,Pl,hcs,hb,hl,hm,hmm,hx,hi⟩
 ·exact .inl h0
 ·refine .inr ⟨a,len,cap,m,D,Pl,hcs,hb,hl,hm,hmm,by rw[hC]at hx;exact hx,fun i him=> ?_⟩;obtain⟨cs',hc,ht'⟩:=hi i him;rw[hC]at hc;obtain⟨ys,n',hn',hy,hlen,hyl,hf⟩:=DataW.trod_struct he ht';obtain⟨_,hcl,hat⟩:=World.cells?_some hc;simp only[Prod.mk.injEq]at hy;refine⟨ys,n',hy.1,hy.2,hyl,fun j f hj=> ?_⟩;obtain⟨ho,hk⟩:=hone_of hone j f hj;have hjl:j<fs.size:=(Array.getElem?_eq_some_iff.1 hj).1;have hcell:=hat j hjl;have hv:cs'[j]? =some (cs'[j]'(by omega)):=List.getElem?_eq_getElem (by omega);have h1:=hf j f hj;rw[ho,hk]at h1;have hone':(cs'.drop j).take 1=[cs'[j]'(by omega)]:=by rw[List.drop_eq_getElem_cons (by omega)];rfl
  rw[hone']at h1;have hys:ys[j]? =some (ys[j]'(by omega)):=List.getElem?_eq_getElem (by omega);refine⟨_,_,?_,hys,h1.trans hys⟩;rw[←Go.Deep.add_add,hcell,hv]
end
end opn
open Go.RowKit Go.ChangeShapes Go.WideShapes Go.Deep
namespace dnw
theorem avas_of {H:Type}{enc:TypeId × Value→H}{w:World}{base:Nat}{sp:Nat→Bool}{held:Bool}{cs:List Value}{x:DataW H × List MemPlace}{fuel:Nat}
  (h:DataW.trod enc Tryz.prog w base sp held fuel 23 cs=some x): ∃ (ao:Option Addr) (l:List Av) (cap:Nat),cs=[.slice ao l.length cap]∧l.length≤cap∧l.length≤9223372036854775807∧Avas w ao l:=by
 rcases opn.open_slice_fields Tryz.underlying23 Tryz.underlying51 (by kernel_rfl) (by kernel_rfl) h with⟨hcs,_⟩ | ⟨a,len,cap,m,D,Pl,hcs,_,hlc,hcm,hm,_,hf⟩
 ·exact⟨none,[],0,hcs,Nat.le_refl _,by simp,fun i hi=>by simp at hi⟩
 ·have hlm:len≤m:=by rw[hm];split<;>omega
  have hlmax:len≤9223372036854775807:=by unfold maxLen at hcm;omega
  have key: ∀i,i<len→ ∃c:Av,∃b o,some a=some ⟨b,o,none⟩∧w.cell? ⟨b,o+i*2,none⟩=some (.string c.t)∧w.cell? ⟨b,o+i*2+1,none⟩=some (.string c.v):=by
   intro i hi;obtain⟨ys,n,_,_,_,hfs⟩:=hf i (by omega);obtain⟨v0,y0,c0,_,t0⟩:=hfs 0 _ rfl;obtain⟨v1,y1,c1,_,t1⟩:=hfs 1 _ rfl;obtain⟨k,e0,_⟩:=DataW.trod_string Tryz.underlying9 t0;obtain⟨y,e1,_⟩:=DataW.trod_string Tryz.underlying9 t1;simp only[List.cons.injEq,and_true]at e0 e1;subst e0 e1;have hcell: ∃b o,a=⟨b,o,none⟩:=(by obtain⟨ys0,n0,_,_,_,hfs0⟩:=hf 0 (by omega);obtain⟨v,y,c,_,_⟩:=hfs0 0 _ rfl;obtain⟨b,o,s⟩:=a;have e0:(⟨b,o,s⟩:Addr).add (0*2+0)=⟨b,o,s⟩:=(by unfold Addr.add;rfl);have hc:w.cell? ((⟨b,o,s⟩:Addr).add (0*2+0))=some v:=c;rw[e0]at hc;obtain rfl:=opn.cell_spot hc;exact⟨b,o,rfl⟩);obtain⟨b,o',rfl⟩:=hcell;have ad: ∀j,(⟨b,o',none⟩:Addr).add j=⟨b,o'+j,none⟩:=fun j=>by rw[Addr.add_mid]
   have d0:w.cell? ((⟨b,o',none⟩:Addr).add (i*2+0))=_:=c0;have d1:w.cell? ((⟨b,o',none⟩:Addr).add (i*2+1))=_:=c1;rw[ad]at d0 d1;exact⟨⟨k,y⟩,b,o',rfl,d0,by rw[Nat.add_assoc];exact d1⟩
  obtain⟨l,hl,hq⟩:=opn.list_of len key;subst hl;exact⟨some a,l,cap,hcs,hlc,hlmax,hq⟩
end dnw
open Go.RowKit
namespace tupo
open tupw
theorem cell_spot {w:World}{b o:Nat}{sp:Option Nat}{v:Value}(h:w.cell? ⟨b,o,sp⟩=some v):sp=none:=by
 cases sp with
 | none=>rfl
 | some x=>unfold World.cell? at h;simp at h;split at h<;>cases h
theorem texts_of {H:Type}{enc:TypeId × Value→H}{P:Program}{w:World}{base:Nat}{sp:Nat→Bool}{held:Bool}{t e:TypeId}{d:DataW H}{p:List MemPlace}{ao:Option Addr}{len cap:Nat}
  (ht:P.underlying t=some (.slice e)) (he:P.underlying e=some .string) (hc:P.cellsOf e=1)
  (h: ∃fuel,DataW.trod enc P w base sp held fuel t [.slice ao len cap]=some (d,p)): ∃l:List ByteArray,len=l.length∧Strs w ao l∧(∀s∈l,s.size≤maxLen)∧len≤maxLen∧len≤cap∧(ao=none→len=0∧cap=0):=by
 obtain⟨fuel,h⟩:=h;rcases ChangeShapes.open_strings ht he hc h with⟨hcs,_⟩ | ⟨a,len',cap',ss,hcs,_,hlc,hcm,hlen,_,hcell,hsm⟩
 ·simp at hcs;obtain⟨rfl,rfl,rfl⟩:=hcs;exact⟨[],rfl,fun i hi=>by simp at hi,fun s hs=>by simp at hs,by omega,by omega,fun _=>⟨rfl,rfl⟩⟩
 ·simp at hcs;obtain⟨rfl,rfl,rfl⟩:=hcs;have hle:len≤ss.length:=by rw[hlen];split<;>omega
  refine⟨ss.take len,by simp;omega,fun i hi=> ?_,fun s hs=>hsm s (List.mem_of_mem_take hs),by omega,hlc,fun e=>by simp at e⟩;have hi':i<len:=by simp at hi;omega
  have hc2:=hcell i (by omega);obtain⟨b,o,spt⟩:=a;have hsp:spt=none:=by
   cases spt with
   | none=>rfl
   | some x=>exfalso;have hz:=hcell 0 (by omega);have e0:(⟨b,o,some x⟩:Addr).add 0=⟨b,o,some x⟩:=(by unfold Addr.add;rfl);rw[e0]at hz;exact absurd (cell_spot hz) (by simp)
  subst hsp;refine⟨b,o,rfl,?_⟩;rw[Addr.add_mid]at hc2;rw[hc2,List.getElem_take];simp[List.getD,List.getElem?_eq_getElem (show i<ss.length by omega)]
end tupo
open Go.RowKit Go.ChangeShapes Go.WideShapes Go.Deep
namespace etw
open etp
open dnw (Av Avas)
open tupw (Strs)
theorem strs_any {H:Type}{enc:TypeId × Value→H}{w:World}{base:Nat}{sp:Nat→Bool}{held:Bool}{cs:List Value}{x:DataW H × List MemPlace}{fuel:Nat}
  (h:DataW.trod enc Tryz.prog w base sp held fuel 35 cs=some x): ∃ (ao:Option Addr) (l:List ByteArray) (cap:Nat),cs=[.slice ao l.length cap]∧l.length≤cap∧l.length≤9223372036854775807∧Strs w ao l:=by
 obtain⟨ao,len,cap,hcs⟩: ∃ao len cap,cs=[.slice ao len cap]:=by
  rcases ChangeShapes.open_strings Tryz.underlying35 Tryz.underlying9 (by kernel_rfl) h with⟨hcs,_⟩ | ⟨a,len',cap',ss,hcs,_⟩
  ·exact⟨_,_,_,hcs⟩
  ·exact⟨_,_,_,hcs⟩
 subst hcs;obtain⟨d,p⟩:=x;obtain⟨l,hlen,hS,_,hm,hc,_⟩:=tupo.texts_of Tryz.underlying35 Tryz.underlying9 (by kernel_rfl) ⟨fuel,h⟩;subst hlen;unfold maxLen at hm;exact⟨ao,l,cap,rfl,hc,by omega,hS⟩
theorem ats_of {H:Type}{enc:TypeId × Value→H}{w:World}{base:Nat}{sp:Nat→Bool}{held:Bool}{cs:List Value}{x:DataW H × List MemPlace}{fuel:Nat}
  (h:DataW.trod enc Tryz.prog w base sp held fuel 24 cs=some x): ∃ (ao:Option Addr) (l:List At) (cap:Nat),cs=[.slice ao l.length cap]∧l.length≤cap∧l.length≤9223372036854775807∧Ats w ao l∧ ∀a∈l,a.vs.length≤9223372036854775807:=by
 rcases opn.open_slice_fields Tryz.underlying24 Tryz.underlying43 (by kernel_rfl) (by kernel_rfl) h with⟨hcs,_⟩ | ⟨a,len,cap,m,D,Pl,hcs,_,hlc,hcm,hm,_,hf⟩
 ·exact⟨none,[],0,hcs,Nat.le_refl _,by simp,fun i hi=>by simp at hi,fun a ha=>by simp at ha⟩
 ·have hlm:len≤m:=by rw[hm];split<;>omega
  have hlmax:len≤9223372036854775807:=by unfold maxLen at hcm;omega
  have key: ∀i,i<len→ ∃c:At,(∃b o ax cx,some a=some ⟨b,o,none⟩∧w.cell? ⟨b,o+i*2,none⟩=some (.string c.t)∧w.cell? ⟨b,o+i*2+1,none⟩=some (.slice ax c.vs.length cx)∧c.vs.length≤cx∧Strs w ax c.vs)∧c.vs.length≤9223372036854775807:=by
   intro i hi;obtain⟨ys,n,_,_,_,hfs⟩:=hf i (by omega);obtain⟨v0,y0,c0,_,t0⟩:=hfs 0 _ rfl;obtain⟨v1,y1,c1,_,t1⟩:=hfs 1 _ rfl;obtain⟨k,e0,_⟩:=DataW.trod_string Tryz.underlying9 t0;obtain⟨ax,vs,cx,e1,g1,g2,g3⟩:=strs_any t1;simp only[List.cons.injEq,and_true]at e0 e1;subst e0 e1;have hcell: ∃b o,a=⟨b,o,none⟩:=(by obtain⟨ys0,n0,_,_,_,hfs0⟩:=hf 0 (by omega);obtain⟨v,y,c,_,_⟩:=hfs0 0 _ rfl;obtain⟨b,o,s⟩:=a;have e0:(⟨b,o,s⟩:Addr).add (0*2+0)=⟨b,o,s⟩:=(by unfold Addr.add;rfl);have hc:w.cell? ((⟨b,o,s⟩:Addr).add (0*2+0))=some v:=c;rw[e0]at hc;obtain rfl:=opn.cell_spot hc;exact⟨b,o,rfl⟩);obtain⟨b,o',rfl⟩:=hcell;have ad: ∀j,(⟨b,o',none⟩:Addr).add j=⟨b,o'+j,none⟩:=fun j=>by rw[Addr.add_mid]
   have d0:w.cell? ((⟨b,o',none⟩:Addr).add (i*2+0))=_:=c0;have d1:w.cell? ((⟨b,o',none⟩:Addr).add (i*2+1))=_:=c1;rw[ad]at d0 d1;exact⟨⟨k,vs⟩,⟨b,o',ax,cx,rfl,d0,by rw[Nat.add_assoc];exact d1,g1,g3⟩,g2⟩
  obtain⟨l,hl,hq⟩:=opn.list_of len key;subst hl;refine⟨some a,l,cap,hcs,hlc,hlmax,fun i hi=>(hq i hi).1,fun c hc=> ?_⟩;obtain⟨i,hi,rfl⟩:=List.mem_iff_getElem.1 hc;exact(hq i hi).2
theorem ent_of {H:Type}{enc:TypeId × Value→H}{w:World}{base:Nat}{sp:Nat→Bool}{held:Bool}{r:Reach}{b0:Nat}{v:Value}{d:DataW H}{p:List MemPlace}
  (hv:Value.okWide Tryz.prog w r b0 26 v) (h:DataW.Trod enc Tryz.prog w base sp held 26 v d p): ∃e:En,EntV w v e∧e.rdn.length≤9223372036854775807∧e.ats.length≤9223372036854775807∧ ∀a∈e.ats,a.vs.length≤9223372036854775807:=by
 obtain⟨v0,v1,y0,y1,n,rfl,_,_,h0,h1⟩:=Joins.open_agg2 Tryz.underlying26 (by kernel_rfl) (by kernel_rfl) hv h;obtain⟨ro,l,rc,e0,g0,g1,g2⟩:=dnw.avas_of h0;obtain⟨ao,m,ac,e1,k0,k1,k2,k3⟩:=ats_of h1;simp only[List.cons.injEq,and_true]at e0 e1;subst e0 e1;exact⟨⟨l,m⟩,⟨ro,rc,ao,ac,rfl,g0,k0,g2,k2⟩,g1,k1,k3⟩
end etw
open Go.RowKit Go.ChangeShapes Go.WideShapes Go.Deep
namespace lbw
open dnw (Av Avas Rdns)
theorem bulk_pos {H:Type}(d:DataW H):1≤Rows.uptoBulk d:=by unfold Rows.uptoBulk;split<;>omega
theorem bulk_len {H:Type}: ∀l:List (DataW H),l.length≤Rows.uptoBulkAll l
 | []=>Nat.le_refl _
 | d::r=>by have h1:=bulk_pos d;have h2:=bulk_len r;rw[List.length_cons];unfold Rows.uptoBulkAll;omega
theorem bulk_mem {H:Type}{d:DataW H}: ∀ {l:List (DataW H)},d∈l→Rows.uptoBulk d≤Rows.uptoBulkAll l
 | [],h=>by cases h
 | a::r,h=>by
  unfold Rows.uptoBulkAll;rcases List.mem_cons.1 h with rfl | h
  ·omega
  ·have:=bulk_mem h;omega
section
variable {H : Type} {enc : TypeId × Value → H} {w : World} {base : Nat} {sp : Nat → Bool} {held : Bool}
theorem avas_bulk {cs:List Value}{x:DataW H × List MemPlace}{fuel:Nat}
  (h:DataW.trod enc Tryz.prog w base sp held fuel 23 cs=some x): ∃ (ao:Option Addr) (l:List Av) (cap:Nat),cs=[.slice ao l.length cap]∧l.length≤cap∧Avas w ao l∧l.length≤Rows.uptoBulk x.1:=by
 obtain⟨ao,l,cap,hcs,h1,_,h3⟩:=dnw.avas_of h;refine⟨ao,l,cap,hcs,h1,h3,?_⟩;rcases DataW.trod_slice Tryz.underlying23 h with⟨hcs2,hx⟩ | ⟨a,len,cap',elems,rest,m,_,hcs2,hx,_,_,_,hlen,_⟩
 ·rw[hcs]at hcs2;simp only[List.cons.injEq,Value.slice.injEq,and_true]at hcs2;omega
 ·rw[hcs]at hcs2;simp only[List.cons.injEq,Value.slice.injEq,and_true]at hcs2;rw[hx];show _≤Rows.uptoBulk (.slice (elems.map (·.1)) (rest.map (·.1)));unfold Rows.uptoBulk;have h4:=bulk_len (elems.map (·.1));rw[List.length_map]at h4;omega
theorem rdns_bulk {d:DataW H}{p:List MemPlace}{ao:Option Addr}{len cap:Nat}
  (h: ∃fuel,DataW.trod enc Tryz.prog w base sp held fuel 55 [.slice ao len cap]=some (d,p)): ∃n:List (List Av),len=n.length∧Rdns w ao n∧len≤cap∧ ∀l∈n,l.length≤Rows.uptoBulk d:=by
 obtain⟨fuel,h⟩:=h;rcases open_slice1 Tryz.underlying55 (by kernel_rfl) h with⟨hcs,_⟩ | ⟨a,len',cap',m,n,V,D,Pl,hcs,_,hlc,hcm,hm,hx,hf⟩
 ·simp at hcs;obtain⟨rfl,rfl,rfl⟩:=hcs;exact⟨[],rfl,fun i hi=>by simp at hi,Nat.le_refl _,by simp⟩
 ·simp at hcs;obtain⟨rfl,rfl,rfl⟩:=hcs;have hlm:len≤m:=by rw[hm];split<;>omega
  have hd: ∀i,i<len→Rows.uptoBulk (D i)≤Rows.uptoBulk d:=by
   intro i hi;have e:d= .slice ((List.range len).map D) ((List.range (m-len)).map fun j=>D (len+j)):=congrArg Prod.fst hx;rw[e];have h1:=bulk_mem (d:=D i) (l:=(List.range len).map D) (List.mem_map.2 ⟨i,List.mem_range.2 hi,rfl⟩);conv=>rhs;unfold Rows.uptoBulk
   omega
  have key: ∀i,i<len→ ∃l:List Av,(∃b o ao' cap',some a=some ⟨b,o,none⟩∧w.cell? ⟨b,o+i,none⟩=some (.slice ao' l.length cap')∧l.length≤cap'∧Avas w ao' l)∧l.length≤Rows.uptoBulk d:=by intro i hi;obtain⟨hc,ht⟩:=hf i (by omega);obtain⟨ao',l,cap',hv,h1,h3,h4⟩:=avas_bulk ht;simp only[List.cons.injEq,and_true]at hv;rw[hv]at hc;have hcell: ∃b o,a=⟨b,o,none⟩:=(by obtain⟨c,_⟩:=hf 0 (by omega);obtain⟨b,o,s⟩:=a;have e0:(⟨b,o,s⟩:Addr).add 0=⟨b,o,s⟩:=(by unfold Addr.add;rfl);rw[e0]at c;obtain rfl:=opn.cell_spot c;exact⟨b,o,rfl⟩);obtain⟨b,o',rfl⟩:=hcell;rw[Addr.add_mid]at hc;exact⟨l,⟨b,o',ao',cap',rfl,hc,h1,h3⟩,Nat.le_trans h4 (hd i hi)⟩
  obtain⟨n,hl,hq⟩:=opn.list_of len key;subst hl;refine⟨n,rfl,fun i hi=>(hq i hi).1,hlc,fun l hl=> ?_⟩;obtain⟨i,hi,rfl⟩:=List.mem_iff_getElem.1 hl;exact(hq i hi).2
theorem rec_of {r:Reach}{b0:Nat}{v:Value}{d:DataW H}{p:List MemPlace}
  (hv:Value.okWide Tryz.prog w r b0 54 v) (h:DataW.Trod enc Tryz.prog w base sp held 54 v d p): ∃ (nm:ByteArray) (po:Option Addr) (l:List Av) (cap:Nat),v= .agg #[.string nm,.slice po l.length cap]∧Avas w po l∧l.length≤cap∧l.length≤Rows.uptoBulk d:=by
 obtain⟨v0,v1,y0,y1,n,rfl,hd,hp,h0,h1⟩:=Joins.open_agg2 Tryz.underlying54 (by kernel_rfl) (by kernel_rfl) hv h;obtain⟨s,e0,_⟩:=DataW.trod_string Tryz.underlying9 h0;obtain⟨po,l,cap,e1,g1,g2,g3⟩:=avas_bulk h1;simp only[List.cons.injEq,and_true]at e0 e1;subst e0 e1;refine⟨s,po,l,cap,rfl,g2,g1,?_⟩;rw[hd];have h2:=bulk_mem (d:=y1.1) (l:=[y0.1,y1.1]) (by simp);show _≤Rows.uptoBulk (.agg [y0.1,y1.1]);conv=>rhs;unfold Rows.uptoBulk
 omega
end
end lbw
open Go.RowKit
namespace atw
open atp
def tyData:DataW Unit:= .agg (tys.map fun t=> .agg [.lit (.string t.name),.lit (.int .i64 t.syn),.lit (.bool t.single)])
theorem rows_take {α β:Type}(f:β→List α)(n:Nat): ∀ (l:List β) (cs:List α),(∀i (h:i<l.length),(cs.drop (i*n)).take n=f l[i])→cs.take (l.length*n)=l.flatMap f:=by
 intro l;induction l with
 | nil=>intro cs _;simp
 | cons b r ih=>intro cs h;have h0:=h 0 (by simp);rw[Nat.zero_mul,List.drop_zero]at h0;have h1:=ih (cs.drop n) (by intro i hi;have:=h (i+1) (by simp;omega);rw[List.drop_drop,show n+i*n=(i+1)*n by rw[Nat.add_mul,Nat.one_mul,Nat.add_comm]];exact this);rw[List.flatMap_cons,List.length_cons,show(r.length+1)*n=n+r.length*n by rw[Nat.add_mul,Nat.one_mul,Nat.add_comm],List.take_add,h0,h1];rfl
theorem trod_ty {H:Type}{enc:TypeId × Value→H}{w:World}{base:Nat}{sp:Nat→Bool}{held:Bool}{fuel:Nat}{cs:List Value}{q:List MemPlace}{t:Ty}
  (h:DataW.trod enc Tryz.prog w base sp held fuel 108 cs=some (.agg [.lit (.string t.name),.lit (.int .i64 t.syn),.lit (.bool t.single)],q)):cs=tval t:=by
 obtain⟨y0,y1,y2,n,hx,hl,h0,h1,h2⟩:=Deep.trod_struct3 Tryz.underlying108 h;obtain⟨s,e0,rfl,_⟩:=DataW.trod_string Tryz.underlying9 h0;obtain⟨z,e1,rfl,_⟩:=DataW.trod_int Tryz.underlying3 h1;obtain⟨b,e2,rfl⟩:=DataW.trod_bool Tryz.underlying4 h2;have hx1:=congrArg Prod.fst hx;simp only[DataW.agg.injEq,List.cons.injEq,DataW.lit.injEq,Lit.string.injEq,Lit.int.injEq,Lit.bool.injEq,true_and,and_true]at hx1;obtain⟨x0,x1,x2⟩:=hx1;have k0:Tryz.prog.cellsOf 9=1:=by kernel_rfl
 have k1:Tryz.prog.cellsOf 3=1:=by kernel_rfl
 have k2:Tryz.prog.cellsOf 4=1:=by kernel_rfl
 have k3:Tryz.prog.cellsOf 108=3:=by kernel_rfl
 rw[k3]at hl;obtain⟨a,b',c,rfl⟩: ∃a b' c,cs=[a,b',c]:=by
  match cs,hl with
  | [a,b',c],_=>exact⟨a,b',c,rfl⟩
 ·skip
  have e0':[a]=[Value.string s]:=by simpa[k0]using e0
  have e1':[b']=[Value.int .i64 z]:=by simpa[k1]using e1
  have e2':[c]=[Value.bool b]:=by simpa[k2]using e2
  cases e0';cases e1';cases e2';unfold tval bs;rw[x0,x1,x2]
theorem tyEnv_of_reads {w:World}(h:Lib.VarReads Tryz.prog w "rollbook/attr.types" tyData):Hid (TyEnv w):=by
 obtain⟨g,t,cs,fuel,p,hg,hty,hvar,hd⟩:=h;obtain rfl:=Option.some.inj ((show Tryz.prog.globalNamed "rollbook/attr.types" =some 0 by kernel_rfl).symm.trans hg);obtain rfl:=Option.some.inj ((show(Tryz.prog.globals[0]?).map (·.type)=some 169 by kernel_rfl).symm.trans hty);have k3:Tryz.prog.cellsOf 108=3:=by kernel_rfl
 have hall:=rows_take tval 3 tys cs.toList (by intro i hi;obtain⟨fuel',d,q,hdi,he⟩:=Lib.array_elem Tryz.underlying169 hd i hi;rw[List.getElem?_map,List.getElem?_eq_getElem hi]at hdi;simp only[Option.map_some,Option.some.injEq]at hdi;subst hdi;rw[k3]at he;exact trod_ty he);intro j v hj;have hlt:j<60:=by
  have h1:=(List.getElem?_eq_some_iff.1 hj).1;have h2:tcells.length=60:=by kernel_rfl
  omega
 have hj2:(cs.toList.take (tys.length*3))[j]? =some v:=by rw[hall];exact hj
 rw[List.getElem?_take,if_pos (by rw[tys_len];omega)]at hj2;rw[Nat.zero_add,World.var?_cell hg hvar j,←Array.getElem?_toList];exact hj2
end atw
end Go.Proofs.YtmnpfkbjpeaemaaGreatDoor
