/- One text out of several: AddW, SchI, SchV, OpenS, ArgsW, StrsOf, EntO, TyF. -/
import Derived.Test.YtmnpfkbjpeaemaaGreatDoorQ12
import Derived.Test.YtmnpfkbjpeaemaaGreatDoorQ18
import Derived.Test.YtmnpfkbjpeaemaaGreatDoorQ15
import Derived.Test.YtmnpfkbjpeaemaaGreatDoorQ6
import Derived.Test.YtmnpfkbjpeaemaaGreatDoorQ17
import Derived.Deep.Slices
import Derived.Deep.Fields
import Derived.ChangeSame
import Derived.Test.YtmnpfkbjpeaemaaGreatDoorQ1
import Derived.SliceStrings
import Derived.Deep.MidRow
import Derived.Lib.SmallJoins
import Derived.Test.YtmnpfkbjpeaemaaGreatDoorQ10
import Derived.Lib.LaidU8
import Derived.Deep.Strs
set_option linter.unusedVariables false
set_option linter.unusedSimpArgs false
set_option maxRecDepth 100000
set_option maxHeartbeats 8000000
namespace Go.Proofs.YtmnpfkbjpeaemaaGreatDoor
open Go.RowKit
namespace etw
open atp atw etp
open dnw (Av Avas)
open tupw (Strs strs_below)
theorem add_big (v:Value)(E:En)(n:ByteArray)(bo:Option Addr)(bcap:Nat)(l:List ByteArray)(w:World)(hv:Hid (EntV w v E))(hb:Hid (Bk 1000 E))(hS:Hid (Strs w bo l))(hl:l.length≤50)(hlc:l.length≤bcap)(hls:Hid (∀x∈l,x.size≤100000))(hn:n.size≤100000)(hE:Hid (EnvE w)):
  Calls Tryz.prog 61 #[v,.string n,.slice bo l.length bcap] w fun e w'=>ResE (addE E n.data.toList l) w e w':=by
 have HBD:=Lib.hid (bk_bd hb.out (by omega));have HFI0:Hid (∀W,Below w.heap.size w W→Calls Tryz.prog 85 #[v,.string n] W fun e w'=>FindR (findE E n.data.toList) e∧Below W.heap.size W w'):=fun W h=>finde_any v E n W (Lib.hid (entV_below hv.out h)) HBD (by omega) (Lib.hid (envE_below hE.out h));have HFA0:Hid (∀nm syn sg W,Below w.heap.size w W→Calls Tryz.prog 86 #[.agg #[.string nm,.int .i64 syn,.bool sg],.slice bo l.length bcap] W fun e w'=>e= .returned (.int .i64 (faultI syn l))∧Below W.heap.size W w'):=fun nm syn sg W h=>fault_any nm syn sg bo bcap l W (Lib.hid (strs_below hS.out h)) (by omega) (Lib.hid fun x hx=>by have:=hls.out x hx;omega) (Lib.hid (envE_below hE.out h));have HVA0:Hid (∀m W,Below w.heap.size w W→Calls Tryz.prog 88 #[v,.string m] W fun e w'=>ValsE (valsA E.ats m) W e w'):=fun m W h=>vals_any v E m W (Lib.hid (entV_below hv.out h)) HBD;have HWI0:Hid (∀m o c (all:List ByteArray) W,Below w.heap.size w W→Strs W o all→all.length≤1000→all.length≤c→Calls Tryz.prog 91 #[v,.string m,.slice o all.length c] W fun e w'=>EntE (withE E m all) W e w'):=fun m o c all W h hs h1 h2=>with_any v E m o c all W (Lib.hid (entV_below hv.out h)) HBD (Lib.hid hs) (by omega) h2;have HLK0:Hid (∀nm syn sg o c k (all:List ByteArray) x W,Hid (k=all.length)→Strs W o all→k≤1000→(∀y∈all,y.size≤100000)→x.size≤100000→EnvE W→Calls Tryz.prog 89 #[.agg #[.string nm,.int .i64 syn,.bool sg],.slice o k c,.string x] W fun e w'=>e= .returned (.int .i64 (likeI syn all x))∧Below W.heap.size W w'):=by intro nm syn sg o c k all x W hk hs h1 h2 h3 he;have:=like_any nm syn sg o c all x W (Lib.hid hs) (by rw[←hk.out];omega) (Lib.hid fun y hy=>by have:=h2 y hy;omega) (by omega) (Lib.hid he);rw[←hk.out]at this;exact this
 have HVL:=Lib.hid (bk_vals hb.out);have HRES:Hid (addE E n.data.toList l=match findE E n.data.toList with
  | .error f=> .error f
  | .ok ty=>if l=[]then .error 1 else if faultI ty.syn l≠0 then .error (faultI ty.syn l)else match joinF ty.syn (valsA E.ats (bs ty.name)) l with
   | none=> .error 8
   | some all=>if mostT ty.single<all.length then .error 9 else .ok (withE E (bs ty.name) all)):=rfl
 obtain⟨RR,hRR⟩: ∃r,addE E n.data.toList l=r:=⟨_,rfl⟩;rw[hRR]at HRES ⊢;have HR:=Lib.hid HRES.out.symm;clear HRES hRR;obtain⟨ro,rc,ao,ac,Nr,N,rfl,HN,HA,hac,HNr,HAv,hrc⟩:=ent_form hv.out;obtain⟨W1,hW1⟩: ∃W,w.alloc (.cells #[.slice ro Nr rc,.slice ao N ac] 26)=W:=⟨_,rfl⟩;have hB1:Below w.heap.size w W1:=by rw[←hW1];exact(Below.refl _ _).alloc (Nat.le_refl _) _
 have hT1:EntB W1 w.heap.size (.slice ro Nr rc) (.slice ao N ac):=by rw[←hW1];exact entB_new _ _ _
 obtain⟨W2,hW2⟩: ∃W,W1.alloc (.cells #[.slice none 0 0,.slice none 0 0] 26)=W:=⟨_,rfl⟩;have hB2:Below W1.heap.size W1 W2:=by rw[←hW2];exact(Below.refl _ _).alloc (Nat.le_refl _) _
 obtain⟨q,hqq⟩: ∃q,W1.heap.size=q:=⟨_,rfl⟩;have hqw:w.heap.size≤q:=by rw[←hqq];exact hB1.size
 have hQ2:EntB W2 q (.slice none 0 0) (.slice none 0 0):=by rw[←hW2,←hqq];exact entB_new _ _ _
 have HB2:=Lib.hid (hB1.trans (hB2.mono hB1.size));have HT2:=Lib.hid (entB_below hT1 hB2);have HQ2:=Lib.hid hQ2;obtain⟨k0,k1⟩:=entB_cells HT2.out;have hz2:=HB2.out.size;clear hB1 hB2 hT1 hQ2 hv;have HFI:=Lib.hid (HFI0.out W2 HB2.out);clear HFI0;have HKL:Hid (l=[]↔l.length=0):=List.length_eq_zero_iff.symm;obtain⟨K,hK⟩: ∃K,l.length=K:=⟨_,rfl⟩;rw[hK]at HFA0 HKL hl hlc ⊢;have HK:=Lib.hid hK;clear hK;go_enter Tryz.func61,Tryz.ntmps61;go_wp2_with fail;refine HFI.out.mono ?_;rintro e w3 ⟨hfr,hB3⟩;have HB3:=Lib.hid (HB2.out.trans (hB3.mono hz2));have HT3:=Lib.hid (entB_below HT2.out hB3);have HQ3:=Lib.hid (entB_below HQ2.out hB3);clear hB3 k0 k1 hW1 hW2 HFI hqq;cases hfe:findE E n.data.toList with
 | error f=>
  rw[hfe]at hfr HR;have hfr2:e= .returned (.tuple #[.agg #[.string ⟨#[]⟩,.int .i64 0,.bool false],.int .i64 f]):=hfr;have hf0:f≠0:=find_err hfe;have qf:(f !=0)=true:=by rw[bne_iff_ne];exact hf0
  subst hfr2;clear hfr hfe hf0;have hB4:Below w3.heap.size w3 (w3.alloc (.cells #[.string ⟨#[]⟩,.int .i64 0,.bool false] 108)):=(Below.refl _ _).alloc (Nat.le_refl _) _;have HBX:=Lib.hid (HB3.out.trans (hB4.mono HB3.out.size));have HQ:=Lib.hid (entB_below HQ3.out hB4);clear hB4;obtain⟨v0,v1⟩:=entB_cells HQ.out;have f0:=Lib.frozen_of_heap HQ.out 0;have f1:=Lib.frozen_of_heap HQ.out 1;have hq1:=entB_set0 HQ.out (.slice none 0 0);have hq2:=entB_set1 hq1 (.slice none 0 0);have HQC:=Lib.hid (entB_cells hq2);have HBF:=Lib.hid ((HBX.out.setCell (p:=⟨q,0,none⟩) hqw (.slice none 0 0)).setCell (p:=⟨q,1,none⟩) hqw (.slice none 0 0));clear hq1 hq2;go_wp2_with fail;obtain⟨r0,r1⟩:=HQC.out;refine bodyPost_ret (v:= .tuple #[.agg #[.slice none 0 0,.slice none 0 0],.int .i64 f]) (by rw[results_cell_tmp rfl];go_simp) rfl ?_;exact⟨HBF.out,(by rw[←HR.out])⟩
 | ok ty=>
  rw[hfe]at hfr HR;have hfr2:e= .returned (.tuple #[.agg #[.string (bs ty.name),.int .i64 ty.syn,.bool ty.single],.int .i64 0]):=hfr;subst hfr2;clear hfr;simp only at HR;have HNS:Hid ((bs ty.name).size≤1000):=name_size (findE_ok hfe).2;clear hfe;have HMO:Hid (∀nm W,Calls Tryz.prog 123 #[.agg #[.string nm,.int .i64 ty.syn,.bool ty.single]] W fun e w'=>e= .returned (.int .i64 (mostT ty.single:Int))∧Below W.heap.size W w'):=fun nm W=>room_any nm ty.syn ty.single W;have hm20:mostT ty.single≤20:=by unfold mostT;split<;>omega
  generalize bs ty.name=nm at HNS HR;generalize ty.syn=syn at HMO HR;generalize ty.single=sg at HMO hm20 HR;generalize mostT sg=MX at HMO hm20 HR;obtain⟨w4,hw4⟩: ∃W,w3.alloc (.cells #[.string nm,.int .i64 syn,.bool sg] 108)=W:=⟨_,rfl⟩;have hB4:Below w3.heap.size w3 w4:=by rw[←hw4];exact(Below.refl _ _).alloc (Nat.le_refl _) _
  obtain⟨tb,htb⟩: ∃tb,w3.heap.size=tb:=⟨_,rfl⟩;have HY4:Hid (TB w4 tb nm syn sg):=by rw[←hw4,←htb];exact tb_new _ _ _ _
  have HB4:=Lib.hid (HB3.out.trans (hB4.mono HB3.out.size));have HT4:=Lib.hid (entB_below HT3.out hB4);have HQ4:=Lib.hid (entB_below HQ3.out hB4);obtain⟨y0,y1,y2⟩:=tb_cells HY4.out;clear hB4;by_cases hK0:K=0
  ·have hl0:=HKL.out.2 hK0;have dk:((K:Int)==0)=true:=(by rw[beq_iff_eq];omega);rw[if_pos hl0]at HR;clear hl0;have HBX:=HB4;have HQ:=HQ4;clear hK0;obtain⟨v0,v1⟩:=entB_cells HQ.out;have f0:=Lib.frozen_of_heap HQ.out 0;have f1:=Lib.frozen_of_heap HQ.out 1;have hq1:=entB_set0 HQ.out (.slice none 0 0);have hq2:=entB_set1 hq1 (.slice none 0 0);have HQC:=Lib.hid (entB_cells hq2);have HBF:=Lib.hid ((HBX.out.setCell (p:=⟨q,0,none⟩) hqw (.slice none 0 0)).setCell (p:=⟨q,1,none⟩) hqw (.slice none 0 0));clear hq1 hq2;go_wp2_with fail;obtain⟨r0,r1⟩:=HQC.out;refine bodyPost_ret (v:= .tuple #[.agg #[.slice none 0 0,.slice none 0 0],.int .i64 1]) (by rw[results_cell_tmp rfl];go_simp) rfl ?_;exact⟨HBF.out,(by rw[←HR.out])⟩
  ·have dk:((K:Int)==0)=false:=(by rw[beq_eq_false_iff_ne];omega);rw[if_neg (fun h=>hK0 (HKL.out.1 h))]at HR;have hKp:0<K:=(by omega);clear hK0;have HFA:=Lib.hid (HFA0.out nm syn sg w4 HB4.out);clear HFA0;generalize faultI syn l=fa at HFA HR;go_wp2_with fail;refine HFA.out.mono ?_;rintro e w5 ⟨rfl,hB5⟩;have HB5:=Lib.hid (HB4.out.trans (hB5.mono HB4.out.size));have HT5:=Lib.hid (entB_below HT4.out hB5);have HQ5:=Lib.hid (entB_below HQ4.out hB5);have HY5:=Lib.hid (tb_below HY4.out hB5);clear hB5 y0 y1 y2 hw4 htb;by_cases hfa:fa=0
   ·have qa:(fa !=0)=false:=(by rw[bne_eq_false_iff_eq];exact hfa);rw[if_neg (not_not_intro hfa)]at HR;clear hfa;have HVA:=Lib.hid (HVA0.out nm w5 HB5.out);have HV1:=HVL.out nm;have hvl1:=HV1.1;have HV2:=Lib.hid HV1.2;clear HVA0 HVL HV1;obtain⟨e0,e1⟩:=entB_cells HT5.out;obtain⟨y0,y1,y2⟩:=tb_cells HY5.out;have HWI:Hid (∀o c (all:List ByteArray) W,Below w.heap.size w W→Strs W o all→all.length≤1000→all.length≤c→Calls Tryz.prog 91 #[.agg #[.slice ro Nr rc,.slice ao N ac],.string nm,.slice o all.length c] W fun e w'=>EntE (withE E nm all) W e w'):=fun o c all W=>HWI0.out nm o c all W;clear HWI0;generalize valsA E.ats nm=p0 at HVA HV2 hvl1 HR;go_wp2_with fail;refine HVA.out.mono ?_;rintro e w6 ⟨x6,rfl,hx6,hB6⟩;have HCL:=Lib.hid (clone_any x6 p0 w6 hx6 (by omega));have HB6:=Lib.hid (HB5.out.trans (hB6.mono HB5.out.size));have HT6:=Lib.hid (entB_below HT5.out hB6);have HQ6:=Lib.hid (entB_below HQ5.out hB6);have HY6:=Lib.hid (tb_below HY5.out hB6);clear hx6 hB6 e0 e1 y0 y1 y2;go_wp2_with fail;refine HCL.out.mono ?_;rintro e w7 ⟨x7,rfl,ho7,hB7⟩;have HO7:=Lib.hid ho7;obtain⟨a7,n7,c7,rfl,hn7⟩:=dnw.ownT_form ho7;have HB67:=Lib.hid hB7;clear ho7 hB7 HCL;go_wp2_with fail;go_loopw [11,44] (fun av iv wr=> ∃ (i:Nat) (all:List ByteArray),i≤K∧iv= .int .i64 (i:Int)∧Hid (prw.OwnT wr w6.heap.size av all)∧Hid (Below w6.heap.size w6 wr)∧Hid (joinF syn p0 l=joinF syn all (l.drop i))∧Hid (all.length≤100+i)∧Hid (∀y∈all,y.size≤100000)) (fun _ iv _=>K- (intOf iv).toNat);case atStart=>exact⟨0,p0,Nat.zero_le _,rfl,HO7.out,HB67.out,rfl,(by show _≤_;omega),(fun y hy=>by have:=HV2.out y hy;omega)⟩
    case round=>
     obtain⟨i,all,hi,rfl,hO,hBr,hJ,hLN,hSZ⟩:=hrel;obtain⟨aR,nR,cR,rfl,hnR⟩:=dnw.ownT_form hO.out;have hszr:=hBr.out.size;have HBr:=Lib.hid (HB6.out.trans (hBr.out.mono HB6.out.size));have HTr:=Lib.hid (entB_below HT6.out hBr.out);have HQr:=Lib.hid (entB_below HQ6.out hBr.out);have HYr:=Lib.hid (tb_below HY6.out hBr.out);obtain⟨y0,y1,y2⟩:=tb_cells HYr.out;have hnR100:nR≤200:=(by rw[hnR.out];have:=hLN.out;omega);by_cases hlt:i<K
     ·have hltI:(i:Int)<(K:Int):=(by omega);have hil:i<l.length:=(by rw[HK.out];exact hlt);obtain⟨b,o,hbo,hc0⟩:=(strs_below hS.out HBr.out) i hil;subst hbo;have HST:=Lib.hid (join_step (syn:=syn) (all:=all) hil);have hxs:=hls.out l[i] (List.getElem_mem _);obtain⟨x,hx⟩: ∃x,l[i]=x:=⟨_,rfl⟩;rw[hx]at hc0 HST hxs;clear hx;have HLK:=Lib.hid (HLK0.out nm syn sg aR cR nR all x wr hnR (by obtain⟨g1,g2,g3,g4⟩:=elem_form (own_elem hO.out);simp only[Value.slice.injEq]at g4;obtain⟨⟨rfl,rfl,rfl⟩,_,_,g5⟩:=g4;exact g5) (by omega) hSZ.out hxs (envE_below hE.out HBr.out));generalize hlk:likeI syn all x=lk at HLK HST;clear hlk;by_cases hneg:lk<0
      ·have q2:decide ((0:Int)≤lk)=false:=decide_eq_false (by omega);have HJ:Hid (joinF syn p0 l=joinF syn (all++[x]) (l.drop (i+1))):=(by show _=_;rw[hJ.out,HST.out,if_pos hneg]);clear hneg HST;go_wp2_with fail;refine HLK.out.mono ?_;rintro e w8 ⟨rfl,hB8⟩;have hBr8:=hBr.out.trans (hB8.mono hszr);obtain⟨a9,m9,c9,w9,hap,hO9,_,hB9⟩:=dnw.ownT_appG x (dnw.ownT_below hO.out hB8) (by have:=hLN.out;omega) hBr8.size;have HO9:=Lib.hid hO9;have HB9:=Lib.hid (hBr8.trans hB9);have HLN9:Hid ((all++[x]).length≤100+(i+1)):=(by show _≤_;rw[List.length_append];have:=hLN.out;simp only[List.length_cons,List.length_nil];omega);have HSZ9:Hid (∀y∈all++[x],y.size≤100000):=fun y hy=>by
        rcases List.mem_append.1 hy with hy | hy
        ·exact hSZ.out y hy
        ·rw[List.mem_singleton]at hy;rw[hy];exact hxs
       clear hO9 hB9 hBr8 hB8 y0 y1 y2 hc0;go_wp2_with (at_builtin;refine Lib.wpList_append_run _ rfl _ _ _ _ rfl _ _ rfl rfl _ _ hap ?_);go_roundw;case rel=>exact⟨i+1,all++[x],by omega,by go_num,HO9.out,HB9,HJ,HLN9,HSZ9⟩
       case measure=>simp[intOf];omega
      ·have q2:decide ((0:Int)≤lk)=true:=decide_eq_true (by omega);have HJ:Hid (joinF syn p0 l=none):=(by show _=_;rw[hJ.out,HST.out,if_neg hneg]);rw[HJ.out]at HR;clear hneg HST HJ;simp only at HR;go_wp2_with fail;refine HLK.out.mono ?_;rintro e w8 ⟨rfl,hB8⟩;have HBX:=Lib.hid (HBr.out.trans (hB8.mono HBr.out.size));have HQ:=Lib.hid (entB_below HQr.out hB8);clear hB8 y0 y1 y2 hc0;obtain⟨v0,v1⟩:=entB_cells HQ.out;have f0:=Lib.frozen_of_heap HQ.out 0;have f1:=Lib.frozen_of_heap HQ.out 1;have hq1:=entB_set0 HQ.out (.slice none 0 0);have hq2:=entB_set1 hq1 (.slice none 0 0);have HQC:=Lib.hid (entB_cells hq2);have HBF:=Lib.hid ((HBX.out.setCell (p:=⟨q,0,none⟩) hqw (.slice none 0 0)).setCell (p:=⟨q,1,none⟩) hqw (.slice none 0 0));clear hq1 hq2;go_wp2_with fail;obtain⟨r0,r1⟩:=HQC.out;refine bodyPost_ret (v:= .tuple #[.agg #[.slice none 0 0,.slice none 0 0],.int .i64 8]) (by rw[results_cell_tmp rfl];go_simp) rfl ?_;exact⟨HBF.out,(by rw[←HR.out])⟩
     ·obtain rfl:K=i:=(by omega);have HJ:Hid (joinF syn p0 l=some all):=(by show _=_;rw[hJ.out,←HK.out,List.drop_length];rfl);rw[HJ.out]at HR;simp only at HR;rw[←hnR.out]at HR;clear HJ;by_cases hmx:MX<nR
      ·have q3:decide (MX<nR)=true:=decide_eq_true hmx;rw[if_pos hmx]at HR;clear hmx;go_wp2_with fail;refine(HMO.out _ _).mono ?_;rintro e w8 ⟨rfl,hB8⟩;have HBX:=Lib.hid (HBr.out.trans (hB8.mono HBr.out.size));have HQ:=Lib.hid (entB_below HQr.out hB8);clear hB8 y0 y1 y2;obtain⟨v0,v1⟩:=entB_cells HQ.out;have f0:=Lib.frozen_of_heap HQ.out 0;have f1:=Lib.frozen_of_heap HQ.out 1;have hq1:=entB_set0 HQ.out (.slice none 0 0);have hq2:=entB_set1 hq1 (.slice none 0 0);have HQC:=Lib.hid (entB_cells hq2);have HBF:=Lib.hid ((HBX.out.setCell (p:=⟨q,0,none⟩) hqw (.slice none 0 0)).setCell (p:=⟨q,1,none⟩) hqw (.slice none 0 0));clear hq1 hq2;go_wp2_with fail;obtain⟨r0,r1⟩:=HQC.out;refine bodyPost_ret (v:= .tuple #[.agg #[.slice none 0 0,.slice none 0 0],.int .i64 9]) (by rw[results_cell_tmp rfl];go_simp) rfl ?_;exact⟨HBF.out,(by rw[←HR.out])⟩
      ·have q3:decide (MX<nR)=false:=decide_eq_false hmx;rw[if_neg hmx]at HR;go_wp2_with fail;refine(HMO.out _ _).mono ?_;rintro e w8 ⟨rfl,hB8⟩;have HB8:=Lib.hid (HBr.out.trans (hB8.mono HBr.out.size));obtain⟨e0,e1⟩:=entB_cells (entB_below HTr.out hB8);have HQ8:=Lib.hid (entB_below HQr.out hB8);have hz8:=(tb_cells (tb_below HYr.out hB8)).1;obtain⟨g1,g2,g3,g4⟩:=elem_form (elem_below (own_elem hO.out) hB8);simp only[Value.slice.injEq]at g4;obtain⟨⟨rfl,rfl,rfl⟩,g5,g6,g7⟩:=g4;have HWC0:=HWI.out aR cR all w8 HB8.out g7 (by rw[←g5.out];omega) (by rw[←g5.out];exact g6);rw[←g5.out]at HWC0;have HWC:=Lib.hid HWC0;clear hB8 y0 y1 y2 g5 g6 g7 HWC0 hmx;go_wp2_with fail;refine HWC.out.mono ?_;rintro e w9 ⟨v9,rfl,hv9,hB9⟩;obtain⟨r1,n1,c1,r2,n2,c2,rfl⟩:=ent_agg hv9;have HV:=Lib.hid hv9;have HBX:=Lib.hid (HB8.out.trans (hB9.mono HB8.out.size));have HQ:=Lib.hid (entB_below HQ8.out hB9);clear hv9 hB9 e0 e1 hz8;obtain⟨v0,v1⟩:=entB_cells HQ.out;have f0:=Lib.frozen_of_heap HQ.out 0;have f1:=Lib.frozen_of_heap HQ.out 1;have hq1:=entB_set0 HQ.out (.slice r1 n1 c1);have hq2:=entB_set1 hq1 (.slice r2 n2 c2);have HQC:=Lib.hid (entB_cells hq2);have HBF:=Lib.hid ((HBX.out.setCell (p:=⟨q,0,none⟩) hqw (.slice r1 n1 c1)).setCell (p:=⟨q,1,none⟩) hqw (.slice r2 n2 c2));have HVF:=Lib.hid (entV_set (entV_set HV.out HQ.out (noS_slice _ _ _) (noS_slice _ _ _) 0 (.slice r1 n1 c1)) hq1 (noS_slice _ _ _) (noS_slice _ _ _) 1 (.slice r2 n2 c2));clear hq1 hq2;go_wp2_with fail;obtain⟨r0,r1'⟩:=HQC.out;refine bodyPost_ret (v:= .tuple #[.agg #[.slice r1 n1 c1,.slice r2 n2 c2],.int .i64 0]) (by rw[results_cell_tmp rfl];go_simp) rfl ?_;exact⟨HBF.out,(by rw[←HR.out];exact⟨_,rfl,HVF.out⟩)⟩
   ·have qa:(fa !=0)=true:=(by rw[bne_iff_ne];exact hfa);rw[if_pos hfa]at HR;have HBX:=HB5;have HQ:=HQ5;clear hfa;obtain⟨v0,v1⟩:=entB_cells HQ.out;have f0:=Lib.frozen_of_heap HQ.out 0;have f1:=Lib.frozen_of_heap HQ.out 1;have hq1:=entB_set0 HQ.out (.slice none 0 0);have hq2:=entB_set1 hq1 (.slice none 0 0);have HQC:=Lib.hid (entB_cells hq2);have HBF:=Lib.hid ((HBX.out.setCell (p:=⟨q,0,none⟩) hqw (.slice none 0 0)).setCell (p:=⟨q,1,none⟩) hqw (.slice none 0 0));clear hq1 hq2;go_wp2_with fail;obtain⟨r0,r1⟩:=HQC.out;refine bodyPost_ret (v:= .tuple #[.agg #[.slice none 0 0,.slice none 0 0],.int .i64 fa]) (by rw[results_cell_tmp rfl];go_simp) rfl ?_;exact⟨HBF.out,(by rw[←HR.out])⟩
theorem add_any (v:Value)(E:En)(n:ByteArray)(bo:Option Addr)(bcap:Nat)(l:List ByteArray)(w:World)(hv:Hid (EntV w v E))(hb:Hid (Bk 1000 E))(hS:Hid (Strs w bo l))(hl:l.length≤50)(hlc:l.length≤bcap)(hls:Hid (∀x∈l,x.size≤1200))(hn:n.size≤1000)(hE:Hid (EnvE w)):
  Calls Tryz.prog 61 #[v,.string n,.slice bo l.length bcap] w fun e w'=>ResE (addE E n.data.toList l) w e w':=
 add_big v E n bo bcap l w hv hb hS hl hlc (Lib.hid fun x hx=>by have:=hls.out x hx;omega) (by omega) hE
end etw
open Go.RowKit
namespace scw
open scp atp atw etp etw
open dnw (Av Avas)
open tupw (Strs strs_below)
def cnB:ByteArray:=⟨#[99,110]⟩
def ocB:ByteArray:=⟨#[111,98,106,101,99,116,99,108,97,115,115]⟩
def snB:ByteArray:=⟨#[115,110]⟩
def aB:ByteArray:=⟨#[97]⟩
def bB:ByteArray:=⟨#[98]⟩
def peB:ByteArray:=⟨#[112,101,114,115,111,110]⟩
def awS:En:=⟨[⟨cnB,aB⟩],[⟨cnB,[aB]⟩,⟨ocB,[peB]⟩]⟩
def awT:En:=⟨[⟨cnB,aB⟩],[⟨cnB,[aB]⟩,⟨ocB,[peB]⟩,⟨snB,[bB]⟩]⟩
theorem aws_add:addE awS [115,110] [bB]= .ok awT:=by kernel_rfl
theorem aws_check:checkE awS=15:=by decide+kernel
theorem awt_check:checkE awT=0:=by decide+kernel
theorem aws_bk:Bk 1000 awS:=by
 refine⟨by decide,fun a ha=> ?_,by decide,fun a ha=> ?_⟩
 ·unfold awS at ha;simp only[List.mem_singleton]at ha;subst ha;exact⟨by decide,by decide⟩
 ·unfold awS at ha;simp only[List.mem_cons,List.not_mem_nil,or_false]at ha;rcases ha with rfl | rfl
  ·refine⟨by decide,by decide,fun v hv=> ?_⟩;simp only[List.mem_singleton]at hv;subst hv;decide
  ·refine⟨by decide,by decide,fun v hv=> ?_⟩;simp only[List.mem_singleton]at hv;subst hv;decide
theorem sawake_any (w:World)(hE:Hid (EnvE w)):Calls Tryz.prog 17 #[] w fun e w'=>e= .returned (.bool true)∧Below w.heap.size w w':=by
 obtain⟨W1,hW1⟩: ∃W,w.alloc (.cells #[.string ⟨#[99,110]⟩,.string ⟨#[97]⟩] 51)=W:=⟨_,rfl⟩;have hB1:Below w.heap.size w W1:=by rw[←hW1];exact(Below.refl _ _).alloc (Nat.le_refl _) _
 have hA1:AvaB W1 w.heap.size cnB aB:=by rw[←hW1];exact avaB_new _ _ _
 obtain⟨W2,hW2⟩: ∃W,W1.alloc (.cells #[.string ⟨#[97]⟩] 9)=W:=⟨_,rfl⟩;have hB2:Below W1.heap.size W1 W2:=by rw[←hW2];exact(Below.refl _ _).alloc (Nat.le_refl _) _
 have hV2:VB W2 W1.heap.size aB:=by rw[←hW2];exact vb_new _ _
 obtain⟨W3,hW3⟩: ∃W,W2.alloc (.cells #[.string ⟨#[112,101,114,115,111,110]⟩] 9)=W:=⟨_,rfl⟩;have hB3:Below W2.heap.size W2 W3:=by rw[←hW3];exact(Below.refl _ _).alloc (Nat.le_refl _) _
 have hV3:VB W3 W2.heap.size peB:=by rw[←hW3];exact vb_new _ _
 obtain⟨W4,hW4⟩: ∃W,W3.alloc (.cells #[.string ⟨#[99,110]⟩,.slice (some ⟨W1.heap.size,0,none⟩) 1 1,.string ⟨#[111,98,106,101,99,116,99,108,97,115,115]⟩,.slice (some ⟨W2.heap.size,0,none⟩) 1 1] 43)=W:=⟨_,rfl⟩;have hB4:Below W3.heap.size W3 W4:=by rw[←hW4];exact(Below.refl _ _).alloc (Nat.le_refl _) _
 have hT4:W4.heap[W3.heap.size]? =some (.cells #[.string ⟨#[99,110]⟩,.slice (some ⟨W1.heap.size,0,none⟩) 1 1,.string ⟨#[111,98,106,101,99,116,99,108,97,115,115]⟩,.slice (some ⟨W2.heap.size,0,none⟩) 1 1] 43 (0,0)):=by rw[←hW4];exact heap_alloc_new _ _
 obtain⟨W5,hW5⟩: ∃W,W4.alloc (.cells #[.slice (some ⟨w.heap.size,0,none⟩) 1 1,.slice (some ⟨W3.heap.size,0,none⟩) 2 2] 26)=W:=⟨_,rfl⟩;have hB5:Below W4.heap.size W4 W5:=by rw[←hW5];exact(Below.refl _ _).alloc (Nat.le_refl _) _
 have hE5:EntB W5 W4.heap.size (.slice (some ⟨w.heap.size,0,none⟩) 1 1) (.slice (some ⟨W3.heap.size,0,none⟩) 2 2):=by rw[←hW5];exact entB_new _ _ _
 have hA5:=avaB_cells (avaB_below (avaB_below (avaB_below (avaB_below hA1 hB2) hB3) hB4) hB5);have hV5:=vb_cell (vb_below (vb_below (vb_below hV2 hB3) hB4) hB5);have hV6:=vb_cell (vb_below (vb_below hV3 hB4) hB5);have hT5:W5.heap[W3.heap.size]? =_:=(hB5.block _ (kt.bld_lt hT4)).trans hT4;have hT50:W5.cell? ⟨W3.heap.size,0,none⟩=some (.string cnB):=by rw[Lib.cell_of_heap hT5];rfl
 have hT51:W5.cell? ⟨W3.heap.size,1,none⟩=some (.slice (some ⟨W1.heap.size,0,none⟩) 1 1):=by rw[Lib.cell_of_heap hT5];rfl
 have hT52:W5.cell? ⟨W3.heap.size,2,none⟩=some (.string ocB):=by rw[Lib.cell_of_heap hT5];rfl
 have hT53:W5.cell? ⟨W3.heap.size,3,none⟩=some (.slice (some ⟨W2.heap.size,0,none⟩) 1 1):=by rw[Lib.cell_of_heap hT5];rfl
 have HV5:Hid (EntV W5 (.agg #[.slice (some ⟨w.heap.size,0,none⟩) 1 1,.slice (some ⟨W3.heap.size,0,none⟩) 2 2]) awS):=by
  refine⟨_,1,_,2,rfl,Nat.le_refl _,Nat.le_refl _,fun i hi=> ?_,fun i hi=> ?_⟩
  ·have h0:i=0:=(by have:i<1:=hi;omega);subst h0;exact⟨_,0,rfl,hA5.1,hA5.2⟩
  ·have h0:i=0∨i=1:=(by have:i<2:=hi;omega);rcases h0 with rfl | rfl
   ·refine⟨_,0,_,1,rfl,hT50,hT51,Nat.le_refl _,fun j hj=> ?_⟩;have h1:j=0:=(by have:j<1:=hj;omega);subst h1;exact⟨_,0,rfl,hV5⟩
   ·refine⟨_,0,_,1,rfl,hT52,hT53,Nat.le_refl _,fun j hj=> ?_⟩;have h1:j=0:=(by have:j<1:=hj;omega);subst h1;exact⟨_,0,rfl,hV6⟩
 have hB05:=hB1.trans ((hB2.trans ((hB3.trans ((hB4.trans (hB5.mono hB4.size)).mono hB3.size)).mono hB2.size)).mono hB1.size);have HB5:=Lib.hid hB05;obtain⟨W6,hW6⟩: ∃W,W5.alloc (.cells #[.string ⟨#[98]⟩] 9)=W:=⟨_,rfl⟩;have hB6:Below W5.heap.size W5 W6:=by rw[←hW6];exact(Below.refl _ _).alloc (Nat.le_refl _) _
 have hV7:VB W6 W5.heap.size bB:=by rw[←hW6];exact vb_new _ _
 have hB56:=hB05.trans (hB6.mono hB05.size);have HB6:=Lib.hid hB6;have HAD0:=add_any _ awS snB (some ⟨W5.heap.size,0,none⟩) 1 [bB] W6 (Lib.hid (entV_below HV5.out hB6)) (Lib.hid aws_bk) (Lib.hid fun i hi=>by
  have h0:i=0:=by have:i<1:=hi;omega
  subst h0;exact⟨_,0,rfl,vb_cell hV7⟩) (by decide) (by decide) (Lib.hid fun x hx=>by simp only[List.mem_singleton]at hx;subst hx;decide) (by decide) (Lib.hid (envE_below hE.out hB56))
 rw[show addE awS snB.data.toList [bB]= .ok awT from aws_add]at HAD0;have HAD:Hid (Calls Tryz.prog 61 #[.agg #[.slice (some ⟨w.heap.size,0,none⟩) 1 1,.slice (some ⟨W3.heap.size,0,none⟩) 2 2],.string ⟨#[115,110]⟩,.slice (some ⟨W5.heap.size,0,none⟩) 1 1] W6 fun e w'=> ∃r1 n1 c1 r2 n2 c2,e= .returned (.tuple #[.agg #[.slice r1 n1 c1,.slice r2 n2 c2],.int .i64 0])∧EntV w' (.agg #[.slice r1 n1 c1,.slice r2 n2 c2]) awT∧Below W6.heap.size W6 w'):=HAD0.mono fun e w' h=>by obtain⟨hb,v,he,hv⟩:=h;obtain⟨r1,n1,c1,r2,n2,c2,rfl⟩:=ent_agg hv;exact⟨_,_,_,_,_,_,he,hv,hb⟩
 have HBT:Hid (Bd awT):=bk_bd (bk_add aws_bk (fun x hx=>by rw[List.mem_singleton]at hx;rw[hx];decide) aws_add) (by omega);have HC1:Hid (∀W,Below W5.heap.size W5 W→Calls Tryz.prog 19 #[.agg #[.slice (some ⟨w.heap.size,0,none⟩) 1 1,.slice (some ⟨W3.heap.size,0,none⟩) 2 2]] W fun e w'=>e= .returned (.int .i64 15)∧Below W.heap.size W w'):=fun W h=>by have:=check_any _ awS W (Lib.hid (entV_below HV5.out h)) (Lib.hid (bk_bd aws_bk (by omega))) (Lib.hid (envE_below hE.out (HB5.out.trans (h.mono HB5.out.size))));rw[aws_check]at this;exact this
 have HC2:Hid (∀v W,Below W5.heap.size W5 W→EntV W v awT→Calls Tryz.prog 19 #[v] W fun e w'=>e= .returned (.int .i64 0)∧Below W.heap.size W w'):=fun v W h hv=>by have:=check_any v awT W (Lib.hid hv) HBT (Lib.hid (envE_below hE.out (HB5.out.trans (h.mono HB5.out.size))));rw[awt_check]at this;exact this
 obtain⟨k0,k1⟩:=entB_cells hE5;have HE5:=Lib.hid hE5;have HE6:=Lib.hid (entB_below hE5 hB6);have hz5:=HB5.out.size;clear hB1 hA1 hB2 hV2 hB3 hV3 hB4 hT4 hB5 hE5 hA5 hV5 hV6 hT5 hT50 hT51 hT52 hT53 hB05 hB6 hV7 hB56 HAD0;go_enter Tryz.func17,Tryz.ntmps17;go_wp2_with fail;refine HAD.out.mono ?_;rintro e w7 ⟨r1,n1,c1,r2,n2,c2,rfl,hv7,hB7⟩;have HB57:=Lib.hid (HB6.out.trans (hB7.mono HB6.out.size));obtain⟨W8,hW8⟩: ∃W,w7.alloc (.cells #[.slice r1 n1 c1,.slice r2 n2 c2] 26)=W:=⟨_,rfl⟩;have hB8:Below w7.heap.size w7 W8:=by rw[←hW8];exact(Below.refl _ _).alloc (Nat.le_refl _) _
 have HX8:Hid (EntB W8 w7.heap.size (.slice r1 n1 c1) (.slice r2 n2 c2)):=by rw[←hW8];exact entB_new _ _ _
 have HV8:=Lib.hid (entV_below hv7 hB8);have HE8:=Lib.hid (entB_below (entB_below HE6.out hB7) hB8);have HB8:=Lib.hid (HB57.out.trans (hB8.mono HB57.out.size));have HC18:=Lib.hid (HC1.out W8 HB8.out);obtain⟨m0,m1⟩:=entB_cells HE8.out;clear hB7 hB8 hv7 k0 k1 hW1 hW2 hW3 hW4 hW5 hW6 HAD;go_wp2_with fail;refine HC18.out.mono ?_;rintro e w9 ⟨rfl,hB9⟩;have HB9:=Lib.hid (HB8.out.trans (hB9.mono HB8.out.size));have HC29:=Lib.hid (HC2.out _ w9 HB9.out (entV_below HV8.out hB9));obtain⟨x0,x1⟩:=entB_cells (entB_below HX8.out hB9);clear hB9 m0 m1 hW8 HC18;go_wp2_with fail;refine HC29.out.mono ?_;rintro e w10 ⟨rfl,hB10⟩;have HB10:=Lib.hid (HB5.out.trans ((HB9.out.trans (hB10.mono HB9.out.size)).mono hz5));clear hB10 x0 x1;go_wp2_with fail;go_ret;exact⟨rfl,HB10.out⟩
end scw
open Go.RowKit
namespace scw
open scp atp atw etp etw
theorem schecks_law (v:Value)(E:En)(w:World)(hv:Hid (EntV w v E))(hE:Hid (EnvE w)):
  Calls Tryz.prog 4 #[v] w fun e w'=>e= .returned (.bool true)∧Below w.heap.size w w':=by
 have HAW0:Hid (∀W,Below w.heap.size w W→Calls Tryz.prog 17 #[] W fun e w'=>e= .returned (.bool true)∧Below W.heap.size W w'):=fun W h=>sawake_any W (Lib.hid (envE_below hE.out h));have HLO0:Hid (∀W,Below w.heap.size w W→Calls Tryz.prog 18 #[v] W fun e w'=>e= .returned (.bool (longE E))∧Below W.heap.size W w'):=fun W h=>longE_any v E W (Lib.hid (entV_below hv.out h));have HCK0:Hid (longE E=false→ ∀W,Below w.heap.size w W→Calls Tryz.prog 19 #[v] W fun e w'=>e= .returned (.int .i64 (checkE E))∧Below W.heap.size W w'):=fun hl W h=>check_any v E W (Lib.hid (entV_below hv.out h)) (Lib.hid (bk_bd (longE_no hl) (by omega))) (Lib.hid (envE_below hE.out h));have HRK0:Hid (longE E=false→ ∀W,Below w.heap.size w W→Calls Tryz.prog 20 #[v] W fun e w'=>e= .returned (.int .i64 (checkE E))∧Below W.heap.size W w'):=fun hl W h=>rcheck_any v E W (Lib.hid (entV_below hv.out h)) (Lib.hid (bk_bd (longE_no hl) (by omega)));obtain⟨ro,rc,ao,ac,Nr,N,rfl,HN,HA,hac,HNr,HAv,hrc⟩:=ent_form hv.out;obtain⟨W1,hW1⟩: ∃W,w.alloc (.cells #[.slice ro Nr rc,.slice ao N ac] 26)=W:=⟨_,rfl⟩;have hB1:Below w.heap.size w W1:=by rw[←hW1];exact(Below.refl _ _).alloc (Nat.le_refl _) _
 obtain⟨p,hp⟩: ∃p,w.heap.size=p:=⟨_,rfl⟩;have HT1:Hid (EntB W1 p (.slice ro Nr rc) (.slice ao N ac)):=by rw[←hW1,←hp];exact entB_new _ _ _
 have HB1:=Lib.hid hB1;have HAW:=Lib.hid (HAW0.out W1 hB1);clear hB1 HAW0 hv hE;generalize longE E=lg at HLO0 HCK0 HRK0;generalize checkE E=ck at HCK0 HRK0;go_enter Tryz.func4,Tryz.ntmps4;go_wp2_with fail;refine HAW.out.mono ?_;rintro e w2 ⟨rfl,hB2⟩;have HB2:=Lib.hid (HB1.out.trans (hB2.mono HB1.out.size));have HT2:=Lib.hid (entB_below HT1.out hB2);clear hB2 hW1 HAW HT1 hp;obtain⟨k0,k1⟩:=entB_cells HT2.out;go_wp2_with fail;refine(HLO0.out w2 HB2.out).mono ?_;rintro e w3 ⟨rfl,hB3⟩;have HB3:=Lib.hid (HB2.out.trans (hB3.mono HB2.out.size));have HT3:=Lib.hid (entB_below HT2.out hB3);clear hB3 k0 k1 HT2 HLO0;cases lg with
 | true=>go_wp2_with fail;go_ret;exact⟨rfl,HB3.out⟩
 | false=>
  have HCK:=Lib.hid (HCK0.out rfl);have HRK:=Lib.hid (HRK0.out rfl);clear HCK0 HRK0;obtain⟨k0,k1⟩:=entB_cells HT3.out;have hlk:=World.block_lt_of_cell? w3 _ k0;go_wp2_with fail;refine wp_region_held_drew (S:=fun W=>W.cell? ⟨p,0,none⟩=some (.slice ro Nr rc)∧W.cell? ⟨p,1,none⟩=some (.slice ao N ac)) (by kernel_rfl) (⟨k0,k1⟩) (fun hHeld=> ?_);refine tk 0 ⟨some 7,_,_,_,_,_⟩ rfl ?_;refine tk 2 ⟨some 9,_,_,_,_,_⟩ rfl ?_;refine etw.tc 1 ⟨some 8,_,_,_,_,_⟩ rfl (fun K hK=> ?_);go_simp;go_at_call 19;refine(HCK.out _ (HB3.out.trans (((Below.refl w3.heap.size w3).drew).mono HB3.out.size))).mono ?_;rintro e w4 ⟨rfl,hB4⟩;have hC4:=((Below.refl w3.heap.size w3).drew).trans (hB4.mono ((Below.refl w3.heap.size w3).drew).size);refine hK.out _ _ (⟨(hC4.cell (p:=⟨p,0,none⟩) hlk).trans (k0),(hC4.cell (p:=⟨p,1,none⟩) hlk).trans (k1)⟩) (fun hHeld=> ?_);clear hK;try simp only[Act.put,List.setIfInBounds_toArray,List.set_cons_zero,List.set_cons_succ]
  refine etw.tc 3 ⟨some 10,_,_,_,_,_⟩ rfl (fun K hK=> ?_);go_simp;go_at_call 20;refine(HRK.out _ (HB3.out.trans (hC4.mono HB3.out.size))).mono ?_;rintro e w5 ⟨rfl,hB5⟩;have hC5:=hC4.trans (hB5.mono hC4.size);refine hK.out _ _ (⟨(hC5.cell (p:=⟨p,0,none⟩) hlk).trans (k0),(hC5.cell (p:=⟨p,1,none⟩) hlk).trans (k1)⟩) (fun hHeld=> ?_);clear hK;try simp only[Act.put,List.setIfInBounds_toArray,List.set_cons_zero,List.set_cons_succ]
  refine tk 4 ⟨some 11,_,_,_,_,_⟩ rfl ?_;refine tk 5 ⟨some 2,_,_,_,_,_⟩ rfl ?_;refine wpAnyH_done (by kernel_rfl) ?_ _;have HBZ:=Lib.hid (HB3.out.trans (hC5.mono HB3.out.size));clear hHeld k0 k1 hlk;go_wp2_with fail;go_ret;exact⟨rfl,HBZ.out⟩
end scw
open Go.RowKit Go.ChangeShapes Go.WideShapes Go.Deep
namespace opn
theorem cell_spot {w:World}{b o:Nat}{sp:Option Nat}{v:Value}(h:w.cell? ⟨b,o,sp⟩=some v):sp=none:=by
 cases sp with
 | none=>rfl
 | some x=>unfold World.cell? at h;simp at h;split at h<;>cases h
theorem list_of {α:Type}{Q:Nat→α→Prop}: ∀ (n:Nat),(∀i,i<n→ ∃c,Q i c)→ ∃l:List α,l.length=n∧ ∀i (h:i<l.length),Q i l[i]:=by
 intro n;induction n with
 | zero=>intro _;exact⟨[],rfl,fun i h=>by simp at h⟩
 | succ n ih=>
  intro h;obtain⟨l,hl,hq⟩:=ih (fun i hi=>h i (by omega));obtain⟨c,hc⟩:=h n (by omega);refine⟨l++[c],by simp[hl],fun i hi=> ?_⟩;by_cases e:i<l.length
  ·rw[List.getElem_append_left e];exact hq i e
  ·have:i=n:=(by simp at hi;omega);subst this;rw[List.getElem_append_right (by omega)];simpa using hc
section
variable {H : Type} {enc : TypeId × Value → H} {P : Program} {w : World} {base : Nat} {spare : Nat → Bool} {held : Bool}
theorem open_slice_fields {t e:TypeId}{fs:Array Field}{fuel:Nat}{cs:List Value}{x:DataW H × List MemPlace}(ht:P.underlying t=some (.slice e))(he:P.underlying e=some (.struct fs))
  (hone:oneCellFields P fs=true) (hC:P.cellsOf e=fs.size) (h:DataW.trod enc P w base spare held fuel t cs=some x):
  (cs=[.slice none 0 0]∧x=(.nil,[]))∨
  ∃ (a:Addr) (len cap m:Nat) (D:Nat→DataW H) (Pl:Nat→List MemPlace),cs=[.slice (some a) len cap]∧base≤a.block∧len≤cap∧cap≤maxLen∧m=(if spare a.block then cap else len)∧
   x=(.slice ((List.range len).map D) ((List.range (m-len)).map fun j=>D (len+j)),MemPlace.row a (m*fs.size)++(List.range m).flatMap Pl)∧
   ∀i,i<m→ ∃ (ys:List (DataW H × List MemPlace)) (n:Nat),D i= .agg (ys.map (·.1))∧Pl i=ys.flatMap (·.2)∧ys.length=fs.size∧
    ∀ (j:Nat) (f:Field),fs[j]? =some f→ ∃ (v:Value) (y:DataW H × List MemPlace),w.cell? (a.add (i*fs.size+j))=some v∧ys[j]? =some y∧DataW.trod enc P w base spare held n f.type [v]=some y:=by
 rcases open_slice ht h with h0 | ⟨a,len,cap,m,n,D,Pl,hcs,hb,hl,hm,hmm,hx,hi⟩
 ·exact .inl h0
 ·refine .inr ⟨a,len,cap,m,D,Pl,hcs,hb,hl,hm,hmm,by rw[hC]at hx;exact hx,fun i him=> ?_⟩;obtain⟨cs',hc,ht'⟩:=hi i him;rw[hC]at hc;obtain⟨ys,n',hn',hy,hlen,hyl,hf⟩:=DataW.trod_struct he ht';obtain⟨_,hcl,hat⟩:=World.cells?_some hc;simp only[Prod.mk.injEq]at hy;refine⟨ys,n',hy.1,hy.2,hyl,fun j f hj=> ?_⟩;obtain⟨ho,hk⟩:=hone_of hone j f hj;have hjl:j<fs.size:=(Array.getElem?_eq_some_iff.1 hj).1;have hcell:=hat j hjl;have hv:cs'[j]? =some (cs'[j]'(by omega)):=List.getElem?_eq_getElem (by omega);have h1:=hf j f hj;rw[ho,hk]at h1;have hone':(cs'.drop j).take 1=[cs'[j]'(by omega)]:=by rw[List.drop_eq_getElem_cons (by omega)];rfl
  rw[hone']at h1;have hys:ys[j]? =some (ys[j]'(by omega)):=List.getElem?_eq_getElem (by omega);refine⟨_,_,?_,hys,h1.trans hys⟩;rw[←Go.Deep.add_add,hcell,hv]
end
end opn
open Go.RowKit Go.ChangeShapes Go.WideShapes Go.Deep
namespace dnw
theorem avas_of {H:Type}{enc:TypeId × Value→H}{w:World}{base:Nat}{sp:Nat→Bool}{held:Bool}{cs:List Value}{x:DataW H × List MemPlace}{fuel:Nat}
  (h:DataW.trod enc Tryz.prog w base sp held fuel 23 cs=some x): ∃ (ao:Option Addr) (l:List Av) (cap:Nat),cs=[.slice ao l.length cap]∧l.length≤cap∧l.length≤9223372036854775807∧Avas w ao l:=by
 rcases opn.open_slice_fields Tryz.underlying23 Tryz.underlying51 (by kernel_rfl) (by kernel_rfl) h with⟨hcs,_⟩ | ⟨a,len,cap,m,D,Pl,hcs,_,hlc,hcm,hm,_,hf⟩
 ·exact⟨none,[],0,hcs,Nat.le_refl _,by simp,fun i hi=>by simp at hi⟩
 ·have hlm:len≤m:=by rw[hm];split<;>omega
  have hlmax:len≤9223372036854775807:=by unfold maxLen at hcm;omega
  have key: ∀i,i<len→ ∃c:Av,∃b o,some a=some ⟨b,o,none⟩∧w.cell? ⟨b,o+i*2,none⟩=some (.string c.t)∧w.cell? ⟨b,o+i*2+1,none⟩=some (.string c.v):=by
   intro i hi;obtain⟨ys,n,_,_,_,hfs⟩:=hf i (by omega);obtain⟨v0,y0,c0,_,t0⟩:=hfs 0 _ rfl;obtain⟨v1,y1,c1,_,t1⟩:=hfs 1 _ rfl;obtain⟨k,e0,_⟩:=DataW.trod_string Tryz.underlying9 t0;obtain⟨y,e1,_⟩:=DataW.trod_string Tryz.underlying9 t1;simp only[List.cons.injEq,and_true]at e0 e1;subst e0 e1;have hcell: ∃b o,a=⟨b,o,none⟩:=(by obtain⟨ys0,n0,_,_,_,hfs0⟩:=hf 0 (by omega);obtain⟨v,y,c,_,_⟩:=hfs0 0 _ rfl;obtain⟨b,o,s⟩:=a;have e0:(⟨b,o,s⟩:Addr).add (0*2+0)=⟨b,o,s⟩:=(by unfold Addr.add;rfl);have hc:w.cell? ((⟨b,o,s⟩:Addr).add (0*2+0))=some v:=c;rw[e0]at hc;obtain rfl:=opn.cell_spot hc;exact⟨b,o,rfl⟩);obtain⟨b,o',rfl⟩:=hcell;have ad: ∀j,(⟨b,o',none⟩:Addr).add j=⟨b,o'+j,none⟩:=fun j=>by rw[Addr.add_mid]
   have d0:w.cell? ((⟨b,o',none⟩:Addr).add (i*2+0))=_:=c0;have d1:w.cell? ((⟨b,o',none⟩:Addr).add (i*2+1))=_:=c1;rw[ad]at d0 d1;exact⟨⟨k,y⟩,b,o',rfl,d0,by rw[Nat.add_assoc];exact d1⟩
  obtain⟨l,hl,hq⟩:=opn.list_of len key;subst hl;exact⟨some a,l,cap,hcs,hlc,hlmax,hq⟩
end dnw
open Go.RowKit
namespace tupo
open tupw
theorem cell_spot {w:World}{b o:Nat}{sp:Option Nat}{v:Value}(h:w.cell? ⟨b,o,sp⟩=some v):sp=none:=by
 cases sp with
 | none=>rfl
 | some x=>unfold World.cell? at h;simp at h;split at h<;>cases h
theorem texts_of {H:Type}{enc:TypeId × Value→H}{P:Program}{w:World}{base:Nat}{sp:Nat→Bool}{held:Bool}{t e:TypeId}{d:DataW H}{p:List MemPlace}{ao:Option Addr}{len cap:Nat}
  (ht:P.underlying t=some (.slice e)) (he:P.underlying e=some .string) (hc:P.cellsOf e=1)
  (h: ∃fuel,DataW.trod enc P w base sp held fuel t [.slice ao len cap]=some (d,p)): ∃l:List ByteArray,len=l.length∧Strs w ao l∧(∀s∈l,s.size≤maxLen)∧len≤maxLen∧len≤cap∧(ao=none→len=0∧cap=0):=by
 obtain⟨fuel,h⟩:=h;rcases ChangeShapes.open_strings ht he hc h with⟨hcs,_⟩ | ⟨a,len',cap',ss,hcs,_,hlc,hcm,hlen,_,hcell,hsm⟩
 ·simp at hcs;obtain⟨rfl,rfl,rfl⟩:=hcs;exact⟨[],rfl,fun i hi=>by simp at hi,fun s hs=>by simp at hs,by omega,by omega,fun _=>⟨rfl,rfl⟩⟩
 ·simp at hcs;obtain⟨rfl,rfl,rfl⟩:=hcs;have hle:len≤ss.length:=by rw[hlen];split<;>omega
  refine⟨ss.take len,by simp;omega,fun i hi=> ?_,fun s hs=>hsm s (List.mem_of_mem_take hs),by omega,hlc,fun e=>by simp at e⟩;have hi':i<len:=by simp at hi;omega
  have hc2:=hcell i (by omega);obtain⟨b,o,spt⟩:=a;have hsp:spt=none:=by
   cases spt with
   | none=>rfl
   | some x=>exfalso;have hz:=hcell 0 (by omega);have e0:(⟨b,o,some x⟩:Addr).add 0=⟨b,o,some x⟩:=(by unfold Addr.add;rfl);rw[e0]at hz;exact absurd (cell_spot hz) (by simp)
  subst hsp;refine⟨b,o,rfl,?_⟩;rw[Addr.add_mid]at hc2;rw[hc2,List.getElem_take];simp[List.getD,List.getElem?_eq_getElem (show i<ss.length by omega)]
end tupo
open Go.RowKit Go.ChangeShapes Go.WideShapes Go.Deep
namespace etw
open etp
open dnw (Av Avas)
open tupw (Strs)
theorem strs_any {H:Type}{enc:TypeId × Value→H}{w:World}{base:Nat}{sp:Nat→Bool}{held:Bool}{cs:List Value}{x:DataW H × List MemPlace}{fuel:Nat}
  (h:DataW.trod enc Tryz.prog w base sp held fuel 35 cs=some x): ∃ (ao:Option Addr) (l:List ByteArray) (cap:Nat),cs=[.slice ao l.length cap]∧l.length≤cap∧l.length≤9223372036854775807∧Strs w ao l:=by
 obtain⟨ao,len,cap,hcs⟩: ∃ao len cap,cs=[.slice ao len cap]:=by
  rcases ChangeShapes.open_strings Tryz.underlying35 Tryz.underlying9 (by kernel_rfl) h with⟨hcs,_⟩ | ⟨a,len',cap',ss,hcs,_⟩
  ·exact⟨_,_,_,hcs⟩
  ·exact⟨_,_,_,hcs⟩
 subst hcs;obtain⟨d,p⟩:=x;obtain⟨l,hlen,hS,_,hm,hc,_⟩:=tupo.texts_of Tryz.underlying35 Tryz.underlying9 (by kernel_rfl) ⟨fuel,h⟩;subst hlen;unfold maxLen at hm;exact⟨ao,l,cap,rfl,hc,by omega,hS⟩
theorem ats_of {H:Type}{enc:TypeId × Value→H}{w:World}{base:Nat}{sp:Nat→Bool}{held:Bool}{cs:List Value}{x:DataW H × List MemPlace}{fuel:Nat}
  (h:DataW.trod enc Tryz.prog w base sp held fuel 24 cs=some x): ∃ (ao:Option Addr) (l:List At) (cap:Nat),cs=[.slice ao l.length cap]∧l.length≤cap∧l.length≤9223372036854775807∧Ats w ao l∧ ∀a∈l,a.vs.length≤9223372036854775807:=by
 rcases opn.open_slice_fields Tryz.underlying24 Tryz.underlying43 (by kernel_rfl) (by kernel_rfl) h with⟨hcs,_⟩ | ⟨a,len,cap,m,D,Pl,hcs,_,hlc,hcm,hm,_,hf⟩
 ·exact⟨none,[],0,hcs,Nat.le_refl _,by simp,fun i hi=>by simp at hi,fun a ha=>by simp at ha⟩
 ·have hlm:len≤m:=by rw[hm];split<;>omega
  have hlmax:len≤9223372036854775807:=by unfold maxLen at hcm;omega
  have key: ∀i,i<len→ ∃c:At,(∃b o ax cx,some a=some ⟨b,o,none⟩∧w.cell? ⟨b,o+i*2,none⟩=some (.string c.t)∧w.cell? ⟨b,o+i*2+1,none⟩=some (.slice ax c.vs.length cx)∧c.vs.length≤cx∧Strs w ax c.vs)∧c.vs.length≤9223372036854775807:=by
   intro i hi;obtain⟨ys,n,_,_,_,hfs⟩:=hf i (by omega);obtain⟨v0,y0,c0,_,t0⟩:=hfs 0 _ rfl;obtain⟨v1,y1,c1,_,t1⟩:=hfs 1 _ rfl;obtain⟨k,e0,_⟩:=DataW.trod_string Tryz.underlying9 t0;obtain⟨ax,vs,cx,e1,g1,g2,g3⟩:=strs_any t1;simp only[List.cons.injEq,and_true]at e0 e1;subst e0 e1;have hcell: ∃b o,a=⟨b,o,none⟩:=(by obtain⟨ys0,n0,_,_,_,hfs0⟩:=hf 0 (by omega);obtain⟨v,y,c,_,_⟩:=hfs0 0 _ rfl;obtain⟨b,o,s⟩:=a;have e0:(⟨b,o,s⟩:Addr).add (0*2+0)=⟨b,o,s⟩:=(by unfold Addr.add;rfl);have hc:w.cell? ((⟨b,o,s⟩:Addr).add (0*2+0))=some v:=c;rw[e0]at hc;obtain rfl:=opn.cell_spot hc;exact⟨b,o,rfl⟩);obtain⟨b,o',rfl⟩:=hcell;have ad: ∀j,(⟨b,o',none⟩:Addr).add j=⟨b,o'+j,none⟩:=fun j=>by rw[Addr.add_mid]
   have d0:w.cell? ((⟨b,o',none⟩:Addr).add (i*2+0))=_:=c0;have d1:w.cell? ((⟨b,o',none⟩:Addr).add (i*2+1))=_:=c1;rw[ad]at d0 d1;exact⟨⟨k,vs⟩,⟨b,o',ax,cx,rfl,d0,by rw[Nat.add_assoc];exact d1,g1,g3⟩,g2⟩
  obtain⟨l,hl,hq⟩:=opn.list_of len key;subst hl;refine⟨some a,l,cap,hcs,hlc,hlmax,fun i hi=>(hq i hi).1,fun c hc=> ?_⟩;obtain⟨i,hi,rfl⟩:=List.mem_iff_getElem.1 hc;exact(hq i hi).2
theorem ent_of {H:Type}{enc:TypeId × Value→H}{w:World}{base:Nat}{sp:Nat→Bool}{held:Bool}{r:Reach}{b0:Nat}{v:Value}{d:DataW H}{p:List MemPlace}
  (hv:Value.okWide Tryz.prog w r b0 26 v) (h:DataW.Trod enc Tryz.prog w base sp held 26 v d p): ∃e:En,EntV w v e∧e.rdn.length≤9223372036854775807∧e.ats.length≤9223372036854775807∧ ∀a∈e.ats,a.vs.length≤9223372036854775807:=by
 obtain⟨v0,v1,y0,y1,n,rfl,_,_,h0,h1⟩:=Joins.open_agg2 Tryz.underlying26 (by kernel_rfl) (by kernel_rfl) hv h;obtain⟨ro,l,rc,e0,g0,g1,g2⟩:=dnw.avas_of h0;obtain⟨ao,m,ac,e1,k0,k1,k2,k3⟩:=ats_of h1;simp only[List.cons.injEq,and_true]at e0 e1;subst e0 e1;exact⟨⟨l,m⟩,⟨ro,rc,ao,ac,rfl,g0,k0,g2,k2⟩,g1,k1,k3⟩
end etw
open Go.RowKit
namespace atw
open atp
def tyData:DataW Unit:= .agg (tys.map fun t=> .agg [.lit (.string t.name),.lit (.int .i64 t.syn),.lit (.bool t.single)])
theorem rows_take {α β:Type}(f:β→List α)(n:Nat): ∀ (l:List β) (cs:List α),(∀i (h:i<l.length),(cs.drop (i*n)).take n=f l[i])→cs.take (l.length*n)=l.flatMap f:=by
 intro l;induction l with
 | nil=>intro cs _;simp
 | cons b r ih=>intro cs h;have h0:=h 0 (by simp);rw[Nat.zero_mul,List.drop_zero]at h0;have h1:=ih (cs.drop n) (by intro i hi;have:=h (i+1) (by simp;omega);rw[List.drop_drop,show n+i*n=(i+1)*n by rw[Nat.add_mul,Nat.one_mul,Nat.add_comm]];exact this);rw[List.flatMap_cons,List.length_cons,show(r.length+1)*n=n+r.length*n by rw[Nat.add_mul,Nat.one_mul,Nat.add_comm],List.take_add,h0,h1];rfl
theorem trod_ty {H:Type}{enc:TypeId × Value→H}{w:World}{base:Nat}{sp:Nat→Bool}{held:Bool}{fuel:Nat}{cs:List Value}{q:List MemPlace}{t:Ty}
  (h:DataW.trod enc Tryz.prog w base sp held fuel 108 cs=some (.agg [.lit (.string t.name),.lit (.int .i64 t.syn),.lit (.bool t.single)],q)):cs=tval t:=by
 obtain⟨y0,y1,y2,n,hx,hl,h0,h1,h2⟩:=Deep.trod_struct3 Tryz.underlying108 h;obtain⟨s,e0,rfl,_⟩:=DataW.trod_string Tryz.underlying9 h0;obtain⟨z,e1,rfl,_⟩:=DataW.trod_int Tryz.underlying3 h1;obtain⟨b,e2,rfl⟩:=DataW.trod_bool Tryz.underlying4 h2;have hx1:=congrArg Prod.fst hx;simp only[DataW.agg.injEq,List.cons.injEq,DataW.lit.injEq,Lit.string.injEq,Lit.int.injEq,Lit.bool.injEq,true_and,and_true]at hx1;obtain⟨x0,x1,x2⟩:=hx1;have k0:Tryz.prog.cellsOf 9=1:=by kernel_rfl
 have k1:Tryz.prog.cellsOf 3=1:=by kernel_rfl
 have k2:Tryz.prog.cellsOf 4=1:=by kernel_rfl
 have k3:Tryz.prog.cellsOf 108=3:=by kernel_rfl
 rw[k3]at hl;obtain⟨a,b',c,rfl⟩: ∃a b' c,cs=[a,b',c]:=by
  match cs,hl with
  | [a,b',c],_=>exact⟨a,b',c,rfl⟩
 ·skip
  have e0':[a]=[Value.string s]:=by simpa[k0]using e0
  have e1':[b']=[Value.int .i64 z]:=by simpa[k1]using e1
  have e2':[c]=[Value.bool b]:=by simpa[k2]using e2
  cases e0';cases e1';cases e2';unfold tval bs;rw[x0,x1,x2]
theorem tyEnv_of_reads {w:World}(h:Lib.VarReads Tryz.prog w "rollbook/attr.types" tyData):Hid (TyEnv w):=by
 obtain⟨g,t,cs,fuel,p,hg,hty,hvar,hd⟩:=h;obtain rfl:=Option.some.inj ((show Tryz.prog.globalNamed "rollbook/attr.types" =some 0 by kernel_rfl).symm.trans hg);obtain rfl:=Option.some.inj ((show(Tryz.prog.globals[0]?).map (·.type)=some 169 by kernel_rfl).symm.trans hty);have k3:Tryz.prog.cellsOf 108=3:=by kernel_rfl
 have hall:=rows_take tval 3 tys cs.toList (by intro i hi;obtain⟨fuel',d,q,hdi,he⟩:=Lib.array_elem Tryz.underlying169 hd i hi;rw[List.getElem?_map,List.getElem?_eq_getElem hi]at hdi;simp only[Option.map_some,Option.some.injEq]at hdi;subst hdi;rw[k3]at he;exact trod_ty he);intro j v hj;have hlt:j<60:=by
  have h1:=(List.getElem?_eq_some_iff.1 hj).1;have h2:tcells.length=60:=by kernel_rfl
  omega
 have hj2:(cs.toList.take (tys.length*3))[j]? =some v:=by rw[hall];exact hj
 rw[List.getElem?_take,if_pos (by rw[tys_len];omega)]at hj2;rw[Nat.zero_add,World.var?_cell hg hvar j,←Array.getElem?_toList];exact hj2
end atw
end Go.Proofs.YtmnpfkbjpeaemaaGreatDoor
