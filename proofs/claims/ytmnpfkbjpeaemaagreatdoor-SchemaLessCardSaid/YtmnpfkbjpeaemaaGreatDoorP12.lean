/- One text out of several: AddW, SchI, SchE, SchG, DelT, RemW, ELongW. -/
import Derived.Test.YtmnpfkbjpeaemaaGreatDoorP9
import Derived.Test.YtmnpfkbjpeaemaaGreatDoorP11
import Derived.Test.YtmnpfkbjpeaemaaGreatDoorP10
import Derived.Test.YtmnpfkbjpeaemaaGreatDoorP1
import Derived.Test.YtmnpfkbjpeaemaaGreatDoorRows
import Derived.Deep.QuietTactic
import Derived.BigQuiet
import Derived.Test.YtmnpfkbjpeaemaaGreatDoorP5
import Derived.Test.YtmnpfkbjpeaemaaGreatDoorP6
import Derived.Test.YtmnpfkbjpeaemaaGreatDoorP7
import Derived.Test.YtmnpfkbjpeaemaaGreatDoorP8
set_option linter.unusedVariables false
set_option linter.unusedSimpArgs false
set_option maxRecDepth 100000
set_option maxHeartbeats 8000000
namespace Go.Proofs.YtmnpfkbjpeaemaaGreatDoor
open Go.RowKit
namespace etw
open atp atw etp
open dnw (Av Avas)
open tupw (Strs strs_below)
theorem add_big (v:Value)(E:En)(n:ByteArray)(bo:Option Addr)(bcap:Nat)(l:List ByteArray)(w:World)(hv:Hid (EntV w v E))(hb:Hid (Bk 1000 E))(hS:Hid (Strs w bo l))(hl:l.length≤50)(hlc:l.length≤bcap)(hls:Hid (∀x∈l,x.size≤100000))(hn:n.size≤100000)(hE:Hid (EnvE w)):
  Calls Tryz.prog 61 #[v,.string n,.slice bo l.length bcap] w fun e w'=>ResE (addE E n.data.toList l) w e w':=by
 have HBD:=Lib.hid (bk_bd hb.out (by omega));have HFI0:Hid (∀W,Below w.heap.size w W→Calls Tryz.prog 85 #[v,.string n] W fun e w'=>FindR (findE E n.data.toList) e∧Below W.heap.size W w'):=fun W h=>finde_any v E n W (Lib.hid (entV_below hv.out h)) HBD (by omega) (Lib.hid (envE_below hE.out h));have HFA0:Hid (∀nm syn sg W,Below w.heap.size w W→Calls Tryz.prog 86 #[.agg #[.string nm,.int .i64 syn,.bool sg],.slice bo l.length bcap] W fun e w'=>e= .returned (.int .i64 (faultI syn l))∧Below W.heap.size W w'):=fun nm syn sg W h=>fault_any nm syn sg bo bcap l W (Lib.hid (strs_below hS.out h)) (by omega) (Lib.hid fun x hx=>by have:=hls.out x hx;omega) (Lib.hid (envE_below hE.out h));have HVA0:Hid (∀m W,Below w.heap.size w W→Calls Tryz.prog 88 #[v,.string m] W fun e w'=>ValsE (valsA E.ats m) W e w'):=fun m W h=>vals_any v E m W (Lib.hid (entV_below hv.out h)) HBD;have HWI0:Hid (∀m o c (all:List ByteArray) W,Below w.heap.size w W→Strs W o all→all.length≤1000→all.length≤c→Calls Tryz.prog 91 #[v,.string m,.slice o all.length c] W fun e w'=>EntE (withE E m all) W e w'):=fun m o c all W h hs h1 h2=>with_any v E m o c all W (Lib.hid (entV_below hv.out h)) HBD (Lib.hid hs) (by omega) h2;have HLK0:Hid (∀nm syn sg o c k (all:List ByteArray) x W,Hid (k=all.length)→Strs W o all→k≤1000→(∀y∈all,y.size≤100000)→x.size≤100000→EnvE W→Calls Tryz.prog 89 #[.agg #[.string nm,.int .i64 syn,.bool sg],.slice o k c,.string x] W fun e w'=>e= .returned (.int .i64 (likeI syn all x))∧Below W.heap.size W w'):=by intro nm syn sg o c k all x W hk hs h1 h2 h3 he;have:=like_any nm syn sg o c all x W (Lib.hid hs) (by rw[←hk.out];omega) (Lib.hid fun y hy=>by have:=h2 y hy;omega) (by omega) (Lib.hid he);rw[←hk.out]at this;exact this
 have HVL:=Lib.hid (bk_vals hb.out);have HRES:Hid (addE E n.data.toList l=match findE E n.data.toList with
  | .error f=> .error f
  | .ok ty=>if l=[]then .error 1 else if faultI ty.syn l≠0 then .error (faultI ty.syn l)else match joinF ty.syn (valsA E.ats (bs ty.name)) l with
   | none=> .error 8
   | some all=>if mostT ty.single<all.length then .error 9 else .ok (withE E (bs ty.name) all)):=rfl
 obtain⟨RR,hRR⟩: ∃r,addE E n.data.toList l=r:=⟨_,rfl⟩;rw[hRR]at HRES ⊢;have HR:=Lib.hid HRES.out.symm;clear HRES hRR;obtain⟨ro,rc,ao,ac,Nr,N,rfl,HN,HA,hac,HNr,HAv,hrc⟩:=ent_form hv.out;obtain⟨W1,hW1⟩: ∃W,w.alloc (.cells #[.slice ro Nr rc,.slice ao N ac] 26)=W:=⟨_,rfl⟩;have hB1:Below w.heap.size w W1:=by rw[←hW1];exact(Below.refl _ _).alloc (Nat.le_refl _) _
 have hT1:EntB W1 w.heap.size (.slice ro Nr rc) (.slice ao N ac):=by rw[←hW1];exact entB_new _ _ _
 obtain⟨W2,hW2⟩: ∃W,W1.alloc (.cells #[.slice none 0 0,.slice none 0 0] 26)=W:=⟨_,rfl⟩;have hB2:Below W1.heap.size W1 W2:=by rw[←hW2];exact(Below.refl _ _).alloc (Nat.le_refl _) _
 obtain⟨q,hqq⟩: ∃q,W1.heap.size=q:=⟨_,rfl⟩;have hqw:w.heap.size≤q:=by rw[←hqq];exact hB1.size
 have hQ2:EntB W2 q (.slice none 0 0) (.slice none 0 0):=by rw[←hW2,←hqq];exact entB_new _ _ _
 have HB2:=Lib.hid (hB1.trans (hB2.mono hB1.size));have HT2:=Lib.hid (entB_below hT1 hB2);have HQ2:=Lib.hid hQ2;obtain⟨k0,k1⟩:=entB_cells HT2.out;have hz2:=HB2.out.size;clear hB1 hB2 hT1 hQ2 hv;have HFI:=Lib.hid (HFI0.out W2 HB2.out);clear HFI0;have HKL:Hid (l=[]↔l.length=0):=List.length_eq_zero_iff.symm;obtain⟨K,hK⟩: ∃K,l.length=K:=⟨_,rfl⟩;rw[hK]at HFA0 HKL hl hlc ⊢;have HK:=Lib.hid hK;clear hK;go_enter Tryz.func61,Tryz.ntmps61;go_wp2_with fail;refine HFI.out.mono ?_;rintro e w3 ⟨hfr,hB3⟩;have HB3:=Lib.hid (HB2.out.trans (hB3.mono hz2));have HT3:=Lib.hid (entB_below HT2.out hB3);have HQ3:=Lib.hid (entB_below HQ2.out hB3);clear hB3 k0 k1 hW1 hW2 HFI hqq;cases hfe:findE E n.data.toList with
 | error f=>
  rw[hfe]at hfr HR;have hfr2:e= .returned (.tuple #[.agg #[.string ⟨#[]⟩,.int .i64 0,.bool false],.int .i64 f]):=hfr;have hf0:f≠0:=find_err hfe;have qf:(f !=0)=true:=by rw[bne_iff_ne];exact hf0
  subst hfr2;clear hfr hfe hf0;have hB4:Below w3.heap.size w3 (w3.alloc (.cells #[.string ⟨#[]⟩,.int .i64 0,.bool false] 108)):=(Below.refl _ _).alloc (Nat.le_refl _) _;have HBX:=Lib.hid (HB3.out.trans (hB4.mono HB3.out.size));have HQ:=Lib.hid (entB_below HQ3.out hB4);clear hB4;obtain⟨v0,v1⟩:=entB_cells HQ.out;have f0:=Lib.frozen_of_heap HQ.out 0;have f1:=Lib.frozen_of_heap HQ.out 1;have hq1:=entB_set0 HQ.out (.slice none 0 0);have hq2:=entB_set1 hq1 (.slice none 0 0);have HQC:=Lib.hid (entB_cells hq2);have HBF:=Lib.hid ((HBX.out.setCell (p:=⟨q,0,none⟩) hqw (.slice none 0 0)).setCell (p:=⟨q,1,none⟩) hqw (.slice none 0 0));clear hq1 hq2;go_wp2_with fail;obtain⟨r0,r1⟩:=HQC.out;refine bodyPost_ret (v:= .tuple #[.agg #[.slice none 0 0,.slice none 0 0],.int .i64 f]) (by rw[results_cell_tmp rfl];go_simp) rfl ?_;exact⟨HBF.out,(by rw[←HR.out])⟩
 | ok ty=>
  rw[hfe]at hfr HR;have hfr2:e= .returned (.tuple #[.agg #[.string (bs ty.name),.int .i64 ty.syn,.bool ty.single],.int .i64 0]):=hfr;subst hfr2;clear hfr;simp only at HR;have HNS:Hid ((bs ty.name).size≤1000):=name_size (findE_ok hfe).2;clear hfe;have HMO:Hid (∀nm W,Calls Tryz.prog 123 #[.agg #[.string nm,.int .i64 ty.syn,.bool ty.single]] W fun e w'=>e= .returned (.int .i64 (mostT ty.single:Int))∧Below W.heap.size W w'):=fun nm W=>room_any nm ty.syn ty.single W;have hm20:mostT ty.single≤20:=by unfold mostT;split<;>omega
  generalize bs ty.name=nm at HNS HR;generalize ty.syn=syn at HMO HR;generalize ty.single=sg at HMO hm20 HR;generalize mostT sg=MX at HMO hm20 HR;obtain⟨w4,hw4⟩: ∃W,w3.alloc (.cells #[.string nm,.int .i64 syn,.bool sg] 108)=W:=⟨_,rfl⟩;have hB4:Below w3.heap.size w3 w4:=by rw[←hw4];exact(Below.refl _ _).alloc (Nat.le_refl _) _
  obtain⟨tb,htb⟩: ∃tb,w3.heap.size=tb:=⟨_,rfl⟩;have HY4:Hid (TB w4 tb nm syn sg):=by rw[←hw4,←htb];exact tb_new _ _ _ _
  have HB4:=Lib.hid (HB3.out.trans (hB4.mono HB3.out.size));have HT4:=Lib.hid (entB_below HT3.out hB4);have HQ4:=Lib.hid (entB_below HQ3.out hB4);obtain⟨y0,y1,y2⟩:=tb_cells HY4.out;clear hB4;by_cases hK0:K=0
  ·have hl0:=HKL.out.2 hK0;have dk:((K:Int)==0)=true:=(by rw[beq_iff_eq];omega);rw[if_pos hl0]at HR;clear hl0;have HBX:=HB4;have HQ:=HQ4;clear hK0;obtain⟨v0,v1⟩:=entB_cells HQ.out;have f0:=Lib.frozen_of_heap HQ.out 0;have f1:=Lib.frozen_of_heap HQ.out 1;have hq1:=entB_set0 HQ.out (.slice none 0 0);have hq2:=entB_set1 hq1 (.slice none 0 0);have HQC:=Lib.hid (entB_cells hq2);have HBF:=Lib.hid ((HBX.out.setCell (p:=⟨q,0,none⟩) hqw (.slice none 0 0)).setCell (p:=⟨q,1,none⟩) hqw (.slice none 0 0));clear hq1 hq2;go_wp2_with fail;obtain⟨r0,r1⟩:=HQC.out;refine bodyPost_ret (v:= .tuple #[.agg #[.slice none 0 0,.slice none 0 0],.int .i64 1]) (by rw[results_cell_tmp rfl];go_simp) rfl ?_;exact⟨HBF.out,(by rw[←HR.out])⟩
  ·have dk:((K:Int)==0)=false:=(by rw[beq_eq_false_iff_ne];omega);rw[if_neg (fun h=>hK0 (HKL.out.1 h))]at HR;have hKp:0<K:=(by omega);clear hK0;have HFA:=Lib.hid (HFA0.out nm syn sg w4 HB4.out);clear HFA0;generalize faultI syn l=fa at HFA HR;go_wp2_with fail;refine HFA.out.mono ?_;rintro e w5 ⟨rfl,hB5⟩;have HB5:=Lib.hid (HB4.out.trans (hB5.mono HB4.out.size));have HT5:=Lib.hid (entB_below HT4.out hB5);have HQ5:=Lib.hid (entB_below HQ4.out hB5);have HY5:=Lib.hid (tb_below HY4.out hB5);clear hB5 y0 y1 y2 hw4 htb;by_cases hfa:fa=0
   ·have qa:(fa !=0)=false:=(by rw[bne_eq_false_iff_eq];exact hfa);rw[if_neg (not_not_intro hfa)]at HR;clear hfa;have HVA:=Lib.hid (HVA0.out nm w5 HB5.out);have HV1:=HVL.out nm;have hvl1:=HV1.1;have HV2:=Lib.hid HV1.2;clear HVA0 HVL HV1;obtain⟨e0,e1⟩:=entB_cells HT5.out;obtain⟨y0,y1,y2⟩:=tb_cells HY5.out;have HWI:Hid (∀o c (all:List ByteArray) W,Below w.heap.size w W→Strs W o all→all.length≤1000→all.length≤c→Calls Tryz.prog 91 #[.agg #[.slice ro Nr rc,.slice ao N ac],.string nm,.slice o all.length c] W fun e w'=>EntE (withE E nm all) W e w'):=fun o c all W=>HWI0.out nm o c all W;clear HWI0;generalize valsA E.ats nm=p0 at HVA HV2 hvl1 HR;go_wp2_with fail;refine HVA.out.mono ?_;rintro e w6 ⟨x6,rfl,hx6,hB6⟩;have HCL:=Lib.hid (clone_any x6 p0 w6 hx6 (by omega));have HB6:=Lib.hid (HB5.out.trans (hB6.mono HB5.out.size));have HT6:=Lib.hid (entB_below HT5.out hB6);have HQ6:=Lib.hid (entB_below HQ5.out hB6);have HY6:=Lib.hid (tb_below HY5.out hB6);clear hx6 hB6 e0 e1 y0 y1 y2;go_wp2_with fail;refine HCL.out.mono ?_;rintro e w7 ⟨x7,rfl,ho7,hB7⟩;have HO7:=Lib.hid ho7;obtain⟨a7,n7,c7,rfl,hn7⟩:=dnw.ownT_form ho7;have HB67:=Lib.hid hB7;clear ho7 hB7 HCL;go_wp2_with fail;go_loopw [11,44] (fun av iv wr=> ∃ (i:Nat) (all:List ByteArray),i≤K∧iv= .int .i64 (i:Int)∧Hid (prw.OwnT wr w6.heap.size av all)∧Hid (Below w6.heap.size w6 wr)∧Hid (joinF syn p0 l=joinF syn all (l.drop i))∧Hid (all.length≤100+i)∧Hid (∀y∈all,y.size≤100000)) (fun _ iv _=>K- (intOf iv).toNat);case atStart=>exact⟨0,p0,Nat.zero_le _,rfl,HO7.out,HB67.out,rfl,(by show _≤_;omega),(fun y hy=>by have:=HV2.out y hy;omega)⟩
    case round=>
     obtain⟨i,all,hi,rfl,hO,hBr,hJ,hLN,hSZ⟩:=hrel;obtain⟨aR,nR,cR,rfl,hnR⟩:=dnw.ownT_form hO.out;have hszr:=hBr.out.size;have HBr:=Lib.hid (HB6.out.trans (hBr.out.mono HB6.out.size));have HTr:=Lib.hid (entB_below HT6.out hBr.out);have HQr:=Lib.hid (entB_below HQ6.out hBr.out);have HYr:=Lib.hid (tb_below HY6.out hBr.out);obtain⟨y0,y1,y2⟩:=tb_cells HYr.out;have hnR100:nR≤200:=(by rw[hnR.out];have:=hLN.out;omega);by_cases hlt:i<K
     ·have hltI:(i:Int)<(K:Int):=(by omega);have hil:i<l.length:=(by rw[HK.out];exact hlt);obtain⟨b,o,hbo,hc0⟩:=(strs_below hS.out HBr.out) i hil;subst hbo;have HST:=Lib.hid (join_step (syn:=syn) (all:=all) hil);have hxs:=hls.out l[i] (List.getElem_mem _);obtain⟨x,hx⟩: ∃x,l[i]=x:=⟨_,rfl⟩;rw[hx]at hc0 HST hxs;clear hx;have HLK:=Lib.hid (HLK0.out nm syn sg aR cR nR all x wr hnR (by obtain⟨g1,g2,g3,g4⟩:=elem_form (own_elem hO.out);simp only[Value.slice.injEq]at g4;obtain⟨⟨rfl,rfl,rfl⟩,_,_,g5⟩:=g4;exact g5) (by omega) hSZ.out hxs (envE_below hE.out HBr.out));generalize hlk:likeI syn all x=lk at HLK HST;clear hlk;by_cases hneg:lk<0
      ·have q2:decide ((0:Int)≤lk)=false:=decide_eq_false (by omega);have HJ:Hid (joinF syn p0 l=joinF syn (all++[x]) (l.drop (i+1))):=(by show _=_;rw[hJ.out,HST.out,if_pos hneg]);clear hneg HST;go_wp2_with fail;refine HLK.out.mono ?_;rintro e w8 ⟨rfl,hB8⟩;have hBr8:=hBr.out.trans (hB8.mono hszr);obtain⟨a9,m9,c9,w9,hap,hO9,_,hB9⟩:=dnw.ownT_appG x (dnw.ownT_below hO.out hB8) (by have:=hLN.out;omega) hBr8.size;have HO9:=Lib.hid hO9;have HB9:=Lib.hid (hBr8.trans hB9);have HLN9:Hid ((all++[x]).length≤100+(i+1)):=(by show _≤_;rw[List.length_append];have:=hLN.out;simp only[List.length_cons,List.length_nil];omega);have HSZ9:Hid (∀y∈all++[x],y.size≤100000):=fun y hy=>by
        rcases List.mem_append.1 hy with hy | hy
        ·exact hSZ.out y hy
        ·rw[List.mem_singleton]at hy;rw[hy];exact hxs
       clear hO9 hB9 hBr8 hB8 y0 y1 y2 hc0;go_wp2_with (at_builtin;refine Lib.wpList_append_run _ rfl _ _ _ _ rfl _ _ rfl rfl _ _ hap ?_);go_roundw;case rel=>exact⟨i+1,all++[x],by omega,by go_num,HO9.out,HB9,HJ,HLN9,HSZ9⟩
       case measure=>simp[intOf];omega
      ·have q2:decide ((0:Int)≤lk)=true:=decide_eq_true (by omega);have HJ:Hid (joinF syn p0 l=none):=(by show _=_;rw[hJ.out,HST.out,if_neg hneg]);rw[HJ.out]at HR;clear hneg HST HJ;simp only at HR;go_wp2_with fail;refine HLK.out.mono ?_;rintro e w8 ⟨rfl,hB8⟩;have HBX:=Lib.hid (HBr.out.trans (hB8.mono HBr.out.size));have HQ:=Lib.hid (entB_below HQr.out hB8);clear hB8 y0 y1 y2 hc0;obtain⟨v0,v1⟩:=entB_cells HQ.out;have f0:=Lib.frozen_of_heap HQ.out 0;have f1:=Lib.frozen_of_heap HQ.out 1;have hq1:=entB_set0 HQ.out (.slice none 0 0);have hq2:=entB_set1 hq1 (.slice none 0 0);have HQC:=Lib.hid (entB_cells hq2);have HBF:=Lib.hid ((HBX.out.setCell (p:=⟨q,0,none⟩) hqw (.slice none 0 0)).setCell (p:=⟨q,1,none⟩) hqw (.slice none 0 0));clear hq1 hq2;go_wp2_with fail;obtain⟨r0,r1⟩:=HQC.out;refine bodyPost_ret (v:= .tuple #[.agg #[.slice none 0 0,.slice none 0 0],.int .i64 8]) (by rw[results_cell_tmp rfl];go_simp) rfl ?_;exact⟨HBF.out,(by rw[←HR.out])⟩
     ·obtain rfl:K=i:=(by omega);have HJ:Hid (joinF syn p0 l=some all):=(by show _=_;rw[hJ.out,←HK.out,List.drop_length];rfl);rw[HJ.out]at HR;simp only at HR;rw[←hnR.out]at HR;clear HJ;by_cases hmx:MX<nR
      ·have q3:decide (MX<nR)=true:=decide_eq_true hmx;rw[if_pos hmx]at HR;clear hmx;go_wp2_with fail;refine(HMO.out _ _).mono ?_;rintro e w8 ⟨rfl,hB8⟩;have HBX:=Lib.hid (HBr.out.trans (hB8.mono HBr.out.size));have HQ:=Lib.hid (entB_below HQr.out hB8);clear hB8 y0 y1 y2;obtain⟨v0,v1⟩:=entB_cells HQ.out;have f0:=Lib.frozen_of_heap HQ.out 0;have f1:=Lib.frozen_of_heap HQ.out 1;have hq1:=entB_set0 HQ.out (.slice none 0 0);have hq2:=entB_set1 hq1 (.slice none 0 0);have HQC:=Lib.hid (entB_cells hq2);have HBF:=Lib.hid ((HBX.out.setCell (p:=⟨q,0,none⟩) hqw (.slice none 0 0)).setCell (p:=⟨q,1,none⟩) hqw (.slice none 0 0));clear hq1 hq2;go_wp2_with fail;obtain⟨r0,r1⟩:=HQC.out;refine bodyPost_ret (v:= .tuple #[.agg #[.slice none 0 0,.slice none 0 0],.int .i64 9]) (by rw[results_cell_tmp rfl];go_simp) rfl ?_;exact⟨HBF.out,(by rw[←HR.out])⟩
      ·have q3:decide (MX<nR)=false:=decide_eq_false hmx;rw[if_neg hmx]at HR;go_wp2_with fail;refine(HMO.out _ _).mono ?_;rintro e w8 ⟨rfl,hB8⟩;have HB8:=Lib.hid (HBr.out.trans (hB8.mono HBr.out.size));obtain⟨e0,e1⟩:=entB_cells (entB_below HTr.out hB8);have HQ8:=Lib.hid (entB_below HQr.out hB8);have hz8:=(tb_cells (tb_below HYr.out hB8)).1;obtain⟨g1,g2,g3,g4⟩:=elem_form (elem_below (own_elem hO.out) hB8);simp only[Value.slice.injEq]at g4;obtain⟨⟨rfl,rfl,rfl⟩,g5,g6,g7⟩:=g4;have HWC0:=HWI.out aR cR all w8 HB8.out g7 (by rw[←g5.out];omega) (by rw[←g5.out];exact g6);rw[←g5.out]at HWC0;have HWC:=Lib.hid HWC0;clear hB8 y0 y1 y2 g5 g6 g7 HWC0 hmx;go_wp2_with fail;refine HWC.out.mono ?_;rintro e w9 ⟨v9,rfl,hv9,hB9⟩;obtain⟨r1,n1,c1,r2,n2,c2,rfl⟩:=ent_agg hv9;have HV:=Lib.hid hv9;have HBX:=Lib.hid (HB8.out.trans (hB9.mono HB8.out.size));have HQ:=Lib.hid (entB_below HQ8.out hB9);clear hv9 hB9 e0 e1 hz8;obtain⟨v0,v1⟩:=entB_cells HQ.out;have f0:=Lib.frozen_of_heap HQ.out 0;have f1:=Lib.frozen_of_heap HQ.out 1;have hq1:=entB_set0 HQ.out (.slice r1 n1 c1);have hq2:=entB_set1 hq1 (.slice r2 n2 c2);have HQC:=Lib.hid (entB_cells hq2);have HBF:=Lib.hid ((HBX.out.setCell (p:=⟨q,0,none⟩) hqw (.slice r1 n1 c1)).setCell (p:=⟨q,1,none⟩) hqw (.slice r2 n2 c2));have HVF:=Lib.hid (entV_set (entV_set HV.out HQ.out (noS_slice _ _ _) (noS_slice _ _ _) 0 (.slice r1 n1 c1)) hq1 (noS_slice _ _ _) (noS_slice _ _ _) 1 (.slice r2 n2 c2));clear hq1 hq2;go_wp2_with fail;obtain⟨r0,r1'⟩:=HQC.out;refine bodyPost_ret (v:= .tuple #[.agg #[.slice r1 n1 c1,.slice r2 n2 c2],.int .i64 0]) (by rw[results_cell_tmp rfl];go_simp) rfl ?_;exact⟨HBF.out,(by rw[←HR.out];exact⟨_,rfl,HVF.out⟩)⟩
   ·have qa:(fa !=0)=true:=(by rw[bne_iff_ne];exact hfa);rw[if_pos hfa]at HR;have HBX:=HB5;have HQ:=HQ5;clear hfa;obtain⟨v0,v1⟩:=entB_cells HQ.out;have f0:=Lib.frozen_of_heap HQ.out 0;have f1:=Lib.frozen_of_heap HQ.out 1;have hq1:=entB_set0 HQ.out (.slice none 0 0);have hq2:=entB_set1 hq1 (.slice none 0 0);have HQC:=Lib.hid (entB_cells hq2);have HBF:=Lib.hid ((HBX.out.setCell (p:=⟨q,0,none⟩) hqw (.slice none 0 0)).setCell (p:=⟨q,1,none⟩) hqw (.slice none 0 0));clear hq1 hq2;go_wp2_with fail;obtain⟨r0,r1⟩:=HQC.out;refine bodyPost_ret (v:= .tuple #[.agg #[.slice none 0 0,.slice none 0 0],.int .i64 fa]) (by rw[results_cell_tmp rfl];go_simp) rfl ?_;exact⟨HBF.out,(by rw[←HR.out])⟩
theorem add_any (v:Value)(E:En)(n:ByteArray)(bo:Option Addr)(bcap:Nat)(l:List ByteArray)(w:World)(hv:Hid (EntV w v E))(hb:Hid (Bk 1000 E))(hS:Hid (Strs w bo l))(hl:l.length≤50)(hlc:l.length≤bcap)(hls:Hid (∀x∈l,x.size≤1200))(hn:n.size≤1000)(hE:Hid (EnvE w)):
  Calls Tryz.prog 61 #[v,.string n,.slice bo l.length bcap] w fun e w'=>ResE (addE E n.data.toList l) w e w':=
 add_big v E n bo bcap l w hv hb hS hl hlc (Lib.hid fun x hx=>by have:=hls.out x hx;omega) (by omega) hE
end etw
open Go.RowKit
namespace scw
open scp atp atw etp etw
open dnw (Av Avas)
open tupw (Strs strs_below)
def cnB:ByteArray:=⟨#[99,110]⟩
def ocB:ByteArray:=⟨#[111,98,106,101,99,116,99,108,97,115,115]⟩
def snB:ByteArray:=⟨#[115,110]⟩
def aB:ByteArray:=⟨#[97]⟩
def bB:ByteArray:=⟨#[98]⟩
def peB:ByteArray:=⟨#[112,101,114,115,111,110]⟩
def awS:En:=⟨[⟨cnB,aB⟩],[⟨cnB,[aB]⟩,⟨ocB,[peB]⟩]⟩
def awT:En:=⟨[⟨cnB,aB⟩],[⟨cnB,[aB]⟩,⟨ocB,[peB]⟩,⟨snB,[bB]⟩]⟩
theorem aws_add:addE awS [115,110] [bB]= .ok awT:=by kernel_rfl
theorem aws_check:checkE awS=15:=by decide+kernel
theorem awt_check:checkE awT=0:=by decide+kernel
theorem aws_bk:Bk 1000 awS:=by
 refine⟨by decide,fun a ha=> ?_,by decide,fun a ha=> ?_⟩
 ·unfold awS at ha;simp only[List.mem_singleton]at ha;subst ha;exact⟨by decide,by decide⟩
 ·unfold awS at ha;simp only[List.mem_cons,List.not_mem_nil,or_false]at ha;rcases ha with rfl | rfl
  ·refine⟨by decide,by decide,fun v hv=> ?_⟩;simp only[List.mem_singleton]at hv;subst hv;decide
  ·refine⟨by decide,by decide,fun v hv=> ?_⟩;simp only[List.mem_singleton]at hv;subst hv;decide
theorem sawake_any (w:World)(hE:Hid (EnvE w)):Calls Tryz.prog 17 #[] w fun e w'=>e= .returned (.bool true)∧Below w.heap.size w w':=by
 obtain⟨W1,hW1⟩: ∃W,w.alloc (.cells #[.string ⟨#[99,110]⟩,.string ⟨#[97]⟩] 51)=W:=⟨_,rfl⟩;have hB1:Below w.heap.size w W1:=by rw[←hW1];exact(Below.refl _ _).alloc (Nat.le_refl _) _
 have hA1:AvaB W1 w.heap.size cnB aB:=by rw[←hW1];exact avaB_new _ _ _
 obtain⟨W2,hW2⟩: ∃W,W1.alloc (.cells #[.string ⟨#[97]⟩] 9)=W:=⟨_,rfl⟩;have hB2:Below W1.heap.size W1 W2:=by rw[←hW2];exact(Below.refl _ _).alloc (Nat.le_refl _) _
 have hV2:VB W2 W1.heap.size aB:=by rw[←hW2];exact vb_new _ _
 obtain⟨W3,hW3⟩: ∃W,W2.alloc (.cells #[.string ⟨#[112,101,114,115,111,110]⟩] 9)=W:=⟨_,rfl⟩;have hB3:Below W2.heap.size W2 W3:=by rw[←hW3];exact(Below.refl _ _).alloc (Nat.le_refl _) _
 have hV3:VB W3 W2.heap.size peB:=by rw[←hW3];exact vb_new _ _
 obtain⟨W4,hW4⟩: ∃W,W3.alloc (.cells #[.string ⟨#[99,110]⟩,.slice (some ⟨W1.heap.size,0,none⟩) 1 1,.string ⟨#[111,98,106,101,99,116,99,108,97,115,115]⟩,.slice (some ⟨W2.heap.size,0,none⟩) 1 1] 43)=W:=⟨_,rfl⟩;have hB4:Below W3.heap.size W3 W4:=by rw[←hW4];exact(Below.refl _ _).alloc (Nat.le_refl _) _
 have hT4:W4.heap[W3.heap.size]? =some (.cells #[.string ⟨#[99,110]⟩,.slice (some ⟨W1.heap.size,0,none⟩) 1 1,.string ⟨#[111,98,106,101,99,116,99,108,97,115,115]⟩,.slice (some ⟨W2.heap.size,0,none⟩) 1 1] 43 (0,0)):=by rw[←hW4];exact heap_alloc_new _ _
 obtain⟨W5,hW5⟩: ∃W,W4.alloc (.cells #[.slice (some ⟨w.heap.size,0,none⟩) 1 1,.slice (some ⟨W3.heap.size,0,none⟩) 2 2] 26)=W:=⟨_,rfl⟩;have hB5:Below W4.heap.size W4 W5:=by rw[←hW5];exact(Below.refl _ _).alloc (Nat.le_refl _) _
 have hE5:EntB W5 W4.heap.size (.slice (some ⟨w.heap.size,0,none⟩) 1 1) (.slice (some ⟨W3.heap.size,0,none⟩) 2 2):=by rw[←hW5];exact entB_new _ _ _
 have hA5:=avaB_cells (avaB_below (avaB_below (avaB_below (avaB_below hA1 hB2) hB3) hB4) hB5);have hV5:=vb_cell (vb_below (vb_below (vb_below hV2 hB3) hB4) hB5);have hV6:=vb_cell (vb_below (vb_below hV3 hB4) hB5);have hT5:W5.heap[W3.heap.size]? =_:=(hB5.block _ (kt.bld_lt hT4)).trans hT4;have hT50:W5.cell? ⟨W3.heap.size,0,none⟩=some (.string cnB):=by rw[Lib.cell_of_heap hT5];rfl
 have hT51:W5.cell? ⟨W3.heap.size,1,none⟩=some (.slice (some ⟨W1.heap.size,0,none⟩) 1 1):=by rw[Lib.cell_of_heap hT5];rfl
 have hT52:W5.cell? ⟨W3.heap.size,2,none⟩=some (.string ocB):=by rw[Lib.cell_of_heap hT5];rfl
 have hT53:W5.cell? ⟨W3.heap.size,3,none⟩=some (.slice (some ⟨W2.heap.size,0,none⟩) 1 1):=by rw[Lib.cell_of_heap hT5];rfl
 have HV5:Hid (EntV W5 (.agg #[.slice (some ⟨w.heap.size,0,none⟩) 1 1,.slice (some ⟨W3.heap.size,0,none⟩) 2 2]) awS):=by
  refine⟨_,1,_,2,rfl,Nat.le_refl _,Nat.le_refl _,fun i hi=> ?_,fun i hi=> ?_⟩
  ·have h0:i=0:=(by have:i<1:=hi;omega);subst h0;exact⟨_,0,rfl,hA5.1,hA5.2⟩
  ·have h0:i=0∨i=1:=(by have:i<2:=hi;omega);rcases h0 with rfl | rfl
   ·refine⟨_,0,_,1,rfl,hT50,hT51,Nat.le_refl _,fun j hj=> ?_⟩;have h1:j=0:=(by have:j<1:=hj;omega);subst h1;exact⟨_,0,rfl,hV5⟩
   ·refine⟨_,0,_,1,rfl,hT52,hT53,Nat.le_refl _,fun j hj=> ?_⟩;have h1:j=0:=(by have:j<1:=hj;omega);subst h1;exact⟨_,0,rfl,hV6⟩
 have hB05:=hB1.trans ((hB2.trans ((hB3.trans ((hB4.trans (hB5.mono hB4.size)).mono hB3.size)).mono hB2.size)).mono hB1.size);have HB5:=Lib.hid hB05;obtain⟨W6,hW6⟩: ∃W,W5.alloc (.cells #[.string ⟨#[98]⟩] 9)=W:=⟨_,rfl⟩;have hB6:Below W5.heap.size W5 W6:=by rw[←hW6];exact(Below.refl _ _).alloc (Nat.le_refl _) _
 have hV7:VB W6 W5.heap.size bB:=by rw[←hW6];exact vb_new _ _
 have hB56:=hB05.trans (hB6.mono hB05.size);have HB6:=Lib.hid hB6;have HAD0:=add_any _ awS snB (some ⟨W5.heap.size,0,none⟩) 1 [bB] W6 (Lib.hid (entV_below HV5.out hB6)) (Lib.hid aws_bk) (Lib.hid fun i hi=>by
  have h0:i=0:=by have:i<1:=hi;omega
  subst h0;exact⟨_,0,rfl,vb_cell hV7⟩) (by decide) (by decide) (Lib.hid fun x hx=>by simp only[List.mem_singleton]at hx;subst hx;decide) (by decide) (Lib.hid (envE_below hE.out hB56))
 rw[show addE awS snB.data.toList [bB]= .ok awT from aws_add]at HAD0;have HAD:Hid (Calls Tryz.prog 61 #[.agg #[.slice (some ⟨w.heap.size,0,none⟩) 1 1,.slice (some ⟨W3.heap.size,0,none⟩) 2 2],.string ⟨#[115,110]⟩,.slice (some ⟨W5.heap.size,0,none⟩) 1 1] W6 fun e w'=> ∃r1 n1 c1 r2 n2 c2,e= .returned (.tuple #[.agg #[.slice r1 n1 c1,.slice r2 n2 c2],.int .i64 0])∧EntV w' (.agg #[.slice r1 n1 c1,.slice r2 n2 c2]) awT∧Below W6.heap.size W6 w'):=HAD0.mono fun e w' h=>by obtain⟨hb,v,he,hv⟩:=h;obtain⟨r1,n1,c1,r2,n2,c2,rfl⟩:=ent_agg hv;exact⟨_,_,_,_,_,_,he,hv,hb⟩
 have HBT:Hid (Bd awT):=bk_bd (bk_add aws_bk (fun x hx=>by rw[List.mem_singleton]at hx;rw[hx];decide) aws_add) (by omega);have HC1:Hid (∀W,Below W5.heap.size W5 W→Calls Tryz.prog 19 #[.agg #[.slice (some ⟨w.heap.size,0,none⟩) 1 1,.slice (some ⟨W3.heap.size,0,none⟩) 2 2]] W fun e w'=>e= .returned (.int .i64 15)∧Below W.heap.size W w'):=fun W h=>by have:=check_any _ awS W (Lib.hid (entV_below HV5.out h)) (Lib.hid (bk_bd aws_bk (by omega))) (Lib.hid (envE_below hE.out (HB5.out.trans (h.mono HB5.out.size))));rw[aws_check]at this;exact this
 have HC2:Hid (∀v W,Below W5.heap.size W5 W→EntV W v awT→Calls Tryz.prog 19 #[v] W fun e w'=>e= .returned (.int .i64 0)∧Below W.heap.size W w'):=fun v W h hv=>by have:=check_any v awT W (Lib.hid hv) HBT (Lib.hid (envE_below hE.out (HB5.out.trans (h.mono HB5.out.size))));rw[awt_check]at this;exact this
 obtain⟨k0,k1⟩:=entB_cells hE5;have HE5:=Lib.hid hE5;have HE6:=Lib.hid (entB_below hE5 hB6);have hz5:=HB5.out.size;clear hB1 hA1 hB2 hV2 hB3 hV3 hB4 hT4 hB5 hE5 hA5 hV5 hV6 hT5 hT50 hT51 hT52 hT53 hB05 hB6 hV7 hB56 HAD0;go_enter Tryz.func17,Tryz.ntmps17;go_wp2_with fail;refine HAD.out.mono ?_;rintro e w7 ⟨r1,n1,c1,r2,n2,c2,rfl,hv7,hB7⟩;have HB57:=Lib.hid (HB6.out.trans (hB7.mono HB6.out.size));obtain⟨W8,hW8⟩: ∃W,w7.alloc (.cells #[.slice r1 n1 c1,.slice r2 n2 c2] 26)=W:=⟨_,rfl⟩;have hB8:Below w7.heap.size w7 W8:=by rw[←hW8];exact(Below.refl _ _).alloc (Nat.le_refl _) _
 have HX8:Hid (EntB W8 w7.heap.size (.slice r1 n1 c1) (.slice r2 n2 c2)):=by rw[←hW8];exact entB_new _ _ _
 have HV8:=Lib.hid (entV_below hv7 hB8);have HE8:=Lib.hid (entB_below (entB_below HE6.out hB7) hB8);have HB8:=Lib.hid (HB57.out.trans (hB8.mono HB57.out.size));have HC18:=Lib.hid (HC1.out W8 HB8.out);obtain⟨m0,m1⟩:=entB_cells HE8.out;clear hB7 hB8 hv7 k0 k1 hW1 hW2 hW3 hW4 hW5 hW6 HAD;go_wp2_with fail;refine HC18.out.mono ?_;rintro e w9 ⟨rfl,hB9⟩;have HB9:=Lib.hid (HB8.out.trans (hB9.mono HB8.out.size));have HC29:=Lib.hid (HC2.out _ w9 HB9.out (entV_below HV8.out hB9));obtain⟨x0,x1⟩:=entB_cells (entB_below HX8.out hB9);clear hB9 m0 m1 hW8 HC18;go_wp2_with fail;refine HC29.out.mono ?_;rintro e w10 ⟨rfl,hB10⟩;have HB10:=Lib.hid (HB5.out.trans ((HB9.out.trans (hB10.mono HB9.out.size)).mono hz5));clear hB10 x0 x1;go_wp2_with fail;go_ret;exact⟨rfl,HB10.out⟩
end scw
open Go.RowKit
namespace scw
open scp atp atw etp etw
open tupw (Strs strs_below)
def ownMO:Option Nat→List T
 | some k=>ownMust k
 | none=>[]
def ownYO:Option Nat→List T
 | some k=>ownMay k
 | none=>[]
def OwnR (r:Option Nat)(W:World)(e:Ending)(w':World):Prop:= ∃vm vy,e= .returned (.tuple #[.string (bs (clsO r).above),.int .i64 (clsO r).kind,vm,vy,.bool r.isSome])∧ElemAt w' vm ((ownMO r).map bs)∧ElemAt w' vy ((ownYO r).map bs)∧Below W.heap.size W w'
end scw
open Go.RowKit
namespace scw
open scp atp atw etp etw
open tupw (Strs strs_below)
theorem has_in (ao:Option Addr)(cap:Nat)(l:List T)(s:T)(w:World)(hl:Hid (Strs w ao (l.map bs)))(hn:l.length≤100000000):
  Calls Tryz.prog 33 #[.slice ao l.length cap,.string (bs s)] w fun e w'=>e= .returned (.bool (decide (s∈l)))∧w=w':=by
 obtain⟨N,hN⟩: ∃N,l.length=N:=⟨_,rfl⟩;have HN:=Lib.hid hN;rw[hN];rw[hN]at hn;clear hN;go_enter Tryz.func33,Tryz.ntmps33;go_wp2_with fail;go_loopw [5] (fun iv wr=> ∃i:Nat,i≤N∧iv= .int .i64 (i:Int)∧Hid (∀j (hj:j<l.length),j<i→l[j]≠s)∧w=wr) (fun iv _=>N- (intOf iv).toNat);case atStart=>exact⟨0,Nat.zero_le _,rfl,fun j hj h=>absurd h (Nat.not_lt_zero _),rfl⟩
 case round=>
  obtain⟨i,hi,rfl,hJ,rfl⟩:=hrel;by_cases hlt:i<N
  ·have hltI:(i:Int)<(N:Int):=(by omega);have hil:i<l.length:=(by rw[HN.out];exact hlt);obtain⟨b,o,hao,hc⟩:=hl.out i (by rw[List.length_map];exact hil);subst hao;rw[List.getElem_map]at hc;have HM:Hid (l[i]∈l):=List.getElem_mem _;have HNX:Hid (l[i]≠s→ ∀j (hj:j<l.length),j<i+1→l[j]≠s):=fun h j hj hji=>by
    by_cases e:j=i
    ·subst e;exact h
    ·exact hJ.out j hj (by omega)
   obtain⟨x,hx⟩: ∃x,l[i]=x:=⟨_,rfl⟩;rw[hx]at hc HM HNX;clear hx;by_cases hxs:x=s
   ·have hbq:((bs x).toList==(bs s).toList)=true:=(by rw[bs_beq];exact decide_eq_true hxs);have HR:Hid (decide (s∈l)=true):=decide_eq_true (hxs▸HM.out);clear hxs;go_wp2_with fail;go_ret;exact⟨kt.ret_bool HR.out.symm,rfl⟩
   ·have hbq:((bs x).toList==(bs s).toList)=false:=(by rw[bs_beq];exact decide_eq_false hxs);have HN2:=Lib.hid (HNX.out hxs);clear hxs;go_wp2_with fail;go_roundw;case rel=>exact⟨i+1,by omega,by go_num,HN2,trivial⟩
    case measure=>simp[intOf];omega
  ·obtain rfl:N=i:=(by omega);have HR:Hid (decide (s∈l)=false):=decide_eq_false fun hm=>by obtain⟨j,hj,e⟩:=List.mem_iff_getElem.1 hm;exact hJ.out j hj (by rw[←HN.out];exact hj) e
   go_wp2_with fail;go_ret;exact⟨kt.ret_bool HR.out.symm,rfl⟩
end scw
open Go.RowKit
namespace etw
open atp atw etp
open tupw (Strs strs_below)
open Go.Sort
theorem scells_txt (l:List ByteArray):prw.scells l=(l.map (·.data.toList)).map encStr:=by unfold prw.scells;rw[List.map_map];apply List.map_congr_left;intro x _;rfl
def delL (l:List ByteArray)(k:Nat):List (List UInt8):=(l.take k++l.drop (k+1)).map (fun x=>x.data.toList)++[[]]
theorem del_list {l:List ByteArray}{k:Nat}(hk:k<l.length):(l.map (·.data.toList)).take k++(l.map (·.data.toList)).drop (k+1)++List.replicate (k+1-k) []=delL l k:=by unfold delL;rw[show k+1-k=1 by omega,List.map_append,List.map_take,List.map_drop];rfl
theorem delT {w:World}{B:Nat}{ao:Option Addr}{m cap:Nat}{l:List ByteArray}{k:Nat}(h:prw.OwnT w B (.slice ao m cap) l)(hl:l.length≤1000000)(hk:k<l.length)(hB:B≤w.heap.size)(I J:Int)(hI:I=(k:Int))(hJ:J=(k:Int)+1):
  Calls Tryz.prog 90 #[.slice ao m cap,.int .i64 I,.int .i64 J] w fun e w'=> ∃n,e= .returned (.slice ao n cap)∧prw.OwnT w' B (.slice ao n cap) (l.take k++l.drop (k+1))∧Below B w w':=by
 obtain⟨ss,hss⟩: ∃ss,ss=l.map (·.data.toList):=⟨_,rfl⟩;have hsl:ss.length=l.length:=by rw[hss];simp
 have hm:m=l.length:=by obtain⟨ao',cap',hv,_,_⟩:=prw.ownT_cells h;simp only[Value.slice.injEq]at hv;exact hv.2.1
 subst hm;subst hI;obtain rfl:J=((k+1:Nat):Int):=by omega
 have hrow:w.ownsRow B 9 1 (.slice ao l.length cap) ss.length (ss.map encStr):=by have h1:w.ownsRow B 9 1 (.slice ao l.length cap) (prw.scells l).length (prw.scells l):=h;rw[scells_txt,←hss,List.length_map]at h1;exact h1
 rcases hrow.2 with⟨hv,h0⟩ | ⟨g,cap',cur,hv,hBg,hg,h1,h2,h3,h4⟩
 ·exact absurd hk (by rw[←hsl,h0];omega)
 ·simp only[Value.slice.injEq]at hv;obtain⟨rfl,_,rfl⟩:=hv;rw[Nat.mul_one]at h4;have hH:=holds_of_block hg h4;have CS:=Tryz.slices_Delete_string g 0 cap k (k+1) ss w hH h1 (by unfold maxLen at h2;omega) (by omega) (by omega);rw[hsl]at CS;refine CS.mono ?_;rintro e w' ⟨rfl,q,rfl⟩;have hts:ss.take k++ss.drop (k+1)++List.replicate (k+1-k) []=delL l k:=by rw[hss];exact del_list hk
  rw[hts];have hb':=heap_sorted (os:=#[]) (n:=q) (delL l k).toArray hg;have hgr:=grownBy_sorted (w:=w) (g:=g) (n:=q) (os:=#[]) (delL l k).toArray;rw[grow_empty]at hb' hgr;have hll:(l.take k++l.drop (k+1)).length=l.length- (k+1-k):=by rw[List.length_append,List.length_take,List.length_drop];omega
  refine⟨l.length- (k+1-k),rfl,?_,(Below.refl B w).grown hgr hB (fun k hk=>by cases hk;exact hBg)⟩;have hsz:(delL l k).length≤cur.size:=by unfold delL;rw[List.length_append,List.length_map,hll,h3];simp only[List.length_cons,List.length_nil];omega
  have htk:=take_putCells cur _ hsz;unfold prw.OwnT;refine⟨(Nat.mul_one _).symm,.inr ⟨g,cap,_,?_,hBg,hb',?_,h2,?_,?_⟩⟩
  ·rw[prw.scells_length,hll]
  ·rw[prw.scells_length,hll];omega
  ·simp[putCells,h3]
  ·rw[Nat.mul_one,prw.scells_length,scells_txt];have e2:(l.take k++l.drop (k+1)).length≤(delL l k).length:=(by unfold delL;simp);have e3:=congrArg (List.take (l.take k++l.drop (k+1)).length) htk;rw[List.take_take,Nat.min_eq_left e2]at e3;rw[e3];unfold delL;rw[List.map_append,List.take_append_of_le_length (by simp),List.take_of_length_le (by simp)]
theorem drop_step {syn:Int}{left l:List ByteArray}{i:Nat}(h:i<l.length):dropF syn left (l.drop i)=match likeN syn left l[i]with
  | none=>none
  | some k=>dropF syn (left.take k++left.drop (k+1)) (l.drop (i+1)):=by
 rw[List.drop_eq_getElem_cons h];rfl
end etw
open Go.RowKit
namespace etw
open atp atw etp
open dnw (Av Avas)
open tupw (Strs strs_below)
theorem remove_any (v:Value)(E:En)(n:ByteArray)(bo:Option Addr)(bcap:Nat)(l:List ByteArray)(w:World)(hv:Hid (EntV w v E))(hb:Hid (Bk 1000 E))(hS:Hid (Strs w bo l))(hl:l.length≤50)(hlc:l.length≤bcap)(hls:Hid (∀x∈l,x.size≤1200))(hn:n.size≤1000)(hE:Hid (EnvE w)):
  Calls Tryz.prog 30 #[v,.string n,.slice bo l.length bcap] w fun e w'=>ResE (removeE E n.data.toList l) w e w':=by
 have HBD:=Lib.hid (bk_bd hb.out (by omega));have HFI0:Hid (∀W,Below w.heap.size w W→Calls Tryz.prog 85 #[v,.string n] W fun e w'=>FindR (findE E n.data.toList) e∧Below W.heap.size W w'):=fun W h=>finde_any v E n W (Lib.hid (entV_below hv.out h)) HBD (by omega) (Lib.hid (envE_below hE.out h));have HFA0:Hid (∀nm syn sg W,Below w.heap.size w W→Calls Tryz.prog 86 #[.agg #[.string nm,.int .i64 syn,.bool sg],.slice bo l.length bcap] W fun e w'=>e= .returned (.int .i64 (faultI syn l))∧Below W.heap.size W w'):=fun nm syn sg W h=>fault_any nm syn sg bo bcap l W (Lib.hid (strs_below hS.out h)) (by omega) (Lib.hid fun x hx=>by have:=hls.out x hx;omega) (Lib.hid (envE_below hE.out h));have HVA0:Hid (∀m W,Below w.heap.size w W→Calls Tryz.prog 88 #[v,.string m] W fun e w'=>ValsE (valsA E.ats m) W e w'):=fun m W h=>vals_any v E m W (Lib.hid (entV_below hv.out h)) HBD;have HWI0:Hid (∀m o c (all:List ByteArray) W,Below w.heap.size w W→Strs W o all→all.length≤1000→all.length≤c→Calls Tryz.prog 91 #[v,.string m,.slice o all.length c] W fun e w'=>EntE (withE E m all) W e w'):=fun m o c all W h hs h1 h2=>with_any v E m o c all W (Lib.hid (entV_below hv.out h)) HBD (Lib.hid hs) (by omega) h2;have HLK0:Hid (∀nm syn sg o c k (all:List ByteArray) x W,Hid (k=all.length)→Strs W o all→k≤1000→(∀y∈all,y.size≤1200)→x.size≤1200→EnvE W→Calls Tryz.prog 89 #[.agg #[.string nm,.int .i64 syn,.bool sg],.slice o k c,.string x] W fun e w'=>e= .returned (.int .i64 (likeI syn all x))∧Below W.heap.size W w'):=by intro nm syn sg o c k all x W hk hs h1 h2 h3 he;have:=like_any nm syn sg o c all x W (Lib.hid hs) (by rw[←hk.out];omega) (Lib.hid fun y hy=>by have:=h2 y hy;omega) (by omega) (Lib.hid he);rw[←hk.out]at this;exact this
 have HVL:=Lib.hid (bk_vals hb.out);have HRES:Hid (removeE E n.data.toList l=match findE E n.data.toList with
  | .error f=> .error f
  | .ok ty=>if faultI ty.syn l≠0 then .error (faultI ty.syn l)else if valsA E.ats (bs ty.name)=[]then .error 7 else match dropF ty.syn (valsA E.ats (bs ty.name)) l with
   | none=> .error 7
   | some left=> .ok (withE E (bs ty.name) (if l=[]then[]else left))):=rfl
 obtain⟨RR,hRR⟩: ∃r,removeE E n.data.toList l=r:=⟨_,rfl⟩;rw[hRR]at HRES ⊢;have HR:=Lib.hid HRES.out.symm;clear HRES hRR;obtain⟨ro,rc,ao,ac,Nr,N,rfl,HN,HA,hac,HNr,HAv,hrc⟩:=ent_form hv.out;obtain⟨W1,hW1⟩: ∃W,w.alloc (.cells #[.slice ro Nr rc,.slice ao N ac] 26)=W:=⟨_,rfl⟩;have hB1:Below w.heap.size w W1:=by rw[←hW1];exact(Below.refl _ _).alloc (Nat.le_refl _) _
 have hT1:EntB W1 w.heap.size (.slice ro Nr rc) (.slice ao N ac):=by rw[←hW1];exact entB_new _ _ _
 obtain⟨W2,hW2⟩: ∃W,W1.alloc (.cells #[.slice none 0 0,.slice none 0 0] 26)=W:=⟨_,rfl⟩;have hB2:Below W1.heap.size W1 W2:=by rw[←hW2];exact(Below.refl _ _).alloc (Nat.le_refl _) _
 obtain⟨q,hqq⟩: ∃q,W1.heap.size=q:=⟨_,rfl⟩;have hqw:w.heap.size≤q:=by rw[←hqq];exact hB1.size
 have hQ2:EntB W2 q (.slice none 0 0) (.slice none 0 0):=by rw[←hW2,←hqq];exact entB_new _ _ _
 have HB2:=Lib.hid (hB1.trans (hB2.mono hB1.size));have HT2:=Lib.hid (entB_below hT1 hB2);have HQ2:=Lib.hid hQ2;obtain⟨k0,k1⟩:=entB_cells HT2.out;have hz2:=HB2.out.size;clear hB1 hB2 hT1 hQ2 hv;have HFI:=Lib.hid (HFI0.out W2 HB2.out);clear HFI0;have HKL:Hid (l=[]↔l.length=0):=List.length_eq_zero_iff.symm;obtain⟨K,hK⟩: ∃K,l.length=K:=⟨_,rfl⟩;rw[hK]at HFA0 HKL hl hlc ⊢;have HK:=Lib.hid hK;clear hK;go_enter Tryz.func30,Tryz.ntmps30;go_wp2_with fail;refine HFI.out.mono ?_;rintro e w3 ⟨hfr,hB3⟩;have HB3:=Lib.hid (HB2.out.trans (hB3.mono hz2));have HT3:=Lib.hid (entB_below HT2.out hB3);have HQ3:=Lib.hid (entB_below HQ2.out hB3);clear hB3 k0 k1 hW1 hW2 HFI hqq;cases hfe:findE E n.data.toList with
 | error f=>
  rw[hfe]at hfr HR;have hfr2:e= .returned (.tuple #[.agg #[.string ⟨#[]⟩,.int .i64 0,.bool false],.int .i64 f]):=hfr;have hf0:f≠0:=find_err hfe;have qf:(f !=0)=true:=by rw[bne_iff_ne];exact hf0
  subst hfr2;clear hfr hfe hf0;have hB4:Below w3.heap.size w3 (w3.alloc (.cells #[.string ⟨#[]⟩,.int .i64 0,.bool false] 108)):=(Below.refl _ _).alloc (Nat.le_refl _) _;have HBX:=Lib.hid (HB3.out.trans (hB4.mono HB3.out.size));have HQ:=Lib.hid (entB_below HQ3.out hB4);clear hB4;obtain⟨v0,v1⟩:=entB_cells HQ.out;have f0:=Lib.frozen_of_heap HQ.out 0;have f1:=Lib.frozen_of_heap HQ.out 1;have hq1:=entB_set0 HQ.out (.slice none 0 0);have hq2:=entB_set1 hq1 (.slice none 0 0);have HQC:=Lib.hid (entB_cells hq2);have HBF:=Lib.hid ((HBX.out.setCell (p:=⟨q,0,none⟩) hqw (.slice none 0 0)).setCell (p:=⟨q,1,none⟩) hqw (.slice none 0 0));clear hq1 hq2;go_wp2_with fail;obtain⟨r0,r1⟩:=HQC.out;refine bodyPost_ret (v:= .tuple #[.agg #[.slice none 0 0,.slice none 0 0],.int .i64 f]) (by rw[results_cell_tmp rfl];go_simp) rfl ?_;exact⟨HBF.out,(by rw[←HR.out])⟩
 | ok ty=>
  rw[hfe]at hfr HR;have hfr2:e= .returned (.tuple #[.agg #[.string (bs ty.name),.int .i64 ty.syn,.bool ty.single],.int .i64 0]):=hfr;subst hfr2;clear hfr;simp only at HR;clear hfe;generalize bs ty.name=nm at HR;generalize ty.syn=syn at HR;generalize ty.single=sg;obtain⟨w4,hw4⟩: ∃W,w3.alloc (.cells #[.string nm,.int .i64 syn,.bool sg] 108)=W:=⟨_,rfl⟩;have hB4:Below w3.heap.size w3 w4:=by rw[←hw4];exact(Below.refl _ _).alloc (Nat.le_refl _) _
  obtain⟨tb,htb⟩: ∃tb,w3.heap.size=tb:=⟨_,rfl⟩;have HY4:Hid (TB w4 tb nm syn sg):=by rw[←hw4,←htb];exact tb_new _ _ _ _
  have HB4:=Lib.hid (HB3.out.trans (hB4.mono HB3.out.size));have HT4:=Lib.hid (entB_below HT3.out hB4);have HQ4:=Lib.hid (entB_below HQ3.out hB4);obtain⟨y0,y1,y2⟩:=tb_cells HY4.out;clear hB4;have HFA:=Lib.hid (HFA0.out nm syn sg w4 HB4.out);clear HFA0;generalize faultI syn l=fa at HFA HR;go_wp2_with fail;refine HFA.out.mono ?_;rintro e w5 ⟨rfl,hB5⟩;have HB5:=Lib.hid (HB4.out.trans (hB5.mono HB4.out.size));have HT5:=Lib.hid (entB_below HT4.out hB5);have HQ5:=Lib.hid (entB_below HQ4.out hB5);have HY5:=Lib.hid (tb_below HY4.out hB5);clear hB5 y0 y1 y2 hw4 htb;by_cases hfa:fa=0
  ·have qa:(fa !=0)=false:=(by rw[bne_eq_false_iff_eq];exact hfa);rw[if_neg (not_not_intro hfa)]at HR;clear hfa;have HVA:=Lib.hid (HVA0.out nm w5 HB5.out);have HV1:=HVL.out nm;have hvl1:=HV1.1;have HV2:=Lib.hid HV1.2;clear HVA0 HVL HV1;obtain⟨e0,e1⟩:=entB_cells HT5.out;obtain⟨y0,y1,y2⟩:=tb_cells HY5.out;have HWI:Hid (∀o c (all:List ByteArray) W,Below w.heap.size w W→Strs W o all→all.length≤1000→all.length≤c→Calls Tryz.prog 91 #[.agg #[.slice ro Nr rc,.slice ao N ac],.string nm,.slice o all.length c] W fun e w'=>EntE (withE E nm all) W e w'):=fun o c all W=>HWI0.out nm o c all W;clear HWI0;generalize valsA E.ats nm=p0 at HVA HV2 hvl1 HR;go_wp2_with fail;refine HVA.out.mono ?_;rintro e w6 ⟨x6,rfl,hx6,hB6⟩;have HCL:=Lib.hid (clone_any x6 p0 w6 hx6 (by omega));have HB6:=Lib.hid (HB5.out.trans (hB6.mono HB5.out.size));have HT6:=Lib.hid (entB_below HT5.out hB6);have HQ6:=Lib.hid (entB_below HQ5.out hB6);have HY6:=Lib.hid (tb_below HY5.out hB6);clear hx6 hB6 e0 e1 y0 y1 y2;go_wp2_with fail;refine HCL.out.mono ?_;rintro e w7 ⟨x7,rfl,ho7,hB7⟩;have HO7:=Lib.hid ho7;obtain⟨a7,n7,c7,rfl,hn7⟩:=dnw.ownT_form ho7;have HB67:=Lib.hid hB7;have HPE:Hid (p0=[]↔n7=0):=(by have h:=hn7.out;rw[h];exact List.length_eq_zero_iff.symm);clear ho7 HCL;by_cases hp:n7=0
   ·have d0:((n7:Int)==0)=true:=(by rw[beq_iff_eq];omega);rw[if_pos (HPE.out.2 hp)]at HR;have HBX:=Lib.hid (HB6.out.trans (hB7.mono HB6.out.size));have HQ:=Lib.hid (entB_below HQ6.out hB7);clear hp hB7 HO7;obtain⟨v0,v1⟩:=entB_cells HQ.out;have f0:=Lib.frozen_of_heap HQ.out 0;have f1:=Lib.frozen_of_heap HQ.out 1;have hq1:=entB_set0 HQ.out (.slice none 0 0);have hq2:=entB_set1 hq1 (.slice none 0 0);have HQC:=Lib.hid (entB_cells hq2);have HBF:=Lib.hid ((HBX.out.setCell (p:=⟨q,0,none⟩) hqw (.slice none 0 0)).setCell (p:=⟨q,1,none⟩) hqw (.slice none 0 0));clear hq1 hq2;go_wp2_with fail;obtain⟨r0,r1⟩:=HQC.out;refine bodyPost_ret (v:= .tuple #[.agg #[.slice none 0 0,.slice none 0 0],.int .i64 7]) (by rw[results_cell_tmp rfl];go_simp) rfl ?_;exact⟨HBF.out,(by rw[←HR.out])⟩
   ·have d0:((n7:Int)==0)=false:=(by rw[beq_eq_false_iff_ne];omega);rw[if_neg (fun h=>hp (HPE.out.1 h))]at HR;clear hp hB7 HPE;go_wp2_with fail;go_loopw [11,43] (fun av iv wr=> ∃ (i:Nat) (left:List ByteArray),i≤K∧iv= .int .i64 (i:Int)∧Hid (prw.OwnT wr w6.heap.size av left)∧Hid (Below w6.heap.size w6 wr)∧Hid (dropF syn p0 l=dropF syn left (l.drop i))∧Hid (left.length≤100)∧Hid (∀y∈left,y.size≤1200)) (fun _ iv _=>K- (intOf iv).toNat);case atStart=>exact⟨0,p0,Nat.zero_le _,rfl,HO7.out,HB67.out,rfl,(by show _≤_;omega),HV2.out⟩
    case round=>
     obtain⟨i,left,hi,rfl,hO,hBr,hJ,hLN,hSZ⟩:=hrel;obtain⟨aR,nR,cR,rfl,hnR⟩:=dnw.ownT_form hO.out;have hszr:=hBr.out.size;have HBr:=Lib.hid (HB6.out.trans (hBr.out.mono HB6.out.size));have HTr:=Lib.hid (entB_below HT6.out hBr.out);have HQr:=Lib.hid (entB_below HQ6.out hBr.out);have HYr:=Lib.hid (tb_below HY6.out hBr.out);obtain⟨y0,y1,y2⟩:=tb_cells HYr.out;have hnR100:nR≤200:=(by rw[hnR.out];have:=hLN.out;omega);by_cases hlt:i<K
     ·have hltI:(i:Int)<(K:Int):=(by omega);have hil:i<l.length:=(by rw[HK.out];exact hlt);obtain⟨b,o,hbo,hc0⟩:=(strs_below hS.out HBr.out) i hil;subst hbo;have HST:=Lib.hid (drop_step (syn:=syn) (left:=left) hil);have hxs:=hls.out l[i] (List.getElem_mem _);obtain⟨x,hx⟩: ∃x,l[i]=x:=⟨_,rfl⟩;rw[hx]at hc0 HST hxs;clear hx;have HLK:=Lib.hid (HLK0.out nm syn sg aR cR nR left x wr hnR (by obtain⟨g1,g2,g3,g4⟩:=elem_form (own_elem hO.out);simp only[Value.slice.injEq]at g4;obtain⟨⟨rfl,rfl,rfl⟩,_,_,g5⟩:=g4;exact g5) (by omega) hSZ.out hxs (envE_below hE.out HBr.out));have HLI:Hid (likeI syn left x=match likeN syn left x with
       | some i=>(i:Int)
       | none=> -1):=rfl
      generalize likeI syn left x=lk at HLK HLI;cases hln:likeN syn left x with
      | none=>rw[hln]at HST HLI;have hlk:lk<0:=(by have h:=HLI.out;simp only at h;omega);have q2:decide (lk<0)=true:=decide_eq_true hlk;have HJ:Hid (dropF syn p0 l=none):=(by show _=_;rw[hJ.out,HST.out]);rw[HJ.out]at HR;clear HST HJ hln HLI hlk;simp only at HR;go_wp2_with fail;refine HLK.out.mono ?_;rintro e w8 ⟨rfl,hB8⟩;have HBX:=Lib.hid (HBr.out.trans (hB8.mono HBr.out.size));have HQ:=Lib.hid (entB_below HQr.out hB8);clear hB8 y0 y1 y2 hc0;obtain⟨v0,v1⟩:=entB_cells HQ.out;have f0:=Lib.frozen_of_heap HQ.out 0;have f1:=Lib.frozen_of_heap HQ.out 1;have hq1:=entB_set0 HQ.out (.slice none 0 0);have hq2:=entB_set1 hq1 (.slice none 0 0);have HQC:=Lib.hid (entB_cells hq2);have HBF:=Lib.hid ((HBX.out.setCell (p:=⟨q,0,none⟩) hqw (.slice none 0 0)).setCell (p:=⟨q,1,none⟩) hqw (.slice none 0 0));clear hq1 hq2;go_wp2_with fail;obtain⟨r0,r1⟩:=HQC.out;refine bodyPost_ret (v:= .tuple #[.agg #[.slice none 0 0,.slice none 0 0],.int .i64 7]) (by rw[results_cell_tmp rfl];go_simp) rfl ?_;exact⟨HBF.out,(by rw[←HR.out])⟩
      | some k=>
       rw[hln]at HST HLI;have hkl:=(likeN_some hln).1;have hlk0:0≤lk:=(by have h:=HLI.out;simp only at h;omega);have hlk1:lk≤1000:=(by have h:=HLI.out;have h2:=hLN.out;simp only at h;omega);have q2:decide (lk<0)=false:=decide_eq_false (by omega);have HJ:Hid (dropF syn p0 l=dropF syn (left.take k++left.drop (k+1)) (l.drop (i+1))):=(by show _=_;rw[hJ.out,HST.out]);have HKL2:=Lib.hid hkl;have HLK2:Hid (lk=(k:Int)):=HLI.out;clear HST hln HLI hkl;go_wp2_with fail;refine HLK.out.mono ?_;rintro e w8 ⟨rfl,hB8⟩;have hBr8:=hBr.out.trans (hB8.mono hszr);have HDE:=Lib.hid (delT (dnw.ownT_below hO.out hB8) (by have:=hLN.out;omega) HKL2.out hBr8.size lk (lk+1) HLK2.out (by rw[HLK2.out]));have HBr8:=Lib.hid hBr8;clear hBr8 hB8 y0 y1 y2 hc0;go_wp2_with fail;refine HDE.out.mono ?_;rintro e w9 ⟨n9,rfl,hO9,hB9⟩;have HO9:=Lib.hid hO9;have HB9:=Lib.hid (HBr8.out.trans hB9);have HLN9:Hid ((left.take k++left.drop (k+1)).length≤100):=(by show _≤_;rw[List.length_append,List.length_take,List.length_drop];have:=hLN.out;omega);have HSZ9:Hid (∀y∈left.take k++left.drop (k+1),y.size≤1200):=fun y hy=>by
        rcases List.mem_append.1 hy with hy | hy
        ·exact hSZ.out y (List.mem_of_mem_take hy)
        ·exact hSZ.out y (List.mem_of_mem_drop hy)
       clear hO9 hB9 HDE;go_wp2_with fail;go_roundw;case rel=>exact⟨i+1,left.take k++left.drop (k+1),by omega,by go_num,HO9.out,HB9,HJ,HLN9,HSZ9⟩
       case measure=>simp[intOf];omega
     ·obtain rfl:K=i:=(by omega);have HJ:Hid (dropF syn p0 l=some left):=(by show _=_;rw[hJ.out,←HK.out,List.drop_length];rfl);rw[HJ.out]at HR;simp only at HR;clear HJ;obtain⟨e0,e1⟩:=entB_cells HTr.out;have hz8:=(tb_cells HYr.out).1;by_cases hK0:K=0
      ·have dk:((K:Int)==0)=true:=(by rw[beq_iff_eq];omega);rw[if_pos (HKL.out.2 hK0)]at HR;have HWC0:Calls Tryz.prog 91 #[.agg #[.slice ro Nr rc,.slice ao N ac],.string nm,.slice none 0 0] wr fun e w'=>EntE (withE E nm []) wr e w':=HWI.out none 0 [] wr HBr.out (fun i hi=>absurd hi (Nat.not_lt_zero _)) (by simp) (by simp);have HWC:=Lib.hid HWC0;clear hK0 HWC0 hz8;go_wp2_with fail;refine HWC.out.mono ?_;rintro e w9 ⟨v9,rfl,hv9,hB9⟩;obtain⟨r1,n1,c1,r2,n2,c2,rfl⟩:=ent_agg hv9;have HV:=Lib.hid hv9;have HBX:=Lib.hid (HBr.out.trans (hB9.mono HBr.out.size));have HQ:=Lib.hid (entB_below HQr.out hB9);clear hv9 hB9 e0 e1 y0 y1 y2;obtain⟨v0,v1⟩:=entB_cells HQ.out;have f0:=Lib.frozen_of_heap HQ.out 0;have f1:=Lib.frozen_of_heap HQ.out 1;have hq1:=entB_set0 HQ.out (.slice r1 n1 c1);have hq2:=entB_set1 hq1 (.slice r2 n2 c2);have HQC:=Lib.hid (entB_cells hq2);have HBF:=Lib.hid ((HBX.out.setCell (p:=⟨q,0,none⟩) hqw (.slice r1 n1 c1)).setCell (p:=⟨q,1,none⟩) hqw (.slice r2 n2 c2));have HVF:=Lib.hid (entV_set (entV_set HV.out HQ.out (noS_slice _ _ _) (noS_slice _ _ _) 0 (.slice r1 n1 c1)) hq1 (noS_slice _ _ _) (noS_slice _ _ _) 1 (.slice r2 n2 c2));clear hq1 hq2;go_wp2_with fail;obtain⟨r0,r1'⟩:=HQC.out;refine bodyPost_ret (v:= .tuple #[.agg #[.slice r1 n1 c1,.slice r2 n2 c2],.int .i64 0]) (by rw[results_cell_tmp rfl];go_simp) rfl ?_;exact⟨HBF.out,(by rw[←HR.out];exact⟨_,rfl,HVF.out⟩)⟩
      ·have dk:((K:Int)==0)=false:=(by rw[beq_eq_false_iff_ne];omega);rw[if_neg (fun h=>hK0 (HKL.out.1 h))]at HR;obtain⟨g1,g2,g3,g4⟩:=elem_form (own_elem hO.out);simp only[Value.slice.injEq]at g4;obtain⟨⟨rfl,rfl,rfl⟩,g5,g6,g7⟩:=g4;have HWC0:=HWI.out aR cR left wr HBr.out g7 (by rw[←g5.out];omega) (by rw[←g5.out];exact g6);rw[←g5.out]at HWC0;have HWC:=Lib.hid HWC0;clear hK0 g5 g6 g7 HWC0 hz8;go_wp2_with fail;refine HWC.out.mono ?_;rintro e w9 ⟨v9,rfl,hv9,hB9⟩;obtain⟨r1,n1,c1,r2,n2,c2,rfl⟩:=ent_agg hv9;have HV:=Lib.hid hv9;have HBX:=Lib.hid (HBr.out.trans (hB9.mono HBr.out.size));have HQ:=Lib.hid (entB_below HQr.out hB9);clear hv9 hB9 e0 e1 y0 y1 y2;obtain⟨v0,v1⟩:=entB_cells HQ.out;have f0:=Lib.frozen_of_heap HQ.out 0;have f1:=Lib.frozen_of_heap HQ.out 1;have hq1:=entB_set0 HQ.out (.slice r1 n1 c1);have hq2:=entB_set1 hq1 (.slice r2 n2 c2);have HQC:=Lib.hid (entB_cells hq2);have HBF:=Lib.hid ((HBX.out.setCell (p:=⟨q,0,none⟩) hqw (.slice r1 n1 c1)).setCell (p:=⟨q,1,none⟩) hqw (.slice r2 n2 c2));have HVF:=Lib.hid (entV_set (entV_set HV.out HQ.out (noS_slice _ _ _) (noS_slice _ _ _) 0 (.slice r1 n1 c1)) hq1 (noS_slice _ _ _) (noS_slice _ _ _) 1 (.slice r2 n2 c2));clear hq1 hq2;go_wp2_with fail;obtain⟨r0,r1'⟩:=HQC.out;refine bodyPost_ret (v:= .tuple #[.agg #[.slice r1 n1 c1,.slice r2 n2 c2],.int .i64 0]) (by rw[results_cell_tmp rfl];go_simp) rfl ?_;exact⟨HBF.out,(by rw[←HR.out];exact⟨_,rfl,HVF.out⟩)⟩
  ·have qa:(fa !=0)=true:=(by rw[bne_iff_ne];exact hfa);rw[if_pos hfa]at HR;have HBX:=HB5;have HQ:=HQ5;clear hfa;obtain⟨v0,v1⟩:=entB_cells HQ.out;have f0:=Lib.frozen_of_heap HQ.out 0;have f1:=Lib.frozen_of_heap HQ.out 1;have hq1:=entB_set0 HQ.out (.slice none 0 0);have hq2:=entB_set1 hq1 (.slice none 0 0);have HQC:=Lib.hid (entB_cells hq2);have HBF:=Lib.hid ((HBX.out.setCell (p:=⟨q,0,none⟩) hqw (.slice none 0 0)).setCell (p:=⟨q,1,none⟩) hqw (.slice none 0 0));clear hq1 hq2;go_wp2_with fail;obtain⟨r0,r1⟩:=HQC.out;refine bodyPost_ret (v:= .tuple #[.agg #[.slice none 0 0,.slice none 0 0],.int .i64 fa]) (by rw[results_cell_tmp rfl];go_simp) rfl ?_;exact⟨HBF.out,(by rw[←HR.out])⟩
end etw
open Go.RowKit
namespace etw
open atp atw etp
open dnw (Av Avas)
open tupw (Strs strs_below)
def bigV (v:ByteArray):Bool:=decide (1100<v.size)
def longL (l:List ByteArray):Bool:=decide (40<l.length)||l.any bigV
def bigR (a:Av):Bool:=decide (600<a.t.size)||decide (600<a.v.size)
def bigA (a:At):Bool:=decide (600<a.t.size)||longL a.vs
def longE (e:En):Bool:=decide (20<e.rdn.length)||decide (30<e.ats.length)||e.rdn.any bigR||e.ats.any bigA
theorem longL_no {l:List ByteArray}(h:longL l=false):l.length≤40∧ ∀v∈l,v.size≤1100:=by unfold longL at h;rw[Bool.or_eq_false_iff,decide_eq_false_iff_not,List.any_eq_false]at h;refine⟨by omega,fun v hv=> ?_⟩;have:=h.2 v hv;unfold bigV at this;simp at this;omega
theorem longE_no {e:En}(h:longE e=false):Bk 30 e:=by
 unfold longE at h;rw[Bool.or_eq_false_iff,Bool.or_eq_false_iff,Bool.or_eq_false_iff,decide_eq_false_iff_not,decide_eq_false_iff_not,List.any_eq_false,List.any_eq_false]at h;obtain⟨⟨⟨h1,h2⟩,h3⟩,h4⟩:=h;refine⟨by omega,fun a ha=> ?_,by omega,fun a ha=> ?_⟩
 ·have:=h3 a ha;unfold bigR at this;simp at this;omega
 ·have:=h4 a ha;unfold bigA at this;simp only[Bool.or_eq_true,decide_eq_true_eq,not_or,Bool.not_eq_true]at this;have h5:=longL_no this.2;refine⟨by omega,by omega,fun v hv=> ?_⟩;have:=h5.2 v hv;omega
theorem any_step {α:Type}{f:α→Bool}{l:List α}{i:Nat}(h:i<l.length):(l.drop i).any f=(f l[i]||(l.drop (i+1)).any f):=by rw[List.drop_eq_getElem_cons h,List.any_cons]
theorem longL_any (ao:Option Addr)(cap:Nat)(l:List ByteArray)(w:World)(hl:Hid (Strs w ao l)):Calls Tryz.prog 70 #[.slice ao l.length cap] w fun e w'=>e= .returned (.bool (longL l))∧w=w':=by
 have HLD:Hid (longL l=(decide (40<l.length)||l.any bigV)):=rfl;rw[HLD.out];clear HLD;obtain⟨N,hN⟩: ∃N,l.length=N:=⟨_,rfl⟩;have HN:=Lib.hid hN;rw[hN];clear hN;by_cases h40:40<N
 ·have d1:decide (40<N)=true:=decide_eq_true h40;have h40':(40:Int)<(N:Int):=by omega
  rw[d1,Bool.true_or];go_enter Tryz.func70,Tryz.ntmps70;go_wp2_with fail;go_ret;exact⟨rfl,rfl⟩
 ·have d1:decide (40<N)=false:=decide_eq_false h40;have h40': ¬ (40:Int)<(N:Int):=by omega
  rw[d1,Bool.false_or];go_enter Tryz.func70,Tryz.ntmps70;go_wp2_with fail;go_loop [3] (fun iv=> ∃i:Nat,i≤N∧iv= .int .i64 (i:Int)∧Hid (l.any bigV=(l.drop i).any bigV)) (fun iv=>N- (intOf iv).toNat);case atStart=>exact⟨0,Nat.zero_le _,rfl,rfl⟩
  case round=>
   obtain⟨i,hi,rfl,hJ⟩:=hrel;by_cases hlt:i<N
   ·have hltI:(i:Int)<(N:Int):=(by omega);have hil:i<l.length:=(by rw[HN.out];exact hlt);obtain⟨b,o,hao,hc0⟩:=hl.out i hil;subst hao;have HST:=Lib.hid (any_step (f:=bigV) hil);obtain⟨x,hx⟩: ∃x,l[i]=x:=⟨_,rfl⟩;rw[hx]at hc0 HST;clear hx;by_cases hb:1100<x.size
    ·have d2:decide (1100<x.size)=true:=decide_eq_true hb;have hb':(1100:Int)<(x.size:Int):=(by omega);have HJ:Hid (l.any bigV=true):=(by show _=_;rw[hJ.out,HST.out,show bigV x=true from d2];rfl);go_wp2_with fail;go_ret;exact⟨kt.ret_bool HJ.out.symm,rfl⟩
    ·have d2:decide (1100<x.size)=false:=decide_eq_false hb;have hb': ¬ (1100:Int)<(x.size:Int):=(by omega);have HJ:Hid (l.any bigV=(l.drop (i+1)).any bigV):=(by show _=_;rw[hJ.out,HST.out,show bigV x=false from d2];rfl);go_wp2_with fail;go_round;case rel=>exact⟨i+1,by omega,by go_num,HJ⟩
     case measure=>simp[intOf];omega
   ·obtain rfl:N=i:=(by omega);have HJ:Hid (l.any bigV=false):=(by show _=_;rw[hJ.out,←HN.out,List.drop_length];rfl);go_wp2_with fail;go_ret;exact⟨kt.ret_bool HJ.out.symm,rfl⟩
theorem longE_any (v:Value)(E:En)(w:World)(hv:Hid (EntV w v E)):Calls Tryz.prog 18 #[v] w fun e w'=>e= .returned (.bool (longE E))∧Below w.heap.size w w':=by
 have HLD:Hid (longE E=(decide (20<E.rdn.length)||decide (30<E.ats.length)||E.rdn.any bigR||E.ats.any bigA)):=rfl;rw[HLD.out];clear HLD;obtain⟨ro,rc,ao,ac,Nr,N,rfl,HN,HA,hac,HNr,HAv,hrc⟩:=ent_form hv.out;obtain⟨rdn,L⟩:=E;simp only at HN HA HNr HAv ⊢;rw[HN.out,HNr.out];obtain⟨W1,hW1⟩: ∃W,w.alloc (.cells #[.slice ro Nr rc,.slice ao N ac] 26)=W:=⟨_,rfl⟩;have hB1:Below w.heap.size w W1:=by rw[←hW1];exact(Below.refl _ _).alloc (Nat.le_refl _) _
 have HT1:Hid (EntB W1 w.heap.size (.slice ro Nr rc) (.slice ao N ac)):=by rw[←hW1];exact entB_new _ _ _
 obtain⟨k0,k1⟩:=entB_cells HT1.out;have HB1:=Lib.hid hB1;have HA1:=Lib.hid (ats_below HA.out hB1);have HAv1:=Lib.hid (dnw.avas_below HAv.out hB1);clear hB1 hv HA HAv HT1;by_cases h20:20<Nr
 ·have d1:decide (20<Nr)=true:=decide_eq_true h20;have h20':(20:Int)<(Nr:Int):=by omega
  rw[d1,Bool.true_or,Bool.true_or,Bool.true_or];go_enter Tryz.func18,Tryz.ntmps18;go_wp2_with fail;go_ret;exact⟨rfl,HB1.out⟩
 ·have d1:decide (20<Nr)=false:=decide_eq_false h20;have h20': ¬ (20:Int)<(Nr:Int):=by omega
  rw[d1,Bool.false_or];by_cases h30:30<N
  ·have d2:decide (30<N)=true:=decide_eq_true h30;have h30':(30:Int)<(N:Int):=(by omega);rw[d2,Bool.true_or,Bool.true_or];go_enter Tryz.func18,Tryz.ntmps18;go_wp2_with fail;go_ret;exact⟨rfl,HB1.out⟩
  ·have d2:decide (30<N)=false:=decide_eq_false h30;have h30': ¬ (30:Int)<(N:Int):=(by omega);rw[d2,Bool.false_or];go_enter Tryz.func18,Tryz.ntmps18;go_wp2_with fail;go_loop [3] (fun iv=> ∃i:Nat,i≤Nr∧iv= .int .i64 (i:Int)∧Hid (rdn.any bigR=(rdn.drop i).any bigR)) (fun iv=>Nr- (intOf iv).toNat);case atStart=>exact⟨0,Nat.zero_le _,rfl,rfl⟩
   case round=>
    obtain⟨i,hi,rfl,hJ⟩:=hrel;by_cases hlt:i<Nr
    ·have hltI:(i:Int)<(Nr:Int):=(by omega);have hil:i<rdn.length:=(by rw[HNr.out];exact hlt);obtain⟨b,o,hro,q0,q1⟩:=HAv1.out i hil;subst hro;have HST:=Lib.hid (any_step (f:=bigR) hil);obtain⟨a,ha⟩: ∃a,rdn[i]=a:=⟨_,rfl⟩;rw[ha]at HST q0 q1;clear ha;have HBR:Hid (bigR a=(decide (600<a.t.size)||decide (600<a.v.size))):=rfl;by_cases ht:600<a.t.size
     ·have d3:decide (600<a.t.size)=true:=decide_eq_true ht;have ht':(600:Int)<(a.t.size:Int):=(by omega);have HJ:Hid ((rdn.any bigR||L.any bigA)=true):=(by show _=_;rw[hJ.out,HST.out,HBR.out,d3];simp);go_wp2_with fail;go_ret;exact⟨kt.ret_bool HJ.out.symm,HB1.out⟩
     ·have d3:decide (600<a.t.size)=false:=decide_eq_false ht;have ht': ¬ (600:Int)<(a.t.size:Int):=(by omega);by_cases hvv:600<a.v.size
      ·have d4:decide (600<a.v.size)=true:=decide_eq_true hvv;have hv':(600:Int)<(a.v.size:Int):=(by omega);have HJ:Hid ((rdn.any bigR||L.any bigA)=true):=(by show _=_;rw[hJ.out,HST.out,HBR.out,d3,d4];simp);go_wp2_with fail;go_ret;exact⟨kt.ret_bool HJ.out.symm,HB1.out⟩
      ·have d4:decide (600<a.v.size)=false:=decide_eq_false hvv;have hv': ¬ (600:Int)<(a.v.size:Int):=(by omega);have HJ:Hid (rdn.any bigR=(rdn.drop (i+1)).any bigR):=(by show _=_;rw[hJ.out,HST.out,HBR.out,d3,d4];rfl);go_wp2_with fail;go_round;case rel=>exact⟨i+1,by omega,by go_num,HJ⟩
       case measure=>simp[intOf];omega
    ·obtain rfl:Nr=i:=(by omega);have HR0:Hid (rdn.any bigR=false):=(by show _=_;rw[hJ.out,←HNr.out,List.drop_length];rfl);go_wp2_with fail;go_loop [4] (fun iv=> ∃i:Nat,i≤N∧iv= .int .i64 (i:Int)∧Hid (L.any bigA=(L.drop i).any bigA)) (fun iv=>N- (intOf iv).toNat);case atStart=>exact⟨0,Nat.zero_le _,rfl,rfl⟩
     case round=>
      obtain⟨i,hi2,rfl,hJ2⟩:=hrel;by_cases hlt2:i<N
      ·have hltI:(i:Int)<(N:Int):=(by omega);have hil:i<L.length:=(by rw[HN.out];exact hlt2);obtain⟨b,o,ax,cx,hao,q0,q1,hcx,hST⟩:=HA1.out i hil;subst hao;have HST:=Lib.hid (any_step (f:=bigA) hil);obtain⟨a,ha⟩: ∃a,L[i]=a:=⟨_,rfl⟩;rw[ha]at HST q0 q1 hcx hST;clear ha;have HLL:=Lib.hid (longL_any ax cx a.vs W1 (Lib.hid hST));have HBA:Hid (bigA a=(decide (600<a.t.size)||longL a.vs)):=rfl;obtain⟨M,hM⟩: ∃M,a.vs.length=M:=⟨_,rfl⟩;rw[hM]at q1 HLL;clear hM hST hcx;by_cases ht:600<a.t.size
       ·have d3:decide (600<a.t.size)=true:=decide_eq_true ht;have ht':(600:Int)<(a.t.size:Int):=(by omega);have HJ:Hid ((rdn.any bigR||L.any bigA)=true):=(by show _=_;rw[hJ2.out,HST.out,HBA.out,d3];simp);go_wp2_with fail;go_ret;exact⟨kt.ret_bool HJ.out.symm,HB1.out⟩
       ·have d3:decide (600<a.t.size)=false:=decide_eq_false ht;have ht': ¬ (600:Int)<(a.t.size:Int):=(by omega);cases hll:longL a.vs with
        | true=>rw[hll]at HLL HBA;have HJ:Hid ((rdn.any bigR||L.any bigA)=true):=(by show _=_;rw[hJ2.out,HST.out,HBA.out,d3];simp);clear hll;go_wp2_with fail;refine HLL.out.mono ?_;rintro e w2 ⟨rfl,rfl⟩;go_wp2_with fail;go_ret;exact⟨kt.ret_bool HJ.out.symm,HB1.out⟩
        | false=>
         rw[hll]at HLL HBA;have HJ:Hid (L.any bigA=(L.drop (i+1)).any bigA):=(by show _=_;rw[hJ2.out,HST.out,HBA.out,d3];rfl);clear hll;go_wp2_with fail;refine HLL.out.mono ?_;rintro e w2 ⟨rfl,rfl⟩;go_wp2_with fail;go_round;case rel=>exact⟨i+1,by omega,by go_num,HJ⟩
         case measure=>simp[intOf];omega
      ·obtain rfl:N=i:=(by omega);have HJ:Hid ((rdn.any bigR||L.any bigA)=false):=(by show _=_;rw[HR0.out,hJ2.out,←HN.out,List.drop_length];rfl);go_wp2_with fail;go_ret;exact⟨kt.ret_bool HJ.out.symm,HB1.out⟩
end etw
end Go.Proofs.YtmnpfkbjpeaemaaGreatDoor
