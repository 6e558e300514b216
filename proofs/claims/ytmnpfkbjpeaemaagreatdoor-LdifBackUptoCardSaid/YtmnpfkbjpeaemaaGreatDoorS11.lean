/- One text out of several: ResW, AddW, ELongW, RenO, LbW, HexW, DValW, DPriW. -/
import Derived.Test.YtmnpfkbjpeaemaaGreatDoorS8
import Derived.Test.YtmnpfkbjpeaemaaGreatDoorS9
import Derived.Test.YtmnpfkbjpeaemaaGreatDoorS10
import Derived.Test.YtmnpfkbjpeaemaaGreatDoorS5
import Derived.Test.YtmnpfkbjpeaemaaGreatDoorS1
set_option linter.unusedVariables false
set_option linter.unusedSimpArgs false
set_option maxRecDepth 20000
set_option maxHeartbeats 8000000
namespace Go.Proofs.YtmnpfkbjpeaemaaGreatDoor
open Go.RowKit
namespace etw
open atp atw etp
open dnw (Av Avas)
open tupw (Strs strs_below)
theorem entV_set {w:World}{v:Value}{E:En}{p:Nat}{r a:Value}(h:EntV w v E)(hp:EntB w p r a)(hr:NoS r)(ha:NoS a)(j:Nat)(u:Value):EntV (w.setCell ⟨p,j,none⟩ u) v E:=by
 obtain⟨ro,rc,ao,ac,h1,h2,h3,h4,h5⟩:=h;refine⟨ro,rc,ao,ac,h1,h2,h3,avas_set h4 hp hr ha j u,fun i hi=> ?_⟩;obtain⟨b,o,x,c,e,q0,q1,q2,q3⟩:=h5 i hi;have hb:b≠p:=by rintro rfl;exact entB_str hp hr ha _ _ q0
 refine⟨b,o,x,c,e,?_,?_,q2,strs_set q3 hp hr ha j u⟩
 ·rw[World.cell?_setCell_other _ _ _ _ (by intro e2;injection e2 with e3 _ _;exact hb e3.symm),q0]
 ·rw[World.cell?_setCell_other _ _ _ _ (by intro e2;injection e2 with e3 _ _;exact hb e3.symm),q1]
def ResE (r:Except Int En)(w:World)(e:Ending)(w':World):Prop:=Below w.heap.size w w'∧match r with
 | .ok E=> ∃v,e= .returned (.tuple #[v,.int .i64 0])∧EntV w' v E
 | .error f=>e= .returned (.tuple #[.agg #[.slice none 0 0,.slice none 0 0],.int .i64 f])
theorem join_step {syn:Int}{all l:List ByteArray}{i:Nat}(h:i<l.length):joinF syn all (l.drop i)=if likeI syn all l[i]<0 then joinF syn (all++[l[i]]) (l.drop (i+1))else none:=by rw[List.drop_eq_getElem_cons h];rfl
theorem ent_agg {w:World}{v:Value}{E:En}(h:EntV w v E): ∃r1 n1 c1 r2 n2 c2,v= .agg #[.slice r1 n1 c1,.slice r2 n2 c2]:=by obtain⟨ro,rc,ao,ac,rfl,_⟩:=h;exact⟨_,_,_,_,_,_,rfl⟩
theorem find_err {E:En}{n:List UInt8}{f:Int}(h:findE E n= .error f):f≠0:=by
 unfold findE at h;split at h
 ·cases h;decide
 ·split at h
  ·cases h;decide
  ·cases h
end etw
open Go.RowKit
namespace etw
open atp atw etp
open dnw (Av Avas)
open tupw (Strs strs_below)
theorem add_big (v:Value)(E:En)(n:ByteArray)(bo:Option Addr)(bcap:Nat)(l:List ByteArray)(w:World)(hv:Hid (EntV w v E))(hb:Hid (Bk 1000 E))(hS:Hid (Strs w bo l))(hl:l.length≤50)(hlc:l.length≤bcap)(hls:Hid (∀x∈l,x.size≤100000))(hn:n.size≤100000)(hE:Hid (EnvE w)):
  Calls Tryz.prog 61 #[v,.string n,.slice bo l.length bcap] w fun e w'=>ResE (addE E n.data.toList l) w e w':=by
 have HBD:=Lib.hid (bk_bd hb.out (by omega));have HFI0:Hid (∀W,Below w.heap.size w W→Calls Tryz.prog 85 #[v,.string n] W fun e w'=>FindR (findE E n.data.toList) e∧Below W.heap.size W w'):=fun W h=>finde_any v E n W (Lib.hid (entV_below hv.out h)) HBD (by omega) (Lib.hid (envE_below hE.out h));have HFA0:Hid (∀nm syn sg W,Below w.heap.size w W→Calls Tryz.prog 86 #[.agg #[.string nm,.int .i64 syn,.bool sg],.slice bo l.length bcap] W fun e w'=>e= .returned (.int .i64 (faultI syn l))∧Below W.heap.size W w'):=fun nm syn sg W h=>fault_any nm syn sg bo bcap l W (Lib.hid (strs_below hS.out h)) (by omega) (Lib.hid fun x hx=>by have:=hls.out x hx;omega) (Lib.hid (envE_below hE.out h));have HVA0:Hid (∀m W,Below w.heap.size w W→Calls Tryz.prog 88 #[v,.string m] W fun e w'=>ValsE (valsA E.ats m) W e w'):=fun m W h=>vals_any v E m W (Lib.hid (entV_below hv.out h)) HBD;have HWI0:Hid (∀m o c (all:List ByteArray) W,Below w.heap.size w W→Strs W o all→all.length≤1000→all.length≤c→Calls Tryz.prog 91 #[v,.string m,.slice o all.length c] W fun e w'=>EntE (withE E m all) W e w'):=fun m o c all W h hs h1 h2=>with_any v E m o c all W (Lib.hid (entV_below hv.out h)) HBD (Lib.hid hs) (by omega) h2;have HLK0:Hid (∀nm syn sg o c k (all:List ByteArray) x W,Hid (k=all.length)→Strs W o all→k≤1000→(∀y∈all,y.size≤100000)→x.size≤100000→EnvE W→Calls Tryz.prog 89 #[.agg #[.string nm,.int .i64 syn,.bool sg],.slice o k c,.string x] W fun e w'=>e= .returned (.int .i64 (likeI syn all x))∧Below W.heap.size W w'):=by intro nm syn sg o c k all x W hk hs h1 h2 h3 he;have:=like_any nm syn sg o c all x W (Lib.hid hs) (by rw[←hk.out];omega) (Lib.hid fun y hy=>by have:=h2 y hy;omega) (by omega) (Lib.hid he);rw[←hk.out]at this;exact this
 have HVL:=Lib.hid (bk_vals hb.out);have HRES:Hid (addE E n.data.toList l=match findE E n.data.toList with
  | .error f=> .error f
  | .ok ty=>if l=[]then .error 1 else if faultI ty.syn l≠0 then .error (faultI ty.syn l)else match joinF ty.syn (valsA E.ats (bs ty.name)) l with
   | none=> .error 8
   | some all=>if mostT ty.single<all.length then .error 9 else .ok (withE E (bs ty.name) all)):=rfl
 obtain⟨RR,hRR⟩: ∃r,addE E n.data.toList l=r:=⟨_,rfl⟩;rw[hRR]at HRES ⊢;have HR:=Lib.hid HRES.out.symm;clear HRES hRR;obtain⟨ro,rc,ao,ac,Nr,N,rfl,HN,HA,hac,HNr,HAv,hrc⟩:=ent_form hv.out;obtain⟨W1,hW1⟩: ∃W,w.alloc (.cells #[.slice ro Nr rc,.slice ao N ac] 26)=W:=⟨_,rfl⟩;have hB1:Below w.heap.size w W1:=by rw[←hW1];exact(Below.refl _ _).alloc (Nat.le_refl _) _
 have hT1:EntB W1 w.heap.size (.slice ro Nr rc) (.slice ao N ac):=by rw[←hW1];exact entB_new _ _ _
 obtain⟨W2,hW2⟩: ∃W,W1.alloc (.cells #[.slice none 0 0,.slice none 0 0] 26)=W:=⟨_,rfl⟩;have hB2:Below W1.heap.size W1 W2:=by rw[←hW2];exact(Below.refl _ _).alloc (Nat.le_refl _) _
 obtain⟨q,hqq⟩: ∃q,W1.heap.size=q:=⟨_,rfl⟩;have hqw:w.heap.size≤q:=by rw[←hqq];exact hB1.size
 have hQ2:EntB W2 q (.slice none 0 0) (.slice none 0 0):=by rw[←hW2,←hqq];exact entB_new _ _ _
 have HB2:=Lib.hid (hB1.trans (hB2.mono hB1.size));have HT2:=Lib.hid (entB_below hT1 hB2);have HQ2:=Lib.hid hQ2;obtain⟨k0,k1⟩:=entB_cells HT2.out;have hz2:=HB2.out.size;clear hB1 hB2 hT1 hQ2 hv;have HFI:=Lib.hid (HFI0.out W2 HB2.out);clear HFI0;have HKL:Hid (l=[]↔l.length=0):=List.length_eq_zero_iff.symm;obtain⟨K,hK⟩: ∃K,l.length=K:=⟨_,rfl⟩;rw[hK]at HFA0 HKL hl hlc ⊢;have HK:=Lib.hid hK;clear hK;go_enter Tryz.func61,Tryz.ntmps61;go_wp2_with fail;refine HFI.out.mono ?_;rintro e w3 ⟨hfr,hB3⟩;have HB3:=Lib.hid (HB2.out.trans (hB3.mono hz2));have HT3:=Lib.hid (entB_below HT2.out hB3);have HQ3:=Lib.hid (entB_below HQ2.out hB3);clear hB3 k0 k1 hW1 hW2 HFI hqq;cases hfe:findE E n.data.toList with
 | error f=>
  rw[hfe]at hfr HR;have hfr2:e= .returned (.tuple #[.agg #[.string ⟨#[]⟩,.int .i64 0,.bool false],.int .i64 f]):=hfr;have hf0:f≠0:=find_err hfe;have qf:(f !=0)=true:=by rw[bne_iff_ne];exact hf0
  subst hfr2;clear hfr hfe hf0;have hB4:Below w3.heap.size w3 (w3.alloc (.cells #[.string ⟨#[]⟩,.int .i64 0,.bool false] 108)):=(Below.refl _ _).alloc (Nat.le_refl _) _;have HBX:=Lib.hid (HB3.out.trans (hB4.mono HB3.out.size));have HQ:=Lib.hid (entB_below HQ3.out hB4);clear hB4;obtain⟨v0,v1⟩:=entB_cells HQ.out;have f0:=Lib.frozen_of_heap HQ.out 0;have f1:=Lib.frozen_of_heap HQ.out 1;have hq1:=entB_set0 HQ.out (.slice none 0 0);have hq2:=entB_set1 hq1 (.slice none 0 0);have HQC:=Lib.hid (entB_cells hq2);have HBF:=Lib.hid ((HBX.out.setCell (p:=⟨q,0,none⟩) hqw (.slice none 0 0)).setCell (p:=⟨q,1,none⟩) hqw (.slice none 0 0));clear hq1 hq2;go_wp2_with fail;obtain⟨r0,r1⟩:=HQC.out;refine bodyPost_ret (v:= .tuple #[.agg #[.slice none 0 0,.slice none 0 0],.int .i64 f]) (by rw[results_cell_tmp rfl];go_simp) rfl ?_;exact⟨HBF.out,(by rw[←HR.out])⟩
 | ok ty=>
  rw[hfe]at hfr HR;have hfr2:e= .returned (.tuple #[.agg #[.string (bs ty.name),.int .i64 ty.syn,.bool ty.single],.int .i64 0]):=hfr;subst hfr2;clear hfr;simp only at HR;have HNS:Hid ((bs ty.name).size≤1000):=name_size (findE_ok hfe).2;clear hfe;have HMO:Hid (∀nm W,Calls Tryz.prog 123 #[.agg #[.string nm,.int .i64 ty.syn,.bool ty.single]] W fun e w'=>e= .returned (.int .i64 (mostT ty.single:Int))∧Below W.heap.size W w'):=fun nm W=>room_any nm ty.syn ty.single W;have hm20:mostT ty.single≤20:=by unfold mostT;split<;>omega
  generalize bs ty.name=nm at HNS HR;generalize ty.syn=syn at HMO HR;generalize ty.single=sg at HMO hm20 HR;generalize mostT sg=MX at HMO hm20 HR;obtain⟨w4,hw4⟩: ∃W,w3.alloc (.cells #[.string nm,.int .i64 syn,.bool sg] 108)=W:=⟨_,rfl⟩;have hB4:Below w3.heap.size w3 w4:=by rw[←hw4];exact(Below.refl _ _).alloc (Nat.le_refl _) _
  obtain⟨tb,htb⟩: ∃tb,w3.heap.size=tb:=⟨_,rfl⟩;have HY4:Hid (TB w4 tb nm syn sg):=by rw[←hw4,←htb];exact tb_new _ _ _ _
  have HB4:=Lib.hid (HB3.out.trans (hB4.mono HB3.out.size));have HT4:=Lib.hid (entB_below HT3.out hB4);have HQ4:=Lib.hid (entB_below HQ3.out hB4);obtain⟨y0,y1,y2⟩:=tb_cells HY4.out;clear hB4;by_cases hK0:K=0
  ·have hl0:=HKL.out.2 hK0;have dk:((K:Int)==0)=true:=(by rw[beq_iff_eq];omega);rw[if_pos hl0]at HR;clear hl0;have HBX:=HB4;have HQ:=HQ4;clear hK0;obtain⟨v0,v1⟩:=entB_cells HQ.out;have f0:=Lib.frozen_of_heap HQ.out 0;have f1:=Lib.frozen_of_heap HQ.out 1;have hq1:=entB_set0 HQ.out (.slice none 0 0);have hq2:=entB_set1 hq1 (.slice none 0 0);have HQC:=Lib.hid (entB_cells hq2);have HBF:=Lib.hid ((HBX.out.setCell (p:=⟨q,0,none⟩) hqw (.slice none 0 0)).setCell (p:=⟨q,1,none⟩) hqw (.slice none 0 0));clear hq1 hq2;go_wp2_with fail;obtain⟨r0,r1⟩:=HQC.out;refine bodyPost_ret (v:= .tuple #[.agg #[.slice none 0 0,.slice none 0 0],.int .i64 1]) (by rw[results_cell_tmp rfl];go_simp) rfl ?_;exact⟨HBF.out,(by rw[←HR.out])⟩
  ·have dk:((K:Int)==0)=false:=(by rw[beq_eq_false_iff_ne];omega);rw[if_neg (fun h=>hK0 (HKL.out.1 h))]at HR;have hKp:0<K:=(by omega);clear hK0;have HFA:=Lib.hid (HFA0.out nm syn sg w4 HB4.out);clear HFA0;generalize faultI syn l=fa at HFA HR;go_wp2_with fail;refine HFA.out.mono ?_;rintro e w5 ⟨rfl,hB5⟩;have HB5:=Lib.hid (HB4.out.trans (hB5.mono HB4.out.size));have HT5:=Lib.hid (entB_below HT4.out hB5);have HQ5:=Lib.hid (entB_below HQ4.out hB5);have HY5:=Lib.hid (tb_below HY4.out hB5);clear hB5 y0 y1 y2 hw4 htb;by_cases hfa:fa=0
   ·have qa:(fa !=0)=false:=(by rw[bne_eq_false_iff_eq];exact hfa);rw[if_neg (not_not_intro hfa)]at HR;clear hfa;have HVA:=Lib.hid (HVA0.out nm w5 HB5.out);have HV1:=HVL.out nm;have hvl1:=HV1.1;have HV2:=Lib.hid HV1.2;clear HVA0 HVL HV1;obtain⟨e0,e1⟩:=entB_cells HT5.out;obtain⟨y0,y1,y2⟩:=tb_cells HY5.out;have HWI:Hid (∀o c (all:List ByteArray) W,Below w.heap.size w W→Strs W o all→all.length≤1000→all.length≤c→Calls Tryz.prog 91 #[.agg #[.slice ro Nr rc,.slice ao N ac],.string nm,.slice o all.length c] W fun e w'=>EntE (withE E nm all) W e w'):=fun o c all W=>HWI0.out nm o c all W;clear HWI0;generalize valsA E.ats nm=p0 at HVA HV2 hvl1 HR;go_wp2_with fail;refine HVA.out.mono ?_;rintro e w6 ⟨x6,rfl,hx6,hB6⟩;have HCL:=Lib.hid (clone_any x6 p0 w6 hx6 (by omega));have HB6:=Lib.hid (HB5.out.trans (hB6.mono HB5.out.size));have HT6:=Lib.hid (entB_below HT5.out hB6);have HQ6:=Lib.hid (entB_below HQ5.out hB6);have HY6:=Lib.hid (tb_below HY5.out hB6);clear hx6 hB6 e0 e1 y0 y1 y2;go_wp2_with fail;refine HCL.out.mono ?_;rintro e w7 ⟨x7,rfl,ho7,hB7⟩;have HO7:=Lib.hid ho7;obtain⟨a7,n7,c7,rfl,hn7⟩:=dnw.ownT_form ho7;have HB67:=Lib.hid hB7;clear ho7 hB7 HCL;go_wp2_with fail;go_loopw [11,44] (fun av iv wr=> ∃ (i:Nat) (all:List ByteArray),i≤K∧iv= .int .i64 (i:Int)∧Hid (prw.OwnT wr w6.heap.size av all)∧Hid (Below w6.heap.size w6 wr)∧Hid (joinF syn p0 l=joinF syn all (l.drop i))∧Hid (all.length≤100+i)∧Hid (∀y∈all,y.size≤100000)) (fun _ iv _=>K- (intOf iv).toNat);case atStart=>exact⟨0,p0,Nat.zero_le _,rfl,HO7.out,HB67.out,rfl,(by show _≤_;omega),(fun y hy=>by have:=HV2.out y hy;omega)⟩
    case round=>
     obtain⟨i,all,hi,rfl,hO,hBr,hJ,hLN,hSZ⟩:=hrel;obtain⟨aR,nR,cR,rfl,hnR⟩:=dnw.ownT_form hO.out;have hszr:=hBr.out.size;have HBr:=Lib.hid (HB6.out.trans (hBr.out.mono HB6.out.size));have HTr:=Lib.hid (entB_below HT6.out hBr.out);have HQr:=Lib.hid (entB_below HQ6.out hBr.out);have HYr:=Lib.hid (tb_below HY6.out hBr.out);obtain⟨y0,y1,y2⟩:=tb_cells HYr.out;have hnR100:nR≤200:=(by rw[hnR.out];have:=hLN.out;omega);by_cases hlt:i<K
     ·have hltI:(i:Int)<(K:Int):=(by omega);have hil:i<l.length:=(by rw[HK.out];exact hlt);obtain⟨b,o,hbo,hc0⟩:=(strs_below hS.out HBr.out) i hil;subst hbo;have HST:=Lib.hid (join_step (syn:=syn) (all:=all) hil);have hxs:=hls.out l[i] (List.getElem_mem _);obtain⟨x,hx⟩: ∃x,l[i]=x:=⟨_,rfl⟩;rw[hx]at hc0 HST hxs;clear hx;have HLK:=Lib.hid (HLK0.out nm syn sg aR cR nR all x wr hnR (by obtain⟨g1,g2,g3,g4⟩:=elem_form (own_elem hO.out);simp only[Value.slice.injEq]at g4;obtain⟨⟨rfl,rfl,rfl⟩,_,_,g5⟩:=g4;exact g5) (by omega) hSZ.out hxs (envE_below hE.out HBr.out));generalize hlk:likeI syn all x=lk at HLK HST;clear hlk;by_cases hneg:lk<0
      ·have q2:decide ((0:Int)≤lk)=false:=decide_eq_false (by omega);have HJ:Hid (joinF syn p0 l=joinF syn (all++[x]) (l.drop (i+1))):=(by show _=_;rw[hJ.out,HST.out,if_pos hneg]);clear hneg HST;go_wp2_with fail;refine HLK.out.mono ?_;rintro e w8 ⟨rfl,hB8⟩;have hBr8:=hBr.out.trans (hB8.mono hszr);obtain⟨a9,m9,c9,w9,hap,hO9,_,hB9⟩:=dnw.ownT_appG x (dnw.ownT_below hO.out hB8) (by have:=hLN.out;omega) hBr8.size;have HO9:=Lib.hid hO9;have HB9:=Lib.hid (hBr8.trans hB9);have HLN9:Hid ((all++[x]).length≤100+(i+1)):=(by show _≤_;rw[List.length_append];have:=hLN.out;simp only[List.length_cons,List.length_nil];omega);have HSZ9:Hid (∀y∈all++[x],y.size≤100000):=fun y hy=>by
        rcases List.mem_append.1 hy with hy | hy
        ·exact hSZ.out y hy
        ·rw[List.mem_singleton]at hy;rw[hy];exact hxs
       clear hO9 hB9 hBr8 hB8 y0 y1 y2 hc0;go_wp2_with (at_builtin;refine Lib.wpList_append_run _ rfl _ _ _ _ rfl _ _ rfl rfl _ _ hap ?_);go_roundw;case rel=>exact⟨i+1,all++[x],by omega,by go_num,HO9.out,HB9,HJ,HLN9,HSZ9⟩
       case measure=>simp[intOf];omega
      ·have q2:decide ((0:Int)≤lk)=true:=decide_eq_true (by omega);have HJ:Hid (joinF syn p0 l=none):=(by show _=_;rw[hJ.out,HST.out,if_neg hneg]);rw[HJ.out]at HR;clear hneg HST HJ;simp only at HR;go_wp2_with fail;refine HLK.out.mono ?_;rintro e w8 ⟨rfl,hB8⟩;have HBX:=Lib.hid (HBr.out.trans (hB8.mono HBr.out.size));have HQ:=Lib.hid (entB_below HQr.out hB8);clear hB8 y0 y1 y2 hc0;obtain⟨v0,v1⟩:=entB_cells HQ.out;have f0:=Lib.frozen_of_heap HQ.out 0;have f1:=Lib.frozen_of_heap HQ.out 1;have hq1:=entB_set0 HQ.out (.slice none 0 0);have hq2:=entB_set1 hq1 (.slice none 0 0);have HQC:=Lib.hid (entB_cells hq2);have HBF:=Lib.hid ((HBX.out.setCell (p:=⟨q,0,none⟩) hqw (.slice none 0 0)).setCell (p:=⟨q,1,none⟩) hqw (.slice none 0 0));clear hq1 hq2;go_wp2_with fail;obtain⟨r0,r1⟩:=HQC.out;refine bodyPost_ret (v:= .tuple #[.agg #[.slice none 0 0,.slice none 0 0],.int .i64 8]) (by rw[results_cell_tmp rfl];go_simp) rfl ?_;exact⟨HBF.out,(by rw[←HR.out])⟩
     ·obtain rfl:K=i:=(by omega);have HJ:Hid (joinF syn p0 l=some all):=(by show _=_;rw[hJ.out,←HK.out,List.drop_length];rfl);rw[HJ.out]at HR;simp only at HR;rw[←hnR.out]at HR;clear HJ;by_cases hmx:MX<nR
      ·have q3:decide (MX<nR)=true:=decide_eq_true hmx;rw[if_pos hmx]at HR;clear hmx;go_wp2_with fail;refine(HMO.out _ _).mono ?_;rintro e w8 ⟨rfl,hB8⟩;have HBX:=Lib.hid (HBr.out.trans (hB8.mono HBr.out.size));have HQ:=Lib.hid (entB_below HQr.out hB8);clear hB8 y0 y1 y2;obtain⟨v0,v1⟩:=entB_cells HQ.out;have f0:=Lib.frozen_of_heap HQ.out 0;have f1:=Lib.frozen_of_heap HQ.out 1;have hq1:=entB_set0 HQ.out (.slice none 0 0);have hq2:=entB_set1 hq1 (.slice none 0 0);have HQC:=Lib.hid (entB_cells hq2);have HBF:=Lib.hid ((HBX.out.setCell (p:=⟨q,0,none⟩) hqw (.slice none 0 0)).setCell (p:=⟨q,1,none⟩) hqw (.slice none 0 0));clear hq1 hq2;go_wp2_with fail;obtain⟨r0,r1⟩:=HQC.out;refine bodyPost_ret (v:= .tuple #[.agg #[.slice none 0 0,.slice none 0 0],.int .i64 9]) (by rw[results_cell_tmp rfl];go_simp) rfl ?_;exact⟨HBF.out,(by rw[←HR.out])⟩
      ·have q3:decide (MX<nR)=false:=decide_eq_false hmx;rw[if_neg hmx]at HR;go_wp2_with fail;refine(HMO.out _ _).mono ?_;rintro e w8 ⟨rfl,hB8⟩;have HB8:=Lib.hid (HBr.out.trans (hB8.mono HBr.out.size));obtain⟨e0,e1⟩:=entB_cells (entB_below HTr.out hB8);have HQ8:=Lib.hid (entB_below HQr.out hB8);have hz8:=(tb_cells (tb_below HYr.out hB8)).1;obtain⟨g1,g2,g3,g4⟩:=elem_form (elem_below (own_elem hO.out) hB8);simp only[Value.slice.injEq]at g4;obtain⟨⟨rfl,rfl,rfl⟩,g5,g6,g7⟩:=g4;have HWC0:=HWI.out aR cR all w8 HB8.out g7 (by rw[←g5.out];omega) (by rw[←g5.out];exact g6);rw[←g5.out]at HWC0;have HWC:=Lib.hid HWC0;clear hB8 y0 y1 y2 g5 g6 g7 HWC0 hmx;go_wp2_with fail;refine HWC.out.mono ?_;rintro e w9 ⟨v9,rfl,hv9,hB9⟩;obtain⟨r1,n1,c1,r2,n2,c2,rfl⟩:=ent_agg hv9;have HV:=Lib.hid hv9;have HBX:=Lib.hid (HB8.out.trans (hB9.mono HB8.out.size));have HQ:=Lib.hid (entB_below HQ8.out hB9);clear hv9 hB9 e0 e1 hz8;obtain⟨v0,v1⟩:=entB_cells HQ.out;have f0:=Lib.frozen_of_heap HQ.out 0;have f1:=Lib.frozen_of_heap HQ.out 1;have hq1:=entB_set0 HQ.out (.slice r1 n1 c1);have hq2:=entB_set1 hq1 (.slice r2 n2 c2);have HQC:=Lib.hid (entB_cells hq2);have HBF:=Lib.hid ((HBX.out.setCell (p:=⟨q,0,none⟩) hqw (.slice r1 n1 c1)).setCell (p:=⟨q,1,none⟩) hqw (.slice r2 n2 c2));have HVF:=Lib.hid (entV_set (entV_set HV.out HQ.out (noS_slice _ _ _) (noS_slice _ _ _) 0 (.slice r1 n1 c1)) hq1 (noS_slice _ _ _) (noS_slice _ _ _) 1 (.slice r2 n2 c2));clear hq1 hq2;go_wp2_with fail;obtain⟨r0,r1'⟩:=HQC.out;refine bodyPost_ret (v:= .tuple #[.agg #[.slice r1 n1 c1,.slice r2 n2 c2],.int .i64 0]) (by rw[results_cell_tmp rfl];go_simp) rfl ?_;exact⟨HBF.out,(by rw[←HR.out];exact⟨_,rfl,HVF.out⟩)⟩
   ·have qa:(fa !=0)=true:=(by rw[bne_iff_ne];exact hfa);rw[if_pos hfa]at HR;have HBX:=HB5;have HQ:=HQ5;clear hfa;obtain⟨v0,v1⟩:=entB_cells HQ.out;have f0:=Lib.frozen_of_heap HQ.out 0;have f1:=Lib.frozen_of_heap HQ.out 1;have hq1:=entB_set0 HQ.out (.slice none 0 0);have hq2:=entB_set1 hq1 (.slice none 0 0);have HQC:=Lib.hid (entB_cells hq2);have HBF:=Lib.hid ((HBX.out.setCell (p:=⟨q,0,none⟩) hqw (.slice none 0 0)).setCell (p:=⟨q,1,none⟩) hqw (.slice none 0 0));clear hq1 hq2;go_wp2_with fail;obtain⟨r0,r1⟩:=HQC.out;refine bodyPost_ret (v:= .tuple #[.agg #[.slice none 0 0,.slice none 0 0],.int .i64 fa]) (by rw[results_cell_tmp rfl];go_simp) rfl ?_;exact⟨HBF.out,(by rw[←HR.out])⟩
end etw
open Go.RowKit
namespace etw
open atp atw etp
open dnw (Av Avas)
open tupw (Strs strs_below)
def bigV (v:ByteArray):Bool:=decide (1100<v.size)
def longL (l:List ByteArray):Bool:=decide (40<l.length)||l.any bigV
def bigR (a:Av):Bool:=decide (600<a.t.size)||decide (600<a.v.size)
def bigA (a:At):Bool:=decide (600<a.t.size)||longL a.vs
def longE (e:En):Bool:=decide (20<e.rdn.length)||decide (30<e.ats.length)||e.rdn.any bigR||e.ats.any bigA
theorem longL_no {l:List ByteArray}(h:longL l=false):l.length≤40∧ ∀v∈l,v.size≤1100:=by unfold longL at h;rw[Bool.or_eq_false_iff,decide_eq_false_iff_not,List.any_eq_false]at h;refine⟨by omega,fun v hv=> ?_⟩;have:=h.2 v hv;unfold bigV at this;simp at this;omega
theorem longE_no {e:En}(h:longE e=false):Bk 30 e:=by
 unfold longE at h;rw[Bool.or_eq_false_iff,Bool.or_eq_false_iff,Bool.or_eq_false_iff,decide_eq_false_iff_not,decide_eq_false_iff_not,List.any_eq_false,List.any_eq_false]at h;obtain⟨⟨⟨h1,h2⟩,h3⟩,h4⟩:=h;refine⟨by omega,fun a ha=> ?_,by omega,fun a ha=> ?_⟩
 ·have:=h3 a ha;unfold bigR at this;simp at this;omega
 ·have:=h4 a ha;unfold bigA at this;simp only[Bool.or_eq_true,decide_eq_true_eq,not_or,Bool.not_eq_true]at this;have h5:=longL_no this.2;refine⟨by omega,by omega,fun v hv=> ?_⟩;have:=h5.2 v hv;omega
theorem any_step {α:Type}{f:α→Bool}{l:List α}{i:Nat}(h:i<l.length):(l.drop i).any f=(f l[i]||(l.drop (i+1)).any f):=by rw[List.drop_eq_getElem_cons h,List.any_cons]
theorem longL_any (ao:Option Addr)(cap:Nat)(l:List ByteArray)(w:World)(hl:Hid (Strs w ao l)):Calls Tryz.prog 70 #[.slice ao l.length cap] w fun e w'=>e= .returned (.bool (longL l))∧w=w':=by
 have HLD:Hid (longL l=(decide (40<l.length)||l.any bigV)):=rfl;rw[HLD.out];clear HLD;obtain⟨N,hN⟩: ∃N,l.length=N:=⟨_,rfl⟩;have HN:=Lib.hid hN;rw[hN];clear hN;by_cases h40:40<N
 ·have d1:decide (40<N)=true:=decide_eq_true h40;have h40':(40:Int)<(N:Int):=by omega
  rw[d1,Bool.true_or];go_enter Tryz.func70,Tryz.ntmps70;go_wp2_with fail;go_ret;exact⟨rfl,rfl⟩
 ·have d1:decide (40<N)=false:=decide_eq_false h40;have h40': ¬ (40:Int)<(N:Int):=by omega
  rw[d1,Bool.false_or];go_enter Tryz.func70,Tryz.ntmps70;go_wp2_with fail;go_loop [3] (fun iv=> ∃i:Nat,i≤N∧iv= .int .i64 (i:Int)∧Hid (l.any bigV=(l.drop i).any bigV)) (fun iv=>N- (intOf iv).toNat);case atStart=>exact⟨0,Nat.zero_le _,rfl,rfl⟩
  case round=>
   obtain⟨i,hi,rfl,hJ⟩:=hrel;by_cases hlt:i<N
   ·have hltI:(i:Int)<(N:Int):=(by omega);have hil:i<l.length:=(by rw[HN.out];exact hlt);obtain⟨b,o,hao,hc0⟩:=hl.out i hil;subst hao;have HST:=Lib.hid (any_step (f:=bigV) hil);obtain⟨x,hx⟩: ∃x,l[i]=x:=⟨_,rfl⟩;rw[hx]at hc0 HST;clear hx;by_cases hb:1100<x.size
    ·have d2:decide (1100<x.size)=true:=decide_eq_true hb;have hb':(1100:Int)<(x.size:Int):=(by omega);have HJ:Hid (l.any bigV=true):=(by show _=_;rw[hJ.out,HST.out,show bigV x=true from d2];rfl);go_wp2_with fail;go_ret;exact⟨kt.ret_bool HJ.out.symm,rfl⟩
    ·have d2:decide (1100<x.size)=false:=decide_eq_false hb;have hb': ¬ (1100:Int)<(x.size:Int):=(by omega);have HJ:Hid (l.any bigV=(l.drop (i+1)).any bigV):=(by show _=_;rw[hJ.out,HST.out,show bigV x=false from d2];rfl);go_wp2_with fail;go_round;case rel=>exact⟨i+1,by omega,by go_num,HJ⟩
     case measure=>simp[intOf];omega
   ·obtain rfl:N=i:=(by omega);have HJ:Hid (l.any bigV=false):=(by show _=_;rw[hJ.out,←HN.out,List.drop_length];rfl);go_wp2_with fail;go_ret;exact⟨kt.ret_bool HJ.out.symm,rfl⟩
theorem longE_any (v:Value)(E:En)(w:World)(hv:Hid (EntV w v E)):Calls Tryz.prog 18 #[v] w fun e w'=>e= .returned (.bool (longE E))∧Below w.heap.size w w':=by
 have HLD:Hid (longE E=(decide (20<E.rdn.length)||decide (30<E.ats.length)||E.rdn.any bigR||E.ats.any bigA)):=rfl;rw[HLD.out];clear HLD;obtain⟨ro,rc,ao,ac,Nr,N,rfl,HN,HA,hac,HNr,HAv,hrc⟩:=ent_form hv.out;obtain⟨rdn,L⟩:=E;simp only at HN HA HNr HAv ⊢;rw[HN.out,HNr.out];obtain⟨W1,hW1⟩: ∃W,w.alloc (.cells #[.slice ro Nr rc,.slice ao N ac] 26)=W:=⟨_,rfl⟩;have hB1:Below w.heap.size w W1:=by rw[←hW1];exact(Below.refl _ _).alloc (Nat.le_refl _) _
 have HT1:Hid (EntB W1 w.heap.size (.slice ro Nr rc) (.slice ao N ac)):=by rw[←hW1];exact entB_new _ _ _
 obtain⟨k0,k1⟩:=entB_cells HT1.out;have HB1:=Lib.hid hB1;have HA1:=Lib.hid (ats_below HA.out hB1);have HAv1:=Lib.hid (dnw.avas_below HAv.out hB1);clear hB1 hv HA HAv HT1;by_cases h20:20<Nr
 ·have d1:decide (20<Nr)=true:=decide_eq_true h20;have h20':(20:Int)<(Nr:Int):=by omega
  rw[d1,Bool.true_or,Bool.true_or,Bool.true_or];go_enter Tryz.func18,Tryz.ntmps18;go_wp2_with fail;go_ret;exact⟨rfl,HB1.out⟩
 ·have d1:decide (20<Nr)=false:=decide_eq_false h20;have h20': ¬ (20:Int)<(Nr:Int):=by omega
  rw[d1,Bool.false_or];by_cases h30:30<N
  ·have d2:decide (30<N)=true:=decide_eq_true h30;have h30':(30:Int)<(N:Int):=(by omega);rw[d2,Bool.true_or,Bool.true_or];go_enter Tryz.func18,Tryz.ntmps18;go_wp2_with fail;go_ret;exact⟨rfl,HB1.out⟩
  ·have d2:decide (30<N)=false:=decide_eq_false h30;have h30': ¬ (30:Int)<(N:Int):=(by omega);rw[d2,Bool.false_or];go_enter Tryz.func18,Tryz.ntmps18;go_wp2_with fail;go_loop [3] (fun iv=> ∃i:Nat,i≤Nr∧iv= .int .i64 (i:Int)∧Hid (rdn.any bigR=(rdn.drop i).any bigR)) (fun iv=>Nr- (intOf iv).toNat);case atStart=>exact⟨0,Nat.zero_le _,rfl,rfl⟩
   case round=>
    obtain⟨i,hi,rfl,hJ⟩:=hrel;by_cases hlt:i<Nr
    ·have hltI:(i:Int)<(Nr:Int):=(by omega);have hil:i<rdn.length:=(by rw[HNr.out];exact hlt);obtain⟨b,o,hro,q0,q1⟩:=HAv1.out i hil;subst hro;have HST:=Lib.hid (any_step (f:=bigR) hil);obtain⟨a,ha⟩: ∃a,rdn[i]=a:=⟨_,rfl⟩;rw[ha]at HST q0 q1;clear ha;have HBR:Hid (bigR a=(decide (600<a.t.size)||decide (600<a.v.size))):=rfl;by_cases ht:600<a.t.size
     ·have d3:decide (600<a.t.size)=true:=decide_eq_true ht;have ht':(600:Int)<(a.t.size:Int):=(by omega);have HJ:Hid ((rdn.any bigR||L.any bigA)=true):=(by show _=_;rw[hJ.out,HST.out,HBR.out,d3];simp);go_wp2_with fail;go_ret;exact⟨kt.ret_bool HJ.out.symm,HB1.out⟩
     ·have d3:decide (600<a.t.size)=false:=decide_eq_false ht;have ht': ¬ (600:Int)<(a.t.size:Int):=(by omega);by_cases hvv:600<a.v.size
      ·have d4:decide (600<a.v.size)=true:=decide_eq_true hvv;have hv':(600:Int)<(a.v.size:Int):=(by omega);have HJ:Hid ((rdn.any bigR||L.any bigA)=true):=(by show _=_;rw[hJ.out,HST.out,HBR.out,d3,d4];simp);go_wp2_with fail;go_ret;exact⟨kt.ret_bool HJ.out.symm,HB1.out⟩
      ·have d4:decide (600<a.v.size)=false:=decide_eq_false hvv;have hv': ¬ (600:Int)<(a.v.size:Int):=(by omega);have HJ:Hid (rdn.any bigR=(rdn.drop (i+1)).any bigR):=(by show _=_;rw[hJ.out,HST.out,HBR.out,d3,d4];rfl);go_wp2_with fail;go_round;case rel=>exact⟨i+1,by omega,by go_num,HJ⟩
       case measure=>simp[intOf];omega
    ·obtain rfl:Nr=i:=(by omega);have HR0:Hid (rdn.any bigR=false):=(by show _=_;rw[hJ.out,←HNr.out,List.drop_length];rfl);go_wp2_with fail;go_loop [4] (fun iv=> ∃i:Nat,i≤N∧iv= .int .i64 (i:Int)∧Hid (L.any bigA=(L.drop i).any bigA)) (fun iv=>N- (intOf iv).toNat);case atStart=>exact⟨0,Nat.zero_le _,rfl,rfl⟩
     case round=>
      obtain⟨i,hi2,rfl,hJ2⟩:=hrel;by_cases hlt2:i<N
      ·have hltI:(i:Int)<(N:Int):=(by omega);have hil:i<L.length:=(by rw[HN.out];exact hlt2);obtain⟨b,o,ax,cx,hao,q0,q1,hcx,hST⟩:=HA1.out i hil;subst hao;have HST:=Lib.hid (any_step (f:=bigA) hil);obtain⟨a,ha⟩: ∃a,L[i]=a:=⟨_,rfl⟩;rw[ha]at HST q0 q1 hcx hST;clear ha;have HLL:=Lib.hid (longL_any ax cx a.vs W1 (Lib.hid hST));have HBA:Hid (bigA a=(decide (600<a.t.size)||longL a.vs)):=rfl;obtain⟨M,hM⟩: ∃M,a.vs.length=M:=⟨_,rfl⟩;rw[hM]at q1 HLL;clear hM hST hcx;by_cases ht:600<a.t.size
       ·have d3:decide (600<a.t.size)=true:=decide_eq_true ht;have ht':(600:Int)<(a.t.size:Int):=(by omega);have HJ:Hid ((rdn.any bigR||L.any bigA)=true):=(by show _=_;rw[hJ2.out,HST.out,HBA.out,d3];simp);go_wp2_with fail;go_ret;exact⟨kt.ret_bool HJ.out.symm,HB1.out⟩
       ·have d3:decide (600<a.t.size)=false:=decide_eq_false ht;have ht': ¬ (600:Int)<(a.t.size:Int):=(by omega);cases hll:longL a.vs with
        | true=>rw[hll]at HLL HBA;have HJ:Hid ((rdn.any bigR||L.any bigA)=true):=(by show _=_;rw[hJ2.out,HST.out,HBA.out,d3];simp);clear hll;go_wp2_with fail;refine HLL.out.mono ?_;rintro e w2 ⟨rfl,rfl⟩;go_wp2_with fail;go_ret;exact⟨kt.ret_bool HJ.out.symm,HB1.out⟩
        | false=>
         rw[hll]at HLL HBA;have HJ:Hid (L.any bigA=(L.drop (i+1)).any bigA):=(by show _=_;rw[hJ2.out,HST.out,HBA.out,d3];rfl);clear hll;go_wp2_with fail;refine HLL.out.mono ?_;rintro e w2 ⟨rfl,rfl⟩;go_wp2_with fail;go_round;case rel=>exact⟨i+1,by omega,by go_num,HJ⟩
         case measure=>simp[intOf];omega
      ·obtain rfl:N=i:=(by omega);have HJ:Hid ((rdn.any bigR||L.any bigA)=false):=(by show _=_;rw[HR0.out,hJ2.out,←HN.out,List.drop_length];rfl);go_wp2_with fail;go_ret;exact⟨kt.ret_bool HJ.out.symm,HB1.out⟩
end etw
open Go.RowKit
namespace etw
open atp atw etp
open dnw (Av Avas)
open tupw (Strs strs_below)
theorem strs_one (w:World)(v:ByteArray):Strs (w.alloc (.cells #[.string v] 9)) (some ⟨w.heap.size,0,none⟩) [v]:=by
 intro i hi;have:i=0:=by simpa using hi
 subst this;refine⟨w.heap.size,0,rfl,?_⟩;exact vb_cell (vb_new w v)
end etw
open Go.RowKit
namespace lbw
open lbp atw etp etw
open dnw (Av Avas Rdns parseV)
open tupw (Strs strs_below)
def RecB (w:World)(p:Nat)(nm:ByteArray)(v:Value):Prop:=w.heap[p]? =some (.cells #[.string nm,v] 54 (0,0))
theorem recB_new (w:World)(nm:ByteArray)(v:Value):RecB (w.alloc (.cells #[.string nm,v] 54)) w.heap.size nm v:=heap_alloc_new w _
theorem recB_cells {w:World}{p:Nat}{nm:ByteArray}{v:Value}(h:RecB w p nm v):w.cell? ⟨p,0,none⟩=some (.string nm)∧w.cell? ⟨p,1,none⟩=some v:=⟨(Lib.cell_of_heap h 0).trans rfl,(Lib.cell_of_heap h 1).trans rfl⟩
theorem recB_below {w w':World}{p:Nat}{nm:ByteArray}{v:Value}(h:RecB w p nm v)(hb:Below w.heap.size w w'):RecB w' p nm v:=(hb.block p (kt.bld_lt h)).trans h
def PairB (w:World)(p:Nat)(t v:ByteArray):Prop:=w.heap[p]? =some (.cells #[.string t,.string v] 51 (0,0))
theorem pairB_new (w:World)(t v:ByteArray):PairB (w.alloc (.cells #[.string t,.string v] 51)) w.heap.size t v:=heap_alloc_new w _
theorem pairB_cells {w:World}{p:Nat}{t v:ByteArray}(h:PairB w p t v):w.cell? ⟨p,0,none⟩=some (.string t)∧w.cell? ⟨p,1,none⟩=some (.string v):=⟨(Lib.cell_of_heap h 0).trans rfl,(Lib.cell_of_heap h 1).trans rfl⟩
theorem results_tct {fn:Func}{p u q:Tmp}{ty:TypeId}(h:fn.results=#[.tmp q,.cell p ty,.tmp u])(tmps:Array Value)(P:Program)(w:World):
  (results fn tmps).run P w=
   ((asAddr (tmps.getD p undef)).run P w).andThen fun a w₁=>((loadVar ty a).run P w₁).andThen fun v w₂=> .ok (.tuple #[tmps.getD q undef,v,tmps.getD u undef]) w₂:=by
 simp only[results,h];simp[Sem.run_bind,Result.andThen]
theorem add_err {e:En}{n:List UInt8}{l:List ByteArray}{f:Int}(h:addE e n l= .error f):f≠0:=by
 unfold addE at h;cases hf:findE e n with
 | error g=>rw[hf]at h;cases h;exact find_err hf
 | ok ty=>
  rw[hf]at h;simp only at h;split at h
  ·cases h;decide
  ·split at h
   ·rename_i hfa;cases h;exact hfa
   ·split at h
    ·cases h;decide
    ·split at h
     ·cases h;decide
     ·cases h
def BldR (r:Except Int (List (List Av) × En))(w:World)(e:Ending)(w':World):Prop:=Below w.heap.size w w'∧match r with
 | .ok x=> ∃no cap v,e= .returned (.tuple #[.slice no x.1.length cap,v,.int .i64 0])∧Rdns w' no x.1∧EntV w' v x.2
 | .error f=>e= .returned (.tuple #[.slice none 0 0,.agg #[.slice none 0 0,.slice none 0 0],.int .i64 f])
theorem rdns_put {w:World}{ao:Option Addr}{n:List (List Av)}{q:Nat}{u u':Value}(h:Rdns w ao n)(hn: ∀l∈n,l≠[])(hp:EntB w q (.slice none 0 0) (.slice none 0 0)):Rdns ((w.setCell ⟨q,0,none⟩ u).setCell ⟨q,1,none⟩ u') ao n:=by
 have key: ∀b,b≠q→ ∀j,((w.setCell ⟨q,0,none⟩ u).setCell ⟨q,1,none⟩ u').cell? ⟨b,j,none⟩=w.cell? ⟨b,j,none⟩:=fun b hb j=>
  World.cell?_of_block (a:=⟨b,j,none⟩) ((Below.heap_setCell _ _ _ _ hb).trans (Below.heap_setCell _ _ _ _ hb))
 have hq: ∀j x,w.cell? ⟨q,j,none⟩=some x→x= .slice none 0 0:=by
  intro j x hx;rw[Lib.cell_of_heap hp]at hx
  match j,hx with
  | 0,hx=>simpa using hx.symm
  | 1,hx=>simpa using hx.symm
  | j+2,hx=>simp at hx
 intro i hi;obtain⟨b,o,ao',cap',h1,h2,h3,h4⟩:=h i hi;have hne:=hn n[i] (List.getElem_mem hi);have hbq:b≠q:=by rintro rfl;have:=hq _ _ h2;simp only[Value.slice.injEq]at this;exact hne (List.eq_nil_of_length_eq_zero this.2.1)
 refine⟨b,o,ao',cap',h1,(key b hbq _).trans h2,h3,fun j hj=> ?_⟩;obtain⟨b2,o2,g1,g2,g3⟩:=h4 j hj;have hb2:b2≠q:=by rintro rfl;have:=hq _ _ g2;cases this
 exact⟨b2,o2,g1,(key b2 hb2 _).trans g2,(key b2 hb2 _).trans g3⟩
theorem parse_full {s:ByteArray}: ∀l∈(parseV s).1,dnw.rdnOK l=true:=by
 unfold parseV;split
 ·intro l hl;cases hl
 ·cases h:dnw.parseR s.data.toList with
  | none=>intro l hl;cases hl
  | some n=>exact(dnw.nameOK_facts (dnw.parseR_ok h)).2
theorem rdnOK_ne {l:List Av}(h:dnw.rdnOK l=true):l≠[]:=by rintro rfl;exact absurd h (by decide)
theorem build_any (nm:ByteArray)(po:Option Addr)(pc:Nat)(ps:List Av)(w:World)(hA:Hid (Avas w po ps))(hk:ps.length≤700)(hs:Hid (∀p∈ps,p.t.size≤100000∧p.v.size≤100000))(hn:nm.size≤100000)(hE:Hid (EnvE w)):
  Calls Tryz.prog 37 #[.agg #[.string nm,.slice po ps.length pc]] w fun e w'=>BldR (bldE nm ps) w e w':=by
 have HPA0:Hid (∀W,Below w.heap.size w W→Calls Tryz.prog 94 #[.string nm] W fun e w'=>Below W.heap.size W w'∧ ∃ao cap,e= .returned (.tuple #[.slice ao (parseV nm).1.length cap,.int .i64 (parseV nm).2])∧Rdns w' ao (parseV nm).1):=fun W h=>(dnw.parse_any nm W (by omega) (Lib.hid (envE_below hE.out h).e) (Lib.hid (envE_below hE.out h).t)).mono fun e w' h=>dnw.parseE_V h;have HAD0:Hid (∀v E (t x:ByteArray) b W,EntV W v E→Bk 1000 E→Strs W (some ⟨b,0,none⟩) [x]→t.size≤100000→x.size≤100000→Below w.heap.size w W→Calls Tryz.prog 61 #[v,.string t,.slice (some ⟨b,0,none⟩) 1 1] W fun e w'=>ResE (addE E t.data.toList [x]) W e w'):=fun v E t x b W h1 h2 h3 h4 h5 h=>add_big v E t (some ⟨b,0,none⟩) 1 [x] W (Lib.hid h1) (Lib.hid h2) (Lib.hid h3) (by show 1≤50;omega) (Nat.le_refl _) (Lib.hid fun y hy=>by(rw[List.mem_singleton.1 hy];exact h5)) h4 (Lib.hid (envE_below hE.out h));have HPS:=Lib.hid (dnw.parseV_small nm);have HPF:=Lib.hid (parse_full (s:=nm));have HRES:=Lib.hid (bld_eq nm ps);obtain⟨RR,hRR⟩: ∃r,bldE nm ps=r:=⟨_,rfl⟩;rw[hRR]at HRES ⊢;generalize(parseV nm).1=L at HPA0 HPS HPF HRES;generalize(parseV nm).2=pe at HPA0 HRES;obtain⟨K,hK⟩: ∃n,ps.length=n:=⟨_,rfl⟩;have HK:=Lib.hid hK;rw[hK]at hk ⊢;clear hRR hK;obtain⟨W1,hW1⟩: ∃W,w.alloc (.cells #[.string nm,.slice po K pc] 54)=W:=⟨_,rfl⟩;have hB1:Below w.heap.size w W1:=by rw[←hW1];exact(Below.refl _ _).alloc (Nat.le_refl _) _
 obtain⟨p,hp⟩: ∃p,w.heap.size=p:=⟨_,rfl⟩;have hR1:RecB W1 p nm (.slice po K pc):=by rw[←hW1,←hp];exact recB_new _ _ _
 obtain⟨W2,hW2⟩: ∃W,W1.alloc (.cells #[.slice none 0 0,.slice none 0 0] 26)=W:=⟨_,rfl⟩;have hB2:Below W1.heap.size W1 W2:=by rw[←hW2];exact(Below.refl _ _).alloc (Nat.le_refl _) _
 obtain⟨q,hqq⟩: ∃q,W1.heap.size=q:=⟨_,rfl⟩;have hqw:w.heap.size≤q:=by rw[←hqq];exact hB1.size
 have HQ2:Hid (EntB W2 q (.slice none 0 0) (.slice none 0 0)):=by rw[←hW2,←hqq];exact entB_new _ _ _
 have HB2:=Lib.hid (hB1.trans (hB2.mono hB1.size));have HR2:=Lib.hid (recB_below hR1 hB2);have HPA:=Lib.hid (HPA0.out W2 HB2.out);obtain⟨k0,k1⟩:=recB_cells HR2.out;clear hB1 hB2 hR1 HPA0;go_enter Tryz.func37,Tryz.ntmps37;go_wp2_with fail;refine HPA.out.mono ?_;rintro e w3 ⟨hB3,no,nc,rfl,hN3⟩;have HB3:=Lib.hid (HB2.out.trans (hB3.mono HB2.out.size));have HQ3:=Lib.hid (entB_below HQ2.out hB3);have HR3:=Lib.hid (recB_below HR2.out hB3);have HN3:=Lib.hid hN3;clear hB3 hN3 k0 k1 hW1 hW2 HPA hqq hp HQ2 HR2;by_cases hpe:pe=0
 ·subst hpe;have HRS:Hid (RR=bld2 ps L):=by show _=_;rw[HRES.out,if_neg (by decide)]
  clear HRES;cases L with
  | nil=>have HR:Hid (.error 18=RR):=HRS.out.symm;clear HRS;have HQ:=HQ3;have HBX:=HB3;obtain⟨v0,v1⟩:=entB_cells HQ.out;have f0:=Lib.frozen_of_heap HQ.out 0;have f1:=Lib.frozen_of_heap HQ.out 1;have hq1:=entB_set0 HQ.out (.slice none 0 0);have hq2:=entB_set1 hq1 (.slice none 0 0);have HQC:=Lib.hid (entB_cells hq2);have HBF:=Lib.hid ((HBX.out.setCell (p:=⟨q,0,none⟩) hqw (.slice none 0 0)).setCell (p:=⟨q,1,none⟩) hqw (.slice none 0 0));clear hq1 hq2;go_wp2_with fail;obtain⟨r0,r1⟩:=HQC.out;refine bodyPost_ret (v:= .tuple #[.slice none 0 0,.agg #[.slice none 0 0,.slice none 0 0],.int .i64 18]) (by rw[results_tct rfl];go_simp) rfl ?_;exact⟨HBF.out,by rw[←HR.out]⟩
  | cons r m=>
   have HRT:Hid (RR=finE (r::m) (buildF (ps.map two) ⟨r,[]⟩)):=HRS.out;have HF:=Lib.hid (name_bk (HPF.out r (by simp)));have HNE:Hid (∀l∈r::m,l≠[]):=fun l hl=>rdnOK_ne (HPF.out l hl);obtain⟨b,o,ra,rc,hno,hc0,hrc,hAr⟩:=HN3.out 0 (by simp);subst hno;rw[Nat.add_zero]at hc0;have hr0:(r::m)[0]=r:=rfl;rw[hr0]at hc0 hrc hAr;have hEV:EntV w3 (.agg #[.slice ra r.length rc,.slice none 0 0]) ⟨r,[]⟩:=⟨ra,rc,none,0,rfl,hrc,Nat.le_refl _,hAr,fun i hi=>absurd hi (Nat.not_lt_zero i)⟩;obtain⟨rn,hrn⟩: ∃n,r.length=n:=⟨_,rfl⟩;rw[hrn]at hc0 hEV;have hL1:(r::m).length=m.length+1:=rfl;obtain⟨mn,hmn⟩: ∃n,m.length+1=n:=⟨_,rfl⟩;have hmn0: ¬ (mn:Int)=0:=(by omega);have hmn1:((mn:Int)==0)=false:=(by rw[beq_eq_false_iff_ne];omega);have hmn2:(0:Int)<(mn:Int):=(by omega);have hmn3:0<mn:=(by omega);rw[hL1,hmn];have HMN:Hid ((r::m).length=mn):=hmn;have hB4:Below w3.heap.size w3 (w3.alloc (.cells #[.slice ra rn rc,.slice none 0 0] 26)):=(Below.refl _ _).alloc (Nat.le_refl _) _;have HG4:Hid (EntB (w3.alloc (.cells #[.slice ra rn rc,.slice none 0 0] 26)) w3.heap.size (.slice ra rn rc) (.slice none 0 0)):=entB_new _ _ _;have HV4:=Lib.hid (entV_below hEV hB4);have HR4:=Lib.hid (recB_below HR3.out hB4);have HB34:=Lib.hid hB4;obtain⟨k0,k1⟩:=recB_cells HR4.out;have hK0:0≤K:=Nat.zero_le _;clear hB4 hEV hAr hrc HRS hr0 hL1 hmn hrn HPF HPS;go_wp2_with fail;clear hc0 k0 k1;obtain⟨W4,hW4⟩: ∃W,w3.alloc (.cells #[.slice ra rn rc,.slice none 0 0] 26)=W:=⟨_,rfl⟩;obtain⟨g,hg⟩: ∃g,w3.heap.size=g:=⟨_,rfl⟩;have HG3:Hid (w3.heap.size=g):=hg;rw[hW4]at HG4 HB34 HV4 HR4 ⊢;rw[hg]at HG4 ⊢;have HGQ:Hid (q<g):=(by show q<g;rw[←hg];exact kt.bld_lt HQ3.out);have HGW:Hid (w.heap.size≤g):=(by show _≤g;rw[←hg];exact HB3.out.size);clear hW4 hg;go_loopw [33] (fun iv wr=> ∃ (i:Nat) (E:En) (r1:Option Addr) (n1 c1:Nat) (r2:Option Addr) (n2 c2:Nat),i≤K∧iv= .int .i64 (i:Int)∧Hid (EntB wr g (.slice r1 n1 c1) (.slice r2 n2 c2))∧Hid (EntV wr (.agg #[.slice r1 n1 c1,.slice r2 n2 c2]) E)∧Hid (Bk i E)∧Hid (RR=finE (r::m) (buildF ((ps.map two).drop i) E))∧Hid (Below w3.heap.size w3 wr)) (fun iv _=>K- (intOf iv).toNat);case atStart=>exact⟨0,_,_,_,_,_,_,_,Nat.zero_le _,rfl,HG4.out,HV4.out,HF.out,HRT.out,HB34.out⟩
   case round=>
    clear HG4 HV4 HF HRT HB34;obtain⟨i,E,r1,n1',c1,r2,n2',c2,hi,rfl,hG,hV,hBk,hRT,hB⟩:=hrel;have HG:=hG;have HB:=Lib.hid (HB3.out.trans (hB.out.mono HB3.out.size));have HQr:=Lib.hid (entB_below HQ3.out hB.out);have HRr:=Lib.hid (recB_below HR3.out hB.out);have hgw:g<wr.heap.size:=kt.bld_lt hG.out;have hqw2:q<wr.heap.size:=kt.bld_lt HQr.out;clear hG;by_cases hlt:i<K
    ·have hltI:(i:Int)<(K:Int):=(by omega);have hil:i<ps.length:=(by rw[HK.out];exact hlt);obtain⟨b2,o2,hpo,x0,x1⟩:=(dnw.avas_below hA.out HB.out) i hil;subst hpo;have HSZ:=Lib.hid (hs.out ps[i] (List.getElem_mem hil));have hi2:i<(ps.map two).length:=(by rw[List.length_map];exact hil);have HST:Hid (buildF ((ps.map two).drop i) E=match addE E (ps[i]).t.data.toList [(ps[i]).v]with
      | .error f=> .error f
      | .ok a=>buildF ((ps.map two).drop (i+1)) a):=by
      show _=_;rw[build_step hi2,List.getElem_map];rfl
     obtain⟨a,ha⟩: ∃a,ps[i]=a:=⟨_,rfl⟩;rw[ha]at x0 x1 HSZ HST;obtain⟨W5,hW5⟩: ∃W,wr.alloc (.cells #[.string a.t,.string a.v] 51)=W:=⟨_,rfl⟩;have hB5:Below wr.heap.size wr W5:=(by rw[←hW5];exact(Below.refl _ _).alloc (Nat.le_refl _) _);have hP5:PairB W5 wr.heap.size a.t a.v:=(by rw[←hW5];exact pairB_new _ _ _);obtain⟨y0,y1⟩:=pairB_cells hP5;have HG5:=Lib.hid (entB_below HG.out hB5);obtain⟨g0,g1⟩:=entB_cells HG5.out;obtain⟨W6,hW6⟩: ∃W,W5.alloc (.cells #[.string a.v] 9)=W:=⟨_,rfl⟩;have hB6:Below W5.heap.size W5 W6:=(by rw[←hW6];exact(Below.refl _ _).alloc (Nat.le_refl _) _);obtain⟨bs5,hbs5⟩: ∃b,W5.heap.size=b:=⟨_,rfl⟩;have HS6:Hid (Strs W6 (some ⟨bs5,0,none⟩) [a.v]):=(by rw[←hW6,←hbs5];exact strs_one _ _);have HBr6:=Lib.hid (hB5.trans (hB6.mono hB5.size));have HG6:=Lib.hid (entB_below HG5.out hB6);have HAD:=Lib.hid (HAD0.out _ E a.t a.v bs5 W6 (entV_below hV.out HBr6.out) (by have h:=hBk.out;exact⟨h.rl,h.rs,by have:=h.al;omega,h.as_⟩) HS6.out HSZ.out.1 HSZ.out.2 (HB.out.trans (HBr6.out.mono HB.out.size)));clear ha hB5 hP5 hB6;go_wp2_with fail;clear x0 x1 y0 y1 g0 g1 hW5 hW6 hbs5;refine HAD.out.mono ?_;rintro e w7 ⟨hB7,hres⟩;have HB7:=Lib.hid (HBr6.out.trans (hB7.mono HBr6.out.size));have HG7:=Lib.hid (entB_below HG6.out hB7);have HB37:=Lib.hid (hB.out.trans (HB7.out.mono hB.out.size));obtain⟨g0,g1⟩:=entB_cells HG7.out;have gf0:=Lib.frozen_of_heap HG7.out 0;have gf1:=Lib.frozen_of_heap HG7.out 1;have hle3:w3.heap.size≤g:=Nat.le_of_eq HG3.out;clear hB7;cases hadd:addE E a.t.data.toList [a.v]with
     | error f=>rw[hadd]at hres HST;have hres2:e= .returned (.tuple #[.agg #[.slice none 0 0,.slice none 0 0],.int .i64 f]):=hres;subst hres2;have hf0:(f !=0)=true:=(by rw[bne_iff_ne];exact add_err hadd);have HR:Hid (.error f=RR):=(by show _=_;rw[hRT.out,HST.out];rfl);have HB38:Hid (Below w3.heap.size w3 ((w7.setCell ⟨g,0,none⟩ (.slice none 0 0)).setCell ⟨g,1,none⟩ (.slice none 0 0))):=(HB37.out.setCell hle3 _).setCell hle3 _;have HQ:=Lib.hid (entB_below HQ3.out HB38.out);have HBX:=Lib.hid (HB3.out.trans (HB38.out.mono HB3.out.size));clear hadd hres;obtain⟨v0,v1⟩:=entB_cells HQ.out;have f0:=Lib.frozen_of_heap HQ.out 0;have f1:=Lib.frozen_of_heap HQ.out 1;have hq1:=entB_set0 HQ.out (.slice none 0 0);have hq2:=entB_set1 hq1 (.slice none 0 0);have HQC:=Lib.hid (entB_cells hq2);have HBF:=Lib.hid ((HBX.out.setCell (p:=⟨q,0,none⟩) hqw (.slice none 0 0)).setCell (p:=⟨q,1,none⟩) hqw (.slice none 0 0));clear hq1 hq2;go_wp2_with fail;obtain⟨r0,r1⟩:=HQC.out;refine bodyPost_ret (v:= .tuple #[.slice none 0 0,.agg #[.slice none 0 0,.slice none 0 0],.int .i64 f]) (by rw[results_tct rfl];go_simp) rfl ?_;exact⟨HBF.out,by rw[←HR.out]⟩
     | ok A=>
      rw[hadd]at hres HST;obtain⟨v2,rfl,hv2⟩:=hres;have HBk2:=Lib.hid (bk_add1 hBk.out hadd);obtain⟨r1',c1',r2',c2',n1',n2',rfl,_,_,_,_,_,_⟩:=ent_form hv2;have HRT2:Hid (RR=finE (r::m) (buildF ((ps.map two).drop (i+1)) A)):=(by show _=_;rw[hRT.out,HST.out]);have hq1:=entB_set0 HG7.out (.slice r1' n1' c1');have HG8:=Lib.hid (entB_set1 hq1 (.slice r2' n2' c2'));have HV8:=Lib.hid (entV_set (entV_set hv2 HG7.out (noS_slice _ _ _) (noS_slice _ _ _) 0 (.slice r1' n1' c1')) hq1 (noS_slice _ _ _) (noS_slice _ _ _) 1 (.slice r2' n2' c2'));have HB38:Hid (Below w3.heap.size w3 ((w7.setCell ⟨g,0,none⟩ (.slice r1' n1' c1')).setCell ⟨g,1,none⟩ (.slice r2' n2' c2'))):=(HB37.out.setCell hle3 _).setCell hle3 _;clear hadd hv2 hq1;go_wp2_with fail;clear g0 g1 gf0 gf1;go_roundw;case rel=>exact⟨i+1,A,_,_,_,_,_,_,by omega,by go_num,HG8.out,HV8.out,HBk2.out,HRT2.out,HB38.out⟩
      case measure=>simp[intOf];omega
    ·obtain rfl:K=i:=(by omega);have HR:Hid (.ok (r::m,E)=RR):=(by show _=_;rw[hRT.out,List.drop_of_length_le (by rw[List.length_map,HK.out];exact Nat.le_refl _)];rfl);obtain⟨e0,e1⟩:=entB_cells HG.out;have hle:=hgw;obtain⟨n0,n1⟩:=entB_cells HQr.out;have qf0:=Lib.frozen_of_heap HQr.out 0;have qf1:=Lib.frozen_of_heap HQr.out 1;have hgq:g≠q:=(by have:=HGQ.out;omega);have hD: ∀W:World,Below W.heap.size W W.drew:=fun W=>(Below.refl _ _).drew;have hz:=entB_below (entB_other (entB_other HG.out hgq (j:=0) (.slice r1 n1' c1)) hgq (j:=1) (.slice r2 n2' c2)) (hD _);obtain⟨z0,z1⟩:=entB_cells hz;have hq1:=entB_set0 HQr.out (.slice r1 n1' c1);have HQ2:=Lib.hid (entB_below (entB_set1 hq1 (.slice r2 n2' c2)) (hD _));have HVF:=Lib.hid (entV_below (entV_set (entV_set hV.out HQr.out (noS_slice _ _ _) (noS_slice _ _ _) 0 (.slice r1 n1' c1)) hq1 (noS_slice _ _ _) (noS_slice _ _ _) 1 (.slice r2 n2' c2)) (hD _));have HNF:=Lib.hid (dnw.rdns_below (rdns_put (u:= .slice r1 n1' c1) (u':= .slice r2 n2' c2) (dnw.rdns_below HN3.out hB.out) HNE.out HQr.out) (hD _));have HBF:=Lib.hid ((((HB.out).setCell (p:=⟨q,0,none⟩) hqw (.slice r1 n1' c1)).setCell (p:=⟨q,1,none⟩) hqw (.slice r2 n2' c2)).drew);clear hD;clear hz hq1;go_wp2_with fail;refine wp_region_held_drew (S:=fun W=>W.cell? ⟨g,0,none⟩=some (.slice r1 n1' c1)∧W.cell? ⟨g,1,none⟩=some (.slice r2 n2' c2)) (by kernel_rfl) (⟨e0,e1⟩) (fun hHeld=> ?_);refine tk 0 ⟨some 52,_,_,_,_,_⟩ rfl ?_;refine tk 1 ⟨some 53,_,_,_,_,_⟩ rfl ?_;refine tk 2 ⟨some 2,_,_,_,_,_⟩ rfl ?_;refine etw.tc 3 ⟨none,_,_,_,_,_⟩ rfl (fun K hK=> ?_);go_simp;refine hK.out _ _ (⟨z0,z1⟩) (fun hHeld=> ?_);clear hK;try simp only[Act.put,List.setIfInBounds_toArray,List.set_cons_zero,List.set_cons_succ]
     refine tk 4 ⟨some 4,_,_,_,_,_⟩ rfl ?_;refine wpAnyH_done (by kernel_rfl) ?_ _;clear hHeld n0 n1 qf0 qf1 z0 z1 e0 e1;go_wp2_with fail;obtain⟨u0,u1⟩:=entB_cells HQ2.out;refine bodyPost_ret (v:= .tuple #[.slice (some ⟨b,o,none⟩) mn nc,.agg #[.slice r1 n1' c1,.slice r2 n2' c2],.int .i64 0]) (by rw[results_tct rfl];go_simp) rfl ?_;refine⟨HBF.out,?_⟩;rw[←HR.out];exact⟨_,_,_,by rw[HMN.out],HNF.out,HVF.out⟩
 ·have hpe2:(pe !=0)=true:=by rw[bne_iff_ne];exact hpe
  have HR:Hid (.error pe=RR):=by show _=_;rw[HRES.out,if_pos hpe]
  clear hpe HRES;have HQ:=HQ3;have HBX:=HB3;obtain⟨v0,v1⟩:=entB_cells HQ.out;have f0:=Lib.frozen_of_heap HQ.out 0;have f1:=Lib.frozen_of_heap HQ.out 1;have hq1:=entB_set0 HQ.out (.slice none 0 0);have hq2:=entB_set1 hq1 (.slice none 0 0);have HQC:=Lib.hid (entB_cells hq2);have HBF:=Lib.hid ((HBX.out.setCell (p:=⟨q,0,none⟩) hqw (.slice none 0 0)).setCell (p:=⟨q,1,none⟩) hqw (.slice none 0 0));clear hq1 hq2;go_wp2_with fail;obtain⟨r0,r1⟩:=HQC.out;refine bodyPost_ret (v:= .tuple #[.slice none 0 0,.agg #[.slice none 0 0,.slice none 0 0],.int .i64 pe]) (by rw[results_tct rfl];go_simp) rfl ?_;exact⟨HBF.out,by rw[←HR.out]⟩
end lbw
open Go.RowKit
theorem digit_at (n:Nat)(h:n<(ByteArray.mk #[48,49,50,51,52,53,54,55,56,57,97,98,99,100,101,102]).size):(ByteArray.mk #[48,49,50,51,52,53,54,55,56,57,97,98,99,100,101,102])[n]=b64p.dg n:=by
 have h16:n<16:=h;have all: ∀m:Fin 16,(ByteArray.mk #[48,49,50,51,52,53,54,55,56,57,97,98,99,100,101,102])[m.val]'(m.isLt)=b64p.dg m.val:=by decide
 exact all ⟨n,h16⟩
theorem hex_any (s:ByteArray)(w:World)(hs:s.size≤3000):
  Calls Tryz.prog 211 #[.string s] w fun e w'=>e= .returned (.string ⟨(b64p.hex s.data.toList).toArray⟩)∧Below w.heap.size w w':=by
 go_enter Tryz.func211,Tryz.ntmps211;go_wp2_with fail;go_loopw [7] (fun i wr=> ∃k:Nat,k≤s.size∧i= .int .i64 k∧bld.Is w.heap.size w.heap.size (b64p.hex (s.data.toList.take k)) wr∧Below w.heap.size w wr) (fun i _=>s.size- (intOf i).toNat);case atStart=>exact⟨0,Nat.zero_le _,rfl,bld.fresh w,(Below.refl _ _).alloc (Nat.le_refl _) _⟩
 case round=>
  obtain⟨k,hk,rfl,hI,hB⟩:=hrel;by_cases hlt:k<s.size
  ·have hb:=s[k].toNat_lt;have e1:bits .and .u8 (s[k].toNat:Int) 15=((s[k].toNat % 16:Nat):Int):=(by have h:=u8_and_nat s[k].toNat 15 hb (by omega);rw[show s[k].toNat&&&15=s[k].toNat % 16 from Nat.and_two_pow_sub_one_eq_mod _ 4]at h;exact h);have hlen:(b64p.hex (s.data.toList.take k)).length≤6000:=(by rw[b64p.hex_length,List.length_take];omega);have hsz:=hB.size;have hI':=Lib.hid hI;clear hI;go_wp2_with fail;refine(bld.writeByte_cell _ _ _ _ _ hI'.out (by omega) hsz).mono ?_;rintro e w1 ⟨rfl,hI1,hB1⟩;have hI1':=Lib.hid hI1;clear hI1;have hsz1:=hB1.size;go_wp2_with fail;refine(bld.writeByte_cell _ _ _ _ _ hI1'.out (by simp;omega) (by omega)).mono ?_;rintro e w2 ⟨rfl,hI2,hB2⟩;have hI2':=Lib.hid hI2;clear hI2;go_wp2_with fail;go_roundw;case rel=>
    refine⟨k+1,by omega,by go_num,?_,(hB.trans hB1).trans hB2⟩;have h:=hI2'.out;rw[digit_at,digit_at]at h;rw[kt.take_snoc s k hlt,b64p.hex_append];simpa[b64p.hex]using h
   case measure=>simp[intOf];omega
  ·obtain rfl:k=s.size:=(by omega);have hsz:=hB.size;have hI':=Lib.hid hI;clear hI;go_wp2_with fail;refine(Tryz.Builder_String_any _ _ _ _ hI'.out hsz).mono ?_;rintro e w1 ⟨rfl,hB1⟩;go_wp2;go_ret;exact⟨kt.ret_str (by rw[List.take_of_length_le (by simp)]),hB.trans hB1⟩
open Go.RowKit
namespace dnw
open dnp
theorem ix_special (d:UInt8):0≤Lib.indexByte [34,43,44,59,60,61,62,92] d↔special d=true:=by
 have all: ∀m:Fin 256,(decide (0≤Lib.indexByte [34,43,44,59,60,61,62,92] (UInt8.ofNat m.val)))=special (UInt8.ofNat m.val):=by decide+kernel
 have h:=all ⟨d.toNat,d.toNat_lt⟩;simp only[UInt8.ofNat_toNat]at h;rw[←h,decide_eq_true_iff]
theorem signsIx (c:UInt8)(W:World): ∃r:Int,(0≤r↔special c=true)∧Calls Tryz.prog 175 #[.string ⟨#[34,43,44,59,60,61,62,92]⟩,.int .u8 (c.toNat:Int)] W fun e w'=>e= .returned (.int .i64 r)∧W=w':=by have C:=Tryz.strings_IndexByte {data:=#[34,43,44,59,60,61,62,92]} (c.toNat:Int) W;refine⟨_,?_,C.mono fun e w' h=>⟨h.1,by first | exact h.2 | exact h.2.symm⟩⟩;rw[show((c.toNat:Int)).toNat.toUInt8=c from by simp];exact ix_special c
def TxAt (s:ByteArray)(i:Nat)(acc:List UInt8):Prop:=acc++textF (decide (i=0)) (s.data.toList.drop i)=textL s.data.toList
theorem txAt_step {s:ByteArray}{i:Nat}{acc:List UInt8}(h:TxAt s i acc)(hi:i<s.size):TxAt s (i+1) (acc++textB (decide (i=0)) (decide (i+1=s.size)) s[i]):=by
 unfold TxAt at*;rw[drop_cons s i hi,textF]at h;rw[←h,List.append_assoc];have e:(s.data.toList.drop (i+1)).isEmpty=decide (i+1=s.size):=by
  by_cases h:i+1=s.size
  ·rw[decide_eq_true h,List.isEmpty_iff,List.drop_eq_nil_iff,kt.size_len];omega
  ·rw[decide_eq_false h,Bool.eq_false_iff];intro h2;rw[List.isEmpty_iff,List.drop_eq_nil_iff,kt.size_len]at h2;omega
 rw[e,decide_eq_false (by omega: ¬i+1=0)]
theorem txAt_end {s:ByteArray}{acc:List UInt8}(h:TxAt s s.size acc):acc=textL s.data.toList:=by unfold TxAt at h;rw[drop_end]at h;simpa[textF]using h
theorem textB_hex {f l:Bool}{c:UInt8}(h:hexed c=true):textB f l c=[92]++b64p.hex [c]:=if_pos h
theorem textB_esc {f l:Bool}{c:UInt8}(h:hexed c=false)(h2:fenced f l c=true):textB f l c=[92]++[c]:=(if_neg (by rw[h];simp)).trans (if_pos h2)
theorem textB_bare {f l:Bool}{c:UInt8}(h:hexed c=false)(h2:fenced f l c=false):textB f l c=[c]:=(if_neg (by rw[h];simp)).trans (if_neg (by rw[h2];simp))
theorem hexed_iff (c:UInt8):hexed c=true↔(c.toNat:Int)<32∨(c.toNat:Int)=127:=by
 unfold hexed;rw[decide_eq_true_iff];constructor
 ·rintro(h | h)
  ·left;have:c.toNat<32:=h;omega
  ·right;rw[h];rfl
 ·rintro(h | h)
  ·left;show c.toNat<32;omega
  ·right;exact u8_eq (n:=127) (by omega) h
theorem is_below {B b:Nat}{l:List UInt8}{w w':World}(h:bld.Is B b l w)(hb:Below w.heap.size w w'):bld.Is B b l w':=by
 rcases h with⟨hB,v,hbk,hown,hne⟩ | ⟨hB,v,hbk,hown,hne⟩
 ·exact Or.inl ⟨hB,v,(hb.block b (bld.lt_of_heap hbk)).trans hbk,kt.row_below hown hb,hne⟩
 ·exact Or.inr ⟨hB,v,(hb.block b (bld.lt_of_heap hbk)).trans hbk,kt.row_below hown hb,hne⟩
theorem dval_any (s:ByteArray)(w:World)(hs:s.size≤1100000):Calls Tryz.prog 164 #[.string s] w fun e w'=>e= .returned (.string ⟨(textL s.data.toList).toArray⟩)∧Below w.heap.size w w':=by
 go_enter Tryz.func164,Tryz.ntmps164;go_wp2_with fail;go_loopw [4,5,6,9] (fun _ _ _ iv wr=> ∃ (i:Nat) (acc:List UInt8),i≤s.size∧iv= .int .i64 (i:Int)∧Hid (bld.Is w.heap.size w.heap.size acc wr)∧acc.length≤3*i∧Hid (TxAt s i acc)∧Below w.heap.size w wr) (fun _ _ _ iv _=>s.size- (intOf iv).toNat);case atStart=>exact⟨0,[],Nat.zero_le _,rfl,bld.fresh w,Nat.zero_le _,rfl,(Below.refl _ _).alloc (Nat.le_refl _) _⟩
 case round=>
  obtain⟨i,acc,hi,rfl,HI,hal,hT,hB⟩:=hrel;have hsz:=hB.size;by_cases hlt:i<s.size
  ·have hlt':(i:Int)<(s.size:Int):=(by omega);have HT:=txAt_step hT.out hlt;obtain⟨r,hr,CX⟩:=signsIx (s[i]'hlt) wr;have HC:=Lib.hid CX;have HX0:=hexed_iff (s[i]'hlt);have hlen:acc.length≤3400000:=(by omega);have hc:=(s[i]'hlt).toNat_lt;have HT:=Lib.hid HT;clear CX;by_cases hx:hexed (s[i]'hlt)=true
   ·have HTX:Hid (TxAt s (i+1) (acc++[92]++b64p.hex [(s[i]'hlt)])):=(by have h:=HT.out;rw[textB_hex hx,←List.append_assoc]at h;exact h);have y1: ¬ ((s[i]'hlt).toNat:Int)=32:=(by have:=HX0.1 hx;omega);have y2: ¬ ((s[i]'hlt).toNat:Int)=35:=(by have:=HX0.1 hx;omega);have q32:(((s[i]'hlt).toNat:Int)==32)=false:=(by rw[beq_eq_false_iff_ne];exact y1);have q35:(((s[i]'hlt).toNat:Int)==35)=false:=(by rw[beq_eq_false_iff_ne];exact y2);have hst:(convert 131 9 (.slice (some ⟨wr.heap.size,0,none⟩) 1 1)).run Tryz.prog (wr.alloc (.cells #[.int .u8 ((s[i]'hlt).toNat:Int)] 5))= .ok (.string ⟨[(s[i]'hlt)].toArray⟩) (wr.alloc (.cells #[.int .u8 ((s[i]'hlt).toNat:Int)] 5)):=
     run_convert_bytes_back _ _ _ 5 ⟨wr.heap.size,0,none⟩ 1 [(s[i]'hlt)] Tryz.underlying131 Tryz.underlying5 Tryz.underlying9 (fun j hj=>by have h0:j=0:=(by simpa using hj);subst h0;rw[kt.addr_add,World.cell?_alloc_new];rfl)
    have CH:=Lib.hid (hex_any ⟨[(s[i]'hlt)].toArray⟩ (wr.alloc (.cells #[.int .u8 ((s[i]'hlt).toNat:Int)] 5)) (by show([(s[i]'hlt)].toArray:Array UInt8).size≤3000;simp));have HBA:Hid (Below wr.heap.size wr (wr.alloc (.cells #[.int .u8 ((s[i]'hlt).toNat:Int)] 5))):=(Below.refl _ _).alloc (Nat.le_refl _) _;have hx3:((s[i]'hlt).toNat:Int)<32∨(¬ ((s[i]'hlt).toNat:Int)<32∧(((s[i]'hlt).toNat:Int)==127)=true):=by
     rcases HX0.1 hx with h | h
     ·exact Or.inl h
     ·exact Or.inr ⟨by omega,by rw[beq_iff_eq];exact h⟩
    have HTd:Hid (((⟨#[92]⟩:ByteArray)++⟨(b64p.hex [(s[i]'hlt)]).toArray⟩).data.toList=[92]++b64p.hex [(s[i]'hlt)]):=(by show _=_;rw[ByteArray.data_append];simp);clear hr HC HX0 hx y1 y2 HT;rcases hx3 with x1 | ⟨x1,x2⟩
    all_goals
     go_wp2_with fail;refine CH.out.mono ?_;rintro e w1 ⟨rfl,hB1⟩;have HB1:Hid (Below wr.heap.size wr w1):=HBA.out.trans (hB1.mono (by simp));have HI1:=Lib.hid (is_below HI.out HB1.out);have hsz1:=Nat.le_trans hsz HB1.out.size;have hhl:=b64p.hex_length [(s[i]'hlt)];clear hB1 hst;go_wp2_with fail;refine(bld.writeString_any _ _ _ _ _ HI1.out (by have h:=congrArg List.length HTd.out;rw[kt.size_len]at h;rw[h,List.length_append,hhl];simp;omega) hsz1).mono ?_;rintro e w2 ⟨rfl,hI2,hB2⟩;have HI2:=Lib.hid hI2;clear hI2;go_wp2_with fail;go_roundw;case rel=>exact⟨i+1,_,by omega,by go_num,HI2,by rw[HTd.out,List.length_append,List.length_append,hhl];simp;omega,by rw[HTd.out,←List.append_assoc];exact HTX,(hB.trans (HB1.out.mono hsz)).trans hB2⟩
     case measure=>simp[intOf];omega
   ·have hx':hexed (s[i]'hlt)=false:=(by simpa using hx);have x1: ¬ ((s[i]'hlt).toNat:Int)<32:=fun h=>hx (HX0.2 (Or.inl h));have x2:(((s[i]'hlt).toNat:Int)==127)=false:=(by rw[beq_eq_false_iff_ne];exact fun h=>hx (HX0.2 (Or.inr h)));have HTE:Hid (∀x:Unit,fenced (decide (i=0)) (decide (i+1=s.size)) (s[i]'hlt)=true→TxAt s (i+1) (acc++[92]++[(s[i]'hlt)])):=(by intro _ hf;have h:=HT.out;rw[textB_esc hx' hf,←List.append_assoc]at h;exact h);have HTB:Hid (∀x:Unit,fenced (decide (i=0)) (decide (i+1=s.size)) (s[i]'hlt)=false→TxAt s (i+1) (acc++[(s[i]'hlt)])):=(by intro _ hf;have h:=HT.out;rw[textB_bare hx' hf]at h;exact h);have HF0:fenced (decide (i=0)) (decide (i+1=s.size)) (s[i]'hlt)=(special (s[i]'hlt)||(decide ((s[i]'hlt)=32)&&(decide (i=0)||decide (i+1=s.size)))||(decide ((s[i]'hlt)=35)&&decide (i=0))):=rfl;clear hx hx' HX0 HT;by_cases h32:((s[i]'hlt).toNat:Int)=32
    ·have e32:(s[i]'hlt)=32:=u8_eq (n:=32) (by omega) h32;have e35:(s[i]'hlt)≠35:=(by rw[e32];decide);have hs:special (s[i]'hlt)=false:=(by rw[e32];decide);have q32:((((s[i]'hlt).toNat:Int)==32))=true:=(by rw[beq_iff_eq];omega);have q35:((((s[i]'hlt).toNat:Int)==35))=false:=(by rw[beq_eq_false_iff_ne];omega);clear h32;by_cases h0:i=0
     ·have q0:((i:Int)==0)=true:=(by rw[beq_iff_eq];omega);have HF:Hid (fenced (decide (i=0)) (decide (i+1=s.size)) (s[i]'hlt)=true):=(by show _=_;rw[HF0,e32,decide_eq_true h0];rfl);clear HF0 hr e32 e35 h0;go_wp2_with fail;refine(bld.writeByte_cell _ _ _ (92:UInt8) _ HI.out (by omega) hsz).mono ?_;rintro e w1 ⟨rfl,hI1,hB1⟩;have HI1:=Lib.hid hI1;have hsz1:=Nat.le_trans hsz hB1.size;clear hI1;go_wp2_with fail;refine(bld.writeByte_cell _ _ _ (s[i]'hlt) _ HI1.out (by simp;omega) hsz1).mono ?_;rintro e w2 ⟨rfl,hI2,hB2⟩;have HI2:=Lib.hid hI2;clear hI2;go_wp2_with fail;go_roundw;case rel=>exact⟨i+1,_,by omega,by go_num,HI2,by simp;omega,Lib.hid (HTE.out () HF.out),(hB.trans hB1).trans hB2⟩
      case measure=>simp[intOf];omega
     ·have q0:((i:Int)==0)=false:=(by rw[beq_eq_false_iff_ne];omega);by_cases hl:i+1=s.size
      ·have ql:((i:Int)==(s.size:Int)-1)=true:=(by rw[beq_iff_eq];omega);have HF:Hid (fenced (decide (i=0)) (decide (i+1=s.size)) (s[i]'hlt)=true):=(by show _=_;rw[HF0,e32,decide_eq_false h0,decide_eq_true hl];rfl);clear HF0 hr e32 e35 hl;go_wp2_with fail;refine(bld.writeByte_cell _ _ _ (92:UInt8) _ HI.out (by omega) hsz).mono ?_;rintro e w1 ⟨rfl,hI1,hB1⟩;have HI1:=Lib.hid hI1;have hsz1:=Nat.le_trans hsz hB1.size;clear hI1;go_wp2_with fail;refine(bld.writeByte_cell _ _ _ (s[i]'hlt) _ HI1.out (by simp;omega) hsz1).mono ?_;rintro e w2 ⟨rfl,hI2,hB2⟩;have HI2:=Lib.hid hI2;clear hI2;go_wp2_with fail;go_roundw;case rel=>exact⟨i+1,_,by omega,by go_num,HI2,by simp;omega,Lib.hid (HTE.out () HF.out),(hB.trans hB1).trans hB2⟩
       case measure=>simp[intOf];omega
      ·have ql:((i:Int)==(s.size:Int)-1)=false:=(by rw[beq_eq_false_iff_ne];omega);have HF:Hid (fenced (decide (i=0)) (decide (i+1=s.size)) (s[i]'hlt)=false):=(by show _=_;rw[HF0,e32,decide_eq_false h0,decide_eq_false hl];rfl);have hr': ¬0≤r:=fun h=>absurd (hr.1 h) (by rw[hs];simp);clear HF0 hr hs e32 e35;go_wp2_with fail;refine HC.out.mono ?_;rintro e w0 ⟨rfl,rfl⟩;go_wp2_with fail;refine(bld.writeByte_cell _ _ _ (s[i]'hlt) _ HI.out (by omega) hsz).mono ?_;rintro e w1 ⟨rfl,hI1,hB1⟩;have HI1:=Lib.hid hI1;clear hI1;go_wp2_with fail;go_roundw;case rel=>exact⟨i+1,_,by omega,by go_num,HI1,by simp;omega,Lib.hid (HTB.out () HF.out),hB.trans hB1⟩
       case measure=>simp[intOf];omega
    ·have e32:(s[i]'hlt)≠32:=fun h=>h32 (by rw[h];rfl);have q32:((((s[i]'hlt).toNat:Int)==32))=false:=(by rw[beq_eq_false_iff_ne];omega);by_cases h35:((s[i]'hlt).toNat:Int)=35
     ·have e35:(s[i]'hlt)=35:=u8_eq (n:=35) (by omega) h35;have hs:special (s[i]'hlt)=false:=(by rw[e35];decide);have q35:((((s[i]'hlt).toNat:Int)==35))=true:=(by rw[beq_iff_eq];omega);clear h35;by_cases h0:i=0
      ·have q0:((i:Int)==0)=true:=(by rw[beq_iff_eq];omega);have HF:Hid (fenced (decide (i=0)) (decide (i+1=s.size)) (s[i]'hlt)=true):=(by show _=_;rw[HF0,e35,decide_eq_true h0];rfl);clear HF0 hr e32 e35 h0;go_wp2_with fail;refine(bld.writeByte_cell _ _ _ (92:UInt8) _ HI.out (by omega) hsz).mono ?_;rintro e w1 ⟨rfl,hI1,hB1⟩;have HI1:=Lib.hid hI1;have hsz1:=Nat.le_trans hsz hB1.size;clear hI1;go_wp2_with fail;refine(bld.writeByte_cell _ _ _ (s[i]'hlt) _ HI1.out (by simp;omega) hsz1).mono ?_;rintro e w2 ⟨rfl,hI2,hB2⟩;have HI2:=Lib.hid hI2;clear hI2;go_wp2_with fail;go_roundw;case rel=>exact⟨i+1,_,by omega,by go_num,HI2,by simp;omega,Lib.hid (HTE.out () HF.out),(hB.trans hB1).trans hB2⟩
       case measure=>simp[intOf];omega
      ·have q0:((i:Int)==0)=false:=(by rw[beq_eq_false_iff_ne];omega);have HF:Hid (fenced (decide (i=0)) (decide (i+1=s.size)) (s[i]'hlt)=false):=(by show _=_;rw[HF0,e35,decide_eq_false h0];rfl);have hr': ¬0≤r:=fun h=>absurd (hr.1 h) (by rw[hs];simp);clear HF0 hr hs e32 e35;go_wp2_with fail;refine HC.out.mono ?_;rintro e w0 ⟨rfl,rfl⟩;go_wp2_with fail;refine(bld.writeByte_cell _ _ _ (s[i]'hlt) _ HI.out (by omega) hsz).mono ?_;rintro e w1 ⟨rfl,hI1,hB1⟩;have HI1:=Lib.hid hI1;clear hI1;go_wp2_with fail;go_roundw;case rel=>exact⟨i+1,_,by omega,by go_num,HI1,by simp;omega,Lib.hid (HTB.out () HF.out),hB.trans hB1⟩
       case measure=>simp[intOf];omega
     ·have e35:(s[i]'hlt)≠35:=fun h=>h35 (by rw[h];rfl);have q35:((((s[i]'hlt).toNat:Int)==35))=false:=(by rw[beq_eq_false_iff_ne];omega);cases hs:special (s[i]'hlt)with
      | true=>
       have HF:Hid (fenced (decide (i=0)) (decide (i+1=s.size)) (s[i]'hlt)=true):=(by show _=_;rw[HF0,hs];rfl);have hr':0≤r:=hr.2 hs;clear HF0 hr hs e32 e35;go_wp2_with fail;refine HC.out.mono ?_;rintro e w0 ⟨rfl,rfl⟩;go_wp2_with fail;refine(bld.writeByte_cell _ _ _ (92:UInt8) _ HI.out (by omega) hsz).mono ?_;rintro e w1 ⟨rfl,hI1,hB1⟩;have HI1:=Lib.hid hI1;have hsz1:=Nat.le_trans hsz hB1.size;clear hI1;go_wp2_with fail;refine(bld.writeByte_cell _ _ _ (s[i]'hlt) _ HI1.out (by simp;omega) hsz1).mono ?_;rintro e w2 ⟨rfl,hI2,hB2⟩;have HI2:=Lib.hid hI2;clear hI2;go_wp2_with fail;go_roundw;case rel=>exact⟨i+1,_,by omega,by go_num,HI2,by simp;omega,Lib.hid (HTE.out () HF.out),(hB.trans hB1).trans hB2⟩
       case measure=>simp[intOf];omega
      | false=>
       have HF:Hid (fenced (decide (i=0)) (decide (i+1=s.size)) (s[i]'hlt)=false):=(by show _=_;rw[HF0,hs,decide_eq_false e32,decide_eq_false e35];rfl);have hr': ¬0≤r:=fun h=>absurd (hr.1 h) (by rw[hs];simp);clear HF0 hr hs e32 e35;go_wp2_with fail;refine HC.out.mono ?_;rintro e w0 ⟨rfl,rfl⟩;go_wp2_with fail;refine(bld.writeByte_cell _ _ _ (s[i]'hlt) _ HI.out (by omega) hsz).mono ?_;rintro e w1 ⟨rfl,hI1,hB1⟩;have HI1:=Lib.hid hI1;clear hI1;go_wp2_with fail;go_roundw;case rel=>exact⟨i+1,_,by omega,by go_num,HI1,by simp;omega,Lib.hid (HTB.out () HF.out),hB.trans hB1⟩
       case measure=>simp[intOf];omega
  ·obtain rfl:i=s.size:=(by omega);have HT:=Lib.hid (txAt_end hT.out);go_wp2_with fail;refine(Tryz.Builder_String_any _ _ _ _ HI.out hsz).mono ?_;rintro e w1 ⟨rfl,hB1⟩;go_wp2;go_ret;exact⟨kt.ret_str (by rw[HT.out]),hB.trans hB1⟩
end dnw
open Go.RowKit
namespace dnw
open dnp
theorem print_any (ao:Option Addr)(cap:Nat)(n:List (List Av))(w:World)(hA:Hid (Rdns w ao n))(hE:Hid (prw.Env w))(hS:Hid (∀l∈n,l.length≤4→Smalls l)):
  Calls Tryz.prog 98 #[.slice ao n.length cap] w fun e w'=>PrintE n e∧Below w.heap.size w w':=by
 have CR:=right_any ao cap n w hA hE hS;obtain⟨m,hm⟩: ∃m,m=n.length:=⟨_,rfl⟩;have HM:=Lib.hid hm;rw[←hm]at CR ⊢;clear hm;cases hok:nameOK n with
 | false=>rw[hok]at CR;have HC:=Lib.hid CR;have HN:=Lib.hid (printE_no hok);clear CR hok;go_enter Tryz.func98,Tryz.ntmps98;go_wp2_with fail;refine HC.out.mono ?_;rintro e w1 ⟨rfl,hB1⟩;go_wp2_with fail;go_ret2;exact⟨HN.out,hB1⟩
 | true=>
  rw[hok]at CR;have HC:=Lib.hid CR;have HOK:=Lib.hid hok;have hf:=nameOK_facts hok;have hm12:m≤12:=by rw[HM.out];exact hf.1
  have HL:=Lib.hid hf.2;clear CR hok hf;go_enter Tryz.func98,Tryz.ntmps98;go_wp2_with fail;refine HC.out.mono ?_;rintro e w1 ⟨rfl,hB1⟩;have HB1:=Lib.hid hB1;have hsz1:=hB1.size;clear hB1 HC;go_wp2_with fail;go_loopw [4,6,7,9,16] (fun rv _ _ _ iv wr=> ∃ (i:Nat),i≤m∧iv= .int .i64 (i:Int)∧Hid (prw.OwnT wr w1.heap.size rv ((n.take i).map fun l=>bytes (rdnX l)))∧Below w1.heap.size w1 wr) (fun _ _ _ _ iv _=>m- (intOf iv).toNat);case atStart=>exact⟨0,Nat.zero_le _,rfl,World.ownsRow_nil _ _ _ _,Below.refl _ _⟩
  case round=>
   obtain⟨i,hi,rfl,hO,hB⟩:=hrel;have hsz:=hB.size;obtain⟨aoR,mR,capR,rfl,hmR⟩:=ownT_form hO.out;by_cases hlt:i<m
   ·have hlt':(i:Int)<(m:Int):=(by omega);have hil:i<n.length:=(by rw[←HM.out];exact hlt);have HBT:=Lib.hid (HB1.out.trans (hB.mono hsz1));obtain⟨b,o,ao',cap',hao,hc0,hcc,hAv⟩:=(rdns_below hA.out HBT.out) i hil;subst hao;have HST:=takeMap_step (fun l=>bytes (rdnX l)) n i hil;have hro:=HL.out n[i] (List.getElem_mem hil);generalize n[i]=l at hc0 hcc hAv HST hro;have h4:=(rdnOK_facts hro).2.1;have HX:=Lib.hid (rdnOK_av hro);have hxl:=rdnX_len hro;have HST:=Lib.hid HST;have HAv:=Lib.hid hAv;obtain⟨p,hp⟩: ∃p,p=l.length:=⟨_,rfl⟩;have HP:=Lib.hid hp;rw[←hp]at hc0 hcc h4;clear hp hAv hro;obtain⟨wo,rfl⟩: ∃x,x=wr:=⟨_,rfl⟩;go_wp2_with fail;go_loopw [7,9,22] (fun pv _ kv wq=> ∃k:Nat,k≤p∧kv= .int .i64 (k:Int)∧Hid (prw.OwnT wq wo.heap.size pv ((l.take k).map fun a=>bytes (ptx a)))∧Below wo.heap.size wo wq) (fun _ _ kv _=>p- (intOf kv).toNat);case atStart=>exact⟨0,Nat.zero_le _,rfl,World.ownsRow_nil _ _ _ _,Below.refl _ _⟩
    case round=>
     obtain⟨k,hk,rfl,hO2,hBk⟩:=hrel;have hszk:=hBk.size;obtain⟨aoP,mP,capP,rfl,hmP⟩:=ownT_form hO2.out;by_cases hkp:k<p
     ·have hkp':(k:Int)<(p:Int):=(by omega);have hkl:k<l.length:=(by rw[←HP.out];exact hkp);obtain⟨b2,o2,hao2,d0,d1⟩:=(avas_below HAv.out hBk) k hkl;subst hao2;have HSK:=takeMap_step (fun a=>bytes (ptx a)) l k hkl;have hxx:=HX.out l[k] (List.getElem_mem hkl);generalize l[k]=x at d0 d1 HSK hxx;have HV:=Lib.hid (fun W=>dval_any x.v W (by have:=valOK_le hxx.2;rw[kt.size_len]at this;omega));have hq0:(wr.alloc (.cells #[.string x.t,.string x.v] 51)).cell? ⟨wr.heap.size,0,none⟩=some (.string x.t):=(by rw[World.cell?_alloc_new];rfl);have hq1:(wr.alloc (.cells #[.string x.t,.string x.v] 51)).cell? ⟨wr.heap.size,1,none⟩=some (.string x.v):=(by rw[World.cell?_alloc_new];rfl);have HO5:Hid (prw.OwnT (wr.alloc (.cells #[.string x.t,.string x.v] 51)) wo.heap.size (.slice aoP mP capP) ((l.take k).map fun a=>bytes (ptx a))):=ownT_below hO2.out ((Below.refl _ _).alloc (Nat.le_refl _) _);have HB5:Hid (Below wo.heap.size wo (wr.alloc (.cells #[.string x.t,.string x.v] 51))):=hBk.alloc hszk _;have hlt5:wr.heap.size<(wr.alloc (.cells #[.string x.t,.string x.v] 51)).heap.size:=(by simp);have HNE:Hid (∀k',(Value.slice aoP mP capP).ownBlock=some k'→k'<wr.heap.size):=fun k' h=>(hO2.out.lt k' h).2;have hkl':((l.take k).map fun a=>bytes (ptx a)).length≤4:=(by rw[List.length_map,List.length_take];omega);obtain⟨Y,hY⟩: ∃Y,Y=(⟨(textL x.v.data.toList).toArray⟩:ByteArray):=⟨_,rfl⟩;obtain⟨T1,hT1⟩: ∃T1,T1=x.t++(⟨#[61]⟩:ByteArray):=⟨_,rfl⟩;obtain⟨T2,hT2⟩: ∃T2,T2=T1++Y:=⟨_,rfl⟩;have hcat:=cat_ptx x;rw[←hY,←hT1,←hT2]at hcat;have hts:=typeOK_le hxx.1;rw[kt.size_len]at hts;have hys:Y.size≤765:=(by have h1:=textF_len true x.v.data.toList;have h2:=valOK_le hxx.2;rw[hY,←kt.size_len];show(textF true _).length≤_;omega);have h1s:T1.size=x.t.size+1:=(by rw[hT1,ByteArray.size_append];rfl);have hadd1: ∀W,(Op.stringOp .add x.t ⟨#[61]⟩).run Tryz.prog W= .ok (.string T1) W:=fun W=>by rw[hT1];exact run_string_add_sum W _ _ (by show x.t.size+1≤9223372036854775807;omega)
      have hadd2: ∀W,(Op.stringOp .add T1 Y).run Tryz.prog W= .ok (.string T2) W:=fun W=>by rw[hT2];exact run_string_add_sum W _ _ (by omega)
      have HCAT:=Lib.hid hcat;rw[←hY]at HV;have HSK:=Lib.hid HSK;clear hcat hT1 hT2 hY h1s hys hts;clear hO2 hxx;go_wp2_with fail;generalize wr.alloc (.cells #[.string x.t,.string x.v] 51)=w5 at hq0 hq1 HO5 HB5 hlt5 ⊢;go_region_held3 (fun W=>W.cell? ⟨wr.heap.size,0,none⟩=some (.string x.t)∧W.cell? ⟨wr.heap.size,1,none⟩=some (.string x.v)) (first
        | exact⟨hq0,hq1⟩
        | exact⟨(hB6.cell (p:=⟨wr.heap.size,0,none⟩) hlt5).trans hq0,(hB6.cell (p:=⟨wr.heap.size,1,none⟩) hlt5).trans hq1⟩
        | exact⟨(((Below.refl _ _).alloc (Nat.le_refl _) _).cell (p:=⟨wr.heap.size,0,none⟩) (Nat.lt_of_lt_of_le hlt5 hB6.size)).trans ((hB6.cell (p:=⟨wr.heap.size,0,none⟩) hlt5).trans hq0),(((Below.refl _ _).alloc (Nat.le_refl _) _).cell (p:=⟨wr.heap.size,1,none⟩) (Nat.lt_of_lt_of_le hlt5 hB6.size)).trans ((hB6.cell (p:=⟨wr.heap.size,1,none⟩) hlt5).trans hq1)⟩
        | exact⟨(World.cell?_of_block (hg7.block wr.heap.size (Nat.lt_of_lt_of_le hlt5 hB6.size) hne7)).trans ((hB6.cell (p:=⟨wr.heap.size,0,none⟩) hlt5).trans hq0),(World.cell?_of_block (hg7.block wr.heap.size (Nat.lt_of_lt_of_le hlt5 hB6.size) hne7)).trans ((hB6.cell (p:=⟨wr.heap.size,1,none⟩) hlt5).trans hq1)⟩)
       (first
        | (go_at_call 164;refine(HV.out _).mono ?_;rintro e w6 ⟨rfl,hB6⟩;obtain⟨ao7,m7,cap7,w7,hap,hO7,hg7,hB7⟩:=ownT_appG T2 (ownT_below HO5.out ((Below.refl w5.heap.size w5).drew.trans hB6)) (by omega) (Nat.le_trans HB5.out.size hB6.size);have hne7:some wr.heap.size≠(Value.slice aoP mP capP).ownBlock:=fun h=>absurd (HNE.out _ h.symm) (Nat.lt_irrefl _);have hO7:=Lib.hid hO7)
        | (refine kt.step_append_run rfl _ _ _ _ rfl _ _ rfl rfl _ _ hap ?_))
      all_goals
       go_wp2_with fail;go_roundw;case rel=>
        refine⟨k+1,by omega,by go_num,?_,HB5.out.trans ((((Below.refl w5.heap.size w5).drew.trans hB6).mono HB5.out.size).trans hB7)⟩;show prw.OwnT _ _ _ _;rw[HSK.out,←HCAT.out];exact hO7.out
       case measure=>simp[intOf];omega
     ·obtain rfl:k=p:=(by omega);have hO3:=hO2.out;rw[HP.out,List.take_length]at hO3;have e1:((l.map fun a=>bytes (ptx a)).map (·.data.toList))=l.map ptx:=(by rw[List.map_map];rfl);have CJ:=joinT hO3 ⟨#[43]⟩ (by rw[List.length_map,←HP.out];omega) (by rw[e1];show(rdnX l).length≤_;omega);rw[e1]at CJ;have CJ':Calls Tryz.prog 165 #[.slice aoP mP capP,.string ⟨#[43]⟩] wr fun e w'=>e= .returned (.string (bytes (rdnX l)))∧Below wr.heap.size wr w':=CJ;have HJ:=Lib.hid CJ';obtain⟨T,hT⟩: ∃T,T=bytes (rdnX l):=⟨_,rfl⟩;rw[←hT]at HJ;have HT:=Lib.hid hT;clear CJ CJ' e1 hO3 hT;go_wp2_with fail;refine HJ.out.mono ?_;rintro e w2 ⟨rfl,hB2⟩;have HB2:Hid (Below wo.heap.size wo w2):=hBk.trans (hB2.mono hszk);have hsz2:=Nat.le_trans hsz HB2.out.size;obtain⟨ao7,m7,cap7,w7,hap,hO7,hg7,hB7⟩:=ownT_appG T (ownT_below hO.out HB2.out) (by rw[List.length_map,List.length_take];omega) hsz2;have HO7:=Lib.hid hO7;have HB7:=Lib.hid ((hB.trans (HB2.out.mono hsz)).trans hB7);have HST:=Lib.hid HST;clear hO7 hg7 hB7 hB2;go_wp2_with (at_builtin;refine Lib.wpList_append_run _ rfl _ _ _ _ rfl _ _ rfl rfl _ _ hap ?_);go_roundw;case rel=>
       refine⟨i+1,by omega,by go_num,?_,HB7.out⟩;show prw.OwnT _ _ _ _;rw[HST.out.out,←HT.out];exact HO7.out
      case measure=>simp[intOf];omega
   ·obtain rfl:i=m:=(by omega);have hO1:=hO.out;rw[HM.out,List.take_length]at hO1;have e1:((n.map fun l=>bytes (rdnX l)).map (·.data.toList))=n.map rdnX:=(by rw[List.map_map];rfl);have hnx:=nameX_len HOK.out;have CJ:=joinT hO1 ⟨#[44]⟩ (by rw[List.length_map,←HM.out];omega) (by rw[e1];show(nameX n).length≤_;omega);rw[e1]at CJ;have CJ':Calls Tryz.prog 165 #[.slice aoR mR capR,.string ⟨#[44]⟩] wr fun e w'=>e= .returned (.string (bytes (nameX n)))∧Below wr.heap.size wr w':=CJ;have HJ:=Lib.hid CJ';obtain⟨t,ht⟩: ∃t,t=bytes (nameX n):=⟨_,rfl⟩;have hts:t.size=(nameX n).length:=(by rw[ht,←kt.size_len];rfl);rw[←ht]at HJ;have HT:=Lib.hid ht;clear CJ CJ' e1 hO1 ht;by_cases hlong:1000<t.size
    ·have hlong':1000<(t.size:Int):=(by omega);have HN:=Lib.hid (printE_long HOK.out (by omega));clear hts hnx;go_wp2_with fail;refine HJ.out.mono ?_;rintro e w2 ⟨rfl,hB2⟩;go_wp2_with fail;go_ret2;exact⟨HN.out,HB1.out.trans ((hB.trans (hB2.mono hsz)).mono hsz1)⟩
    ·have hlong': ¬1000<(t.size:Int):=(by omega);have HN:=Lib.hid (printE_ok HOK.out (by omega));rw[←HT.out]at HN;clear hts hnx;go_wp2_with fail;refine HJ.out.mono ?_;rintro e w2 ⟨rfl,hB2⟩;go_wp2_with fail;go_ret2;exact⟨HN.out,HB1.out.trans ((hB.trans (hB2.mono hsz)).mono hsz1)⟩
end dnw
end Go.Proofs.YtmnpfkbjpeaemaaGreatDoor
