/- One text out of several: BdW, ResW, AddW, NamedW, EAwakW, FieldP, PackP, PackQ, FieldW, FieldT. -/
import Derived.Test.YtmnpfkbjpeaemaaGreatDoorJ9
import Derived.Test.YtmnpfkbjpeaemaaGreatDoorJ11
import Derived.Test.YtmnpfkbjpeaemaaGreatDoorJ12
import Derived.Test.YtmnpfkbjpeaemaaGreatDoorJ1
import Derived.Test.YtmnpfkbjpeaemaaGreatDoorJ10
import Derived.Test.YtmnpfkbjpeaemaaGreatDoorRows
set_option linter.unusedVariables false
set_option linter.unusedSimpArgs false
set_option maxRecDepth 100000
set_option maxHeartbeats 8000000
namespace Go.Proofs.YtmnpfkbjpeaemaaGreatDoor
open Go.RowKit
namespace etw
open atp atw etp
open dnw (Av Avas)
structure Bk (k:Nat)(e:En):Prop where
 rl:e.rdn.length≤1000
 rs: ∀a∈e.rdn,a.t.size≤1000∧a.v.size≤1200
 al:e.ats.length≤k
 as_: ∀a∈e.ats,a.t.size≤1000∧a.vs.length≤50∧ ∀v∈a.vs,v.size≤1200
theorem bk_bd {k:Nat}{e:En}(h:Bk k e)(hk:k≤100000):Bd e:=⟨by have:=h.rl;omega,fun a ha=>by have:=h.rs a ha;omega,by have:=h.al;omega,fun a ha=>by have:=h.as_ a ha;exact⟨by omega,by omega,fun v hv=>by have:=this.2.2 v hv;omega⟩⟩
theorem bk_vals {k:Nat}{e:En}(h:Bk k e)(n:ByteArray):(valsA e.ats n).length≤50∧ ∀v∈valsA e.ats n,v.size≤1200:=by
 unfold valsA;cases hf:e.ats.find? fun a=>decide (a.t=n)with
 | none=>exact⟨by simp,by simp⟩
 | some a=>exact(h.as_ a (List.mem_of_find?_eq_some hf)).2
theorem ty_size: ∀j:Fin 20,(tys[j.val]'(j.isLt)).name.length≤1000:=by decide+kernel
theorem name_size {n:List UInt8}{ty:Ty}(h:findS n=some ty):(bs ty.name).size≤1000:=by obtain⟨i,hi,e⟩:=List.mem_iff_getElem.1 (findS_some h).1;rw[bs_size,←e];exact ty_size ⟨i,hi⟩
end etw
open Go.RowKit
namespace etw
open atp atw etp
open dnw (Av Avas)
open tupw (Strs strs_below)
theorem entV_set {w:World}{v:Value}{E:En}{p:Nat}{r a:Value}(h:EntV w v E)(hp:EntB w p r a)(hr:NoS r)(ha:NoS a)(j:Nat)(u:Value):EntV (w.setCell ⟨p,j,none⟩ u) v E:=by
 obtain⟨ro,rc,ao,ac,h1,h2,h3,h4,h5⟩:=h;refine⟨ro,rc,ao,ac,h1,h2,h3,avas_set h4 hp hr ha j u,fun i hi=> ?_⟩;obtain⟨b,o,x,c,e,q0,q1,q2,q3⟩:=h5 i hi;have hb:b≠p:=by rintro rfl;exact entB_str hp hr ha _ _ q0
 refine⟨b,o,x,c,e,?_,?_,q2,strs_set q3 hp hr ha j u⟩
 ·rw[World.cell?_setCell_other _ _ _ _ (by intro e2;injection e2 with e3 _ _;exact hb e3.symm),q0]
 ·rw[World.cell?_setCell_other _ _ _ _ (by intro e2;injection e2 with e3 _ _;exact hb e3.symm),q1]
def ResE (r:Except Int En)(w:World)(e:Ending)(w':World):Prop:=Below w.heap.size w w'∧match r with
 | .ok E=> ∃v,e= .returned (.tuple #[v,.int .i64 0])∧EntV w' v E
 | .error f=>e= .returned (.tuple #[.agg #[.slice none 0 0,.slice none 0 0],.int .i64 f])
theorem join_step {syn:Int}{all l:List ByteArray}{i:Nat}(h:i<l.length):joinF syn all (l.drop i)=if likeI syn all l[i]<0 then joinF syn (all++[l[i]]) (l.drop (i+1))else none:=by rw[List.drop_eq_getElem_cons h];rfl
theorem ent_agg {w:World}{v:Value}{E:En}(h:EntV w v E): ∃r1 n1 c1 r2 n2 c2,v= .agg #[.slice r1 n1 c1,.slice r2 n2 c2]:=by obtain⟨ro,rc,ao,ac,rfl,_⟩:=h;exact⟨_,_,_,_,_,_,rfl⟩
theorem find_err {E:En}{n:List UInt8}{f:Int}(h:findE E n= .error f):f≠0:=by
 unfold findE at h;split at h
 ·cases h;decide
 ·split at h
  ·cases h;decide
  ·cases h
end etw
open Go.RowKit
namespace etw
open atp atw etp
open dnw (Av Avas)
open tupw (Strs strs_below)
theorem add_big (v:Value)(E:En)(n:ByteArray)(bo:Option Addr)(bcap:Nat)(l:List ByteArray)(w:World)(hv:Hid (EntV w v E))(hb:Hid (Bk 1000 E))(hS:Hid (Strs w bo l))(hl:l.length≤50)(hlc:l.length≤bcap)(hls:Hid (∀x∈l,x.size≤100000))(hn:n.size≤100000)(hE:Hid (EnvE w)):
  Calls Tryz.prog 61 #[v,.string n,.slice bo l.length bcap] w fun e w'=>ResE (addE E n.data.toList l) w e w':=by
 have HBD:=Lib.hid (bk_bd hb.out (by omega));have HFI0:Hid (∀W,Below w.heap.size w W→Calls Tryz.prog 85 #[v,.string n] W fun e w'=>FindR (findE E n.data.toList) e∧Below W.heap.size W w'):=fun W h=>finde_any v E n W (Lib.hid (entV_below hv.out h)) HBD (by omega) (Lib.hid (envE_below hE.out h));have HFA0:Hid (∀nm syn sg W,Below w.heap.size w W→Calls Tryz.prog 86 #[.agg #[.string nm,.int .i64 syn,.bool sg],.slice bo l.length bcap] W fun e w'=>e= .returned (.int .i64 (faultI syn l))∧Below W.heap.size W w'):=fun nm syn sg W h=>fault_any nm syn sg bo bcap l W (Lib.hid (strs_below hS.out h)) (by omega) (Lib.hid fun x hx=>by have:=hls.out x hx;omega) (Lib.hid (envE_below hE.out h));have HVA0:Hid (∀m W,Below w.heap.size w W→Calls Tryz.prog 88 #[v,.string m] W fun e w'=>ValsE (valsA E.ats m) W e w'):=fun m W h=>vals_any v E m W (Lib.hid (entV_below hv.out h)) HBD;have HWI0:Hid (∀m o c (all:List ByteArray) W,Below w.heap.size w W→Strs W o all→all.length≤1000→all.length≤c→Calls Tryz.prog 91 #[v,.string m,.slice o all.length c] W fun e w'=>EntE (withE E m all) W e w'):=fun m o c all W h hs h1 h2=>with_any v E m o c all W (Lib.hid (entV_below hv.out h)) HBD (Lib.hid hs) (by omega) h2;have HLK0:Hid (∀nm syn sg o c k (all:List ByteArray) x W,Hid (k=all.length)→Strs W o all→k≤1000→(∀y∈all,y.size≤100000)→x.size≤100000→EnvE W→Calls Tryz.prog 89 #[.agg #[.string nm,.int .i64 syn,.bool sg],.slice o k c,.string x] W fun e w'=>e= .returned (.int .i64 (likeI syn all x))∧Below W.heap.size W w'):=by intro nm syn sg o c k all x W hk hs h1 h2 h3 he;have:=like_any nm syn sg o c all x W (Lib.hid hs) (by rw[←hk.out];omega) (Lib.hid fun y hy=>by have:=h2 y hy;omega) (by omega) (Lib.hid he);rw[←hk.out]at this;exact this
 have HVL:=Lib.hid (bk_vals hb.out);have HRES:Hid (addE E n.data.toList l=match findE E n.data.toList with
  | .error f=> .error f
  | .ok ty=>if l=[]then .error 1 else if faultI ty.syn l≠0 then .error (faultI ty.syn l)else match joinF ty.syn (valsA E.ats (bs ty.name)) l with
   | none=> .error 8
   | some all=>if mostT ty.single<all.length then .error 9 else .ok (withE E (bs ty.name) all)):=rfl
 obtain⟨RR,hRR⟩: ∃r,addE E n.data.toList l=r:=⟨_,rfl⟩;rw[hRR]at HRES ⊢;have HR:=Lib.hid HRES.out.symm;clear HRES hRR;obtain⟨ro,rc,ao,ac,Nr,N,rfl,HN,HA,hac,HNr,HAv,hrc⟩:=ent_form hv.out;obtain⟨W1,hW1⟩: ∃W,w.alloc (.cells #[.slice ro Nr rc,.slice ao N ac] 26)=W:=⟨_,rfl⟩;have hB1:Below w.heap.size w W1:=by rw[←hW1];exact(Below.refl _ _).alloc (Nat.le_refl _) _
 have hT1:EntB W1 w.heap.size (.slice ro Nr rc) (.slice ao N ac):=by rw[←hW1];exact entB_new _ _ _
 obtain⟨W2,hW2⟩: ∃W,W1.alloc (.cells #[.slice none 0 0,.slice none 0 0] 26)=W:=⟨_,rfl⟩;have hB2:Below W1.heap.size W1 W2:=by rw[←hW2];exact(Below.refl _ _).alloc (Nat.le_refl _) _
 obtain⟨q,hqq⟩: ∃q,W1.heap.size=q:=⟨_,rfl⟩;have hqw:w.heap.size≤q:=by rw[←hqq];exact hB1.size
 have hQ2:EntB W2 q (.slice none 0 0) (.slice none 0 0):=by rw[←hW2,←hqq];exact entB_new _ _ _
 have HB2:=Lib.hid (hB1.trans (hB2.mono hB1.size));have HT2:=Lib.hid (entB_below hT1 hB2);have HQ2:=Lib.hid hQ2;obtain⟨k0,k1⟩:=entB_cells HT2.out;have hz2:=HB2.out.size;clear hB1 hB2 hT1 hQ2 hv;have HFI:=Lib.hid (HFI0.out W2 HB2.out);clear HFI0;have HKL:Hid (l=[]↔l.length=0):=List.length_eq_zero_iff.symm;obtain⟨K,hK⟩: ∃K,l.length=K:=⟨_,rfl⟩;rw[hK]at HFA0 HKL hl hlc ⊢;have HK:=Lib.hid hK;clear hK;go_enter Tryz.func61,Tryz.ntmps61;go_wp2_with fail;refine HFI.out.mono ?_;rintro e w3 ⟨hfr,hB3⟩;have HB3:=Lib.hid (HB2.out.trans (hB3.mono hz2));have HT3:=Lib.hid (entB_below HT2.out hB3);have HQ3:=Lib.hid (entB_below HQ2.out hB3);clear hB3 k0 k1 hW1 hW2 HFI hqq;cases hfe:findE E n.data.toList with
 | error f=>
  rw[hfe]at hfr HR;have hfr2:e= .returned (.tuple #[.agg #[.string ⟨#[]⟩,.int .i64 0,.bool false],.int .i64 f]):=hfr;have hf0:f≠0:=find_err hfe;have qf:(f !=0)=true:=by rw[bne_iff_ne];exact hf0
  subst hfr2;clear hfr hfe hf0;have hB4:Below w3.heap.size w3 (w3.alloc (.cells #[.string ⟨#[]⟩,.int .i64 0,.bool false] 108)):=(Below.refl _ _).alloc (Nat.le_refl _) _;have HBX:=Lib.hid (HB3.out.trans (hB4.mono HB3.out.size));have HQ:=Lib.hid (entB_below HQ3.out hB4);clear hB4;obtain⟨v0,v1⟩:=entB_cells HQ.out;have f0:=Lib.frozen_of_heap HQ.out 0;have f1:=Lib.frozen_of_heap HQ.out 1;have hq1:=entB_set0 HQ.out (.slice none 0 0);have hq2:=entB_set1 hq1 (.slice none 0 0);have HQC:=Lib.hid (entB_cells hq2);have HBF:=Lib.hid ((HBX.out.setCell (p:=⟨q,0,none⟩) hqw (.slice none 0 0)).setCell (p:=⟨q,1,none⟩) hqw (.slice none 0 0));clear hq1 hq2;go_wp2_with fail;obtain⟨r0,r1⟩:=HQC.out;refine bodyPost_ret (v:= .tuple #[.agg #[.slice none 0 0,.slice none 0 0],.int .i64 f]) (by rw[results_cell_tmp rfl];go_simp) rfl ?_;exact⟨HBF.out,(by rw[←HR.out])⟩
 | ok ty=>
  rw[hfe]at hfr HR;have hfr2:e= .returned (.tuple #[.agg #[.string (bs ty.name),.int .i64 ty.syn,.bool ty.single],.int .i64 0]):=hfr;subst hfr2;clear hfr;simp only at HR;have HNS:Hid ((bs ty.name).size≤1000):=name_size (findE_ok hfe).2;clear hfe;have HMO:Hid (∀nm W,Calls Tryz.prog 123 #[.agg #[.string nm,.int .i64 ty.syn,.bool ty.single]] W fun e w'=>e= .returned (.int .i64 (mostT ty.single:Int))∧Below W.heap.size W w'):=fun nm W=>room_any nm ty.syn ty.single W;have hm20:mostT ty.single≤20:=by unfold mostT;split<;>omega
  generalize bs ty.name=nm at HNS HR;generalize ty.syn=syn at HMO HR;generalize ty.single=sg at HMO hm20 HR;generalize mostT sg=MX at HMO hm20 HR;obtain⟨w4,hw4⟩: ∃W,w3.alloc (.cells #[.string nm,.int .i64 syn,.bool sg] 108)=W:=⟨_,rfl⟩;have hB4:Below w3.heap.size w3 w4:=by rw[←hw4];exact(Below.refl _ _).alloc (Nat.le_refl _) _
  obtain⟨tb,htb⟩: ∃tb,w3.heap.size=tb:=⟨_,rfl⟩;have HY4:Hid (TB w4 tb nm syn sg):=by rw[←hw4,←htb];exact tb_new _ _ _ _
  have HB4:=Lib.hid (HB3.out.trans (hB4.mono HB3.out.size));have HT4:=Lib.hid (entB_below HT3.out hB4);have HQ4:=Lib.hid (entB_below HQ3.out hB4);obtain⟨y0,y1,y2⟩:=tb_cells HY4.out;clear hB4;by_cases hK0:K=0
  ·have hl0:=HKL.out.2 hK0;have dk:((K:Int)==0)=true:=(by rw[beq_iff_eq];omega);rw[if_pos hl0]at HR;clear hl0;have HBX:=HB4;have HQ:=HQ4;clear hK0;obtain⟨v0,v1⟩:=entB_cells HQ.out;have f0:=Lib.frozen_of_heap HQ.out 0;have f1:=Lib.frozen_of_heap HQ.out 1;have hq1:=entB_set0 HQ.out (.slice none 0 0);have hq2:=entB_set1 hq1 (.slice none 0 0);have HQC:=Lib.hid (entB_cells hq2);have HBF:=Lib.hid ((HBX.out.setCell (p:=⟨q,0,none⟩) hqw (.slice none 0 0)).setCell (p:=⟨q,1,none⟩) hqw (.slice none 0 0));clear hq1 hq2;go_wp2_with fail;obtain⟨r0,r1⟩:=HQC.out;refine bodyPost_ret (v:= .tuple #[.agg #[.slice none 0 0,.slice none 0 0],.int .i64 1]) (by rw[results_cell_tmp rfl];go_simp) rfl ?_;exact⟨HBF.out,(by rw[←HR.out])⟩
  ·have dk:((K:Int)==0)=false:=(by rw[beq_eq_false_iff_ne];omega);rw[if_neg (fun h=>hK0 (HKL.out.1 h))]at HR;have hKp:0<K:=(by omega);clear hK0;have HFA:=Lib.hid (HFA0.out nm syn sg w4 HB4.out);clear HFA0;generalize faultI syn l=fa at HFA HR;go_wp2_with fail;refine HFA.out.mono ?_;rintro e w5 ⟨rfl,hB5⟩;have HB5:=Lib.hid (HB4.out.trans (hB5.mono HB4.out.size));have HT5:=Lib.hid (entB_below HT4.out hB5);have HQ5:=Lib.hid (entB_below HQ4.out hB5);have HY5:=Lib.hid (tb_below HY4.out hB5);clear hB5 y0 y1 y2 hw4 htb;by_cases hfa:fa=0
   ·have qa:(fa !=0)=false:=(by rw[bne_eq_false_iff_eq];exact hfa);rw[if_neg (not_not_intro hfa)]at HR;clear hfa;have HVA:=Lib.hid (HVA0.out nm w5 HB5.out);have HV1:=HVL.out nm;have hvl1:=HV1.1;have HV2:=Lib.hid HV1.2;clear HVA0 HVL HV1;obtain⟨e0,e1⟩:=entB_cells HT5.out;obtain⟨y0,y1,y2⟩:=tb_cells HY5.out;have HWI:Hid (∀o c (all:List ByteArray) W,Below w.heap.size w W→Strs W o all→all.length≤1000→all.length≤c→Calls Tryz.prog 91 #[.agg #[.slice ro Nr rc,.slice ao N ac],.string nm,.slice o all.length c] W fun e w'=>EntE (withE E nm all) W e w'):=fun o c all W=>HWI0.out nm o c all W;clear HWI0;generalize valsA E.ats nm=p0 at HVA HV2 hvl1 HR;go_wp2_with fail;refine HVA.out.mono ?_;rintro e w6 ⟨x6,rfl,hx6,hB6⟩;have HCL:=Lib.hid (clone_any x6 p0 w6 hx6 (by omega));have HB6:=Lib.hid (HB5.out.trans (hB6.mono HB5.out.size));have HT6:=Lib.hid (entB_below HT5.out hB6);have HQ6:=Lib.hid (entB_below HQ5.out hB6);have HY6:=Lib.hid (tb_below HY5.out hB6);clear hx6 hB6 e0 e1 y0 y1 y2;go_wp2_with fail;refine HCL.out.mono ?_;rintro e w7 ⟨x7,rfl,ho7,hB7⟩;have HO7:=Lib.hid ho7;obtain⟨a7,n7,c7,rfl,hn7⟩:=dnw.ownT_form ho7;have HB67:=Lib.hid hB7;clear ho7 hB7 HCL;go_wp2_with fail;go_loopw [11,44] (fun av iv wr=> ∃ (i:Nat) (all:List ByteArray),i≤K∧iv= .int .i64 (i:Int)∧Hid (prw.OwnT wr w6.heap.size av all)∧Hid (Below w6.heap.size w6 wr)∧Hid (joinF syn p0 l=joinF syn all (l.drop i))∧Hid (all.length≤100+i)∧Hid (∀y∈all,y.size≤100000)) (fun _ iv _=>K- (intOf iv).toNat);case atStart=>exact⟨0,p0,Nat.zero_le _,rfl,HO7.out,HB67.out,rfl,(by show _≤_;omega),(fun y hy=>by have:=HV2.out y hy;omega)⟩
    case round=>
     obtain⟨i,all,hi,rfl,hO,hBr,hJ,hLN,hSZ⟩:=hrel;obtain⟨aR,nR,cR,rfl,hnR⟩:=dnw.ownT_form hO.out;have hszr:=hBr.out.size;have HBr:=Lib.hid (HB6.out.trans (hBr.out.mono HB6.out.size));have HTr:=Lib.hid (entB_below HT6.out hBr.out);have HQr:=Lib.hid (entB_below HQ6.out hBr.out);have HYr:=Lib.hid (tb_below HY6.out hBr.out);obtain⟨y0,y1,y2⟩:=tb_cells HYr.out;have hnR100:nR≤200:=(by rw[hnR.out];have:=hLN.out;omega);by_cases hlt:i<K
     ·have hltI:(i:Int)<(K:Int):=(by omega);have hil:i<l.length:=(by rw[HK.out];exact hlt);obtain⟨b,o,hbo,hc0⟩:=(strs_below hS.out HBr.out) i hil;subst hbo;have HST:=Lib.hid (join_step (syn:=syn) (all:=all) hil);have hxs:=hls.out l[i] (List.getElem_mem _);obtain⟨x,hx⟩: ∃x,l[i]=x:=⟨_,rfl⟩;rw[hx]at hc0 HST hxs;clear hx;have HLK:=Lib.hid (HLK0.out nm syn sg aR cR nR all x wr hnR (by obtain⟨g1,g2,g3,g4⟩:=elem_form (own_elem hO.out);simp only[Value.slice.injEq]at g4;obtain⟨⟨rfl,rfl,rfl⟩,_,_,g5⟩:=g4;exact g5) (by omega) hSZ.out hxs (envE_below hE.out HBr.out));generalize hlk:likeI syn all x=lk at HLK HST;clear hlk;by_cases hneg:lk<0
      ·have q2:decide ((0:Int)≤lk)=false:=decide_eq_false (by omega);have HJ:Hid (joinF syn p0 l=joinF syn (all++[x]) (l.drop (i+1))):=(by show _=_;rw[hJ.out,HST.out,if_pos hneg]);clear hneg HST;go_wp2_with fail;refine HLK.out.mono ?_;rintro e w8 ⟨rfl,hB8⟩;have hBr8:=hBr.out.trans (hB8.mono hszr);obtain⟨a9,m9,c9,w9,hap,hO9,_,hB9⟩:=dnw.ownT_appG x (dnw.ownT_below hO.out hB8) (by have:=hLN.out;omega) hBr8.size;have HO9:=Lib.hid hO9;have HB9:=Lib.hid (hBr8.trans hB9);have HLN9:Hid ((all++[x]).length≤100+(i+1)):=(by show _≤_;rw[List.length_append];have:=hLN.out;simp only[List.length_cons,List.length_nil];omega);have HSZ9:Hid (∀y∈all++[x],y.size≤100000):=fun y hy=>by
        rcases List.mem_append.1 hy with hy | hy
        ·exact hSZ.out y hy
        ·rw[List.mem_singleton]at hy;rw[hy];exact hxs
       clear hO9 hB9 hBr8 hB8 y0 y1 y2 hc0;go_wp2_with (at_builtin;refine Lib.wpList_append_run _ rfl _ _ _ _ rfl _ _ rfl rfl _ _ hap ?_);go_roundw;case rel=>exact⟨i+1,all++[x],by omega,by go_num,HO9.out,HB9,HJ,HLN9,HSZ9⟩
       case measure=>simp[intOf];omega
      ·have q2:decide ((0:Int)≤lk)=true:=decide_eq_true (by omega);have HJ:Hid (joinF syn p0 l=none):=(by show _=_;rw[hJ.out,HST.out,if_neg hneg]);rw[HJ.out]at HR;clear hneg HST HJ;simp only at HR;go_wp2_with fail;refine HLK.out.mono ?_;rintro e w8 ⟨rfl,hB8⟩;have HBX:=Lib.hid (HBr.out.trans (hB8.mono HBr.out.size));have HQ:=Lib.hid (entB_below HQr.out hB8);clear hB8 y0 y1 y2 hc0;obtain⟨v0,v1⟩:=entB_cells HQ.out;have f0:=Lib.frozen_of_heap HQ.out 0;have f1:=Lib.frozen_of_heap HQ.out 1;have hq1:=entB_set0 HQ.out (.slice none 0 0);have hq2:=entB_set1 hq1 (.slice none 0 0);have HQC:=Lib.hid (entB_cells hq2);have HBF:=Lib.hid ((HBX.out.setCell (p:=⟨q,0,none⟩) hqw (.slice none 0 0)).setCell (p:=⟨q,1,none⟩) hqw (.slice none 0 0));clear hq1 hq2;go_wp2_with fail;obtain⟨r0,r1⟩:=HQC.out;refine bodyPost_ret (v:= .tuple #[.agg #[.slice none 0 0,.slice none 0 0],.int .i64 8]) (by rw[results_cell_tmp rfl];go_simp) rfl ?_;exact⟨HBF.out,(by rw[←HR.out])⟩
     ·obtain rfl:K=i:=(by omega);have HJ:Hid (joinF syn p0 l=some all):=(by show _=_;rw[hJ.out,←HK.out,List.drop_length];rfl);rw[HJ.out]at HR;simp only at HR;rw[←hnR.out]at HR;clear HJ;by_cases hmx:MX<nR
      ·have q3:decide (MX<nR)=true:=decide_eq_true hmx;rw[if_pos hmx]at HR;clear hmx;go_wp2_with fail;refine(HMO.out _ _).mono ?_;rintro e w8 ⟨rfl,hB8⟩;have HBX:=Lib.hid (HBr.out.trans (hB8.mono HBr.out.size));have HQ:=Lib.hid (entB_below HQr.out hB8);clear hB8 y0 y1 y2;obtain⟨v0,v1⟩:=entB_cells HQ.out;have f0:=Lib.frozen_of_heap HQ.out 0;have f1:=Lib.frozen_of_heap HQ.out 1;have hq1:=entB_set0 HQ.out (.slice none 0 0);have hq2:=entB_set1 hq1 (.slice none 0 0);have HQC:=Lib.hid (entB_cells hq2);have HBF:=Lib.hid ((HBX.out.setCell (p:=⟨q,0,none⟩) hqw (.slice none 0 0)).setCell (p:=⟨q,1,none⟩) hqw (.slice none 0 0));clear hq1 hq2;go_wp2_with fail;obtain⟨r0,r1⟩:=HQC.out;refine bodyPost_ret (v:= .tuple #[.agg #[.slice none 0 0,.slice none 0 0],.int .i64 9]) (by rw[results_cell_tmp rfl];go_simp) rfl ?_;exact⟨HBF.out,(by rw[←HR.out])⟩
      ·have q3:decide (MX<nR)=false:=decide_eq_false hmx;rw[if_neg hmx]at HR;go_wp2_with fail;refine(HMO.out _ _).mono ?_;rintro e w8 ⟨rfl,hB8⟩;have HB8:=Lib.hid (HBr.out.trans (hB8.mono HBr.out.size));obtain⟨e0,e1⟩:=entB_cells (entB_below HTr.out hB8);have HQ8:=Lib.hid (entB_below HQr.out hB8);have hz8:=(tb_cells (tb_below HYr.out hB8)).1;obtain⟨g1,g2,g3,g4⟩:=elem_form (elem_below (own_elem hO.out) hB8);simp only[Value.slice.injEq]at g4;obtain⟨⟨rfl,rfl,rfl⟩,g5,g6,g7⟩:=g4;have HWC0:=HWI.out aR cR all w8 HB8.out g7 (by rw[←g5.out];omega) (by rw[←g5.out];exact g6);rw[←g5.out]at HWC0;have HWC:=Lib.hid HWC0;clear hB8 y0 y1 y2 g5 g6 g7 HWC0 hmx;go_wp2_with fail;refine HWC.out.mono ?_;rintro e w9 ⟨v9,rfl,hv9,hB9⟩;obtain⟨r1,n1,c1,r2,n2,c2,rfl⟩:=ent_agg hv9;have HV:=Lib.hid hv9;have HBX:=Lib.hid (HB8.out.trans (hB9.mono HB8.out.size));have HQ:=Lib.hid (entB_below HQ8.out hB9);clear hv9 hB9 e0 e1 hz8;obtain⟨v0,v1⟩:=entB_cells HQ.out;have f0:=Lib.frozen_of_heap HQ.out 0;have f1:=Lib.frozen_of_heap HQ.out 1;have hq1:=entB_set0 HQ.out (.slice r1 n1 c1);have hq2:=entB_set1 hq1 (.slice r2 n2 c2);have HQC:=Lib.hid (entB_cells hq2);have HBF:=Lib.hid ((HBX.out.setCell (p:=⟨q,0,none⟩) hqw (.slice r1 n1 c1)).setCell (p:=⟨q,1,none⟩) hqw (.slice r2 n2 c2));have HVF:=Lib.hid (entV_set (entV_set HV.out HQ.out (noS_slice _ _ _) (noS_slice _ _ _) 0 (.slice r1 n1 c1)) hq1 (noS_slice _ _ _) (noS_slice _ _ _) 1 (.slice r2 n2 c2));clear hq1 hq2;go_wp2_with fail;obtain⟨r0,r1'⟩:=HQC.out;refine bodyPost_ret (v:= .tuple #[.agg #[.slice r1 n1 c1,.slice r2 n2 c2],.int .i64 0]) (by rw[results_cell_tmp rfl];go_simp) rfl ?_;exact⟨HBF.out,(by rw[←HR.out];exact⟨_,rfl,HVF.out⟩)⟩
   ·have qa:(fa !=0)=true:=(by rw[bne_iff_ne];exact hfa);rw[if_pos hfa]at HR;have HBX:=HB5;have HQ:=HQ5;clear hfa;obtain⟨v0,v1⟩:=entB_cells HQ.out;have f0:=Lib.frozen_of_heap HQ.out 0;have f1:=Lib.frozen_of_heap HQ.out 1;have hq1:=entB_set0 HQ.out (.slice none 0 0);have hq2:=entB_set1 hq1 (.slice none 0 0);have HQC:=Lib.hid (entB_cells hq2);have HBF:=Lib.hid ((HBX.out.setCell (p:=⟨q,0,none⟩) hqw (.slice none 0 0)).setCell (p:=⟨q,1,none⟩) hqw (.slice none 0 0));clear hq1 hq2;go_wp2_with fail;obtain⟨r0,r1⟩:=HQC.out;refine bodyPost_ret (v:= .tuple #[.agg #[.slice none 0 0,.slice none 0 0],.int .i64 fa]) (by rw[results_cell_tmp rfl];go_simp) rfl ?_;exact⟨HBF.out,(by rw[←HR.out])⟩
theorem add_any (v:Value)(E:En)(n:ByteArray)(bo:Option Addr)(bcap:Nat)(l:List ByteArray)(w:World)(hv:Hid (EntV w v E))(hb:Hid (Bk 1000 E))(hS:Hid (Strs w bo l))(hl:l.length≤50)(hlc:l.length≤bcap)(hls:Hid (∀x∈l,x.size≤1200))(hn:n.size≤1000)(hE:Hid (EnvE w)):
  Calls Tryz.prog 61 #[v,.string n,.slice bo l.length bcap] w fun e w'=>ResE (addE E n.data.toList l) w e w':=
 add_big v E n bo bcap l w hv hb hS hl hlc (Lib.hid fun x hx=>by have:=hls.out x hx;omega) (by omega) hE
end etw
open Go.RowKit
namespace etw
open atp atw etp
open dnw (Av Avas)
open tupw (Strs strs_below)
theorem like_nil (syn:Int)(v:ByteArray):likeI syn [] v= -1:=rfl
theorem vals_not {L:List At}{n:ByteArray}(h:atsF none L=true)(hn:tyOf n=none):valsA L n=[]:=by refine find_no fun a ha e=> ?_;have:=((atsF_iff L none).1 h).1 a ha;unfold atOK at this;rw[e,hn]at this;cases this
theorem named_step {L:List At}{a:Av}{ty:Ty}(h:atsF none L=true)(hf:findS (sml.lowL a.t.data.toList)=some ty):namedA L a=decide (0≤likeI ty.syn (valsA L a.t) a.v):=by
 have hn:=find_name hf;unfold namedA;show(match tyOf a.t with
  | none=>false
  | some ty=>decide (0≤likeI ty.syn (valsA L a.t) a.v))=_
 by_cases e:bs ty.name=a.t
 ·rw[if_pos e]at hn;rw[hn]
 ·rw[if_neg e]at hn;rw[hn,vals_not h hn,like_nil];rfl
theorem named_none {L:List At}{a:Av}(hf:findS (sml.lowL a.t.data.toList)=none):namedA L a=false:=by unfold namedA;have:=find_none hf;unfold tyOf at this;rw[this]
theorem all_step {α:Type}{f:α→Bool}{l:List α}{i:Nat}(h:i<l.length):(l.drop i).all f=(f l[i]&&(l.drop (i+1)).all f):=by rw[List.drop_eq_getElem_cons h,List.all_cons]
def AvaB (w:World)(p:Nat)(t v:ByteArray):Prop:=w.heap[p]? =some (.cells #[.string t,.string v] 51 (0,0))
theorem avaB_new (w:World)(t v:ByteArray):AvaB (w.alloc (.cells #[.string t,.string v] 51)) w.heap.size t v:=heap_alloc_new w _
theorem avaB_cells {w:World}{p:Nat}{t v:ByteArray}(h:AvaB w p t v):w.cell? ⟨p,0,none⟩=some (.string t)∧w.cell? ⟨p,1,none⟩=some (.string v):=⟨by rw[Lib.cell_of_heap h];rfl,by rw[Lib.cell_of_heap h];rfl⟩
theorem avaB_below {w w':World}{p:Nat}{t v:ByteArray}(h:AvaB w p t v)(hb:Below w.heap.size w w'):AvaB w' p t v:=(hb.block p (kt.bld_lt h)).trans h
theorem named_any (v:Value)(E:En)(w:World)(hv:Hid (EntV w v E))(hb:Hid (Bd E))(hE:Hid (EnvE w)):
  Calls Tryz.prog 63 #[v] w fun e w'=>e= .returned (.bool (namedE E))∧Below w.heap.size w w':=by
 have HRI0:Hid (∀W,Below w.heap.size w W→Calls Tryz.prog 71 #[v] W fun e w'=>e= .returned (.bool (rightE E))∧Below W.heap.size W w'):=fun W h=>right_any v E W (Lib.hid (entV_below hv.out h)) hb (Lib.hid (envE_below hE.out h));have HV0:Hid (∀m W,Below w.heap.size w W→Calls Tryz.prog 88 #[v,.string m] W fun e w'=>ValsE (valsA E.ats m) W e w'):=fun m W h=>vals_any v E m W (Lib.hid (entV_below hv.out h)) hb;have HK0:Hid (∀nm syn sg m a c k (x:ByteArray) W,x.size≤140737488351232→Hid (k=(valsA E.ats m).length)→Strs W a (valsA E.ats m)→EnvE W→Calls Tryz.prog 89 #[.agg #[.string nm,.int .i64 syn,.bool sg],.slice a k c,.string x] W fun e w'=>e= .returned (.int .i64 (likeI syn (valsA E.ats m) x))∧Below W.heap.size W w'):=by intro nm syn sg m a c k x W hx hk hs he;have:=like_any nm syn sg a c (valsA E.ats m) x W (Lib.hid hs) (by have:=(vals_len hb.out m).1;omega) (vals_fit hb.out m) hx (Lib.hid he);rw[←hk.out]at this;exact this
 have HRS:=Lib.hid hb.out.rs;have HNE:Hid (namedE E=(rightE E&&E.rdn.all (namedA E.ats))):=rfl;have HAF:Hid (rightE E=true→atsF none E.ats=true):=fun h=>(right_iff.1 h).2;obtain⟨ro,rc,ao,ac,Nr,N,rfl,HN,HA,hac,HNr,HAv,hrc⟩:=ent_form hv.out;have hNrb:Nr≤100000:=by rw[←HNr.out];exact hb.out.rl
 obtain⟨rdn,L⟩:=E;simp only at HN HA HNr HAv HRS HNE HAF HK0 HV0;obtain⟨W1,hW1⟩: ∃W,w.alloc (.cells #[.slice ro Nr rc,.slice ao N ac] 26)=W:=⟨_,rfl⟩;have hB1:Below w.heap.size w W1:=by rw[←hW1];exact(Below.refl _ _).alloc (Nat.le_refl _) _
 have HT1:Hid (EntB W1 w.heap.size (.slice ro Nr rc) (.slice ao N ac)):=by rw[←hW1];exact entB_new _ _ _
 obtain⟨k0,k1⟩:=entB_cells HT1.out;have HB1:=Lib.hid hB1;have hs1:=hB1.size;have HRI:=Lib.hid (HRI0.out W1 hB1);rw[HNE.out];clear hB1 HRI0 HNE hv;cases hr:rightE ⟨rdn,L⟩with
 | false=>rw[hr]at HRI;clear hr;go_enter Tryz.func63,Tryz.ntmps63;go_wp2_with fail;refine HRI.out.mono ?_;rintro e w2 ⟨rfl,hB2⟩;have HB2:=Lib.hid (HB1.out.trans (hB2.mono hs1));clear hB2 k0 k1 hW1;go_wp2_with fail;go_ret;exact⟨rfl,HB2.out⟩
 | true=>
  have HAT:=Lib.hid (HAF.out hr);rw[hr]at HRI;rw[Bool.true_and];clear hr HAF;go_enter Tryz.func63,Tryz.ntmps63;go_wp2_with fail;refine HRI.out.mono ?_;rintro e w0 ⟨rfl,hB0⟩;have HB0:=Lib.hid (HB1.out.trans (hB0.mono hs1));have HT0:=Lib.hid (entB_below HT1.out hB0);obtain⟨m0,m1⟩:=entB_cells HT0.out;have hs0:=HB0.out.size;clear hB0 k0 k1 hW1 HRI HT1 HB1 hs1;have HB1:=HB0;have hs1:=hs0;go_wp2_with fail;go_loopw [13] (fun iv wr=> ∃i:Nat,i≤Nr∧iv= .int .i64 (i:Int)∧Hid (Below w0.heap.size w0 wr)∧Hid (rdn.all (namedA L)=(rdn.drop i).all (namedA L))) (fun iv _=>Nr- (intOf iv).toNat);case atStart=>exact⟨0,Nat.zero_le _,rfl,Below.refl _ _,rfl⟩
  case round=>
   obtain⟨i,hi,rfl,hB,hJ⟩:=hrel;have hsz:=hB.out.size;have HBw:=Lib.hid (HB1.out.trans (hB.out.mono hs1));have HTr:=Lib.hid (entB_below HT0.out hB.out);by_cases hlt:i<Nr
   ·have hltI:(i:Int)<(Nr:Int):=(by omega);have hil:i<rdn.length:=(by rw[HNr.out];exact hlt);obtain⟨b,o,hro,q0,q1⟩:=(dnw.avas_below HAv.out HBw.out) i hil;subst hro;have HST:=Lib.hid (all_step (f:=namedA L) hil);have hbd:=HRS.out rdn[i] (List.getElem_mem _);obtain⟨a,ha⟩: ∃a,rdn[i]=a:=⟨_,rfl⟩;rw[ha]at HST hbd q0 q1;clear ha;have hts:=hbd.1;have hvs:=hbd.2;obtain⟨Wa,hWa⟩: ∃W,wr.alloc (.cells #[.string a.t,.string a.v] 51)=W:=⟨_,rfl⟩;have hBA:Below wr.heap.size wr Wa:=(by rw[←hWa];exact(Below.refl _ _).alloc (Nat.le_refl _) _);have HTA:Hid (AvaB Wa wr.heap.size a.t a.v):=(by rw[←hWa];exact avaB_new _ _ _);have HYr:Hid (TyEnv Wa):=(envE_below (envE_below hE.out HBw.out) hBA).y;have HBA:=Lib.hid hBA;obtain⟨xa,xb⟩:=avaB_cells HTA.out;have HFD0:Hid (∀W,TyEnv W→Calls Tryz.prog 74 #[.string a.t] W fun e w'=>e= .returned (resT (findS (sml.lowL a.t.data.toList)))∧Below W.heap.size W w'):=fun W hy=>find_any a.t W (by omega) (Lib.hid hy);clear hbd hBA;cases hfd:findS (sml.lowL a.t.data.toList)with
    | none=>rw[hfd]at HFD0;obtain⟨nm,syn,sg,HFD⟩: ∃nm syn sg,Hid (∀W,TyEnv W→Calls Tryz.prog 74 #[.string a.t] W fun e w'=>e= .returned (.tuple #[.agg #[.string nm,.int .i64 syn,.bool sg],.bool false])∧Below W.heap.size W w'):=⟨_,_,_,HFD0⟩;have HJ:Hid (rdn.all (namedA L)=false):=(by show _=_;rw[hJ.out,HST.out,named_none hfd];rfl);clear hfd HFD0 HV0 HK0;go_wp2_with fail;refine(HFD.out _ HYr.out).mono ?_;rintro e w2 ⟨rfl,hB2⟩;obtain⟨w3,hw3⟩: ∃W,w2.alloc (.cells #[.string nm,.int .i64 syn,.bool sg] 108)=W:=⟨_,rfl⟩;have hB3:Below w2.heap.size w2 w3:=(by rw[←hw3];exact(Below.refl _ _).alloc (Nat.le_refl _) _);obtain⟨y0,y1,y2⟩:=tb_cells (w:=w3) (p:=w2.heap.size) (nm:=nm) (syn:=syn) (sg:=sg) (by rw[←hw3];exact tb_new _ _ _ _);have hA23:=hB2.trans (hB3.mono hB2.size);have hBa:Below wr.heap.size wr w3:=HBA.out.trans (hA23.mono HBA.out.size);obtain⟨x0,x1⟩:=avaB_cells (avaB_below HTA.out hA23);obtain⟨z0,z1⟩:=entB_cells (entB_below HTr.out hBa);have HBr3:=Lib.hid (hB.out.trans (hBa.mono hsz));have HBw3:=Lib.hid (HB1.out.trans (HBr3.out.mono hs1));have hla:=World.block_lt_of_cell? w3 _ x0;have hly:=World.block_lt_of_cell? w3 _ y0;have hlz:=World.block_lt_of_cell? w3 _ z0;have HE3:=Lib.hid (envE_below hE.out HBw3.out);clear hB2 hB3 hBa hA23;go_wp2_with fail;refine wp_region_held_drew (S:=fun W=>W.cell? ⟨w.heap.size,0,none⟩=some (.slice (some ⟨b,o,none⟩) Nr rc)∧W.cell? ⟨w.heap.size,1,none⟩=some (.slice ao N ac)∧W.cell? ⟨wr.heap.size,0,none⟩=some (.string a.t)∧W.cell? ⟨wr.heap.size,1,none⟩=some (.string a.v)∧W.cell? ⟨w2.heap.size,0,none⟩=some (.string nm)∧W.cell? ⟨w2.heap.size,1,none⟩=some (.int .i64 syn)∧W.cell? ⟨w2.heap.size,2,none⟩=some (.bool sg)) (by kernel_rfl) (⟨z0,z1,x0,x1,y0,y1,y2⟩) (fun hHeld=> ?_);refine tk 0 ⟨some 23,_,_,_,_,_⟩ rfl ?_;refine tk 1 ⟨some 24,_,_,_,_,_⟩ rfl ?_;refine tk 2 ⟨some 25,_,_,_,_,_⟩ rfl ?_;refine tu 3 ⟨some 26,_,_,_,_,_⟩ rfl ?_;refine tu 4 ⟨some 27,_,_,_,_,_⟩ rfl ?_;refine tu 5 ⟨some 28,_,_,_,_,_⟩ rfl ?_;refine tu 6 ⟨some 29,_,_,_,_,_⟩ rfl ?_;refine tu 7 ⟨some 30,_,_,_,_,_⟩ rfl ?_;refine tu 8 ⟨some 31,_,_,_,_,_⟩ rfl ?_;refine tu 9 ⟨some 32,_,_,_,_,_⟩ rfl ?_;refine tu 10 ⟨some 33,_,_,_,_,_⟩ rfl ?_;refine tu 11 ⟨some 34,_,_,_,_,_⟩ rfl ?_;refine tk 12 ⟨some 35,_,_,_,_,_⟩ rfl ?_;refine wpAnyH_done (by kernel_rfl) ?_ _;clear hHeld;go_wp2_with fail;go_ret;exact⟨kt.ret_bool HJ.out.symm,HBw3.out.drew⟩
    | some ty=>
     rw[hfd]at HFD0;have HNS:=Lib.hid (named_step HAT.out hfd);have HFD1:Hid (∀W,TyEnv W→Calls Tryz.prog 74 #[.string a.t] W fun e w'=>e= .returned (.tuple #[.agg #[.string (bs ty.name),.int .i64 ty.syn,.bool ty.single],.bool true])∧Below W.heap.size W w'):=HFD0;clear hfd HFD0;generalize bs ty.name=nm at HFD1;generalize ty.syn=syn at HFD1 HNS;generalize ty.single=sg at HFD1;have HFD:=HFD1;have HK1:Hid (∀a' c k W,Hid (k=(valsA L a.t).length)→Strs W a' (valsA L a.t)→EnvE W→Calls Tryz.prog 89 #[.agg #[.string nm,.int .i64 syn,.bool sg],.slice a' k c,.string a.v] W fun e w'=>e= .returned (.int .i64 (likeI syn (valsA L a.t) a.v))∧Below W.heap.size W w'):=fun a' c k W=>HK0.out nm syn sg a.t a' c k a.v W (by omega);have HK:=HK1;clear HFD1 HK0 HK1;generalize likeI syn (valsA L a.t) a.v=lk at HK HNS;by_cases hneg:lk<0
     ·have q2:decide (lk<0)=true:=decide_eq_true hneg;have HJ:Hid (rdn.all (namedA L)=false):=(by show _=_;rw[hJ.out,HST.out,HNS.out,decide_eq_false (by omega)];rfl);clear hneg;go_wp2_with fail;refine(HFD.out _ HYr.out).mono ?_;rintro e w2 ⟨rfl,hB2⟩;obtain⟨w3,hw3⟩: ∃W,w2.alloc (.cells #[.string nm,.int .i64 syn,.bool sg] 108)=W:=⟨_,rfl⟩;have hB3:Below w2.heap.size w2 w3:=(by rw[←hw3];exact(Below.refl _ _).alloc (Nat.le_refl _) _);obtain⟨y0,y1,y2⟩:=tb_cells (w:=w3) (p:=w2.heap.size) (nm:=nm) (syn:=syn) (sg:=sg) (by rw[←hw3];exact tb_new _ _ _ _);have hA23:=hB2.trans (hB3.mono hB2.size);have hBa:Below wr.heap.size wr w3:=HBA.out.trans (hA23.mono HBA.out.size);obtain⟨x0,x1⟩:=avaB_cells (avaB_below HTA.out hA23);obtain⟨z0,z1⟩:=entB_cells (entB_below HTr.out hBa);have HBr3:=Lib.hid (hB.out.trans (hBa.mono hsz));have HBw3:=Lib.hid (HB1.out.trans (HBr3.out.mono hs1));have hla:=World.block_lt_of_cell? w3 _ x0;have hly:=World.block_lt_of_cell? w3 _ y0;have hlz:=World.block_lt_of_cell? w3 _ z0;have HE3:=Lib.hid (envE_below hE.out HBw3.out);clear hB2 hB3 hBa hA23;have HV:Hid (∀W,Below w3.heap.size w3 W→_):=fun W h=>HV0.out a.t W (HBw3.out.trans (h.mono HBw3.out.size));go_wp2_with fail;refine wp_region_held_drew (S:=fun W=>W.cell? ⟨w.heap.size,0,none⟩=some (.slice (some ⟨b,o,none⟩) Nr rc)∧W.cell? ⟨w.heap.size,1,none⟩=some (.slice ao N ac)∧W.cell? ⟨wr.heap.size,0,none⟩=some (.string a.t)∧W.cell? ⟨wr.heap.size,1,none⟩=some (.string a.v)∧W.cell? ⟨w2.heap.size,0,none⟩=some (.string nm)∧W.cell? ⟨w2.heap.size,1,none⟩=some (.int .i64 syn)∧W.cell? ⟨w2.heap.size,2,none⟩=some (.bool sg)) (by kernel_rfl) (⟨z0,z1,x0,x1,y0,y1,y2⟩) (fun hHeld=> ?_);refine tk 0 ⟨some 23,_,_,_,_,_⟩ rfl ?_;refine tk 1 ⟨some 24,_,_,_,_,_⟩ rfl ?_;refine tk 2 ⟨some 25,_,_,_,_,_⟩ rfl ?_;refine tk 3 ⟨some 26,_,_,_,_,_⟩ rfl ?_;refine tk 4 ⟨some 27,_,_,_,_,_⟩ rfl ?_;refine tk 5 ⟨some 28,_,_,_,_,_⟩ rfl ?_;refine tk 6 ⟨some 29,_,_,_,_,_⟩ rfl ?_;refine tk 8 ⟨some 31,_,_,_,_,_⟩ rfl ?_;refine tk 9 ⟨some 32,_,_,_,_,_⟩ rfl ?_;refine tc 7 ⟨some 30,_,_,_,_,_⟩ rfl (fun K hK=> ?_);go_simp;go_at_call 88;refine(HV.out _ ((Below.refl w3.heap.size w3).drew)).mono ?_;rintro e w5 ⟨x5,rfl,hx5,hB5⟩;obtain⟨a5,n5,c5,rfl,hn5,hc5,hs5⟩:=elem_form hx5;refine hK.out _ _ (⟨(hB5.cell (p:=⟨w.heap.size,0,none⟩) hlz).trans (z0),(hB5.cell (p:=⟨w.heap.size,1,none⟩) hlz).trans (z1),(hB5.cell (p:=⟨wr.heap.size,0,none⟩) hla).trans (x0),(hB5.cell (p:=⟨wr.heap.size,1,none⟩) hla).trans (x1),(hB5.cell (p:=⟨w2.heap.size,0,none⟩) hly).trans (y0),(hB5.cell (p:=⟨w2.heap.size,1,none⟩) hly).trans (y1),(hB5.cell (p:=⟨w2.heap.size,2,none⟩) hly).trans (y2)⟩) (fun hHeld=> ?_);clear hK;try simp only[Act.put,List.setIfInBounds_toArray,List.set_cons_zero,List.set_cons_succ]
      refine tc 10 ⟨some 33,_,_,_,_,_⟩ rfl (fun K hK=> ?_);go_simp;go_at_call 89;refine(HK.out a5 c5 n5 _ hn5 hs5 (envE_below HE3.out ((Below.refl w3.heap.size w3).drew.trans hB5))).mono ?_;rintro e w6 ⟨rfl,hB6⟩;refine hK.out _ _ (⟨(hB6.cell (p:=⟨w.heap.size,0,none⟩) (Nat.lt_of_lt_of_le hlz hB5.size)).trans ((hB5.cell (p:=⟨w.heap.size,0,none⟩) hlz).trans (z0)),(hB6.cell (p:=⟨w.heap.size,1,none⟩) (Nat.lt_of_lt_of_le hlz hB5.size)).trans ((hB5.cell (p:=⟨w.heap.size,1,none⟩) hlz).trans (z1)),(hB6.cell (p:=⟨wr.heap.size,0,none⟩) (Nat.lt_of_lt_of_le hla hB5.size)).trans ((hB5.cell (p:=⟨wr.heap.size,0,none⟩) hla).trans (x0)),(hB6.cell (p:=⟨wr.heap.size,1,none⟩) (Nat.lt_of_lt_of_le hla hB5.size)).trans ((hB5.cell (p:=⟨wr.heap.size,1,none⟩) hla).trans (x1)),(hB6.cell (p:=⟨w2.heap.size,0,none⟩) (Nat.lt_of_lt_of_le hly hB5.size)).trans ((hB5.cell (p:=⟨w2.heap.size,0,none⟩) hly).trans (y0)),(hB6.cell (p:=⟨w2.heap.size,1,none⟩) (Nat.lt_of_lt_of_le hly hB5.size)).trans ((hB5.cell (p:=⟨w2.heap.size,1,none⟩) hly).trans (y1)),(hB6.cell (p:=⟨w2.heap.size,2,none⟩) (Nat.lt_of_lt_of_le hly hB5.size)).trans ((hB5.cell (p:=⟨w2.heap.size,2,none⟩) hly).trans (y2))⟩) (fun hHeld=> ?_);clear hK;try simp only[Act.put,List.setIfInBounds_toArray,List.set_cons_zero,List.set_cons_succ]
      refine tk 11 ⟨some 34,_,_,_,_,_⟩ rfl ?_;refine tk 12 ⟨some 35,_,_,_,_,_⟩ rfl ?_;refine wpAnyH_done (by kernel_rfl) ?_ _;have HB6:=Lib.hid (HBw3.out.trans ((((Below.refl w3.heap.size w3).drew.trans hB5).trans (hB6.mono hB5.size)).mono HBw3.out.size));clear hHeld hB5 hB6 hx5 hs5 x0 x1 y0 y1 y2 z0 z1;go_wp2_with fail;go_ret;exact⟨kt.ret_bool HJ.out.symm,HB6.out⟩
     ·have q2:decide (lk<0)=false:=decide_eq_false hneg;have HJ:Hid (rdn.all (namedA L)=(rdn.drop (i+1)).all (namedA L)):=(by show _=_;rw[hJ.out,HST.out,HNS.out,decide_eq_true (by omega)];rfl);clear hneg;go_wp2_with fail;refine(HFD.out _ HYr.out).mono ?_;rintro e w2 ⟨rfl,hB2⟩;obtain⟨w3,hw3⟩: ∃W,w2.alloc (.cells #[.string nm,.int .i64 syn,.bool sg] 108)=W:=⟨_,rfl⟩;have hB3:Below w2.heap.size w2 w3:=(by rw[←hw3];exact(Below.refl _ _).alloc (Nat.le_refl _) _);obtain⟨y0,y1,y2⟩:=tb_cells (w:=w3) (p:=w2.heap.size) (nm:=nm) (syn:=syn) (sg:=sg) (by rw[←hw3];exact tb_new _ _ _ _);have hA23:=hB2.trans (hB3.mono hB2.size);have hBa:Below wr.heap.size wr w3:=HBA.out.trans (hA23.mono HBA.out.size);obtain⟨x0,x1⟩:=avaB_cells (avaB_below HTA.out hA23);obtain⟨z0,z1⟩:=entB_cells (entB_below HTr.out hBa);have HBr3:=Lib.hid (hB.out.trans (hBa.mono hsz));have HBw3:=Lib.hid (HB1.out.trans (HBr3.out.mono hs1));have hla:=World.block_lt_of_cell? w3 _ x0;have hly:=World.block_lt_of_cell? w3 _ y0;have hlz:=World.block_lt_of_cell? w3 _ z0;have HE3:=Lib.hid (envE_below hE.out HBw3.out);clear hB2 hB3 hBa hA23;have HV:Hid (∀W,Below w3.heap.size w3 W→_):=fun W h=>HV0.out a.t W (HBw3.out.trans (h.mono HBw3.out.size));go_wp2_with fail;refine wp_region_held_drew (S:=fun W=>W.cell? ⟨w.heap.size,0,none⟩=some (.slice (some ⟨b,o,none⟩) Nr rc)∧W.cell? ⟨w.heap.size,1,none⟩=some (.slice ao N ac)∧W.cell? ⟨wr.heap.size,0,none⟩=some (.string a.t)∧W.cell? ⟨wr.heap.size,1,none⟩=some (.string a.v)∧W.cell? ⟨w2.heap.size,0,none⟩=some (.string nm)∧W.cell? ⟨w2.heap.size,1,none⟩=some (.int .i64 syn)∧W.cell? ⟨w2.heap.size,2,none⟩=some (.bool sg)) (by kernel_rfl) (⟨z0,z1,x0,x1,y0,y1,y2⟩) (fun hHeld=> ?_);refine tk 0 ⟨some 23,_,_,_,_,_⟩ rfl ?_;refine tk 1 ⟨some 24,_,_,_,_,_⟩ rfl ?_;refine tk 2 ⟨some 25,_,_,_,_,_⟩ rfl ?_;refine tk 3 ⟨some 26,_,_,_,_,_⟩ rfl ?_;refine tk 4 ⟨some 27,_,_,_,_,_⟩ rfl ?_;refine tk 5 ⟨some 28,_,_,_,_,_⟩ rfl ?_;refine tk 6 ⟨some 29,_,_,_,_,_⟩ rfl ?_;refine tk 8 ⟨some 31,_,_,_,_,_⟩ rfl ?_;refine tk 9 ⟨some 32,_,_,_,_,_⟩ rfl ?_;refine tc 7 ⟨some 30,_,_,_,_,_⟩ rfl (fun K hK=> ?_);go_simp;go_at_call 88;refine(HV.out _ ((Below.refl w3.heap.size w3).drew)).mono ?_;rintro e w5 ⟨x5,rfl,hx5,hB5⟩;obtain⟨a5,n5,c5,rfl,hn5,hc5,hs5⟩:=elem_form hx5;refine hK.out _ _ (⟨(hB5.cell (p:=⟨w.heap.size,0,none⟩) hlz).trans (z0),(hB5.cell (p:=⟨w.heap.size,1,none⟩) hlz).trans (z1),(hB5.cell (p:=⟨wr.heap.size,0,none⟩) hla).trans (x0),(hB5.cell (p:=⟨wr.heap.size,1,none⟩) hla).trans (x1),(hB5.cell (p:=⟨w2.heap.size,0,none⟩) hly).trans (y0),(hB5.cell (p:=⟨w2.heap.size,1,none⟩) hly).trans (y1),(hB5.cell (p:=⟨w2.heap.size,2,none⟩) hly).trans (y2)⟩) (fun hHeld=> ?_);clear hK;try simp only[Act.put,List.setIfInBounds_toArray,List.set_cons_zero,List.set_cons_succ]
      refine tc 10 ⟨some 33,_,_,_,_,_⟩ rfl (fun K hK=> ?_);go_simp;go_at_call 89;refine(HK.out a5 c5 n5 _ hn5 hs5 (envE_below HE3.out ((Below.refl w3.heap.size w3).drew.trans hB5))).mono ?_;rintro e w6 ⟨rfl,hB6⟩;refine hK.out _ _ (⟨(hB6.cell (p:=⟨w.heap.size,0,none⟩) (Nat.lt_of_lt_of_le hlz hB5.size)).trans ((hB5.cell (p:=⟨w.heap.size,0,none⟩) hlz).trans (z0)),(hB6.cell (p:=⟨w.heap.size,1,none⟩) (Nat.lt_of_lt_of_le hlz hB5.size)).trans ((hB5.cell (p:=⟨w.heap.size,1,none⟩) hlz).trans (z1)),(hB6.cell (p:=⟨wr.heap.size,0,none⟩) (Nat.lt_of_lt_of_le hla hB5.size)).trans ((hB5.cell (p:=⟨wr.heap.size,0,none⟩) hla).trans (x0)),(hB6.cell (p:=⟨wr.heap.size,1,none⟩) (Nat.lt_of_lt_of_le hla hB5.size)).trans ((hB5.cell (p:=⟨wr.heap.size,1,none⟩) hla).trans (x1)),(hB6.cell (p:=⟨w2.heap.size,0,none⟩) (Nat.lt_of_lt_of_le hly hB5.size)).trans ((hB5.cell (p:=⟨w2.heap.size,0,none⟩) hly).trans (y0)),(hB6.cell (p:=⟨w2.heap.size,1,none⟩) (Nat.lt_of_lt_of_le hly hB5.size)).trans ((hB5.cell (p:=⟨w2.heap.size,1,none⟩) hly).trans (y1)),(hB6.cell (p:=⟨w2.heap.size,2,none⟩) (Nat.lt_of_lt_of_le hly hB5.size)).trans ((hB5.cell (p:=⟨w2.heap.size,2,none⟩) hly).trans (y2))⟩) (fun hHeld=> ?_);clear hK;try simp only[Act.put,List.setIfInBounds_toArray,List.set_cons_zero,List.set_cons_succ]
      refine tk 11 ⟨some 34,_,_,_,_,_⟩ rfl ?_;refine tk 12 ⟨some 35,_,_,_,_,_⟩ rfl ?_;refine wpAnyH_done (by kernel_rfl) ?_ _;have HB6:=Lib.hid (HBr3.out.trans ((((Below.refl w3.heap.size w3).drew.trans hB5).trans (hB6.mono hB5.size)).mono HBr3.out.size));clear hHeld hB5 hB6 hx5 hs5 x0 x1 y0 y1 y2 z0 z1;go_wp2_with fail;go_roundw;case rel=>exact⟨i+1,by omega,by go_num,HB6,HJ⟩
      case measure=>simp[intOf];omega
   ·obtain rfl:Nr=i:=(by omega);have HJ:Hid (rdn.all (namedA L)=true):=(by show _=_;rw[hJ.out,←HNr.out,List.drop_length];rfl);go_wp2_with fail;go_ret;exact⟨kt.ret_bool HJ.out.symm,HBw.out⟩
end etw
open Go.RowKit
namespace etw
open atp atw etp
open dnw (Av Avas)
open tupw (Strs strs_below)
def awE:En:=⟨[⟨⟨#[99,110]⟩,⟨#[97,110,110]⟩⟩],[⟨⟨#[99,110]⟩,[⟨#[97,110,110,32]⟩]⟩]⟩
def errOf (r:Except Int En):Option Int:=match r with
 | .error f=>some f
 | .ok _=>none
theorem errOf_some {r:Except Int En}{f:Int}(h:errOf r=some f):r= .error f:=by
 cases r with
 | error g=>unfold errOf at h;simp at h;rw[h]
 | ok e=>unfold errOf at h;simp at h
theorem aw_add0:errOf (addE awE [99,110] [⟨#[65,110,110]⟩])=some 8:=by decide+kernel
theorem aw_add:addE awE [99,110] [⟨#[65,110,110]⟩]= .error 8:=errOf_some aw_add0
theorem aw_has:hasE awE [67,78] ⟨#[65,78,78]⟩=true:=by decide+kernel
theorem aw_named:namedE awE=true:=by decide+kernel
theorem aw_bk:Bk 1000 awE:=by
 refine⟨by decide,fun a ha=> ?_,by decide,fun a ha=> ?_⟩
 ·unfold awE at ha;simp only[List.mem_singleton]at ha;subst ha;exact⟨by decide,by decide⟩
 ·unfold awE at ha;simp only[List.mem_singleton]at ha;subst ha;refine⟨by decide,by decide,fun v hv=> ?_⟩;simp only[List.mem_singleton]at hv;subst hv;decide
theorem eawake_any (w:World)(hE:Hid (EnvE w)):Calls Tryz.prog 13 #[] w fun e w'=>e= .returned (.bool true)∧Below w.heap.size w w':=by
 obtain⟨W1,hW1⟩: ∃W,w.alloc (.cells #[.string ⟨#[99,110]⟩,.string ⟨#[97,110,110]⟩] 51)=W:=⟨_,rfl⟩;have hB1:Below w.heap.size w W1:=by rw[←hW1];exact(Below.refl _ _).alloc (Nat.le_refl _) _
 have hA1:AvaB W1 w.heap.size ⟨#[99,110]⟩ ⟨#[97,110,110]⟩:=by rw[←hW1];exact avaB_new _ _ _
 obtain⟨W2,hW2⟩: ∃W,W1.alloc (.cells #[.string ⟨#[97,110,110,32]⟩] 9)=W:=⟨_,rfl⟩;have hB2:Below W1.heap.size W1 W2:=by rw[←hW2];exact(Below.refl _ _).alloc (Nat.le_refl _) _
 have hV2:VB W2 W1.heap.size ⟨#[97,110,110,32]⟩:=by rw[←hW2];exact vb_new _ _
 obtain⟨W3,hW3⟩: ∃W,W2.alloc (.cells #[.string ⟨#[99,110]⟩,.slice (some ⟨W1.heap.size,0,none⟩) 1 1] 43)=W:=⟨_,rfl⟩;have hB3:Below W2.heap.size W2 W3:=by rw[←hW3];exact(Below.refl _ _).alloc (Nat.le_refl _) _
 have hT3:AttrB W3 W2.heap.size ⟨#[99,110]⟩ (.slice (some ⟨W1.heap.size,0,none⟩) 1 1):=by rw[←hW3];exact attrB_new _ _ _
 obtain⟨W4,hW4⟩: ∃W,W3.alloc (.cells #[.slice (some ⟨w.heap.size,0,none⟩) 1 1,.slice (some ⟨W2.heap.size,0,none⟩) 1 1] 26)=W:=⟨_,rfl⟩;have hB4:Below W3.heap.size W3 W4:=by rw[←hW4];exact(Below.refl _ _).alloc (Nat.le_refl _) _
 have hE4:EntB W4 W3.heap.size (.slice (some ⟨w.heap.size,0,none⟩) 1 1) (.slice (some ⟨W2.heap.size,0,none⟩) 1 1):=by rw[←hW4];exact entB_new _ _ _
 have hA4:=avaB_cells (avaB_below (avaB_below (avaB_below hA1 hB2) hB3) hB4);have hV4:=vb_cell (vb_below (vb_below hV2 hB3) hB4);have hT4:=attrB_cells (attrB_below hT3 hB4);have HV4:Hid (EntV W4 (.agg #[.slice (some ⟨w.heap.size,0,none⟩) 1 1,.slice (some ⟨W2.heap.size,0,none⟩) 1 1]) awE):=by
  refine⟨_,1,_,1,rfl,Nat.le_refl _,Nat.le_refl _,fun i hi=> ?_,fun i hi=> ?_⟩
  ·have h0:i=0:=(by have:i<1:=hi;omega);subst h0;exact⟨_,0,rfl,hA4.1,hA4.2⟩
  ·have h0:i=0:=(by have:i<1:=hi;omega);subst h0;refine⟨_,0,_,1,rfl,hT4.1,hT4.2,Nat.le_refl _,fun j hj=> ?_⟩;have h1:j=0:=(by have:j<1:=hj;omega);subst h1;exact⟨_,0,rfl,hV4⟩
 have hB04:=hB1.trans ((hB2.trans ((hB3.trans (hB4.mono hB3.size)).mono hB2.size)).mono hB1.size);have HB4:=Lib.hid hB04;obtain⟨W5,hW5⟩: ∃W,W4.alloc (.cells #[.string ⟨#[65,110,110]⟩] 9)=W:=⟨_,rfl⟩;have hB5:Below W4.heap.size W4 W5:=by rw[←hW5];exact(Below.refl _ _).alloc (Nat.le_refl _) _
 have hV5:VB W5 W4.heap.size ⟨#[65,110,110]⟩:=by rw[←hW5];exact vb_new _ _
 have hB45:=hB04.trans (hB5.mono hB04.size);have HB5:=Lib.hid hB5;have HAD0:=add_any _ awE ⟨#[99,110]⟩ (some ⟨W4.heap.size,0,none⟩) 1 [⟨#[65,110,110]⟩] W5 (Lib.hid (entV_below HV4.out hB5)) (Lib.hid aw_bk) (Lib.hid fun i hi=>by
  have h0:i=0:=by have:i<1:=hi;omega
  subst h0;exact⟨_,0,rfl,vb_cell hV5⟩) (by decide) (by decide) (Lib.hid fun x hx=>by simp only[List.mem_singleton]at hx;subst hx;decide) (by decide) (Lib.hid (envE_below hE.out hB45))
 rw[show addE awE (⟨#[99,110]⟩:ByteArray).data.toList [⟨#[65,110,110]⟩]= .error 8 from aw_add]at HAD0;have HAD:Hid (Calls Tryz.prog 61 #[.agg #[.slice (some ⟨w.heap.size,0,none⟩) 1 1,.slice (some ⟨W2.heap.size,0,none⟩) 1 1],.string ⟨#[99,110]⟩,.slice (some ⟨W4.heap.size,0,none⟩) 1 1] W5 fun e w'=>Below W5.heap.size W5 w'∧e= .returned (.tuple #[.agg #[.slice none 0 0,.slice none 0 0],.int .i64 8])):=HAD0;have HHA:Hid (∀W,Below W4.heap.size W4 W→Calls Tryz.prog 62 #[.agg #[.slice (some ⟨w.heap.size,0,none⟩) 1 1,.slice (some ⟨W2.heap.size,0,none⟩) 1 1],.string ⟨#[67,78]⟩,.string ⟨#[65,78,78]⟩] W fun e w'=>e= .returned (.bool true)∧Below W.heap.size W w'):=fun W h=>by have:=has_any _ awE ⟨#[67,78]⟩ ⟨#[65,78,78]⟩ W (Lib.hid (entV_below HV4.out h)) (Lib.hid (bk_bd aw_bk (by omega))) (by decide) (by decide) (Lib.hid (envE_below hE.out (HB4.out.trans (h.mono HB4.out.size))));rw[show hasE awE (⟨#[67,78]⟩:ByteArray).data.toList ⟨#[65,78,78]⟩=true from aw_has]at this;exact this
 have HNA:Hid (∀W,Below W4.heap.size W4 W→Calls Tryz.prog 63 #[.agg #[.slice (some ⟨w.heap.size,0,none⟩) 1 1,.slice (some ⟨W2.heap.size,0,none⟩) 1 1]] W fun e w'=>e= .returned (.bool true)∧Below W.heap.size W w'):=fun W h=>by have:=named_any _ awE W (Lib.hid (entV_below HV4.out h)) (Lib.hid (bk_bd aw_bk (by omega))) (Lib.hid (envE_below hE.out (HB4.out.trans (h.mono HB4.out.size))));rw[aw_named]at this;exact this
 obtain⟨k0,k1⟩:=entB_cells hE4;have HE5:=Lib.hid (entB_below hE4 hB5);have hz4:=HB4.out.size;clear hB1 hA1 hB2 hV2 hB3 hT3 hB4 hE4 hA4 hV4 hT4 hB04 hB5 hV5 hB45 HAD0;go_enter Tryz.func13,Tryz.ntmps13;go_wp2_with fail;refine HAD.out.mono ?_;rintro e w6 ⟨hB6,rfl⟩;have HB46:=Lib.hid (HB5.out.trans (hB6.mono HB5.out.size));have HE6:=Lib.hid (entB_below HE5.out hB6);obtain⟨m0,m1⟩:=entB_cells HE6.out;have hlt6:W3.heap.size<w6.heap.size:=kt.bld_lt HE6.out;clear hB6 k0 k1 hW1 hW2 hW3 hW4 hW5;go_wp2_with fail;have hB7:Below w6.heap.size w6 (w6.alloc (.cells #[.slice none 0 0,.slice none 0 0] 26)):=(Below.refl _ _).alloc (Nat.le_refl _) _;have HB47:=Lib.hid (HB46.out.trans (hB7.mono HB46.out.size));have HE7:=Lib.hid (entB_below HE6.out hB7);clear hB7;refine(HHA.out _ HB47.out).mono ?_;rintro e w8 ⟨rfl,hB8⟩;have HB48:=Lib.hid (HB47.out.trans (hB8.mono HB47.out.size));have HE8:=Lib.hid (entB_below HE7.out hB8);obtain⟨p0,p1⟩:=entB_cells HE8.out;clear hB8 m0 m1;go_wp2_with fail;refine(HNA.out _ HB48.out).mono ?_;rintro e w9 ⟨rfl,hB9⟩;have HB49:=Lib.hid (HB4.out.trans ((HB48.out.trans (hB9.mono HB48.out.size)).mono hz4));clear hB9 p0 p1;go_wp2_with fail;go_ret;exact⟨rfl,HB49.out⟩
end etw
namespace fld
def be (n:Nat):Nat→List UInt8
 | 0=>[]
 | k+1=>be (n / 256) k++[UInt8.ofNat n]
def num (l:List UInt8):Nat:=l.foldl (fun a c=>a*256+c.toNat) 0
theorem be_length (n k:Nat):(be n k).length=k:=by
 induction k generalizing n with
 | zero=>rfl
 | succ k ih=>simp[be,ih]
theorem num_snoc (l:List UInt8)(c:UInt8):num (l++[c])=num l*256+c.toNat:=by simp[num]
theorem num_be (k:Nat): ∀n,num (be n k)=n % 256 ^ k:=by
 induction k with
 | zero=>intro n;simp[be,num,Nat.mod_one]
 | succ k ih=>
  intro n;rw[be,num_snoc,ih,UInt8.toNat_ofNat'];have h:=Nat.mod_mul (x:=n) (a:=256) (b:=256 ^ k);rw[show 256 ^ (k+1)=256*256 ^ k from by rw[Nat.pow_succ,Nat.mul_comm],h];have:(2:Nat) ^ 8=256:=by decide
  omega
theorem num_lt (l:List UInt8):num l<256 ^ l.length:=by
 have h: ∀ (m:Nat) (l:List UInt8),l.length=m→num l<256 ^ m:=by
  intro m;induction m with
  | zero=>intro l hl;rw[List.eq_nil_of_length_eq_zero hl];simp[num]
  | succ m ih=>intro l hl;have hne:l≠[]:=(by intro e;rw[e]at hl;simp at hl);rw[←List.dropLast_concat_getLast hne,num_snoc];have:=ih l.dropLast (by simp[hl]);have h2:=(l.getLast hne).toNat_lt;rw[Nat.pow_succ];omega
 exact h _ l rfl
def laid (n k j:Nat):List UInt8:=List.replicate j 0++(be n k).drop j
theorem laid_start (n k:Nat):laid n k k=List.replicate k 0:=by unfold laid;rw[List.drop_of_length_le (by rw[be_length];exact Nat.le_refl _),List.append_nil]
theorem laid_end (n k:Nat):laid n k 0=be n k:=by simp[laid]
theorem laid_length (n k j:Nat)(h:j≤k):(laid n k j).length=k:=by simp[laid,be_length];omega
theorem be_get (k:Nat): ∀ (n j:Nat) (h:j<k),(be n k)[j]'(by rw[be_length];exact h)=UInt8.ofNat (n / 256 ^ (k-1-j)):=by
 induction k with
 | zero=>intro n j h;omega
 | succ k ih=>
  intro n j h;simp only[be];by_cases hj:j<k
  ·rw[List.getElem_append_left (by rw[be_length];exact hj),ih (n / 256) j hj];congr 1;rw[Nat.div_div_eq_div_mul,show 256*256 ^ (k-1-j)=256 ^ (k+1-1-j)from by rw[show k+1-1-j=(k-1-j)+1 from by omega,Nat.pow_succ,Nat.mul_comm]]
  ·obtain rfl:j=k:=(by omega);rw[List.getElem_append_right (by rw[be_length];exact Nat.le_refl _)];simp[be_length]
theorem laid_step (n k j:Nat)(h:j<k):(laid n k (j+1)).set j (UInt8.ofNat (n / 256 ^ (k-1-j)))=laid n k j:=by unfold laid;rw[List.replicate_succ',List.append_assoc,List.set_append_right _ _ (by simp)];simp only[List.length_replicate,Nat.sub_self,List.singleton_append,List.set_cons_zero];rw[List.drop_eq_getElem_cons (i:=j) (by rw[be_length];exact h),be_get k n j h]
def put (n:Nat)(size:Int):Option (List UInt8):=if size<1∨8<size then none else if 256 ^ size.toNat≤n then none else some (be n size.toNat)
def take (s:List UInt8)(at' size:Int):Except Int Nat:=if size<1∨8<size∨at'<0 then .error 1 else if(s.length:Int)<at'+size then .error 3 else .ok (num ((s.drop at'.toNat).take size.toNat))
def takeT (s:List UInt8)(at':Int):Except Int (List UInt8 × Nat):=
 match take s at' 2 with
 | .error e=> .error e
 | .ok n=>if s.length<at'.toNat+2+n then .error 3 else .ok ((s.drop (at'.toNat+2)).take n,at'.toNat+2+n)
theorem u64_shl_or (N c:Nat)(hN:N<72057594037927936)(hc:c<256):bits .or .u64 (IntKind.u64.wrap ((N:Int)*256)) (c:Int)=((256*N+c:Nat):Int):=by
 have e:IntKind.u64.wrap ((N:Int)*256)=((2 ^ 8*N:Nat):Int):=by
  rw[IntKind.wrap_u64];have:(2:Nat) ^ 8=256:=by decide
  omega
 have p8:(2:Nat) ^ 8=256:=by decide
 rw[e,u64_or_nat _ _ (by omega) (by omega),←Nat.two_pow_add_eq_or_of_lt (by omega),p8]
theorem u64_mul_add (N c:Nat)(hN:N<72057594037927936)(hc:c<256):IntKind.u64.wrap (IntKind.u64.wrap ((N:Int)*256)+(c:Int))=((256*N+c:Nat):Int):=by rw[IntKind.wrap_u64,IntKind.wrap_u64];omega
theorem num_small {l:List UInt8}{j:Nat}(h:(l.take j).length≤7):num (l.take j)<72057594037927936:=by
 have h1:=num_lt (l.take j);have h2:256 ^ (l.take j).length≤256 ^ 7:=Nat.pow_le_pow_right (by omega) h;have h3:(256:Nat) ^ 7=72057594037927936:=by decide
 omega
theorem num_le {l:List UInt8}{k:Nat}(h:l.length≤k):num l<256 ^ k:=Nat.lt_of_lt_of_le (num_lt l) (Nat.pow_le_pow_right (by omega) h)
end fld
namespace etp
open atp atw
open dnw (Av)
def txt (s:ByteArray):List UInt8:=fld.be s.size 2++s.data.toList
def encV (vs:List ByteArray):List UInt8:=vs.flatMap txt
def encA (a:At):List UInt8:=txt a.t++(UInt8.ofNat a.vs.length::encV a.vs)
def encR (l:List Av):List UInt8:=l.flatMap fun a=>txt a.t++txt a.v
def encL (l:List At):List UInt8:=l.flatMap encA
def packB (e:En):List UInt8:=UInt8.ofNat e.rdn.length::(encR e.rdn++(UInt8.ofNat e.ats.length::encL e.ats))
def packE (e:En):Except Int (List UInt8):=if rightE e=false then .error 4 else if 4000<(packB e).length then .error 5 else .ok (packB e)
theorem pack_ok {e:En}{s:List UInt8}(h:packE e= .ok s):rightE e=true∧packB e=s∧s.length≤4000:=by
 unfold packE at h;by_cases h1:rightE e=false
 ·rw[if_pos h1]at h;cases h
 ·rw[if_neg h1]at h;by_cases h2:4000<(packB e).length
  ·rw[if_pos h2]at h;cases h
  ·rw[if_neg h2]at h;cases h;exact⟨by simpa using h1,rfl,by omega⟩
theorem txt_len (s:ByteArray):(txt s).length=2+s.size:=by unfold txt;rw[List.length_append,fld.be_length,kt.size_len]
theorem ofNat_toNat {n:Nat}(h:n≤255):(UInt8.ofNat n).toNat=n:=by rw[UInt8.toNat_ofNat',Nat.mod_eq_of_lt (by omega)]
theorem encV_snoc {l:List ByteArray}{i:Nat}(h:i<l.length):encV (l.take (i+1))=encV (l.take i)++txt l[i]:=by unfold encV;rw[List.take_succ_eq_append_getElem h,List.flatMap_append];simp
theorem encR_snoc {l:List Av}{i:Nat}(h:i<l.length):encR (l.take (i+1))=encR (l.take i)++(txt l[i].t++txt l[i].v):=by unfold encR;rw[List.take_succ_eq_append_getElem h,List.flatMap_append];simp
theorem encL_snoc {l:List At}{i:Nat}(h:i<l.length):encL (l.take (i+1))=encL (l.take i)++encA l[i]:=by unfold encL;rw[List.take_succ_eq_append_getElem h,List.flatMap_append];simp
end etp
namespace etp
open atp atw
open dnw (Av)
def SmallE (e:En):Prop:=e.rdn.length≤255∧e.ats.length≤255∧ ∀a∈e.ats,a.vs.length≤255
def UnpE (s:List UInt8)(r:Except Int En):Prop:=(∀e,r= .ok e→packE e= .ok s∧SmallE e)∧(∀e,packE e= .ok s→SmallE e→r= .ok e)∧(∀x,r= .error x→x=4)
theorem unp_same {s:List UInt8}{r q:Except Int En}(h1:UnpE s r)(h2:UnpE s q):r=q:=by
 cases r with
 | ok e=>exact(h2.2.1 e (h1.1 e rfl).1 (h1.1 e rfl).2).symm
 | error x=>
  cases q with
  | ok e=>have:=h1.2.1 e (h2.1 e rfl).1 (h2.1 e rfl).2;cases this
  | error y=>rw[h1.2.2 x rfl,h2.2.2 y rfl]
def None_ (s:List UInt8):Prop:= ∀e,packE e= .ok s→SmallE e→False
theorem unp_none {s:List UInt8}(h:None_ s):UnpE s (.error 4):=⟨fun e he=>(by cases he),fun e h1 h2=>(h e h1 h2).elim,fun x hx=>(by cases hx;rfl)⟩
theorem drop_more {L a b:List UInt8}{k n:Nat}(h:L.drop k=a++b)(hn:n=a.length):L.drop (k+n)=b:=by rw[←List.drop_drop,h,hn,List.drop_left]
theorem txt_take {L rest:List UInt8}{k:Nat}{s:ByteArray}(h:L.drop k=txt s++rest)(hL:L.length≤4000):
  fld.takeT L (k:Int)= .ok (s.data.toList,k+2+s.size)∧L.drop (k+2+s.size)=rest:=by
 have hlen:L.length-k=2+s.size+rest.length:=by have:=congrArg List.length h;rw[List.length_drop,List.length_append,txt_len]at this;exact this
 have h2:(L.drop k).take 2=fld.be s.size 2:=by rw[h];unfold txt;rw[List.append_assoc,List.take_append_of_le_length (by rw[fld.be_length];exact Nat.le_refl _),List.take_of_length_le (by rw[fld.be_length];exact Nat.le_refl _)]
 have ht:fld.take L (k:Int) 2= .ok s.size:=by unfold fld.take;rw[if_neg (by omega),if_neg (by omega),Int.toNat_natCast,show(2:Int).toNat=2 from rfl,h2,fld.num_be,Nat.mod_eq_of_lt (by omega)]
 refine⟨?_,?_⟩
 ·unfold fld.takeT;rw[ht];simp only[Int.toNat_natCast];rw[if_neg (by omega)];have e1:L.drop (k+2)=s.data.toList++rest:=by refine drop_more (a:=fld.be s.size 2) ?_ (by rw[fld.be_length]);rw[h];unfold txt;rw[List.append_assoc]
  rw[e1,List.take_append_of_le_length (by rw[kt.size_len];exact Nat.le_refl _),List.take_of_length_le (by rw[kt.size_len];exact Nat.le_refl _)]
 ·rw[Nat.add_assoc];exact drop_more h (by rw[txt_len])
theorem cnt_take {L rest:List UInt8}{k:Nat}{c:UInt8}(h:L.drop k=c::rest):fld.take L (k:Int) 1= .ok c.toNat∧L.drop (k+1)=rest∧L[k]? =some c:=by
 have hlen:L.length-k=1+rest.length:=by have:=congrArg List.length h;rw[List.length_drop,List.length_cons]at this;omega
 refine⟨?_,drop_more (a:=[c]) h rfl,?_⟩
 ·unfold fld.take;rw[if_neg (by omega),if_neg (by omega),Int.toNat_natCast,show(1:Int).toNat=1 from rfl,h];simp[fld.num]
 ·have:(L.drop k)[0]? =some c:=by rw[h];rfl
  rw[List.getElem?_drop]at this;exact this
def InvR (s:List UInt8)(bad:Bool)(k:Int)(n:Int)(l:List Av):Prop:=∀e,packE e= .ok s→SmallE e→ ∃r,e.rdn=l++r∧n=(r.length:Int)∧bad=false∧0≤k∧s.drop k.toNat=encR r++(UInt8.ofNat e.ats.length::encL e.ats)
def InvA (s:List UInt8)(bad:Bool)(k:Int)(n:Int)(rd:List Av)(l:List At):Prop:=∀e,packE e= .ok s→SmallE e→ ∃r,e.rdn=rd∧e.ats=l++r∧n=(r.length:Int)∧bad=false∧0≤k∧s.drop k.toNat=encL r
def InvV (s:List UInt8)(bad:Bool)(k:Int)(n m:Int)(rd:List Av)(l:List At)(t:ByteArray)(vs:List ByteArray):Prop:=∀e,packE e= .ok s→SmallE e→ ∃r u,e.rdn=rd∧e.ats=l++⟨t,vs++u⟩::r∧n=(r.length:Int)+1∧m=(u.length:Int)∧bad=false∧0≤k∧s.drop k.toNat=encV u++encL r
theorem invR_none {s:List UInt8}(h:None_ s)(bad:Bool)(k n:Int)(l:List Av):InvR s bad k n l:=fun e h1 h2=>(h e h1 h2).elim
theorem invA_none {s:List UInt8}(h:None_ s)(bad:Bool)(k n:Int)(rd:List Av)(l:List At):InvA s bad k n rd l:=fun e h1 h2=>(h e h1 h2).elim
theorem invV_none {s:List UInt8}(h:None_ s)(bad:Bool)(k n m:Int)(rd:List Av)(l:List At)(t:ByteArray)(vs:List ByteArray):InvV s bad k n m rd l t vs:=fun e h1 h2=>(h e h1 h2).elim
theorem pack_ne {s:List UInt8}{e:En}(h:packE e= .ok s):s≠[]:=by obtain⟨_,h2,_⟩:=pack_ok h;rw[←h2];exact List.cons_ne_nil _ _
theorem invR_start {s:List UInt8}{c:Nat}(h:fld.take s 0 1= .ok c):InvR s false 1 (c:Int) []:=by
 intro e h1 h2;obtain⟨_,h3,_⟩:=pack_ok h1;have hd:s.drop 0=UInt8.ofNat e.rdn.length::(encR e.rdn++(UInt8.ofNat e.ats.length::encL e.ats)):=by rw[List.drop_zero,←h3];rfl
 obtain⟨g1,g2,_⟩:=cnt_take hd;rw[show((0:Nat):Int)=0 from rfl,h]at g1;cases g1;exact⟨e.rdn,rfl,by rw[ofNat_toNat h2.1],rfl,by omega,g2⟩
theorem start_none {s:List UInt8}{x:Int}(h:fld.take s 0 1= .error x):None_ s:=by
 intro e h1 h2;obtain⟨_,h3,_⟩:=pack_ok h1;have hd:s.drop 0=UInt8.ofNat e.rdn.length::(encR e.rdn++(UInt8.ofNat e.ats.length::encL e.ats)):=by rw[List.drop_zero,←h3];rfl
 obtain⟨g1,g2,_⟩:=cnt_take hd;rw[show((0:Nat):Int)=0 from rfl,h]at g1;cases g1
theorem invR_bad {s:List UInt8}{k n:Int}{l:List Av}(h:InvR s true k n l):None_ s:=by intro e h1 h2;obtain⟨_,_,_,h3,_⟩:=h e h1 h2;cases h3
theorem invA_bad {s:List UInt8}{k n:Int}{rd:List Av}{l:List At}(h:InvA s true k n rd l):None_ s:=by intro e h1 h2;obtain⟨_,_,_,_,h3,_⟩:=h e h1 h2;cases h3
theorem invV_bad {s:List UInt8}{k n m:Int}{rd:List Av}{l:List At}{t:ByteArray}{vs:List ByteArray}(h:InvV s true k n m rd l t vs):None_ s:=by intro e h1 h2;obtain⟨_,_,_,_,_,_,h3,_⟩:=h e h1 h2;cases h3
theorem cons_of {α:Type}{r:List α}{n:Int}(h:n=(r.length:Int))(hn:0<n): ∃x t,r=x::t∧n-1=(t.length:Int):=by
 cases r with
 | nil=>simp at h;omega
 | cons x t=>exact⟨x,t,rfl,by simp at h;omega⟩
theorem invR_text {s:List UInt8}{bad:Bool}{k n:Int}{l:List Av}(h:InvR s bad k n l)(hn:0<n):
  (∀x,fld.takeT s k= .error x→None_ s)∧ ∀t p,fld.takeT s k= .ok (t,p)→(∀x,fld.takeT s (p:Int)= .error x→None_ s)∧ ∀v q,fld.takeT s (p:Int)= .ok (v,q)→InvR s bad (q:Int) (n-1) (l++[⟨⟨t.toArray⟩,⟨v.toArray⟩⟩]):=by
 have key: ∀e,packE e= .ok s→SmallE e→ ∃a r p q,e.rdn=l++a::r∧n-1=(r.length:Int)∧bad=false∧fld.takeT s k= .ok (a.t.data.toList,p)∧fld.takeT s (p:Int)= .ok (a.v.data.toList,q)∧s.drop q=encR r++(UInt8.ofNat e.ats.length::encL e.ats):=by
  intro e h1 h2;obtain⟨r,g1,g2,g3,g4,g5⟩:=h e h1 h2;obtain⟨_,_,hL⟩:=pack_ok h1;obtain⟨a,r,rfl,g6⟩:=cons_of g2 hn;have e1:s.drop k.toNat=txt a.t++(txt a.v++(encR r++(UInt8.ofNat e.ats.length::encL e.ats))):=by rw[g5];unfold encR;simp[List.flatMap_cons]
  obtain⟨t1,t2⟩:=txt_take e1 hL;obtain⟨t3,t4⟩:=txt_take t2 hL;rw[Int.toNat_of_nonneg g4]at t1;exact⟨a,r,_,_,g1,g6,g3,t1,t3,t4⟩
 refine⟨fun x hx e h1 h2=> ?_,fun t p htp=>⟨fun x hx e h1 h2=> ?_,fun v q hvq e h1 h2=> ?_⟩⟩
 ·obtain⟨a,r,p,q,_,_,_,t1,_⟩:=key e h1 h2;rw[hx]at t1;cases t1
 ·obtain⟨a,r,p',q,_,_,_,t1,t2,_⟩:=key e h1 h2;rw[htp]at t1;cases t1;rw[hx]at t2;cases t2
 ·obtain⟨a,r,p',q',g1,g2,g3,t1,t2,t3⟩:=key e h1 h2;rw[htp]at t1;cases t1;rw[hvq]at t2;cases t2;refine⟨r,?_,g2,g3,by omega,by rw[Int.toNat_natCast];exact t3⟩;rw[g1,List.append_assoc];rfl
theorem invR_cnt {s:List UInt8}{bad:Bool}{k n:Int}{l:List Av}(h:InvR s bad k n l)(hn: ¬0<n):
  (∀x,fld.take s k 1= .error x→None_ s)∧ ∀c,fld.take s k 1= .ok c→InvA s bad (k+1) (c:Int) l []:=by
 have key: ∀e,packE e= .ok s→SmallE e→e.rdn=l∧bad=false∧0≤k∧fld.take s k 1= .ok e.ats.length∧s.drop (k+1).toNat=encL e.ats:=by
  intro e h1 h2;obtain⟨r,g1,g2,g3,g4,g5⟩:=h e h1 h2;have hr:r=[]:=List.eq_nil_of_length_eq_zero (by omega);subst hr;have e1:s.drop k.toNat=UInt8.ofNat e.ats.length::encL e.ats:=by rw[g5];rfl
  obtain⟨t1,t2,_⟩:=cnt_take e1;rw[Int.toNat_of_nonneg g4,ofNat_toNat h2.2.1]at t1;exact⟨by simpa using g1,g3,g4,t1,by rw[show(k+1).toNat=k.toNat+1 by omega];exact t2⟩
 refine⟨fun x hx e h1 h2=> ?_,fun c hc e h1 h2=> ?_⟩
 ·obtain⟨_,_,_,t,_⟩:=key e h1 h2;rw[hx]at t;cases t
 ·obtain⟨g1,g2,g3,t,g4⟩:=key e h1 h2;rw[hc]at t;cases t;exact⟨e.ats,g1,rfl,rfl,g2,by omega,g4⟩
theorem invA_head {s:List UInt8}{bad:Bool}{k n:Int}{rd:List Av}{l:List At}(h:InvA s bad k n rd l)(hn:0<n):
  (∀x,fld.takeT s k= .error x→None_ s)∧ ∀t p,fld.takeT s k= .ok (t,p)→(∀x,fld.take s (p:Int) 1= .error x→None_ s)∧ ∀c,fld.take s (p:Int) 1= .ok c→InvV s bad ((p:Int)+1) n (c:Int) rd l ⟨t.toArray⟩ []:=by
 have key: ∀e,packE e= .ok s→SmallE e→ ∃a r p,e.rdn=rd∧e.ats=l++a::r∧n-1=(r.length:Int)∧bad=false∧fld.takeT s k= .ok (a.t.data.toList,p)∧fld.take s (p:Int) 1= .ok a.vs.length∧s.drop (p+1)=encV a.vs++encL r:=by
  intro e h1 h2;obtain⟨r,g0,g1,g2,g3,g4,g5⟩:=h e h1 h2;obtain⟨_,_,hL⟩:=pack_ok h1;obtain⟨a,r,rfl,g6⟩:=cons_of g2 hn;have e1:s.drop k.toNat=txt a.t++(UInt8.ofNat a.vs.length::(encV a.vs++encL r)):=by rw[g5];unfold encL encA;simp[List.flatMap_cons]
  obtain⟨t1,t2⟩:=txt_take e1 hL;obtain⟨t3,t4,_⟩:=cnt_take t2;rw[Int.toNat_of_nonneg g4]at t1;rw[ofNat_toNat (h2.2.2 a (by rw[g1];simp))]at t3;exact⟨a,r,_,g0,g1,g6,g3,t1,t3,t4⟩
 refine⟨fun x hx e h1 h2=> ?_,fun t p htp=>⟨fun x hx e h1 h2=> ?_,fun c hc e h1 h2=> ?_⟩⟩
 ·obtain⟨a,r,p,_,_,_,_,t1,_⟩:=key e h1 h2;rw[hx]at t1;cases t1
 ·obtain⟨a,r,p',_,_,_,_,t1,t2,_⟩:=key e h1 h2;rw[htp]at t1;cases t1;rw[hx]at t2;cases t2
 ·obtain⟨a,r,p',g0,g1,g2,g3,t1,t2,t3⟩:=key e h1 h2;rw[htp]at t1;cases t1;rw[hc]at t2;cases t2;refine⟨r,a.vs,g0,?_,by omega,rfl,g3,by omega,by rw[show((p:Int)+1).toNat=p+1 by omega];exact t3⟩;rw[g1];rfl
theorem invV_text {s:List UInt8}{bad:Bool}{k n m:Int}{rd:List Av}{l:List At}{t:ByteArray}{vs:List ByteArray}(h:InvV s bad k n m rd l t vs)(hm:0<m):
  (∀x,fld.takeT s k= .error x→None_ s)∧ ∀v q,fld.takeT s k= .ok (v,q)→InvV s bad (q:Int) n (m-1) rd l t (vs++[⟨v.toArray⟩]):=by
 have key: ∀e,packE e= .ok s→SmallE e→ ∃v u r q,e.rdn=rd∧e.ats=l++⟨t,vs++v::u⟩::r∧n=(r.length:Int)+1∧m-1=(u.length:Int)∧bad=false∧fld.takeT s k= .ok (v.data.toList,q)∧s.drop q=encV u++encL r:=by
  intro e h1 h2;obtain⟨r,u,g0,g1,g2,g3,g4,g5,g6⟩:=h e h1 h2;obtain⟨_,_,hL⟩:=pack_ok h1;obtain⟨v,u,rfl,g7⟩:=cons_of g3 hm;have e1:s.drop k.toNat=txt v++(encV u++encL r):=by rw[g6];unfold encV;simp[List.flatMap_cons]
  obtain⟨t1,t2⟩:=txt_take e1 hL;rw[Int.toNat_of_nonneg g5]at t1;exact⟨v,u,r,_,g0,g1,g2,g7,g4,t1,t2⟩
 refine⟨fun x hx e h1 h2=> ?_,fun v q hvq e h1 h2=> ?_⟩
 ·obtain⟨_,_,_,q,_,_,_,_,_,t1,_⟩:=key e h1 h2;rw[hx]at t1;cases t1
 ·obtain⟨v',u,r,q',g0,g1,g2,g3,g4,t1,t2⟩:=key e h1 h2;rw[hvq]at t1;cases t1;refine⟨r,u,g0,?_,g2,g3,g4,by omega,by rw[Int.toNat_natCast];exact t2⟩;rw[g1,List.append_assoc];rfl
theorem invV_done {s:List UInt8}{bad:Bool}{k n m:Int}{rd:List Av}{l:List At}{t:ByteArray}{vs:List ByteArray}(h:InvV s bad k n m rd l t vs)(hm: ¬0<m):InvA s bad k (n-1) rd (l++[⟨t,vs⟩]):=by intro e h1 h2;obtain⟨r,u,g0,g1,g2,g3,g4,g5,g6⟩:=h e h1 h2;have hu:u=[]:=List.eq_nil_of_length_eq_zero (by omega);subst hu;refine⟨r,g0,?_,by omega,g4,g5,by rw[g6];rfl⟩;rw[g1,List.append_nil,List.append_assoc];rfl
theorem invA_done {s:List UInt8}{bad:Bool}{k n:Int}{rd:List Av}{l:List At}(h:InvA s bad k n rd l)(hn: ¬0<n): ∀e,packE e= .ok s→SmallE e→e=⟨rd,l⟩:=by intro e h1 h2;obtain⟨r,g0,g1,g2,_⟩:=h e h1 h2;have hr:r=[]:=List.eq_nil_of_length_eq_zero (by omega);subst hr;cases e;simp at g0 g1;rw[g0,g1]
theorem unp_yes {s:List UInt8}{e:En}(h: ∀x,packE x= .ok s→SmallE x→x=e)(h1:packE e= .ok s)(h2:SmallE e):UnpE s (.ok e):=⟨fun x hx=>(by cases hx;exact⟨h1,h2⟩),fun x k1 k2=>by rw[h x k1 k2],fun x hx=>(by cases hx)⟩
theorem none_of {s:List UInt8}{e:En}(h: ∀x,packE x= .ok s→SmallE x→x=e)(h1:packE e≠ .ok s):None_ s:=fun x k1 k2=>h1 (by rw[←h x k1 k2];exact k1)
end etp
open Go.RowKit
namespace kt
theorem mkbytes2 {P:Program}{t e:TypeId}(ht:P.underlying t=some (.slice e))(hinfo:(P.info? e).map (fun i=>(i.zero,i.size,i.bytes))=some (some (.int .u8 0),1,1))(w:World)(n:Nat)(hn:n≤1000000000):
  ∃W1,(Instr.makeSlice t (.int .i64 (n:Int)) (.int .i64 (n:Int))).run P w= .ok (.slice (some ⟨w.heap.size,0,none⟩) n n) W1∧ByteRow W1 w.heap.size (List.replicate n 0)∧Below w.heap.size w W1:=by
 obtain⟨i0,hi,hz0,hz1,hz2⟩:=info_parts hinfo;obtain⟨w',hrun,hown,hgr⟩:=run_make_full (P:=P) w w.heap.size t e i0 (.int .u8 0) 1 ht hi hz0 hz1 .i64 .i64 n (by rw[hz2];omega) (by unfold maxLen;omega) (Nat.le_refl _);refine⟨w',hrun,?_,(Below.refl _ w).grown hgr (Nat.le_refl _) (fun k hk=>by cases hk)⟩;intro j hj;rw[List.length_replicate]at hj;rcases hown.2 with⟨_,h0⟩ | ⟨g,cap,cur,hv,_,hg,h1,h2,h3,h4⟩
 ·omega
 ·simp only[Value.slice.injEq,Option.some.injEq,Addr.mk.injEq]at hv;obtain⟨⟨rfl,_,_⟩,_,rfl⟩:=hv;have hcur:cur[j]? =some (.int .u8 0):=by have h5:(cur.toList.take (n*1))[j]? =some (.int .u8 0):=(by rw[h4];have hv: ∀m:Nat,(Value.int IntKind.u8 0).cells[m % (Value.int IntKind.u8 0).cells.size]! =Value.int IntKind.u8 0:=(by intro m;rw[show(Value.int IntKind.u8 0).cells.size=1 from rfl,Nat.mod_one];rfl);simp[madeCells,hv,hj]);rw[List.getElem?_take,if_pos (by omega)]at h5;simpa using h5
  refine⟨?_,?_⟩
  ·rw[Lib.cell_of_heap hg,hcur];simp[List.getElem_replicate]
  ·exact Lib.frozen_of_heap hg j
end kt
namespace fldw
def putV (s:ByteArray)(o:Option (List UInt8)):Value:=
 match o with
 | none=> .tuple #[.string ⟨#[]⟩,.int .i64 1]
 | some b=> .tuple #[.string ⟨(s.data.toList++b).toArray⟩,.int .i64 0]
def U64 (n:Nat):Prop:=n<18446744073709551616
theorem put_any (s:ByteArray)(n:Nat)(size:Int)(w:World)(hs:s.size≤1100000)(hn:U64 n)(h0: -9223372036854775808≤size)(h1:size≤9223372036854775807):
  Calls Tryz.prog 190 #[.string s,.int .u64 (n:Int),.int .i64 size] w fun e w'=>e= .returned (putV s (fld.put n size))∧Below w.heap.size w w':=by
 by_cases c1:size<1
 ·have hp:fld.put n size=none:=by unfold fld.put;rw[if_pos (by omega)]
  have HP:=Lib.hid hp;clear hp;go_enter Tryz.func190,Tryz.ntmps190;go_wp2_with fail;go_ret2;exact⟨by rw[HP.out];rfl,Below.refl _ _⟩
 ·by_cases c2:8<size
  ·have hp:fld.put n size=none:=(by unfold fld.put;rw[if_pos (by omega)]);have HP:=Lib.hid hp;clear hp;go_enter Tryz.func190,Tryz.ntmps190;go_wp2_with fail;go_ret2;exact⟨by rw[HP.out];rfl,Below.refl _ _⟩
  ·obtain⟨k,rfl⟩:=Int.eq_ofNat_of_zero_le (show 0≤size by omega);have hpow:(2:Int) ^ (8*k)=((256 ^ k:Nat):Int):=(by rw[show(256:Nat)=2 ^ 8 from rfl,←Nat.pow_mul,Int.natCast_pow];rfl);by_cases c3:256 ^ k≤n
   ·have hp:fld.put n k=none:=(by unfold fld.put;rw[if_neg (by omega),Int.toNat_natCast,if_pos c3]);have HP:=Lib.hid hp;have hk8:k<8:=by
     rcases Nat.lt_or_ge k 8 with h | h
     ·exact h
     ·obtain rfl:k=8:=(by omega);have:(256:Nat) ^ 8=18446744073709551616:=(by decide);unfold U64 at hn;omega
    have q:(0:Int)<(n:Int) / 2 ^ (8*k):=(by rw[hpow,←Int.natCast_ediv];have:=Nat.div_pos c3 (Nat.pow_pos (by omega));omega);have HN:=Lib.hid hn;clear hp c3 hpow hn;go_enter Tryz.func190,Tryz.ntmps190;go_wp2_with fail;go_ret2;exact⟨by rw[HP.out];rfl,Below.refl _ _⟩
   ·have hp:fld.put n k=some (fld.be n k):=(by unfold fld.put;rw[if_neg (by omega),Int.toNat_natCast,if_neg c3]);have HP:=Lib.hid hp;have q: ¬ (0:Int)<(n:Int) / 2 ^ (8*k):=(by rw[hpow,←Int.natCast_ediv,Nat.div_eq_of_lt (by omega)];simp);have HN:=Lib.hid hn;clear hp c3 hpow hn;obtain⟨W1,hmk,hrow,hB1⟩:=kt.mkbytes2 (P:=Tryz.prog) Tryz.underlying131 infoByte w k (by omega);rw[←fld.laid_start n k]at hrow;have HR:=Lib.hid hrow;clear hrow;by_cases hk8:k<8;all_goals
     go_enter Tryz.func190,Tryz.ntmps190;go_wp2_with fail;go_loopw [1,9] (fun nv iv wr=> ∃ (j N:Nat),j≤k∧iv= .int .i64 ((j:Int)-1)∧nv= .int .u64 (N:Int)∧Hid (N=n / 256 ^ (k-j))∧Hid (kt.ByteRow wr w.heap.size (fld.laid n k j))∧Below w.heap.size w wr) (fun _ iv _=>(intOf iv+1).toNat);case atStart=>exact⟨k,n,Nat.le_refl _,rfl,rfl,by show _=_;simp,HR,hB1⟩
     case round=>
      obtain⟨j,N,hj,rfl,rfl,hNe,hrow,hB⟩:=hrel;cases j with
      | zero=>have hst:=kt.byterow_str (P:=Tryz.prog) (dst:=9) (n:=k) (cap:=k) Tryz.underlying131 Tryz.underlying5 Tryz.underlying9 hrow.out (by rw[fld.laid_length _ _ _ (by omega)]);obtain⟨b,hb⟩: ∃b:ByteArray,Hid (b=⟨(fld.laid n k 0).toArray⟩):=⟨⟨(fld.laid n k 0).toArray⟩,rfl⟩;rw[←hb.out]at hst;have hbs:b.size≤8:=(by have:b.size=(fld.laid n k 0).length:=(by rw[hb.out];rfl);rw[this,fld.laid_length _ _ _ (by omega)];omega);rw[show(((0:Nat):Int)-1)= -1 from rfl];go_wp2_with fail;go_ret2;exact⟨by rw[HP.out];refine congrArg Ending.returned ?_;show Value.tuple #[.string _,.int .i64 0]= .tuple #[.string _,.int .i64 0];rw[show s++b=⟨(s.data.toList++fld.be n k).toArray⟩from kt.str_eq (by rw[hb.out,fld.laid_end];simp)],hB⟩
      | succ q=>
       obtain⟨m,hm⟩: ∃m:UInt8,Hid (m=UInt8.ofNat N):=⟨_,rfl⟩;have em:(N:Int) % 256=(m.toNat:Int):=(by rw[hm.out,UInt8.toNat_ofNat'];omega);have hqk:q<(fld.laid n k (q+1)).length:=(by rw[fld.laid_length _ _ _ hj];omega);obtain⟨hc,hf⟩:=hrow.out q hqk;rw[show(((q+1:Nat):Int)-1)=(q:Int)from by omega];go_wp2_with fail;go_roundw;case rel=>
        refine⟨q,N / 256,by omega,by go_num,by go_num,?_,?_,hB.setCell (Nat.le_refl _) _⟩
        ·show N / 256=n / 256 ^ (k-q);rw[hNe.out,Nat.div_div_eq_div_mul,←Nat.pow_succ,show(k- (q+1)).succ=k-q from by omega]
        ·have h:=kt.byterow_set hrow.out q m;rw[hm.out,hNe.out,show k- (q+1)=k-1-q from by omega,fld.laid_step n k q (by omega)]at h;show kt.ByteRow _ _ _;rw[hm.out,hNe.out,show k- (q+1)=k-1-q from by omega];exact h
       case measure=>simp[intOf]
end fldw
open Go.RowKit
namespace fldw
def takeV (o:Except Int Nat):Value:=
 match o with
 | .error e=> .tuple #[.int .u64 0,.int .i64 e]
 | .ok n=> .tuple #[.int .u64 (n:Int),.int .i64 0]
theorem take_any (s:ByteArray)(at' size:Int)(w:World)(hs:s.size≤1100000)(h0: -9223372036854775808≤size)(h1:size≤9223372036854775807)(h2: -9223372036854775808≤at')(h3:at'≤9223372036854775807):
  Calls Tryz.prog 124 #[.string s,.int .i64 at',.int .i64 size] w fun e w'=>e= .returned (takeV (fld.take s.data.toList at' size))∧Below w.heap.size w w':=by
 by_cases c0:size<1∨8<size∨at'<0
 ·have hp:fld.take s.data.toList at' size= .error 1:=by unfold fld.take;rw[if_pos c0]
  have HP:=Lib.hid hp;clear hp;by_cases c1:size<1
  ·clear c0;go_enter Tryz.func124,Tryz.ntmps124;go_wp2_with fail;go_ret2;exact⟨by rw[HP.out];rfl,Below.refl _ _⟩
  ·by_cases c2:8<size
   ·clear c0;go_enter Tryz.func124,Tryz.ntmps124;go_wp2_with fail;go_ret2;exact⟨by rw[HP.out];rfl,Below.refl _ _⟩
   ·have c3:at'<0:=(by omega);clear c0;go_enter Tryz.func124,Tryz.ntmps124;go_wp2_with fail;go_ret2;exact⟨by rw[HP.out];rfl,Below.refl _ _⟩
 ·have c1: ¬size<1:=by omega
  have c2: ¬8<size:=by omega
  have c3: ¬at'<0:=by omega
  by_cases c4:(s.data.toList.length:Int)<at'+size
  ·have hp:fld.take s.data.toList at' size= .error 3:=(by unfold fld.take;rw[if_neg c0,if_pos c4]);have HP:=Lib.hid hp;rw[kt.size_len]at c4;clear hp c0;by_cases c5:(s.size:Int)<at'
   ·clear c4;go_enter Tryz.func124,Tryz.ntmps124;go_wp2_with fail;go_ret2;exact⟨by rw[HP.out];rfl,Below.refl _ _⟩
   ·have c6:(s.size:Int)-at'<size:=(by omega);clear c4;go_enter Tryz.func124,Tryz.ntmps124;go_wp2_with fail;go_ret2;exact⟨by rw[HP.out];rfl,Below.refl _ _⟩
  ·have hp:fld.take s.data.toList at' size= .ok (fld.num ((s.data.toList.drop at'.toNat).take size.toNat)):=(by unfold fld.take;rw[if_neg c0,if_neg c4]);rw[kt.size_len]at c4;obtain⟨a,rfl⟩:=Int.eq_ofNat_of_zero_le (show 0≤at' by omega);obtain⟨k,rfl⟩:=Int.eq_ofNat_of_zero_le (show 0≤size by omega);rw[Int.toNat_natCast,Int.toNat_natCast]at hp;obtain⟨t,ht⟩: ∃t:ByteArray,Hid (t=s.extract a (a+k)):=⟨_,rfl⟩;have htd:t.data.toList=(s.data.toList.drop a).take k:=(by rw[ht.out,Lib.extract_data];simp);rw[←htd]at hp;have htk:t.size=k:=(by rw[←kt.size_len,htd,List.length_take,List.length_drop,kt.size_len];omega);have HP:=Lib.hid hp;have HK:=Lib.hid htk;have ex:s.extract a (a+k)=t:=ht.out.symm;have c5: ¬ (s.size:Int)<(a:Int):=(by omega);have c6: ¬ (s.size:Int)- (a:Int)<(k:Int):=(by omega);have c7:(a:Int)+(k:Int)≤(s.size:Int):=(by omega);have c8:((a:Int)+(k:Int)).toNat=a+k:=(by omega);obtain⟨W1,cap,hcv,hrow,hB1⟩:=kt.bytes_of (P:=Tryz.prog) (src:=9) (dst:=131) Tryz.underlying9 Tryz.underlying131 Tryz.underlying5 w t;rw[htk]at hcv;have HR:=Lib.hid hrow;clear hp htk htd c0 c4 hrow;go_enter Tryz.func124,Tryz.ntmps124;go_wp2_with fail;go_loop [8,43] (fun nv jv=> ∃ (j N:Nat),j≤k∧jv= .int .i64 (j:Int)∧nv= .int .u64 (N:Int)∧Hid (N=fld.num (t.data.toList.take j))) (fun _ jv=>k- (intOf jv).toNat);case atStart=>exact⟨0,0,by omega,rfl,rfl,rfl⟩
   case round=>
    obtain⟨j,N,hj,rfl,rfl,hNe⟩:=hrel;by_cases hlt:j<k
    ·have hjt:j<t.size:=(by have:=HK.out;omega);have hc:=(HR.out j (by rw[kt.size_len];exact hjt)).1;rw[show t.data.toList[j]'(by rw[kt.size_len];exact hjt)=t[j]from rfl]at hc;have hb:=t[j].toNat_lt;go_wp2_with fail;go_round;case rel=>
      refine⟨j+1,256*N+t[j].toNat,by omega,by go_num,?_,?_⟩
      ·rw[fld.u64_shl_or N t[j].toNat (by rw[hNe.out];exact fld.num_small (by rw[List.length_take];omega)) hb]
      ·show _=_;rw[kt.take_snoc t j hjt,fld.num_snoc,←hNe.out,Nat.mul_comm]
     case measure=>simp[intOf];omega
    ·obtain rfl:j=k:=(by omega);go_wp2_with fail;go_ret2;exact⟨by rw[HP.out,hNe.out,List.take_of_length_le (by rw[kt.size_len];have:=HK.out;omega)];rfl,hB1⟩
def textV (s t:ByteArray):Value:=if 65535<t.size then .tuple #[.string ⟨#[]⟩,.int .i64 5]else .tuple #[.string ⟨(s.data.toList++(fld.be t.size 2++t.data.toList)).toArray⟩,.int .i64 0]
theorem put2 (n:Nat)(h:n≤65535):fld.put n 2=some (fld.be n 2):=by unfold fld.put;rw[if_neg (by omega),if_neg (by rw[show(2:Int).toNat=2 from rfl];omega)];rfl
theorem text_any (s t:ByteArray)(w:World)(hs:s.size≤1100000)(ht:t.size≤140737488351232):
  Calls Tryz.prog 127 #[.string s,.string t] w fun e w'=>e= .returned (textV s t)∧Below w.heap.size w w':=by
 by_cases h:65535<t.size
 ·have e1:textV s t= .tuple #[.string ⟨#[]⟩,.int .i64 5]:=by unfold textV;rw[if_pos h]
  have E1:=Lib.hid e1;clear e1;go_enter Tryz.func127,Tryz.ntmps127;go_wp2_with fail;go_ret2;exact⟨by rw[E1.out];rfl,Below.refl _ _⟩
 ·have e1:textV s t= .tuple #[.string ⟨(s.data.toList++(fld.be t.size 2++t.data.toList)).toArray⟩,.int .i64 0]:=by unfold textV;rw[if_neg h]
  have E1:=Lib.hid e1;clear e1;obtain⟨b,hb⟩: ∃b:ByteArray,Hid (b=⟨(s.data.toList++fld.be t.size 2).toArray⟩):=⟨_,rfl⟩;have hbs:b.size≤1100002:=by have:b.size=(s.data.toList++fld.be t.size 2).length:=(by rw[hb.out];rfl);rw[this,List.length_append,kt.size_len,fld.be_length];omega
  have C:Hid (Calls Tryz.prog 190 #[.string s,.int .u64 (t.size:Int),.int .i64 2] w fun e w'=>e= .returned (.tuple #[.string b,.int .i64 0])∧Below w.heap.size w w'):=by have h1:=put_any s t.size 2 w hs (by unfold U64;omega) (by omega) (by omega);rw[put2 t.size (by omega)]at h1;rw[hb.out];exact h1
  go_enter Tryz.func127,Tryz.ntmps127;go_wp2_with fail;refine C.out.mono ?_;rintro e w1 ⟨rfl,hB1⟩;go_wp2_with fail;go_ret2;exact⟨by rw[E1.out];refine congrArg Ending.returned ?_;show Value.tuple #[.string _,.int .i64 0]= .tuple #[.string _,.int .i64 0];rw[show b++t=⟨(s.data.toList++(fld.be t.size 2++t.data.toList)).toArray⟩from kt.str_eq (by rw[hb.out];simp)],hB1⟩
def ttV (o:Except Int (List UInt8 × Nat)):Value:=
 match o with
 | .error e=> .tuple #[.string ⟨#[]⟩,.int .i64 0,.int .i64 e]
 | .ok (l,p)=> .tuple #[.string ⟨l.toArray⟩,.int .i64 (p:Int),.int .i64 0]
theorem taketext_any (s:ByteArray)(at':Int)(w:World)(hs:s.size≤1100000)(h2: -9223372036854775808≤at')(h3:at'≤9223372036854775807):
  Calls Tryz.prog 125 #[.string s,.int .i64 at'] w fun e w'=>e= .returned (ttV (fld.takeT s.data.toList at'))∧Below w.heap.size w w':=by
 have C:=take_any s at' 2 w hs (by omega) (by omega) h2 h3;cases hT:fld.take s.data.toList at' 2 with
 | error er=>
  have e1:fld.takeT s.data.toList at'= .error er:=by unfold fld.takeT;rw[hT]
  have her:(er==0)=false∧(er !=0)=true:=by
   unfold fld.take at hT;split at hT
   ·cases hT;exact⟨rfl,rfl⟩
   ·split at hT
    ·cases hT;exact⟨rfl,rfl⟩
    ·cases hT
  obtain⟨her1,her2⟩:=her;rw[hT]at C;have C1:=Lib.hid C;have E1:=Lib.hid e1;clear C e1 hT;go_enter Tryz.func125,Tryz.ntmps125;go_wp2_with fail;refine C1.out.mono ?_;rintro e w1 ⟨he,hB1⟩;have he':e= .returned (.tuple #[.int .u64 0,.int .i64 er]):=he;clear he;subst he';go_wp2_with fail;go_ret3;exact⟨by rw[E1.out];rfl,hB1⟩
 | ok n=>
  have hn:n<65536∧0≤at'∧at'+2≤(s.size:Int):=by
   unfold fld.take at hT;split at hT
   ·cases hT
   ·rename_i h1;split at hT
    ·cases hT
    ·rename_i h5;cases hT;rw[kt.size_len]at h5;refine⟨?_,by omega,by omega⟩;exact fld.num_le (k:=2) (by rw[List.length_take];exact Nat.min_le_left _ _)
  obtain⟨hn1,hn2,hn3⟩:=hn;obtain⟨a,rfl⟩:=Int.eq_ofNat_of_zero_le hn2;rw[hT]at C;have C1:=Lib.hid C;clear C;by_cases hlong:s.size<a+2+n
  ·have e1:fld.takeT s.data.toList a= .error 3:=(by unfold fld.takeT;rw[hT];simp only[];rw[Int.toNat_natCast,kt.size_len,if_pos hlong]);have E1:=Lib.hid e1;clear e1 hT;have q1:(s.size:Int)- (a:Int)-2<(n:Int):=(by omega);go_enter Tryz.func125,Tryz.ntmps125;go_wp2_with fail;refine C1.out.mono ?_;rintro e w1 ⟨he,hB1⟩;have he':e= .returned (.tuple #[.int .u64 (n:Int),.int .i64 0]):=he;clear he;subst he';go_wp2_with fail;go_ret3;exact⟨by rw[E1.out];rfl,hB1⟩
  ·have e1:fld.takeT s.data.toList a= .ok ((s.data.toList.drop (a+2)).take n,a+2+n):=(by unfold fld.takeT;rw[hT];simp only[];rw[Int.toNat_natCast,kt.size_len,if_neg hlong]);have E1:=Lib.hid e1;clear e1 hT;have q1: ¬ (s.size:Int)- (a:Int)-2<(n:Int):=(by omega);have q2:((a:Int)+2+(n:Int)).toNat=a+2+n:=(by omega);have q3:((a:Int)+2).toNat=a+2:=(by omega);have q4:(a:Int)+2+(n:Int)≤(s.size:Int):=(by omega);go_enter Tryz.func125,Tryz.ntmps125;go_wp2_with fail;refine C1.out.mono ?_;rintro e w1 ⟨he,hB1⟩;have he':e= .returned (.tuple #[.int .u64 (n:Int),.int .i64 0]):=he;clear he;subst he';go_wp2_with fail;go_ret3;exact⟨by rw[E1.out];refine congrArg Ending.returned ?_;show Value.tuple #[.string _,.int .i64 _,.int .i64 0]= .tuple #[.string _,.int .i64 _,.int .i64 0];rw[show s.extract (a+2) (a+2+n)=⟨((s.data.toList.drop (a+2)).take n).toArray⟩from kt.str_eq (by rw[Lib.extract_data];simp)];rfl,hB1⟩
end fldw
end Go.Proofs.YtmnpfkbjpeaemaaGreatDoor
