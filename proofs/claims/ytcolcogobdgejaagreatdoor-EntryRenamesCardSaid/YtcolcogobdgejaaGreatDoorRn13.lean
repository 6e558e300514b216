/- One text out of several: BdW, ResW, AddW, NamedW, EAwakW, ELongW, ResX, RenP, DelT. -/
import Derived.Test.YtcolcogobdgejaaGreatDoorRn9
import Derived.Test.YtcolcogobdgejaaGreatDoorRn11
import Derived.Test.YtcolcogobdgejaaGreatDoorRn12
import Derived.Test.YtcolcogobdgejaaGreatDoorRn1
import Derived.Test.YtcolcogobdgejaaGreatDoorRn5
import Derived.Test.YtcolcogobdgejaaGreatDoorRn10
set_option linter.unusedVariables false
set_option linter.unusedSimpArgs false
set_option maxRecDepth 100000
set_option maxHeartbeats 8000000
namespace Go.Proofs.YtcolcogobdgejaaGreatDoor
open Go.RowKit
namespace etw
open atp atw etp
open dnw (Av Avas)
structure Bk (k:Nat)(e:En):Prop where
 rl:e.rdn.length≤1000
 rs: ∀a∈e.rdn,a.t.size≤1000∧a.v.size≤1200
 al:e.ats.length≤k
 as_: ∀a∈e.ats,a.t.size≤1000∧a.vs.length≤50∧ ∀v∈a.vs,v.size≤1200
theorem bk_bd {k:Nat}{e:En}(h:Bk k e)(hk:k≤100000):Bd e:=⟨by have:=h.rl;omega,fun a ha=>by have:=h.rs a ha;omega,by have:=h.al;omega,fun a ha=>by have:=h.as_ a ha;exact⟨by omega,by omega,fun v hv=>by have:=this.2.2 v hv;omega⟩⟩
theorem bk_le {k m:Nat}{e:En}(h:Bk k e)(hk:k≤m):Bk m e:=⟨h.rl,h.rs,Nat.le_trans h.al hk,h.as_⟩
theorem withF_mem {n:ByteArray}{l:List ByteArray}: ∀ {L:List At} {d:Bool} {a:At},a∈withF n l d L→a∈L∨a=⟨n,l⟩
 | [],d,a,h=>by
  unfold withF at h;split at h
  ·cases h
  ·rw[List.mem_singleton]at h;exact Or.inr h
 | b::r,d,a,h=>by
  unfold withF at h;simp only[List.mem_append]at h;rcases h with(h | h) | h
  ·split at h
   ·rw[List.mem_singleton]at h;exact Or.inr h
   ·cases h
  ·split at h
   ·cases h
   ·rw[List.mem_singleton]at h;rw[h];exact Or.inl (by simp)
  ·rcases withF_mem h with h | h
   ·exact Or.inl (by simp[h])
   ·exact Or.inr h
theorem withF_len {n:ByteArray}{l:List ByteArray}: ∀ (L:List At) (d:Bool),(withF n l d L).length≤L.length+(if d then 0 else 1)
 | [],d=>by unfold withF;cases d<;>simp
 | b::r,d=>by
  unfold withF;have h:=withF_len (n:=n) (l:=l) r (d||(!d&& !ltB b.t n));simp only[List.length_append,List.length_cons];generalize ltB b.t n=x at h ⊢;have h2:(if b.t=n then([]:List At)else[b]).length≤1:=by split<;>simp
  generalize(if b.t=n then([]:List At)else[b]).length=y at h2 ⊢;cases d<;>cases x<;>simp at h ⊢ <;>omega
theorem bk_with {k:Nat}{e:En}{n:ByteArray}{l:List ByteArray}(h:Bk k e)(hn:n.size≤1000)(hl:l.length≤50)(hv: ∀v∈l,v.size≤1200):Bk (k+1) (withE e n l):=by
 refine⟨h.rl,h.rs,?_,fun a ha=> ?_⟩
 ·have h1:=withF_len (n:=n) (l:=l) e.ats (decide (l=[]));have h2:=h.al;show(withF n l (decide (l=[])) e.ats).length≤k+1;split at h1<;>omega
 ·rcases withF_mem ha with ha | ha
  ·exact h.as_ a ha
  ·rw[ha];exact⟨hn,hl,hv⟩
theorem bk_vals {k:Nat}{e:En}(h:Bk k e)(n:ByteArray):(valsA e.ats n).length≤50∧ ∀v∈valsA e.ats n,v.size≤1200:=by
 unfold valsA;cases hf:e.ats.find? fun a=>decide (a.t=n)with
 | none=>exact⟨by simp,by simp⟩
 | some a=>exact(h.as_ a (List.mem_of_find?_eq_some hf)).2
theorem ty_size: ∀j:Fin 20,(tys[j.val]'(j.isLt)).name.length≤1000:=by decide+kernel
theorem name_size {n:List UInt8}{ty:Ty}(h:findS n=some ty):(bs ty.name).size≤1000:=by obtain⟨i,hi,e⟩:=List.mem_iff_getElem.1 (findS_some h).1;rw[bs_size,←e];exact ty_size ⟨i,hi⟩
theorem drop_sub {syn:Int}: ∀ {l p q:List ByteArray},dropF syn p l=some q→q.length≤p.length∧ ∀v∈q,v∈p
 | [],p,q,h=>by cases h;exact⟨Nat.le_refl _,fun v h=>h⟩
 | v::r,p,q,h=>by
  unfold dropF at h;split at h
  ·cases h
  ·rename_i k hk;obtain⟨h1,h2⟩:=drop_sub h;refine⟨?_,fun u hu=> ?_⟩
   ·rw[List.length_append,List.length_take,List.length_drop]at h1;omega
   ·rcases List.mem_append.1 (h2 u hu)with h3 | h3
    ·exact List.mem_of_mem_take h3
    ·exact List.mem_of_mem_drop h3
theorem bk_add {k:Nat}{e a:En}{n:List UInt8}{l:List ByteArray}(h:Bk k e)(hl: ∀v∈l,v.size≤1200)(ha:addE e n l= .ok a):Bk (k+1) a:=by
 obtain⟨ty,h1,h2,h3,h4,h5,h6,rfl⟩:=add_ok ha;have hm:mostT ty.single≤20:=by unfold mostT;split<;>omega
 refine bk_with h (name_size h2) (by omega) fun v hv=> ?_;rcases List.mem_append.1 hv with hv | hv
 ·exact(bk_vals h _).2 v hv
 ·exact hl v hv
theorem bk_remove {k:Nat}{e a:En}{n:List UInt8}{l:List ByteArray}(h:Bk k e)(ha:removeE e n l= .ok a):Bk (k+1) a:=by
 unfold removeE at ha;cases hf:findE e n with
 | error f=>rw[hf]at ha;cases ha
 | ok ty=>
  rw[hf]at ha;obtain⟨h1,h2⟩:=findE_ok hf;simp only at ha;split at ha
  ·cases ha
  ·split at ha
   ·cases ha
   ·cases hd:dropF ty.syn (valsA e.ats (bs ty.name)) l with
    | none=>rw[hd]at ha;cases ha
    | some q=>
     rw[hd]at ha;simp only at ha;cases ha;obtain⟨d1,d2⟩:=drop_sub hd;have hv:=bk_vals h (bs ty.name);refine bk_with h (name_size h2) ?_ fun v hvm=> ?_
     ·split
      ·simp
      ·omega
     ·split at hvm
      ·cases hvm
      ·exact hv.2 v (d2 v hvm)
end etw
open Go.RowKit
namespace etw
open atp atw etp
open dnw (Av Avas)
open tupw (Strs strs_below)
theorem entV_set {w:World}{v:Value}{E:En}{p:Nat}{r a:Value}(h:EntV w v E)(hp:EntB w p r a)(hr:NoS r)(ha:NoS a)(j:Nat)(u:Value):EntV (w.setCell ⟨p,j,none⟩ u) v E:=by
 obtain⟨ro,rc,ao,ac,h1,h2,h3,h4,h5⟩:=h;refine⟨ro,rc,ao,ac,h1,h2,h3,avas_set h4 hp hr ha j u,fun i hi=> ?_⟩;obtain⟨b,o,x,c,e,q0,q1,q2,q3⟩:=h5 i hi;have hb:b≠p:=by rintro rfl;exact entB_str hp hr ha _ _ q0
 refine⟨b,o,x,c,e,?_,?_,q2,strs_set q3 hp hr ha j u⟩
 ·rw[World.cell?_setCell_other _ _ _ _ (by intro e2;injection e2 with e3 _ _;exact hb e3.symm),q0]
 ·rw[World.cell?_setCell_other _ _ _ _ (by intro e2;injection e2 with e3 _ _;exact hb e3.symm),q1]
def ResE (r:Except Int En)(w:World)(e:Ending)(w':World):Prop:=Below w.heap.size w w'∧match r with
 | .ok E=> ∃v,e= .returned (.tuple #[v,.int .i64 0])∧EntV w' v E
 | .error f=>e= .returned (.tuple #[.agg #[.slice none 0 0,.slice none 0 0],.int .i64 f])
theorem join_step {syn:Int}{all l:List ByteArray}{i:Nat}(h:i<l.length):joinF syn all (l.drop i)=if likeI syn all l[i]<0 then joinF syn (all++[l[i]]) (l.drop (i+1))else none:=by rw[List.drop_eq_getElem_cons h];rfl
theorem ent_agg {w:World}{v:Value}{E:En}(h:EntV w v E): ∃r1 n1 c1 r2 n2 c2,v= .agg #[.slice r1 n1 c1,.slice r2 n2 c2]:=by obtain⟨ro,rc,ao,ac,rfl,_⟩:=h;exact⟨_,_,_,_,_,_,rfl⟩
theorem find_err {E:En}{n:List UInt8}{f:Int}(h:findE E n= .error f):f≠0:=by
 unfold findE at h;split at h
 ·cases h;decide
 ·split at h
  ·cases h;decide
  ·cases h
end etw
open Go.RowKit
namespace etw
open atp atw etp
open dnw (Av Avas)
open tupw (Strs strs_below)
theorem add_any (v:Value)(E:En)(n:ByteArray)(bo:Option Addr)(bcap:Nat)(l:List ByteArray)(w:World)(hv:Hid (EntV w v E))(hb:Hid (Bk 1000 E))(hS:Hid (Strs w bo l))(hl:l.length≤50)(hlc:l.length≤bcap)(hls:Hid (∀x∈l,x.size≤1200))(hn:n.size≤1000)(hE:Hid (EnvE w)):
  Calls Tryz.prog 24 #[v,.string n,.slice bo l.length bcap] w fun e w'=>ResE (addE E n.data.toList l) w e w':=by
 have HBD:=Lib.hid (bk_bd hb.out (by omega));have HFI0:Hid (∀W,Below w.heap.size w W→Calls Tryz.prog 75 #[v,.string n] W fun e w'=>FindR (findE E n.data.toList) e∧Below W.heap.size W w'):=fun W h=>finde_any v E n W (Lib.hid (entV_below hv.out h)) HBD (by omega) (Lib.hid (envE_below hE.out h));have HFA0:Hid (∀nm syn sg W,Below w.heap.size w W→Calls Tryz.prog 76 #[.agg #[.string nm,.int .i64 syn,.bool sg],.slice bo l.length bcap] W fun e w'=>e= .returned (.int .i64 (faultI syn l))∧Below W.heap.size W w'):=fun nm syn sg W h=>fault_any nm syn sg bo bcap l W (Lib.hid (strs_below hS.out h)) (by omega) (Lib.hid fun x hx=>by have:=hls.out x hx;omega) (Lib.hid (envE_below hE.out h));have HVA0:Hid (∀m W,Below w.heap.size w W→Calls Tryz.prog 72 #[v,.string m] W fun e w'=>ValsE (valsA E.ats m) W e w'):=fun m W h=>vals_any v E m W (Lib.hid (entV_below hv.out h)) HBD;have HWI0:Hid (∀m o c (all:List ByteArray) W,Below w.heap.size w W→Strs W o all→all.length≤1000→all.length≤c→Calls Tryz.prog 78 #[v,.string m,.slice o all.length c] W fun e w'=>EntE (withE E m all) W e w'):=fun m o c all W h hs h1 h2=>with_any v E m o c all W (Lib.hid (entV_below hv.out h)) HBD (Lib.hid hs) (by omega) h2;have HLK0:Hid (∀nm syn sg o c k (all:List ByteArray) x W,Hid (k=all.length)→Strs W o all→k≤1000→(∀y∈all,y.size≤1200)→x.size≤1200→EnvE W→Calls Tryz.prog 73 #[.agg #[.string nm,.int .i64 syn,.bool sg],.slice o k c,.string x] W fun e w'=>e= .returned (.int .i64 (likeI syn all x))∧Below W.heap.size W w'):=by intro nm syn sg o c k all x W hk hs h1 h2 h3 he;have:=like_any nm syn sg o c all x W (Lib.hid hs) (by rw[←hk.out];omega) (Lib.hid fun y hy=>by have:=h2 y hy;omega) (by omega) (Lib.hid he);rw[←hk.out]at this;exact this
 have HVL:=Lib.hid (bk_vals hb.out);have HRES:Hid (addE E n.data.toList l=match findE E n.data.toList with
  | .error f=> .error f
  | .ok ty=>if l=[]then .error 1 else if faultI ty.syn l≠0 then .error (faultI ty.syn l)else match joinF ty.syn (valsA E.ats (bs ty.name)) l with
   | none=> .error 8
   | some all=>if mostT ty.single<all.length then .error 9 else .ok (withE E (bs ty.name) all)):=rfl
 obtain⟨RR,hRR⟩: ∃r,addE E n.data.toList l=r:=⟨_,rfl⟩;rw[hRR]at HRES ⊢;have HR:=Lib.hid HRES.out.symm;clear HRES hRR;obtain⟨ro,rc,ao,ac,Nr,N,rfl,HN,HA,hac,HNr,HAv,hrc⟩:=ent_form hv.out;obtain⟨W1,hW1⟩: ∃W,w.alloc (.cells #[.slice ro Nr rc,.slice ao N ac] 25)=W:=⟨_,rfl⟩;have hB1:Below w.heap.size w W1:=by rw[←hW1];exact(Below.refl _ _).alloc (Nat.le_refl _) _
 have hT1:EntB W1 w.heap.size (.slice ro Nr rc) (.slice ao N ac):=by rw[←hW1];exact entB_new _ _ _
 obtain⟨W2,hW2⟩: ∃W,W1.alloc (.cells #[.slice none 0 0,.slice none 0 0] 25)=W:=⟨_,rfl⟩;have hB2:Below W1.heap.size W1 W2:=by rw[←hW2];exact(Below.refl _ _).alloc (Nat.le_refl _) _
 obtain⟨q,hqq⟩: ∃q,W1.heap.size=q:=⟨_,rfl⟩;have hqw:w.heap.size≤q:=by rw[←hqq];exact hB1.size
 have hQ2:EntB W2 q (.slice none 0 0) (.slice none 0 0):=by rw[←hW2,←hqq];exact entB_new _ _ _
 have HB2:=Lib.hid (hB1.trans (hB2.mono hB1.size));have HT2:=Lib.hid (entB_below hT1 hB2);have HQ2:=Lib.hid hQ2;obtain⟨k0,k1⟩:=entB_cells HT2.out;have hz2:=HB2.out.size;clear hB1 hB2 hT1 hQ2 hv;have HFI:=Lib.hid (HFI0.out W2 HB2.out);clear HFI0;have HKL:Hid (l=[]↔l.length=0):=List.length_eq_zero_iff.symm;obtain⟨K,hK⟩: ∃K,l.length=K:=⟨_,rfl⟩;rw[hK]at HFA0 HKL hl hlc ⊢;have HK:=Lib.hid hK;clear hK;go_enter Tryz.func24,Tryz.ntmps24;go_wp2_with fail;refine HFI.out.mono ?_;rintro e w3 ⟨hfr,hB3⟩;have HB3:=Lib.hid (HB2.out.trans (hB3.mono hz2));have HT3:=Lib.hid (entB_below HT2.out hB3);have HQ3:=Lib.hid (entB_below HQ2.out hB3);clear hB3 k0 k1 hW1 hW2 HFI hqq;cases hfe:findE E n.data.toList with
 | error f=>
  rw[hfe]at hfr HR;have hfr2:e= .returned (.tuple #[.agg #[.string ⟨#[]⟩,.int .i64 0,.bool false],.int .i64 f]):=hfr;have hf0:f≠0:=find_err hfe;have qf:(f !=0)=true:=by rw[bne_iff_ne];exact hf0
  subst hfr2;clear hfr hfe hf0;have hB4:Below w3.heap.size w3 (w3.alloc (.cells #[.string ⟨#[]⟩,.int .i64 0,.bool false] 29)):=(Below.refl _ _).alloc (Nat.le_refl _) _;have HBX:=Lib.hid (HB3.out.trans (hB4.mono HB3.out.size));have HQ:=Lib.hid (entB_below HQ3.out hB4);clear hB4;obtain⟨v0,v1⟩:=entB_cells HQ.out;have f0:=Lib.frozen_of_heap HQ.out 0;have f1:=Lib.frozen_of_heap HQ.out 1;have hq1:=entB_set0 HQ.out (.slice none 0 0);have hq2:=entB_set1 hq1 (.slice none 0 0);have HQC:=Lib.hid (entB_cells hq2);have HBF:=Lib.hid ((HBX.out.setCell (p:=⟨q,0,none⟩) hqw (.slice none 0 0)).setCell (p:=⟨q,1,none⟩) hqw (.slice none 0 0));clear hq1 hq2;go_wp2_with fail;obtain⟨r0,r1⟩:=HQC.out;refine bodyPost_ret (v:= .tuple #[.agg #[.slice none 0 0,.slice none 0 0],.int .i64 f]) (by rw[results_cell_tmp rfl];go_simp) rfl ?_;exact⟨HBF.out,(by rw[←HR.out])⟩
 | ok ty=>
  rw[hfe]at hfr HR;have hfr2:e= .returned (.tuple #[.agg #[.string (bs ty.name),.int .i64 ty.syn,.bool ty.single],.int .i64 0]):=hfr;subst hfr2;clear hfr;simp only at HR;have HNS:Hid ((bs ty.name).size≤1000):=name_size (findE_ok hfe).2;clear hfe;have HMO:Hid (∀nm W,Calls Tryz.prog 77 #[.agg #[.string nm,.int .i64 ty.syn,.bool ty.single]] W fun e w'=>e= .returned (.int .i64 (mostT ty.single:Int))∧Below W.heap.size W w'):=fun nm W=>room_any nm ty.syn ty.single W;have hm20:mostT ty.single≤20:=by unfold mostT;split<;>omega
  generalize bs ty.name=nm at HNS HR;generalize ty.syn=syn at HMO HR;generalize ty.single=sg at HMO hm20 HR;generalize mostT sg=MX at HMO hm20 HR;obtain⟨w4,hw4⟩: ∃W,w3.alloc (.cells #[.string nm,.int .i64 syn,.bool sg] 29)=W:=⟨_,rfl⟩;have hB4:Below w3.heap.size w3 w4:=by rw[←hw4];exact(Below.refl _ _).alloc (Nat.le_refl _) _
  obtain⟨tb,htb⟩: ∃tb,w3.heap.size=tb:=⟨_,rfl⟩;have HY4:Hid (TB w4 tb nm syn sg):=by rw[←hw4,←htb];exact tb_new _ _ _ _
  have HB4:=Lib.hid (HB3.out.trans (hB4.mono HB3.out.size));have HT4:=Lib.hid (entB_below HT3.out hB4);have HQ4:=Lib.hid (entB_below HQ3.out hB4);obtain⟨y0,y1,y2⟩:=tb_cells HY4.out;clear hB4;by_cases hK0:K=0
  ·have hl0:=HKL.out.2 hK0;have dk:((K:Int)==0)=true:=(by rw[beq_iff_eq];omega);rw[if_pos hl0]at HR;clear hl0;have HBX:=HB4;have HQ:=HQ4;clear hK0;obtain⟨v0,v1⟩:=entB_cells HQ.out;have f0:=Lib.frozen_of_heap HQ.out 0;have f1:=Lib.frozen_of_heap HQ.out 1;have hq1:=entB_set0 HQ.out (.slice none 0 0);have hq2:=entB_set1 hq1 (.slice none 0 0);have HQC:=Lib.hid (entB_cells hq2);have HBF:=Lib.hid ((HBX.out.setCell (p:=⟨q,0,none⟩) hqw (.slice none 0 0)).setCell (p:=⟨q,1,none⟩) hqw (.slice none 0 0));clear hq1 hq2;go_wp2_with fail;obtain⟨r0,r1⟩:=HQC.out;refine bodyPost_ret (v:= .tuple #[.agg #[.slice none 0 0,.slice none 0 0],.int .i64 1]) (by rw[results_cell_tmp rfl];go_simp) rfl ?_;exact⟨HBF.out,(by rw[←HR.out])⟩
  ·have dk:((K:Int)==0)=false:=(by rw[beq_eq_false_iff_ne];omega);rw[if_neg (fun h=>hK0 (HKL.out.1 h))]at HR;have hKp:0<K:=(by omega);clear hK0;have HFA:=Lib.hid (HFA0.out nm syn sg w4 HB4.out);clear HFA0;generalize faultI syn l=fa at HFA HR;go_wp2_with fail;refine HFA.out.mono ?_;rintro e w5 ⟨rfl,hB5⟩;have HB5:=Lib.hid (HB4.out.trans (hB5.mono HB4.out.size));have HT5:=Lib.hid (entB_below HT4.out hB5);have HQ5:=Lib.hid (entB_below HQ4.out hB5);have HY5:=Lib.hid (tb_below HY4.out hB5);clear hB5 y0 y1 y2 hw4 htb;by_cases hfa:fa=0
   ·have qa:(fa !=0)=false:=(by rw[bne_eq_false_iff_eq];exact hfa);rw[if_neg (not_not_intro hfa)]at HR;clear hfa;have HVA:=Lib.hid (HVA0.out nm w5 HB5.out);have HV1:=HVL.out nm;have hvl1:=HV1.1;have HV2:=Lib.hid HV1.2;clear HVA0 HVL HV1;obtain⟨e0,e1⟩:=entB_cells HT5.out;obtain⟨y0,y1,y2⟩:=tb_cells HY5.out;have HWI:Hid (∀o c (all:List ByteArray) W,Below w.heap.size w W→Strs W o all→all.length≤1000→all.length≤c→Calls Tryz.prog 78 #[.agg #[.slice ro Nr rc,.slice ao N ac],.string nm,.slice o all.length c] W fun e w'=>EntE (withE E nm all) W e w'):=fun o c all W=>HWI0.out nm o c all W;clear HWI0;generalize valsA E.ats nm=p0 at HVA HV2 hvl1 HR;go_wp2_with fail;refine HVA.out.mono ?_;rintro e w6 ⟨x6,rfl,hx6,hB6⟩;have HCL:=Lib.hid (clone_any x6 p0 w6 hx6 (by omega));have HB6:=Lib.hid (HB5.out.trans (hB6.mono HB5.out.size));have HT6:=Lib.hid (entB_below HT5.out hB6);have HQ6:=Lib.hid (entB_below HQ5.out hB6);have HY6:=Lib.hid (tb_below HY5.out hB6);clear hx6 hB6 e0 e1 y0 y1 y2;go_wp2_with fail;refine HCL.out.mono ?_;rintro e w7 ⟨x7,rfl,ho7,hB7⟩;have HO7:=Lib.hid ho7;obtain⟨a7,n7,c7,rfl,hn7⟩:=dnw.ownT_form ho7;have HB67:=Lib.hid hB7;clear ho7 hB7 HCL;go_wp2_with fail;go_loopw [11,44] (fun av iv wr=> ∃ (i:Nat) (all:List ByteArray),i≤K∧iv= .int .i64 (i:Int)∧Hid (prw.OwnT wr w6.heap.size av all)∧Hid (Below w6.heap.size w6 wr)∧Hid (joinF syn p0 l=joinF syn all (l.drop i))∧Hid (all.length≤100+i)∧Hid (∀y∈all,y.size≤1200)) (fun _ iv _=>K- (intOf iv).toNat);case atStart=>exact⟨0,p0,Nat.zero_le _,rfl,HO7.out,HB67.out,rfl,(by show _≤_;omega),HV2.out⟩
    case round=>
     obtain⟨i,all,hi,rfl,hO,hBr,hJ,hLN,hSZ⟩:=hrel;obtain⟨aR,nR,cR,rfl,hnR⟩:=dnw.ownT_form hO.out;have hszr:=hBr.out.size;have HBr:=Lib.hid (HB6.out.trans (hBr.out.mono HB6.out.size));have HTr:=Lib.hid (entB_below HT6.out hBr.out);have HQr:=Lib.hid (entB_below HQ6.out hBr.out);have HYr:=Lib.hid (tb_below HY6.out hBr.out);obtain⟨y0,y1,y2⟩:=tb_cells HYr.out;have hnR100:nR≤200:=(by rw[hnR.out];have:=hLN.out;omega);by_cases hlt:i<K
     ·have hltI:(i:Int)<(K:Int):=(by omega);have hil:i<l.length:=(by rw[HK.out];exact hlt);obtain⟨b,o,hbo,hc0⟩:=(strs_below hS.out HBr.out) i hil;subst hbo;have HST:=Lib.hid (join_step (syn:=syn) (all:=all) hil);have hxs:=hls.out l[i] (List.getElem_mem _);obtain⟨x,hx⟩: ∃x,l[i]=x:=⟨_,rfl⟩;rw[hx]at hc0 HST hxs;clear hx;have HLK:=Lib.hid (HLK0.out nm syn sg aR cR nR all x wr hnR (by obtain⟨g1,g2,g3,g4⟩:=elem_form (own_elem hO.out);simp only[Value.slice.injEq]at g4;obtain⟨⟨rfl,rfl,rfl⟩,_,_,g5⟩:=g4;exact g5) (by omega) hSZ.out hxs (envE_below hE.out HBr.out));generalize hlk:likeI syn all x=lk at HLK HST;clear hlk;by_cases hneg:lk<0
      ·have q2:decide ((0:Int)≤lk)=false:=decide_eq_false (by omega);have HJ:Hid (joinF syn p0 l=joinF syn (all++[x]) (l.drop (i+1))):=(by show _=_;rw[hJ.out,HST.out,if_pos hneg]);clear hneg HST;go_wp2_with fail;refine HLK.out.mono ?_;rintro e w8 ⟨rfl,hB8⟩;have hBr8:=hBr.out.trans (hB8.mono hszr);obtain⟨a9,m9,c9,w9,hap,hO9,_,hB9⟩:=dnw.ownT_appG x (dnw.ownT_below hO.out hB8) (by have:=hLN.out;omega) hBr8.size;have HO9:=Lib.hid hO9;have HB9:=Lib.hid (hBr8.trans hB9);have HLN9:Hid ((all++[x]).length≤100+(i+1)):=(by show _≤_;rw[List.length_append];have:=hLN.out;simp only[List.length_cons,List.length_nil];omega);have HSZ9:Hid (∀y∈all++[x],y.size≤1200):=fun y hy=>by
        rcases List.mem_append.1 hy with hy | hy
        ·exact hSZ.out y hy
        ·rw[List.mem_singleton]at hy;rw[hy];exact hxs
       clear hO9 hB9 hBr8 hB8 y0 y1 y2 hc0;go_wp2_with (at_builtin;refine Lib.wpList_append_run _ rfl _ _ _ _ rfl _ _ rfl rfl _ _ hap ?_);go_roundw;case rel=>exact⟨i+1,all++[x],by omega,by go_num,HO9.out,HB9,HJ,HLN9,HSZ9⟩
       case measure=>simp[intOf];omega
      ·have q2:decide ((0:Int)≤lk)=true:=decide_eq_true (by omega);have HJ:Hid (joinF syn p0 l=none):=(by show _=_;rw[hJ.out,HST.out,if_neg hneg]);rw[HJ.out]at HR;clear hneg HST HJ;simp only at HR;go_wp2_with fail;refine HLK.out.mono ?_;rintro e w8 ⟨rfl,hB8⟩;have HBX:=Lib.hid (HBr.out.trans (hB8.mono HBr.out.size));have HQ:=Lib.hid (entB_below HQr.out hB8);clear hB8 y0 y1 y2 hc0;obtain⟨v0,v1⟩:=entB_cells HQ.out;have f0:=Lib.frozen_of_heap HQ.out 0;have f1:=Lib.frozen_of_heap HQ.out 1;have hq1:=entB_set0 HQ.out (.slice none 0 0);have hq2:=entB_set1 hq1 (.slice none 0 0);have HQC:=Lib.hid (entB_cells hq2);have HBF:=Lib.hid ((HBX.out.setCell (p:=⟨q,0,none⟩) hqw (.slice none 0 0)).setCell (p:=⟨q,1,none⟩) hqw (.slice none 0 0));clear hq1 hq2;go_wp2_with fail;obtain⟨r0,r1⟩:=HQC.out;refine bodyPost_ret (v:= .tuple #[.agg #[.slice none 0 0,.slice none 0 0],.int .i64 8]) (by rw[results_cell_tmp rfl];go_simp) rfl ?_;exact⟨HBF.out,(by rw[←HR.out])⟩
     ·obtain rfl:K=i:=(by omega);have HJ:Hid (joinF syn p0 l=some all):=(by show _=_;rw[hJ.out,←HK.out,List.drop_length];rfl);rw[HJ.out]at HR;simp only at HR;rw[←hnR.out]at HR;clear HJ;by_cases hmx:MX<nR
      ·have q3:decide (MX<nR)=true:=decide_eq_true hmx;rw[if_pos hmx]at HR;clear hmx;go_wp2_with fail;refine(HMO.out _ _).mono ?_;rintro e w8 ⟨rfl,hB8⟩;have HBX:=Lib.hid (HBr.out.trans (hB8.mono HBr.out.size));have HQ:=Lib.hid (entB_below HQr.out hB8);clear hB8 y0 y1 y2;obtain⟨v0,v1⟩:=entB_cells HQ.out;have f0:=Lib.frozen_of_heap HQ.out 0;have f1:=Lib.frozen_of_heap HQ.out 1;have hq1:=entB_set0 HQ.out (.slice none 0 0);have hq2:=entB_set1 hq1 (.slice none 0 0);have HQC:=Lib.hid (entB_cells hq2);have HBF:=Lib.hid ((HBX.out.setCell (p:=⟨q,0,none⟩) hqw (.slice none 0 0)).setCell (p:=⟨q,1,none⟩) hqw (.slice none 0 0));clear hq1 hq2;go_wp2_with fail;obtain⟨r0,r1⟩:=HQC.out;refine bodyPost_ret (v:= .tuple #[.agg #[.slice none 0 0,.slice none 0 0],.int .i64 9]) (by rw[results_cell_tmp rfl];go_simp) rfl ?_;exact⟨HBF.out,(by rw[←HR.out])⟩
      ·have q3:decide (MX<nR)=false:=decide_eq_false hmx;rw[if_neg hmx]at HR;go_wp2_with fail;refine(HMO.out _ _).mono ?_;rintro e w8 ⟨rfl,hB8⟩;have HB8:=Lib.hid (HBr.out.trans (hB8.mono HBr.out.size));obtain⟨e0,e1⟩:=entB_cells (entB_below HTr.out hB8);have HQ8:=Lib.hid (entB_below HQr.out hB8);have hz8:=(tb_cells (tb_below HYr.out hB8)).1;obtain⟨g1,g2,g3,g4⟩:=elem_form (elem_below (own_elem hO.out) hB8);simp only[Value.slice.injEq]at g4;obtain⟨⟨rfl,rfl,rfl⟩,g5,g6,g7⟩:=g4;have HWC0:=HWI.out aR cR all w8 HB8.out g7 (by rw[←g5.out];omega) (by rw[←g5.out];exact g6);rw[←g5.out]at HWC0;have HWC:=Lib.hid HWC0;clear hB8 y0 y1 y2 g5 g6 g7 HWC0 hmx;go_wp2_with fail;refine HWC.out.mono ?_;rintro e w9 ⟨v9,rfl,hv9,hB9⟩;obtain⟨r1,n1,c1,r2,n2,c2,rfl⟩:=ent_agg hv9;have HV:=Lib.hid hv9;have HBX:=Lib.hid (HB8.out.trans (hB9.mono HB8.out.size));have HQ:=Lib.hid (entB_below HQ8.out hB9);clear hv9 hB9 e0 e1 hz8;obtain⟨v0,v1⟩:=entB_cells HQ.out;have f0:=Lib.frozen_of_heap HQ.out 0;have f1:=Lib.frozen_of_heap HQ.out 1;have hq1:=entB_set0 HQ.out (.slice r1 n1 c1);have hq2:=entB_set1 hq1 (.slice r2 n2 c2);have HQC:=Lib.hid (entB_cells hq2);have HBF:=Lib.hid ((HBX.out.setCell (p:=⟨q,0,none⟩) hqw (.slice r1 n1 c1)).setCell (p:=⟨q,1,none⟩) hqw (.slice r2 n2 c2));have HVF:=Lib.hid (entV_set (entV_set HV.out HQ.out (noS_slice _ _ _) (noS_slice _ _ _) 0 (.slice r1 n1 c1)) hq1 (noS_slice _ _ _) (noS_slice _ _ _) 1 (.slice r2 n2 c2));clear hq1 hq2;go_wp2_with fail;obtain⟨r0,r1'⟩:=HQC.out;refine bodyPost_ret (v:= .tuple #[.agg #[.slice r1 n1 c1,.slice r2 n2 c2],.int .i64 0]) (by rw[results_cell_tmp rfl];go_simp) rfl ?_;exact⟨HBF.out,(by rw[←HR.out];exact⟨_,rfl,HVF.out⟩)⟩
   ·have qa:(fa !=0)=true:=(by rw[bne_iff_ne];exact hfa);rw[if_pos hfa]at HR;have HBX:=HB5;have HQ:=HQ5;clear hfa;obtain⟨v0,v1⟩:=entB_cells HQ.out;have f0:=Lib.frozen_of_heap HQ.out 0;have f1:=Lib.frozen_of_heap HQ.out 1;have hq1:=entB_set0 HQ.out (.slice none 0 0);have hq2:=entB_set1 hq1 (.slice none 0 0);have HQC:=Lib.hid (entB_cells hq2);have HBF:=Lib.hid ((HBX.out.setCell (p:=⟨q,0,none⟩) hqw (.slice none 0 0)).setCell (p:=⟨q,1,none⟩) hqw (.slice none 0 0));clear hq1 hq2;go_wp2_with fail;obtain⟨r0,r1⟩:=HQC.out;refine bodyPost_ret (v:= .tuple #[.agg #[.slice none 0 0,.slice none 0 0],.int .i64 fa]) (by rw[results_cell_tmp rfl];go_simp) rfl ?_;exact⟨HBF.out,(by rw[←HR.out])⟩
end etw
open Go.RowKit
namespace etw
open atp atw etp
open dnw (Av Avas)
open tupw (Strs strs_below)
theorem like_nil (syn:Int)(v:ByteArray):likeI syn [] v= -1:=rfl
theorem vals_not {L:List At}{n:ByteArray}(h:atsF none L=true)(hn:tyOf n=none):valsA L n=[]:=by refine find_no fun a ha e=> ?_;have:=((atsF_iff L none).1 h).1 a ha;unfold atOK at this;rw[e,hn]at this;cases this
theorem named_step {L:List At}{a:Av}{ty:Ty}(h:atsF none L=true)(hf:findS (sml.lowL a.t.data.toList)=some ty):namedA L a=decide (0≤likeI ty.syn (valsA L a.t) a.v):=by
 have hn:=find_name hf;unfold namedA;show(match tyOf a.t with
  | none=>false
  | some ty=>decide (0≤likeI ty.syn (valsA L a.t) a.v))=_
 by_cases e:bs ty.name=a.t
 ·rw[if_pos e]at hn;rw[hn]
 ·rw[if_neg e]at hn;rw[hn,vals_not h hn,like_nil];rfl
theorem named_none {L:List At}{a:Av}(hf:findS (sml.lowL a.t.data.toList)=none):namedA L a=false:=by unfold namedA;have:=find_none hf;unfold tyOf at this;rw[this]
theorem all_step {α:Type}{f:α→Bool}{l:List α}{i:Nat}(h:i<l.length):(l.drop i).all f=(f l[i]&&(l.drop (i+1)).all f):=by rw[List.drop_eq_getElem_cons h,List.all_cons]
def AvaB (w:World)(p:Nat)(t v:ByteArray):Prop:=w.heap[p]? =some (.cells #[.string t,.string v] 62 (0,0))
theorem avaB_new (w:World)(t v:ByteArray):AvaB (w.alloc (.cells #[.string t,.string v] 62)) w.heap.size t v:=heap_alloc_new w _
theorem avaB_cells {w:World}{p:Nat}{t v:ByteArray}(h:AvaB w p t v):w.cell? ⟨p,0,none⟩=some (.string t)∧w.cell? ⟨p,1,none⟩=some (.string v):=⟨by rw[Lib.cell_of_heap h];rfl,by rw[Lib.cell_of_heap h];rfl⟩
theorem avaB_below {w w':World}{p:Nat}{t v:ByteArray}(h:AvaB w p t v)(hb:Below w.heap.size w w'):AvaB w' p t v:=(hb.block p (kt.bld_lt h)).trans h
theorem named_any (v:Value)(E:En)(w:World)(hv:Hid (EntV w v E))(hb:Hid (Bd E))(hE:Hid (EnvE w)):
  Calls Tryz.prog 35 #[v] w fun e w'=>e= .returned (.bool (namedE E))∧Below w.heap.size w w':=by
 have HRI0:Hid (∀W,Below w.heap.size w W→Calls Tryz.prog 26 #[v] W fun e w'=>e= .returned (.bool (rightE E))∧Below W.heap.size W w'):=fun W h=>right_any v E W (Lib.hid (entV_below hv.out h)) hb (Lib.hid (envE_below hE.out h));have HV0:Hid (∀m W,Below w.heap.size w W→Calls Tryz.prog 72 #[v,.string m] W fun e w'=>ValsE (valsA E.ats m) W e w'):=fun m W h=>vals_any v E m W (Lib.hid (entV_below hv.out h)) hb;have HK0:Hid (∀nm syn sg m a c k (x:ByteArray) W,x.size≤140737488351232→Hid (k=(valsA E.ats m).length)→Strs W a (valsA E.ats m)→EnvE W→Calls Tryz.prog 73 #[.agg #[.string nm,.int .i64 syn,.bool sg],.slice a k c,.string x] W fun e w'=>e= .returned (.int .i64 (likeI syn (valsA E.ats m) x))∧Below W.heap.size W w'):=by intro nm syn sg m a c k x W hx hk hs he;have:=like_any nm syn sg a c (valsA E.ats m) x W (Lib.hid hs) (by have:=(vals_len hb.out m).1;omega) (vals_fit hb.out m) hx (Lib.hid he);rw[←hk.out]at this;exact this
 have HRS:=Lib.hid hb.out.rs;have HNE:Hid (namedE E=(rightE E&&E.rdn.all (namedA E.ats))):=rfl;have HAF:Hid (rightE E=true→atsF none E.ats=true):=fun h=>(right_iff.1 h).2;obtain⟨ro,rc,ao,ac,Nr,N,rfl,HN,HA,hac,HNr,HAv,hrc⟩:=ent_form hv.out;have hNrb:Nr≤100000:=by rw[←HNr.out];exact hb.out.rl
 obtain⟨rdn,L⟩:=E;simp only at HN HA HNr HAv HRS HNE HAF HK0 HV0;obtain⟨W1,hW1⟩: ∃W,w.alloc (.cells #[.slice ro Nr rc,.slice ao N ac] 25)=W:=⟨_,rfl⟩;have hB1:Below w.heap.size w W1:=by rw[←hW1];exact(Below.refl _ _).alloc (Nat.le_refl _) _
 have HT1:Hid (EntB W1 w.heap.size (.slice ro Nr rc) (.slice ao N ac)):=by rw[←hW1];exact entB_new _ _ _
 obtain⟨k0,k1⟩:=entB_cells HT1.out;have HB1:=Lib.hid hB1;have hs1:=hB1.size;have HRI:=Lib.hid (HRI0.out W1 hB1);rw[HNE.out];clear hB1 HRI0 HNE hv;cases hr:rightE ⟨rdn,L⟩with
 | false=>rw[hr]at HRI;clear hr;go_enter Tryz.func35,Tryz.ntmps35;go_wp2_with fail;refine HRI.out.mono ?_;rintro e w2 ⟨rfl,hB2⟩;have HB2:=Lib.hid (HB1.out.trans (hB2.mono hs1));clear hB2 k0 k1 hW1;go_wp2_with fail;go_ret;exact⟨rfl,HB2.out⟩
 | true=>
  have HAT:=Lib.hid (HAF.out hr);rw[hr]at HRI;rw[Bool.true_and];clear hr HAF;go_enter Tryz.func35,Tryz.ntmps35;go_wp2_with fail;refine HRI.out.mono ?_;rintro e w0 ⟨rfl,hB0⟩;have HB0:=Lib.hid (HB1.out.trans (hB0.mono hs1));have HT0:=Lib.hid (entB_below HT1.out hB0);obtain⟨m0,m1⟩:=entB_cells HT0.out;have hs0:=HB0.out.size;clear hB0 k0 k1 hW1 HRI HT1 HB1 hs1;have HB1:=HB0;have hs1:=hs0;go_wp2_with fail;go_loopw [13] (fun iv wr=> ∃i:Nat,i≤Nr∧iv= .int .i64 (i:Int)∧Hid (Below w0.heap.size w0 wr)∧Hid (rdn.all (namedA L)=(rdn.drop i).all (namedA L))) (fun iv _=>Nr- (intOf iv).toNat);case atStart=>exact⟨0,Nat.zero_le _,rfl,Below.refl _ _,rfl⟩
  case round=>
   obtain⟨i,hi,rfl,hB,hJ⟩:=hrel;have hsz:=hB.out.size;have HBw:=Lib.hid (HB1.out.trans (hB.out.mono hs1));have HTr:=Lib.hid (entB_below HT0.out hB.out);by_cases hlt:i<Nr
   ·have hltI:(i:Int)<(Nr:Int):=(by omega);have hil:i<rdn.length:=(by rw[HNr.out];exact hlt);obtain⟨b,o,hro,q0,q1⟩:=(dnw.avas_below HAv.out HBw.out) i hil;subst hro;have HST:=Lib.hid (all_step (f:=namedA L) hil);have hbd:=HRS.out rdn[i] (List.getElem_mem _);obtain⟨a,ha⟩: ∃a,rdn[i]=a:=⟨_,rfl⟩;rw[ha]at HST hbd q0 q1;clear ha;have hts:=hbd.1;have hvs:=hbd.2;obtain⟨Wa,hWa⟩: ∃W,wr.alloc (.cells #[.string a.t,.string a.v] 62)=W:=⟨_,rfl⟩;have hBA:Below wr.heap.size wr Wa:=(by rw[←hWa];exact(Below.refl _ _).alloc (Nat.le_refl _) _);have HTA:Hid (AvaB Wa wr.heap.size a.t a.v):=(by rw[←hWa];exact avaB_new _ _ _);have HYr:Hid (TyEnv Wa):=(envE_below (envE_below hE.out HBw.out) hBA).y;have HBA:=Lib.hid hBA;obtain⟨xa,xb⟩:=avaB_cells HTA.out;have HFD0:Hid (∀W,TyEnv W→Calls Tryz.prog 70 #[.string a.t] W fun e w'=>e= .returned (resT (findS (sml.lowL a.t.data.toList)))∧Below W.heap.size W w'):=fun W hy=>find_any a.t W (by omega) (Lib.hid hy);clear hbd hBA;cases hfd:findS (sml.lowL a.t.data.toList)with
    | none=>rw[hfd]at HFD0;obtain⟨nm,syn,sg,HFD⟩: ∃nm syn sg,Hid (∀W,TyEnv W→Calls Tryz.prog 70 #[.string a.t] W fun e w'=>e= .returned (.tuple #[.agg #[.string nm,.int .i64 syn,.bool sg],.bool false])∧Below W.heap.size W w'):=⟨_,_,_,HFD0⟩;have HJ:Hid (rdn.all (namedA L)=false):=(by show _=_;rw[hJ.out,HST.out,named_none hfd];rfl);clear hfd HFD0 HV0 HK0;go_wp2_with fail;refine(HFD.out _ HYr.out).mono ?_;rintro e w2 ⟨rfl,hB2⟩;obtain⟨w3,hw3⟩: ∃W,w2.alloc (.cells #[.string nm,.int .i64 syn,.bool sg] 29)=W:=⟨_,rfl⟩;have hB3:Below w2.heap.size w2 w3:=(by rw[←hw3];exact(Below.refl _ _).alloc (Nat.le_refl _) _);obtain⟨y0,y1,y2⟩:=tb_cells (w:=w3) (p:=w2.heap.size) (nm:=nm) (syn:=syn) (sg:=sg) (by rw[←hw3];exact tb_new _ _ _ _);have hA23:=hB2.trans (hB3.mono hB2.size);have hBa:Below wr.heap.size wr w3:=HBA.out.trans (hA23.mono HBA.out.size);obtain⟨x0,x1⟩:=avaB_cells (avaB_below HTA.out hA23);obtain⟨z0,z1⟩:=entB_cells (entB_below HTr.out hBa);have HBr3:=Lib.hid (hB.out.trans (hBa.mono hsz));have HBw3:=Lib.hid (HB1.out.trans (HBr3.out.mono hs1));have hla:=World.block_lt_of_cell? w3 _ x0;have hly:=World.block_lt_of_cell? w3 _ y0;have hlz:=World.block_lt_of_cell? w3 _ z0;have HE3:=Lib.hid (envE_below hE.out HBw3.out);clear hB2 hB3 hBa hA23;go_wp2_with fail;refine wp_region_held_drew (S:=fun W=>W.cell? ⟨w.heap.size,0,none⟩=some (.slice (some ⟨b,o,none⟩) Nr rc)∧W.cell? ⟨w.heap.size,1,none⟩=some (.slice ao N ac)∧W.cell? ⟨wr.heap.size,0,none⟩=some (.string a.t)∧W.cell? ⟨wr.heap.size,1,none⟩=some (.string a.v)∧W.cell? ⟨w2.heap.size,0,none⟩=some (.string nm)∧W.cell? ⟨w2.heap.size,1,none⟩=some (.int .i64 syn)∧W.cell? ⟨w2.heap.size,2,none⟩=some (.bool sg)) (by kernel_rfl) (⟨z0,z1,x0,x1,y0,y1,y2⟩) (fun hHeld=> ?_);refine tk 0 ⟨some 23,_,_,_,_,_⟩ rfl ?_;refine tk 1 ⟨some 24,_,_,_,_,_⟩ rfl ?_;refine tk 2 ⟨some 25,_,_,_,_,_⟩ rfl ?_;refine tu 3 ⟨some 26,_,_,_,_,_⟩ rfl ?_;refine tu 4 ⟨some 27,_,_,_,_,_⟩ rfl ?_;refine tu 5 ⟨some 28,_,_,_,_,_⟩ rfl ?_;refine tu 6 ⟨some 29,_,_,_,_,_⟩ rfl ?_;refine tu 7 ⟨some 30,_,_,_,_,_⟩ rfl ?_;refine tu 8 ⟨some 31,_,_,_,_,_⟩ rfl ?_;refine tu 9 ⟨some 32,_,_,_,_,_⟩ rfl ?_;refine tu 10 ⟨some 33,_,_,_,_,_⟩ rfl ?_;refine tu 11 ⟨some 34,_,_,_,_,_⟩ rfl ?_;refine tk 12 ⟨some 35,_,_,_,_,_⟩ rfl ?_;refine wpAnyH_done (by kernel_rfl) ?_ _;clear hHeld;go_wp2_with fail;go_ret;exact⟨kt.ret_bool HJ.out.symm,HBw3.out.drew⟩
    | some ty=>
     rw[hfd]at HFD0;have HNS:=Lib.hid (named_step HAT.out hfd);have HFD1:Hid (∀W,TyEnv W→Calls Tryz.prog 70 #[.string a.t] W fun e w'=>e= .returned (.tuple #[.agg #[.string (bs ty.name),.int .i64 ty.syn,.bool ty.single],.bool true])∧Below W.heap.size W w'):=HFD0;clear hfd HFD0;generalize bs ty.name=nm at HFD1;generalize ty.syn=syn at HFD1 HNS;generalize ty.single=sg at HFD1;have HFD:=HFD1;have HK1:Hid (∀a' c k W,Hid (k=(valsA L a.t).length)→Strs W a' (valsA L a.t)→EnvE W→Calls Tryz.prog 73 #[.agg #[.string nm,.int .i64 syn,.bool sg],.slice a' k c,.string a.v] W fun e w'=>e= .returned (.int .i64 (likeI syn (valsA L a.t) a.v))∧Below W.heap.size W w'):=fun a' c k W=>HK0.out nm syn sg a.t a' c k a.v W (by omega);have HK:=HK1;clear HFD1 HK0 HK1;generalize likeI syn (valsA L a.t) a.v=lk at HK HNS;by_cases hneg:lk<0
     ·have q2:decide (lk<0)=true:=decide_eq_true hneg;have HJ:Hid (rdn.all (namedA L)=false):=(by show _=_;rw[hJ.out,HST.out,HNS.out,decide_eq_false (by omega)];rfl);clear hneg;go_wp2_with fail;refine(HFD.out _ HYr.out).mono ?_;rintro e w2 ⟨rfl,hB2⟩;obtain⟨w3,hw3⟩: ∃W,w2.alloc (.cells #[.string nm,.int .i64 syn,.bool sg] 29)=W:=⟨_,rfl⟩;have hB3:Below w2.heap.size w2 w3:=(by rw[←hw3];exact(Below.refl _ _).alloc (Nat.le_refl _) _);obtain⟨y0,y1,y2⟩:=tb_cells (w:=w3) (p:=w2.heap.size) (nm:=nm) (syn:=syn) (sg:=sg) (by rw[←hw3];exact tb_new _ _ _ _);have hA23:=hB2.trans (hB3.mono hB2.size);have hBa:Below wr.heap.size wr w3:=HBA.out.trans (hA23.mono HBA.out.size);obtain⟨x0,x1⟩:=avaB_cells (avaB_below HTA.out hA23);obtain⟨z0,z1⟩:=entB_cells (entB_below HTr.out hBa);have HBr3:=Lib.hid (hB.out.trans (hBa.mono hsz));have HBw3:=Lib.hid (HB1.out.trans (HBr3.out.mono hs1));have hla:=World.block_lt_of_cell? w3 _ x0;have hly:=World.block_lt_of_cell? w3 _ y0;have hlz:=World.block_lt_of_cell? w3 _ z0;have HE3:=Lib.hid (envE_below hE.out HBw3.out);clear hB2 hB3 hBa hA23;have HV:Hid (∀W,Below w3.heap.size w3 W→_):=fun W h=>HV0.out a.t W (HBw3.out.trans (h.mono HBw3.out.size));go_wp2_with fail;refine wp_region_held_drew (S:=fun W=>W.cell? ⟨w.heap.size,0,none⟩=some (.slice (some ⟨b,o,none⟩) Nr rc)∧W.cell? ⟨w.heap.size,1,none⟩=some (.slice ao N ac)∧W.cell? ⟨wr.heap.size,0,none⟩=some (.string a.t)∧W.cell? ⟨wr.heap.size,1,none⟩=some (.string a.v)∧W.cell? ⟨w2.heap.size,0,none⟩=some (.string nm)∧W.cell? ⟨w2.heap.size,1,none⟩=some (.int .i64 syn)∧W.cell? ⟨w2.heap.size,2,none⟩=some (.bool sg)) (by kernel_rfl) (⟨z0,z1,x0,x1,y0,y1,y2⟩) (fun hHeld=> ?_);refine tk 0 ⟨some 23,_,_,_,_,_⟩ rfl ?_;refine tk 1 ⟨some 24,_,_,_,_,_⟩ rfl ?_;refine tk 2 ⟨some 25,_,_,_,_,_⟩ rfl ?_;refine tk 3 ⟨some 26,_,_,_,_,_⟩ rfl ?_;refine tk 4 ⟨some 27,_,_,_,_,_⟩ rfl ?_;refine tk 5 ⟨some 28,_,_,_,_,_⟩ rfl ?_;refine tk 6 ⟨some 29,_,_,_,_,_⟩ rfl ?_;refine tk 8 ⟨some 31,_,_,_,_,_⟩ rfl ?_;refine tk 9 ⟨some 32,_,_,_,_,_⟩ rfl ?_;refine tc 7 ⟨some 30,_,_,_,_,_⟩ rfl (fun K hK=> ?_);go_simp;go_at_call 72;refine(HV.out _ ((Below.refl w3.heap.size w3).drew)).mono ?_;rintro e w5 ⟨x5,rfl,hx5,hB5⟩;obtain⟨a5,n5,c5,rfl,hn5,hc5,hs5⟩:=elem_form hx5;refine hK.out _ _ (⟨(hB5.cell (p:=⟨w.heap.size,0,none⟩) hlz).trans (z0),(hB5.cell (p:=⟨w.heap.size,1,none⟩) hlz).trans (z1),(hB5.cell (p:=⟨wr.heap.size,0,none⟩) hla).trans (x0),(hB5.cell (p:=⟨wr.heap.size,1,none⟩) hla).trans (x1),(hB5.cell (p:=⟨w2.heap.size,0,none⟩) hly).trans (y0),(hB5.cell (p:=⟨w2.heap.size,1,none⟩) hly).trans (y1),(hB5.cell (p:=⟨w2.heap.size,2,none⟩) hly).trans (y2)⟩) (fun hHeld=> ?_);clear hK;try simp only[Act.put,List.setIfInBounds_toArray,List.set_cons_zero,List.set_cons_succ]
      refine tc 10 ⟨some 33,_,_,_,_,_⟩ rfl (fun K hK=> ?_);go_simp;go_at_call 73;refine(HK.out a5 c5 n5 _ hn5 hs5 (envE_below HE3.out ((Below.refl w3.heap.size w3).drew.trans hB5))).mono ?_;rintro e w6 ⟨rfl,hB6⟩;refine hK.out _ _ (⟨(hB6.cell (p:=⟨w.heap.size,0,none⟩) (Nat.lt_of_lt_of_le hlz hB5.size)).trans ((hB5.cell (p:=⟨w.heap.size,0,none⟩) hlz).trans (z0)),(hB6.cell (p:=⟨w.heap.size,1,none⟩) (Nat.lt_of_lt_of_le hlz hB5.size)).trans ((hB5.cell (p:=⟨w.heap.size,1,none⟩) hlz).trans (z1)),(hB6.cell (p:=⟨wr.heap.size,0,none⟩) (Nat.lt_of_lt_of_le hla hB5.size)).trans ((hB5.cell (p:=⟨wr.heap.size,0,none⟩) hla).trans (x0)),(hB6.cell (p:=⟨wr.heap.size,1,none⟩) (Nat.lt_of_lt_of_le hla hB5.size)).trans ((hB5.cell (p:=⟨wr.heap.size,1,none⟩) hla).trans (x1)),(hB6.cell (p:=⟨w2.heap.size,0,none⟩) (Nat.lt_of_lt_of_le hly hB5.size)).trans ((hB5.cell (p:=⟨w2.heap.size,0,none⟩) hly).trans (y0)),(hB6.cell (p:=⟨w2.heap.size,1,none⟩) (Nat.lt_of_lt_of_le hly hB5.size)).trans ((hB5.cell (p:=⟨w2.heap.size,1,none⟩) hly).trans (y1)),(hB6.cell (p:=⟨w2.heap.size,2,none⟩) (Nat.lt_of_lt_of_le hly hB5.size)).trans ((hB5.cell (p:=⟨w2.heap.size,2,none⟩) hly).trans (y2))⟩) (fun hHeld=> ?_);clear hK;try simp only[Act.put,List.setIfInBounds_toArray,List.set_cons_zero,List.set_cons_succ]
      refine tk 11 ⟨some 34,_,_,_,_,_⟩ rfl ?_;refine tk 12 ⟨some 35,_,_,_,_,_⟩ rfl ?_;refine wpAnyH_done (by kernel_rfl) ?_ _;have HB6:=Lib.hid (HBw3.out.trans ((((Below.refl w3.heap.size w3).drew.trans hB5).trans (hB6.mono hB5.size)).mono HBw3.out.size));clear hHeld hB5 hB6 hx5 hs5 x0 x1 y0 y1 y2 z0 z1;go_wp2_with fail;go_ret;exact⟨kt.ret_bool HJ.out.symm,HB6.out⟩
     ·have q2:decide (lk<0)=false:=decide_eq_false hneg;have HJ:Hid (rdn.all (namedA L)=(rdn.drop (i+1)).all (namedA L)):=(by show _=_;rw[hJ.out,HST.out,HNS.out,decide_eq_true (by omega)];rfl);clear hneg;go_wp2_with fail;refine(HFD.out _ HYr.out).mono ?_;rintro e w2 ⟨rfl,hB2⟩;obtain⟨w3,hw3⟩: ∃W,w2.alloc (.cells #[.string nm,.int .i64 syn,.bool sg] 29)=W:=⟨_,rfl⟩;have hB3:Below w2.heap.size w2 w3:=(by rw[←hw3];exact(Below.refl _ _).alloc (Nat.le_refl _) _);obtain⟨y0,y1,y2⟩:=tb_cells (w:=w3) (p:=w2.heap.size) (nm:=nm) (syn:=syn) (sg:=sg) (by rw[←hw3];exact tb_new _ _ _ _);have hA23:=hB2.trans (hB3.mono hB2.size);have hBa:Below wr.heap.size wr w3:=HBA.out.trans (hA23.mono HBA.out.size);obtain⟨x0,x1⟩:=avaB_cells (avaB_below HTA.out hA23);obtain⟨z0,z1⟩:=entB_cells (entB_below HTr.out hBa);have HBr3:=Lib.hid (hB.out.trans (hBa.mono hsz));have HBw3:=Lib.hid (HB1.out.trans (HBr3.out.mono hs1));have hla:=World.block_lt_of_cell? w3 _ x0;have hly:=World.block_lt_of_cell? w3 _ y0;have hlz:=World.block_lt_of_cell? w3 _ z0;have HE3:=Lib.hid (envE_below hE.out HBw3.out);clear hB2 hB3 hBa hA23;have HV:Hid (∀W,Below w3.heap.size w3 W→_):=fun W h=>HV0.out a.t W (HBw3.out.trans (h.mono HBw3.out.size));go_wp2_with fail;refine wp_region_held_drew (S:=fun W=>W.cell? ⟨w.heap.size,0,none⟩=some (.slice (some ⟨b,o,none⟩) Nr rc)∧W.cell? ⟨w.heap.size,1,none⟩=some (.slice ao N ac)∧W.cell? ⟨wr.heap.size,0,none⟩=some (.string a.t)∧W.cell? ⟨wr.heap.size,1,none⟩=some (.string a.v)∧W.cell? ⟨w2.heap.size,0,none⟩=some (.string nm)∧W.cell? ⟨w2.heap.size,1,none⟩=some (.int .i64 syn)∧W.cell? ⟨w2.heap.size,2,none⟩=some (.bool sg)) (by kernel_rfl) (⟨z0,z1,x0,x1,y0,y1,y2⟩) (fun hHeld=> ?_);refine tk 0 ⟨some 23,_,_,_,_,_⟩ rfl ?_;refine tk 1 ⟨some 24,_,_,_,_,_⟩ rfl ?_;refine tk 2 ⟨some 25,_,_,_,_,_⟩ rfl ?_;refine tk 3 ⟨some 26,_,_,_,_,_⟩ rfl ?_;refine tk 4 ⟨some 27,_,_,_,_,_⟩ rfl ?_;refine tk 5 ⟨some 28,_,_,_,_,_⟩ rfl ?_;refine tk 6 ⟨some 29,_,_,_,_,_⟩ rfl ?_;refine tk 8 ⟨some 31,_,_,_,_,_⟩ rfl ?_;refine tk 9 ⟨some 32,_,_,_,_,_⟩ rfl ?_;refine tc 7 ⟨some 30,_,_,_,_,_⟩ rfl (fun K hK=> ?_);go_simp;go_at_call 72;refine(HV.out _ ((Below.refl w3.heap.size w3).drew)).mono ?_;rintro e w5 ⟨x5,rfl,hx5,hB5⟩;obtain⟨a5,n5,c5,rfl,hn5,hc5,hs5⟩:=elem_form hx5;refine hK.out _ _ (⟨(hB5.cell (p:=⟨w.heap.size,0,none⟩) hlz).trans (z0),(hB5.cell (p:=⟨w.heap.size,1,none⟩) hlz).trans (z1),(hB5.cell (p:=⟨wr.heap.size,0,none⟩) hla).trans (x0),(hB5.cell (p:=⟨wr.heap.size,1,none⟩) hla).trans (x1),(hB5.cell (p:=⟨w2.heap.size,0,none⟩) hly).trans (y0),(hB5.cell (p:=⟨w2.heap.size,1,none⟩) hly).trans (y1),(hB5.cell (p:=⟨w2.heap.size,2,none⟩) hly).trans (y2)⟩) (fun hHeld=> ?_);clear hK;try simp only[Act.put,List.setIfInBounds_toArray,List.set_cons_zero,List.set_cons_succ]
      refine tc 10 ⟨some 33,_,_,_,_,_⟩ rfl (fun K hK=> ?_);go_simp;go_at_call 73;refine(HK.out a5 c5 n5 _ hn5 hs5 (envE_below HE3.out ((Below.refl w3.heap.size w3).drew.trans hB5))).mono ?_;rintro e w6 ⟨rfl,hB6⟩;refine hK.out _ _ (⟨(hB6.cell (p:=⟨w.heap.size,0,none⟩) (Nat.lt_of_lt_of_le hlz hB5.size)).trans ((hB5.cell (p:=⟨w.heap.size,0,none⟩) hlz).trans (z0)),(hB6.cell (p:=⟨w.heap.size,1,none⟩) (Nat.lt_of_lt_of_le hlz hB5.size)).trans ((hB5.cell (p:=⟨w.heap.size,1,none⟩) hlz).trans (z1)),(hB6.cell (p:=⟨wr.heap.size,0,none⟩) (Nat.lt_of_lt_of_le hla hB5.size)).trans ((hB5.cell (p:=⟨wr.heap.size,0,none⟩) hla).trans (x0)),(hB6.cell (p:=⟨wr.heap.size,1,none⟩) (Nat.lt_of_lt_of_le hla hB5.size)).trans ((hB5.cell (p:=⟨wr.heap.size,1,none⟩) hla).trans (x1)),(hB6.cell (p:=⟨w2.heap.size,0,none⟩) (Nat.lt_of_lt_of_le hly hB5.size)).trans ((hB5.cell (p:=⟨w2.heap.size,0,none⟩) hly).trans (y0)),(hB6.cell (p:=⟨w2.heap.size,1,none⟩) (Nat.lt_of_lt_of_le hly hB5.size)).trans ((hB5.cell (p:=⟨w2.heap.size,1,none⟩) hly).trans (y1)),(hB6.cell (p:=⟨w2.heap.size,2,none⟩) (Nat.lt_of_lt_of_le hly hB5.size)).trans ((hB5.cell (p:=⟨w2.heap.size,2,none⟩) hly).trans (y2))⟩) (fun hHeld=> ?_);clear hK;try simp only[Act.put,List.setIfInBounds_toArray,List.set_cons_zero,List.set_cons_succ]
      refine tk 11 ⟨some 34,_,_,_,_,_⟩ rfl ?_;refine tk 12 ⟨some 35,_,_,_,_,_⟩ rfl ?_;refine wpAnyH_done (by kernel_rfl) ?_ _;have HB6:=Lib.hid (HBr3.out.trans ((((Below.refl w3.heap.size w3).drew.trans hB5).trans (hB6.mono hB5.size)).mono HBr3.out.size));clear hHeld hB5 hB6 hx5 hs5 x0 x1 y0 y1 y2 z0 z1;go_wp2_with fail;go_roundw;case rel=>exact⟨i+1,by omega,by go_num,HB6,HJ⟩
      case measure=>simp[intOf];omega
   ·obtain rfl:Nr=i:=(by omega);have HJ:Hid (rdn.all (namedA L)=true):=(by show _=_;rw[hJ.out,←HNr.out,List.drop_length];rfl);go_wp2_with fail;go_ret;exact⟨kt.ret_bool HJ.out.symm,HBw.out⟩
end etw
open Go.RowKit
namespace etw
open atp atw etp
open dnw (Av Avas)
open tupw (Strs strs_below)
def awE:En:=⟨[⟨⟨#[99,110]⟩,⟨#[97,110,110]⟩⟩],[⟨⟨#[99,110]⟩,[⟨#[97,110,110,32]⟩]⟩]⟩
def errOf (r:Except Int En):Option Int:=match r with
 | .error f=>some f
 | .ok _=>none
theorem errOf_some {r:Except Int En}{f:Int}(h:errOf r=some f):r= .error f:=by
 cases r with
 | error g=>unfold errOf at h;simp at h;rw[h]
 | ok e=>unfold errOf at h;simp at h
theorem aw_add0:errOf (addE awE [99,110] [⟨#[65,110,110]⟩])=some 8:=by decide+kernel
theorem aw_add:addE awE [99,110] [⟨#[65,110,110]⟩]= .error 8:=errOf_some aw_add0
theorem aw_has:hasE awE [67,78] ⟨#[65,78,78]⟩=true:=by decide+kernel
theorem aw_named:namedE awE=true:=by decide+kernel
theorem aw_bk:Bk 1000 awE:=by
 refine⟨by decide,fun a ha=> ?_,by decide,fun a ha=> ?_⟩
 ·unfold awE at ha;simp only[List.mem_singleton]at ha;subst ha;exact⟨by decide,by decide⟩
 ·unfold awE at ha;simp only[List.mem_singleton]at ha;subst ha;refine⟨by decide,by decide,fun v hv=> ?_⟩;simp only[List.mem_singleton]at hv;subst hv;decide
theorem eawake_any (w:World)(hE:Hid (EnvE w)):Calls Tryz.prog 14 #[] w fun e w'=>e= .returned (.bool true)∧Below w.heap.size w w':=by
 obtain⟨W1,hW1⟩: ∃W,w.alloc (.cells #[.string ⟨#[99,110]⟩,.string ⟨#[97,110,110]⟩] 62)=W:=⟨_,rfl⟩;have hB1:Below w.heap.size w W1:=by rw[←hW1];exact(Below.refl _ _).alloc (Nat.le_refl _) _
 have hA1:AvaB W1 w.heap.size ⟨#[99,110]⟩ ⟨#[97,110,110]⟩:=by rw[←hW1];exact avaB_new _ _ _
 obtain⟨W2,hW2⟩: ∃W,W1.alloc (.cells #[.string ⟨#[97,110,110,32]⟩] 9)=W:=⟨_,rfl⟩;have hB2:Below W1.heap.size W1 W2:=by rw[←hW2];exact(Below.refl _ _).alloc (Nat.le_refl _) _
 have hV2:VB W2 W1.heap.size ⟨#[97,110,110,32]⟩:=by rw[←hW2];exact vb_new _ _
 obtain⟨W3,hW3⟩: ∃W,W2.alloc (.cells #[.string ⟨#[99,110]⟩,.slice (some ⟨W1.heap.size,0,none⟩) 1 1] 57)=W:=⟨_,rfl⟩;have hB3:Below W2.heap.size W2 W3:=by rw[←hW3];exact(Below.refl _ _).alloc (Nat.le_refl _) _
 have hT3:AttrB W3 W2.heap.size ⟨#[99,110]⟩ (.slice (some ⟨W1.heap.size,0,none⟩) 1 1):=by rw[←hW3];exact attrB_new _ _ _
 obtain⟨W4,hW4⟩: ∃W,W3.alloc (.cells #[.slice (some ⟨w.heap.size,0,none⟩) 1 1,.slice (some ⟨W2.heap.size,0,none⟩) 1 1] 25)=W:=⟨_,rfl⟩;have hB4:Below W3.heap.size W3 W4:=by rw[←hW4];exact(Below.refl _ _).alloc (Nat.le_refl _) _
 have hE4:EntB W4 W3.heap.size (.slice (some ⟨w.heap.size,0,none⟩) 1 1) (.slice (some ⟨W2.heap.size,0,none⟩) 1 1):=by rw[←hW4];exact entB_new _ _ _
 have hA4:=avaB_cells (avaB_below (avaB_below (avaB_below hA1 hB2) hB3) hB4);have hV4:=vb_cell (vb_below (vb_below hV2 hB3) hB4);have hT4:=attrB_cells (attrB_below hT3 hB4);have HV4:Hid (EntV W4 (.agg #[.slice (some ⟨w.heap.size,0,none⟩) 1 1,.slice (some ⟨W2.heap.size,0,none⟩) 1 1]) awE):=by
  refine⟨_,1,_,1,rfl,Nat.le_refl _,Nat.le_refl _,fun i hi=> ?_,fun i hi=> ?_⟩
  ·have h0:i=0:=(by have:i<1:=hi;omega);subst h0;exact⟨_,0,rfl,hA4.1,hA4.2⟩
  ·have h0:i=0:=(by have:i<1:=hi;omega);subst h0;refine⟨_,0,_,1,rfl,hT4.1,hT4.2,Nat.le_refl _,fun j hj=> ?_⟩;have h1:j=0:=(by have:j<1:=hj;omega);subst h1;exact⟨_,0,rfl,hV4⟩
 have hB04:=hB1.trans ((hB2.trans ((hB3.trans (hB4.mono hB3.size)).mono hB2.size)).mono hB1.size);have HB4:=Lib.hid hB04;obtain⟨W5,hW5⟩: ∃W,W4.alloc (.cells #[.string ⟨#[65,110,110]⟩] 9)=W:=⟨_,rfl⟩;have hB5:Below W4.heap.size W4 W5:=by rw[←hW5];exact(Below.refl _ _).alloc (Nat.le_refl _) _
 have hV5:VB W5 W4.heap.size ⟨#[65,110,110]⟩:=by rw[←hW5];exact vb_new _ _
 have hB45:=hB04.trans (hB5.mono hB04.size);have HB5:=Lib.hid hB5;have HAD0:=add_any _ awE ⟨#[99,110]⟩ (some ⟨W4.heap.size,0,none⟩) 1 [⟨#[65,110,110]⟩] W5 (Lib.hid (entV_below HV4.out hB5)) (Lib.hid aw_bk) (Lib.hid fun i hi=>by
  have h0:i=0:=by have:i<1:=hi;omega
  subst h0;exact⟨_,0,rfl,vb_cell hV5⟩) (by decide) (by decide) (Lib.hid fun x hx=>by simp only[List.mem_singleton]at hx;subst hx;decide) (by decide) (Lib.hid (envE_below hE.out hB45))
 rw[show addE awE (⟨#[99,110]⟩:ByteArray).data.toList [⟨#[65,110,110]⟩]= .error 8 from aw_add]at HAD0;have HAD:Hid (Calls Tryz.prog 24 #[.agg #[.slice (some ⟨w.heap.size,0,none⟩) 1 1,.slice (some ⟨W2.heap.size,0,none⟩) 1 1],.string ⟨#[99,110]⟩,.slice (some ⟨W4.heap.size,0,none⟩) 1 1] W5 fun e w'=>Below W5.heap.size W5 w'∧e= .returned (.tuple #[.agg #[.slice none 0 0,.slice none 0 0],.int .i64 8])):=HAD0;have HHA:Hid (∀W,Below W4.heap.size W4 W→Calls Tryz.prog 19 #[.agg #[.slice (some ⟨w.heap.size,0,none⟩) 1 1,.slice (some ⟨W2.heap.size,0,none⟩) 1 1],.string ⟨#[67,78]⟩,.string ⟨#[65,78,78]⟩] W fun e w'=>e= .returned (.bool true)∧Below W.heap.size W w'):=fun W h=>by have:=has_any _ awE ⟨#[67,78]⟩ ⟨#[65,78,78]⟩ W (Lib.hid (entV_below HV4.out h)) (Lib.hid (bk_bd aw_bk (by omega))) (by decide) (by decide) (Lib.hid (envE_below hE.out (HB4.out.trans (h.mono HB4.out.size))));rw[show hasE awE (⟨#[67,78]⟩:ByteArray).data.toList ⟨#[65,78,78]⟩=true from aw_has]at this;exact this
 have HNA:Hid (∀W,Below W4.heap.size W4 W→Calls Tryz.prog 35 #[.agg #[.slice (some ⟨w.heap.size,0,none⟩) 1 1,.slice (some ⟨W2.heap.size,0,none⟩) 1 1]] W fun e w'=>e= .returned (.bool true)∧Below W.heap.size W w'):=fun W h=>by have:=named_any _ awE W (Lib.hid (entV_below HV4.out h)) (Lib.hid (bk_bd aw_bk (by omega))) (Lib.hid (envE_below hE.out (HB4.out.trans (h.mono HB4.out.size))));rw[aw_named]at this;exact this
 obtain⟨k0,k1⟩:=entB_cells hE4;have HE5:=Lib.hid (entB_below hE4 hB5);have hz4:=HB4.out.size;clear hB1 hA1 hB2 hV2 hB3 hT3 hB4 hE4 hA4 hV4 hT4 hB04 hB5 hV5 hB45 HAD0;go_enter Tryz.func14,Tryz.ntmps14;go_wp2_with fail;refine HAD.out.mono ?_;rintro e w6 ⟨hB6,rfl⟩;have HB46:=Lib.hid (HB5.out.trans (hB6.mono HB5.out.size));have HE6:=Lib.hid (entB_below HE5.out hB6);obtain⟨m0,m1⟩:=entB_cells HE6.out;have hlt6:W3.heap.size<w6.heap.size:=kt.bld_lt HE6.out;clear hB6 k0 k1 hW1 hW2 hW3 hW4 hW5;go_wp2_with fail;have hB7:Below w6.heap.size w6 (w6.alloc (.cells #[.slice none 0 0,.slice none 0 0] 25)):=(Below.refl _ _).alloc (Nat.le_refl _) _;have HB47:=Lib.hid (HB46.out.trans (hB7.mono HB46.out.size));have HE7:=Lib.hid (entB_below HE6.out hB7);clear hB7;refine(HHA.out _ HB47.out).mono ?_;rintro e w8 ⟨rfl,hB8⟩;have HB48:=Lib.hid (HB47.out.trans (hB8.mono HB47.out.size));have HE8:=Lib.hid (entB_below HE7.out hB8);obtain⟨p0,p1⟩:=entB_cells HE8.out;clear hB8 m0 m1;go_wp2_with fail;refine(HNA.out _ HB48.out).mono ?_;rintro e w9 ⟨rfl,hB9⟩;have HB49:=Lib.hid (HB4.out.trans ((HB48.out.trans (hB9.mono HB48.out.size)).mono hz4));clear hB9 p0 p1;go_wp2_with fail;go_ret;exact⟨rfl,HB49.out⟩
end etw
open Go.RowKit
namespace etw
open atp atw etp
open dnw (Av Avas)
open tupw (Strs strs_below)
def bigV (v:ByteArray):Bool:=decide (1100<v.size)
def longL (l:List ByteArray):Bool:=decide (40<l.length)||l.any bigV
def bigR (a:Av):Bool:=decide (600<a.t.size)||decide (600<a.v.size)
def bigA (a:At):Bool:=decide (600<a.t.size)||longL a.vs
def longE (e:En):Bool:=decide (20<e.rdn.length)||decide (30<e.ats.length)||e.rdn.any bigR||e.ats.any bigA
theorem longL_no {l:List ByteArray}(h:longL l=false):l.length≤40∧ ∀v∈l,v.size≤1100:=by unfold longL at h;rw[Bool.or_eq_false_iff,decide_eq_false_iff_not,List.any_eq_false]at h;refine⟨by omega,fun v hv=> ?_⟩;have:=h.2 v hv;unfold bigV at this;simp at this;omega
theorem longE_no {e:En}(h:longE e=false):Bk 30 e:=by
 unfold longE at h;rw[Bool.or_eq_false_iff,Bool.or_eq_false_iff,Bool.or_eq_false_iff,decide_eq_false_iff_not,decide_eq_false_iff_not,List.any_eq_false,List.any_eq_false]at h;obtain⟨⟨⟨h1,h2⟩,h3⟩,h4⟩:=h;refine⟨by omega,fun a ha=> ?_,by omega,fun a ha=> ?_⟩
 ·have:=h3 a ha;unfold bigR at this;simp at this;omega
 ·have:=h4 a ha;unfold bigA at this;simp only[Bool.or_eq_true,decide_eq_true_eq,not_or,Bool.not_eq_true]at this;have h5:=longL_no this.2;refine⟨by omega,by omega,fun v hv=> ?_⟩;have:=h5.2 v hv;omega
theorem any_step {α:Type}{f:α→Bool}{l:List α}{i:Nat}(h:i<l.length):(l.drop i).any f=(f l[i]||(l.drop (i+1)).any f):=by rw[List.drop_eq_getElem_cons h,List.any_cons]
theorem longL_any (ao:Option Addr)(cap:Nat)(l:List ByteArray)(w:World)(hl:Hid (Strs w ao l)):Calls Tryz.prog 23 #[.slice ao l.length cap] w fun e w'=>e= .returned (.bool (longL l))∧w=w':=by
 have HLD:Hid (longL l=(decide (40<l.length)||l.any bigV)):=rfl;rw[HLD.out];clear HLD;obtain⟨N,hN⟩: ∃N,l.length=N:=⟨_,rfl⟩;have HN:=Lib.hid hN;rw[hN];clear hN;by_cases h40:40<N
 ·have d1:decide (40<N)=true:=decide_eq_true h40;have h40':(40:Int)<(N:Int):=by omega
  rw[d1,Bool.true_or];go_enter Tryz.func23,Tryz.ntmps23;go_wp2_with fail;go_ret;exact⟨rfl,rfl⟩
 ·have d1:decide (40<N)=false:=decide_eq_false h40;have h40': ¬ (40:Int)<(N:Int):=by omega
  rw[d1,Bool.false_or];go_enter Tryz.func23,Tryz.ntmps23;go_wp2_with fail;go_loop [3] (fun iv=> ∃i:Nat,i≤N∧iv= .int .i64 (i:Int)∧Hid (l.any bigV=(l.drop i).any bigV)) (fun iv=>N- (intOf iv).toNat);case atStart=>exact⟨0,Nat.zero_le _,rfl,rfl⟩
  case round=>
   obtain⟨i,hi,rfl,hJ⟩:=hrel;by_cases hlt:i<N
   ·have hltI:(i:Int)<(N:Int):=(by omega);have hil:i<l.length:=(by rw[HN.out];exact hlt);obtain⟨b,o,hao,hc0⟩:=hl.out i hil;subst hao;have HST:=Lib.hid (any_step (f:=bigV) hil);obtain⟨x,hx⟩: ∃x,l[i]=x:=⟨_,rfl⟩;rw[hx]at hc0 HST;clear hx;by_cases hb:1100<x.size
    ·have d2:decide (1100<x.size)=true:=decide_eq_true hb;have hb':(1100:Int)<(x.size:Int):=(by omega);have HJ:Hid (l.any bigV=true):=(by show _=_;rw[hJ.out,HST.out,show bigV x=true from d2];rfl);go_wp2_with fail;go_ret;exact⟨kt.ret_bool HJ.out.symm,rfl⟩
    ·have d2:decide (1100<x.size)=false:=decide_eq_false hb;have hb': ¬ (1100:Int)<(x.size:Int):=(by omega);have HJ:Hid (l.any bigV=(l.drop (i+1)).any bigV):=(by show _=_;rw[hJ.out,HST.out,show bigV x=false from d2];rfl);go_wp2_with fail;go_round;case rel=>exact⟨i+1,by omega,by go_num,HJ⟩
     case measure=>simp[intOf];omega
   ·obtain rfl:N=i:=(by omega);have HJ:Hid (l.any bigV=false):=(by show _=_;rw[hJ.out,←HN.out,List.drop_length];rfl);go_wp2_with fail;go_ret;exact⟨kt.ret_bool HJ.out.symm,rfl⟩
theorem longE_any (v:Value)(E:En)(w:World)(hv:Hid (EntV w v E)):Calls Tryz.prog 15 #[v] w fun e w'=>e= .returned (.bool (longE E))∧Below w.heap.size w w':=by
 have HLD:Hid (longE E=(decide (20<E.rdn.length)||decide (30<E.ats.length)||E.rdn.any bigR||E.ats.any bigA)):=rfl;rw[HLD.out];clear HLD;obtain⟨ro,rc,ao,ac,Nr,N,rfl,HN,HA,hac,HNr,HAv,hrc⟩:=ent_form hv.out;obtain⟨rdn,L⟩:=E;simp only at HN HA HNr HAv ⊢;rw[HN.out,HNr.out];obtain⟨W1,hW1⟩: ∃W,w.alloc (.cells #[.slice ro Nr rc,.slice ao N ac] 25)=W:=⟨_,rfl⟩;have hB1:Below w.heap.size w W1:=by rw[←hW1];exact(Below.refl _ _).alloc (Nat.le_refl _) _
 have HT1:Hid (EntB W1 w.heap.size (.slice ro Nr rc) (.slice ao N ac)):=by rw[←hW1];exact entB_new _ _ _
 obtain⟨k0,k1⟩:=entB_cells HT1.out;have HB1:=Lib.hid hB1;have HA1:=Lib.hid (ats_below HA.out hB1);have HAv1:=Lib.hid (dnw.avas_below HAv.out hB1);clear hB1 hv HA HAv HT1;by_cases h20:20<Nr
 ·have d1:decide (20<Nr)=true:=decide_eq_true h20;have h20':(20:Int)<(Nr:Int):=by omega
  rw[d1,Bool.true_or,Bool.true_or,Bool.true_or];go_enter Tryz.func15,Tryz.ntmps15;go_wp2_with fail;go_ret;exact⟨rfl,HB1.out⟩
 ·have d1:decide (20<Nr)=false:=decide_eq_false h20;have h20': ¬ (20:Int)<(Nr:Int):=by omega
  rw[d1,Bool.false_or];by_cases h30:30<N
  ·have d2:decide (30<N)=true:=decide_eq_true h30;have h30':(30:Int)<(N:Int):=(by omega);rw[d2,Bool.true_or,Bool.true_or];go_enter Tryz.func15,Tryz.ntmps15;go_wp2_with fail;go_ret;exact⟨rfl,HB1.out⟩
  ·have d2:decide (30<N)=false:=decide_eq_false h30;have h30': ¬ (30:Int)<(N:Int):=(by omega);rw[d2,Bool.false_or];go_enter Tryz.func15,Tryz.ntmps15;go_wp2_with fail;go_loop [3] (fun iv=> ∃i:Nat,i≤Nr∧iv= .int .i64 (i:Int)∧Hid (rdn.any bigR=(rdn.drop i).any bigR)) (fun iv=>Nr- (intOf iv).toNat);case atStart=>exact⟨0,Nat.zero_le _,rfl,rfl⟩
   case round=>
    obtain⟨i,hi,rfl,hJ⟩:=hrel;by_cases hlt:i<Nr
    ·have hltI:(i:Int)<(Nr:Int):=(by omega);have hil:i<rdn.length:=(by rw[HNr.out];exact hlt);obtain⟨b,o,hro,q0,q1⟩:=HAv1.out i hil;subst hro;have HST:=Lib.hid (any_step (f:=bigR) hil);obtain⟨a,ha⟩: ∃a,rdn[i]=a:=⟨_,rfl⟩;rw[ha]at HST q0 q1;clear ha;have HBR:Hid (bigR a=(decide (600<a.t.size)||decide (600<a.v.size))):=rfl;by_cases ht:600<a.t.size
     ·have d3:decide (600<a.t.size)=true:=decide_eq_true ht;have ht':(600:Int)<(a.t.size:Int):=(by omega);have HJ:Hid ((rdn.any bigR||L.any bigA)=true):=(by show _=_;rw[hJ.out,HST.out,HBR.out,d3];simp);go_wp2_with fail;go_ret;exact⟨kt.ret_bool HJ.out.symm,HB1.out⟩
     ·have d3:decide (600<a.t.size)=false:=decide_eq_false ht;have ht': ¬ (600:Int)<(a.t.size:Int):=(by omega);by_cases hvv:600<a.v.size
      ·have d4:decide (600<a.v.size)=true:=decide_eq_true hvv;have hv':(600:Int)<(a.v.size:Int):=(by omega);have HJ:Hid ((rdn.any bigR||L.any bigA)=true):=(by show _=_;rw[hJ.out,HST.out,HBR.out,d3,d4];simp);go_wp2_with fail;go_ret;exact⟨kt.ret_bool HJ.out.symm,HB1.out⟩
      ·have d4:decide (600<a.v.size)=false:=decide_eq_false hvv;have hv': ¬ (600:Int)<(a.v.size:Int):=(by omega);have HJ:Hid (rdn.any bigR=(rdn.drop (i+1)).any bigR):=(by show _=_;rw[hJ.out,HST.out,HBR.out,d3,d4];rfl);go_wp2_with fail;go_round;case rel=>exact⟨i+1,by omega,by go_num,HJ⟩
       case measure=>simp[intOf];omega
    ·obtain rfl:Nr=i:=(by omega);have HR0:Hid (rdn.any bigR=false):=(by show _=_;rw[hJ.out,←HNr.out,List.drop_length];rfl);go_wp2_with fail;go_loop [4] (fun iv=> ∃i:Nat,i≤N∧iv= .int .i64 (i:Int)∧Hid (L.any bigA=(L.drop i).any bigA)) (fun iv=>N- (intOf iv).toNat);case atStart=>exact⟨0,Nat.zero_le _,rfl,rfl⟩
     case round=>
      obtain⟨i,hi2,rfl,hJ2⟩:=hrel;by_cases hlt2:i<N
      ·have hltI:(i:Int)<(N:Int):=(by omega);have hil:i<L.length:=(by rw[HN.out];exact hlt2);obtain⟨b,o,ax,cx,hao,q0,q1,hcx,hST⟩:=HA1.out i hil;subst hao;have HST:=Lib.hid (any_step (f:=bigA) hil);obtain⟨a,ha⟩: ∃a,L[i]=a:=⟨_,rfl⟩;rw[ha]at HST q0 q1 hcx hST;clear ha;have HLL:=Lib.hid (longL_any ax cx a.vs W1 (Lib.hid hST));have HBA:Hid (bigA a=(decide (600<a.t.size)||longL a.vs)):=rfl;obtain⟨M,hM⟩: ∃M,a.vs.length=M:=⟨_,rfl⟩;rw[hM]at q1 HLL;clear hM hST hcx;by_cases ht:600<a.t.size
       ·have d3:decide (600<a.t.size)=true:=decide_eq_true ht;have ht':(600:Int)<(a.t.size:Int):=(by omega);have HJ:Hid ((rdn.any bigR||L.any bigA)=true):=(by show _=_;rw[hJ2.out,HST.out,HBA.out,d3];simp);go_wp2_with fail;go_ret;exact⟨kt.ret_bool HJ.out.symm,HB1.out⟩
       ·have d3:decide (600<a.t.size)=false:=decide_eq_false ht;have ht': ¬ (600:Int)<(a.t.size:Int):=(by omega);cases hll:longL a.vs with
        | true=>rw[hll]at HLL HBA;have HJ:Hid ((rdn.any bigR||L.any bigA)=true):=(by show _=_;rw[hJ2.out,HST.out,HBA.out,d3];simp);clear hll;go_wp2_with fail;refine HLL.out.mono ?_;rintro e w2 ⟨rfl,rfl⟩;go_wp2_with fail;go_ret;exact⟨kt.ret_bool HJ.out.symm,HB1.out⟩
        | false=>
         rw[hll]at HLL HBA;have HJ:Hid (L.any bigA=(L.drop (i+1)).any bigA):=(by show _=_;rw[hJ2.out,HST.out,HBA.out,d3];rfl);clear hll;go_wp2_with fail;refine HLL.out.mono ?_;rintro e w2 ⟨rfl,rfl⟩;go_wp2_with fail;go_round;case rel=>exact⟨i+1,by omega,by go_num,HJ⟩
         case measure=>simp[intOf];omega
      ·obtain rfl:N=i:=(by omega);have HJ:Hid ((rdn.any bigR||L.any bigA)=false):=(by show _=_;rw[HR0.out,hJ2.out,←HN.out,List.drop_length];rfl);go_wp2_with fail;go_ret;exact⟨kt.ret_bool HJ.out.symm,HB1.out⟩
end etw
open Go.RowKit
namespace etw
open atp atw etp
open dnw (Av Avas)
open tupw (Strs strs_below)
def valE:Except Int En→En
 | .ok E=>E
 | .error _=>⟨[],[]⟩
def codeE:Except Int En→Int
 | .ok _=>0
 | .error f=>f
def ResX (X:En)(f:Int)(W:World)(e:Ending)(w':World):Prop:= ∃r1 n1 c1 r2 n2 c2,e= .returned (.tuple #[.agg #[.slice r1 n1 c1,.slice r2 n2 c2],.int .i64 f])∧EntV w' (.agg #[.slice r1 n1 c1,.slice r2 n2 c2]) X∧Below W.heap.size W w'
theorem entV_zero (w:World):EntV w (.agg #[.slice none 0 0,.slice none 0 0]) ⟨[],[]⟩:=⟨none,0,none,0,rfl,Nat.le_refl _,Nat.le_refl _,fun i hi=>absurd hi (Nat.not_lt_zero _),fun i hi=>absurd hi (Nat.not_lt_zero _)⟩
theorem resX_of {r:Except Int En}{W:World}{e:Ending}{w':World}(h:ResE r W e w'):ResX (valE r) (codeE r) W e w':=by
 obtain⟨hb,h⟩:=h;cases r with
 | ok E=>obtain⟨v,rfl,hv⟩:=h;obtain⟨r1,n1,c1,r2,n2,c2,rfl⟩:=ent_agg hv;exact⟨_,_,_,_,_,_,rfl,hv,hb⟩
 | error f=>have h2:e= .returned (.tuple #[.agg #[.slice none 0 0,.slice none 0 0],.int .i64 f]):=h;subst h2;exact⟨_,_,_,_,_,_,rfl,entV_zero w',hb⟩
theorem bd_zero:Bd ⟨[],[]⟩:=⟨by simp,by simp,by simp,by simp⟩
end etw
open Go.RowKit
namespace etw
open atp atw etp
open dnw (Av Avas)
open tupw (Strs strs_below)
theorem low_ty (c:UInt8)(h:dnp.typeCh c=true):sml.low c=c:=by
 unfold dnp.typeCh dnp.letter at h;simp only[Bool.or_eq_true,decide_eq_true_eq,UInt8.le_iff_toNat_le]at h;unfold sml.low;rw[if_neg];rintro⟨h1,h2⟩;rcases h with(h | h) | h
 ·have a1:(97:UInt8).toNat=97:=rfl;omega
 ·have a1:(57:UInt8).toNat=57:=rfl;omega
 ·subst h;have a1:(45:UInt8).toNat=45:=rfl;omega
theorem type_low {t:List UInt8}(h:dnp.typeOK t=true):sml.lowL t=t:=by
 unfold dnp.typeOK at h;rw[Bool.and_eq_true]at h;have h2:=List.all_eq_true.1 h.2;unfold sml.lowL;conv=>rhs;rw[←List.map_id t]
 exact List.map_congr_left fun c hc=>low_ty c (h2 c hc)
theorem rdn_low {l:List Av}(h:dnw.rdnOK l=true): ∀a∈l,sml.lowL a.t.data.toList=a.t.data.toList:=fun a ha=>type_low (dnw.rdnOK_av h a ha).1
theorem gone_step {rdn l:List Av}{out:En}{i:Nat}(h:i<l.length):goneF rdn (l.drop i) out=match findS l[i].t.data.toList with
  | none=>goneF rdn (l.drop (i+1)) out
  | some ty=>if ofR rdn ty.syn l[i]=true∨likeI ty.syn (valsA out.ats l[i].t) l[i].v<0 then goneF rdn (l.drop (i+1)) out else match removeE out l[i].t.data.toList [l[i].v]with
   | .error f=> .error f
   | .ok less=>goneF rdn (l.drop (i+1)) less:=by
 rw[List.drop_eq_getElem_cons h];rfl
theorem come_step {l:List Av}{out:En}{i:Nat}(h:i<l.length):comeF (l.drop i) out=match findS l[i].t.data.toList with
  | none=>comeF (l.drop (i+1)) out
  | some ty=>if 0≤likeI ty.syn (valsA out.ats l[i].t) l[i].v then comeF (l.drop (i+1)) out else match addE out l[i].t.data.toList [l[i].v]with
   | .error f=> .error f
   | .ok more=>comeF (l.drop (i+1)) more:=by
 rw[List.drop_eq_getElem_cons h];rfl
def ofB (syn:Int)(a b:Av):Bool:=decide (b.t=a.t)&&decide (0≤likeI syn [b.v] a.v)
theorem strs_one (w:World)(v:ByteArray):Strs (w.alloc (.cells #[.string v] 9)) (some ⟨w.heap.size,0,none⟩) [v]:=by
 intro i hi;have:i=0:=by simpa using hi
 subst this;refine⟨w.heap.size,0,rfl,?_⟩;exact vb_cell (vb_new w v)
theorem rclo_any (nm:ByteArray)(syn:Int)(sg:Bool)(a b:Av)(pa pt:Nat)(w:World)(hb1:b.v.size≤100000)(ha1:a.v.size≤100000)(hE:Hid (EnvE w))(hA:Hid (AvaB w pa a.t a.v))(hT:Hid (TB w pt nm syn sg)):
  Calls Tryz.prog 86 #[.agg #[.string b.t,.string b.v],.pointer (some ⟨pa,0,none⟩),.pointer (some ⟨pt,0,none⟩)] w fun e w'=>e= .returned (.bool (ofB syn a b))∧Below w.heap.size w w':=by
 obtain⟨W1,hW1⟩: ∃W,w.alloc (.cells #[.string b.t,.string b.v] 62)=W:=⟨_,rfl⟩;have hB1:Below w.heap.size w W1:=by rw[←hW1];exact(Below.refl _ _).alloc (Nat.le_refl _) _
 obtain⟨x0,x1⟩:=avaB_cells (w:=W1) (p:=w.heap.size) (t:=b.t) (v:=b.v) (by rw[←hW1];exact avaB_new _ _ _);obtain⟨y0,y1⟩:=avaB_cells (avaB_below hA.out hB1);obtain⟨t0,t1,t2⟩:=tb_cells (tb_below hT.out hB1);have HB1:=Lib.hid hB1;have HE1:=Lib.hid (envE_below hE.out hB1);clear hB1;by_cases ht:b.t=a.t
 ·have ht':=str_eq_beq ht;have hofb:ofB syn a b=decide (0≤likeI syn [b.v] a.v):=by unfold ofB;rw[decide_eq_true ht,Bool.true_and]
  have HOF:=Lib.hid hofb;have hB2:Below W1.heap.size W1 (W1.alloc (.cells #[.string b.v] 9)):=(Below.refl _ _).alloc (Nat.le_refl _) _;have y1b:=(avaB_cells (avaB_below (avaB_below hA.out HB1.out) hB2)).2;have HLK:Hid (Calls Tryz.prog 73 #[.agg #[.string nm,.int .i64 syn,.bool sg],.slice (some ⟨W1.heap.size,0,none⟩) 1 1,.string a.v] (W1.alloc (.cells #[.string b.v] 9)) fun e w'=>e= .returned (.int .i64 (likeI syn [b.v] a.v))∧Below (W1.alloc (.cells #[.string b.v] 9)).heap.size (W1.alloc (.cells #[.string b.v] 9)) w'):=Lib.hid (like_any nm syn sg (some ⟨W1.heap.size,0,none⟩) 1 [b.v] a.v (W1.alloc (.cells #[.string b.v] 9)) (Lib.hid (strs_one W1 b.v)) (by simp) (Lib.hid fun y hy=>by rw[List.mem_singleton]at hy;rw[hy];omega) (by omega) (Lib.hid (envE_below HE1.out hB2)));have HB2:=Lib.hid (HB1.out.trans (hB2.mono HB1.out.size));clear hofb hB2 ht;generalize likeI syn [b.v] a.v=lk at HLK HOF;by_cases hlk:0≤lk
  ·have d1:decide (0≤lk)=true:=decide_eq_true hlk;rw[d1]at HOF;clear hlk;go_enter Tryz.func86,Tryz.ntmps86;go_wp2_with fail;refine HLK.out.mono ?_;rintro e w2 ⟨rfl,hB⟩;have HB3:=Lib.hid (HB2.out.trans (hB.mono HB2.out.size));clear hB x0 x1 y0 y1 y1b t0 t1 t2 hW1;go_wp2_with fail;go_ret;exact⟨kt.ret_bool HOF.out.symm,HB3.out⟩
  ·have d1:decide (0≤lk)=false:=decide_eq_false hlk;rw[d1]at HOF;clear hlk;go_enter Tryz.func86,Tryz.ntmps86;go_wp2_with fail;refine HLK.out.mono ?_;rintro e w2 ⟨rfl,hB⟩;have HB3:=Lib.hid (HB2.out.trans (hB.mono HB2.out.size));clear hB x0 x1 y0 y1 y1b t0 t1 t2 hW1;go_wp2_with fail;go_ret;exact⟨kt.ret_bool HOF.out.symm,HB3.out⟩
 ·have ht':=ne_str ht;have HOF:Hid (ofB syn a b=false):=by show _=_;unfold ofB;rw[decide_eq_false ht,Bool.false_and]
  clear ht;go_enter Tryz.func86,Tryz.ntmps86;go_wp2_with fail;go_ret;exact⟨kt.ret_bool HOF.out.symm,HB1.out⟩
theorem aidx_any (f:Av→Bool)(pa pt:Nat)(ao:Option Addr)(cap:Nat)(l:List Av)(w:World)(hl:Hid (Avas w ao l))(hn:l.length≤1000000)
  (hF:Hid (∀W,∀x∈l,Below w.heap.size w W→Calls Tryz.prog 86 #[.agg #[.string x.t,.string x.v],.pointer (some ⟨pa,0,none⟩),.pointer (some ⟨pt,0,none⟩)] W fun e w'=>e= .returned (.bool (f x))∧Below W.heap.size W w')):
  Calls Tryz.prog 85 #[.slice ao l.length cap,.func (.func 86) #[] #[.pointer (some ⟨pa,0,none⟩),.pointer (some ⟨pt,0,none⟩)]] w fun e w'=>e= .returned (.bool (l.any f))∧Below w.heap.size w w':=by
 obtain⟨N,hN⟩: ∃N,l.length=N:=⟨_,rfl⟩;have HN:=Lib.hid hN;rw[hN];rw[hN]at hn;clear hN;have HIX:Hid (Calls Tryz.prog 134 #[.slice ao N cap,.func (.func 86) #[] #[.pointer (some ⟨pa,0,none⟩),.pointer (some ⟨pt,0,none⟩)]] w fun e w'=>(∃r:Int,decide (0≤r)=l.any f∧e= .returned (.int .i64 r))∧Below w.heap.size w w'):=by
  show Calls _ _ _ _ _;go_enter Tryz.func134,Tryz.ntmps134;go_wp2_with fail;go_loopw [8] (fun iv wr=> ∃i:Nat,i≤N∧iv= .int .i64 (i:Int)∧Hid (Below w.heap.size w wr)∧Hid (l.any f=(l.drop i).any f)) (fun iv _=>N- (intOf iv).toNat);case atStart=>exact⟨0,Nat.zero_le _,rfl,Below.refl _ _,rfl⟩
  case round=>
   obtain⟨i,hi,rfl,hB,hJ⟩:=hrel;have hsz:=hB.out.size;by_cases hlt:i<N
   ·have hltI:(i:Int)<(N:Int):=(by omega);have hil:i<l.length:=(by rw[HN.out];exact hlt);obtain⟨b,o,hao,c0,c1⟩:=(dnw.avas_below hl.out hB.out) i hil;subst hao;have HF:=Lib.hid (hF.out wr l[i] (List.getElem_mem _) hB.out);have HST:Hid ((l.drop i).any f=(f l[i]||(l.drop (i+1)).any f)):=any_step hil;obtain⟨x,hx⟩: ∃x,l[i]=x:=⟨_,rfl⟩;rw[hx]at HF c0 c1 HST;clear hx;cases hal:f x with
    | true=>rw[hal]at HF HST;have HR:Hid (true=l.any f):=(by show _=_;rw[hJ.out,HST.out];rfl);clear hal;go_wp2_with (go_at_call 86;refine HF.out.mono ?_;rintro e w1 ⟨rfl,hB1⟩);go_ret;exact⟨⟨(i:Int),by rw[←HR.out];exact decide_eq_true (by omega),rfl⟩,hB.out.trans (‹Below wr.heap.size wr _›.mono hsz)⟩
    | false=>
     rw[hal]at HF HST;have HJ:Hid (l.any f=(l.drop (i+1)).any f):=(by show _=_;rw[hJ.out,HST.out];rfl);clear hal;go_wp2_with (go_at_call 86;refine HF.out.mono ?_;rintro e w1 ⟨rfl,hB1⟩);go_roundw;case rel=>exact⟨i+1,by omega,by go_num,hB.out.trans (‹Below wr.heap.size wr _›.mono hsz),HJ⟩
     case measure=>simp[intOf];omega
   ·obtain rfl:N=i:=(by omega);have HR:Hid (false=l.any f):=(by show _=_;rw[hJ.out,←HN.out,List.drop_length];rfl);go_wp2_with fail;go_ret;exact⟨⟨-1,by rw[←HR.out];rfl,rfl⟩,hB.out⟩
 generalize l.any f=r0 at HIX ⊢;go_enter Tryz.func85,Tryz.ntmps85;go_wp2_with fail;refine HIX.out.mono ?_;rintro e w1 ⟨⟨r,hr,rfl⟩,hB1⟩;have HR:=Lib.hid hr;clear hr;by_cases h0:0≤r
 ·have d:=decide_eq_true h0;go_wp2_with fail;go_ret;exact⟨kt.ret_bool (by rw[←HR.out,d]),hB1⟩
 ·have d:=decide_eq_false h0;go_wp2_with fail;go_ret;exact⟨kt.ret_bool (by rw[←HR.out,d]),hB1⟩
end etw
open Go.RowKit
namespace etw
open atp atw etp
open tupw (Strs strs_below)
open Go.Sort
theorem scells_txt (l:List ByteArray):prw.scells l=(l.map (·.data.toList)).map encStr:=by unfold prw.scells;rw[List.map_map];apply List.map_congr_left;intro x _;rfl
def delL (l:List ByteArray)(k:Nat):List (List UInt8):=(l.take k++l.drop (k+1)).map (fun x=>x.data.toList)++[[]]
theorem del_list {l:List ByteArray}{k:Nat}(hk:k<l.length):(l.map (·.data.toList)).take k++(l.map (·.data.toList)).drop (k+1)++List.replicate (k+1-k) []=delL l k:=by unfold delL;rw[show k+1-k=1 by omega,List.map_append,List.map_take,List.map_drop];rfl
theorem delT {w:World}{B:Nat}{ao:Option Addr}{m cap:Nat}{l:List ByteArray}{k:Nat}(h:prw.OwnT w B (.slice ao m cap) l)(hl:l.length≤1000000)(hk:k<l.length)(hB:B≤w.heap.size)(I J:Int)(hI:I=(k:Int))(hJ:J=(k:Int)+1):
  Calls Tryz.prog 79 #[.slice ao m cap,.int .i64 I,.int .i64 J] w fun e w'=> ∃n,e= .returned (.slice ao n cap)∧prw.OwnT w' B (.slice ao n cap) (l.take k++l.drop (k+1))∧Below B w w':=by
 obtain⟨ss,hss⟩: ∃ss,ss=l.map (·.data.toList):=⟨_,rfl⟩;have hsl:ss.length=l.length:=by rw[hss];simp
 have hm:m=l.length:=by obtain⟨ao',cap',hv,_,_⟩:=prw.ownT_cells h;simp only[Value.slice.injEq]at hv;exact hv.2.1
 subst hm;subst hI;obtain rfl:J=((k+1:Nat):Int):=by omega
 have hrow:w.ownsRow B 9 1 (.slice ao l.length cap) ss.length (ss.map encStr):=by have h1:w.ownsRow B 9 1 (.slice ao l.length cap) (prw.scells l).length (prw.scells l):=h;rw[scells_txt,←hss,List.length_map]at h1;exact h1
 rcases hrow.2 with⟨hv,h0⟩ | ⟨g,cap',cur,hv,hBg,hg,h1,h2,h3,h4⟩
 ·exact absurd hk (by rw[←hsl,h0];omega)
 ·simp only[Value.slice.injEq]at hv;obtain⟨rfl,_,rfl⟩:=hv;rw[Nat.mul_one]at h4;have hH:=holds_of_block hg h4;have CS:=Tryz.slices_Delete_string g 0 cap k (k+1) ss w hH h1 (by unfold maxLen at h2;omega) (by omega) (by omega);rw[hsl]at CS;refine CS.mono ?_;rintro e w' ⟨rfl,q,rfl⟩;have hts:ss.take k++ss.drop (k+1)++List.replicate (k+1-k) []=delL l k:=by rw[hss];exact del_list hk
  rw[hts];have hb':=heap_sorted (os:=#[]) (n:=q) (delL l k).toArray hg;have hgr:=grownBy_sorted (w:=w) (g:=g) (n:=q) (os:=#[]) (delL l k).toArray;rw[grow_empty]at hb' hgr;have hll:(l.take k++l.drop (k+1)).length=l.length- (k+1-k):=by rw[List.length_append,List.length_take,List.length_drop];omega
  refine⟨l.length- (k+1-k),rfl,?_,(Below.refl B w).grown hgr hB (fun k hk=>by cases hk;exact hBg)⟩;have hsz:(delL l k).length≤cur.size:=by unfold delL;rw[List.length_append,List.length_map,hll,h3];simp only[List.length_cons,List.length_nil];omega
  have htk:=take_putCells cur _ hsz;unfold prw.OwnT;refine⟨(Nat.mul_one _).symm,.inr ⟨g,cap,_,?_,hBg,hb',?_,h2,?_,?_⟩⟩
  ·rw[prw.scells_length,hll]
  ·rw[prw.scells_length,hll];omega
  ·simp[putCells,h3]
  ·rw[Nat.mul_one,prw.scells_length,scells_txt];have e2:(l.take k++l.drop (k+1)).length≤(delL l k).length:=(by unfold delL;simp);have e3:=congrArg (List.take (l.take k++l.drop (k+1)).length) htk;rw[List.take_take,Nat.min_eq_left e2]at e3;rw[e3];unfold delL;rw[List.map_append,List.take_append_of_le_length (by simp),List.take_of_length_le (by simp)]
theorem drop_step {syn:Int}{left l:List ByteArray}{i:Nat}(h:i<l.length):dropF syn left (l.drop i)=match likeN syn left l[i]with
  | none=>none
  | some k=>dropF syn (left.take k++left.drop (k+1)) (l.drop (i+1)):=by
 rw[List.drop_eq_getElem_cons h];rfl
end etw
end Go.Proofs.YtcolcogobdgejaaGreatDoor
