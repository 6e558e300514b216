/- One text out of several: WithK, BdW, ResW, NamedW, SchN, SchO, AppW, SchD. -/
import Derived.Lib.SmallJoins
import Derived.Test.YtmnpfkbjpeaemaaGreatDoorQ11
import Derived.Test.YtmnpfkbjpeaemaaGreatDoorQ10
import Derived.Test.YtmnpfkbjpeaemaaGreatDoorQ6
import Derived.Test.YtmnpfkbjpeaemaaGreatDoorQ8
set_option linter.unusedVariables false
set_option linter.unusedSimpArgs false
set_option maxRecDepth 20000
set_option maxHeartbeats 16000000
namespace Go.Proofs.YtmnpfkbjpeaemaaGreatDoor
open Go.RowKit
namespace etw
open atp atw etp
open dnw (Av Avas)
open tupw (Strs strs_below)
def NoS (v:Value):Prop:= ∀s:ByteArray,v≠ .string s
theorem noS_slice (a:Option Addr)(n c:Nat):NoS (.slice a n c):=fun s h=>by cases h
theorem entB_str {w:World}{p:Nat}{r a:Value}(h:EntB w p r a)(hr:NoS r)(ha:NoS a)(o:Nat)(s:ByteArray):w.cell? ⟨p,o,none⟩≠some (.string s):=by
 rw[Lib.cell_of_heap h]
 match o with
 | 0=>intro e;simp at e;exact hr s e
 | 1=>intro e;simp at e;exact ha s e
 | k+2=>intro e;simp at e
theorem entB_set1 {w:World}{p:Nat}{r a:Value}(h:EntB w p r a)(u:Value):EntB (w.setCell ⟨p,1,none⟩ u) p r u:=Joins.block_setCell h u
theorem entB_set0 {w:World}{p:Nat}{r a:Value}(h:EntB w p r a)(u:Value):EntB (w.setCell ⟨p,0,none⟩ u) p u a:=Joins.block_setCell h u
theorem strs_set {w:World}{ao:Option Addr}{l:List ByteArray}{p:Nat}{r a:Value}(h:Strs w ao l)(hp:EntB w p r a)(hr:NoS r)(ha:NoS a)(j:Nat)(u:Value):Strs (w.setCell ⟨p,j,none⟩ u) ao l:=by intro i hi;obtain⟨b,o,e,hc⟩:=h i hi;refine⟨b,o,e,?_⟩;rw[World.cell?_setCell_other _ _ _ _ ?_,hc];intro e2;injection e2 with e3 _ _;subst e3;exact entB_str hp hr ha _ _ hc
theorem elem_set {w:World}{x:Value}{l:List ByteArray}{p:Nat}{r a:Value}(h:ElemAt w x l)(hp:EntB w p r a)(hr:NoS r)(ha:NoS a)(j:Nat)(u:Value):ElemAt (w.setCell ⟨p,j,none⟩ u) x l:=by obtain⟨b,c,h1,h2,h3⟩:=h;exact⟨b,c,h1,h2,strs_set h3 hp hr ha j u⟩
theorem avas_set {w:World}{ao:Option Addr}{l:List Av}{p:Nat}{r a:Value}(h:Avas w ao l)(hp:EntB w p r a)(hr:NoS r)(ha:NoS a)(j:Nat)(u:Value):Avas (w.setCell ⟨p,j,none⟩ u) ao l:=by
 intro i hi;obtain⟨b,o,e,h1,h2⟩:=h i hi;have hb:b≠p:=by rintro rfl;exact entB_str hp hr ha _ _ h1
 refine⟨b,o,e,?_,?_⟩
 ·rw[World.cell?_setCell_other _ _ _ _ (by intro e2;injection e2 with e3 _ _;exact hb e3.symm),h1]
 ·rw[World.cell?_setCell_other _ _ _ _ (by intro e2;injection e2 with e3 _ _;exact hb e3.symm),h2]
theorem ownA_ne {w:World}{B:Nat}{v:Value}{l:List AV}{p:Nat}{r a:Value}(h:OwnA w B v l)(hp:EntB w p r a):v.ownBlock≠some p:=by
 intro e;rcases h.outer.2 with⟨rfl,_⟩ | ⟨g,o,cap,pre,post,rfl,_,hg,_⟩
 ·cases e
 ·simp[Value.ownBlock]at e;subst e;unfold EntB at hp;rw[hg]at hp;simp at hp
theorem ownA_set {w:World}{B:Nat}{v:Value}{l:List AV}{p:Nat}{r a:Value}(h:OwnA w B v l)(hp:EntB w p r a)(hr:NoS r)(ha:NoS a)(j:Nat)(u:Value):OwnA (w.setCell ⟨p,j,none⟩ u) B v l:=by have hne:=ownA_ne h hp;refine⟨kt.segX_same h.outer fun k hk=>Below.heap_setCell _ _ _ _ (fun e=> ?_),fun x hx=>⟨elem_set (h.inner x hx).1 hp hr ha j u,(h.inner x hx).2⟩⟩;simp only at e;subst e;exact hne hk
theorem ownA_formC {w:World}{B:Nat}{v:Value}{l:List AV}(h:OwnA w B v l): ∃ao n cap,v= .slice ao n cap∧n≤cap:=by obtain⟨ao,n,cap,h1,_,h2⟩:=ownA_form h;exact⟨ao,n,cap,h1,h2⟩
def AppA (w:World)(B p:Nat)(rs av:Value)(t:ByteArray)(x:Value)(dl:List AV)(vs:List ByteArray)(w7:World)(ao7:Option Addr)(m7 cap7:Nat):Prop:=(Builtin.append_ #[24,24] 24 #[av,.slice (some ⟨w.heap.size,0,none⟩) 1 1]).run Tryz.prog (w.alloc (.cells #[.string t,x] 43))= .ok (.slice ao7 m7 cap7) w7
theorem appA {w:World}{B p:Nat}{rs av:Value}(t:ByteArray)(x:Value)(vs:List ByteArray)(dl:List AV)(hO:OwnA w B av dl)(hp:EntB w p rs av)(hrs:NoS rs)(hx:ElemAt w x vs)(hne:vs≠[]→ ∀k,x.ownBlock=some k→av.ownBlock≠some k)(hl:dl.length≤1000000)(hB:B≤w.heap.size):
  ∃ao7 m7 cap7 w7,AppA w B p rs av t x dl vs w7 ao7 m7 cap7∧w7.frozen? ⟨p,1,none⟩=false∧(∃u,w7.cell? ⟨p,1,none⟩=some u)∧
   EntB (w7.setCell ⟨p,1,none⟩ (.slice ao7 m7 cap7)) p rs (.slice ao7 m7 cap7)∧OwnA (w7.setCell ⟨p,1,none⟩ (.slice ao7 m7 cap7)) B (.slice ao7 m7 cap7) (dl++[(⟨t,vs⟩,x)])∧Below B w w7∧
   (∀k,k<w.heap.size→av.ownBlock≠some k→w7.heap[k]? =w.heap[k]?)∧(∀k,(Value.slice ao7 m7 cap7).ownBlock=some k→av.ownBlock=some k∨w.heap.size≤k):=by
 obtain⟨ao7,m7,cap7,w7,h1,h2,h3,_,_,h4,_,h5,h6⟩:=ownA_app t x vs hO hx hne hl hB;obtain⟨ao,n,cap,rfl,_⟩:=ownA_formC hO;have hp7:EntB w7 p rs (.slice ao n cap):=(h5 p (kt.bld_lt hp) (ownA_ne hO hp)).trans hp;exact⟨ao7,m7,cap7,w7,h1,Lib.frozen_of_heap hp7 1,⟨_,(entB_cells hp7).2⟩,entB_set1 hp7 _,ownA_set h2 hp7 hrs (noS_slice _ _ _) _ _,h3,h5,h6⟩
theorem grown_step {w4 wr w5 w7:World}{p:Nat}(h:w4.grownBy wr (some p))(h5:Below wr.heap.size wr w5)(h7:Below w4.heap.size w5 w7)(j:Nat)(u:Value):w4.grownBy (w7.setCell ⟨p,j,none⟩ u) (some p):=by
 refine⟨h7.os.trans (h5.os.trans h.os),h7.tape.trans (h5.tape.trans h.tape),h7.output.trans (h5.output.trans h.output),?_,fun k hk hne=> ?_⟩
 ·have:=h.size;have:=h5.size;have:=h7.size;simp;omega
 ·rw[Below.heap_setCell _ _ _ _ (fun e=>hne (by rw[e])),h7.block k hk,h5.block k (Nat.lt_of_lt_of_le hk h.size),h.block k hk hne]
theorem grown_below {w4 wr w5:World}{p:Nat}(h:w4.grownBy wr (some p))(h5:Below wr.heap.size wr w5):w4.grownBy w5 (some p):=⟨h5.os.trans h.os,h5.tape.trans h.tape,h5.output.trans h.output,Nat.le_trans h.size h5.size,fun k hk hne=>(h5.block k (Nat.lt_of_lt_of_le hk h.size)).trans (h.block k hk hne)⟩
theorem grown_refl (w:World)(p:Nat):w.grownBy w (some p):=⟨rfl,rfl,rfl,Nat.le_refl _,fun _ _ _=>rfl⟩
theorem attrB_set {w:World}{A p j:Nat}{t:ByteArray}{v:Value}(h:AttrB w A t v)(hp:A≠p)(u:Value):AttrB (w.setCell ⟨p,j,none⟩ u) A t v:=(Below.heap_setCell _ _ _ _ hp).trans h
theorem ownT_new {w:World}{B:Nat}{x:Value}{l:List ByteArray}(h:prw.OwnT w B x l): ∀k,x.ownBlock=some k→B≤k:=fun k hk=>(World.ownsRow.lt h k hk).1
theorem ownA_old {w:World}{B:Nat}{v:Value}{l:List AV}(h:OwnA w B v l): ∀k,v.ownBlock=some k→k<w.heap.size:=fun k hk=>(kt.segX_lt h.outer k hk).2
theorem attrB_app {w w7:World}{A p:Nat}{t:ByteArray}{v av u:Value}(h:AttrB w A t v)(hne:av.ownBlock≠some A)(hp:A≠p)(h5: ∀k,k<w.heap.size→av.ownBlock≠some k→w7.heap[k]? =w.heap[k]?):AttrB (w7.setCell ⟨p,1,none⟩ u) A t v:=attrB_set ((h5 A (kt.bld_lt h) hne).trans h) hp u
def EntE (E:En)(w:World)(e:Ending)(w':World):Prop:= ∃v,e= .returned v∧EntV w' v E∧Below w.heap.size w w'
theorem withF_step {n:ByteArray}{l:List ByteArray}{d:Bool}{L:List At}{i:Nat}(h:i<L.length):withF n l d (L.drop i)=(if(!d&& !ltB L[i].t n)=true then[⟨n,l⟩]else[])++((if L[i].t=n then[]else[L[i]])++withF n l (d||(!d&& !ltB L[i].t n)) (L.drop (i+1))):=by rw[List.drop_eq_getElem_cons h];show _++_++_=_;rw[List.append_assoc]
def avc (a:Av):List Value:=[.string a.t,.string a.v]
theorem avc_at {l:List Av}: ∀ {j:Nat} {u:Value},(l.flatMap avc)[j]? =some u→ ∃i,∃hi:i<l.length,(j=i*2∧u= .string l[i].t)∨(j=i*2+1∧u= .string l[i].v):=by
 induction l with
 | nil=>intro j u h;simp at h
 | cons a t ih=>
  intro j u h;rw[List.flatMap_cons]at h
  match j,h with
  | 0,h=>exact⟨0,by simp,Or.inl ⟨rfl,by simp[avc]at h;exact h.symm⟩⟩
  | 1,h=>exact⟨0,by simp,Or.inr ⟨rfl,by simp[avc]at h;exact h.symm⟩⟩
  | k+2,h=>
   rw[List.getElem?_append_right (by simp[avc])]at h;obtain⟨i,hi,h2⟩:=ih (j:=k) (u:=u) (by simpa[avc]using h);refine⟨i+1,by simpa using hi,?_⟩;rcases h2 with⟨rfl,rfl⟩ | ⟨rfl,rfl⟩
   ·exact Or.inl ⟨by omega,rfl⟩
   ·exact Or.inr ⟨by omega,rfl⟩
theorem avc_len (l:List Av):(l.flatMap avc).length=l.length*2:=kt.flat_len avc 2 (fun _=>rfl) l
theorem infoAv:(Tryz.prog.info? 51).map (fun i=>(i.zero,i.size,i.bytes))=some (some (.agg #[.string ByteArray.empty,.string ByteArray.empty]),2,32):=by kernel_rfl
theorem segX_empty (w:World)(e:TypeId)(sz:Nat)(B:Nat)(hB:B≤w.heap.size):kt.SegX (w.alloc (.cells #[] e)) B e sz (.slice (some ⟨w.heap.size,0,none⟩) 0 0) 0 []:=⟨by simp,Or.inr ⟨w.heap.size,0,0,[],[],rfl,hB,heap_alloc_new w _,rfl,Nat.le_refl _,by unfold maxLen;omega,by simp⟩⟩
theorem seg_avas {w:World}{B:Nat}{v:Value}{l:List Av}(h:kt.SegX w B 51 2 v l.length (l.flatMap avc)): ∃ao cap,v= .slice ao l.length cap∧l.length≤cap∧Avas w ao l:=by
 obtain⟨ao,cap,rfl,hc⟩:=kt.segX_slice h;refine⟨ao,cap,rfl,hc,fun i hi=> ?_⟩;obtain⟨g,o,cap',hv,_,_,hcell⟩:=kt.segX_cell h (by omega);simp only[Value.slice.injEq]at hv;obtain⟨rfl,_,rfl⟩:=hv;have hj: ∀j,j<2→(l.flatMap avc)[i*2+j]? =(avc l[i])[j]? :=fun j hj=>kt.flat_get avc 2 (fun _=>rfl) l i j hi hj;refine⟨g,o,rfl,?_,?_⟩
 ·exact hcell _ _ (hj 0 (by omega))
 ·rw[Nat.add_assoc];exact hcell _ _ (hj 1 (by omega))
def ClonA (l:List Av)(w:World)(e:Ending)(w':World):Prop:= ∃ao cap,e= .returned (.slice ao l.length cap)∧l.length≤cap∧Avas w' ao l∧Below w.heap.size w w'
theorem cloneA_any (ao:Option Addr)(cap:Nat)(l:List Av)(w:World)(hA:Hid (Avas w ao l))(hl:l.length≤1000000):Calls Tryz.prog 149 #[.slice ao l.length cap] w fun e w'=>ClonA l w e w':=by
 have HRES:Hid (∀ao' n' cap' w',n'=l.length→n'≤cap'→Avas w' ao' l→Below w.heap.size w w'→ClonA l w (.returned (.slice ao' n' cap')) w'):=fun ao' n' cap' w' h1 h2 h3 h4=>by subst h1;exact⟨ao',cap',rfl,h2,h3,h4⟩
 cases ao with
 | none=>
  have h0:l=[]:=by
   cases l with
   | nil=>rfl
   | cons a t=>obtain⟨b,o,e,_⟩:=hA.out 0 (by simp);cases e
  subst h0;have hnil:(binOp .eql 23 (.slice none 0 cap) (.slice none 0 0)).run Tryz.prog w= .ok (.bool true) w:=Lib.run_eql_slice_nil w 23 51 none 0 cap 0 0 Tryz.underlying23;go_enter Tryz.func149,Tryz.ntmps149;go_wp2_with fail;go_ret;exact HRES.out none 0 0 _ rfl (Nat.le_refl _) (fun i hi=>absurd hi (Nat.not_lt_zero i)) (Below.refl _ _)
 | some p=>
  have hp:l≠[]→p=⟨p.block,p.off,none⟩:=by
   intro hne;cases l with
   | nil=>exact absurd rfl hne
   | cons a t=>obtain⟨b,o,e,_⟩:=hA.out 0 (by simp);cases e;rfl
  have hA0:Below w.heap.size w (w.alloc (.cells #[] 51)):=(Below.refl _ _).alloc (Nat.le_refl _) _;obtain⟨v',w1,hap,hs,hg,_⟩:=kt.segX_append (P:=Tryz.prog) (t:=23) (ty:=23) Tryz.underlying23 infoAv rfl (by omega) (w:=w.alloc (.cells #[] 51)) (B:=w.heap.size) p l.length cap (l.flatMap avc) (avc_len l) (fun j u hj=>by
   obtain⟨i,hi,h⟩:=avc_at hj;obtain⟨b,o,e,h1,h2⟩:=dnw.avas_below hA.out hA0 i hi;have e':p=⟨b,o,none⟩:=(by simpa using e);rw[e',Addr.add_mid];rcases h with⟨rfl,rfl⟩ | ⟨rfl,rfl⟩
   ·exact h1
   ·rw[←Nat.add_assoc];exact h2) (by
    intro u hu;obtain⟨j,hj,rfl⟩:=List.mem_iff_getElem.1 hu;obtain⟨i,hi,h⟩:=avc_at (List.getElem?_eq_getElem hj);rcases h with⟨_,h⟩ | ⟨_,h⟩<;>rw[h]<;>rfl) (segX_empty w _ _ _ (Nat.le_refl _)) (by unfold maxLen;omega) (by omega) (by simp)
  rw[Nat.zero_add,List.nil_append]at hs;obtain⟨ao',cap',rfl,hc,hav⟩:=seg_avas hs;have HAP:=Lib.hid hap;have HAV:=Lib.hid hav;have HB:=Lib.hid (hA0.trans ((Below.refl _ _).grown hg (by simp) (fun k hk=>by simp[Value.ownBlock]at hk;omega)));obtain⟨N,hN⟩: ∃N,l.length=N:=⟨_,rfl⟩;have HN:=Lib.hid hN;rw[hN]at HAP hc ⊢;clear hap hs hg hav hp hA0 hN;have hap:=HAP.out;clear HAP;have hnil:(binOp .eql 23 (.slice (some p) N cap) (.slice none 0 0)).run Tryz.prog w= .ok (.bool false) w:=Lib.run_eql_slice_nil w 23 51 (some p) N cap 0 0 Tryz.underlying23;go_enter Tryz.func149,Tryz.ntmps149;go_wp2_with (at_builtin;refine Lib.wpList_append_run _ rfl _ _ _ _ rfl _ _ rfl rfl _ _ hap ?_);go_ret;exact HRES.out _ _ _ _ HN.out.symm hc HAV.out HB.out
end etw
open Go.RowKit
namespace etw
open atp atw etp
open dnw (Av Avas)
structure Bk (k:Nat)(e:En):Prop where
 rl:e.rdn.length≤1000
 rs: ∀a∈e.rdn,a.t.size≤1000∧a.v.size≤1200
 al:e.ats.length≤k
 as_: ∀a∈e.ats,a.t.size≤1000∧a.vs.length≤50∧ ∀v∈a.vs,v.size≤1200
theorem bk_bd {k:Nat}{e:En}(h:Bk k e)(hk:k≤100000):Bd e:=⟨by have:=h.rl;omega,fun a ha=>by have:=h.rs a ha;omega,by have:=h.al;omega,fun a ha=>by have:=h.as_ a ha;exact⟨by omega,by omega,fun v hv=>by have:=this.2.2 v hv;omega⟩⟩
theorem withF_mem {n:ByteArray}{l:List ByteArray}: ∀ {L:List At} {d:Bool} {a:At},a∈withF n l d L→a∈L∨a=⟨n,l⟩
 | [],d,a,h=>by
  unfold withF at h;split at h
  ·cases h
  ·rw[List.mem_singleton]at h;exact Or.inr h
 | b::r,d,a,h=>by
  unfold withF at h;simp only[List.mem_append]at h;rcases h with(h | h) | h
  ·split at h
   ·rw[List.mem_singleton]at h;exact Or.inr h
   ·cases h
  ·split at h
   ·cases h
   ·rw[List.mem_singleton]at h;rw[h];exact Or.inl (by simp)
  ·rcases withF_mem h with h | h
   ·exact Or.inl (by simp[h])
   ·exact Or.inr h
theorem withF_len {n:ByteArray}{l:List ByteArray}: ∀ (L:List At) (d:Bool),(withF n l d L).length≤L.length+(if d then 0 else 1)
 | [],d=>by unfold withF;cases d<;>simp
 | b::r,d=>by
  unfold withF;have h:=withF_len (n:=n) (l:=l) r (d||(!d&& !ltB b.t n));simp only[List.length_append,List.length_cons];generalize ltB b.t n=x at h ⊢;have h2:(if b.t=n then([]:List At)else[b]).length≤1:=by split<;>simp
  generalize(if b.t=n then([]:List At)else[b]).length=y at h2 ⊢;cases d<;>cases x<;>simp at h ⊢ <;>omega
theorem bk_with {k:Nat}{e:En}{n:ByteArray}{l:List ByteArray}(h:Bk k e)(hn:n.size≤1000)(hl:l.length≤50)(hv: ∀v∈l,v.size≤1200):Bk (k+1) (withE e n l):=by
 refine⟨h.rl,h.rs,?_,fun a ha=> ?_⟩
 ·have h1:=withF_len (n:=n) (l:=l) e.ats (decide (l=[]));have h2:=h.al;show(withF n l (decide (l=[])) e.ats).length≤k+1;split at h1<;>omega
 ·rcases withF_mem ha with ha | ha
  ·exact h.as_ a ha
  ·rw[ha];exact⟨hn,hl,hv⟩
theorem bk_vals {k:Nat}{e:En}(h:Bk k e)(n:ByteArray):(valsA e.ats n).length≤50∧ ∀v∈valsA e.ats n,v.size≤1200:=by
 unfold valsA;cases hf:e.ats.find? fun a=>decide (a.t=n)with
 | none=>exact⟨by simp,by simp⟩
 | some a=>exact(h.as_ a (List.mem_of_find?_eq_some hf)).2
theorem ty_size: ∀j:Fin 20,(tys[j.val]'(j.isLt)).name.length≤1000:=by decide+kernel
theorem name_size {n:List UInt8}{ty:Ty}(h:findS n=some ty):(bs ty.name).size≤1000:=by obtain⟨i,hi,e⟩:=List.mem_iff_getElem.1 (findS_some h).1;rw[bs_size,←e];exact ty_size ⟨i,hi⟩
theorem bk_add {k:Nat}{e a:En}{n:List UInt8}{l:List ByteArray}(h:Bk k e)(hl: ∀v∈l,v.size≤1200)(ha:addE e n l= .ok a):Bk (k+1) a:=by
 obtain⟨ty,h1,h2,h3,h4,h5,h6,rfl⟩:=add_ok ha;have hm:mostT ty.single≤20:=by unfold mostT;split<;>omega
 refine bk_with h (name_size h2) (by omega) fun v hv=> ?_;rcases List.mem_append.1 hv with hv | hv
 ·exact(bk_vals h _).2 v hv
 ·exact hl v hv
end etw
open Go.RowKit
namespace etw
open atp atw etp
open dnw (Av Avas)
open tupw (Strs strs_below)
theorem entV_set {w:World}{v:Value}{E:En}{p:Nat}{r a:Value}(h:EntV w v E)(hp:EntB w p r a)(hr:NoS r)(ha:NoS a)(j:Nat)(u:Value):EntV (w.setCell ⟨p,j,none⟩ u) v E:=by
 obtain⟨ro,rc,ao,ac,h1,h2,h3,h4,h5⟩:=h;refine⟨ro,rc,ao,ac,h1,h2,h3,avas_set h4 hp hr ha j u,fun i hi=> ?_⟩;obtain⟨b,o,x,c,e,q0,q1,q2,q3⟩:=h5 i hi;have hb:b≠p:=by rintro rfl;exact entB_str hp hr ha _ _ q0
 refine⟨b,o,x,c,e,?_,?_,q2,strs_set q3 hp hr ha j u⟩
 ·rw[World.cell?_setCell_other _ _ _ _ (by intro e2;injection e2 with e3 _ _;exact hb e3.symm),q0]
 ·rw[World.cell?_setCell_other _ _ _ _ (by intro e2;injection e2 with e3 _ _;exact hb e3.symm),q1]
def ResE (r:Except Int En)(w:World)(e:Ending)(w':World):Prop:=Below w.heap.size w w'∧match r with
 | .ok E=> ∃v,e= .returned (.tuple #[v,.int .i64 0])∧EntV w' v E
 | .error f=>e= .returned (.tuple #[.agg #[.slice none 0 0,.slice none 0 0],.int .i64 f])
theorem join_step {syn:Int}{all l:List ByteArray}{i:Nat}(h:i<l.length):joinF syn all (l.drop i)=if likeI syn all l[i]<0 then joinF syn (all++[l[i]]) (l.drop (i+1))else none:=by rw[List.drop_eq_getElem_cons h];rfl
theorem ent_agg {w:World}{v:Value}{E:En}(h:EntV w v E): ∃r1 n1 c1 r2 n2 c2,v= .agg #[.slice r1 n1 c1,.slice r2 n2 c2]:=by obtain⟨ro,rc,ao,ac,rfl,_⟩:=h;exact⟨_,_,_,_,_,_,rfl⟩
theorem find_err {E:En}{n:List UInt8}{f:Int}(h:findE E n= .error f):f≠0:=by
 unfold findE at h;split at h
 ·cases h;decide
 ·split at h
  ·cases h;decide
  ·cases h
end etw
open Go.RowKit
namespace etw
open atp atw etp
open dnw (Av Avas)
open tupw (Strs strs_below)
theorem like_nil (syn:Int)(v:ByteArray):likeI syn [] v= -1:=rfl
theorem vals_not {L:List At}{n:ByteArray}(h:atsF none L=true)(hn:tyOf n=none):valsA L n=[]:=by refine find_no fun a ha e=> ?_;have:=((atsF_iff L none).1 h).1 a ha;unfold atOK at this;rw[e,hn]at this;cases this
theorem named_step {L:List At}{a:Av}{ty:Ty}(h:atsF none L=true)(hf:findS (sml.lowL a.t.data.toList)=some ty):namedA L a=decide (0≤likeI ty.syn (valsA L a.t) a.v):=by
 have hn:=find_name hf;unfold namedA;show(match tyOf a.t with
  | none=>false
  | some ty=>decide (0≤likeI ty.syn (valsA L a.t) a.v))=_
 by_cases e:bs ty.name=a.t
 ·rw[if_pos e]at hn;rw[hn]
 ·rw[if_neg e]at hn;rw[hn,vals_not h hn,like_nil];rfl
theorem named_none {L:List At}{a:Av}(hf:findS (sml.lowL a.t.data.toList)=none):namedA L a=false:=by unfold namedA;have:=find_none hf;unfold tyOf at this;rw[this]
theorem all_step {α:Type}{f:α→Bool}{l:List α}{i:Nat}(h:i<l.length):(l.drop i).all f=(f l[i]&&(l.drop (i+1)).all f):=by rw[List.drop_eq_getElem_cons h,List.all_cons]
def AvaB (w:World)(p:Nat)(t v:ByteArray):Prop:=w.heap[p]? =some (.cells #[.string t,.string v] 51 (0,0))
theorem avaB_new (w:World)(t v:ByteArray):AvaB (w.alloc (.cells #[.string t,.string v] 51)) w.heap.size t v:=heap_alloc_new w _
theorem avaB_cells {w:World}{p:Nat}{t v:ByteArray}(h:AvaB w p t v):w.cell? ⟨p,0,none⟩=some (.string t)∧w.cell? ⟨p,1,none⟩=some (.string v):=⟨by rw[Lib.cell_of_heap h];rfl,by rw[Lib.cell_of_heap h];rfl⟩
theorem avaB_below {w w':World}{p:Nat}{t v:ByteArray}(h:AvaB w p t v)(hb:Below w.heap.size w w'):AvaB w' p t v:=(hb.block p (kt.bld_lt h)).trans h
theorem named_any (v:Value)(E:En)(w:World)(hv:Hid (EntV w v E))(hb:Hid (Bd E))(hE:Hid (EnvE w)):
  Calls Tryz.prog 63 #[v] w fun e w'=>e= .returned (.bool (namedE E))∧Below w.heap.size w w':=by
 have HRI0:Hid (∀W,Below w.heap.size w W→Calls Tryz.prog 71 #[v] W fun e w'=>e= .returned (.bool (rightE E))∧Below W.heap.size W w'):=fun W h=>right_any v E W (Lib.hid (entV_below hv.out h)) hb (Lib.hid (envE_below hE.out h));have HV0:Hid (∀m W,Below w.heap.size w W→Calls Tryz.prog 88 #[v,.string m] W fun e w'=>ValsE (valsA E.ats m) W e w'):=fun m W h=>vals_any v E m W (Lib.hid (entV_below hv.out h)) hb;have HK0:Hid (∀nm syn sg m a c k (x:ByteArray) W,x.size≤140737488351232→Hid (k=(valsA E.ats m).length)→Strs W a (valsA E.ats m)→EnvE W→Calls Tryz.prog 89 #[.agg #[.string nm,.int .i64 syn,.bool sg],.slice a k c,.string x] W fun e w'=>e= .returned (.int .i64 (likeI syn (valsA E.ats m) x))∧Below W.heap.size W w'):=by intro nm syn sg m a c k x W hx hk hs he;have:=like_any nm syn sg a c (valsA E.ats m) x W (Lib.hid hs) (by have:=(vals_len hb.out m).1;omega) (vals_fit hb.out m) hx (Lib.hid he);rw[←hk.out]at this;exact this
 have HRS:=Lib.hid hb.out.rs;have HNE:Hid (namedE E=(rightE E&&E.rdn.all (namedA E.ats))):=rfl;have HAF:Hid (rightE E=true→atsF none E.ats=true):=fun h=>(right_iff.1 h).2;obtain⟨ro,rc,ao,ac,Nr,N,rfl,HN,HA,hac,HNr,HAv,hrc⟩:=ent_form hv.out;have hNrb:Nr≤100000:=by rw[←HNr.out];exact hb.out.rl
 obtain⟨rdn,L⟩:=E;simp only at HN HA HNr HAv HRS HNE HAF HK0 HV0;obtain⟨W1,hW1⟩: ∃W,w.alloc (.cells #[.slice ro Nr rc,.slice ao N ac] 26)=W:=⟨_,rfl⟩;have hB1:Below w.heap.size w W1:=by rw[←hW1];exact(Below.refl _ _).alloc (Nat.le_refl _) _
 have HT1:Hid (EntB W1 w.heap.size (.slice ro Nr rc) (.slice ao N ac)):=by rw[←hW1];exact entB_new _ _ _
 obtain⟨k0,k1⟩:=entB_cells HT1.out;have HB1:=Lib.hid hB1;have hs1:=hB1.size;have HRI:=Lib.hid (HRI0.out W1 hB1);rw[HNE.out];clear hB1 HRI0 HNE hv;cases hr:rightE ⟨rdn,L⟩with
 | false=>rw[hr]at HRI;clear hr;go_enter Tryz.func63,Tryz.ntmps63;go_wp2_with fail;refine HRI.out.mono ?_;rintro e w2 ⟨rfl,hB2⟩;have HB2:=Lib.hid (HB1.out.trans (hB2.mono hs1));clear hB2 k0 k1 hW1;go_wp2_with fail;go_ret;exact⟨rfl,HB2.out⟩
 | true=>
  have HAT:=Lib.hid (HAF.out hr);rw[hr]at HRI;rw[Bool.true_and];clear hr HAF;go_enter Tryz.func63,Tryz.ntmps63;go_wp2_with fail;refine HRI.out.mono ?_;rintro e w0 ⟨rfl,hB0⟩;have HB0:=Lib.hid (HB1.out.trans (hB0.mono hs1));have HT0:=Lib.hid (entB_below HT1.out hB0);obtain⟨m0,m1⟩:=entB_cells HT0.out;have hs0:=HB0.out.size;clear hB0 k0 k1 hW1 HRI HT1 HB1 hs1;have HB1:=HB0;have hs1:=hs0;go_wp2_with fail;go_loopw [13] (fun iv wr=> ∃i:Nat,i≤Nr∧iv= .int .i64 (i:Int)∧Hid (Below w0.heap.size w0 wr)∧Hid (rdn.all (namedA L)=(rdn.drop i).all (namedA L))) (fun iv _=>Nr- (intOf iv).toNat);case atStart=>exact⟨0,Nat.zero_le _,rfl,Below.refl _ _,rfl⟩
  case round=>
   obtain⟨i,hi,rfl,hB,hJ⟩:=hrel;have hsz:=hB.out.size;have HBw:=Lib.hid (HB1.out.trans (hB.out.mono hs1));have HTr:=Lib.hid (entB_below HT0.out hB.out);by_cases hlt:i<Nr
   ·have hltI:(i:Int)<(Nr:Int):=(by omega);have hil:i<rdn.length:=(by rw[HNr.out];exact hlt);obtain⟨b,o,hro,q0,q1⟩:=(dnw.avas_below HAv.out HBw.out) i hil;subst hro;have HST:=Lib.hid (all_step (f:=namedA L) hil);have hbd:=HRS.out rdn[i] (List.getElem_mem _);obtain⟨a,ha⟩: ∃a,rdn[i]=a:=⟨_,rfl⟩;rw[ha]at HST hbd q0 q1;clear ha;have hts:=hbd.1;have hvs:=hbd.2;obtain⟨Wa,hWa⟩: ∃W,wr.alloc (.cells #[.string a.t,.string a.v] 51)=W:=⟨_,rfl⟩;have hBA:Below wr.heap.size wr Wa:=(by rw[←hWa];exact(Below.refl _ _).alloc (Nat.le_refl _) _);have HTA:Hid (AvaB Wa wr.heap.size a.t a.v):=(by rw[←hWa];exact avaB_new _ _ _);have HYr:Hid (TyEnv Wa):=(envE_below (envE_below hE.out HBw.out) hBA).y;have HBA:=Lib.hid hBA;obtain⟨xa,xb⟩:=avaB_cells HTA.out;have HFD0:Hid (∀W,TyEnv W→Calls Tryz.prog 74 #[.string a.t] W fun e w'=>e= .returned (resT (findS (sml.lowL a.t.data.toList)))∧Below W.heap.size W w'):=fun W hy=>find_any a.t W (by omega) (Lib.hid hy);clear hbd hBA;cases hfd:findS (sml.lowL a.t.data.toList)with
    | none=>rw[hfd]at HFD0;obtain⟨nm,syn,sg,HFD⟩: ∃nm syn sg,Hid (∀W,TyEnv W→Calls Tryz.prog 74 #[.string a.t] W fun e w'=>e= .returned (.tuple #[.agg #[.string nm,.int .i64 syn,.bool sg],.bool false])∧Below W.heap.size W w'):=⟨_,_,_,HFD0⟩;have HJ:Hid (rdn.all (namedA L)=false):=(by show _=_;rw[hJ.out,HST.out,named_none hfd];rfl);clear hfd HFD0 HV0 HK0;go_wp2_with fail;refine(HFD.out _ HYr.out).mono ?_;rintro e w2 ⟨rfl,hB2⟩;obtain⟨w3,hw3⟩: ∃W,w2.alloc (.cells #[.string nm,.int .i64 syn,.bool sg] 108)=W:=⟨_,rfl⟩;have hB3:Below w2.heap.size w2 w3:=(by rw[←hw3];exact(Below.refl _ _).alloc (Nat.le_refl _) _);obtain⟨y0,y1,y2⟩:=tb_cells (w:=w3) (p:=w2.heap.size) (nm:=nm) (syn:=syn) (sg:=sg) (by rw[←hw3];exact tb_new _ _ _ _);have hA23:=hB2.trans (hB3.mono hB2.size);have hBa:Below wr.heap.size wr w3:=HBA.out.trans (hA23.mono HBA.out.size);obtain⟨x0,x1⟩:=avaB_cells (avaB_below HTA.out hA23);obtain⟨z0,z1⟩:=entB_cells (entB_below HTr.out hBa);have HBr3:=Lib.hid (hB.out.trans (hBa.mono hsz));have HBw3:=Lib.hid (HB1.out.trans (HBr3.out.mono hs1));have hla:=World.block_lt_of_cell? w3 _ x0;have hly:=World.block_lt_of_cell? w3 _ y0;have hlz:=World.block_lt_of_cell? w3 _ z0;have HE3:=Lib.hid (envE_below hE.out HBw3.out);clear hB2 hB3 hBa hA23;go_wp2_with fail;refine wp_region_held_drew (S:=fun W=>W.cell? ⟨w.heap.size,0,none⟩=some (.slice (some ⟨b,o,none⟩) Nr rc)∧W.cell? ⟨w.heap.size,1,none⟩=some (.slice ao N ac)∧W.cell? ⟨wr.heap.size,0,none⟩=some (.string a.t)∧W.cell? ⟨wr.heap.size,1,none⟩=some (.string a.v)∧W.cell? ⟨w2.heap.size,0,none⟩=some (.string nm)∧W.cell? ⟨w2.heap.size,1,none⟩=some (.int .i64 syn)∧W.cell? ⟨w2.heap.size,2,none⟩=some (.bool sg)) (by kernel_rfl) (⟨z0,z1,x0,x1,y0,y1,y2⟩) (fun hHeld=> ?_);refine tk 0 ⟨some 23,_,_,_,_,_⟩ rfl ?_;refine tk 1 ⟨some 24,_,_,_,_,_⟩ rfl ?_;refine tk 2 ⟨some 25,_,_,_,_,_⟩ rfl ?_;refine tu 3 ⟨some 26,_,_,_,_,_⟩ rfl ?_;refine tu 4 ⟨some 27,_,_,_,_,_⟩ rfl ?_;refine tu 5 ⟨some 28,_,_,_,_,_⟩ rfl ?_;refine tu 6 ⟨some 29,_,_,_,_,_⟩ rfl ?_;refine tu 7 ⟨some 30,_,_,_,_,_⟩ rfl ?_;refine tu 8 ⟨some 31,_,_,_,_,_⟩ rfl ?_;refine tu 9 ⟨some 32,_,_,_,_,_⟩ rfl ?_;refine tu 10 ⟨some 33,_,_,_,_,_⟩ rfl ?_;refine tu 11 ⟨some 34,_,_,_,_,_⟩ rfl ?_;refine tk 12 ⟨some 35,_,_,_,_,_⟩ rfl ?_;refine wpAnyH_done (by kernel_rfl) ?_ _;clear hHeld;go_wp2_with fail;go_ret;exact⟨kt.ret_bool HJ.out.symm,HBw3.out.drew⟩
    | some ty=>
     rw[hfd]at HFD0;have HNS:=Lib.hid (named_step HAT.out hfd);have HFD1:Hid (∀W,TyEnv W→Calls Tryz.prog 74 #[.string a.t] W fun e w'=>e= .returned (.tuple #[.agg #[.string (bs ty.name),.int .i64 ty.syn,.bool ty.single],.bool true])∧Below W.heap.size W w'):=HFD0;clear hfd HFD0;generalize bs ty.name=nm at HFD1;generalize ty.syn=syn at HFD1 HNS;generalize ty.single=sg at HFD1;have HFD:=HFD1;have HK1:Hid (∀a' c k W,Hid (k=(valsA L a.t).length)→Strs W a' (valsA L a.t)→EnvE W→Calls Tryz.prog 89 #[.agg #[.string nm,.int .i64 syn,.bool sg],.slice a' k c,.string a.v] W fun e w'=>e= .returned (.int .i64 (likeI syn (valsA L a.t) a.v))∧Below W.heap.size W w'):=fun a' c k W=>HK0.out nm syn sg a.t a' c k a.v W (by omega);have HK:=HK1;clear HFD1 HK0 HK1;generalize likeI syn (valsA L a.t) a.v=lk at HK HNS;by_cases hneg:lk<0
     ·have q2:decide (lk<0)=true:=decide_eq_true hneg;have HJ:Hid (rdn.all (namedA L)=false):=(by show _=_;rw[hJ.out,HST.out,HNS.out,decide_eq_false (by omega)];rfl);clear hneg;go_wp2_with fail;refine(HFD.out _ HYr.out).mono ?_;rintro e w2 ⟨rfl,hB2⟩;obtain⟨w3,hw3⟩: ∃W,w2.alloc (.cells #[.string nm,.int .i64 syn,.bool sg] 108)=W:=⟨_,rfl⟩;have hB3:Below w2.heap.size w2 w3:=(by rw[←hw3];exact(Below.refl _ _).alloc (Nat.le_refl _) _);obtain⟨y0,y1,y2⟩:=tb_cells (w:=w3) (p:=w2.heap.size) (nm:=nm) (syn:=syn) (sg:=sg) (by rw[←hw3];exact tb_new _ _ _ _);have hA23:=hB2.trans (hB3.mono hB2.size);have hBa:Below wr.heap.size wr w3:=HBA.out.trans (hA23.mono HBA.out.size);obtain⟨x0,x1⟩:=avaB_cells (avaB_below HTA.out hA23);obtain⟨z0,z1⟩:=entB_cells (entB_below HTr.out hBa);have HBr3:=Lib.hid (hB.out.trans (hBa.mono hsz));have HBw3:=Lib.hid (HB1.out.trans (HBr3.out.mono hs1));have hla:=World.block_lt_of_cell? w3 _ x0;have hly:=World.block_lt_of_cell? w3 _ y0;have hlz:=World.block_lt_of_cell? w3 _ z0;have HE3:=Lib.hid (envE_below hE.out HBw3.out);clear hB2 hB3 hBa hA23;have HV:Hid (∀W,Below w3.heap.size w3 W→_):=fun W h=>HV0.out a.t W (HBw3.out.trans (h.mono HBw3.out.size));go_wp2_with fail;refine wp_region_held_drew (S:=fun W=>W.cell? ⟨w.heap.size,0,none⟩=some (.slice (some ⟨b,o,none⟩) Nr rc)∧W.cell? ⟨w.heap.size,1,none⟩=some (.slice ao N ac)∧W.cell? ⟨wr.heap.size,0,none⟩=some (.string a.t)∧W.cell? ⟨wr.heap.size,1,none⟩=some (.string a.v)∧W.cell? ⟨w2.heap.size,0,none⟩=some (.string nm)∧W.cell? ⟨w2.heap.size,1,none⟩=some (.int .i64 syn)∧W.cell? ⟨w2.heap.size,2,none⟩=some (.bool sg)) (by kernel_rfl) (⟨z0,z1,x0,x1,y0,y1,y2⟩) (fun hHeld=> ?_);refine tk 0 ⟨some 23,_,_,_,_,_⟩ rfl ?_;refine tk 1 ⟨some 24,_,_,_,_,_⟩ rfl ?_;refine tk 2 ⟨some 25,_,_,_,_,_⟩ rfl ?_;refine tk 3 ⟨some 26,_,_,_,_,_⟩ rfl ?_;refine tk 4 ⟨some 27,_,_,_,_,_⟩ rfl ?_;refine tk 5 ⟨some 28,_,_,_,_,_⟩ rfl ?_;refine tk 6 ⟨some 29,_,_,_,_,_⟩ rfl ?_;refine tk 8 ⟨some 31,_,_,_,_,_⟩ rfl ?_;refine tk 9 ⟨some 32,_,_,_,_,_⟩ rfl ?_;refine etw.tc 7 ⟨some 30,_,_,_,_,_⟩ rfl (fun K hK=> ?_);go_simp;go_at_call 88;refine(HV.out _ ((Below.refl w3.heap.size w3).drew)).mono ?_;rintro e w5 ⟨x5,rfl,hx5,hB5⟩;obtain⟨a5,n5,c5,rfl,hn5,hc5,hs5⟩:=elem_form hx5;refine hK.out _ _ (⟨(hB5.cell (p:=⟨w.heap.size,0,none⟩) hlz).trans (z0),(hB5.cell (p:=⟨w.heap.size,1,none⟩) hlz).trans (z1),(hB5.cell (p:=⟨wr.heap.size,0,none⟩) hla).trans (x0),(hB5.cell (p:=⟨wr.heap.size,1,none⟩) hla).trans (x1),(hB5.cell (p:=⟨w2.heap.size,0,none⟩) hly).trans (y0),(hB5.cell (p:=⟨w2.heap.size,1,none⟩) hly).trans (y1),(hB5.cell (p:=⟨w2.heap.size,2,none⟩) hly).trans (y2)⟩) (fun hHeld=> ?_);clear hK;try simp only[Act.put,List.setIfInBounds_toArray,List.set_cons_zero,List.set_cons_succ]
      refine etw.tc 10 ⟨some 33,_,_,_,_,_⟩ rfl (fun K hK=> ?_);go_simp;go_at_call 89;refine(HK.out a5 c5 n5 _ hn5 hs5 (envE_below HE3.out ((Below.refl w3.heap.size w3).drew.trans hB5))).mono ?_;rintro e w6 ⟨rfl,hB6⟩;refine hK.out _ _ (⟨(hB6.cell (p:=⟨w.heap.size,0,none⟩) (Nat.lt_of_lt_of_le hlz hB5.size)).trans ((hB5.cell (p:=⟨w.heap.size,0,none⟩) hlz).trans (z0)),(hB6.cell (p:=⟨w.heap.size,1,none⟩) (Nat.lt_of_lt_of_le hlz hB5.size)).trans ((hB5.cell (p:=⟨w.heap.size,1,none⟩) hlz).trans (z1)),(hB6.cell (p:=⟨wr.heap.size,0,none⟩) (Nat.lt_of_lt_of_le hla hB5.size)).trans ((hB5.cell (p:=⟨wr.heap.size,0,none⟩) hla).trans (x0)),(hB6.cell (p:=⟨wr.heap.size,1,none⟩) (Nat.lt_of_lt_of_le hla hB5.size)).trans ((hB5.cell (p:=⟨wr.heap.size,1,none⟩) hla).trans (x1)),(hB6.cell (p:=⟨w2.heap.size,0,none⟩) (Nat.lt_of_lt_of_le hly hB5.size)).trans ((hB5.cell (p:=⟨w2.heap.size,0,none⟩) hly).trans (y0)),(hB6.cell (p:=⟨w2.heap.size,1,none⟩) (Nat.lt_of_lt_of_le hly hB5.size)).trans ((hB5.cell (p:=⟨w2.heap.size,1,none⟩) hly).trans (y1)),(hB6.cell (p:=⟨w2.heap.size,2,none⟩) (Nat.lt_of_lt_of_le hly hB5.size)).trans ((hB5.cell (p:=⟨w2.heap.size,2,none⟩) hly).trans (y2))⟩) (fun hHeld=> ?_);clear hK;try simp only[Act.put,List.setIfInBounds_toArray,List.set_cons_zero,List.set_cons_succ]
      refine tk 11 ⟨some 34,_,_,_,_,_⟩ rfl ?_;refine tk 12 ⟨some 35,_,_,_,_,_⟩ rfl ?_;refine wpAnyH_done (by kernel_rfl) ?_ _;have HB6:=Lib.hid (HBw3.out.trans ((((Below.refl w3.heap.size w3).drew.trans hB5).trans (hB6.mono hB5.size)).mono HBw3.out.size));clear hHeld hB5 hB6 hx5 hs5 x0 x1 y0 y1 y2 z0 z1;go_wp2_with fail;go_ret;exact⟨kt.ret_bool HJ.out.symm,HB6.out⟩
     ·have q2:decide (lk<0)=false:=decide_eq_false hneg;have HJ:Hid (rdn.all (namedA L)=(rdn.drop (i+1)).all (namedA L)):=(by show _=_;rw[hJ.out,HST.out,HNS.out,decide_eq_true (by omega)];rfl);clear hneg;go_wp2_with fail;refine(HFD.out _ HYr.out).mono ?_;rintro e w2 ⟨rfl,hB2⟩;obtain⟨w3,hw3⟩: ∃W,w2.alloc (.cells #[.string nm,.int .i64 syn,.bool sg] 108)=W:=⟨_,rfl⟩;have hB3:Below w2.heap.size w2 w3:=(by rw[←hw3];exact(Below.refl _ _).alloc (Nat.le_refl _) _);obtain⟨y0,y1,y2⟩:=tb_cells (w:=w3) (p:=w2.heap.size) (nm:=nm) (syn:=syn) (sg:=sg) (by rw[←hw3];exact tb_new _ _ _ _);have hA23:=hB2.trans (hB3.mono hB2.size);have hBa:Below wr.heap.size wr w3:=HBA.out.trans (hA23.mono HBA.out.size);obtain⟨x0,x1⟩:=avaB_cells (avaB_below HTA.out hA23);obtain⟨z0,z1⟩:=entB_cells (entB_below HTr.out hBa);have HBr3:=Lib.hid (hB.out.trans (hBa.mono hsz));have HBw3:=Lib.hid (HB1.out.trans (HBr3.out.mono hs1));have hla:=World.block_lt_of_cell? w3 _ x0;have hly:=World.block_lt_of_cell? w3 _ y0;have hlz:=World.block_lt_of_cell? w3 _ z0;have HE3:=Lib.hid (envE_below hE.out HBw3.out);clear hB2 hB3 hBa hA23;have HV:Hid (∀W,Below w3.heap.size w3 W→_):=fun W h=>HV0.out a.t W (HBw3.out.trans (h.mono HBw3.out.size));go_wp2_with fail;refine wp_region_held_drew (S:=fun W=>W.cell? ⟨w.heap.size,0,none⟩=some (.slice (some ⟨b,o,none⟩) Nr rc)∧W.cell? ⟨w.heap.size,1,none⟩=some (.slice ao N ac)∧W.cell? ⟨wr.heap.size,0,none⟩=some (.string a.t)∧W.cell? ⟨wr.heap.size,1,none⟩=some (.string a.v)∧W.cell? ⟨w2.heap.size,0,none⟩=some (.string nm)∧W.cell? ⟨w2.heap.size,1,none⟩=some (.int .i64 syn)∧W.cell? ⟨w2.heap.size,2,none⟩=some (.bool sg)) (by kernel_rfl) (⟨z0,z1,x0,x1,y0,y1,y2⟩) (fun hHeld=> ?_);refine tk 0 ⟨some 23,_,_,_,_,_⟩ rfl ?_;refine tk 1 ⟨some 24,_,_,_,_,_⟩ rfl ?_;refine tk 2 ⟨some 25,_,_,_,_,_⟩ rfl ?_;refine tk 3 ⟨some 26,_,_,_,_,_⟩ rfl ?_;refine tk 4 ⟨some 27,_,_,_,_,_⟩ rfl ?_;refine tk 5 ⟨some 28,_,_,_,_,_⟩ rfl ?_;refine tk 6 ⟨some 29,_,_,_,_,_⟩ rfl ?_;refine tk 8 ⟨some 31,_,_,_,_,_⟩ rfl ?_;refine tk 9 ⟨some 32,_,_,_,_,_⟩ rfl ?_;refine etw.tc 7 ⟨some 30,_,_,_,_,_⟩ rfl (fun K hK=> ?_);go_simp;go_at_call 88;refine(HV.out _ ((Below.refl w3.heap.size w3).drew)).mono ?_;rintro e w5 ⟨x5,rfl,hx5,hB5⟩;obtain⟨a5,n5,c5,rfl,hn5,hc5,hs5⟩:=elem_form hx5;refine hK.out _ _ (⟨(hB5.cell (p:=⟨w.heap.size,0,none⟩) hlz).trans (z0),(hB5.cell (p:=⟨w.heap.size,1,none⟩) hlz).trans (z1),(hB5.cell (p:=⟨wr.heap.size,0,none⟩) hla).trans (x0),(hB5.cell (p:=⟨wr.heap.size,1,none⟩) hla).trans (x1),(hB5.cell (p:=⟨w2.heap.size,0,none⟩) hly).trans (y0),(hB5.cell (p:=⟨w2.heap.size,1,none⟩) hly).trans (y1),(hB5.cell (p:=⟨w2.heap.size,2,none⟩) hly).trans (y2)⟩) (fun hHeld=> ?_);clear hK;try simp only[Act.put,List.setIfInBounds_toArray,List.set_cons_zero,List.set_cons_succ]
      refine etw.tc 10 ⟨some 33,_,_,_,_,_⟩ rfl (fun K hK=> ?_);go_simp;go_at_call 89;refine(HK.out a5 c5 n5 _ hn5 hs5 (envE_below HE3.out ((Below.refl w3.heap.size w3).drew.trans hB5))).mono ?_;rintro e w6 ⟨rfl,hB6⟩;refine hK.out _ _ (⟨(hB6.cell (p:=⟨w.heap.size,0,none⟩) (Nat.lt_of_lt_of_le hlz hB5.size)).trans ((hB5.cell (p:=⟨w.heap.size,0,none⟩) hlz).trans (z0)),(hB6.cell (p:=⟨w.heap.size,1,none⟩) (Nat.lt_of_lt_of_le hlz hB5.size)).trans ((hB5.cell (p:=⟨w.heap.size,1,none⟩) hlz).trans (z1)),(hB6.cell (p:=⟨wr.heap.size,0,none⟩) (Nat.lt_of_lt_of_le hla hB5.size)).trans ((hB5.cell (p:=⟨wr.heap.size,0,none⟩) hla).trans (x0)),(hB6.cell (p:=⟨wr.heap.size,1,none⟩) (Nat.lt_of_lt_of_le hla hB5.size)).trans ((hB5.cell (p:=⟨wr.heap.size,1,none⟩) hla).trans (x1)),(hB6.cell (p:=⟨w2.heap.size,0,none⟩) (Nat.lt_of_lt_of_le hly hB5.size)).trans ((hB5.cell (p:=⟨w2.heap.size,0,none⟩) hly).trans (y0)),(hB6.cell (p:=⟨w2.heap.size,1,none⟩) (Nat.lt_of_lt_of_le hly hB5.size)).trans ((hB5.cell (p:=⟨w2.heap.size,1,none⟩) hly).trans (y1)),(hB6.cell (p:=⟨w2.heap.size,2,none⟩) (Nat.lt_of_lt_of_le hly hB5.size)).trans ((hB5.cell (p:=⟨w2.heap.size,2,none⟩) hly).trans (y2))⟩) (fun hHeld=> ?_);clear hK;try simp only[Act.put,List.setIfInBounds_toArray,List.set_cons_zero,List.set_cons_succ]
      refine tk 11 ⟨some 34,_,_,_,_,_⟩ rfl ?_;refine tk 12 ⟨some 35,_,_,_,_,_⟩ rfl ?_;refine wpAnyH_done (by kernel_rfl) ?_ _;have HB6:=Lib.hid (HBr3.out.trans ((((Below.refl w3.heap.size w3).drew.trans hB5).trans (hB6.mono hB5.size)).mono HBr3.out.size));clear hHeld hB5 hB6 hx5 hs5 x0 x1 y0 y1 y2 z0 z1;go_wp2_with fail;go_roundw;case rel=>exact⟨i+1,by omega,by go_num,HB6,HJ⟩
      case measure=>simp[intOf];omega
   ·obtain rfl:Nr=i:=(by omega);have HJ:Hid (rdn.all (namedA L)=true):=(by show _=_;rw[hJ.out,←HNr.out,List.drop_length];rfl);go_wp2_with fail;go_ret;exact⟨kt.ret_bool HJ.out.symm,HBw.out⟩
end etw
open Go.RowKit
namespace scw
open scp atp atw etp etw
open tupw (Strs strs_below)
def ocL:T:=[111,98,106,101,99,116,99,108,97,115,115]
def readyT (v:ByteArray):T:=(prp.readyO v.data.toList true).getD []
theorem pairV_form (r:Option T): ∃er:Int,prw.pairV r= .tuple #[.string (bs (r.getD [])),.int .i64 er]:=by
 cases r with
 | none=>exact⟨_,rfl⟩
 | some t=>exact⟨_,rfl⟩
def clsOf:List ByteArray→Option (List Nat)
 | []=>some []
 | v::r=>match idx (readyT v)with
  | none=>none
  | some k=>(clsOf r).map (k:: ·)
theorem clsOf_none {l:List ByteArray}{i:Nat}(h:i<l.length)(hn:idx (readyT l[i])=none):clsOf (l.drop i)=none:=by rw[List.drop_eq_getElem_cons h,clsOf,hn]
theorem clsOf_some {l:List ByteArray}{i k:Nat}(h:i<l.length)(hn:idx (readyT l[i])=some k):clsOf (l.drop i)=(clsOf (l.drop (i+1))).map (k:: ·):=by rw[List.drop_eq_getElem_cons h,clsOf,hn]
theorem clsOf_lt: ∀ {l:List ByteArray} {ks:List Nat},clsOf l=some ks→(∀k∈ks,k<13)∧ks.length=l.length
 | [],ks,h=>by cases h;exact⟨fun k hk=>(by cases hk),rfl⟩
 | v::r,ks,h=>by
  unfold clsOf at h;cases hi:idx (readyT v)with
  | none=>rw[hi]at h;cases h
  | some k=>
   rw[hi]at h;simp only[Option.map_eq_some_iff]at h;obtain⟨m,hm,rfl⟩:=h;obtain⟨h1,h2⟩:=clsOf_lt hm;refine⟨fun j hj=> ?_,by simp[h2]⟩;rcases List.mem_cons.1 hj with rfl | hj
   ·exact idx_lt hi
   ·exact h1 j hj
theorem map_pre (pre:List Nat)(k:Nat)(o:Option (List Nat)):(o.map (k:: ·)).map (pre++ ·)=o.map ((pre++[k])++ ·):=by cases o<;>simp
def NamE (r:Option (List Nat))(w:World)(e:Ending)(w':World):Prop:=Below w.heap.size w w'∧match r with
 | none=>e= .returned (.tuple #[.slice none 0 0,.bool false])
 | some ks=> ∃v,e= .returned (.tuple #[v,.bool true])∧OwnC w' w.heap.size v ks
theorem named_cls (v:Value)(E:En)(w:World)(hv:Hid (EntV w v E))(hb:Hid (Bd E))(hE:Hid (EnvE w))(hr:rightE E=true):
  Calls Tryz.prog 72 #[v] w fun e w'=>NamE (clsOf (valsA E.ats (bs ocL))) w e w':=by
 have HVA0:Hid (∀W,Below w.heap.size w W→Calls Tryz.prog 31 #[v,.string (bs ocL)] W fun e w'=>ValsE (valsA E.ats (bs ocL)) W e w'):=by intro W h;have:=values_any v E (bs ocL) W (Lib.hid (entV_below hv.out h)) hb (by decide) (Lib.hid (envE_below hE.out h));rw[show valuesE E (bs ocL).data.toList=valsA E.ats (bs ocL)from by unfold valuesE;rw[show findS (sml.lowL (bs ocL).data.toList)=some (tys[9]'(by decide))from by decide+kernel];simp only;rw[if_pos hr];rfl]at this;exact this
 have HVL:=Lib.hid (vals_len hb.out (bs ocL));obtain⟨ro,rc,ao,ac,Nr,N0,rfl,HN0,HA,hac,HNr,HAv,hrc⟩:=ent_form hv.out;generalize valsA E.ats (bs ocL)=ls at HVA0 HVL ⊢;obtain⟨W1,hW1⟩: ∃W,w.alloc (.cells #[.slice ro Nr rc,.slice ao N0 ac] 26)=W:=⟨_,rfl⟩;have hB1:Below w.heap.size w W1:=by rw[←hW1];exact(Below.refl _ _).alloc (Nat.le_refl _) _
 obtain⟨k0,k1⟩:=entB_cells (w:=W1) (p:=w.heap.size) (r:= .slice ro Nr rc) (a:= .slice ao N0 ac) (by rw[←hW1];exact entB_new _ _ _);have HB1:=Lib.hid hB1;have HVA1:=Lib.hid (HVA0.out W1 hB1);have HR0:Hid (∀ (s:ByteArray) W,s.size≤1100000→Below w.heap.size w W→ ∃er:Int,Calls Tryz.prog 134 #[.string s,.bool true] W fun e w'=>e= .returned (.tuple #[.string (bs (readyT s)),.int .i64 er])∧Below W.heap.size W w'):=by intro s W hs hB;obtain⟨er,her⟩:=pairV_form (prp.readyO s.data.toList true);have:=prw.ready_any s true W hs (Lib.hid (envE_below hE.out hB).e);rw[her]at this;exact⟨er,this⟩
 have HF0:Hid (∀ (m:ByteArray) W,Calls Tryz.prog 81 #[.string m] W fun e w'=>e= .returned (.tuple #[.agg (clsV (clsO (idx m.data.toList))).toArray,.bool (idx m.data.toList).isSome])∧Below W.heap.size W w'):=fun m W=>by rw[←resC_eq];exact sfind_any m W
 obtain⟨N,hN⟩: ∃N,ls.length=N:=⟨_,rfl⟩;have HN:=Lib.hid hN;have hNb:N≤100000:=by rw[←hN];exact HVL.out.1
 clear hB1 HVA0 hN hv HN0 HA hac HNr HAv hrc;go_enter Tryz.func72,Tryz.ntmps72;go_wp2_with fail;refine HVA1.out.mono ?_;rintro e w2 ⟨x,rfl,hx,hB2⟩;obtain⟨ax,nx,cx,rfl,hnx,hcx,hsx⟩:=elem_form hx;have hnx2:nx=N:=hnx.out.trans HN.out;subst hnx2;have HB2:=Lib.hid (HB1.out.trans (hB2.mono HB1.out.size));have HSX:=Lib.hid hsx;clear hB2 hx hsx hnx hW1 k0 k1 HVA1 HB1;obtain⟨q,hq⟩: ∃q,w2.heap.size=q:=⟨_,rfl⟩;have HQ:=Lib.hid hq;have hqw:w.heap.size≤q:=by rw[←hq];exact HB2.out.size
 clear hq;go_wp2_with fail;go_loopw [4,14] (fun lv iv wr=> ∃ (i:Nat) (pre:List Nat),i≤nx∧iv= .int .i64 (i:Int)∧Hid (OwnC wr q lv pre)∧Hid (pre.length=i)∧Hid (clsOf ls=(clsOf (ls.drop i)).map (pre++ ·))∧Hid (Below q w2 wr)) (fun _ iv _=>nx- (intOf iv).toNat);case atStart=>exact⟨0,[],Nat.zero_le _,rfl,kt.row_nil _ _ _ _,rfl,(by show _=_;simp),by rw[←HQ.out];exact Below.refl _ _⟩
 case round=>
  obtain⟨i,pre,hi,rfl,hO,hP,hJ,hB⟩:=hrel;have hq2:=HQ.out;have hB':Below w2.heap.size w2 wr:=by rw[hq2];exact hB.out
  have hsz:q≤wr.heap.size:=by rw[←hq2];exact hB'.size
  have HBw:=Lib.hid (HB2.out.trans (hB'.mono HB2.out.size));clear hq2;by_cases hlt:i<nx
  ·have hlt':(i:Int)<(nx:Int):=(by omega);have hil:i<ls.length:=(by rw[HN.out];exact hlt);obtain⟨b,o,hao,hc⟩:=(strs_below HSX.out hB') i hil;subst hao;have HST1:=Lib.hid (fun h=>clsOf_none (l:=ls) (i:=i) hil h);have HST2:=Lib.hid (fun k h=>clsOf_some (l:=ls) (i:=i) (k:=k) hil h);have hss:=HVL.out.2 ls[i] (List.getElem_mem _);obtain⟨s,hs⟩: ∃s,ls[i]=s:=⟨_,rfl⟩;rw[hs]at hc HST1 HST2 hss;obtain⟨er,hRY⟩:=HR0.out s wr (by omega) HBw.out;have HRY:=Lib.hid hRY;have HF1:Hid (∀W,Calls Tryz.prog 81 #[.string (bs (readyT s))] W fun e w'=>e= .returned (.tuple #[.agg (clsV (clsO (idx (readyT s)))).toArray,.bool (idx (readyT s)).isSome])∧Below W.heap.size W w'):=fun W=>HF0.out (bs (readyT s)) W;clear hs hRY hB' HR0;generalize readyT s=rt at HRY HF1 HST1 HST2;cases hix:idx rt with
   | none=>have HR:Hid (clsOf ls=none):=(by show _=_;rw[hJ.out,HST1.out hix];rfl);rw[hix]at HF1;have HF2:Hid (∀W,Calls Tryz.prog 81 #[.string (bs rt)] W fun e w'=>e= .returned (.tuple #[.agg (clsV noCls).toArray,.bool false])∧Below W.heap.size W w'):=HF1;obtain⟨a0,a1,a2,a3,a4,a5,a6,a7,a8,a9,a10,hv,hx0,hx1,hx2⟩:=cls_letters noCls;rw[hv]at HF2;clear hix HF1 hv hx0 hx1 hx2 HST1 HST2 HF0;go_wp2_with fail;refine HRY.out.mono ?_;rintro e w3 ⟨rfl,hB3⟩;have HB3:=Lib.hid (HBw.out.trans (hB3.mono HBw.out.size));have HF3:=Lib.hid (HF2.out w3);clear hB3 hc HF2;go_wp2_with fail;refine HF3.out.mono ?_;rintro e w4 ⟨rfl,hB4⟩;have HB4:=Lib.hid ((HB3.out.trans (hB4.mono HB3.out.size)).alloc (Nat.le_trans HB3.out.size hB4.size) (.cells #[.string a0,.int .i64 a1,.string a2,.string a3,.string a4,.string a5,.string a6,.string a7,.string a8,.string a9,.string a10] 106));clear hB4;go_wp2_with fail;go_ret2;exact⟨HB4.out,by rw[HR.out];exact rfl⟩
   | some k=>
    have HJ:Hid (clsOf ls=(clsOf (ls.drop (i+1))).map ((pre++[k])++ ·)):=(by show _=_;rw[hJ.out,HST2.out k hix,map_pre]);rw[hix]at HF1;have HF2:Hid (∀W,Calls Tryz.prog 81 #[.string (bs rt)] W fun e w'=>e= .returned (.tuple #[.agg (clsV (clsA k)).toArray,.bool true])∧Below W.heap.size W w'):=HF1;obtain⟨a0,a1,a2,a3,a4,a5,a6,a7,a8,a9,a10,hv,hx0,hx1,hx2⟩:=cls_letters (clsA k);have HV:=Lib.hid hv;rw[hv]at HF2;clear hix HF1 hv hx0 hx1 hx2 HST1 HST2 HF0;go_wp2_with fail;refine HRY.out.mono ?_;rintro e w3 ⟨rfl,hB3⟩;have HB3:=Lib.hid (hB.out.trans (hB3.mono hsz));have HO3:=Lib.hid (ownC_below hO.out hB3);have HF3:=Lib.hid (HF2.out w3);have hs3:q≤w3.heap.size:=Nat.le_trans hsz hB3.size;clear hB3 hc HF2;go_wp2_with fail;refine HF3.out.mono ?_;rintro e w4 ⟨rfl,hB4⟩;have HO4:=Lib.hid (ownC_below HO3.out hB4);have HB4:=Lib.hid (HB3.out.trans (hB4.mono hs3));have hs4:q≤w4.heap.size:=Nat.le_trans hs3 hB4.size;clear hB4 HF3;obtain⟨w5,hw5⟩: ∃W,w4.alloc (.cells #[.string a0,.int .i64 a1,.string a2,.string a3,.string a4,.string a5,.string a6,.string a7,.string a8,.string a9,.string a10] 106)=W:=⟨_,rfl⟩;have hB5:Below w4.heap.size w4 w5:=(by rw[←hw5];exact(Below.refl _ _).alloc (Nat.le_refl _) _);have HC5:Hid (CB w5 w4.heap.size (clsA k)):=(by rw[←hw5];have:=cb_new w4 (clsA k);rw[HV.out]at this;exact this);obtain⟨d0,d1,d2,d3,d4,d5,d6,d7,d8,d9,d10⟩:=cb_cells HC5.out HV.out;have HO5:=Lib.hid (ownC_below HO4.out hB5);have HB5:=Lib.hid (HB4.out.trans (hB5.mono hs4));have hs5:q≤w5.heap.size:=Nat.le_trans hs4 hB5.size;have hP1:=hP.out;obtain⟨v',w6,hrun,ho6,_,hB6⟩:=ownC_app k HO5.out (by omega) hs5;rw[HV.out]at hrun;have HO6:=Lib.hid ho6;have HB6:=Lib.hid (HB5.out.trans hB6);have HP6:Hid ((pre++[k]).length=i+1):=(by show _=_;rw[List.length_append,hP1];rfl);clear hB5 ho6 hB6 hP1;go_wp2_with (refine Lib.wpList_append_run _ rfl _ _ _ _ rfl _ _ rfl rfl _ _ hrun ?_);go_roundw;case rel=>exact⟨i+1,pre++[k],by omega,by go_num,HO6,HP6,HJ,HB6⟩
    case measure=>simp[intOf];omega
  ·obtain rfl:nx=i:=(by omega);have HR:Hid (clsOf ls=some pre):=(by show _=_;rw[hJ.out,←HN.out,List.drop_length];simp[clsOf]);have HO:=Lib.hid (ownC_mono hO.out hqw);go_wp2_with fail;go_ret2;exact⟨HBw.out,by rw[HR.out];exact⟨_,rfl,HO.out⟩⟩
end scw
open Go.RowKit
namespace scw
open scp atp atw etp etw
theorem contains_in (l:List T)(x:T):Lib.containsS (l.map bs) (bs x)=decide (x∈l):=by
 rw[Bool.eq_iff_iff,Lib.containsS_iff,decide_eq_true_iff,List.mem_map];constructor
 ·rintro⟨y,hy,he⟩;have:=congrArg (·.data.toList) he;simp only[bs_data]at this;exact this▸hy
 ·exact fun h=>⟨x,h,rfl⟩
theorem contT {w:World}{B:Nat}{v:Value}{l:List T}(x:T)(h:OwnS w B v l)(hl:l.length≤1000000):
  Calls Tryz.prog 75 #[v,.string (bs x)] w fun e w'=>e= .returned (.bool (decide (x∈l)))∧w'=w:=by
 rcases ownS_cases h with⟨rfl,rfl⟩ | ⟨g,cap,cur,rfl,hBg,hgl,hg,h1,h2,h3,hH⟩
 ·exact Tryz.slices_Contains_string_empty none 0 (bs x) w
 ·have C:=Tryz.slices_Contains_string g 0 l.length cap (l.map bs) (bs x) w (by simp) (by omega) (fun j hj=>by rw[List.length_map]at hj;have h5:=(hH j (by simpa using hj)).1;rw[h5];simp[hj,encStr,bs,List.getD_eq_getElem?_getD]);rw[List.take_of_length_le (by simp),contains_in]at C;exact C
theorem infoS: ∃i,Tryz.prog.info? 9=some i:=by
 have h:(Tryz.prog.info? 9).isSome=true:=by kernel_rfl
 exact Option.isSome_iff_exists.1 h
theorem eqM (x y:ByteArray)(W:World):(Op.equalIn 9999 103 (.agg #[.string x,.string y]) (.agg #[.string x,.string y])).run Tryz.prog W= .ok true W:=by obtain⟨i,hi⟩:=infoS;rw[show 9999=9998+1 from rfl,run_equalIn_array W 9998 _ _ Tryz.underlying103 hi,show List.range 2=[0,1]from rfl,show Tryz.prog.cellsOf 9=1 by kernel_rfl];simp only[Op.eqItems,Sem.run_bind,go_sem];go_simp
theorem eqY (a b c d e f:ByteArray)(W:World):(Op.equalIn 9999 104 (.agg #[.string a,.string b,.string c,.string d,.string e,.string f]) (.agg #[.string a,.string b,.string c,.string d,.string e,.string f])).run Tryz.prog W= .ok true W:=by obtain⟨i,hi⟩:=infoS;rw[show 9999=9998+1 from rfl,run_equalIn_array W 9998 _ _ Tryz.underlying104 hi,show List.range 6=[0,1,2,3,4,5]from rfl,show Tryz.prog.cellsOf 9=1 by kernel_rfl];simp only[Op.eqItems,Sem.run_bind,go_sem];go_simp
def strucK (k:Nat):Bool:=decide ((clsA k).kind=1)
def pairK (a b:Nat):Bool:= !strucK a|| !strucK b||decide (a=b)||decide ((clsA b).name∈aboveK a)||decide ((clsA a).name∈aboveK b)
def chainK (ks:List Nat):Bool:=ks.all (fun a=>ks.all (pairK a))&&ks.any strucK
theorem name_low: ∀k:Fin 13,sml.lowL (clsA k.val).name=(clsA k.val).name:=by decide+kernel
theorem name_len: ∀k:Fin 13,(clsA k.val).name.length≤100:=by decide+kernel
theorem name_size {k:Nat}(hk:k<13):(bs (clsA k).name).size≤10000000:=by rw[bs_size];have:=name_len ⟨k,hk⟩;simp only at this;omega
theorem name_inj: ∀i j:Fin 13,(clsA i.val).name=(clsA j.val).name→i=j:=by decide+kernel
theorem aboveN_name {k:Nat}(hk:k<13):aboveN (sml.lowL (clsA k).name)=aboveK k:=by rw[name_low ⟨k,hk⟩];unfold aboveN;rw[idx_name ⟨k,hk⟩]
theorem above_len: ∀k:Fin 13,(aboveK k.val).length≤3:=by decide+kernel
theorem chain_any (ao:Option Addr)(cap B:Nat)(ks:List Nat)(w:World)(hR:Hid (OwnC w B (.slice ao ks.length cap) ks))(hk:Hid (∀k∈ks,k<13))(hl:ks.length≤100000):
  Calls Tryz.prog 73 #[.slice ao ks.length cap] w fun e w'=>e= .returned (.bool (chainK ks))∧Below w.heap.size w w':=by
 obtain⟨N,hN⟩: ∃N,ks.length=N:=⟨_,rfl⟩;rw[hN]at hR hl ⊢;have HN:=Lib.hid hN;clear hN;go_enter Tryz.func73,Tryz.ntmps73;go_wp2_with fail;go_loopw [3,10] (fun bv iv wr=> ∃ (i:Nat) (sb:Bool),i≤N∧iv= .int .i64 (i:Int)∧bv= .bool sb∧Hid ((ks.take i).any strucK=sb)∧Hid (∀a∈ks.take i,∀b∈ks,pairK a b=true)∧Hid (Below w.heap.size w wr)) (fun _ iv _=>N- (intOf iv).toNat);case atStart=>exact⟨0,false,Nat.zero_le _,rfl,rfl,rfl,fun a ha=>(by simp at ha),Below.refl _ _⟩
 case round=>
  obtain⟨i,sb,hi,rfl,rfl,hS,hP,hB⟩:=hrel;have hsz:=hB.out.size;by_cases hlt:i<N
  ·have hlt':(i:Int)<(N:Int):=(by omega);have hil:i<ks.length:=(by rw[HN.out];exact hlt);obtain⟨g,hg,hca0⟩:=ownC_at hR.out hil;subst hg;have hka:=hk.out ks[i] (List.getElem_mem _);have HTS:Hid (ks.take (i+1)=ks.take i++[ks[i]]):=(by show _=_;rw[List.take_succ_eq_append_getElem hil]);have hca:=ca_below hca0 hB.out;obtain⟨a,ha⟩: ∃a,ks[i]=a:=⟨_,rfl⟩;have HAM:Hid (a∈ks):=(by rw[←ha];exact List.getElem_mem _);rw[ha]at hca hka HTS;obtain⟨a0,a1,a2,a3,a4,a5,a6,a7,a8,a9,a10,hva,hax0,hax1,hax2⟩:=cls_letters (clsA a);have HVa:=Lib.hid hva;obtain⟨ae0,ae1,ae2,ae3,ae4,ae5,ae6,ae7,ae8,ae9,ae10⟩:=ca_cells (hca) hva;obtain⟨W3,hW3⟩: ∃W,wr.alloc (.cells #[.string a0,.int .i64 a1,.string a2,.string a3,.string a4,.string a5,.string a6,.string a7,.string a8,.string a9,.string a10] 106)=W:=⟨_,rfl⟩;have hBW3:Below wr.heap.size wr W3:=(by rw[←hW3];exact(Below.refl _ _).alloc (Nat.le_refl _) _);have HCBa:Hid (CB W3 wr.heap.size (clsA a)):=(by rw[←hW3];have:=cb_new wr (clsA a);rw[hva]at this;exact this);have HB3:=Lib.hid (hB.out.trans (hBW3.mono hsz));have hs3:=HB3.out.size;have HST:Hid (strucK a=decide (a1=1)):=(by show _=_;unfold strucK;rw[hax1]);have HSN:Hid ((ks.take (i+1)).any strucK=(sb||decide (a1=1))):=(by show _=_;rw[HTS.out,List.any_append,hS.out];simp[HST.out]);have HAN:Hid (a0=bs (clsA a).name):=hax0;obtain⟨s2,hs2⟩: ∃s,(sb||decide (a1=1))=s:=⟨_,rfl⟩;rw[hs2]at HSN;obtain⟨pa,hpa⟩: ∃p,wr.heap.size=p:=⟨_,rfl⟩;have HPA:=Lib.hid hpa;rw[hpa]at HCBa;obtain⟨ga0,ga1,ga2,ga3,ga4,ga5,ga6,ga7,ga8,ga9,ga10⟩:=cb_cells HCBa.out hva;clear ha hca hca0 hva hax0 hax1 hax2 hBW3;have hcase:(sb=true∧s2=true)∨(sb=false∧(a1==1)=true∧s2=true)∨(sb=false∧(a1==1)=false∧s2=false):=by
    cases sb with
    | true=>exact Or.inl ⟨rfl,by rw[←hs2];rfl⟩
    | false=>
     by_cases h1:a1=1
     ·exact Or.inr (Or.inl ⟨rfl,by rw[beq_iff_eq];exact h1,by rw[←hs2,decide_eq_true h1];rfl⟩)
     ·exact Or.inr (Or.inr ⟨rfl,by rw[beq_eq_false_iff_ne];exact h1,by rw[←hs2,decide_eq_false h1];rfl⟩)
   clear hs2;rcases hcase with⟨rfl,rfl⟩ | ⟨rfl,hone,rfl⟩ | ⟨rfl,hone,rfl⟩
   all_goals
    go_wp2_with fail;clear ae0 ae1 ae2 ae3 ae4 ae5 ae6 ae7 ae8 ae9 ae10;clear hpa;try have HONE:=Lib.hid hone
    try clear hone
    go_loopw [22] (fun jv wi=> ∃j:Nat,j≤N∧jv= .int .i64 (j:Int)∧Hid (∀b∈ks.take j,pairK a b=true)∧Hid (Below W3.heap.size W3 wi)) (fun jv _=>N- (intOf jv).toNat);case atStart=>exact⟨0,Nat.zero_le _,rfl,fun b hb=>(by simp at hb),Below.refl _ _⟩
    case round=>
     obtain⟨j,hj,rfl,hQ,hBi⟩:=hrel;clear ga0 ga1 ga2 ga3 ga4 ga5 ga6 ga7 ga8 ga9 ga10 hW3;have hszi:=hBi.out.size;have HBi:=Lib.hid (HB3.out.trans (hBi.out.mono hs3));have HCi:Hid (CB wr pa (clsA a)):=cb_below HCBa.out hBi.out;by_cases hjt:j<N
     ·have hjt':(j:Int)<(N:Int):=(by omega);have hjl:j<ks.length:=(by rw[HN.out];exact hjt);obtain⟨g2,hg2,hcb0⟩:=ownC_at hR.out hjl;simp only[Option.some.injEq,Addr.mk.injEq,and_true]at hg2;subst hg2;have hkb:=hk.out ks[j] (List.getElem_mem _);have HTJ:Hid (ks.take (j+1)=ks.take j++[ks[j]]):=(by show _=_;rw[List.take_succ_eq_append_getElem hjl]);have hcb:=ca_below hcb0 HBi.out;obtain⟨b,hb⟩: ∃b,ks[j]=b:=⟨_,rfl⟩;have HBM:Hid (b∈ks):=(by rw[←hb];exact List.getElem_mem _);rw[hb]at hcb hkb HTJ;obtain⟨b0,b1,b2,b3,b4,b5,b6,b7,b8,b9,b10,hvb,hbx0,hbx1,hbx2⟩:=cls_letters (clsA b);have HVb:=Lib.hid hvb;obtain⟨be0,be1,be2,be3,be4,be5,be6,be7,be8,be9,be10⟩:=ca_cells (hcb) hvb;obtain⟨W5,hW5⟩: ∃W,wr.alloc (.cells #[.string b0,.int .i64 b1,.string b2,.string b3,.string b4,.string b5,.string b6,.string b7,.string b8,.string b9,.string b10] 106)=W:=⟨_,rfl⟩;have hBW5:Below wr.heap.size wr W5:=(by rw[←hW5];exact(Below.refl _ _).alloc (Nat.le_refl _) _);have HCBb:Hid (CB W5 wr.heap.size (clsA b)):=(by rw[←hW5];have:=cb_new wr (clsA b);rw[hvb]at this;exact this);have HSTB:Hid (strucK b=decide (b1=1)):=(by show _=_;unfold strucK;rw[hbx1]);have HBN:Hid (b0=bs (clsA b).name):=hbx0;have HBW5:=Lib.hid (hBi.out.trans (hBW5.mono hszi));have HC5:=Lib.hid (cb_below HCi.out hBW5);obtain⟨ga0,ga1,ga2,ga3,ga4,ga5,ga6,ga7,ga8,ga9,ga10⟩:=cb_cells HC5.out HVa.out;obtain⟨pb,hpb⟩: ∃p,wr.heap.size=p:=⟨_,rfl⟩;rw[hpb]at HCBb;obtain⟨gb0,gb1,gb2,gb3,gb4,gb5,gb6,gb7,gb8,gb9,gb10⟩:=cb_cells HCBb.out hvb;have HQ2:Hid (pairK a b=true→ ∀c∈ks.take (j+1),pairK a c=true):=fun h c hc=>by
       rw[HTJ.out]at hc;rcases List.mem_append.1 hc with hc | hc
       ·exact hQ.out c hc
       ·rw[List.mem_singleton]at hc;rw[hc];exact h
      clear hb hcb hcb0 hvb hbx0 hbx1 hbx2 hBW5;by_cases h1:a1=1
      ·subst h1;by_cases h2:b1=1
       ·subst h2;by_cases hab:a=b
        ·subst hab;have hab2:=HVa.out.symm.trans HVb.out;simp only[List.cons.injEq,Value.string.injEq,and_true,true_and]at hab2;obtain⟨rfl,rfl,rfl,rfl,rfl,rfl,rfl,rfl,rfl,rfl⟩:=hab2;have HP2:=Lib.hid (HQ2.out (by unfold pairK;simp));have qe1:=eqM a3 a4 W5;have qe2:=eqY a5 a6 a7 a8 a9 a10 W5;clear HQ2;go_wp2_with fail;go_roundw;case rel=>exact⟨j+1,by omega,by go_num,HP2,HBW5⟩
         case measure=>simp[intOf];omega
        ·have en:(a0.toList==b0.toList)=false:=(by rw[HAN.out,HBN.out,bs_beq];exact decide_eq_false fun h=>hab (by have:=name_inj ⟨a,hka⟩ ⟨b,hkb⟩ h;simpa using this));have HPK:Hid (pairK a b=(decide ((clsA b).name∈aboveK a)||decide ((clsA a).name∈aboveK b))):=(by show _=_;unfold pairK;rw[HST.out,HSTB.out,decide_eq_false hab];rfl);have HAA:Hid (∀W,Calls Tryz.prog 29 #[.string a0] W fun e w'=> ∃v,e= .returned v∧OwnS w' W.heap.size v (aboveK a)∧Below W.heap.size W w'):=(by intro W;rw[HAN.out,←aboveN_name hka];exact sabove_any _ W (name_size hka));have HAB:Hid (∀W,Calls Tryz.prog 29 #[.string b0] W fun e w'=> ∃v,e= .returned v∧OwnS w' W.heap.size v (aboveK b)∧Below W.heap.size W w'):=(by intro W;rw[HBN.out,←aboveN_name hkb];exact sabove_any _ W (name_size hkb));have HCA:Hid (∀W D v,OwnS W D v (aboveK a)→Calls Tryz.prog 75 #[v,.string b0] W fun e w'=>e= .returned (.bool (decide ((clsA b).name∈aboveK a)))∧Below W.heap.size W w'):=(by intro W D v h;rw[HBN.out];exact(contT _ h (Nat.le_trans (above_len ⟨a,hka⟩) (by decide))).mono fun e w' ⟨h1,h2⟩=>⟨h1,by rw[h2];exact Below.refl _ _⟩);have HCBB:Hid (∀W D v,OwnS W D v (aboveK b)→Calls Tryz.prog 75 #[v,.string a0] W fun e w'=>e= .returned (.bool (decide ((clsA a).name∈aboveK b)))∧Below W.heap.size W w'):=(by intro W D v h;rw[HAN.out];exact(contT _ h (Nat.le_trans (above_len ⟨b,hkb⟩) (by decide))).mono fun e w' ⟨h1,h2⟩=>⟨h1,by rw[h2];exact Below.refl _ _⟩);generalize decide ((clsA b).name∈aboveK a)=x1 at HPK HCA;generalize decide ((clsA a).name∈aboveK b)=x2 at HPK HCBB;have hla:=World.block_lt_of_cell? W5 _ ga0;have hlb:=World.block_lt_of_cell? W5 _ gb0;cases x1 with
         | true=>
          have HP2:=Lib.hid (HQ2.out (by rw[HPK.out];rfl));clear HQ2 HPK HCBB HAB;go_wp2_with fail;refine wp_region_held_drew (S:=fun W=>W.cell? ⟨pa,0,none⟩=some (.string a0)∧W.cell? ⟨pb,0,none⟩=some (.string b0)) (by kernel_rfl) (⟨ga0,gb0⟩) (fun hHeld=> ?_);refine tk 0 ⟨some 39,_,_,_,_,_⟩ rfl ?_;refine tk 1 ⟨some 40,_,_,_,_,_⟩ rfl ?_;refine tk 3 ⟨some 42,_,_,_,_,_⟩ rfl ?_;refine tk 4 ⟨some 43,_,_,_,_,_⟩ rfl ?_;refine etw.tc 2 ⟨some 41,_,_,_,_,_⟩ rfl (fun K hK=> ?_);go_simp;go_at_call 29;refine(HAA.out _).mono ?_;rintro e w6 ⟨v6,rfl,hv6,hB6⟩;refine hK.out _ _ (⟨(hB6.cell (p:=⟨pa,0,none⟩) hla).trans (ga0),(hB6.cell (p:=⟨pb,0,none⟩) hlb).trans (gb0)⟩) (fun hHeld=> ?_);clear hK;try simp only[Act.put,List.setIfInBounds_toArray,List.set_cons_zero,List.set_cons_succ]
          refine etw.tc 5 ⟨some 44,_,_,_,_,_⟩ rfl (fun K hK=> ?_);go_simp;go_at_call 75;refine(HCA.out _ _ _ hv6).mono ?_;rintro e w7 ⟨rfl,hB7⟩;refine hK.out _ _ (⟨(hB7.cell (p:=⟨pa,0,none⟩) (Nat.lt_of_lt_of_le hla hB6.size)).trans ((hB6.cell (p:=⟨pa,0,none⟩) hla).trans (ga0)),(hB7.cell (p:=⟨pb,0,none⟩) (Nat.lt_of_lt_of_le hlb hB6.size)).trans ((hB6.cell (p:=⟨pb,0,none⟩) hlb).trans (gb0))⟩) (fun hHeld=> ?_);clear hK;try simp only[Act.put,List.setIfInBounds_toArray,List.set_cons_zero,List.set_cons_succ]
          refine tk 6 ⟨some 45,_,_,_,_,_⟩ rfl ?_;refine tk 7 ⟨some 46,_,_,_,_,_⟩ rfl ?_;refine tu 8 ⟨some 47,_,_,_,_,_⟩ rfl ?_;refine tu 9 ⟨some 48,_,_,_,_,_⟩ rfl ?_;refine tu 10 ⟨some 49,_,_,_,_,_⟩ rfl ?_;refine tu 11 ⟨some 50,_,_,_,_,_⟩ rfl ?_;refine tu 12 ⟨some 51,_,_,_,_,_⟩ rfl ?_;refine tu 13 ⟨some 52,_,_,_,_,_⟩ rfl ?_;refine tu 14 ⟨some 53,_,_,_,_,_⟩ rfl ?_;refine tk 15 ⟨some 54,_,_,_,_,_⟩ rfl ?_;refine wpAnyH_done (by kernel_rfl) ?_ _;have hB57:=(Below.refl W5.heap.size W5).drew.trans hB6;have HB7:=Lib.hid (HBW5.out.trans ((hB57.trans (hB7.mono hB57.size)).mono HBW5.out.size));clear hB6 hB7 hB57 hHeld hv6 hla hlb ga0 gb0 ga1 gb1 ga2 gb2 ga3 gb3 ga4 gb4 ga5 gb5 ga6 gb6 ga7 gb7 ga8 gb8 ga9 gb9 ga10 gb10;go_wp2_with fail;go_roundw;case rel=>exact⟨j+1,by omega,by go_num,HP2,HB7⟩
          case measure=>simp[intOf];omega
         | false=>
          cases x2 with
          | true=>
           have HP2:=Lib.hid (HQ2.out (by rw[HPK.out];rfl));clear HQ2 HPK;go_wp2_with fail;refine wp_region_held_drew (S:=fun W=>W.cell? ⟨pa,0,none⟩=some (.string a0)∧W.cell? ⟨pb,0,none⟩=some (.string b0)) (by kernel_rfl) (⟨ga0,gb0⟩) (fun hHeld=> ?_);refine tk 0 ⟨some 39,_,_,_,_,_⟩ rfl ?_;refine tk 1 ⟨some 40,_,_,_,_,_⟩ rfl ?_;refine tk 3 ⟨some 42,_,_,_,_,_⟩ rfl ?_;refine tk 4 ⟨some 43,_,_,_,_,_⟩ rfl ?_;refine etw.tc 2 ⟨some 41,_,_,_,_,_⟩ rfl (fun K hK=> ?_);go_simp;go_at_call 29;refine(HAA.out _).mono ?_;rintro e w6 ⟨v6,rfl,hv6,hB6⟩;refine hK.out _ _ (⟨(hB6.cell (p:=⟨pa,0,none⟩) hla).trans (ga0),(hB6.cell (p:=⟨pb,0,none⟩) hlb).trans (gb0)⟩) (fun hHeld=> ?_);clear hK;try simp only[Act.put,List.setIfInBounds_toArray,List.set_cons_zero,List.set_cons_succ]
           refine etw.tc 5 ⟨some 44,_,_,_,_,_⟩ rfl (fun K hK=> ?_);go_simp;go_at_call 75;refine(HCA.out _ _ _ hv6).mono ?_;rintro e w7 ⟨rfl,hB7⟩;refine hK.out _ _ (⟨(hB7.cell (p:=⟨pa,0,none⟩) (Nat.lt_of_lt_of_le hla hB6.size)).trans ((hB6.cell (p:=⟨pa,0,none⟩) hla).trans (ga0)),(hB7.cell (p:=⟨pb,0,none⟩) (Nat.lt_of_lt_of_le hlb hB6.size)).trans ((hB6.cell (p:=⟨pb,0,none⟩) hlb).trans (gb0))⟩) (fun hHeld=> ?_);clear hK;try simp only[Act.put,List.setIfInBounds_toArray,List.set_cons_zero,List.set_cons_succ]
           refine tk 6 ⟨some 45,_,_,_,_,_⟩ rfl ?_;refine tk 7 ⟨some 46,_,_,_,_,_⟩ rfl ?_;refine tk 8 ⟨some 47,_,_,_,_,_⟩ rfl ?_;refine tk 9 ⟨some 48,_,_,_,_,_⟩ rfl ?_;refine tk 11 ⟨some 50,_,_,_,_,_⟩ rfl ?_;refine tk 12 ⟨some 51,_,_,_,_,_⟩ rfl ?_;refine etw.tc 10 ⟨some 49,_,_,_,_,_⟩ rfl (fun K hK=> ?_);go_simp;go_at_call 29;refine(HAB.out _).mono ?_;rintro e w8 ⟨v8,rfl,hv8,hB8⟩;refine hK.out _ _ (⟨(hB8.cell (p:=⟨pa,0,none⟩) (Nat.lt_of_lt_of_le (Nat.lt_of_lt_of_le hla hB6.size) hB7.size)).trans ((hB7.cell (p:=⟨pa,0,none⟩) (Nat.lt_of_lt_of_le hla hB6.size)).trans ((hB6.cell (p:=⟨pa,0,none⟩) hla).trans (ga0))),(hB8.cell (p:=⟨pb,0,none⟩) (Nat.lt_of_lt_of_le (Nat.lt_of_lt_of_le hlb hB6.size) hB7.size)).trans ((hB7.cell (p:=⟨pb,0,none⟩) (Nat.lt_of_lt_of_le hlb hB6.size)).trans ((hB6.cell (p:=⟨pb,0,none⟩) hlb).trans (gb0)))⟩) (fun hHeld=> ?_);clear hK;try simp only[Act.put,List.setIfInBounds_toArray,List.set_cons_zero,List.set_cons_succ]
           refine etw.tc 13 ⟨some 52,_,_,_,_,_⟩ rfl (fun K hK=> ?_);go_simp;go_at_call 75;refine(HCBB.out _ _ _ hv8).mono ?_;rintro e w9 ⟨rfl,hB9⟩;refine hK.out _ _ (⟨(hB9.cell (p:=⟨pa,0,none⟩) (Nat.lt_of_lt_of_le (Nat.lt_of_lt_of_le (Nat.lt_of_lt_of_le hla hB6.size) hB7.size) hB8.size)).trans ((hB8.cell (p:=⟨pa,0,none⟩) (Nat.lt_of_lt_of_le (Nat.lt_of_lt_of_le hla hB6.size) hB7.size)).trans ((hB7.cell (p:=⟨pa,0,none⟩) (Nat.lt_of_lt_of_le hla hB6.size)).trans ((hB6.cell (p:=⟨pa,0,none⟩) hla).trans (ga0)))),(hB9.cell (p:=⟨pb,0,none⟩) (Nat.lt_of_lt_of_le (Nat.lt_of_lt_of_le (Nat.lt_of_lt_of_le hlb hB6.size) hB7.size) hB8.size)).trans ((hB8.cell (p:=⟨pb,0,none⟩) (Nat.lt_of_lt_of_le (Nat.lt_of_lt_of_le hlb hB6.size) hB7.size)).trans ((hB7.cell (p:=⟨pb,0,none⟩) (Nat.lt_of_lt_of_le hlb hB6.size)).trans ((hB6.cell (p:=⟨pb,0,none⟩) hlb).trans (gb0))))⟩) (fun hHeld=> ?_);clear hK;try simp only[Act.put,List.setIfInBounds_toArray,List.set_cons_zero,List.set_cons_succ]
           refine tk 14 ⟨some 53,_,_,_,_,_⟩ rfl ?_;refine tk 15 ⟨some 54,_,_,_,_,_⟩ rfl ?_;refine wpAnyH_done (by kernel_rfl) ?_ _;have hB57:=(Below.refl W5.heap.size W5).drew.trans hB6;have hB58:=hB57.trans (hB7.mono hB57.size);have hB59:=hB58.trans (hB8.mono hB58.size);have HB7:=Lib.hid (HBW5.out.trans ((hB59.trans (hB9.mono hB59.size)).mono HBW5.out.size));clear hB6 hB7 hB8 hB9 hB57 hB58 hB59 hHeld hv6 hv8 hla hlb ga0 gb0 ga1 gb1 ga2 gb2 ga3 gb3 ga4 gb4 ga5 gb5 ga6 gb6 ga7 gb7 ga8 gb8 ga9 gb9 ga10 gb10;go_wp2_with fail;go_roundw;case rel=>exact⟨j+1,by omega,by go_num,HP2,HB7⟩
           case measure=>simp[intOf];omega
          | false=>
           have HR:Hid (chainK ks=false):=(by show _=_;rw[Bool.eq_false_iff];intro hc;unfold chainK at hc;rw[Bool.and_eq_true]at hc;have h1:=List.all_eq_true.1 (List.all_eq_true.1 hc.1 a HAM.out) b HBM.out;rw[HPK.out]at h1;cases h1);clear HQ2 HPK;go_wp2_with fail;refine wp_region_held_drew (S:=fun W=>W.cell? ⟨pa,0,none⟩=some (.string a0)∧W.cell? ⟨pb,0,none⟩=some (.string b0)) (by kernel_rfl) (⟨ga0,gb0⟩) (fun hHeld=> ?_);refine tk 0 ⟨some 39,_,_,_,_,_⟩ rfl ?_;refine tk 1 ⟨some 40,_,_,_,_,_⟩ rfl ?_;refine tk 3 ⟨some 42,_,_,_,_,_⟩ rfl ?_;refine tk 4 ⟨some 43,_,_,_,_,_⟩ rfl ?_;refine etw.tc 2 ⟨some 41,_,_,_,_,_⟩ rfl (fun K hK=> ?_);go_simp;go_at_call 29;refine(HAA.out _).mono ?_;rintro e w6 ⟨v6,rfl,hv6,hB6⟩;refine hK.out _ _ (⟨(hB6.cell (p:=⟨pa,0,none⟩) hla).trans (ga0),(hB6.cell (p:=⟨pb,0,none⟩) hlb).trans (gb0)⟩) (fun hHeld=> ?_);clear hK;try simp only[Act.put,List.setIfInBounds_toArray,List.set_cons_zero,List.set_cons_succ]
           refine etw.tc 5 ⟨some 44,_,_,_,_,_⟩ rfl (fun K hK=> ?_);go_simp;go_at_call 75;refine(HCA.out _ _ _ hv6).mono ?_;rintro e w7 ⟨rfl,hB7⟩;refine hK.out _ _ (⟨(hB7.cell (p:=⟨pa,0,none⟩) (Nat.lt_of_lt_of_le hla hB6.size)).trans ((hB6.cell (p:=⟨pa,0,none⟩) hla).trans (ga0)),(hB7.cell (p:=⟨pb,0,none⟩) (Nat.lt_of_lt_of_le hlb hB6.size)).trans ((hB6.cell (p:=⟨pb,0,none⟩) hlb).trans (gb0))⟩) (fun hHeld=> ?_);clear hK;try simp only[Act.put,List.setIfInBounds_toArray,List.set_cons_zero,List.set_cons_succ]
           refine tk 6 ⟨some 45,_,_,_,_,_⟩ rfl ?_;refine tk 7 ⟨some 46,_,_,_,_,_⟩ rfl ?_;refine tk 8 ⟨some 47,_,_,_,_,_⟩ rfl ?_;refine tk 9 ⟨some 48,_,_,_,_,_⟩ rfl ?_;refine tk 11 ⟨some 50,_,_,_,_,_⟩ rfl ?_;refine tk 12 ⟨some 51,_,_,_,_,_⟩ rfl ?_;refine etw.tc 10 ⟨some 49,_,_,_,_,_⟩ rfl (fun K hK=> ?_);go_simp;go_at_call 29;refine(HAB.out _).mono ?_;rintro e w8 ⟨v8,rfl,hv8,hB8⟩;refine hK.out _ _ (⟨(hB8.cell (p:=⟨pa,0,none⟩) (Nat.lt_of_lt_of_le (Nat.lt_of_lt_of_le hla hB6.size) hB7.size)).trans ((hB7.cell (p:=⟨pa,0,none⟩) (Nat.lt_of_lt_of_le hla hB6.size)).trans ((hB6.cell (p:=⟨pa,0,none⟩) hla).trans (ga0))),(hB8.cell (p:=⟨pb,0,none⟩) (Nat.lt_of_lt_of_le (Nat.lt_of_lt_of_le hlb hB6.size) hB7.size)).trans ((hB7.cell (p:=⟨pb,0,none⟩) (Nat.lt_of_lt_of_le hlb hB6.size)).trans ((hB6.cell (p:=⟨pb,0,none⟩) hlb).trans (gb0)))⟩) (fun hHeld=> ?_);clear hK;try simp only[Act.put,List.setIfInBounds_toArray,List.set_cons_zero,List.set_cons_succ]
           refine etw.tc 13 ⟨some 52,_,_,_,_,_⟩ rfl (fun K hK=> ?_);go_simp;go_at_call 75;refine(HCBB.out _ _ _ hv8).mono ?_;rintro e w9 ⟨rfl,hB9⟩;refine hK.out _ _ (⟨(hB9.cell (p:=⟨pa,0,none⟩) (Nat.lt_of_lt_of_le (Nat.lt_of_lt_of_le (Nat.lt_of_lt_of_le hla hB6.size) hB7.size) hB8.size)).trans ((hB8.cell (p:=⟨pa,0,none⟩) (Nat.lt_of_lt_of_le (Nat.lt_of_lt_of_le hla hB6.size) hB7.size)).trans ((hB7.cell (p:=⟨pa,0,none⟩) (Nat.lt_of_lt_of_le hla hB6.size)).trans ((hB6.cell (p:=⟨pa,0,none⟩) hla).trans (ga0)))),(hB9.cell (p:=⟨pb,0,none⟩) (Nat.lt_of_lt_of_le (Nat.lt_of_lt_of_le (Nat.lt_of_lt_of_le hlb hB6.size) hB7.size) hB8.size)).trans ((hB8.cell (p:=⟨pb,0,none⟩) (Nat.lt_of_lt_of_le (Nat.lt_of_lt_of_le hlb hB6.size) hB7.size)).trans ((hB7.cell (p:=⟨pb,0,none⟩) (Nat.lt_of_lt_of_le hlb hB6.size)).trans ((hB6.cell (p:=⟨pb,0,none⟩) hlb).trans (gb0))))⟩) (fun hHeld=> ?_);clear hK;try simp only[Act.put,List.setIfInBounds_toArray,List.set_cons_zero,List.set_cons_succ]
           refine tk 14 ⟨some 53,_,_,_,_,_⟩ rfl ?_;refine tk 15 ⟨some 54,_,_,_,_,_⟩ rfl ?_;refine wpAnyH_done (by kernel_rfl) ?_ _;have hB57:=(Below.refl W5.heap.size W5).drew.trans hB6;have hB58:=hB57.trans (hB7.mono hB57.size);have hB59:=hB58.trans (hB8.mono hB58.size);have HB7:=Lib.hid (HB3.out.trans ((HBW5.out.trans ((hB59.trans (hB9.mono hB59.size)).mono HBW5.out.size)).mono hs3));clear hB6 hB7 hB8 hB9 hB57 hB58 hB59 hHeld hv6 hv8 hla hlb ga0 gb0 ga1 gb1 ga2 gb2 ga3 gb3 ga4 gb4 ga5 gb5 ga6 gb6 ga7 gb7 ga8 gb8 ga9 gb9 ga10 gb10;go_wp2_with fail;go_ret;exact⟨kt.ret_bool HR.out.symm,HB7.out⟩
       ·have q1:(b1 !=1)=true:=(by rw[bne_iff_ne];exact h2);have HP2:=Lib.hid (HQ2.out (by unfold pairK;rw[HSTB.out,decide_eq_false h2];simp));clear HQ2 h2;go_wp2_with fail;go_roundw;case rel=>exact⟨j+1,by omega,by go_num,HP2,HBW5⟩
        case measure=>simp[intOf];omega
      ·have q1:(a1 !=1)=true:=(by rw[bne_iff_ne];exact h1);have HP2:=Lib.hid (HQ2.out (by unfold pairK;rw[HST.out,decide_eq_false h1];simp));clear HQ2 h1;go_wp2_with fail;go_roundw;case rel=>exact⟨j+1,by omega,by go_num,HP2,HBW5⟩
       case measure=>simp[intOf];omega
     ·obtain rfl:N=j:=(by omega);have hP2:=hQ.out;rw[←HN.out,List.take_length]at hP2;have HP2:Hid (∀x∈ks.take (i+1),∀y∈ks,pairK x y=true):=by
       intro x hx;rw[HTS.out]at hx;rcases List.mem_append.1 hx with hx | hx
       ·exact hP.out x hx
       ·rw[List.mem_singleton]at hx;rw[hx];exact hP2
      clear hP2;go_wp2_with fail;go_roundw;case rel=>exact⟨i+1,_,by omega,by go_num,rfl,HSN,HP2,HBi⟩
      case measure=>simp[intOf];omega
  ·obtain rfl:N=i:=(by omega);have HR:Hid (chainK ks=sb):=(by show _=_;have h1:=hP.out;have h2:=hS.out;rw[←HN.out,List.take_length]at h1 h2;unfold chainK;rw[List.all_eq_true.2 (fun a ha=>List.all_eq_true.2 (fun b hb=>h1 a ha b hb)),h2];rfl);go_wp2_with fail;go_ret;exact⟨kt.ret_bool HR.out.symm,hB.out⟩
end scw
open Go.RowKit
namespace etw
open atp atw etp
open tupw (Strs strs_below)
theorem app_nothing {P:Program}(w:World)(B:Nat)(t ty e:TypeId)(i:TypeInfo)(ht:P.underlying t=some (.slice e))(hi:P.info? e=some i)(v:Value)(n:Nat)(xs:List Value)(hown:w.ownsRow B e 1 v n xs)(c:Nat):
  (Builtin.append_ #[t,t] ty #[v,.slice none 0 c]).run P w= .ok v w:=by
 rcases hown.2 with⟨rfl,rfl⟩ | ⟨g,cap,cur,rfl,_,_,hnc,_⟩
 ·simp[Builtin.append_,run_underlying ht,sizeOf,typeInfo,hi,Builtin.lenOf,Builtin.firstCells]
 ·simp[Builtin.append_,run_underlying ht,sizeOf,typeInfo,hi,Builtin.lenOf,Builtin.firstCells,hnc,storeCells]
theorem appAll {w:World}{B:Nat}{v x:Value}{l ys:List ByteArray}(hown:prw.OwnT w B v l)(hx:ElemAt w x ys)(hl:l.length≤1000000)(hy:ys.length≤1000000)(hB:B≤w.heap.size):
  ∃ao m cap w1,(Builtin.append_ #[35,35] 35 #[v,x]).run Tryz.prog w= .ok (.slice ao m cap) w1∧prw.OwnT w1 B (.slice ao m cap) (l++ys)∧Below B w w1∧m=(l++ys).length:=by
 obtain⟨a,c,rfl,hc,hs⟩:=hx;cases a with
 | none=>
  have h0:ys=[]:=by
   cases ys with
   | nil=>rfl
   | cons y t=>obtain⟨b,o,e,_⟩:=hs 0 (by simp);cases e
  subst h0;obtain⟨ao,cap,rfl,hcap⟩:=prw.ownT_cells hown;obtain⟨i0,hi,_⟩:=info_parts prw.infoStr;exact⟨ao,_,cap,w,app_nothing w B _ _ _ i0 Tryz.underlying35 hi _ _ _ hown c,by rw[List.append_nil];exact hown,Below.refl _ _,by simp⟩
 | some ad=>
  obtain⟨v',w1,h1,h2,_,h3⟩:=kt.appN (P:=Tryz.prog) (t:=35) (ty:=35) Tryz.underlying35 prw.infoStr rfl ad ys.length c (prw.scells ys) (prw.scells_length ys) (fun j u hj=>by
   have hj':j<ys.length:=(by rw[←prw.scells_length ys];exact(List.getElem?_eq_some_iff.1 hj).1);obtain⟨b,o,e,hcell⟩:=hs j hj';have e':ad=⟨b,o,none⟩:=(by simpa using e);rw[e',Addr.add_mid,hcell];unfold prw.scells at hj;rw[List.getElem?_map,List.getElem?_eq_getElem hj']at hj;simpa using hj) (by
   intro u hu;unfold prw.scells at hu;obtain⟨s,_,rfl⟩:=List.mem_map.1 hu;rfl) hown (by rw[prw.scells_length];unfold maxLen;omega) (by rw[prw.scells_length];omega) hB
  have h2':prw.OwnT w1 B v' (l++ys):=by unfold prw.OwnT;have e:prw.scells (l++ys)=prw.scells l++prw.scells ys:=(by unfold prw.scells;rw[List.map_append]);rw[e];exact h2
  obtain⟨ao,m,cap,rfl,hm⟩:=dnw.ownT_form h2';exact⟨ao,m,cap,w1,h1,h2',h3,hm.out⟩
theorem own_empty (w:World)(B:Nat)(hB:B≤w.heap.size):prw.OwnT (w.alloc (.cells #[] 9)) B (.slice (some ⟨w.heap.size,0,none⟩) 0 0) []:=⟨by simp[prw.scells],Or.inr ⟨w.heap.size,0,#[],rfl,hB,heap_alloc_new w _,Nat.le_refl _,by unfold maxLen;omega,by simp[prw.scells],by simp[prw.scells]⟩⟩
end etw
open Go.RowKit
namespace scw
open scp atp atw etp etw
open tupw (Strs strs_below)
def tc (x:T):Value:= .string (bs x)
def SegT (w:World)(q:Nat)(v:Value)(l:List T):Prop:=kt.SegX w q 9 1 v l.length (l.map tc)
theorem segT_nil (w:World)(q:Nat):SegT w q (.slice none 0 0) []:=kt.segX_nil _ _ _ _
theorem segT_below {w w':World}{q:Nat}{v:Value}{l:List T}(h:SegT w q v l)(hb:Below w.heap.size w w'):SegT w' q v l:=kt.segX_below h hb
theorem segT_elem {w:World}{q:Nat}{v:Value}{l:List T}(h:SegT w q v l):ElemAt w v (l.map bs):=by obtain⟨ao,cap,rfl,hc⟩:=kt.segX_slice h;refine⟨ao,cap,by rw[List.length_map],by rw[List.length_map];exact hc,fun i hi=> ?_⟩;rw[List.length_map]at hi;obtain⟨g,o,cap',hv,_,_,hcell⟩:=kt.segX_cell h (by omega);simp only[Value.slice.injEq]at hv;obtain⟨rfl,_,_⟩:=hv;refine⟨g,o,rfl,?_⟩;rw[hcell i _ (by rw[List.getElem?_map,List.getElem?_eq_getElem hi];rfl)];rw[List.getElem_map];rfl
theorem segT_app {w:World}{q:Nat}{v x:Value}{l ys:List T}(h:SegT w q v l)(hx:ElemAt w x (ys.map bs))(hl:l.length≤10000000)(hy:ys.length≤10000000)(hB:q≤w.heap.size):
  ∃v' w1,(Builtin.append_ #[35,35] 35 #[v,x]).run Tryz.prog w= .ok v' w1∧SegT w1 q v' (l++ys)∧w.grownBy w1 v.ownBlock∧kt.SameOrNew w v v':=by
 obtain⟨a,c,rfl,hc,hs⟩:=hx;rw[List.length_map]at hc ⊢;cases a with
 | none=>
  have h0:ys=[]:=by
   cases ys with
   | nil=>rfl
   | cons y t=>obtain⟨b,o,e,_⟩:=hs 0 (by simp);cases e
  subst h0;obtain⟨i0,hi,_⟩:=info_parts prw.infoStr;refine⟨v,w,?_,by rw[List.append_nil];exact h,⟨rfl,rfl,rfl,Nat.le_refl _,fun _ _ _=>rfl⟩,fun k hk=>Or.inl hk⟩;obtain⟨ao,cap,rfl,hnc⟩:=kt.segX_slice h;cases ao with
  | none=>
   rcases h.2 with⟨hv,hn⟩ | ⟨g,o,cap',pre,post,hv,_⟩
   ·simp only[Value.slice.injEq]at hv;obtain⟨_,h1,rfl⟩:=hv;rw[h1];simp[Builtin.append_,run_underlying Tryz.underlying35,sizeOf,typeInfo,hi,Builtin.lenOf,Builtin.firstCells]
   ·cases hv
  | some ad=>simp[Builtin.append_,run_underlying Tryz.underlying35,sizeOf,typeInfo,hi,Builtin.lenOf,Builtin.firstCells,hnc,storeCells]
 | some ad=>
  obtain⟨v',w1,h1,h2,h3,h4⟩:=kt.segX_append (P:=Tryz.prog) (t:=35) (ty:=35) Tryz.underlying35 prw.infoStr rfl (by decide) ad ys.length c (ys.map tc) (by simp) (fun j u hj=>by
   rw[List.getElem?_map]at hj;cases hy2:ys[j]? with
   | none=>rw[hy2]at hj;cases hj
   | some y=>rw[hy2]at hj;cases hj;have hj':j<ys.length:=(List.getElem?_eq_some_iff.1 hy2).1;obtain⟨b,o,e,hcell⟩:=hs j (by rw[List.length_map];exact hj');have e':ad=⟨b,o,none⟩:=(by simpa using e);rw[e',Addr.add_mid,hcell,List.getElem_map];have:=(List.getElem?_eq_some_iff.1 hy2).2;rw[this];rfl) (fun u hu=>by obtain⟨s,_,rfl⟩:=List.mem_map.1 hu;rfl) h (by unfold maxLen;omega) (by omega) hB
  refine⟨v',w1,h1,?_,h3,h4⟩;unfold SegT;rw[List.length_append,List.map_append];exact h2
def Tw (w:World)(q:Nat)(mv yv:Value)(lm ly:List T):Prop:=SegT w q mv lm∧SegT w q yv ly∧ ∀k,mv.ownBlock=some k→yv.ownBlock≠some k
theorem tw_nil (w:World)(q:Nat):Tw w q (.slice none 0 0) (.slice none 0 0) [] []:=⟨segT_nil _ _,segT_nil _ _,fun k hk=>by cases hk⟩
theorem tw_below {w w':World}{q:Nat}{mv yv:Value}{lm ly:List T}(h:Tw w q mv yv lm ly)(hb:Below w.heap.size w w'):Tw w' q mv yv lm ly:=⟨segT_below h.1 hb,segT_below h.2.1 hb,h.2.2⟩
theorem tw_swap {w:World}{q:Nat}{mv yv:Value}{lm ly:List T}(h:Tw w q mv yv lm ly):Tw w q yv mv ly lm:=⟨h.2.1,h.1,fun k hk h2=>h.2.2 k h2 hk⟩
theorem tw_app {w:World}{q:Nat}{mv yv x:Value}{lm ly ys:List T}(h:Tw w q mv yv lm ly)(hx:ElemAt w x (ys.map bs))(hl:lm.length≤10000000)(hy:ys.length≤10000000)(hB:q≤w.heap.size):
  ∃v' w1,(Builtin.append_ #[35,35] 35 #[mv,x]).run Tryz.prog w= .ok v' w1∧Tw w1 q v' yv (lm++ys) ly∧Below q w w1∧w.grownBy w1 mv.ownBlock:=by
 obtain⟨v',w1,h1,h2,h3,h4⟩:=segT_app h.1 hx hl hy hB;refine⟨v',w1,h1,⟨h2,kt.segX_same h.2.1 fun k hk=>h3.block k (kt.segX_lt h.2.1 k hk).2 (fun e=>h.2.2 k e.symm hk),fun k hk h5=> ?_⟩,(Below.refl q w).grown h3 hB (fun k hk=>(kt.segX_lt h.1 k hk).1),h3⟩;rcases h4 k hk with h6 | h6
 ·exact h.2.2 k h6 h5
 ·have:=(kt.segX_lt h.2.1 k h5).2;omega
theorem tw_app2 {w:World}{q:Nat}{mv yv x:Value}{lm ly ys:List T}(h:Tw w q mv yv lm ly)(hx:ElemAt w x (ys.map bs))(hl:ly.length≤10000000)(hy:ys.length≤10000000)(hB:q≤w.heap.size):
  ∃v' w1,(Builtin.append_ #[35,35] 35 #[yv,x]).run Tryz.prog w= .ok v' w1∧Tw w1 q mv v' lm (ly++ys)∧Below q w w1:=by
 obtain⟨v',w1,h1,h2,h3,_⟩:=tw_app (tw_swap h) hx hl hy hB;exact⟨v',w1,h1,tw_swap h2,h3⟩
theorem contE {w:World}{v:Value}{l:List T}(x:T)(h:ElemAt w v (l.map bs))(hl:l.length≤100000000):
  Calls Tryz.prog 75 #[v,.string (bs x)] w fun e w'=>e= .returned (.bool (decide (x∈l)))∧w'=w:=by
 obtain⟨a,c,rfl,hc,hs⟩:=h;rw[List.length_map]at hc ⊢;cases l with
 | nil=>exact Tryz.slices_Contains_string_empty a c (bs x) w
 | cons y r=>obtain⟨b,o,rfl,_⟩:=hs 0 (by simp);have C:=Tryz.slices_Contains_string b o (y::r).length c ((y::r).map bs) (bs x) w (by simp) (by omega) (fun j hj=>by obtain⟨b2,o2,e,hcell⟩:=hs j hj;simp only[Option.some.injEq,Addr.mk.injEq,and_true]at e;obtain⟨rfl,rfl⟩:=e;rw[hcell,List.getD_eq_getElem?_getD,List.getElem?_eq_getElem hj];rfl);rw[List.take_of_length_le (by simp),contains_in]at C;exact C
theorem ownS_elem {w:World}{B:Nat}{v:Value}{l:List T}(h:OwnS w B v l):ElemAt w v (l.map bs):=own_elem h
end scw
end Go.Proofs.YtmnpfkbjpeaemaaGreatDoor
