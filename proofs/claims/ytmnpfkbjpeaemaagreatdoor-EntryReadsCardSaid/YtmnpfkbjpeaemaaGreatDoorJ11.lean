/- One text out of several: WithK. -/
import Derived.Lib.SmallJoins
import Derived.Test.YtmnpfkbjpeaemaaGreatDoorJ10
set_option linter.unusedVariables false
set_option linter.unusedSimpArgs false
set_option maxRecDepth 20000
set_option maxHeartbeats 4000000
namespace Go.Proofs.YtmnpfkbjpeaemaaGreatDoor
open Go.RowKit
namespace etw
open atp atw etp
open dnw (Av Avas)
open tupw (Strs strs_below)
def NoS (v:Value):Prop:= ∀s:ByteArray,v≠ .string s
theorem noS_slice (a:Option Addr)(n c:Nat):NoS (.slice a n c):=fun s h=>by cases h
theorem entB_str {w:World}{p:Nat}{r a:Value}(h:EntB w p r a)(hr:NoS r)(ha:NoS a)(o:Nat)(s:ByteArray):w.cell? ⟨p,o,none⟩≠some (.string s):=by
 rw[Lib.cell_of_heap h]
 match o with
 | 0=>intro e;simp at e;exact hr s e
 | 1=>intro e;simp at e;exact ha s e
 | k+2=>intro e;simp at e
theorem entB_set1 {w:World}{p:Nat}{r a:Value}(h:EntB w p r a)(u:Value):EntB (w.setCell ⟨p,1,none⟩ u) p r u:=Joins.block_setCell h u
theorem entB_set0 {w:World}{p:Nat}{r a:Value}(h:EntB w p r a)(u:Value):EntB (w.setCell ⟨p,0,none⟩ u) p u a:=Joins.block_setCell h u
theorem strs_set {w:World}{ao:Option Addr}{l:List ByteArray}{p:Nat}{r a:Value}(h:Strs w ao l)(hp:EntB w p r a)(hr:NoS r)(ha:NoS a)(j:Nat)(u:Value):Strs (w.setCell ⟨p,j,none⟩ u) ao l:=by intro i hi;obtain⟨b,o,e,hc⟩:=h i hi;refine⟨b,o,e,?_⟩;rw[World.cell?_setCell_other _ _ _ _ ?_,hc];intro e2;injection e2 with e3 _ _;subst e3;exact entB_str hp hr ha _ _ hc
theorem elem_set {w:World}{x:Value}{l:List ByteArray}{p:Nat}{r a:Value}(h:ElemAt w x l)(hp:EntB w p r a)(hr:NoS r)(ha:NoS a)(j:Nat)(u:Value):ElemAt (w.setCell ⟨p,j,none⟩ u) x l:=by obtain⟨b,c,h1,h2,h3⟩:=h;exact⟨b,c,h1,h2,strs_set h3 hp hr ha j u⟩
theorem avas_set {w:World}{ao:Option Addr}{l:List Av}{p:Nat}{r a:Value}(h:Avas w ao l)(hp:EntB w p r a)(hr:NoS r)(ha:NoS a)(j:Nat)(u:Value):Avas (w.setCell ⟨p,j,none⟩ u) ao l:=by
 intro i hi;obtain⟨b,o,e,h1,h2⟩:=h i hi;have hb:b≠p:=by rintro rfl;exact entB_str hp hr ha _ _ h1
 refine⟨b,o,e,?_,?_⟩
 ·rw[World.cell?_setCell_other _ _ _ _ (by intro e2;injection e2 with e3 _ _;exact hb e3.symm),h1]
 ·rw[World.cell?_setCell_other _ _ _ _ (by intro e2;injection e2 with e3 _ _;exact hb e3.symm),h2]
theorem ownA_ne {w:World}{B:Nat}{v:Value}{l:List AV}{p:Nat}{r a:Value}(h:OwnA w B v l)(hp:EntB w p r a):v.ownBlock≠some p:=by
 intro e;rcases h.outer.2 with⟨rfl,_⟩ | ⟨g,o,cap,pre,post,rfl,_,hg,_⟩
 ·cases e
 ·simp[Value.ownBlock]at e;subst e;unfold EntB at hp;rw[hg]at hp;simp at hp
theorem ownA_set {w:World}{B:Nat}{v:Value}{l:List AV}{p:Nat}{r a:Value}(h:OwnA w B v l)(hp:EntB w p r a)(hr:NoS r)(ha:NoS a)(j:Nat)(u:Value):OwnA (w.setCell ⟨p,j,none⟩ u) B v l:=by have hne:=ownA_ne h hp;refine⟨kt.segX_same h.outer fun k hk=>Below.heap_setCell _ _ _ _ (fun e=> ?_),fun x hx=>⟨elem_set (h.inner x hx).1 hp hr ha j u,(h.inner x hx).2⟩⟩;simp only at e;subst e;exact hne hk
theorem ownA_formC {w:World}{B:Nat}{v:Value}{l:List AV}(h:OwnA w B v l): ∃ao n cap,v= .slice ao n cap∧n≤cap:=by obtain⟨ao,n,cap,h1,_,h2⟩:=ownA_form h;exact⟨ao,n,cap,h1,h2⟩
def AppA (w:World)(B p:Nat)(rs av:Value)(t:ByteArray)(x:Value)(dl:List AV)(vs:List ByteArray)(w7:World)(ao7:Option Addr)(m7 cap7:Nat):Prop:=(Builtin.append_ #[24,24] 24 #[av,.slice (some ⟨w.heap.size,0,none⟩) 1 1]).run Tryz.prog (w.alloc (.cells #[.string t,x] 43))= .ok (.slice ao7 m7 cap7) w7
theorem appA {w:World}{B p:Nat}{rs av:Value}(t:ByteArray)(x:Value)(vs:List ByteArray)(dl:List AV)(hO:OwnA w B av dl)(hp:EntB w p rs av)(hrs:NoS rs)(hx:ElemAt w x vs)(hne:vs≠[]→ ∀k,x.ownBlock=some k→av.ownBlock≠some k)(hl:dl.length≤1000000)(hB:B≤w.heap.size):
  ∃ao7 m7 cap7 w7,AppA w B p rs av t x dl vs w7 ao7 m7 cap7∧w7.frozen? ⟨p,1,none⟩=false∧(∃u,w7.cell? ⟨p,1,none⟩=some u)∧
   EntB (w7.setCell ⟨p,1,none⟩ (.slice ao7 m7 cap7)) p rs (.slice ao7 m7 cap7)∧OwnA (w7.setCell ⟨p,1,none⟩ (.slice ao7 m7 cap7)) B (.slice ao7 m7 cap7) (dl++[(⟨t,vs⟩,x)])∧Below B w w7∧
   (∀k,k<w.heap.size→av.ownBlock≠some k→w7.heap[k]? =w.heap[k]?)∧(∀k,(Value.slice ao7 m7 cap7).ownBlock=some k→av.ownBlock=some k∨w.heap.size≤k):=by
 obtain⟨ao7,m7,cap7,w7,h1,h2,h3,_,_,h4,_,h5,h6⟩:=ownA_app t x vs hO hx hne hl hB;obtain⟨ao,n,cap,rfl,_⟩:=ownA_formC hO;have hp7:EntB w7 p rs (.slice ao n cap):=(h5 p (kt.bld_lt hp) (ownA_ne hO hp)).trans hp;exact⟨ao7,m7,cap7,w7,h1,Lib.frozen_of_heap hp7 1,⟨_,(entB_cells hp7).2⟩,entB_set1 hp7 _,ownA_set h2 hp7 hrs (noS_slice _ _ _) _ _,h3,h5,h6⟩
theorem grown_step {w4 wr w5 w7:World}{p:Nat}(h:w4.grownBy wr (some p))(h5:Below wr.heap.size wr w5)(h7:Below w4.heap.size w5 w7)(j:Nat)(u:Value):w4.grownBy (w7.setCell ⟨p,j,none⟩ u) (some p):=by
 refine⟨h7.os.trans (h5.os.trans h.os),h7.tape.trans (h5.tape.trans h.tape),h7.output.trans (h5.output.trans h.output),?_,fun k hk hne=> ?_⟩
 ·have:=h.size;have:=h5.size;have:=h7.size;simp;omega
 ·rw[Below.heap_setCell _ _ _ _ (fun e=>hne (by rw[e])),h7.block k hk,h5.block k (Nat.lt_of_lt_of_le hk h.size),h.block k hk hne]
theorem grown_below {w4 wr w5:World}{p:Nat}(h:w4.grownBy wr (some p))(h5:Below wr.heap.size wr w5):w4.grownBy w5 (some p):=⟨h5.os.trans h.os,h5.tape.trans h.tape,h5.output.trans h.output,Nat.le_trans h.size h5.size,fun k hk hne=>(h5.block k (Nat.lt_of_lt_of_le hk h.size)).trans (h.block k hk hne)⟩
theorem grown_refl (w:World)(p:Nat):w.grownBy w (some p):=⟨rfl,rfl,rfl,Nat.le_refl _,fun _ _ _=>rfl⟩
theorem attrB_set {w:World}{A p j:Nat}{t:ByteArray}{v:Value}(h:AttrB w A t v)(hp:A≠p)(u:Value):AttrB (w.setCell ⟨p,j,none⟩ u) A t v:=(Below.heap_setCell _ _ _ _ hp).trans h
theorem ownT_new {w:World}{B:Nat}{x:Value}{l:List ByteArray}(h:prw.OwnT w B x l): ∀k,x.ownBlock=some k→B≤k:=fun k hk=>(World.ownsRow.lt h k hk).1
theorem ownA_old {w:World}{B:Nat}{v:Value}{l:List AV}(h:OwnA w B v l): ∀k,v.ownBlock=some k→k<w.heap.size:=fun k hk=>(kt.segX_lt h.outer k hk).2
theorem attrB_app {w w7:World}{A p:Nat}{t:ByteArray}{v av u:Value}(h:AttrB w A t v)(hne:av.ownBlock≠some A)(hp:A≠p)(h5: ∀k,k<w.heap.size→av.ownBlock≠some k→w7.heap[k]? =w.heap[k]?):AttrB (w7.setCell ⟨p,1,none⟩ u) A t v:=attrB_set ((h5 A (kt.bld_lt h) hne).trans h) hp u
def EntE (E:En)(w:World)(e:Ending)(w':World):Prop:= ∃v,e= .returned v∧EntV w' v E∧Below w.heap.size w w'
theorem withF_step {n:ByteArray}{l:List ByteArray}{d:Bool}{L:List At}{i:Nat}(h:i<L.length):withF n l d (L.drop i)=(if(!d&& !ltB L[i].t n)=true then[⟨n,l⟩]else[])++((if L[i].t=n then[]else[L[i]])++withF n l (d||(!d&& !ltB L[i].t n)) (L.drop (i+1))):=by rw[List.drop_eq_getElem_cons h];show _++_++_=_;rw[List.append_assoc]
def avc (a:Av):List Value:=[.string a.t,.string a.v]
theorem avc_at {l:List Av}: ∀ {j:Nat} {u:Value},(l.flatMap avc)[j]? =some u→ ∃i,∃hi:i<l.length,(j=i*2∧u= .string l[i].t)∨(j=i*2+1∧u= .string l[i].v):=by
 induction l with
 | nil=>intro j u h;simp at h
 | cons a t ih=>
  intro j u h;rw[List.flatMap_cons]at h
  match j,h with
  | 0,h=>exact⟨0,by simp,Or.inl ⟨rfl,by simp[avc]at h;exact h.symm⟩⟩
  | 1,h=>exact⟨0,by simp,Or.inr ⟨rfl,by simp[avc]at h;exact h.symm⟩⟩
  | k+2,h=>
   rw[List.getElem?_append_right (by simp[avc])]at h;obtain⟨i,hi,h2⟩:=ih (j:=k) (u:=u) (by simpa[avc]using h);refine⟨i+1,by simpa using hi,?_⟩;rcases h2 with⟨rfl,rfl⟩ | ⟨rfl,rfl⟩
   ·exact Or.inl ⟨by omega,rfl⟩
   ·exact Or.inr ⟨by omega,rfl⟩
theorem avc_len (l:List Av):(l.flatMap avc).length=l.length*2:=kt.flat_len avc 2 (fun _=>rfl) l
theorem infoAv:(Tryz.prog.info? 51).map (fun i=>(i.zero,i.size,i.bytes))=some (some (.agg #[.string ByteArray.empty,.string ByteArray.empty]),2,32):=by kernel_rfl
theorem segX_empty (w:World)(e:TypeId)(sz:Nat)(B:Nat)(hB:B≤w.heap.size):kt.SegX (w.alloc (.cells #[] e)) B e sz (.slice (some ⟨w.heap.size,0,none⟩) 0 0) 0 []:=⟨by simp,Or.inr ⟨w.heap.size,0,0,[],[],rfl,hB,heap_alloc_new w _,rfl,Nat.le_refl _,by unfold maxLen;omega,by simp⟩⟩
theorem seg_avas {w:World}{B:Nat}{v:Value}{l:List Av}(h:kt.SegX w B 51 2 v l.length (l.flatMap avc)): ∃ao cap,v= .slice ao l.length cap∧l.length≤cap∧Avas w ao l:=by
 obtain⟨ao,cap,rfl,hc⟩:=kt.segX_slice h;refine⟨ao,cap,rfl,hc,fun i hi=> ?_⟩;obtain⟨g,o,cap',hv,_,_,hcell⟩:=kt.segX_cell h (by omega);simp only[Value.slice.injEq]at hv;obtain⟨rfl,_,rfl⟩:=hv;have hj: ∀j,j<2→(l.flatMap avc)[i*2+j]? =(avc l[i])[j]? :=fun j hj=>kt.flat_get avc 2 (fun _=>rfl) l i j hi hj;refine⟨g,o,rfl,?_,?_⟩
 ·exact hcell _ _ (hj 0 (by omega))
 ·rw[Nat.add_assoc];exact hcell _ _ (hj 1 (by omega))
def ClonA (l:List Av)(w:World)(e:Ending)(w':World):Prop:= ∃ao cap,e= .returned (.slice ao l.length cap)∧l.length≤cap∧Avas w' ao l∧Below w.heap.size w w'
theorem cloneA_any (ao:Option Addr)(cap:Nat)(l:List Av)(w:World)(hA:Hid (Avas w ao l))(hl:l.length≤1000000):Calls Tryz.prog 149 #[.slice ao l.length cap] w fun e w'=>ClonA l w e w':=by
 have HRES:Hid (∀ao' n' cap' w',n'=l.length→n'≤cap'→Avas w' ao' l→Below w.heap.size w w'→ClonA l w (.returned (.slice ao' n' cap')) w'):=fun ao' n' cap' w' h1 h2 h3 h4=>by subst h1;exact⟨ao',cap',rfl,h2,h3,h4⟩
 cases ao with
 | none=>
  have h0:l=[]:=by
   cases l with
   | nil=>rfl
   | cons a t=>obtain⟨b,o,e,_⟩:=hA.out 0 (by simp);cases e
  subst h0;have hnil:(binOp .eql 23 (.slice none 0 cap) (.slice none 0 0)).run Tryz.prog w= .ok (.bool true) w:=Lib.run_eql_slice_nil w 23 51 none 0 cap 0 0 Tryz.underlying23;go_enter Tryz.func149,Tryz.ntmps149;go_wp2_with fail;go_ret;exact HRES.out none 0 0 _ rfl (Nat.le_refl _) (fun i hi=>absurd hi (Nat.not_lt_zero i)) (Below.refl _ _)
 | some p=>
  have hp:l≠[]→p=⟨p.block,p.off,none⟩:=by
   intro hne;cases l with
   | nil=>exact absurd rfl hne
   | cons a t=>obtain⟨b,o,e,_⟩:=hA.out 0 (by simp);cases e;rfl
  have hA0:Below w.heap.size w (w.alloc (.cells #[] 51)):=(Below.refl _ _).alloc (Nat.le_refl _) _;obtain⟨v',w1,hap,hs,hg,_⟩:=kt.segX_append (P:=Tryz.prog) (t:=23) (ty:=23) Tryz.underlying23 infoAv rfl (by omega) (w:=w.alloc (.cells #[] 51)) (B:=w.heap.size) p l.length cap (l.flatMap avc) (avc_len l) (fun j u hj=>by
   obtain⟨i,hi,h⟩:=avc_at hj;obtain⟨b,o,e,h1,h2⟩:=dnw.avas_below hA.out hA0 i hi;have e':p=⟨b,o,none⟩:=(by simpa using e);rw[e',Addr.add_mid];rcases h with⟨rfl,rfl⟩ | ⟨rfl,rfl⟩
   ·exact h1
   ·rw[←Nat.add_assoc];exact h2) (by
    intro u hu;obtain⟨j,hj,rfl⟩:=List.mem_iff_getElem.1 hu;obtain⟨i,hi,h⟩:=avc_at (List.getElem?_eq_getElem hj);rcases h with⟨_,h⟩ | ⟨_,h⟩<;>rw[h]<;>rfl) (segX_empty w _ _ _ (Nat.le_refl _)) (by unfold maxLen;omega) (by omega) (by simp)
  rw[Nat.zero_add,List.nil_append]at hs;obtain⟨ao',cap',rfl,hc,hav⟩:=seg_avas hs;have HAP:=Lib.hid hap;have HAV:=Lib.hid hav;have HB:=Lib.hid (hA0.trans ((Below.refl _ _).grown hg (by simp) (fun k hk=>by simp[Value.ownBlock]at hk;omega)));obtain⟨N,hN⟩: ∃N,l.length=N:=⟨_,rfl⟩;have HN:=Lib.hid hN;rw[hN]at HAP hc ⊢;clear hap hs hg hav hp hA0 hN;have hap:=HAP.out;clear HAP;have hnil:(binOp .eql 23 (.slice (some p) N cap) (.slice none 0 0)).run Tryz.prog w= .ok (.bool false) w:=Lib.run_eql_slice_nil w 23 51 (some p) N cap 0 0 Tryz.underlying23;go_enter Tryz.func149,Tryz.ntmps149;go_wp2_with (at_builtin;refine Lib.wpList_append_run _ rfl _ _ _ _ rfl _ _ rfl rfl _ _ hap ?_);go_ret;exact HRES.out _ _ _ _ HN.out.symm hc HAV.out HB.out
end etw
end Go.Proofs.YtmnpfkbjpeaemaaGreatDoor
