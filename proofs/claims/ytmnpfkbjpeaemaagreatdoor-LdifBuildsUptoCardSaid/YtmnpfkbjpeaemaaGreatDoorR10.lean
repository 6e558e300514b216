/- One text out of several: LdParseP, LdBackP, TakW, EntK, BdW, LbP, LikeW, RValW, DKeyW. -/
import Derived.Test.YtmnpfkbjpeaemaaGreatDoorR9
import Derived.OrdersHeld
import Derived.WalkKit
import Derived.Test.YtmnpfkbjpeaemaaGreatDoorR1
import Derived.Test.YtmnpfkbjpeaemaaGreatDoorR2
import Derived.Test.YtmnpfkbjpeaemaaGreatDoorR6
import Derived.Test.YtmnpfkbjpeaemaaGreatDoorR5
import Derived.Test.YtmnpfkbjpeaemaaGreatDoorR7
set_option linter.unusedVariables false
set_option linter.unusedSimpArgs false
set_option maxRecDepth 20000
set_option maxHeartbeats 4000000
namespace Go.Proofs.YtmnpfkbjpeaemaaGreatDoor
namespace ldp
def version:List UInt8:=[118,101,114,115,105,111,110,58,32,49]
def skipL (i:Nat)(l:List UInt8):Bool:=decide (l.head?=some 35)||(decide (i=0)&&decide (l=version))
abbrev foldL (i:Nat)(recs:List Rec)(op:Bool)(rows:List Row):Nat ⊕ List Rec:=foldR pairL isDn skipL i recs op rows
def parseL (l:List UInt8):Nat ⊕ List Rec:=foldL 0 [] false (rowsR [] 0 (raw l))
theorem splitRaw {l:List UInt8}(h:l≠[]): ∃X R,raw l=X::raw R∧X.length+R.length≤l.length∧R.length<l.length∧((10:UInt8) ∉l→R=[])∧((10:UInt8)∈l→R=l.drop (posN 1 l)∧posN 1 l≤l.length):=by
 by_cases h10:(10:UInt8)∈l
 ·obtain⟨A,R,rfl,hA⟩:=split10 h10;refine⟨trimCR A,R,raw_line A R hA,?_,by simp;omega,fun hn=>absurd h10 hn,fun _=> ?_⟩
  ·have:(trimCR A).length≤A.length:=(by unfold trimCR;split<;>simp);simp;omega
  ·rw[posN_line 0 A R hA];show R=(A++10::R).drop (A.length+1+0)∧A.length+1+0≤_;simp
 ·refine⟨l,[],raw_last h h10,by simp,?_,fun _=>rfl,fun hn=>absurd hn h10⟩;cases l with
  | nil=>exact absurd rfl h
  | cons a t=>simp
theorem raw_len: ∀ (n:Nat) (l:List UInt8),l.length≤n→(raw l).length≤l.length
 | n,l,h=>by
  by_cases hne:l=[]
  ·subst hne;simp[raw_nil]
  ·obtain⟨X,R,h1,h2,h3,_⟩:=splitRaw hne;rw[h1,List.length_cons]
   match n,h with
   | 0,h=>have:l=[]:=List.eq_nil_of_length_eq_zero (by omega);exact absurd this hne
   | n+1,h=>have:=raw_len n R (by omega);omega
def sumL (ls:List (List UInt8)):Nat:=(ls.map List.length).sum
theorem raw_sum: ∀ (n:Nat) (l:List UInt8),l.length≤n→sumL (raw l)≤l.length
 | n,l,h=>by
  by_cases hne:l=[]
  ·subst hne;simp[raw_nil,sumL]
  ·obtain⟨X,R,h1,h2,h3,_⟩:=splitRaw hne;rw[h1]
   match n,h with
   | 0,h=>have:l=[]:=List.eq_nil_of_length_eq_zero (by omega);exact absurd this hne
   | n+1,h=>have:=raw_sum n R (by omega);unfold sumL at this ⊢;rw[List.map_cons,List.sum_cons];omega
theorem rowsP_all (M:Nat): ∀ (ls:List (List UInt8)) (acc:List Row) (no:Nat),(∀x∈acc,x.text.length+sumL ls≤M∧0<x.no∧x.lost=false)→sumL ls≤M→
  (rowsP acc no ls).1.length≤acc.length+ls.length∧(∀x∈(rowsP acc no ls).1,x.text.length≤M∧0<x.no∧x.lost=false)∧ ∀k,(rowsP acc no ls).2=some k→no<k∧k≤no+ls.length
 | [],acc,no,h,hs=>⟨by show acc.length≤_;simp,fun x hx=>⟨by have:=(h x hx).1;omega,(h x hx).2⟩,fun k hk=>by unfold rowsP at hk;cases hk⟩
 | t::r,acc,no,h,hs=>by
  have hsum:sumL (t::r)=t.length+sumL r:=by unfold sumL;simp
  rw[hsum]at h hs;have hstop:(∀x∈acc,x.text.length≤M∧0<x.no∧x.lost=false):=fun x hx=>⟨by have:=(h x hx).1;omega,(h x hx).2⟩;unfold rowsP;by_cases hg:goes t=false
  ·rw[if_pos hg];obtain⟨h1,h2,h3⟩:=rowsP_all M r (acc++[⟨t,no+1,false⟩]) (no+1) (fun x hx=>by
    rcases List.mem_append.1 hx with hx | hx
    ·have:=h x hx;exact⟨by omega,this.2⟩
    ·simp only[List.mem_singleton]at hx;subst hx;exact⟨by show t.length+_≤_;omega,by show 0<no+1;omega,rfl⟩) (by omega)
   refine⟨by simp at h1 ⊢;omega,h2,fun k hk=> ?_⟩;have:=h3 k hk;simp;omega
  ·rw[if_neg hg];cases hl:acc.getLast? with
   | none=>exact⟨by simp only[];omega,hstop,fun k hk=>by simp only[Option.some.injEq]at hk;subst hk;simp⟩
   | some x=>
    simp only;by_cases he:x.text=[]
    ·rw[if_pos he];exact⟨by simp only[];omega,hstop,fun k hk=>by simp only[Option.some.injEq]at hk;subst hk;simp⟩
    ·rw[if_neg he];have hxm:x∈acc:=List.mem_of_getLast? hl;have hlen:acc.dropLast.length+1=acc.length:=(by rw[List.length_dropLast];have:0<acc.length:=List.length_pos_of_mem hxm;omega);obtain⟨h1,h2,h3⟩:=rowsP_all M r (acc.dropLast++[⟨x.text++t.drop 1,x.no,false⟩]) (no+1) (fun y hy=>by
      rcases List.mem_append.1 hy with hy | hy
      ·have:=h y (List.dropLast_subset _ hy);exact⟨by omega,this.2⟩
      ·simp only[List.mem_singleton]at hy;subst hy;have:=h x hxm;exact⟨by show(x.text++t.drop 1).length+_≤_;rw[List.length_append,List.length_drop];omega,this.2.1,rfl⟩) (by omega)
     refine⟨by rw[List.length_append,List.length_singleton]at h1;rw[List.length_cons];omega,h2,fun k hk=> ?_⟩;have:=h3 k hk;simp;omega
theorem foldL_pos: ∀ (rows:List Row) (i:Nat) (recs:List Rec) (op:Bool) (k:Nat),(∀x∈rows,0<x.no)→foldL i recs op rows= .inl k→0<k
 | [],i,recs,op,k,h,e=>by unfold foldL foldR at e;cases e
 | x::r,i,recs,op,k,h,e=>by
  have hx:=h x (by simp);have hr: ∀y∈r,0<y.no:=fun y hy=>h y (by simp[hy]);unfold foldL foldR at e;split at e
  ·cases e;exact hx
  ·split at e
   ·exact foldL_pos r _ _ _ k hr e
   ·split at e
    ·exact foldL_pos r _ _ _ k hr e
    ·split at e
     ·cases e;exact hx
     ·split at e
      ·cases e;exact hx
      ·split at e
       ·exact foldL_pos r _ _ _ k hr e
       ·exact foldL_pos r _ _ _ k hr e
theorem raw_drop: ∀ (n:Nat) (l:List UInt8),n<(raw l).length→raw (l.drop (posN n l))=(raw l).drop n∧posN n l≤l.length
 | 0,l,_=>by simp[posN]
 | n+1,l,h=>by
  by_cases h10:(10:UInt8)∈l
  ·obtain⟨a,r,rfl,ha⟩:=split10 h10;rw[raw_line a r ha]at h ⊢;simp only[List.length_cons]at h;rw[posN_line n a r ha,List.drop_succ_cons];obtain⟨i1,i2⟩:=raw_drop n r (by omega);have e:(a++10::r).drop (a.length+1+posN n r)=r.drop (posN n r):=(by rw[Nat.add_assoc,List.drop_append,List.drop_of_length_le (by omega),show a.length+(1+posN n r)-a.length=posN n r+1 from by omega,List.drop_succ_cons];rfl);rw[e];exact⟨i1,by simp;omega⟩
  ·exfalso;by_cases hne:l=[]
   ·subst hne;rw[raw_nil]at h;simp at h
   ·rw[raw_last hne h10]at h;simp at h
theorem posN_succ: ∀ (n:Nat) (l:List UInt8),n+1<(raw l).length→ ∃A R,l.drop (posN n l)=A++10::R∧(10:UInt8) ∉A∧posN (n+1) l=posN n l+A.length+1
 | 0,l,h=>by
  by_cases h10:(10:UInt8)∈l
  ·obtain⟨a,r,rfl,ha⟩:=split10 h10;refine⟨a,r,rfl,ha,?_⟩;rw[posN_line 0 a r ha];show a.length+1+0=0+a.length+1;omega
  ·exfalso;by_cases hne:l=[]
   ·subst hne;rw[raw_nil]at h;simp at h
   ·rw[raw_last hne h10]at h;simp at h
 | n+1,l,h=>by
  by_cases h10:(10:UInt8)∈l
  ·obtain⟨a,r,rfl,ha⟩:=split10 h10;rw[raw_line a r ha]at h;simp only[List.length_cons]at h;obtain⟨A,R,i1,i2,i3⟩:=posN_succ n r (by omega);refine⟨A,R,?_,i2,?_⟩
   ·rw[posN_line n a r ha,←i1,Nat.add_assoc,List.drop_append,List.drop_of_length_le (by omega),show a.length+(1+posN n r)-a.length=posN n r+1 from by omega,List.drop_succ_cons];rfl
   ·rw[posN_line (n+1) a r ha,posN_line n a r ha,i3];omega
  ·exfalso;by_cases hne:l=[]
   ·subst hne;rw[raw_nil]at h;simp at h
   ·rw[raw_last hne h10]at h;simp at h
end ldp
namespace ldp
open b64p (enc)
def cont (ps:List (List UInt8)):List UInt8:=ps.flatMap fun p=>32::(p++[10])
end ldp
open Go.RowKit
namespace etw
theorem tk {P:Program}{ops:Array Oper}{Q:Exit→Act→World→Prop}{md:Region.Mode}{S:World→Prop}(i:Nat)(oi:Oper){v:Value}{fuel:Nat}{listed:Array Bool}{a a2:Act}{w:World}(hi:ops[i]? =some oi)
  (h:wpAnyH P md ops Q S fuel (listed.setIfInBounds i true) a2 w)
  (hs:Region.noSelect ops=true:=by kernel_rfl) (hf:Region.free md ops listed i=true:=by kernel_rfl) (hr:(Region.ready md ops listed).contains i=true:=by kernel_rfl)
  (hQ: ∀c a w,Q (.panic c) (a.put oi.dst v) w→Q (.panic c) a w:=by exact fun _ _ _ h=>h) (hw:Region.wanted oi (yielded ops a.tmps)=true:=by rfl)
  (hy: ∀w,S w→(execOp a.eval oi).run P w= .ok (.value v) w:=by intro w hSw;(try dsimp only at hSw);go_simp;all_goals with_reducible rfl)
  (hS:S w:=by assumption) (ha:a.put oi.dst v=a2:=by first | (simp only[Act.put,List.setIfInBounds_toArray,List.set_cons_zero,List.set_cons_succ];rfl) | rfl):wpAnyH P md ops Q S (fuel+1) listed a w:=by
 subst ha;exact wpAnyH_take hi hs hf hr hQ (Or.inl ⟨hw,hy⟩) hS h
theorem tu {P:Program}{ops:Array Oper}{Q:Exit→Act→World→Prop}{md:Region.Mode}{S:World→Prop}(i:Nat)(oi:Oper){fuel:Nat}{listed:Array Bool}{a a2:Act}{w:World}(hi:ops[i]? =some oi)
  (h:wpAnyH P md ops Q S fuel (listed.setIfInBounds i true) a2 w)
  (hs:Region.noSelect ops=true:=by kernel_rfl) (hf:Region.free md ops listed i=true:=by kernel_rfl) (hr:(Region.ready md ops listed).contains i=true:=by kernel_rfl)
  (hQ: ∀c a w,Q (.panic c) (a.put oi.dst undef) w→Q (.panic c) a w:=by exact fun _ _ _ h=>h) (hw:Region.wanted oi (yielded ops a.tmps)=false:=by rfl)
  (hS:S w:=by assumption) (ha:a.put oi.dst undef=a2:=by first | (simp only[Act.put,List.setIfInBounds_toArray,List.set_cons_zero,List.set_cons_succ];rfl) | rfl):wpAnyH P md ops Q S (fuel+1) listed a w:=by
 subst ha;exact wpAnyH_take hi hs hf hr hQ (Or.inr ⟨hw,rfl⟩) hS h
theorem tc {P:Program}{ops:Array Oper}{Q:Exit→Act→World→Prop}{md:Region.Mode}{S:World→Prop}(i:Nat)(oi:Oper){fuel:Nat}{listed:Array Bool}{a:Act}{w:World}(ho:ops[i]? =some oi)
  (h: ∀K':Act→World→Prop,Shut (∀a w,S w→(S w→wpAnyH P md ops Q S fuel (listed.setIfInBounds i true) a w)→K' a w)→if Region.wanted oi (yielded ops a.tmps)=true then Oper.wp P oi a w K' Q else K' (a.put oi.dst undef) w)
  (hr:Region.ready md ops listed=[i]:=by kernel_rfl):wpAnyH P md ops Q S (fuel+1) listed a w:=
 wpAnyH_ready hr (by simp) (AllReadyH.cons ho h AllReadyH.nil)
end etw
open Go.RowKit
namespace etw
open atp atw etp
open dnw (Av Avas)
open tupw (Strs strs_below)
structure EnvE (w:World):Prop where
 e:prw.Env w
 t:dnw.Tabs w
 y:TyEnv w
theorem envE_below {w w':World}(h:EnvE w)(hb:Below w.heap.size w w'):EnvE w':=⟨prw.env_below h.e hb,dnw.tabs_below h.t hb,tyEnv_below h.y hb⟩
def ElemAt (w:World)(x:Value)(vs:List ByteArray):Prop:= ∃a c,x= .slice a vs.length c∧vs.length≤c∧Strs w a vs
def Ats (w:World)(ao:Option Addr)(l:List At):Prop:= ∀i (hi:i<l.length),∃b o a c,ao=some ⟨b,o,none⟩∧w.cell? ⟨b,o+i*2,none⟩=some (.string l[i].t)∧w.cell? ⟨b,o+i*2+1,none⟩=some (.slice a l[i].vs.length c)∧l[i].vs.length≤c∧Strs w a l[i].vs
theorem elem_below {w w':World}{x:Value}{vs:List ByteArray}(h:ElemAt w x vs)(hb:Below w.heap.size w w'):ElemAt w' x vs:=by obtain⟨a,c,h1,h2,h3⟩:=h;exact⟨a,c,h1,h2,strs_below h3 hb⟩
theorem ats_below {w w':World}{ao:Option Addr}{l:List At}(h:Ats w ao l)(hb:Below w.heap.size w w'):Ats w' ao l:=by intro i hi;obtain⟨b,o,a,c,h1,h2,h3,h4,h5⟩:=h i hi;exact⟨b,o,a,c,h1,(hb.cell (World.block_lt_of_cell? w _ h2)).trans h2,(hb.cell (World.block_lt_of_cell? w _ h3)).trans h3,h4,strs_below h5 hb⟩
theorem strs_same {w w':World}{a:Option Addr}{vs:List ByteArray}(h:Strs w a vs)(hb:vs≠[]→ ∀p,a=some p→w'.heap[p.block]? =w.heap[p.block]?):Strs w' a vs:=by intro i hi;obtain⟨b,o,e,hc⟩:=h i hi;exact⟨b,o,e,(World.cell?_of_block (w:=w) (a:=⟨b,o+i,none⟩) (hb (by intro e0;rw[e0]at hi;cases hi) ⟨b,o,none⟩ e)).trans hc⟩
theorem strs_lt {w:World}{a:Option Addr}{vs:List ByteArray}(h:Strs w a vs)(hv:vs≠[]): ∃b o,a=some ⟨b,o,none⟩∧b<w.heap.size:=by
 cases vs with
 | nil=>exact absurd rfl hv
 | cons x t=>obtain⟨b,o,e,hc⟩:=h 0 (by simp);exact⟨b,o,e,World.block_lt_of_cell? w _ hc⟩
theorem own_elem {w:World}{B:Nat}{v:Value}{l:List ByteArray}(h:prw.OwnT w B v l):ElemAt w v l:=by obtain⟨ao,cap,rfl,hc,h1⟩:=prw.ownT_cells h;refine⟨ao,cap,rfl,hc,fun i hi=> ?_⟩;obtain⟨g,rfl,hg,h2⟩:=h1 (by intro e0;rw[e0]at hi;cases hi);refine⟨g,0,rfl,?_⟩;exact h2 i _ (List.getElem?_eq_getElem hi)
theorem elem_form {w:World}{v:Value}{l:List ByteArray}(h:ElemAt w v l): ∃a n c,v= .slice a n c∧Hid (n=l.length)∧n≤c∧Strs w a l:=by obtain⟨a,c,h1,h2,h3⟩:=h;exact⟨a,_,c,h1,rfl,h2,h3⟩
abbrev AV:=At × Value
def acell (x:AV):List Value:=[.string x.1.t,x.2]
theorem infoAt:(Tryz.prog.info? 43).map (fun i=>(i.zero,i.size,i.bytes))=some (some (.agg #[.string ByteArray.empty,.slice none 0 0]),2,40):=by kernel_rfl
structure OwnA (w:World)(B:Nat)(v:Value)(l:List AV):Prop where
 outer:kt.SegX w B 43 2 v l.length (l.flatMap acell)
 inner: ∀x∈l,ElemAt w x.2 x.1.vs∧(x.1.vs≠[]→ ∀k,x.2.ownBlock=some k→v.ownBlock≠some k)
theorem ownA_nil (w:World)(B:Nat):OwnA w B (.slice none 0 0) []:=⟨kt.segX_nil _ _ _ _,fun x h=>by cases h⟩
theorem elem_lt {w:World}{x:Value}{vs:List ByteArray}(h:ElemAt w x vs)(hv:vs≠[]): ∀k,x.ownBlock=some k→k<w.heap.size:=by obtain⟨a,c,rfl,h2,h3⟩:=h;obtain⟨b,o,rfl,hb⟩:=strs_lt h3 hv;intro k hk;simp[Value.ownBlock]at hk;omega
theorem elem_same {w w':World}{x:Value}{vs:List ByteArray}(h:ElemAt w x vs)(hb:vs≠[]→ ∀k,x.ownBlock=some k→w'.heap[k]? =w.heap[k]?):ElemAt w' x vs:=by obtain⟨a,c,rfl,h2,h3⟩:=h;refine⟨a,c,rfl,h2,strs_same h3 fun hv p hp=> ?_⟩;exact hb hv p.block (by rw[hp];rfl)
theorem ownA_below {w w':World}{B:Nat}{v:Value}{l:List AV}(h:OwnA w B v l)(hb:Below w.heap.size w w'):OwnA w' B v l:=⟨kt.segX_below h.outer hb,fun x hx=>⟨elem_below (h.inner x hx).1 hb,(h.inner x hx).2⟩⟩
theorem ownA_form {w:World}{B:Nat}{v:Value}{l:List AV}(h:OwnA w B v l): ∃ao n cap,v= .slice ao n cap∧Hid (n=l.length)∧n≤cap:=by obtain⟨ao,cap,hv,hc⟩:=kt.segX_slice h.outer;exact⟨ao,_,cap,hv,rfl,hc⟩
theorem ownA_ats {w:World}{B:Nat}{ao:Option Addr}{n cap:Nat}{l:List AV}(h:OwnA w B (.slice ao n cap) l):Ats w ao (l.map Prod.fst):=by
 intro i hi;have hi':i<l.length:=by simpa using hi
 obtain⟨g,o,cap',hv,_,_,hcell⟩:=kt.segX_cell h.outer (by omega);simp only[Value.slice.injEq]at hv;obtain⟨rfl,_,rfl⟩:=hv;have hj: ∀j,j<2→(l.flatMap acell)[i*2+j]? =(acell l[i])[j]? :=fun j hj=>kt.flat_get acell 2 (fun _=>rfl) l i j hi' hj;obtain⟨⟨a,c,e,h2,h3⟩,_⟩:=h.inner l[i] (List.getElem_mem hi');refine⟨g,o,a,c,rfl,?_,?_,?_,?_⟩
 ·have:=hcell _ _ (hj 0 (by omega));simpa using this
 ·have:=hcell (i*2+1) (.slice a l[i].fst.vs.length c) (by rw[hj 1 (by omega),←e];rfl);rw[Nat.add_assoc];simpa using this
 ·simpa using h2
 ·simpa using h3
theorem ownA_app {w:World}{B:Nat}{v:Value}{l:List AV}(t:ByteArray)(x:Value)(vs:List ByteArray)(h:OwnA w B v l)(hx:ElemAt w x vs)(hne:vs≠[]→ ∀k,x.ownBlock=some k→v.ownBlock≠some k)(hl:l.length≤1000000)(hB:B≤w.heap.size):
  ∃ao n cap w1,(Builtin.append_ #[24,24] 24 #[v,.slice (some ⟨w.heap.size,0,none⟩) 1 1]).run Tryz.prog (w.alloc (.cells #[.string t,x] 43))= .ok (.slice ao n cap) w1∧OwnA w1 B (.slice ao n cap) (l++[(⟨t,vs⟩,x)])∧Below B w w1∧n=l.length+1∧n≤cap∧w.heap.size≤w1.heap.size∧
   (∀y us,ElemAt w y us→(us≠[]→ ∀k,y.ownBlock=some k→v.ownBlock≠some k)→ElemAt w1 y us∧(us≠[]→ ∀k,y.ownBlock=some k→(Value.slice ao n cap).ownBlock≠some k))∧
   (∀k,k<w.heap.size→v.ownBlock≠some k→w1.heap[k]? =w.heap[k]?)∧(∀k,(Value.slice ao n cap).ownBlock=some k→v.ownBlock=some k∨w.heap.size≤k):=by
 have hA:Below w.heap.size w (w.alloc (.cells #[.string t,x] 43)):=(Below.refl _ _).alloc (Nat.le_refl _) _;have hn:=ownA_below h hA;obtain⟨a,c,hxe,_,_⟩:=id hx;obtain⟨v',w1,h1,h2,h3,h4⟩:=kt.segX_append (P:=Tryz.prog) (t:=24) (ty:=24) Tryz.underlying24 infoAt rfl (by omega) ⟨w.heap.size,0,none⟩ 1 1 (acell (⟨t,vs⟩,x)) rfl (fun j u hj=>by rw[kt.addr_add,World.cell?_alloc_new];simpa[acell]using hj) (by intro u hu;simp[acell]at hu;rcases hu with rfl | rfl<;>(try rw[hxe])<;>rfl) hn.outer (by unfold maxLen;omega) (by omega) (by simp;omega);obtain⟨ao,cap,rfl,hc⟩:=kt.segX_slice h2;have hs:=hA.size;have key: ∀y us,ElemAt w y us→(us≠[]→ ∀k,y.ownBlock=some k→v.ownBlock≠some k)→ElemAt w1 y us∧(us≠[]→ ∀k,y.ownBlock=some k→(Value.slice ao (l.length+1) cap).ownBlock≠some k):=by
  intro y us hy hd;have hy1:=elem_below hy hA;refine⟨elem_same hy1 fun hv k hk=>h3.block k (elem_lt hy1 hv k hk) (fun e=>hd hv k hk e.symm),fun hv k hk e2=> ?_⟩;rcases h4 k e2 with e3 | e3
  ·exact hd hv k hk e3
  ·have:=elem_lt hy1 hv k hk;omega
 refine⟨ao,_,cap,w1,h1,⟨?_,fun y hy=> ?_⟩,((Below.refl B w).alloc hB _).trans ((Below.refl B _).grown h3 (by simp;omega) (fun k hk=>(kt.segX_lt hn.outer k hk).1)),rfl,hc,?_,key,fun k hk hne=>(h3.block k (by simp;omega) (fun e=>hne e.symm)).trans (hA.block k hk),fun k hk=>by
  rcases h4 k hk with e | e
  ·exact Or.inl e
  ·exact Or.inr (by omega)⟩
 ·rw[List.length_append,List.flatMap_append];simpa using h2
 ·rcases List.mem_append.1 hy with hy | hy
  ·exact key y.2 y.1.vs (h.inner y hy).1 (h.inner y hy).2
  ·rw[List.mem_singleton]at hy;subst hy;exact key x vs hx hne
 ·exact Nat.le_trans hs h3.size
structure Bd (e:En):Prop where
 rl:e.rdn.length≤100000
 rs: ∀a∈e.rdn,a.t.size≤100000∧a.v.size≤100000
 al:e.ats.length≤100000
 as_: ∀a∈e.ats,a.t.size≤100000∧a.vs.length≤100000∧ ∀v∈a.vs,v.size≤100000
theorem bd_smalls {e:En}(h:Bd e):e.rdn.length≤4→dnw.Smalls e.rdn:=fun _ x hx=>⟨(h.rs x hx).1,by have:=(h.rs x hx).2;omega⟩
def EntV (w:World)(v:Value)(e:En):Prop:= ∃ro rc ao ac,v= .agg #[.slice ro e.rdn.length rc,.slice ao e.ats.length ac]∧e.rdn.length≤rc∧e.ats.length≤ac∧Avas w ro e.rdn∧Ats w ao e.ats
theorem entV_below {w w':World}{v:Value}{e:En}(h:EntV w v e)(hb:Below w.heap.size w w'):EntV w' v e:=by obtain⟨ro,rc,ao,ac,h1,h2,h3,h4,h5⟩:=h;exact⟨ro,rc,ao,ac,h1,h2,h3,dnw.avas_below h4 hb,ats_below h5 hb⟩
end etw
open Go.RowKit
namespace etw
open atp atw etp
open dnw (Av Avas)
structure Bk (k:Nat)(e:En):Prop where
 rl:e.rdn.length≤1000
 rs: ∀a∈e.rdn,a.t.size≤1000∧a.v.size≤1200
 al:e.ats.length≤k
 as_: ∀a∈e.ats,a.t.size≤1000∧a.vs.length≤50∧ ∀v∈a.vs,v.size≤1200
theorem bk_bd {k:Nat}{e:En}(h:Bk k e)(hk:k≤100000):Bd e:=⟨by have:=h.rl;omega,fun a ha=>by have:=h.rs a ha;omega,by have:=h.al;omega,fun a ha=>by have:=h.as_ a ha;exact⟨by omega,by omega,fun v hv=>by have:=this.2.2 v hv;omega⟩⟩
theorem withF_mem {n:ByteArray}{l:List ByteArray}: ∀ {L:List At} {d:Bool} {a:At},a∈withF n l d L→a∈L∨a=⟨n,l⟩
 | [],d,a,h=>by
  unfold withF at h;split at h
  ·cases h
  ·rw[List.mem_singleton]at h;exact Or.inr h
 | b::r,d,a,h=>by
  unfold withF at h;simp only[List.mem_append]at h;rcases h with(h | h) | h
  ·split at h
   ·rw[List.mem_singleton]at h;exact Or.inr h
   ·cases h
  ·split at h
   ·cases h
   ·rw[List.mem_singleton]at h;rw[h];exact Or.inl (by simp)
  ·rcases withF_mem h with h | h
   ·exact Or.inl (by simp[h])
   ·exact Or.inr h
theorem withF_len {n:ByteArray}{l:List ByteArray}: ∀ (L:List At) (d:Bool),(withF n l d L).length≤L.length+(if d then 0 else 1)
 | [],d=>by unfold withF;cases d<;>simp
 | b::r,d=>by
  unfold withF;have h:=withF_len (n:=n) (l:=l) r (d||(!d&& !ltB b.t n));simp only[List.length_append,List.length_cons];generalize ltB b.t n=x at h ⊢;have h2:(if b.t=n then([]:List At)else[b]).length≤1:=by split<;>simp
  generalize(if b.t=n then([]:List At)else[b]).length=y at h2 ⊢;cases d<;>cases x<;>simp at h ⊢ <;>omega
theorem bk_with {k:Nat}{e:En}{n:ByteArray}{l:List ByteArray}(h:Bk k e)(hn:n.size≤1000)(hl:l.length≤50)(hv: ∀v∈l,v.size≤1200):Bk (k+1) (withE e n l):=by
 refine⟨h.rl,h.rs,?_,fun a ha=> ?_⟩
 ·have h1:=withF_len (n:=n) (l:=l) e.ats (decide (l=[]));have h2:=h.al;show(withF n l (decide (l=[])) e.ats).length≤k+1;split at h1<;>omega
 ·rcases withF_mem ha with ha | ha
  ·exact h.as_ a ha
  ·rw[ha];exact⟨hn,hl,hv⟩
theorem bk_vals {k:Nat}{e:En}(h:Bk k e)(n:ByteArray):(valsA e.ats n).length≤50∧ ∀v∈valsA e.ats n,v.size≤1200:=by
 unfold valsA;cases hf:e.ats.find? fun a=>decide (a.t=n)with
 | none=>exact⟨by simp,by simp⟩
 | some a=>exact(h.as_ a (List.mem_of_find?_eq_some hf)).2
theorem ty_size: ∀j:Fin 20,(tys[j.val]'(j.isLt)).name.length≤1000:=by decide+kernel
theorem name_size {n:List UInt8}{ty:Ty}(h:findS n=some ty):(bs ty.name).size≤1000:=by obtain⟨i,hi,e⟩:=List.mem_iff_getElem.1 (findS_some h).1;rw[bs_size,←e];exact ty_size ⟨i,hi⟩
theorem bk_add {k:Nat}{e a:En}{n:List UInt8}{l:List ByteArray}(h:Bk k e)(hl: ∀v∈l,v.size≤1200)(ha:addE e n l= .ok a):Bk (k+1) a:=by
 obtain⟨ty,h1,h2,h3,h4,h5,h6,rfl⟩:=add_ok ha;have hm:mostT ty.single≤20:=by unfold mostT;split<;>omega
 refine bk_with h (name_size h2) (by omega) fun v hv=> ?_;rcases List.mem_append.1 hv with hv | hv
 ·exact(bk_vals h _).2 v hv
 ·exact hl v hv
end etw
namespace lbp
open atp atw etp etw
open dnw (Av parseV printR nameOK nameX rdnOK)
def two (p:Av):ByteArray × ByteArray:=(p.t,p.v)
def finE (n:List (List Av)):Except Int En→Except Int (List (List Av) × En)
 | .error f=> .error f
 | .ok e=> .ok (n,e)
def bld2 (ps:List Av):List (List Av)→Except Int (List (List Av) × En)
 | []=> .error 18
 | r::m=>finE (r::m) (buildF (ps.map two) ⟨r,[]⟩)
def bldE (nm:ByteArray)(ps:List Av):Except Int (List (List Av) × En):=if(parseV nm).2≠0 then .error (parseV nm).2 else bld2 ps (parseV nm).1
theorem bld_eq (nm:ByteArray)(ps:List Av):bldE nm ps=if(parseV nm).2≠0 then .error (parseV nm).2 else bld2 ps (parseV nm).1:=rfl
def pairsV (L:List At):List Av:=L.flatMap fun a=>a.vs.map fun v=>⟨a.t,v⟩
def recE (n:List (List Av))(e:En):Except Int (ByteArray × List Av):=if n=[]then .error 18 else if nameOK n=false∨rightE e=false then .error 4 else if(printR n).2≠0 then .error ((printR n).2:Int)else .ok (dnw.bytes (printR n).1,pairsV e.ats)
def recOf (nm:ByteArray)(ps:List Av):ldp.Rec:=⟨nm.data.toList,ps.map fun p=>(p.t.data.toList,p.v.data.toList)⟩
theorem rec_ok {n:List (List Av)}{e:En}{nm:ByteArray}{ps:List Av}(h:recE n e= .ok (nm,ps)):nameOK n=true∧rightE e=true∧n≠[]∧nm=dnw.bytes (nameX n)∧(nameX n).length≤1000∧ps=pairsV e.ats:=by
 unfold recE at h;split at h
 ·cases h
 ·rename_i h0;split at h
  ·cases h
  ·rename_i h1;split at h
   ·cases h
   ·rename_i h2;cases h;have hn:nameOK n=true:=by cases hq:nameOK n with
     | true=>rfl
     | false=>exact absurd (Or.inl hq) h1
    have he:rightE e=true:=by cases hq:rightE e with
     | true=>rfl
     | false=>exact absurd (Or.inr hq) h1
    unfold printR at h2 ⊢;rw[if_pos hn]at h2 ⊢;by_cases h3:1000<(nameX n).length
    ·rw[if_pos h3]at h2;exact absurd (by decide) h2
    ·rw[if_neg h3];exact⟨hn,he,h0,rfl,by omega,rfl⟩
theorem name_bk {r:List Av}(h:rdnOK r=true):Bk 0 ⟨r,[]⟩:=by obtain⟨_,h2,_⟩:=dnw.rdnOK_facts h;refine⟨by show r.length≤1000;omega,fun a ha=> ?_,Nat.le_refl _,fun a ha=>by cases ha⟩;obtain⟨t1,v1⟩:=dnw.rdnOK_av h a ha;have:=dnw.typeOK_le t1;have:=dnw.valOK_le v1;rw[kt.size_len]at*;omega
theorem build_step {L:List (ByteArray × ByteArray)}{e:En}{i:Nat}(hi:i<L.length):buildF (L.drop i) e=match addE e L[i].1.data.toList [L[i].2]with
  | .error f=> .error f
  | .ok a=>buildF (L.drop (i+1)) a:=by
 rw[List.drop_eq_getElem_cons hi];rfl
theorem ok_size {syn:Int}{v:ByteArray}(h:okV syn v=true):v.size≤1000:=by
 unfold okV at h;rw[decide_eq_true_iff]at h;unfold normL at h;split at h
 ·exact absurd h (by decide)
 ·split at h
  ·exact absurd h (by decide)
  ·rename_i h2;rw[←kt.size_len];omega
theorem bk_add1 {k:Nat}{e a:En}{n:List UInt8}{v:ByteArray}(h:Bk k e)(ha:addE e n [v]= .ok a):Bk (k+1) a:=by obtain⟨ty,h1,h2,h3,h4,_⟩:=add_ok ha;refine bk_add h (fun x hx=> ?_) ha;have:=ok_size (h4 x hx);omega
theorem pairs_le {L:List At}{k:Nat}(h: ∀a∈L,a.vs.length≤k):(pairsV L).length≤L.length*k:=by
 induction L with
 | nil=>simp[pairsV]
 | cons a r ih=>have h1:=ih fun x hx=>h x (by simp[hx]);have h2:=h a (by simp);unfold pairsV at h1 ⊢;rw[List.flatMap_cons,List.length_append,List.length_map,List.length_cons,Nat.add_mul,Nat.one_mul];omega
end lbp
open Go.RowKit
namespace etw
open atp atw etp
open tupw (Strs strs_below)
def Fit (l:List ByteArray):Prop:= ∀v∈l,v.size≤140737488351232
def VB (w:World)(p:Nat)(v:ByteArray):Prop:=w.heap[p]? =some (.cells #[.string v] 9 (0,0))
theorem vb_new (w:World)(v:ByteArray):VB (w.alloc (.cells #[.string v] 9)) w.heap.size v:=heap_alloc_new w _
theorem vb_cell {w:World}{p:Nat}{v:ByteArray}(h:VB w p v):w.cell? ⟨p,0,none⟩=some (.string v):=by rw[Lib.cell_of_heap h];rfl
theorem vb_below {w w':World}{p:Nat}{v:ByteArray}(h:VB w p v)(hb:Below w.heap.size w w'):VB w' p v:=(hb.block p (kt.bld_lt h)).trans h
theorem equal_alike (nm:ByteArray)(syn:Int)(sg:Bool)(a b:ByteArray)(w:World)(ha:a.size≤140737488351232)(hb:b.size≤140737488351232)(hE:EnvE w):
  ∃er:Int,(alike syn a b=true→er=0)∧Calls Tryz.prog 148 #[.agg #[.string nm,.int .i64 syn,.bool sg],.string a,.string b] w fun e w'=>e= .returned (.tuple #[.bool (alike syn a b),.int .i64 er])∧Below w.heap.size w w':=
 ⟨_,fun h=>alike_err h,equal_any nm syn sg a b w ha hb (Lib.hid hE.e) (Lib.hid hE.t)⟩
theorem requal_alike (nm:ByteArray)(syn:Int)(sg:Bool)(a b:ByteArray)(w:World)(ha:a.size≤140737488351232)(hb:b.size≤140737488351232):
  ∃er:Int,(alike syn a b=true→er=0)∧Calls Tryz.prog 199 #[.agg #[.string nm,.int .i64 syn,.bool sg],.string a,.string b] w fun e w'=>e= .returned (.tuple #[.bool (alike syn a b),.int .i64 er])∧Below w.heap.size w w':=
 ⟨_,fun h=>alike_err h,requal_any nm syn sg a b w ha hb⟩
theorem clo_any (nm:ByteArray)(syn:Int)(sg:Bool)(v s:ByteArray)(bt bv:Nat)(w:World)(hs:s.size≤140737488351232)(hv:v.size≤140737488351232)(hE:Hid (EnvE w))(hT:Hid (TB w bt nm syn sg))(hV:Hid (VB w bv v)):
  Calls Tryz.prog 147 #[.string s,.pointer (some ⟨bt,0,none⟩),.pointer (some ⟨bv,0,none⟩)] w fun e w'=>e= .returned (.bool (alike syn s v))∧Below w.heap.size w w':=by
 obtain⟨er,her,CE⟩:=equal_alike nm syn sg s v w hs hv hE.out;have HC:=Lib.hid CE;obtain⟨k0,k1,k2⟩:=tb_cells hT.out;have k3:=vb_cell hV.out;clear CE;cases hal:alike syn s v with
 | true=>have h0:=her hal;subst h0;rw[hal]at HC;clear her hal;go_enter Tryz.func147,Tryz.ntmps147;go_wp2_with fail;refine HC.out.mono ?_;rintro e w1 ⟨rfl,hB1⟩;have HB1:=Lib.hid hB1;clear hB1 k0 k1 k2 k3;go_wp2_with fail;go_ret;exact⟨rfl,HB1.out⟩
 | false=>rw[hal]at HC;clear her hal;go_enter Tryz.func147,Tryz.ntmps147;go_wp2_with fail;refine HC.out.mono ?_;rintro e w1 ⟨rfl,hB1⟩;have HB1:=Lib.hid hB1;clear hB1 k0 k1 k2 k3;go_wp2_with fail;go_ret;exact⟨rfl,HB1.out⟩
theorem idx_any (syn:Int)(v:ByteArray)(bt bv:Nat)(ao:Option Addr)(cap:Nat)(l:List ByteArray)(w:World)(hl:Hid (Strs w ao l))(hn:l.length≤1000000)
  (hF:Hid (∀W,∀x∈l,Below w.heap.size w W→Calls Tryz.prog 147 #[.string x,.pointer (some ⟨bt,0,none⟩),.pointer (some ⟨bv,0,none⟩)] W fun e w'=>e= .returned (.bool (alike syn x v))∧Below W.heap.size W w')):
  Calls Tryz.prog 146 #[.slice ao l.length cap,.func (.func 147) #[] #[.pointer (some ⟨bt,0,none⟩),.pointer (some ⟨bv,0,none⟩)]] w fun e w'=>e= .returned (.int .i64 (likeI syn l v))∧Below w.heap.size w w':=by
 obtain⟨N,hN⟩: ∃N,l.length=N:=⟨_,rfl⟩;have HN:=Lib.hid hN;rw[hN];rw[hN]at hn;clear hN;go_enter Tryz.func146,Tryz.ntmps146;go_wp2_with fail;go_loopw [8] (fun iv wr=> ∃i:Nat,i≤N∧iv= .int .i64 (i:Int)∧Hid (Below w.heap.size w wr)∧Hid (∀j (hj:j<l.length),j<i→alike syn l[j] v=false)) (fun iv _=>N- (intOf iv).toNat);case atStart=>exact⟨0,Nat.zero_le _,rfl,Below.refl _ _,fun j hj h=>absurd h (Nat.not_lt_zero _)⟩
 case round=>
  obtain⟨i,hi,rfl,hB,hJ⟩:=hrel;have hsz:=hB.out.size;by_cases hlt:i<N
  ·have hltI:(i:Int)<(N:Int):=(by omega);have hil:i<l.length:=(by rw[HN.out];exact hlt);obtain⟨b,o,hao,hc0⟩:=(strs_below hl.out hB.out) i hil;subst hao;have HF:=Lib.hid (hF.out wr l[i] (List.getElem_mem _) hB.out);obtain⟨x,hx⟩: ∃x,l[i]=x:=⟨_,rfl⟩;have HX:=Lib.hid hx;rw[hx]at HF hc0;clear hx;cases hal:alike syn x v with
   | true=>rw[hal]at HF;have HR:Hid (likeI syn l v=(i:Int)):=likeI_hit hil (by rw[HX.out];exact hal) hJ.out;clear hal;go_wp2_with (go_at_call 147;refine HF.out.mono ?_;rintro e w1 ⟨rfl,hB1⟩);go_ret;exact⟨kt.ret_int HR.out.symm,hB.out.trans (‹Below wr.heap.size wr _›.mono hsz)⟩
   | false=>
    rw[hal]at HF;have HJ:Hid (∀j (hj:j<l.length),j<i+1→alike syn l[j] v=false):=by
     intro j hj h;by_cases e:j=i
     ·subst e;rw[HX.out];exact hal
     ·exact hJ.out j hj (by omega)
    clear hal;go_wp2_with (go_at_call 147;refine HF.out.mono ?_;rintro e w1 ⟨rfl,hB1⟩);go_roundw;case rel=>exact⟨i+1,by omega,by go_num,hB.out.trans (‹Below wr.heap.size wr _›.mono hsz),HJ⟩
    case measure=>simp[intOf];omega
  ·obtain rfl:N=i:=(by omega);have HR:Hid (likeI syn l v= -1):=likeI_none fun j hj=>hJ.out j hj (by rw[←HN.out];exact hj);go_wp2_with fail;go_ret;exact⟨kt.ret_int HR.out.symm,hB.out⟩
theorem like_any (nm:ByteArray)(syn:Int)(sg:Bool)(ao:Option Addr)(cap:Nat)(l:List ByteArray)(v:ByteArray)(w:World)(hl:Hid (Strs w ao l))(hn:l.length≤1000000)(hf:Hid (Fit l))(hv:v.size≤140737488351232)(hE:Hid (EnvE w)):
  Calls Tryz.prog 89 #[.agg #[.string nm,.int .i64 syn,.bool sg],.slice ao l.length cap,.string v] w fun e w'=>e= .returned (.int .i64 (likeI syn l v))∧Below w.heap.size w w':=by
 obtain⟨W1,hW1⟩: ∃W,w.alloc (.cells #[.string nm,.int .i64 syn,.bool sg] 108)=W:=⟨_,rfl⟩;have hB1:Below w.heap.size w W1:=by rw[←hW1];exact(Below.refl _ _).alloc (Nat.le_refl _) _
 have hT1:TB W1 w.heap.size nm syn sg:=by rw[←hW1];exact tb_new w nm syn sg
 obtain⟨W2,hW2⟩: ∃W,W1.alloc (.cells #[.string v] 9)=W:=⟨_,rfl⟩;have hB2:Below W1.heap.size W1 W2:=by rw[←hW2];exact(Below.refl _ _).alloc (Nat.le_refl _) _
 have hV2:VB W2 W1.heap.size v:=by rw[←hW2];exact vb_new W1 v
 have hB12:=hB1.trans (hB2.mono hB1.size);have HB12:=Lib.hid hB12;have hT2:=tb_below hT1 hB2;have HF:Hid (Calls Tryz.prog 146 #[.slice ao l.length cap,.func (.func 147) #[] #[.pointer (some ⟨w.heap.size,0,none⟩),.pointer (some ⟨W1.heap.size,0,none⟩)]] W2 fun e w'=>e= .returned (.int .i64 (likeI syn l v))∧Below W2.heap.size W2 w'):=
  idx_any syn v w.heap.size W1.heap.size ao cap l W2 (Lib.hid (strs_below hl.out hB12)) hn (Lib.hid fun W x hx hb=>clo_any nm syn sg v x w.heap.size W1.heap.size W (hf.out x hx) hv (Lib.hid (envE_below (envE_below hE.out hB12) hb)) (Lib.hid (tb_below hT2 hb)) (Lib.hid (vb_below hV2 hb)))
 have hz:=hB12.size;clear hB1 hB2 hT1 hT2 hV2 hB12;obtain⟨N,hN⟩: ∃N,l.length=N:=⟨_,rfl⟩;rw[hN]at HF ⊢;clear hN;generalize likeI syn l v=r at HF ⊢;go_enter Tryz.func89,Tryz.ntmps89;go_wp2_with fail;refine HF.out.mono ?_;rintro e w3 ⟨rfl,hB3⟩;go_wp2_with fail;go_ret;exact⟨rfl,HB12.out.trans (hB3.mono hz)⟩
theorem rlike_any (nm:ByteArray)(syn:Int)(sg:Bool)(ao:Option Addr)(cap:Nat)(l:List ByteArray)(v:ByteArray)(w:World)(hl:Hid (Strs w ao l))(hn:l.length≤1000000)(hf:Hid (Fit l))(hv:v.size≤140737488351232):
  Calls Tryz.prog 141 #[.agg #[.string nm,.int .i64 syn,.bool sg],.slice ao l.length cap,.string v] w fun e w'=>e= .returned (.int .i64 (likeI syn l v))∧Below w.heap.size w w':=by
 obtain⟨W1,hW1⟩: ∃W,w.alloc (.cells #[.string nm,.int .i64 syn,.bool sg] 108)=W:=⟨_,rfl⟩;have hB1:Below w.heap.size w W1:=by rw[←hW1];exact(Below.refl _ _).alloc (Nat.le_refl _) _
 have HT1:Hid (TB W1 w.heap.size nm syn sg):=by rw[←hW1];exact tb_new w nm syn sg
 have HB1:=Lib.hid hB1;clear hB1;obtain⟨N,hN⟩: ∃N,l.length=N:=⟨_,rfl⟩;have HN:=Lib.hid hN;rw[hN];rw[hN]at hn;clear hN;go_enter Tryz.func141,Tryz.ntmps141;go_wp2_with fail;go_loopw [7] (fun iv wr=> ∃i:Nat,i≤N∧iv= .int .i64 (i:Int)∧Hid (Below W1.heap.size W1 wr)∧Hid (∀j (hj:j<l.length),j<i→alike syn l[j] v=false)) (fun iv _=>N- (intOf iv).toNat);case atStart=>exact⟨0,Nat.zero_le _,rfl,Below.refl _ _,fun j hj h=>absurd h (Nat.not_lt_zero _)⟩
 case round=>
  obtain⟨i,hi,rfl,hB,hJ⟩:=hrel;have hsz:=hB.out.size;have HBw:=Lib.hid (HB1.out.trans (hB.out.mono HB1.out.size));have hszw:=HBw.out.size;obtain⟨n0,n1,n2⟩:=tb_cells (tb_below HT1.out hB.out);by_cases hlt:i<N
  ·have hltI:(i:Int)<(N:Int):=(by omega);have hil:i<l.length:=(by rw[HN.out];exact hlt);obtain⟨b,o,hao,hc0⟩:=(strs_below hl.out HBw.out) i hil;subst hao;have hl1:=World.block_lt_of_cell? wr _ n0;have hl2:=World.block_lt_of_cell? wr _ hc0;obtain⟨x,hx⟩: ∃x,l[i]=x:=⟨_,rfl⟩;have HX:=Lib.hid hx;have hxs:x.size≤140737488351232:=(by rw[←hx];exact hf.out _ (List.getElem_mem _));rw[hx]at hc0;clear hx;have HE0:Hid (∀W,∃er:Int,(alike syn x v=true→er=0)∧Calls Tryz.prog 199 #[.agg #[.string nm,.int .i64 syn,.bool sg],.string x,.string v] W fun e w'=>e= .returned (.tuple #[.bool (alike syn x v),.int .i64 er])∧Below W.heap.size W w'):=fun W=>requal_alike nm syn sg x v W hxs hv;have HE1: ∃er:Int,(alike syn x v=true→er=0)∧Hid (∀W,Calls Tryz.prog 199 #[.agg #[.string nm,.int .i64 syn,.bool sg],.string x,.string v] W fun e w'=>e= .returned (.tuple #[.bool (alike syn x v),.int .i64 er])∧Below W.heap.size W w'):=
    ⟨_,fun h=>alike_err h,fun W=>requal_any nm syn sg x v W hxs hv⟩
   obtain⟨er,her,HE⟩:=HE1;clear HE0;cases hal:alike syn x v with
   | true=>
    have h0:=her hal;subst h0;rw[hal]at HE;have HR:Hid (likeI syn l v=(i:Int)):=likeI_hit hil (by rw[HX.out];exact hal) hJ.out;clear hal her;go_wp2_with fail;go_region_held3 (fun W=>W.cell? ⟨w.heap.size,0,none⟩=some (.string nm)∧W.cell? ⟨w.heap.size,1,none⟩=some (.int .i64 syn)∧W.cell? ⟨w.heap.size,2,none⟩=some (.bool sg)∧W.cell? ⟨b,o+i,none⟩=some (.string x)) (first
      | exact⟨n0,n1,n2,hc0⟩
      | exact⟨(hB6.cell (p:=⟨w.heap.size,0,none⟩) hl1).trans n0,(hB6.cell (p:=⟨w.heap.size,1,none⟩) hl1).trans n1,(hB6.cell (p:=⟨w.heap.size,2,none⟩) hl1).trans n2,(hB6.cell (p:=⟨b,o+i,none⟩) hl2).trans hc0⟩)
     (first | (go_at_call 199;refine(HE.out _).mono ?_;rintro e w6 ⟨rfl,hB6⟩) | fail)
    all_goals have HB6:=Lib.hid (HBw.out.trans (((Below.refl wr.heap.size wr).drew.trans hB6).mono hszw));clear hB6 n0 n1 n2 hc0;go_wp2_with fail;go_ret;exact⟨kt.ret_int HR.out.symm,HB6.out⟩
   | false=>
    rw[hal]at HE;have HJ:Hid (∀j (hj:j<l.length),j<i+1→alike syn l[j] v=false):=by
     intro j hj h;by_cases e:j=i
     ·subst e;rw[HX.out];exact hal
     ·exact hJ.out j hj (by omega)
    clear hal her;go_wp2_with fail;go_region_held3 (fun W=>W.cell? ⟨w.heap.size,0,none⟩=some (.string nm)∧W.cell? ⟨w.heap.size,1,none⟩=some (.int .i64 syn)∧W.cell? ⟨w.heap.size,2,none⟩=some (.bool sg)∧W.cell? ⟨b,o+i,none⟩=some (.string x)) (first
      | exact⟨n0,n1,n2,hc0⟩
      | exact⟨(hB6.cell (p:=⟨w.heap.size,0,none⟩) hl1).trans n0,(hB6.cell (p:=⟨w.heap.size,1,none⟩) hl1).trans n1,(hB6.cell (p:=⟨w.heap.size,2,none⟩) hl1).trans n2,(hB6.cell (p:=⟨b,o+i,none⟩) hl2).trans hc0⟩)
     (first | (go_at_call 199;refine(HE.out _).mono ?_;rintro e w6 ⟨rfl,hB6⟩) | fail)
    all_goals
     have HB6:=Lib.hid (hB.out.trans (((Below.refl wr.heap.size wr).drew.trans hB6).mono hsz));clear hB6 n0 n1 n2 hc0;go_wp2_with fail;go_roundw;case rel=>exact⟨i+1,by omega,by go_num,HB6,HJ⟩
     case measure=>simp[intOf];omega
  ·obtain rfl:N=i:=(by omega);have HR:Hid (likeI syn l v= -1):=likeI_none fun j hj=>hJ.out j hj (by rw[←HN.out];exact hj);go_wp2_with fail;go_ret;exact⟨kt.ret_int HR.out.symm,HBw.out⟩
end etw
open Go.RowKit
namespace etw
open atp atw etp
open dnw (Av Avas)
open tupw (Strs strs_below)
theorem room_any (nm:ByteArray)(syn:Int)(sg:Bool)(w:World):Calls Tryz.prog 123 #[.agg #[.string nm,.int .i64 syn,.bool sg]] w fun e w'=>e= .returned (.int .i64 (mostT sg:Int))∧Below w.heap.size w w':=by
 have hB:Below w.heap.size w (w.alloc (.cells #[.string nm,.int .i64 syn,.bool sg] 108)):=(Below.refl _ _).alloc (Nat.le_refl _) _;have HB:=Lib.hid hB;clear hB;cases sg;all_goals
  go_enter Tryz.func123,Tryz.ntmps123;go_wp2_with fail;go_ret;exact⟨rfl,HB.out⟩
theorem most_any (nm:ByteArray)(syn:Int)(sg:Bool)(w:World):Calls Tryz.prog 138 #[.agg #[.string nm,.int .i64 syn,.bool sg]] w fun e w'=>e= .returned (.int .i64 (mostT sg:Int))∧Below w.heap.size w w':=by
 have hB:Below w.heap.size w (w.alloc (.cells #[.string nm,.int .i64 syn,.bool sg] 108)):=(Below.refl _ _).alloc (Nat.le_refl _) _;have HB:=Lib.hid hB;clear hB;cases sg;all_goals
  go_enter Tryz.func138,Tryz.ntmps138;go_wp2_with fail;go_ret;exact⟨rfl,HB.out⟩
theorem rvals_any (nm:ByteArray)(syn:Int)(sg:Bool)(ao:Option Addr)(cap:Nat)(l:List ByteArray)(w:World)(hl:Hid (Strs w ao l))(hn:l.length≤100000)(hcap:l.length≤cap)(hf:Hid (Fit l))(hE:Hid (EnvE w)):
  Calls Tryz.prog 133 #[.agg #[.string nm,.int .i64 syn,.bool sg],.slice ao l.length cap] w fun e w'=>e= .returned (.bool (decide (1≤l.length)&&decide (l.length≤mostT sg)&&fresh syn [] l))∧Below w.heap.size w w':=by
 obtain⟨W1,hW1⟩: ∃W,w.alloc (.cells #[.string nm,.int .i64 syn,.bool sg] 108)=W:=⟨_,rfl⟩;have hB1:Below w.heap.size w W1:=by rw[←hW1];exact(Below.refl _ _).alloc (Nat.le_refl _) _
 have HT1:Hid (TB W1 w.heap.size nm syn sg):=by rw[←hW1];exact tb_new w nm syn sg
 obtain⟨k0,k1,k2⟩:=tb_cells HT1.out;have HB1:=Lib.hid hB1;have hs1:=hB1.size;clear hB1;obtain⟨N,hN⟩: ∃N,l.length=N:=⟨_,rfl⟩;have HN:=Lib.hid hN;rw[hN]at hn hcap;rw[hN];clear hN;have HR:=Lib.hid (fun w=>room_any nm syn sg w);have hm20:mostT sg≤20:=by unfold mostT;split<;>omega
 have HMS:Hid (∃M,mostT sg=M):=⟨_,rfl⟩;generalize mostT sg=M at HR hm20 ⊢;clear HMS;by_cases h1:1≤N
 ·have d1:decide ((N:Int)<1)=false:=decide_eq_false (by omega);have d1':decide (N<1)=false:=decide_eq_false (by omega);by_cases h2:N≤M
  ·have d2:decide (M<N)=false:=decide_eq_false (by omega);have HRES:Hid ((decide (1≤N)&&decide (N≤M)&&fresh syn [] l)=fresh syn [] l):=(by show _=_;rw[decide_eq_true h1,decide_eq_true h2];rfl);rw[HRES.out];clear HRES;go_enter Tryz.func133,Tryz.ntmps133;go_wp2_with fail;refine(HR.out _).mono ?_;rintro e w2 ⟨rfl,hB2⟩;have HB2:=Lib.hid hB2;have HT2:=Lib.hid (tb_below HT1.out hB2);have HB02:=Lib.hid (HB1.out.trans (hB2.mono hs1));have hs2:=HB02.out.size;clear hB2 k0 k1 k2 hW1;go_wp2_with fail;go_loopw [19] (fun iv wr=> ∃i:Nat,i≤N∧iv= .int .i64 (i:Int)∧Hid (Below w2.heap.size w2 wr)∧Hid (fresh syn [] l=fresh syn (l.take i) (l.drop i))) (fun iv _=>N- (intOf iv).toNat);case atStart=>exact⟨0,Nat.zero_le _,rfl,Below.refl _ _,rfl⟩
   case round=>
    obtain⟨i,hi,rfl,hB,hJ⟩:=hrel;have hsz:=hB.out.size;have HBw:=Lib.hid (HB02.out.trans (hB.out.mono hs2));have hszw:=HBw.out.size;obtain⟨n0,n1,n2⟩:=tb_cells (tb_below HT2.out hB.out);have hl1:=World.block_lt_of_cell? wr _ n0;by_cases hlt:i<N
    ·have hltI:(i:Int)<(N:Int):=(by omega);have hil:i<l.length:=(by rw[HN.out];exact hlt);have hic:i≤cap:=(by omega);have HSt:=Lib.hid (strs_below hl.out HBw.out);obtain⟨b,o,hao,hc0⟩:=HSt.out i hil;subst hao;have HFR:Hid (fresh syn (l.take i) (l.drop i)=(okV syn l[i]&&decide (likeI syn (l.take i) l[i]<0)&&fresh syn (l.take (i+1)) (l.drop (i+1)))):=(by show _=_;rw[List.drop_eq_getElem_cons hil,List.take_succ_eq_append_getElem hil];rfl);have HST:Hid (Strs wr (some ⟨b,o,none⟩) (l.take i)):=(by intro j hj;rw[List.length_take]at hj;obtain⟨b',o',e,hc⟩:=HSt.out j (by omega);rw[List.getElem_take];exact⟨b',o',e,hc⟩);have HFT:Hid (Fit (l.take i)):=fun v hv=>hf.out v (List.mem_of_mem_take hv);have hti:(l.take i).length=i:=(by rw[List.length_take];omega);have hxs:l[i].size≤140737488351232:=hf.out _ (List.getElem_mem _);obtain⟨x,hx⟩: ∃x,l[i]=x:=⟨_,rfl⟩;rw[hx]at HFR hc0 hxs;clear hx;have HEr:=Lib.hid (envE_below hE.out HBw.out);have HC:Hid (∀W,Below wr.heap.size wr W→Calls Tryz.prog 145 #[.agg #[.string nm,.int .i64 syn,.bool sg],.string x] W fun e w'=>e= .returned (.int .i64 (normL syn x.data.toList).2)∧Below W.heap.size W w'):=fun W hb=>check_any nm syn sg x W hxs (Lib.hid (envE_below HEr.out hb).e) (Lib.hid (envE_below HEr.out hb).t);have HK:Hid (∀W,Below wr.heap.size wr W→Calls Tryz.prog 89 #[.agg #[.string nm,.int .i64 syn,.bool sg],.slice (some ⟨b,o,none⟩) i cap,.string x] W fun e w'=>e= .returned (.int .i64 (likeI syn (l.take i) x))∧Below W.heap.size W w'):=fun W hb=>by have:=like_any nm syn sg (some ⟨b,o,none⟩) cap (l.take i) x W (Lib.hid (strs_below HST.out hb)) (by omega) HFT hxs (Lib.hid (envE_below HEr.out hb));rw[hti]at this;exact this
     have HOK:Hid (okV syn x=decide ((normL syn x.data.toList).2=0)):=rfl;clear hti hxs;generalize(normL syn x.data.toList).2=er at HC HOK;generalize likeI syn (l.take i) x=lk at HK HFR;by_cases her:er=0
     ·have q:(er !=0)=false:=(by rw[bne_eq_false_iff_eq];exact her);have HO1:Hid (okV syn x=true):=(by rw[HOK.out];exact decide_eq_true her);clear her;by_cases hlk:lk<0
      ·have q2:decide ((0:Int)≤lk)=false:=decide_eq_false (by omega);have HJ:Hid (fresh syn [] l=fresh syn (l.take (i+1)) (l.drop (i+1))):=(by show _=_;rw[hJ.out,HFR.out,HO1.out,decide_eq_true hlk];rfl);go_wp2_with fail;refine wp_region_held_drew (S:=fun W=>W.cell? ⟨w.heap.size,0,none⟩=some (.string nm)∧W.cell? ⟨w.heap.size,1,none⟩=some (.int .i64 syn)∧W.cell? ⟨w.heap.size,2,none⟩=some (.bool sg)) (by kernel_rfl) (⟨n0,n1,n2⟩) (fun hHeld=> ?_);refine tk 0 ⟨some 24,_,_,_,_,_⟩ rfl ?_;refine tk 1 ⟨some 25,_,_,_,_,_⟩ rfl ?_;refine etw.tc 2 ⟨some 26,_,_,_,_,_⟩ rfl (fun K hK=> ?_);go_simp;go_at_call 145;refine(HC.out _ ((Below.refl wr.heap.size wr).drew)).mono ?_;rintro e w5 ⟨rfl,hB5⟩;refine hK.out _ _ (⟨(hB5.cell (p:=⟨w.heap.size,0,none⟩) hl1).trans (n0),(hB5.cell (p:=⟨w.heap.size,1,none⟩) hl1).trans (n1),(hB5.cell (p:=⟨w.heap.size,2,none⟩) hl1).trans (n2)⟩) (fun hHeld=> ?_);clear hK;try simp only[Act.put,List.setIfInBounds_toArray,List.set_cons_zero,List.set_cons_succ]
       refine tk 3 ⟨some 27,_,_,_,_,_⟩ rfl ?_;refine tk 4 ⟨some 28,_,_,_,_,_⟩ rfl ?_;refine tk 5 ⟨some 29,_,_,_,_,_⟩ rfl ?_;refine tk 6 ⟨some 30,_,_,_,_,_⟩ rfl ?_;refine tk 7 ⟨some 31,_,_,_,_,_⟩ rfl ?_;refine tk 8 ⟨some 32,_,_,_,_,_⟩ rfl ?_;refine tk 9 ⟨some 33,_,_,_,_,_⟩ rfl ?_;refine etw.tc 10 ⟨some 34,_,_,_,_,_⟩ rfl (fun K hK=> ?_);go_simp;go_at_call 89;refine(HK.out _ (((Below.refl wr.heap.size wr).drew).trans hB5)).mono ?_;rintro e w6 ⟨rfl,hB6⟩;refine hK.out _ _ (⟨(hB6.cell (p:=⟨w.heap.size,0,none⟩) (Nat.lt_of_lt_of_le hl1 hB5.size)).trans ((hB5.cell (p:=⟨w.heap.size,0,none⟩) hl1).trans (n0)),(hB6.cell (p:=⟨w.heap.size,1,none⟩) (Nat.lt_of_lt_of_le hl1 hB5.size)).trans ((hB5.cell (p:=⟨w.heap.size,1,none⟩) hl1).trans (n1)),(hB6.cell (p:=⟨w.heap.size,2,none⟩) (Nat.lt_of_lt_of_le hl1 hB5.size)).trans ((hB5.cell (p:=⟨w.heap.size,2,none⟩) hl1).trans (n2))⟩) (fun hHeld=> ?_);clear hK;try simp only[Act.put,List.setIfInBounds_toArray,List.set_cons_zero,List.set_cons_succ]
       refine tk 11 ⟨some 35,_,_,_,_,_⟩ rfl ?_;refine tk 12 ⟨some 36,_,_,_,_,_⟩ rfl ?_;refine wpAnyH_done (by kernel_rfl) ?_ _;have HB6:=Lib.hid (hB.out.trans ((((Below.refl wr.heap.size wr).drew.trans hB5).trans (hB6.mono hB5.size)).mono hsz));clear hB5 hB6 hHeld n0 n1 n2 hc0;go_wp2_with fail;go_roundw;case rel=>exact⟨i+1,by omega,by go_num,HB6,HJ⟩
       case measure=>simp[intOf];omega
      ·have q2:decide ((0:Int)≤lk)=true:=decide_eq_true (by omega);have HJ:Hid (fresh syn [] l=false):=(by show _=_;rw[hJ.out,HFR.out,decide_eq_false hlk,Bool.and_false,Bool.false_and]);go_wp2_with fail;refine wp_region_held_drew (S:=fun W=>W.cell? ⟨w.heap.size,0,none⟩=some (.string nm)∧W.cell? ⟨w.heap.size,1,none⟩=some (.int .i64 syn)∧W.cell? ⟨w.heap.size,2,none⟩=some (.bool sg)) (by kernel_rfl) (⟨n0,n1,n2⟩) (fun hHeld=> ?_);refine tk 0 ⟨some 24,_,_,_,_,_⟩ rfl ?_;refine tk 1 ⟨some 25,_,_,_,_,_⟩ rfl ?_;refine etw.tc 2 ⟨some 26,_,_,_,_,_⟩ rfl (fun K hK=> ?_);go_simp;go_at_call 145;refine(HC.out _ ((Below.refl wr.heap.size wr).drew)).mono ?_;rintro e w5 ⟨rfl,hB5⟩;refine hK.out _ _ (⟨(hB5.cell (p:=⟨w.heap.size,0,none⟩) hl1).trans (n0),(hB5.cell (p:=⟨w.heap.size,1,none⟩) hl1).trans (n1),(hB5.cell (p:=⟨w.heap.size,2,none⟩) hl1).trans (n2)⟩) (fun hHeld=> ?_);clear hK;try simp only[Act.put,List.setIfInBounds_toArray,List.set_cons_zero,List.set_cons_succ]
       refine tk 3 ⟨some 27,_,_,_,_,_⟩ rfl ?_;refine tk 4 ⟨some 28,_,_,_,_,_⟩ rfl ?_;refine tk 5 ⟨some 29,_,_,_,_,_⟩ rfl ?_;refine tk 6 ⟨some 30,_,_,_,_,_⟩ rfl ?_;refine tk 7 ⟨some 31,_,_,_,_,_⟩ rfl ?_;refine tk 8 ⟨some 32,_,_,_,_,_⟩ rfl ?_;refine tk 9 ⟨some 33,_,_,_,_,_⟩ rfl ?_;refine etw.tc 10 ⟨some 34,_,_,_,_,_⟩ rfl (fun K hK=> ?_);go_simp;go_at_call 89;refine(HK.out _ (((Below.refl wr.heap.size wr).drew).trans hB5)).mono ?_;rintro e w6 ⟨rfl,hB6⟩;refine hK.out _ _ (⟨(hB6.cell (p:=⟨w.heap.size,0,none⟩) (Nat.lt_of_lt_of_le hl1 hB5.size)).trans ((hB5.cell (p:=⟨w.heap.size,0,none⟩) hl1).trans (n0)),(hB6.cell (p:=⟨w.heap.size,1,none⟩) (Nat.lt_of_lt_of_le hl1 hB5.size)).trans ((hB5.cell (p:=⟨w.heap.size,1,none⟩) hl1).trans (n1)),(hB6.cell (p:=⟨w.heap.size,2,none⟩) (Nat.lt_of_lt_of_le hl1 hB5.size)).trans ((hB5.cell (p:=⟨w.heap.size,2,none⟩) hl1).trans (n2))⟩) (fun hHeld=> ?_);clear hK;try simp only[Act.put,List.setIfInBounds_toArray,List.set_cons_zero,List.set_cons_succ]
       refine tk 11 ⟨some 35,_,_,_,_,_⟩ rfl ?_;refine tk 12 ⟨some 36,_,_,_,_,_⟩ rfl ?_;refine wpAnyH_done (by kernel_rfl) ?_ _;have HB6:=Lib.hid (HBw.out.trans ((((Below.refl wr.heap.size wr).drew.trans hB5).trans (hB6.mono hB5.size)).mono hszw));clear hB5 hB6 hHeld n0 n1 n2 hc0;go_wp2_with fail;go_ret;exact⟨kt.ret_bool HJ.out.symm,HB6.out⟩
     ·have q:(er !=0)=true:=(by rw[bne_iff_ne];exact her);have HJ:Hid (fresh syn [] l=false):=(by show _=_;rw[hJ.out,HFR.out,HOK.out,decide_eq_false her];rfl);clear her;go_wp2_with fail;refine wp_region_held_drew (S:=fun W=>W.cell? ⟨w.heap.size,0,none⟩=some (.string nm)∧W.cell? ⟨w.heap.size,1,none⟩=some (.int .i64 syn)∧W.cell? ⟨w.heap.size,2,none⟩=some (.bool sg)) (by kernel_rfl) (⟨n0,n1,n2⟩) (fun hHeld=> ?_);refine tk 0 ⟨some 24,_,_,_,_,_⟩ rfl ?_;refine tk 1 ⟨some 25,_,_,_,_,_⟩ rfl ?_;refine etw.tc 2 ⟨some 26,_,_,_,_,_⟩ rfl (fun K hK=> ?_);go_simp;go_at_call 145;refine(HC.out _ ((Below.refl wr.heap.size wr).drew)).mono ?_;rintro e w5 ⟨rfl,hB5⟩;refine hK.out _ _ (⟨(hB5.cell (p:=⟨w.heap.size,0,none⟩) hl1).trans (n0),(hB5.cell (p:=⟨w.heap.size,1,none⟩) hl1).trans (n1),(hB5.cell (p:=⟨w.heap.size,2,none⟩) hl1).trans (n2)⟩) (fun hHeld=> ?_);clear hK;try simp only[Act.put,List.setIfInBounds_toArray,List.set_cons_zero,List.set_cons_succ]
      refine tk 3 ⟨some 27,_,_,_,_,_⟩ rfl ?_;refine tk 4 ⟨some 28,_,_,_,_,_⟩ rfl ?_;refine tu 5 ⟨some 29,_,_,_,_,_⟩ rfl ?_;refine tu 6 ⟨some 30,_,_,_,_,_⟩ rfl ?_;refine tu 7 ⟨some 31,_,_,_,_,_⟩ rfl ?_;refine tu 8 ⟨some 32,_,_,_,_,_⟩ rfl ?_;refine tu 9 ⟨some 33,_,_,_,_,_⟩ rfl ?_;refine tu 10 ⟨some 34,_,_,_,_,_⟩ rfl ?_;refine tu 11 ⟨some 35,_,_,_,_,_⟩ rfl ?_;refine tk 12 ⟨some 36,_,_,_,_,_⟩ rfl ?_;refine wpAnyH_done (by kernel_rfl) ?_ _;have HB5:=Lib.hid (HBw.out.trans (((Below.refl wr.heap.size wr).drew.trans hB5).mono hszw));clear hB5 hHeld n0 n1 n2 hc0;go_wp2_with fail;go_ret;exact⟨kt.ret_bool HJ.out.symm,HB5.out⟩
    ·obtain rfl:N=i:=(by omega);have HJ:Hid (fresh syn [] l=true):=(by show _=_;rw[hJ.out,←HN.out,List.drop_length];rfl);go_wp2_with fail;go_ret;exact⟨kt.ret_bool HJ.out.symm,HBw.out⟩
  ·have d2:decide (M<N)=true:=decide_eq_true (by omega);have HRES:Hid ((decide (1≤N)&&decide (N≤M)&&fresh syn [] l)=false):=(by show _=_;rw[decide_eq_false h2,Bool.and_false,Bool.false_and]);go_enter Tryz.func133,Tryz.ntmps133;go_wp2_with fail;refine(HR.out _).mono ?_;rintro e w2 ⟨rfl,hB2⟩;have HB02:=Lib.hid (HB1.out.trans (hB2.mono hs1));clear hB2 k0 k1 k2 hW1;go_wp2_with fail;go_ret;exact⟨kt.ret_bool HRES.out.symm,HB02.out⟩
 ·have d1:decide ((N:Int)<1)=true:=decide_eq_true (by omega);have d1':decide (N<1)=true:=decide_eq_true (by omega);have HRES:Hid ((decide (1≤N)&&decide (N≤M)&&fresh syn [] l)=false):=by show _=_;rw[decide_eq_false h1];rfl
  obtain rfl:N=0:=by omega
  clear h1;go_enter Tryz.func133,Tryz.ntmps133;go_wp2_with fail;go_ret;exact⟨kt.ret_bool HRES.out.symm,HB1.out⟩
end etw
open Go.RowKit
namespace dnw
open dnp
theorem dkey_any (ao:Option Addr)(cap:Nat)(l:List Av)(w:World)(hA:Hid (Avas w ao l))(hE:Hid (prw.Env w))(hT:Hid (Tabs w))(hS:Hid (l.length≤4→Smalls l))(hc:l.length≤cap):
  Calls Tryz.prog 132 #[.slice ao l.length cap] w fun e w'=>KeyE l e∧Below w.heap.size w w':=by
 have CR:=rightRdn_any ao cap l w hA hE hS hc;have CK:rdnOK l=true→Hid (∀W,Below w.heap.size w W→Calls Tryz.prog 191 #[.slice ao l.length cap] W fun e w'=>e= .returned (.string (bytes (keyL l)))∧Below W.heap.size W w'):=fun h W hb=>key_any ao cap l W (Lib.hid (avas_below hA.out hb)) (Lib.hid (prw.env_below hE.out hb)) (Lib.hid (tabs_below hT.out hb)) h;obtain⟨m,hm⟩: ∃m,m=l.length:=⟨_,rfl⟩;rw[←hm]at CR CK ⊢;clear hm hc;cases hok:rdnOK l with
 | false=>rw[hok]at CR;have HC:=Lib.hid CR;have HN:=Lib.hid (keyE_no hok);clear CR CK hok;go_enter Tryz.func132,Tryz.ntmps132;go_wp2_with fail;refine HC.out.mono ?_;rintro e w1 ⟨rfl,hB1⟩;go_wp2_with fail;go_ret2;exact⟨HN.out,hB1⟩
 | true=>rw[hok]at CR;have HC:=Lib.hid CR;have HN:=Lib.hid (keyE_yes hok);have HK:=CK hok;clear CR CK hok;go_enter Tryz.func132,Tryz.ntmps132;go_wp2_with fail;refine HC.out.mono ?_;rintro e w1 ⟨rfl,hB1⟩;have HK1:=Lib.hid (HK.out w1 hB1);go_wp2_with fail;refine HK1.out.mono ?_;rintro e w2 ⟨rfl,hB2⟩;go_wp2_with fail;go_ret2;exact⟨HN.out,hB1.trans (hB2.mono hB1.size)⟩
end dnw
end Go.Proofs.YtmnpfkbjpeaemaaGreatDoor
