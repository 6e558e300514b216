/- One text out of several: FilQ, RowS, SegS, TakW, EntK, FilK. -/
import Derived.Test.YtffkghkkobmhaaaP1
import Derived.Laws.CopyRow
import Derived.Lib.AppendZerosOnto
import Derived.Lib.Overlaps
import Derived.OrdersHeld
import Derived.WalkKit
import Derived.Lib.SmallJoins
set_option linter.unusedVariables false
set_option linter.unusedSimpArgs false
namespace Go.Proofs.Ytffkghkkobmhaaa
namespace flp
open atp etp
def FitH (F:Fl):Prop:=F.attr.size≤100000∧F.value.size≤100000∧F.first.size≤100000∧F.last.size≤100000∧F.any.length≤100000∧(∀x∈F.any,x.size≤100000)∧F.kids.length≤100000
def FitD:Nat→Fl→Prop
 | 0,_=>False
 | d+1,F=>FitH F∧ ∀k∈F.kids,FitD d k
theorem fit_ok: ∀ {d:Nat} {F:Fl},FitD d F→okD d F
 | 0,_,h=>h.elim
 | d+1,F,h=>fun k hk=>fit_ok (h.2 k hk)
def cap5 (n:Nat):Nat:=min n 5001
def headW (F:Fl):Nat:=1+cap5 F.attr.size+cap5 F.value.size+cap5 F.first.size+cap5 F.last.size
def anyW:Nat→List ByteArray→Nat
 | n,[]=>n
 | n,x::r=>if n≤5000 then anyW (n+1+cap5 x.size) r else n
def kidsW (f:Fl→Nat→Nat):Nat→List Fl→Nat
 | n,[]=>n
 | n,k::r=>if n≤5000 then kidsW f (f k n) r else n
def weighF:Nat→Fl→Nat→Nat
 | 0,_,_=>5001
 | d+1,F,n=>kidsW (weighF d) (anyW (n+headW F) F.any) F.kids
theorem cap5_le (n:Nat):cap5 n≤5001:=Nat.min_le_right _ _
theorem anyW_stop {n:Nat}(h: ¬n≤5000)(l:List ByteArray):anyW n l=n:=by
 cases l with
 | nil=>rfl
 | cons x r=>unfold anyW;rw[if_neg h]
theorem kidsW_stop {f:Fl→Nat→Nat}{n:Nat}(h: ¬n≤5000)(l:List Fl):kidsW f n l=n:=by
 cases l with
 | nil=>rfl
 | cons x r=>unfold kidsW;rw[if_neg h]
theorem anyW_step {n:Nat}(h:n≤5000){l:List ByteArray}{i:Nat}(hi:i<l.length):anyW n (l.drop i)=anyW (n+1+cap5 l[i].size) (l.drop (i+1)):=by
 rw[List.drop_eq_getElem_cons hi];conv=>lhs;unfold anyW
 rw[if_pos h]
theorem kidsW_step {f:Fl→Nat→Nat}{n:Nat}(h:n≤5000){l:List Fl}{i:Nat}(hi:i<l.length):kidsW f n (l.drop i)=kidsW f (f l[i] n) (l.drop (i+1)):=by
 rw[List.drop_eq_getElem_cons hi];conv=>lhs;unfold kidsW
 rw[if_pos h]
theorem anyW_le: ∀ (l:List ByteArray) (n:Nat),n≤26000→anyW n l≤26000
 | [],n,h=>h
 | x::r,n,h=>by
  unfold anyW;split
  ·exact anyW_le r _ (by have:=cap5_le x.size;omega)
  ·exact h
theorem cap5_small {n:Nat}(h:cap5 n≤5000):n≤5000:=by unfold cap5 at h;omega
theorem anyW_fit: ∀ (l:List ByteArray) (n:Nat),anyW n l≤5000→n+l.length≤anyW n l∧ ∀x∈l,x.size≤5000
 | [],n,h=>⟨Nat.le_refl _,fun x hx=>by cases hx⟩
 | y::r,n,h=>by
  unfold anyW at h ⊢;split at h
  ·rename_i h0;rw[if_pos h0];obtain⟨h1,h2⟩:=anyW_fit r _ h;refine⟨by rw[List.length_cons];omega,fun x hx=> ?_⟩;rcases List.mem_cons.1 hx with rfl | hx
   ·exact cap5_small (by omega)
   ·exact h2 x hx
  ·omega
theorem kidsW_fit {f:Fl→Nat→Nat}{Q:Fl→Prop}{c:Fl→Nat}(hf: ∀k n,f k n≤5000→n+c k≤f k n∧1≤c k∧Q k): ∀ (l:List Fl) (n:Nat),kidsW f n l≤5000→n+(l.map c).sum≤kidsW f n l∧l.length≤(l.map c).sum∧ ∀k∈l,Q k
 | [],n,h=>⟨Nat.le_refl _,Nat.le_refl _,fun x hx=>by cases hx⟩
 | k::r,n,h=>by
  unfold kidsW at h ⊢;split at h
  ·rename_i h0;rw[if_pos h0];obtain⟨h1,h2,h3⟩:=kidsW_fit hf r _ h;have h4:f k n≤5000:=(by omega);obtain⟨h5,h6,h7⟩:=hf k n h4;refine⟨by rw[List.map_cons,List.sum_cons];omega,by rw[List.map_cons,List.sum_cons,List.length_cons];omega,fun x hx=> ?_⟩;rcases List.mem_cons.1 hx with rfl | hx
   ·exact h7
   ·exact h3 x hx
  ·omega
theorem weigh_fit: ∀ (d:Nat) (F:Fl) (n:Nat),weighF d F n≤5000→n+cntN d F≤weighF d F n∧1≤cntN d F∧FitD d F
 | 0,F,n,h=>by unfold weighF at h;omega
 | d+1,F,n,h=>by
  unfold weighF at h ⊢;obtain⟨h1,h2,h3⟩:=kidsW_fit (Q:=FitD d) (c:=cntN d) (fun k n=>weigh_fit d k n) F.kids _ h;have h4:anyW (n+headW F) F.any≤5000:=by omega
  obtain⟨h5,h6⟩:=anyW_fit F.any _ h4;have h7:n+headW F≤5000:=by omega
  have hw:headW F=1+cap5 F.attr.size+cap5 F.value.size+cap5 F.first.size+cap5 F.last.size:=rfl;have e:cntN (d+1) F=1+(F.kids.map (cntN d)).sum:=rfl;have a1:= @cap5_small F.attr.size (by omega);have a2:= @cap5_small F.value.size (by omega);have a3:= @cap5_small F.first.size (by omega);have a4:= @cap5_small F.last.size (by omega);exact⟨by rw[e];omega,by rw[e];omega,⟨by omega,by omega,by omega,by omega,by omega,fun x hx=>by have:=h6 x hx;omega,by omega⟩,h3⟩
theorem kidsW_le {f:Fl→Nat→Nat}(hf: ∀k n,n≤5000→f k n≤60000): ∀ (l:List Fl) (n:Nat),n≤60000→kidsW f n l≤60000
 | [],n,h=>h
 | k::r,n,h=>by
  unfold kidsW;split
  ·rename_i h0;exact kidsW_le hf r _ (hf k n h0)
  ·exact h
theorem headW_le (F:Fl):headW F≤20005:=by unfold headW;have:=cap5_le F.attr.size;have:=cap5_le F.value.size;have:=cap5_le F.first.size;have:=cap5_le F.last.size;omega
theorem weigh_le: ∀ (d:Nat) (F:Fl) (n:Nat),n≤5000→weighF d F n≤60000
 | 0,F,n,h=>by unfold weighF;omega
 | d+1,F,n,h=>by unfold weighF;refine kidsW_le (fun k n hn=>weigh_le d k n hn) F.kids _ ?_;have:=anyW_le F.any (n+headW F) (by have:=headW_le F;omega);omega
def longF (F:Fl):Bool:=decide (5000<weighF 60 F 0)
theorem long_no {F:Fl}(h:longF F=false):FitD 60 F∧cntN 60 F≤5000:=by unfold longF at h;rw[decide_eq_false_iff_not]at h;obtain⟨h1,h2,h3⟩:=weigh_fit 60 F 0 (by omega);exact⟨h3,by omega⟩
end flp
open Go.RowKit
namespace kt
theorem row_nil (w:World)(B:Nat)(e:TypeId)(sz:Nat):w.ownsRow B e sz (.slice none 0 0) 0 []:=⟨by simp,Or.inl ⟨rfl,rfl⟩⟩
theorem flat_get {α:Type}(f:α→List Value)(sz:Nat)(hf: ∀a,(f a).length=sz): ∀ (l:List α) (i j:Nat) (hi:i<l.length) (_:j<sz),(l.flatMap f)[i*sz+j]? =(f l[i])[j]? :=by
 intro l;induction l with
 | nil=>intro i j hi;simp at hi
 | cons c r ih=>
  intro i j hi hj;rw[List.flatMap_cons]
  match i,hi with
  | 0,_=>rw[List.getElem?_append_left (by rw[hf];omega)];simp
  | k+1,hi=>rw[List.getElem?_append_right (by rw[hf,Nat.add_mul];omega),hf];have e:(k+1)*sz+j-sz=k*sz+j:=(by rw[Nat.add_mul];omega);rw[e,ih k j (by simpa using hi) hj];simp
end kt
open Go.RowKit
namespace kt
def SegX (w:World)(B:Nat)(e:TypeId)(sz:Nat)(v:Value)(n:Nat)(xs:List Value):Prop:=
 xs.length=n*sz∧((v= .slice none 0 0∧n=0)∨
  ∃ (g o cap:Nat) (pre post:List Value),v= .slice (some ⟨g,o,none⟩) n cap∧B≤g∧w.heap[g]? =some (.cells (pre++xs++post).toArray e (0,0))∧pre.length=o∧n≤cap∧cap≤maxLen∧(cap-n)*sz≤post.length)
theorem segX_nil (w:World)(B:Nat)(e:TypeId)(sz:Nat):SegX w B e sz (.slice none 0 0) 0 []:=⟨by simp,Or.inl ⟨rfl,rfl⟩⟩
theorem segX_of_row {w:World}{B:Nat}{e:TypeId}{sz:Nat}{v:Value}{n:Nat}{xs:List Value}(h:w.ownsRow B e sz v n xs):SegX w B e sz v n xs:=by
 refine⟨h.1,?_⟩;rcases h.2 with h0 | ⟨g,cap,cur,rfl,hb,hg,hc,hm,hs,ht⟩
 ·exact Or.inl h0
 ·refine Or.inr ⟨g,0,cap,[],cur.toList.drop (n*sz),rfl,hb,?_,rfl,hc,hm,?_⟩
  ·rw[hg,←ht];simp
  ·rw[List.length_drop,Array.length_toList,hs,Nat.sub_mul];omega
theorem segX_slice {w:World}{B n:Nat}{e:TypeId}{sz:Nat}{v:Value}{xs:List Value}(h:SegX w B e sz v n xs): ∃ao cap,v= .slice ao n cap∧n≤cap:=by
 rcases h.2 with⟨rfl,rfl⟩ | ⟨g,o,cap,pre,post,rfl,_,_,_,hc,_⟩
 ·exact⟨none,0,rfl,Nat.le_refl _⟩
 ·exact⟨_,cap,rfl,hc⟩
theorem segX_same {w w':World}{B n:Nat}{e:TypeId}{sz:Nat}{v:Value}{xs:List Value}(h:SegX w B e sz v n xs)(hb: ∀k,v.ownBlock=some k→w'.heap[k]? =w.heap[k]?):SegX w' B e sz v n xs:=by
 refine⟨h.1,?_⟩;rcases h.2 with h0 | ⟨g,o,cap,pre,post,rfl,hB,hg,hr⟩
 ·exact Or.inl h0
 ·exact Or.inr ⟨g,o,cap,pre,post,rfl,hB,(hb g rfl).trans hg,hr⟩
theorem bld_lt {w:World}{b:Nat}{o:Obj}(h:w.heap[b]? =some o):b<w.heap.size:=by
 rcases Nat.lt_or_ge b w.heap.size with h' | h'
 ·exact h'
 ·simp[Array.getElem?_eq_none h']at h
theorem segX_lt {w:World}{B n:Nat}{e:TypeId}{sz:Nat}{v:Value}{xs:List Value}(h:SegX w B e sz v n xs): ∀k,v.ownBlock=some k→B≤k∧k<w.heap.size:=by
 intro k hk;rcases h.2 with⟨rfl,_⟩ | ⟨g,o,cap,pre,post,rfl,hB,hg,_⟩
 ·cases hk
 ·cases hk;exact⟨hB,bld_lt hg⟩
theorem segX_below {w w':World}{B n:Nat}{e:TypeId}{sz:Nat}{v:Value}{xs:List Value}(h:SegX w B e sz v n xs)(hb:Below w.heap.size w w'):SegX w' B e sz v n xs:=segX_same h fun k hk=>hb.block k (segX_lt h k hk).2
theorem segX_mono {w:World}{B C n:Nat}{e:TypeId}{sz:Nat}{v:Value}{xs:List Value}(h:SegX w B e sz v n xs)(hc:C≤B):SegX w C e sz v n xs:=by
 refine⟨h.1,?_⟩;rcases h.2 with h0 | ⟨g,o,cap,pre,post,rfl,hB,hr⟩
 ·exact Or.inl h0
 ·exact Or.inr ⟨g,o,cap,pre,post,rfl,Nat.le_trans hc hB,hr⟩
def SameOrNew (w:World)(v v':Value):Prop:= ∀k,v'.ownBlock=some k→v.ownBlock=some k∨w.heap.size≤k
theorem segX_cell {w:World}{B n:Nat}{e:TypeId}{sz:Nat}{v:Value}{xs:List Value}(h:SegX w B e sz v n xs)(hn:0<n): ∃g o cap,v= .slice (some ⟨g,o,none⟩) n cap∧B≤g∧n≤cap∧(∀ (j:Nat) (x:Value),xs[j]? =some x→w.cell? ⟨g,o+j,none⟩=some x):=by
 rcases h.2 with⟨_,h0⟩ | ⟨g,o,cap,pre,post,rfl,hB,hg,hp,hc,_⟩
 ·omega
 ·refine⟨g,o,cap,rfl,hB,hc,fun j x hx=> ?_⟩;have hj:=(List.getElem?_eq_some_iff.1 hx).1;rw[Lib.cell_of_heap hg];simp only[List.getElem?_toArray];rw[List.append_assoc,List.getElem?_append_right (by omega),show o+j-pre.length=j by omega,List.getElem?_append_left hj];exact hx
theorem run_append_room_at {P:Program}{w:World}(t ty e:TypeId)(i:TypeInfo)(ht:P.underlying t=some (.slice e))(hi:P.info? e=some i)
  (g o sLen sCap:Nat) (cur:Array Value) (hg:w.heap[g]? =some (.cells cur e (0,0)))
  (a:Addr) (m c:Nat) (news:List Value) (hl:news.length=m*i.size) (hnews: ∀j u,news[j]? =some u→w.cell? (a.add j)=some u) (h1: ∀u∈news,u.oneCell'=true)
  (hroom:sLen+m≤sCap) (hfit:o+sLen*i.size+news.length≤cur.size):
  (Builtin.append_ #[t,t] ty #[.slice (some ⟨g,o,none⟩) sLen sCap,.slice (some a) m c]).run P w=
   .ok (.slice (some ⟨g,o,none⟩) (sLen+m) sCap) (w.setRow g (cur.toList.take (o+sLen*i.size)++news++cur.toList.drop (o+sLen*i.size+news.length)).toArray):=by
 have hf:=run_firstCells_some (P:=P) w i.size m a m c news hl hnews;have hst:=run_storeCells_at P g (o+sLen*i.size) e news 0 cur w hg (by simpa using hfit) h1;simp only[Nat.add_zero]at hst;have ha:(⟨g,o,none⟩:Addr).add (sLen*i.size)=⟨g,o+sLen*i.size,none⟩:=by rw[Addr.add_mid]
 simp[Builtin.append_,run_underlying ht,sizeOf,typeInfo,hi,Builtin.lenOf,hroom,hf,ha,hst]
theorem grown_row (w:World)(g:Nat)(cs:Array Value):w.grownBy (w.setRow g cs) (some g):=⟨rfl,rfl,rfl,by simp,fun j hj hne=>setRow_other w g j cs (fun h=>hne (by rw[h]))⟩
theorem segX_append {P:Program}{t e ty:TypeId}{z:Value}{sz bytes:Nat}(ht:P.underlying t=some (.slice e))(hinfo:(P.info? e).map (fun i=>(i.zero,i.size,i.bytes))=some (some z,sz,bytes))(hzs:z.cells.size=sz)(hsz:0<sz)
  {w:World} {B:Nat} {v:Value} {n:Nat} {xs:List Value} (ad:Addr) (m c:Nat) (news:List Value) (hl:news.length=m*sz) (hnews: ∀j u,news[j]? =some u→w.cell? (ad.add j)=some u) (h1: ∀u∈news,u.oneCell'=true)
  (hown:SegX w B e sz v n xs) (h63:n+m≤maxLen) (hb:(n+m)*bytes≤140737488355328) (hbase:B≤w.heap.size):
  ∃v' w1,(Builtin.append_ #[t,t] ty #[v,.slice (some ad) m c]).run P w= .ok v' w1∧SegX w1 B e sz v' (n+m) (xs++news)∧w.grownBy w1 v.ownBlock∧SameOrNew w v v':=by
 rcases hown.2 with⟨rfl,rfl⟩ | ⟨g,o,cap,pre,post,rfl,hB,hg,hp,hc,hm,hpost⟩
 ·have h0:xs=[]:=List.eq_nil_of_length_eq_zero (by simpa using hown.1);subst h0;obtain⟨i0,hi,hz0,hz1,hz2⟩:=info_parts hinfo;obtain⟨v',w1,hr,ho,hgr,_⟩:=run_append_own (P:=P) w w.heap.size t ty e i0 z sz bytes ht hi hz0 hz1 hz2 hzs hsz (.slice none 0 0) 0 [] (row_nil _ _ _ _) ad m c news hl hnews h1 h63 hb (Nat.le_refl _);exact⟨v',w1,hr,segX_mono (segX_of_row ho) hbase,hgr,fun k hk=>Or.inr (segX_lt (segX_of_row ho) k hk).1⟩
 ·obtain⟨i0,hi,hz0,hz1,hz2⟩:=info_parts hinfo;subst hz1 hz2;by_cases hroom:n+m≤cap
  ·have hfit:m*i0.size≤post.length:=(by refine Nat.le_trans (Nat.mul_le_mul_right _ ?_) hpost;omega);have hxl:=hown.1;have hr:=run_append_room_at (P:=P) (w:=w) t ty e i0 ht hi g o n cap _ hg ad m c news hl hnews h1 hroom (by simp;omega);refine⟨_,_,hr,⟨by rw[List.length_append,hown.1,hl,Nat.add_mul],Or.inr ⟨g,o,cap,pre,post.drop (m*i0.size),rfl,hB,?_,hp,hroom,hm,?_⟩⟩,grown_row _ _ _,fun k hk=>Or.inl hk⟩
   ·rw[setRow_heap w g _ _ e _ hg];congr 3;have e1:(pre++xs++post).take (o+n*i0.size)=pre++xs:=(by rw[List.take_append_of_le_length (by rw[List.length_append];omega),List.take_of_length_le (by rw[List.length_append];omega)]);have e2:(pre++xs++post).drop (o+n*i0.size+news.length)=post.drop (m*i0.size):=(by rw[List.drop_append,List.drop_of_length_le (by rw[List.length_append];omega),List.nil_append];congr 1;rw[List.length_append];omega);rw[e1,e2];simp
   ·rw[List.length_drop,Nat.sub_mul];rw[Nat.sub_mul]at hpost;rw[Nat.add_mul];omega
  ·have holds: ∀j u,xs[j]? =some u→w.cell? ((⟨g,o,none⟩:Addr).add j)=some u:=(by intro j u hj;have hj':=(List.getElem?_eq_some_iff.1 hj).1;rw[Addr.add_mid,Lib.cell_of_heap hg];simp only[List.getElem?_toArray];rw[List.append_assoc,List.getElem?_append_right (by omega),show o+j-pre.length=j by omega,List.getElem?_append_left hj'];exact hj);have hr:=run_append_grow (P:=P) w t ty e i0 z ht hi hz0 ⟨g,o,none⟩ n cap xs hown.1 holds ad m c news hl hnews (by omega) (by unfold maxLen at h63;omega) (growslice_fits (by omega) hb);have hge:=grownCap_ge w (n+m) cap e;refine⟨_,_,hr,⟨by rw[List.length_append,hown.1,hl,Nat.add_mul],Or.inr ⟨w.heap.size,0,_,[],(Builtin.zeroCells z.cells (grownCap w (n+m) cap e- (n+m))).toList,rfl,hbase,?_,rfl,hge,grownCap_le_maxLen w (n+m) cap e h63,?_⟩⟩,⟨rfl,rfl,rfl,by simp,fun k hk _=>Below.heap_alloc w.drew _ _ hk⟩,fun k hk=>Or.inr (by cases hk;exact Nat.le_refl _)⟩
   ·refine(heap_alloc_new w.drew _).trans ?_;congr 3;simp
   ·rw[Array.length_toList,size_zeroCells,hzs];exact Nat.le_refl _
end kt
open Go.RowKit
namespace etw
theorem tk {P:Program}{ops:Array Oper}{Q:Exit→Act→World→Prop}{md:Region.Mode}{S:World→Prop}(i:Nat)(oi:Oper){v:Value}{fuel:Nat}{listed:Array Bool}{a a2:Act}{w:World}(hi:ops[i]? =some oi)
  (h:wpAnyH P md ops Q S fuel (listed.setIfInBounds i true) a2 w)
  (hs:Region.noSelect ops=true:=by kernel_rfl) (hf:Region.free md ops listed i=true:=by kernel_rfl) (hr:(Region.ready md ops listed).contains i=true:=by kernel_rfl)
  (hQ: ∀c a w,Q (.panic c) (a.put oi.dst v) w→Q (.panic c) a w:=by exact fun _ _ _ h=>h) (hw:Region.wanted oi (yielded ops a.tmps)=true:=by rfl)
  (hy: ∀w,S w→(execOp a.eval oi).run P w= .ok (.value v) w:=by intro w hSw;(try dsimp only at hSw);go_simp;all_goals with_reducible rfl)
  (hS:S w:=by assumption) (ha:a.put oi.dst v=a2:=by first | (simp only[Act.put,List.setIfInBounds_toArray,List.set_cons_zero,List.set_cons_succ];rfl) | rfl):wpAnyH P md ops Q S (fuel+1) listed a w:=by
 subst ha;exact wpAnyH_take hi hs hf hr hQ (Or.inl ⟨hw,hy⟩) hS h
theorem tc {P:Program}{ops:Array Oper}{Q:Exit→Act→World→Prop}{md:Region.Mode}{S:World→Prop}(i:Nat)(oi:Oper){fuel:Nat}{listed:Array Bool}{a:Act}{w:World}(ho:ops[i]? =some oi)
  (h: ∀K':Act→World→Prop,Shut (∀a w,S w→(S w→wpAnyH P md ops Q S fuel (listed.setIfInBounds i true) a w)→K' a w)→if Region.wanted oi (yielded ops a.tmps)=true then Oper.wp P oi a w K' Q else K' (a.put oi.dst undef) w)
  (hr:Region.ready md ops listed=[i]:=by kernel_rfl):wpAnyH P md ops Q S (fuel+1) listed a w:=
 wpAnyH_ready hr (by simp) (AllReadyH.cons ho h AllReadyH.nil)
end etw
open Go.RowKit
namespace atp
end atp
namespace atw
end atw
namespace etp
end etp
namespace etw
open tupw (Strs strs_below)
theorem strs_same {w w':World}{a:Option Addr}{vs:List ByteArray}(h:Strs w a vs)(hb:vs≠[]→ ∀p,a=some p→w'.heap[p.block]? =w.heap[p.block]?):Strs w' a vs:=by intro i hi;obtain⟨b,o,e,hc⟩:=h i hi;exact⟨b,o,e,(World.cell?_of_block (w:=w) (a:=⟨b,o+i,none⟩) (hb (by intro e0;rw[e0]at hi;cases hi) ⟨b,o,none⟩ e)).trans hc⟩
theorem strs_lt {w:World}{a:Option Addr}{vs:List ByteArray}(h:Strs w a vs)(hv:vs≠[]): ∃b o,a=some ⟨b,o,none⟩∧b<w.heap.size:=by
 cases vs with
 | nil=>exact absurd rfl hv
 | cons x t=>obtain⟨b,o,e,hc⟩:=h 0 (by simp);exact⟨b,o,e,World.block_lt_of_cell? w _ hc⟩
end etw
open Go.RowKit
namespace flw
open flp atp atw etp etw
open tupw (Strs strs_below)
def StrsO (ok:Nat→Prop)(w:World)(ao:Option Addr)(l:List ByteArray):Prop:=Strs w ao l∧(l≠[]→ ∀a,ao=some a→ok a.block)
structure CellsF (w:World)(b o:Nat)(F:Fl)(av kv:Value):Prop where
 c0:w.cell? ⟨b,o,none⟩=some (.int .i64 F.kind)
 c1:w.cell? ⟨b,o+1,none⟩=some (.string F.attr)
 c2:w.cell? ⟨b,o+2,none⟩=some (.string F.value)
 c3:w.cell? ⟨b,o+3,none⟩=some (.string F.first)
 c4:w.cell? ⟨b,o+4,none⟩=some av
 c5:w.cell? ⟨b,o+5,none⟩=some (.string F.last)
 c6:w.cell? ⟨b,o+6,none⟩=some kv
theorem cellsF_same {w w':World}{b o:Nat}{F:Fl}{av kv:Value}(h:CellsF w b o F av kv)(hb:w'.heap[b]? =w.heap[b]?):CellsF w' b o F av kv:=by have g: ∀i,w'.cell? ⟨b,i,none⟩=w.cell? ⟨b,i,none⟩:=fun i=>World.cell?_of_block (w:=w) (a:=⟨b,i,none⟩) hb;exact⟨(g _).trans h.c0,(g _).trans h.c1,(g _).trans h.c2,(g _).trans h.c3,(g _).trans h.c4,(g _).trans h.c5,(g _).trans h.c6⟩
theorem cellsF_lt {w:World}{b o:Nat}{F:Fl}{av kv:Value}(h:CellsF w b o F av kv):b<w.heap.size:=World.block_lt_of_cell? w _ h.c0
def OkA (xa:Option Addr)(n xc:Nat):Prop:=n≤xc∧(xa=none→xc=0)
def Kids (w:World)(ok:Nat→Prop):Nat→Option Addr→List Fl→Prop
 | 0,_,l=>l=[]
 | d+1,ao,l=> ∀i (hi:i<l.length),∃b o xa xc ka kc,ao=some ⟨b,o,none⟩∧ok b∧CellsF w b (o+i*7) l[i] (.slice xa l[i].any.length xc) (.slice ka l[i].kids.length kc)∧
   OkA xa l[i].any.length xc∧StrsO ok w xa l[i].any∧l[i].kids.length≤kc∧Kids w ok d ka l[i].kids
def flV (F:Fl)(av kv:Value):Value:= .agg #[.int .i64 F.kind,.string F.attr,.string F.value,.string F.first,av,.string F.last,kv]
def FlV (w:World)(ok:Nat→Prop)(d:Nat)(v:Value)(F:Fl):Prop:= ∃xa xc ka kc,v=flV F (.slice xa F.any.length xc) (.slice ka F.kids.length kc)∧OkA xa F.any.length xc∧StrsO ok w xa F.any∧F.kids.length≤kc∧Kids w ok d ka F.kids
def anyB (_:Nat):Prop:=True
theorem kids_nil (w:World)(ok:Nat→Prop)(d:Nat)(ao:Option Addr):Kids w ok d ao []:=by
 cases d with
 | zero=>rfl
 | succ d=>intro i hi;cases hi
theorem strsO_same {w w':World}{ok:Nat→Prop}{ao:Option Addr}{l:List ByteArray}(h:StrsO ok w ao l)(hb: ∀k,ok k→k<w.heap.size→w'.heap[k]? =w.heap[k]?):StrsO ok w' ao l:=⟨strs_same h.1 fun hl p hp=>by obtain⟨b,o,e,hlt⟩:=strs_lt h.1 hl;have hok:=h.2 hl p hp;rw[hp]at e;cases e;exact hb _ hok hlt,h.2⟩
theorem kids_same {w w':World}{ok:Nat→Prop}(hb: ∀k,ok k→k<w.heap.size→w'.heap[k]? =w.heap[k]?): ∀ {d:Nat} {ao:Option Addr} {l:List Fl},Kids w ok d ao l→Kids w' ok d ao l
 | 0,_,_,h=>h
 | d+1,ao,l,h=>fun i hi=>by obtain⟨b,o,xa,xc,ka,kc,e,hok,hc,h1,h2,h3,h4⟩:=h i hi;exact⟨b,o,xa,xc,ka,kc,e,hok,cellsF_same hc (hb b hok (cellsF_lt hc)),h1,strsO_same h2 hb,h3,kids_same hb h4⟩
theorem kids_below {w w':World}{ok:Nat→Prop}{d:Nat}{ao:Option Addr}{l:List Fl}(h:Kids w ok d ao l)(hb:Below w.heap.size w w'):Kids w' ok d ao l:=kids_same (fun k _ hlt=>hb.block k hlt) h
theorem flV_same {w w':World}{ok:Nat→Prop}{d:Nat}{v:Value}{F:Fl}(h:FlV w ok d v F)(hb: ∀k,ok k→k<w.heap.size→w'.heap[k]? =w.heap[k]?):FlV w' ok d v F:=by obtain⟨xa,xc,ka,kc,e,h1,h2,h3,h4⟩:=h;exact⟨xa,xc,ka,kc,e,h1,strsO_same h2 hb,h3,kids_same hb h4⟩
theorem flV_below {w w':World}{ok:Nat→Prop}{d:Nat}{v:Value}{F:Fl}(h:FlV w ok d v F)(hb:Below w.heap.size w w'):FlV w' ok d v F:=flV_same h fun k _ hlt=>hb.block k hlt
theorem strsO_imp {w:World}{p q:Nat→Prop}{ao:Option Addr}{l:List ByteArray}(h:StrsO p w ao l)(hpq: ∀k,p k→k<w.heap.size→q k):StrsO q w ao l:=⟨h.1,fun hl a ha=>by obtain⟨b,o,e,hlt⟩:=strs_lt h.1 hl;have hok:=h.2 hl a ha;rw[ha]at e;cases e;exact hpq _ hok hlt⟩
theorem kids_imp {w:World}{p q:Nat→Prop}(hpq: ∀k,p k→k<w.heap.size→q k): ∀ {d:Nat} {ao:Option Addr} {l:List Fl},Kids w p d ao l→Kids w q d ao l
 | 0,_,_,h=>h
 | d+1,ao,l,h=>fun i hi=>by obtain⟨b,o,xa,xc,ka,kc,e,hok,hc,h1,h2,h3,h4⟩:=h i hi;exact⟨b,o,xa,xc,ka,kc,e,hpq b hok (cellsF_lt hc),hc,h1,strsO_imp h2 hpq,h3,kids_imp hpq h4⟩
theorem flV_imp {w:World}{p q:Nat→Prop}{d:Nat}{v:Value}{F:Fl}(h:FlV w p d v F)(hpq: ∀k,p k→k<w.heap.size→q k):FlV w q d v F:=by obtain⟨xa,xc,ka,kc,e,h1,h2,h3,h4⟩:=h;exact⟨xa,xc,ka,kc,e,h1,strsO_imp h2 hpq,h3,kids_imp hpq h4⟩
theorem flV_any {w:World}{p:Nat→Prop}{d:Nat}{v:Value}{F:Fl}(h:FlV w p d v F):FlV w anyB d v F:=flV_imp h fun _ _ _=>trivial
theorem kids_mono {w:World}{ok:Nat→Prop}: ∀ {d e:Nat} {ao:Option Addr} {l:List Fl},Kids w ok d ao l→d≤e→Kids w ok e ao l
 | 0,e,ao,l,h,_=>by have h2:l=[]:=h;subst h2;exact kids_nil w ok e ao
 | d+1,0,_,_,_,h=>absurd h (by omega)
 | d+1,e+1,ao,l,h,he=>fun i hi=>by obtain⟨b,o,xa,xc,ka,kc,e1,hok,hc,h1,h2,h3,h4⟩:=h i hi;exact⟨b,o,xa,xc,ka,kc,e1,hok,hc,h1,h2,h3,kids_mono h4 (by omega)⟩
theorem flV_mono {w:World}{ok:Nat→Prop}{d e:Nat}{v:Value}{F:Fl}(h:FlV w ok d v F)(he:d≤e):FlV w ok e v F:=by obtain⟨xa,xc,ka,kc,e1,h1,h2,h3,h4⟩:=h;exact⟨xa,xc,ka,kc,e1,h1,h2,h3,kids_mono h4 he⟩
theorem kid_at {w:World}{ok:Nat→Prop}{d:Nat}{ao:Option Addr}{l:List Fl}(h:Kids w ok (d+1) ao l)(i:Nat)(hi:i<l.length):
  ∃b o xa xc ka kc,ao=some ⟨b,o,none⟩∧CellsF w b (o+i*7) l[i] (.slice xa l[i].any.length xc) (.slice ka l[i].kids.length kc)∧FlV w ok d (flV l[i] (.slice xa l[i].any.length xc) (.slice ka l[i].kids.length kc)) l[i]:=by
 obtain⟨b,o,xa,xc,ka,kc,e,hok,hc,h1,h2,h3,h4⟩:=h i hi;exact⟨b,o,xa,xc,ka,kc,e,hc,xa,xc,ka,kc,rfl,h1,h2,h3,h4⟩
abbrev FV:=Fl × Value × Value
def fcell (x:FV):List Value:=[.int .i64 x.1.kind,.string x.1.attr,.string x.1.value,.string x.1.first,x.2.1,.string x.1.last,x.2.2]
theorem infoFl:(Try.prog.info? 25).map (fun i=>(i.zero,i.size,i.bytes))=some (some (.agg #[.int .i64 0,.string ByteArray.empty,.string ByteArray.empty,.string ByteArray.empty,.slice none 0 0,.string ByteArray.empty,.slice none 0 0]),7,120):=by kernel_rfl
theorem flV_slices {w:World}{ok:Nat→Prop}{d:Nat}{F:Fl}{av kv:Value}(h:FlV w ok d (flV F av kv) F): ∃xa xc ka kc,av= .slice xa F.any.length xc∧kv= .slice ka F.kids.length kc∧OkA xa F.any.length xc∧StrsO ok w xa F.any∧F.kids.length≤kc∧Kids w ok d ka F.kids:=by obtain⟨xa,xc,ka,kc,e,h1,h2,h3,h4⟩:=h;unfold flV at e;simp only[Value.agg.injEq,Array.mk.injEq,List.cons.injEq,and_true,true_and]at e;exact⟨xa,xc,ka,kc,e.1,e.2,h1,h2,h3,h4⟩
end flw
end Go.Proofs.Ytffkghkkobmhaaa
