/- One text out of several: FtK, FtL, FtZ, FilT, Same, FilZ, FtPr, StrsOf, EntO, OpenS, FilO. -/
import Derived.Defers
import Derived.Recover
import Derived.Laws.Pointers
import Derived.Test.YtffkghkkobmhaaaP5
import Derived.Test.YtffkghkkobmhaaaP9
import Derived.Laws.Cover1
import Derived.Laws.OwnMore
import Derived.LoopN
import Derived.Deep.MidRow
import Derived.Lib.Small
import Derived.Lib.Walk
import Derived.Test.YtffkghkkobmhaaaP4
import Derived.Test.YtffkghkkobmhaaaP1
import Derived.Test.YtffkghkkobmhaaaP2
import Derived.Test.YtffkghkkobmhaaaP6
import Derived.SliceStrings
import Derived.Lib.SmallJoins
import Derived.Deep.Slices
import Derived.Deep.Fields
import Derived.ChangeSame
set_option linter.unusedVariables false
set_option linter.unusedSimpArgs false
set_option maxRecDepth 20000
set_option maxHeartbeats 8000000
namespace Go.Proofs.Ytffkghkkobmhaaa
open Go.RowKit
namespace ftw
open ftp flp flw
open etw (tk)
theorem results_ccc {P:Program}{fn:Func}{p q r:Tmp}{ty tq tr:TypeId}(h:fn.results=#[.cell p ty,.cell q tq,.cell r tr])(tmps:Array Value)(w:World)(g b c:Nat)(t:TypeId)(cs:Array Value)(fr:Nat × Nat)(d:TypeDesc)(vq vr:Value)
  (hp:tmps.getD p undef= .pointer (some ⟨g,0,none⟩)) (hg:w.heap[g]? =some (.cells cs t fr)) (hu:P.underlying ty=some d) (hd:(match d with | .struct _ | .array _ _=>true | _=>false)=true) (hi:(P.info? ty).map (·.size)=some cs.size)
  (hq:tmps.getD q undef= .pointer (some ⟨b,0,none⟩)) (hlq:(loadVar tq ⟨b,0,none⟩).run P w= .ok vq w) (hr:tmps.getD r undef= .pointer (some ⟨c,0,none⟩)) (hlr:(loadVar tr ⟨c,0,none⟩).run P w= .ok vr w):
  (results fn tmps).run P w= .ok (.tuple #[.agg cs,vq,vr]) w:=by
 have hp':tmps[p]?.getD undef= .pointer (some ⟨g,0,none⟩):=by simpa using hp
 have hq':tmps[q]?.getD undef= .pointer (some ⟨b,0,none⟩):=by simpa using hq
 have hr':tmps[r]?.getD undef= .pointer (some ⟨c,0,none⟩):=by simpa using hr
 simp[results,h,hp',hq',hr',asAddr,run_loadVar_row w g t ty cs fr d hg hu hd hi,hlq,hlr]
structure Res3 (w:World)(b:Nat)(c0 c1 c2 c3 c4 c5 c6:Value)(k e:Int):Prop where
 f:R7 w b c0 c1 c2 c3 c4 c5 c6
 a:w.heap[b+1]? =some (.cells #[.int .i64 k] 3 (0,0))
 e:w.heap[b+1+1]? =some (.cells #[.int .i64 e] 28 (0,0))
theorem res3_below {w w':World}{b:Nat}{c0 c1 c2 c3 c4 c5 c6:Value}{k e:Int}(h:Res3 w b c0 c1 c2 c3 c4 c5 c6 k e)(hb:Below w.heap.size w w'):Res3 w' b c0 c1 c2 c3 c4 c5 c6 k e:=⟨r7_below h.f hb,(hb.block _ (kt.bld_lt h.a)).trans h.a,(hb.block _ (kt.bld_lt h.e)).trans h.e⟩
theorem res3_off {w w':World}{b p:Nat}{c0 c1 c2 c3 c4 c5 c6:Value}{k e:Int}(h:Res3 w b c0 c1 c2 c3 c4 c5 c6 k e)(h0:b+1+1<p)(ho:Off p w w'):Res3 w' b c0 c1 c2 c3 c4 c5 c6 k e:=⟨r7_off h.f (by omega) ho,(ho.block _ (kt.bld_lt h.a) (by omega)).trans h.a,(ho.block _ (kt.bld_lt h.e) (by omega)).trans h.e⟩
theorem res3_new (w:World):Res3 (((w.alloc (.cells #[.int .i64 0,.string ⟨#[]⟩,.string ⟨#[]⟩,.string ⟨#[]⟩,.slice none 0 0,.string ⟨#[]⟩,.slice none 0 0] 25)).alloc (.cells #[.int .i64 0] 3)).alloc (.cells #[.int .i64 0] 28)) w.heap.size (.int .i64 0) (.string ⟨#[]⟩) (.string ⟨#[]⟩) (.string ⟨#[]⟩) (.slice none 0 0) (.string ⟨#[]⟩) (.slice none 0 0) 0 0:=by
 have h1:=heap_alloc_new w (.cells #[.int .i64 0,.string ⟨#[]⟩,.string ⟨#[]⟩,.string ⟨#[]⟩,.slice none 0 0,.string ⟨#[]⟩,.slice none 0 0] 25);have h2:=heap_alloc_new (w.alloc (.cells #[.int .i64 0,.string ⟨#[]⟩,.string ⟨#[]⟩,.string ⟨#[]⟩,.slice none 0 0,.string ⟨#[]⟩,.slice none 0 0] 25)) (.cells #[.int .i64 0] 3);have h3:=heap_alloc_new ((w.alloc (.cells #[.int .i64 0,.string ⟨#[]⟩,.string ⟨#[]⟩,.string ⟨#[]⟩,.slice none 0 0,.string ⟨#[]⟩,.slice none 0 0] 25)).alloc (.cells #[.int .i64 0] 3)) (.cells #[.int .i64 0] 28);have e1:(w.alloc (.cells #[.int .i64 0,.string ⟨#[]⟩,.string ⟨#[]⟩,.string ⟨#[]⟩,.slice none 0 0,.string ⟨#[]⟩,.slice none 0 0] 25)).heap.size=w.heap.size+1:=by simp
 have e2:((w.alloc (.cells #[.int .i64 0,.string ⟨#[]⟩,.string ⟨#[]⟩,.string ⟨#[]⟩,.slice none 0 0,.string ⟨#[]⟩,.slice none 0 0] 25)).alloc (.cells #[.int .i64 0] 3)).heap.size=w.heap.size+1+1:=by simp
 refine⟨?_,?_,?_⟩
 ·show _=_;rw[Below.heap_alloc _ _ _ (by omega),Below.heap_alloc _ _ _ (by omega)];exact h1
 ·rw[Below.heap_alloc _ _ _ (by omega),←e1];exact h2
 ·rw[←e2];exact h3
theorem blk_cells7 {w:World}{g q:Nat}(hg:g≠q)(c0 c1 c2 c3 c4 c5 c6:Value):(w.setCells q 0 [c0,c1,c2,c3,c4,c5,c6]).heap[g]? =w.heap[g]? :=(Below.heap_setCell _ _ _ _ hg).trans ((Below.heap_setCell _ _ _ _ hg).trans ((Below.heap_setCell _ _ _ _ hg).trans ((Below.heap_setCell _ _ _ _ hg).trans ((Below.heap_setCell _ _ _ _ hg).trans ((Below.heap_setCell _ _ _ _ hg).trans (Below.heap_setCell _ _ _ _ hg))))))
theorem catch_idle (bf ba be:Nat)(w:World):
  CallsD Try.prog 15 #[.pointer (some ⟨bf,0,none⟩),.pointer (some ⟨ba,0,none⟩),.pointer (some ⟨be,0,none⟩)] .returning w fun e u' w'=>e= .returned (.tuple #[])∧u'= .returning∧w'=w:=by
 refine callsD_of_wpS Try.func15 rfl fun c₀ cs hu=> ?_;apply wpS_seq;apply wpS_region;simp[wpOpsS,go_sem,recoverD,hu,Try.ntmps15,Exit.thenS];apply wpS_seq;apply wpS_region;simp[wpOpsS,go_sem,Exit.thenS];refine wpS_cond (t:=false) (by simp[Act.eval,Array.replicate]) ?_;simp only[Bool.false_eq_true,if_false];refine wpS_of_wp (wp_skip ?_);cases c₀;simp_all [bodyPostS,results,Try.results15]
theorem drew_cells (b:Nat): ∀ (vs:List Value) (o:Nat) (w:World),w.drew.setCells b o vs=(w.setCells b o vs).drew
 | [],o,w=>rfl
 | v::vs,o,w=>by show(w.drew.setCell ⟨b,o,none⟩ v).setCells b (o+1) vs=((w.setCell ⟨b,o,none⟩ v).setCells b (o+1) vs).drew;rw[←drew_cells b vs (o+1)];rfl
theorem fault_is (v:Value)(xT:TypeId)(W:World):(Instr.typeAssert (.iface 37 v) xT 37 false).run Try.prog W= .ok v W:=by kernel_rfl
theorem step_store {P:Program}{w:World}{ops:Array Oper}{o:Oper}{a:Act}{K:Act→World→Prop}{Q:Exit→Act→World→Prop}{E:Prop}(hgd:o.guard=none)(ty:TypeId)(x y:Operand)(ho:o.op= .store ty x y)
  (b q:Nat) (cells:Array Value) (hx:a.eval x= .pointer (some ⟨b,q,none⟩)) (hy:a.eval y= .agg cells) (ht:w.there b q cells.size) (hi:(P.info? ty).map (·.size)=some cells.size) (h1:cells.all (·.oneCell')=true)
  (h:K (a.put o.dst undef) (w.setCells b q cells.toList)):if Region.wanted o (yielded ops a.tmps)=true then Oper.wp P o a w K Q else E:=by
 have hw:Region.wanted o (yielded ops a.tmps)=true:=by simp[Region.wanted,hgd]
 rw[if_pos hw];exact wp_store_mid ty x y ho b q cells hx hy ht hi h1 h
theorem catch_panicking (bf:Nat)(j:Nat)(older:List PanicEntry)(w:World)(c0 c1 c2 c3 c4 c5 c6:Value)(k e:Int)(h:Hid (Res3 w bf c0 c1 c2 c3 c4 c5 c6 k e)):
  CallsD Try.prog 15 #[.pointer (some ⟨bf,0,none⟩),.pointer (some ⟨bf+1,0,none⟩),.pointer (some ⟨bf+1+1,0,none⟩)] (.panicking ({v:= .iface 37 (.int .i64 (j:Int)),recovered:=false}::older)) w fun e u' w'=>
   e= .returned (.tuple #[])∧u'= .panicking ({v:= .iface 37 (.int .i64 (j:Int)),recovered:=true}::older)∧Below bf w w'∧Res3 w' bf (.int .i64 0) (.string ⟨#[]⟩) (.string ⟨#[]⟩) (.string ⟨#[]⟩) (.slice none 0 0) (.string ⟨#[]⟩) (.slice none 0 0) (j:Int) 4:=by
 refine callsD_of_wpS Try.func15 rfl fun c₀ cs hu=> ?_;apply wpS_seq;apply wpS_region;simp[wpOpsS,go_sem,recoverD,hu,Try.ntmps15,Exit.thenS];apply wpS_seq;apply wpS_region;simp[wpOpsS,go_sem,Exit.thenS];refine wpS_cond (t:=true) (by simp[Act.eval,Array.replicate]) ?_;simp only[if_true];refine wpS_of_wp ?_;have hta:=fault_is (.int .i64 (j:Int));have hf:=h.out.f;have hth:=r7_there hf;have HF1:R7 (w.setCells bf 0 [.int .i64 0,.string ⟨#[]⟩,.string ⟨#[]⟩,.string ⟨#[]⟩,.slice none 0 0,.string ⟨#[]⟩,.slice none 0 0]) bf (.int .i64 0) (.string ⟨#[]⟩) (.string ⟨#[]⟩) (.string ⟨#[]⟩) (.slice none 0 0) (.string ⟨#[]⟩) (.slice none 0 0):=r7_put hf _ _ _ _ _ _ _;have hA1:(w.setCells bf 0 [.int .i64 0,.string ⟨#[]⟩,.string ⟨#[]⟩,.string ⟨#[]⟩,.slice none 0 0,.string ⟨#[]⟩,.slice none 0 0]).heap[bf+1]? =some (.cells #[.int .i64 k] 3 (0,0)):=(blk_cells7 (by omega) _ _ _ _ _ _ _).trans h.out.a;have hE1:(w.setCells bf 0 [.int .i64 0,.string ⟨#[]⟩,.string ⟨#[]⟩,.string ⟨#[]⟩,.slice none 0 0,.string ⟨#[]⟩,.slice none 0 0]).heap[bf+1+1]? =some (.cells #[.int .i64 e] 28 (0,0)):=(blk_cells7 (by omega) _ _ _ _ _ _ _).trans h.out.e;obtain⟨w1,hw1⟩: ∃x,w.setCells bf 0 [.int .i64 0,.string ⟨#[]⟩,.string ⟨#[]⟩,.string ⟨#[]⟩,.slice none 0 0,.string ⟨#[]⟩,.slice none 0 0]=x:=⟨_,rfl⟩;have hB1:Below bf w w1:=by rw[←hw1];exact Lib.below_setCells _ (Nat.le_refl _) _ _ (Below.refl _ _)
 rw[hw1]at HF1 hA1 hE1;have ca:w1.cell? ⟨bf+1,0,none⟩=some (.int .i64 k):=(Lib.cell_of_heap hA1 0).trans rfl;have ce:w1.cell? ⟨bf+1+1,0,none⟩=some (.int .i64 e):=(Lib.cell_of_heap hE1 0).trans rfl;have fa:=Lib.frozen_of_heap hA1 0;have fe:=Lib.frozen_of_heap hE1 0;have hR:Res3 ((w1.setCell ⟨bf+1,0,none⟩ (.int .i64 (j:Int))).setCell ⟨bf+1+1,0,none⟩ (.int .i64 4)) bf (.int .i64 0) (.string ⟨#[]⟩) (.string ⟨#[]⟩) (.string ⟨#[]⟩) (.slice none 0 0) (.string ⟨#[]⟩) (.slice none 0 0) (j:Int) 4:=
  ⟨r7_other (r7_other HF1 (by omega) _) (by omega) _,(Below.heap_setCell _ _ _ _ (by show bf+1≠bf+1+1;omega)).trans (Joins.block_setCell hA1 _),Joins.block_setCell ((Below.heap_setCell _ _ _ _ (by show bf+1+1≠bf+1;omega)).trans hE1) _⟩
 have hB2:Below bf w ((w1.setCell ⟨bf+1,0,none⟩ (.int .i64 (j:Int))).setCell ⟨bf+1+1,0,none⟩ (.int .i64 4)):=(hB1.setCell (p:=⟨bf+1,0,none⟩) (by show bf≤bf+1;omega) _).setCell (p:=⟨bf+1+1,0,none⟩) (by show bf≤bf+1+1;omega) _;have HR:=Lib.hid hR;have HB2:=Lib.hid hB2;clear hR hB2 hB1 HF1 hA1 hE1 hf;change Code.wp _ _ _ {tmps:=#[.pointer (some ⟨bf,0,none⟩),.pointer (some ⟨bf+1,0,none⟩),.pointer (some ⟨bf+1+1,0,none⟩),.iface 37 (.int .i64 (j:Int)),.iface 37 (.int .i64 (j:Int)),.iface 37 (.int .i64 (j:Int)),.bool true,undef,undef,undef],defers:=[]} _;refine wp_region_held_drew (S:=fun _=>True) (by kernel_rfl) trivial (fun hHeld=> ?_);refine tk 0 ⟨some 7,_,_,_,_,_⟩ rfl ?_;refine tk 1 ⟨some 8,_,_,_,_,_⟩ rfl ?_;refine tk 2 ⟨some 9,_,_,_,_,_⟩ rfl ?_;refine etw.tc 3 ⟨none,_,_,_,_,_⟩ rfl (fun K hK=> ?_);refine step_store rfl 25 _ _ rfl bf 0 #[.int .i64 0,.string ⟨#[]⟩,.string ⟨#[]⟩,.string ⟨#[]⟩,.slice none 0 0,.string ⟨#[]⟩,.slice none 0 0] rfl rfl ((World.there_drew _ _ _ _).2 hth) szFl (by simp[Value.oneCell']) ?_;rw[drew_cells,hw1];refine hK.out _ _ trivial (fun hHeld=> ?_);clear hK;try simp only[Act.put,List.setIfInBounds_toArray,List.set_cons_zero,List.set_cons_succ]
 refine etw.tc 4 ⟨none,_,_,_,_,_⟩ rfl (fun K hK=> ?_);go_simp;refine hK.out _ _ trivial (fun hHeld=> ?_);clear hK;try simp only[Act.put,List.setIfInBounds_toArray,List.set_cons_zero,List.set_cons_succ]
 refine etw.tc 5 ⟨none,_,_,_,_,_⟩ rfl (fun K hK=> ?_);go_simp;refine hK.out _ _ trivial (fun hHeld=> ?_);clear hK;try simp only[Act.put,List.setIfInBounds_toArray,List.set_cons_zero,List.set_cons_succ]
 refine wpAnyH_done (by kernel_rfl) ?_ _;exact⟨rfl,_,rfl,_,results_none rfl _ _ _,rfl,rfl,HB2.out.drew,HR.out.f,HR.out.a,HR.out.e⟩
theorem load_int {w:World}{b:Nat}{k:Int}{t:TypeId}(h:w.heap[b]? =some (.cells #[.int .i64 k] t (0,0))):(loadVar 3 ⟨b,0,none⟩).run Try.prog w= .ok (.int .i64 k) w:=by have c:w.cell? ⟨b,0,none⟩=some (.int .i64 k):=(Lib.cell_of_heap h 0).trans rfl;go_simp
theorem load_err {w:World}{b:Nat}{k:Int}{t:TypeId}(h:w.heap[b]? =some (.cells #[.int .i64 k] t (0,0))):(loadVar 28 ⟨b,0,none⟩).run Try.prog w= .ok (.int .i64 k) w:=by have c:w.cell? ⟨b,0,none⟩=some (.int .i64 k):=(Lib.cell_of_heap h 0).trans rfl;go_simp
theorem parse_res {w:World}{b:Nat}{c0 c1 c2 c3 c4 c5 c6:Value}{k e:Int}(h:Res3 w b c0 c1 c2 c3 c4 c5 c6 k e)(tmps:Array Value)(h2:tmps.getD 2 undef= .pointer (some ⟨b,0,none⟩))(h3:tmps.getD 3 undef= .pointer (some ⟨b+1,0,none⟩))(h4:tmps.getD 4 undef= .pointer (some ⟨b+1+1,0,none⟩)):
  (results Try.f8 tmps).run Try.prog w= .ok (.tuple #[.agg #[c0,c1,c2,c3,c4,c5,c6],.int .i64 k,.int .i64 e]) w:=
 results_ccc rfl tmps w b (b+1) (b+1+1) 25 #[c0,c1,c2,c3,c4,c5,c6] (0,0) _ _ _ h2 h.f Try.underlying25 rfl (by kernel_rfl) h3 (load_int h.a) h4 (load_err h.e)
def ParseE (w:World)(s:ByteArray)(e:Ending)(w':World):Prop:=Below w.heap.size w w'∧ ∃v at_,e= .returned (.tuple #[v,.int .i64 at_,.int .i64 (parseT (tx s)).2])∧FlX w' v (parseT (tx s)).1∧((parseT (tx s)).2=0→at_=0)
theorem noFl_x (w:World):FlX w (.agg #[.int .i64 0,.string ⟨#[]⟩,.string ⟨#[]⟩,.string ⟨#[]⟩,.slice none 0 0,.string ⟨#[]⟩,.slice none 0 0]) noFl:=⟨0,none,0,none,0,rfl,⟨Nat.le_refl _,fun _=>rfl⟩,⟨fun i hi=>absurd hi (Nat.not_lt_zero i),fun h=>absurd rfl h⟩,Nat.le_refl _,rfl⟩
theorem parseE_no {w w':World}{s:ByteArray}{f:Int}{k:Int}(h:parseT (tx s)=(noFl,f))(hf:f≠0)(hb:Below w.heap.size w w'):ParseE w s (.returned (.tuple #[.agg #[.int .i64 0,.string ⟨#[]⟩,.string ⟨#[]⟩,.string ⟨#[]⟩,.slice none 0 0,.string ⟨#[]⟩,.slice none 0 0],.int .i64 k,.int .i64 f])) w':=by
 refine⟨hb,.agg #[.int .i64 0,.string ⟨#[]⟩,.string ⟨#[]⟩,.string ⟨#[]⟩,.slice none 0 0,.string ⟨#[]⟩,.slice none 0 0],k,?_,?_,?_⟩
 ·rw[h]
 ·rw[h];exact noFl_x _
 ·rw[h];exact fun e=>absurd e hf
theorem parseT_long {s:ByteArray}(h:8000<s.size):parseT (tx s)=(noFl,5):=by unfold parseT;rw[if_pos (by rw[show(tx s).length=s.size from kt.size_len s];exact h)]
theorem parseT_one {s:ByteArray}(h: ¬8000<s.size):parseT (tx s)=match oneP (s.size+1) (rest s 0)with
 | some (F,[])=>if rightF F=true then(F,0)else(noFl,4)
 | _=>(noFl,4):=by
 have hl:(tx s).length=s.size:=kt.size_len s;unfold parseT;rw[if_neg (by rw[hl];exact h),hl];rfl
theorem set_res {w:World}{b:Nat}{c0 c1 c2 c3 c4 c5 c6:Value}{k e:Int}(h:Res3 w b c0 c1 c2 c3 c4 c5 c6 k e)(d0 d1 d2 d3 d4 d5 d6:Value)(k' e':Int):Res3 (((w.setCells b 0 [d0,d1,d2,d3,d4,d5,d6]).setCell ⟨b+1,0,none⟩ (.int .i64 k')).setCell ⟨b+1+1,0,none⟩ (.int .i64 e')) b d0 d1 d2 d3 d4 d5 d6 k' e':=by have HF1:=r7_put h.f d0 d1 d2 d3 d4 d5 d6;have hA1:=(blk_cells7 (w:=w) (g:=b+1) (q:=b) (by omega) d0 d1 d2 d3 d4 d5 d6).trans h.a;have hE1:=(blk_cells7 (w:=w) (g:=b+1+1) (q:=b) (by omega) d0 d1 d2 d3 d4 d5 d6).trans h.e;exact⟨r7_other (r7_other HF1 (by omega) _) (by omega) _,(Below.heap_setCell _ _ _ _ (by show b+1≠b+1+1;omega)).trans (Joins.block_setCell hA1 _),Joins.block_setCell ((Below.heap_setCell _ _ _ _ (by show b+1+1≠b+1;omega)).trans hE1) _⟩
theorem set_below {w0 w:World}{b:Nat}(h:Below b w0 w)(d0 d1 d2 d3 d4 d5 d6 u v:Value):Below b w0 (((w.setCells b 0 [d0,d1,d2,d3,d4,d5,d6]).setCell ⟨b+1,0,none⟩ u).setCell ⟨b+1+1,0,none⟩ v):=((Lib.below_setCells _ (Nat.le_refl _) _ _ h).setCell (p:=⟨b+1,0,none⟩) (by show b≤b+1;omega) _).setCell (p:=⟨b+1+1,0,none⟩) (by show b≤b+1+1;omega) _
end ftw
open Go.RowKit
namespace ftw
open ftp flp flw
theorem res_cells7 {w:World}{b:Nat}{c0 c1 c2 c3 c4 c5 c6:Value}{k e:Int}(h:Res3 w b c0 c1 c2 c3 c4 c5 c6 k e)(d0 d1 d2 d3 d4 d5 d6:Value):Res3 (w.setCells b 0 [d0,d1,d2,d3,d4,d5,d6]) b d0 d1 d2 d3 d4 d5 d6 k e:=⟨r7_put h.f _ _ _ _ _ _ _,(blk_cells7 (by omega) _ _ _ _ _ _ _).trans h.a,(blk_cells7 (by omega) _ _ _ _ _ _ _).trans h.e⟩
theorem parse_any (s:ByteArray)(w:World)(hs:s.size≤140737488351232):Calls Try.prog 8 #[.string s] w (ParseE w s):=by
 have hmf: ∀ (fn:Fn) (first cap:Array Value) (w:World),(Instr.makeFunc fn first cap).run Try.prog w= .ok (.func fn first cap) w:=fun _ _ _ _=>rfl;obtain⟨b,hb⟩: ∃b,w.heap.size=b:=⟨_,rfl⟩;obtain⟨W1,hW1⟩: ∃W,((w.alloc (.cells #[.int .i64 0,.string ⟨#[]⟩,.string ⟨#[]⟩,.string ⟨#[]⟩,.slice none 0 0,.string ⟨#[]⟩,.slice none 0 0] 25)).alloc (.cells #[.int .i64 0] 3)).alloc (.cells #[.int .i64 0] 28)=W:=⟨_,rfl⟩;have HR1:Hid (Res3 W1 b (.int .i64 0) (.string ⟨#[]⟩) (.string ⟨#[]⟩) (.string ⟨#[]⟩) (.slice none 0 0) (.string ⟨#[]⟩) (.slice none 0 0) 0 0):=by rw[←hW1,←hb];exact res3_new w
 have hB1:Below w.heap.size w W1:=by rw[←hW1];exact((((Below.refl _ _).alloc (Nat.le_refl _) _).alloc (by simp) _).alloc (by simp;omega) _)
 have HB1:=Lib.hid hB1;have HBB:=Lib.hid hb;clear hB1;by_cases hlong:8000<s.size
 ·have HT:=Lib.hid (parseT_long hlong);have hl:(8000:Int)<(s.size:Int):=by omega
  have hth:=r7_there HR1.out.f;have HR2:=Lib.hid (set_res HR1.out (.int .i64 0) (.string ⟨#[]⟩) (.string ⟨#[]⟩) (.string ⟨#[]⟩) (.slice none 0 0) (.string ⟨#[]⟩) (.slice none 0 0) 0 5);have HB2:=Lib.hid (set_below (b:=b) (HB1.out.mono (Nat.le_of_eq HBB.out.symm)) (.int .i64 0) (.string ⟨#[]⟩) (.string ⟨#[]⟩) (.string ⟨#[]⟩) (.slice none 0 0) (.string ⟨#[]⟩) (.slice none 0 0) (.int .i64 0) (.int .i64 5));have hR2:=res_cells7 HR1.out (.int .i64 0) (.string ⟨#[]⟩) (.string ⟨#[]⟩) (.string ⟨#[]⟩) (.slice none 0 0) (.string ⟨#[]⟩) (.slice none 0 0);obtain⟨W2,hW2⟩: ∃x,W1.setCells b 0 [.int .i64 0,.string ⟨#[]⟩,.string ⟨#[]⟩,.string ⟨#[]⟩,.slice none 0 0,.string ⟨#[]⟩,.slice none 0 0]=x:=⟨_,rfl⟩;rw[hW2]at hR2 HR2 HB2;have ca:W2.cell? ⟨b+1,0,none⟩=some (.int .i64 0):=(Lib.cell_of_heap hR2.a 0).trans rfl;have ce:W2.cell? ⟨b+1+1,0,none⟩=some (.int .i64 0):=(Lib.cell_of_heap hR2.e 0).trans rfl;have fa:=Lib.frozen_of_heap hR2.a 0;have fe:=Lib.frozen_of_heap hR2.e 0;clear hR2;go_enter_defers Try.func8,Try.ntmps8;go_wp2_with (guard_target=~ (wpList _ _ _ _ _ _);refine wpList_store_mid rfl 25 _ _ rfl b 0 #[.int .i64 0,.string ⟨#[]⟩,.string ⟨#[]⟩,.string ⟨#[]⟩,.slice none 0 0,.string ⟨#[]⟩,.slice none 0 0] rfl rfl hth szFl (by simp[Value.oneCell']) ?_;clear hth);exact⟨_,parse_res HR2.out _ rfl rfl rfl,parseE_no HT.out (by decide) (HB2.out.mono (Nat.le_of_eq HBB.out))⟩
 ·have hs8:s.size≤8000:=by omega
  have HT:=Lib.hid (parseT_one hlong);have hl: ¬ (8000:Int)<(s.size:Int):=by omega
  obtain⟨W2,hW2⟩: ∃W,W1.alloc (.cells #[.string s,.int .i64 0] 40)=W:=⟨_,rfl⟩;obtain⟨p,hp⟩: ∃p,W1.heap.size=p:=⟨_,rfl⟩;have HS2:Hid (ScB W2 p s 0):=by rw[←hW2,←hp];have:=sc_new W1 s 0;exact Lib.hid (by simpa using this)
  have hB2:Below W1.heap.size W1 W2:=by rw[←hW2];exact(Below.refl _ _).alloc (Nat.le_refl _) _
  have HR2:=Lib.hid (res3_below HR1.out hB2);have hbp:b+1+1<p:=by rw[←hp];exact kt.bld_lt HR1.out.e
  have HB2:Hid (Below b w W2):=(HB1.out.trans (hB2.mono HB1.out.size)).mono (Nat.le_of_eq hb.symm);have HFI:=filter_any (s.size+1) p s 0 1 W2 HS2 (Nat.zero_le _) (by omega) (by omega) (by omega);rw[show((1:Nat):Int)=1 from rfl]at HFI;have HF:=Lib.hid HFI;have hpW2:p<W2.heap.size:=sc_lt HS2.out;clear HFI hB2;go_enter_defers Try.func8,Try.ntmps8;go_wp2_with fail;refine HF.out.mono ?_;rintro e w3 ⟨hO3,hE⟩;have HR3:=Lib.hid (res3_off HR2.out hbp hO3);have hbW2:b≤W2.heap.size:=by omega
  have HB3:Hid (Below b w w3):=HB2.out.trans (off_Below hO3 hbW2 (by omega));clear HF hW1 hW2 hp HR1 HB1 HR2 HB2 HS2;obtain⟨OL,hOL⟩: ∃OL,oneP (s.size+1) (rest s 0)=OL:=⟨_,rfl⟩;have HOL:=Lib.hid hOL;rw[hOL]at hE HT;clear hOL;cases OL with
  | none=>obtain⟨j,hj,rfl⟩:=hE;refine leaves_cons (f:=15) (args:=#[.pointer (some ⟨b,0,none⟩),.pointer (some ⟨b+1,0,none⟩),.pointer (some ⟨b+1+1,0,none⟩)]) (by simp) (by simp[go_sem]) ?_;refine(catch_panicking b j [] w3 _ _ _ _ _ _ _ 0 0 HR3).mono ?_;rintro e u' wz ⟨rfl,rfl,hBz,hRz⟩;exact⟨_,parse_res hRz _ rfl rfl rfl,parseE_no HT.out (by decide) ((HB3.out.trans hBz).mono (Nat.le_of_eq HBB.out))⟩
  | some qq=>
   obtain⟨F,r2⟩:=qq;obtain⟨v,K,rfl,hV,hK,hr,hS⟩:=hE;simp only at hV hr;subst hr;have HS3:=Lib.hid hS;have HV3:=Lib.hid hV;have hFF:Hid (FitX F):=Lib.hid ⟨_,(one_fit _ _ _ _ (by rw[rest_len];omega) HOL.out).1⟩;obtain⟨xa,xc,ka,kc,rfl,_⟩:=hV;have hth:=r7_there HR3.out.f;have HR4:=Lib.hid (res_cells7 HR3.out (.int .i64 F.kind) (.string F.attr) (.string F.value) (.string F.first) (.slice xa F.any.length xc) (.string F.last) (.slice ka F.kids.length kc));have HB4:Hid (Below b w (w3.setCells b 0 [.int .i64 F.kind,.string F.attr,.string F.value,.string F.first,.slice xa F.any.length xc,.string F.last,.slice ka F.kids.length kc])):=Lib.below_setCells _ (Nat.le_refl _) _ _ HB3.out;have HV4:=Lib.hid (flN_cells7 (g:=b) HV3.out (by omega) (.int .i64 F.kind) (.string F.attr) (.string F.value) (.string F.first) (.slice xa F.any.length xc) (.string F.last) (.slice ka F.kids.length kc));have HS4:=Lib.hid (sc_cells7 (g:=b) HS3.out (by omega) (.int .i64 F.kind) (.string F.attr) (.string F.value) (.string F.first) (.slice xa F.any.length xc) (.string F.last) (.slice ka F.kids.length kc));unfold flV at HV4 ⊢;obtain⟨W4,hW4⟩: ∃x,w3.setCells b 0 [.int .i64 F.kind,.string F.attr,.string F.value,.string F.first,.slice xa F.any.length xc,.string F.last,.slice ka F.kids.length kc]=x:=⟨_,rfl⟩;rw[hW4]at HR4 HB4 HV4 HS4;obtain⟨c0,c1,f1⟩:=sc_cells HS4.out;clear HS3 HV3 HR3 HB3 hS;by_cases hKl:K<s.size
   ·have hKI:(K:Int)<(s.size:Int):=(by omega);have HTN:Hid (parseT (tx s)=(noFl,4)):=(by show _=_;rw[HT.out,rest_cons hKl]);go_wp2_with (guard_target=~ (wpList _ _ _ _ _ _);refine wpList_store_mid rfl 25 _ _ rfl b 0 #[.int .i64 F.kind,.string F.attr,.string F.value,.string F.first,.slice xa F.any.length xc,.string F.last,.slice ka F.kids.length kc] rfl rfl hth szFl (by simp[Value.oneCell']) ?_;clear hth);refine leaves_cons (f:=15) (args:=#[.pointer (some ⟨b,0,none⟩),.pointer (some ⟨b+1,0,none⟩),.pointer (some ⟨b+1+1,0,none⟩)]) (by simp) (by simp[go_sem]) ?_;refine(catch_panicking b K [] W4 _ _ _ _ _ _ _ 0 0 HR4).mono ?_;rintro e u' wz ⟨rfl,rfl,hBz,hRz⟩;exact⟨_,parse_res hRz _ rfl rfl rfl,parseE_no HTN.out (by decide) ((HB4.out.trans hBz).mono (Nat.le_of_eq HBB.out))⟩
   ·obtain rfl:K=s.size:=(by omega);have HTR:Hid (parseT (tx s)=if rightF F=true then(F,0)else(noFl,4)):=(by show _=_;rw[HT.out,rest_end]);have HRT:=Lib.hid (right_any F _ W4 (Lib.hid ⟨_,flV_any HV4.out⟩) hFF);unfold flV at HRT;obtain⟨k0,k1,k2,k3,k4,k5,k6⟩:=r7_cells HR4.out.f;obtain⟨rb,hrb⟩: ∃x,rightF F=x:=⟨_,rfl⟩;rw[hrb]at HRT HTR;clear hKl hrb;go_wp2_with (guard_target=~ (wpList _ _ _ _ _ _);refine wpList_store_mid rfl 25 _ _ rfl b 0 #[.int .i64 F.kind,.string F.attr,.string F.value,.string F.first,.slice xa F.any.length xc,.string F.last,.slice ka F.kids.length kc] rfl rfl hth szFl (by simp[Value.oneCell']) ?_;clear hth);refine HRT.out.mono ?_;rintro e w5 ⟨rfl,hB5⟩;have HR5:=Lib.hid (res3_below HR4.out hB5);have HB5:Hid (Below b w w5):=HB4.out.trans (hB5.mono (by have:=r7_lt HR4.out.f;omega));have HV5:=Lib.hid (flV_below HV4.out hB5);clear hB5 HRT HR4 HB4 HV4 HS4 c0 c1 f1 k0 k1 k2 k3 k4 k5 k6;obtain⟨k0,k1,k2,k3,k4,k5,k6⟩:=r7_cells HR5.out.f;cases rb with
    | false=>have HTN:Hid (parseT (tx s)=(noFl,4)):=HTR.out;have hth2:=r7_there HR5.out.f;have hR6:=res_cells7 HR5.out (.int .i64 0) (.string ⟨#[]⟩) (.string ⟨#[]⟩) (.string ⟨#[]⟩) (.slice none 0 0) (.string ⟨#[]⟩) (.slice none 0 0);have HR7:=Lib.hid (set_res HR5.out (.int .i64 0) (.string ⟨#[]⟩) (.string ⟨#[]⟩) (.string ⟨#[]⟩) (.slice none 0 0) (.string ⟨#[]⟩) (.slice none 0 0) (s.size:Int) 4);have HB7:=Lib.hid (set_below (b:=b) HB5.out (.int .i64 0) (.string ⟨#[]⟩) (.string ⟨#[]⟩) (.string ⟨#[]⟩) (.slice none 0 0) (.string ⟨#[]⟩) (.slice none 0 0) (.int .i64 (s.size:Int)) (.int .i64 4));have HV7:=Lib.hid (flN_set (g:=b+1+1) (i:=0) (u:= .int .i64 4) (flN_set (g:=b+1) (i:=0) (u:= .int .i64 (s.size:Int)) (flN_cells7 (g:=b) HV5.out (by omega) (.int .i64 0) (.string ⟨#[]⟩) (.string ⟨#[]⟩) (.string ⟨#[]⟩) (.slice none 0 0) (.string ⟨#[]⟩) (.slice none 0 0)) (by omega)) (by omega));obtain⟨W6,hW6⟩: ∃x,w5.setCells b 0 [.int .i64 0,.string ⟨#[]⟩,.string ⟨#[]⟩,.string ⟨#[]⟩,.slice none 0 0,.string ⟨#[]⟩,.slice none 0 0]=x:=⟨_,rfl⟩;rw[hW6]at hR6 HR7 HB7 HV7;have da:W6.cell? ⟨b+1,0,none⟩=some (.int .i64 0):=(Lib.cell_of_heap hR6.a 0).trans rfl;have de:W6.cell? ⟨b+1+1,0,none⟩=some (.int .i64 0):=(Lib.cell_of_heap hR6.e 0).trans rfl;have ga:=Lib.frozen_of_heap hR6.a 0;have ge:=Lib.frozen_of_heap hR6.e 0;clear hR6;go_wp2_with (guard_target=~ (wpList _ _ _ _ _ _);refine wpList_store_mid rfl 25 _ _ rfl b 0 #[.int .i64 0,.string ⟨#[]⟩,.string ⟨#[]⟩,.string ⟨#[]⟩,.slice none 0 0,.string ⟨#[]⟩,.slice none 0 0] rfl rfl hth2 szFl (by simp[Value.oneCell']) ?_;clear hth2);refine leaves_cons (f:=15) (args:=#[.pointer (some ⟨b,0,none⟩),.pointer (some ⟨b+1,0,none⟩),.pointer (some ⟨b+1+1,0,none⟩)]) (by simp) (by simp[go_sem]) ?_;refine(catch_idle b (b+1) (b+1+1) _).mono ?_;rintro e u' wz ⟨rfl,rfl,rfl⟩;exact⟨_,parse_res HR7.out _ rfl rfl rfl,parseE_no HTN.out (by decide) (HB7.out.mono (Nat.le_of_eq HBB.out))⟩
    | true=>
     have HTN:Hid (parseT (tx s)=(F,0)):=HTR.out;have hth2:=r7_there HR5.out.f;have hR6:=res_cells7 HR5.out (.int .i64 F.kind) (.string F.attr) (.string F.value) (.string F.first) (.slice xa F.any.length xc) (.string F.last) (.slice ka F.kids.length kc);have HR7:=Lib.hid (set_res HR5.out (.int .i64 F.kind) (.string F.attr) (.string F.value) (.string F.first) (.slice xa F.any.length xc) (.string F.last) (.slice ka F.kids.length kc) 0 0);have HB7:=Lib.hid (set_below (b:=b) HB5.out (.int .i64 F.kind) (.string F.attr) (.string F.value) (.string F.first) (.slice xa F.any.length xc) (.string F.last) (.slice ka F.kids.length kc) (.int .i64 0) (.int .i64 0));have HV7:=Lib.hid (flN_set (g:=b+1+1) (i:=0) (u:= .int .i64 0) (flN_set (g:=b+1) (i:=0) (u:= .int .i64 0) (flN_cells7 (g:=b) HV5.out (by omega) (.int .i64 F.kind) (.string F.attr) (.string F.value) (.string F.first) (.slice xa F.any.length xc) (.string F.last) (.slice ka F.kids.length kc)) (by omega)) (by omega));obtain⟨W6,hW6⟩: ∃x,w5.setCells b 0 [.int .i64 F.kind,.string F.attr,.string F.value,.string F.first,.slice xa F.any.length xc,.string F.last,.slice ka F.kids.length kc]=x:=⟨_,rfl⟩;rw[hW6]at hR6 HR7 HB7 HV7;have da:W6.cell? ⟨b+1,0,none⟩=some (.int .i64 0):=(Lib.cell_of_heap hR6.a 0).trans rfl;have de:W6.cell? ⟨b+1+1,0,none⟩=some (.int .i64 0):=(Lib.cell_of_heap hR6.e 0).trans rfl;have ga:=Lib.frozen_of_heap hR6.a 0;have ge:=Lib.frozen_of_heap hR6.e 0;clear hR6;go_wp2_with (guard_target=~ (wpList _ _ _ _ _ _);refine wpList_store_mid rfl 25 _ _ rfl b 0 #[.int .i64 F.kind,.string F.attr,.string F.value,.string F.first,.slice xa F.any.length xc,.string F.last,.slice ka F.kids.length kc] rfl rfl hth2 szFl (by simp[Value.oneCell']) ?_;clear hth2);refine leaves_cons (f:=15) (args:=#[.pointer (some ⟨b,0,none⟩),.pointer (some ⟨b+1,0,none⟩),.pointer (some ⟨b+1+1,0,none⟩)]) (by simp) (by simp[go_sem]) ?_;refine(catch_idle b (b+1) (b+1+1) _).mono ?_;rintro e u' wz ⟨rfl,rfl,rfl⟩;refine⟨_,parse_res HR7.out _ rfl rfl rfl,HB7.out.mono (Nat.le_of_eq HBB.out),.agg #[.int .i64 F.kind,.string F.attr,.string F.value,.string F.first,.slice xa F.any.length xc,.string F.last,.slice ka F.kids.length kc],0,?_,?_,fun _=>rfl⟩
     ·rw[HTN.out]
     ·rw[HTN.out];exact⟨_,flV_any HV7.out⟩
end ftw
open Go.RowKit
namespace ftw
open ftp flp flw
def awS:ByteArray:=⟨#[40,38,40,99,110,61,97,42,41,40,33,40,115,110,61,92,50,56,41,41,41]⟩
def awF0:Fl:= .mk 4 ⟨#[99,110]⟩ ⟨#[]⟩ ⟨#[97]⟩ [] ⟨#[]⟩ []
def awF1:Fl:= .mk 3 ⟨#[115,110]⟩ ⟨#[40]⟩ ⟨#[]⟩ [] ⟨#[]⟩ []
def awF:Fl:=both 0 [awF0,notF awF1]
theorem aw_parse:parseT (tx awS)=(awF,0):=by kernel_rfl
theorem aw_print:printF awF=(tx awS,0):=by kernel_rfl
theorem aw_fit:FitX awF:=by have:=parse_fit (s:=tx awS);rw[aw_parse]at this;exact this
theorem awake20_any (w:World):Calls Try.prog 4 #[] w fun e w'=>e= .returned (.bool true)∧Below w.heap.size w w':=by
 have HP:=Lib.hid (parse_any awS w (by decide));go_enter Try.func4,Try.ntmps4;go_wp2_with fail;refine HP.out.mono ?_;rintro e w1 ⟨hB1,v,at_,rfl,hX,hat⟩;rw[aw_parse]at hX hat ⊢;have hat0:at_=0:=hat rfl;subst hat0;obtain⟨xa,xc,ka,kc,rfl,_,hK,_,hkc⟩:=flX_form hX;have HB1:=Lib.hid hB1;have HX:=Lib.hid hX;obtain⟨b,o,ya,yc,la,lc,hao,hc,_⟩:=kidsX_at hK.out 0 (by decide);obtain⟨b',o',za,zc,ma,mc,hao',hc',hx'⟩:=kidsX_at hK.out 1 (by decide);rw[hao]at hao';injection hao' with hao';injection hao' with e1 e2;subst e1 e2 hao;obtain⟨_,_,_,_,he,_,hK',_,_⟩:=flX_form hx';unfold flV at he;simp only[Value.agg.injEq,Array.mk.injEq,List.cons.injEq,and_true,true_and,Value.slice.injEq]at he;obtain⟨_,rfl,_⟩:=he;obtain⟨g,q,xa2,xc2,ka2,kc2,hao2,hc2,_⟩:=kidsX_at hK'.out 0 (by decide);subst hao2;have q3:w1.cell? ⟨b,o+3,none⟩=some (.string ⟨#[97]⟩):=by have h:=hc.c3;rw[Nat.zero_mul,Nat.add_zero]at h;exact h
 have q6:w1.cell? ⟨b,o+7+6,none⟩=some (.slice (some ⟨g,q,none⟩) 1 mc):=by have h:=hc'.c6;rw[Nat.one_mul]at h;exact h
 have q2:w1.cell? ⟨g,q+2,none⟩=some (.string ⟨#[40]⟩):=by have h:=hc2.c2;rw[Nat.zero_mul,Nat.add_zero]at h;exact h
 have hv:flV (awF,(0:Int)).fst (.slice xa (awF,(0:Int)).fst.any.length xc) (.slice (some ⟨b,o,none⟩) (awF,(0:Int)).fst.kids.length kc)= .agg #[.int .i64 0,.string ⟨#[]⟩,.string ⟨#[]⟩,.string ⟨#[]⟩,.slice xa 0 xc,.string ⟨#[]⟩,.slice (some ⟨b,o,none⟩) 2 kc]:=rfl;rw[hv]at HX ⊢;dsimp only;have hkc2:2≤kc:=hkc;have hlb:b<w1.heap.size:=World.block_lt_of_cell? w1 _ q3;have hlg:g<w1.heap.size:=World.block_lt_of_cell? w1 _ q2;obtain⟨w2,hw2⟩: ∃x,w1.alloc (.cells #[.int .i64 0,.string ⟨#[]⟩,.string ⟨#[]⟩,.string ⟨#[]⟩,.slice xa 0 xc,.string ⟨#[]⟩,.slice (some ⟨b,o,none⟩) 2 kc] 25)=x:=⟨_,rfl⟩;have hB2:Below w1.heap.size w1 w2:=by rw[←hw2];exact(Below.refl _ _).alloc (Nat.le_refl _) _
 have HR2:Hid (R7 w2 w1.heap.size (.int .i64 0) (.string ⟨#[]⟩) (.string ⟨#[]⟩) (.string ⟨#[]⟩) (.slice xa 0 xc) (.string ⟨#[]⟩) (.slice (some ⟨b,o,none⟩) 2 kc)):=by rw[←hw2];exact r7_new _ _ _ _ _ _ _ _
 have HPR:=print_any awF _ w2 (Lib.hid (flX_below HX.out hB2)) (Lib.hid aw_fit);rw[aw_print]at HPR;have HPR:=Lib.hid HPR;have hq3:=(hB2.cell (p:=⟨b,o+3,none⟩) hlb).trans q3;have hq6:=(hB2.cell (p:=⟨b,o+7+6,none⟩) hlb).trans q6;have hq2:=(hB2.cell (p:=⟨g,q+2,none⟩) hlg).trans q2;have HB2:=Lib.hid (HB1.out.trans (hB2.mono HB1.out.size));have hlb2:b<w2.heap.size:=by have:=hB2.size;omega
 have hlg2:g<w2.heap.size:=by have:=hB2.size;omega
 have H3:=Lib.hid hq3;have H6:=Lib.hid hq6;have H2:=Lib.hid hq2;clear hB2 hB1 hc hc' hc2 hx' hK hK' hX q3 q6 q2 hq3 hq6 hq2 hv hat;obtain⟨k0,k1,k2,k3,k4,k5,k6⟩:=r7_cells HR2.out;obtain⟨pb,hpb⟩: ∃x,w1.heap.size=x:=⟨_,rfl⟩;have HR2':=HR2;rw[hpb]at HR2';clear HR2 k0 k1 k2 k3 k4 k5 k6;obtain⟨k0,k1,k2,k3,k4,k5,k6⟩:=r7_cells HR2'.out;go_wp2_with fail;refine HPR.out.mono ?_;rintro e w3 ⟨rfl,hB3⟩;have HB3:=Lib.hid (HB2.out.trans (hB3.mono HB2.out.size));have q3:=(hB3.cell (p:=⟨b,o+3,none⟩) hlb2).trans H3.out;have q6:=(hB3.cell (p:=⟨b,o+7+6,none⟩) hlb2).trans H6.out;have q2:=(hB3.cell (p:=⟨g,q+2,none⟩) hlg2).trans H2.out;have HR3:=Lib.hid (r7_below HR2'.out hB3);clear hB3 k0 k1 k2 k3 k4 k5 k6;obtain⟨k0,k1,k2,k3,k4,k5,k6⟩:=r7_cells HR3.out;have hbb:bb (tx awS)=awS:=bb_tx awS;dsimp only;rw[hbb];have haw:awS=⟨#[40,38,40,99,110,61,97,42,41,40,33,40,115,110,61,92,50,56,41,41,41]⟩:=rfl;go_wp2_with fail;go_ret;exact⟨rfl,HB3.out⟩
end ftw
open Go.RowKit
namespace flw
open flp atp atw etp etw
open tupw (Strs strs_below)
theorem cap_min (n:Nat):min (n:Int) 5001=((cap5 n:Nat):Int):=by unfold cap5;omega
theorem weigh_any: ∀ (d:Nat) (F:Fl) (v:Value) (n dp:Nat) (w:World),n≤5000→dp+d=61→Hid (FlX w v F)→
  Calls Try.prog 10 #[v,.int .i64 (n:Int),.int .i64 (dp:Int)] w fun e w'=>e= .returned (.int .i64 ((weighF d F n:Nat):Int))∧Below w.heap.size w w':=by
 intro d;induction d with
 | zero=>
  intro F v n dp w hn hd hv;obtain rfl:dp=61:=by omega
  obtain⟨xa,xc,ka,kc,rfl,HX,HK,hxc,hkc⟩:=flX_form hv.out;unfold flV;obtain⟨N,hN⟩: ∃N,F.kids.length=N:=⟨_,rfl⟩;have HN:=Lib.hid hN;obtain⟨M,hM⟩: ∃M,F.any.length=M:=⟨_,rfl⟩;have HM:=Lib.hid hM;rw[hN]at hkc ⊢;rw[hM]at hxc ⊢;clear hN hM;obtain⟨W1,hW1⟩: ∃W,w.alloc (.cells #[.int .i64 F.kind,.string F.attr,.string F.value,.string F.first,.slice xa M xc,.string F.last,.slice ka N kc] 25)=W:=⟨_,rfl⟩;have hB1:Below w.heap.size w W1:=by rw[←hW1];exact(Below.refl _ _).alloc (Nat.le_refl _) _
  have HF1:Hid (R7 W1 w.heap.size (.int .i64 F.kind) (.string F.attr) (.string F.value) (.string F.first) (.slice xa M xc) (.string F.last) (.slice ka N kc)):=by rw[←hW1];exact r7_new _ _ _ _ _ _ _ _
  obtain⟨k0,k1,k2,k3,k4,k5,k6⟩:=r7_cells HF1.out;have HB1:=Lib.hid hB1;have hs1:=hB1.size;clear hB1;go_enter Try.func10,Try.ntmps10;go_wp2_with fail;go_ret;exact⟨rfl,HB1.out⟩
 | succ d ih=>
  intro F v n dp w hn hd hv;have hdp: ¬ (60:Int)<(dp:Int):=by omega
  have hdp0:(dp:Int)≤60:=by omega
  have IH:Hid (∀ (G:Fl) (u:Value) (r:Nat) (W:World),r≤5000→FlX W u G→Calls Try.prog 10 #[u,.int .i64 (r:Int),.int .i64 ((dp:Int)+1)] W fun e w'=>e= .returned (.int .i64 ((weighF d G r:Nat):Int))∧Below W.heap.size W w'):=by intro G u r W hr hu;have:=ih G u r (dp+1) W hr (by omega) (Lib.hid hu);rw[show((dp+1:Nat):Int)=(dp:Int)+1 from by omega]at this;exact this
  have HLE:Hid (∀ (G:Fl) (r:Nat),r≤5000→weighF d G r≤60000):=fun G r h=>weigh_le d G r h;clear ih hd;have HR:Hid (weighF (d+1) F n=kidsW (weighF d) (anyW (n+headW F) F.any) F.kids):=rfl;obtain⟨R,hR⟩: ∃R,weighF (d+1) F n=R:=⟨_,rfl⟩;rw[hR]at HR ⊢;clear hR;have e1:=cap_min F.attr.size;have e2:=cap_min F.value.size;have e3:=cap_min F.first.size;have e4:=cap_min F.last.size;have b1:=cap5_le F.attr.size;have b2:=cap5_le F.value.size;have b3:=cap5_le F.first.size;have b4:=cap5_le F.last.size;have HH:Hid (headW F=1+cap5 F.attr.size+cap5 F.value.size+cap5 F.first.size+cap5 F.last.size):=rfl;generalize cap5 F.attr.size=a1 at e1 b1 HH;generalize cap5 F.value.size=a2 at e2 b2 HH;generalize cap5 F.first.size=a3 at e3 b3 HH;generalize cap5 F.last.size=a4 at e4 b4 HH;generalize headW F=h0 at HH HR;obtain⟨xa,xc,ka,kc,rfl,HX,HK,hxc,hkc⟩:=flX_form hv.out;unfold flV;obtain⟨N,hN⟩: ∃N,F.kids.length=N:=⟨_,rfl⟩;have HN:=Lib.hid hN;obtain⟨M,hM⟩: ∃M,F.any.length=M:=⟨_,rfl⟩;have HM:=Lib.hid hM;rw[hN]at hkc ⊢;rw[hM]at hxc ⊢;clear hN hM;obtain⟨W1,hW1⟩: ∃W,w.alloc (.cells #[.int .i64 F.kind,.string F.attr,.string F.value,.string F.first,.slice xa M xc,.string F.last,.slice ka N kc] 25)=W:=⟨_,rfl⟩;have hB1:Below w.heap.size w W1:=by rw[←hW1];exact(Below.refl _ _).alloc (Nat.le_refl _) _
  have HF1:Hid (R7 W1 w.heap.size (.int .i64 F.kind) (.string F.attr) (.string F.value) (.string F.first) (.slice xa M xc) (.string F.last) (.slice ka N kc)):=by rw[←hW1];exact r7_new _ _ _ _ _ _ _ _
  obtain⟨k0,k1,k2,k3,k4,k5,k6⟩:=r7_cells HF1.out;have HB1:=Lib.hid hB1;have hs1:=hB1.size;clear hB1;go_enter Try.func10,Try.ntmps10;go_wp2_with fail;clear k0 k1 k2 k3 k4 k5 k6 e1 e2 e3 e4;go_loopw [1,7] (fun lv iv wr=> ∃ (i a:Nat),i≤M∧i≤a∧a≤26000∧lv= .int .i64 (a:Int)∧iv= .int .i64 (i:Int)∧Hid (Below w.heap.size w wr)∧Hid (R7 wr w.heap.size (.int .i64 F.kind) (.string F.attr) (.string F.value) (.string F.first) (.slice xa M xc) (.string F.last) (.slice ka N kc))∧Hid (R=kidsW (weighF d) (anyW a (F.any.drop i)) F.kids)) (fun _ iv _=>M- (intOf iv).toNat);case atStart=>exact⟨0,n+h0,Nat.zero_le _,Nat.zero_le _,(by have:=HH.out;omega),congrArg (Value.int .i64) (by have:=HH.out;omega),rfl,HB1.out,HF1.out,HR.out⟩
  case round=>
   obtain⟨i,a,hi,hia,ha,rfl,rfl,hB,hT,hJ⟩:=hrel;have HBw:=hB;have hsw:=hB.out.size;clear hB;obtain⟨k0,k1,k2,k3,k4,k5,k6⟩:=r7_cells hT.out;by_cases hlt:i<M
   ·have hltI:(i:Int)<(M:Int):=(by omega);by_cases h5:a≤5000
    ·have h5I:(a:Int)≤5000:=(by omega);have hil:i<F.any.length:=(by rw[HM.out];exact hlt);obtain⟨b,o,hao,hc0⟩:=(strs_below HX.out HBw.out) i hil;subst hao;have HST:=Lib.hid (anyW_step h5 hil);obtain⟨x,hx⟩: ∃x,F.any[i]=x:=⟨_,rfl⟩;rw[hx]at hc0 HST;clear hx;have e1:=cap_min x.size;have b1:=cap5_le x.size;generalize cap5 x.size=c1 at e1 b1 HST;have HJ2:Hid (R=kidsW (weighF d) (anyW (a+1+c1) (F.any.drop (i+1))) F.kids):=(by show _=_;rw[hJ.out,HST.out]);go_wp2_with fail;go_roundw;case rel=>exact⟨i+1,a+1+c1,by omega,by omega,by omega,congrArg (Value.int .i64) (by omega),by go_num,HBw.out,hT.out,HJ2.out⟩
     case measure=>simp[intOf];omega
    ·have h5I: ¬ (a:Int)≤5000:=(by omega);have HK1:Hid (R=a):=(by show _=_;rw[hJ.out,anyW_stop h5,kidsW_stop h5]);clear hJ;go_wp2_with fail;clear k0 k1 k2 k3 k4 k5 k6;go_loopw [1,8] (fun lv iv wi=>lv= .int .i64 (a:Int)∧iv= .int .i64 ((0:Nat):Int)∧Hid (Below w.heap.size w wi)∧Hid (R7 wi w.heap.size (.int .i64 F.kind) (.string F.attr) (.string F.value) (.string F.first) (.slice xa M xc) (.string F.last) (.slice ka N kc))) (fun _ iv _=>0);case atStart=>exact⟨rfl,rfl,HBw.out,hT.out⟩
     case round=>
      obtain⟨rfl,rfl,hB,hT⟩:=hrel;obtain⟨k0,k1,k2,k3,k4,k5,k6⟩:=r7_cells hT.out;by_cases hN0:0<N
      ·have hN1:(0:Int)<(N:Int):=(by omega);go_wp2_with fail;go_ret;exact⟨kt.ret_int (by rw[HK1.out]),hB.out⟩
      ·have hN1: ¬ (0:Int)<(N:Int):=(by omega);go_wp2_with fail;go_ret;exact⟨kt.ret_int (by rw[HK1.out]),hB.out⟩
   ·obtain rfl:M=i:=(by omega);have HJ2:Hid (R=kidsW (weighF d) a F.kids):=(by show _=_;rw[hJ.out,←HM.out,List.drop_length];rfl);clear hJ;go_wp2_with fail;clear k0 k1 k2 k3 k4 k5 k6;go_loopw [1,8] (fun lv iv wi=> ∃ (i a:Nat),i≤N∧i≤a∧a≤60000∧lv= .int .i64 (a:Int)∧iv= .int .i64 (i:Int)∧Hid (Below w.heap.size w wi)∧Hid (R7 wi w.heap.size (.int .i64 F.kind) (.string F.attr) (.string F.value) (.string F.first) (.slice xa M xc) (.string F.last) (.slice ka N kc))∧Hid (R=kidsW (weighF d) a (F.kids.drop i))) (fun _ iv _=>N- (intOf iv).toNat);case atStart=>exact⟨0,a,Nat.zero_le _,Nat.zero_le _,by omega,rfl,rfl,HBw.out,hT.out,HJ2.out⟩
    case round=>
     obtain⟨i,a,hi,hia,ha,rfl,rfl,hB,hT,hJ⟩:=hrel;clear HBw;have HBw:=hB;have hsw:=hB.out.size;clear hB;obtain⟨k0,k1,k2,k3,k4,k5,k6⟩:=r7_cells hT.out;by_cases hlt:i<N
     ·by_cases h5:a≤5000
      ·have h5I:(a:Int)≤5000:=(by omega);have hltI:(i:Int)<(N:Int):=(by omega);have hil:i<F.kids.length:=(by rw[HN.out];exact hlt);obtain⟨b,o,ya,yc,la,lc,hao,hc,hkX⟩:=kidsX_at (kidsX_below HK.out HBw.out) i hil;subst hao;obtain⟨G,hG⟩: ∃G,F.kids[i]=G:=⟨_,rfl⟩;have HG:=Lib.hid hG;rw[hG]at hc hkX;clear hG;unfold flV at hkX;generalize G.any.length=m' at hc hkX;generalize G.kids.length=n' at hc hkX;obtain⟨c0,c1,c2,c3,c4,c5,c6⟩:=hc;have HKX:=Lib.hid hkX;clear hkX;have HST:=Lib.hid (kidsW_step (f:=weighF d) h5 hil);rw[HG.out]at HST;have HC:Hid (Calls Try.prog 10 #[.agg #[.int .i64 G.kind,.string G.attr,.string G.value,.string G.first,.slice ya m' yc,.string G.last,.slice la n' lc],.int .i64 (a:Int),.int .i64 ((dp:Int)+1)] wr fun e w'=>e= .returned (.int .i64 ((weighF d G a:Nat):Int))∧Below wr.heap.size wr w'):=IH.out G _ a wr h5 HKX.out;have hb:=HLE.out G a h5;have HGE:Hid (weighF d G a≤5000→a+1≤weighF d G a):=fun h=>by have:=weigh_fit d G a h;omega
       obtain⟨c,hc⟩: ∃c,weighF d G a=c:=⟨_,rfl⟩;rw[hc]at HC HST hb HGE;have hac:i+1≤c:=by
        by_cases h6:c≤5000
        ·have:=HGE.out h6;omega
        ·omega
       have HJ2:Hid (R=kidsW (weighF d) c (F.kids.drop (i+1))):=(by show _=_;rw[hJ.out,HST.out]);clear hc;go_wp2_with fail;refine HC.out.mono ?_;rintro e w3 ⟨rfl,hB3⟩;have HB3:=Lib.hid (HBw.out.trans (hB3.mono hsw));have HT3:=Lib.hid (r7_below hT.out hB3);clear hB3 c0 c1 c2 c3 c4 c5 c6 k0 k1 k2 k3 k4 k5 k6;go_wp2_with fail;go_roundw;case rel=>exact⟨i+1,c,by omega,hac,hb,rfl,by go_num,HB3.out,HT3.out,HJ2.out⟩
       case measure=>simp[intOf];omega
      ·have h5I: ¬ (a:Int)≤5000:=(by omega);have hltI:(i:Int)<(N:Int):=(by omega);have HR2:Hid (R=a):=(by show _=_;rw[hJ.out,kidsW_stop h5]);go_wp2_with fail;go_ret;exact⟨kt.ret_int (by rw[HR2.out]),HBw.out⟩
     ·obtain rfl:N=i:=(by omega);have HR2:Hid (R=a):=(by show _=_;rw[hJ.out,←HN.out,List.drop_length];rfl);go_wp2_with fail;go_ret;exact⟨kt.ret_int (by rw[HR2.out]),HBw.out⟩
theorem long_any (F:Fl)(v:Value)(w:World)(hv:Hid (FlX w v F)):
  Calls Try.prog 5 #[v] w fun e w'=>e= .returned (.bool (longF F))∧Below w.heap.size w w':=by
 have HC0:Hid (∀W,Below w.heap.size w W→Calls Try.prog 10 #[v,.int .i64 0,.int .i64 1] W fun e w'=>e= .returned (.int .i64 ((weighF 60 F 0:Nat):Int))∧Below W.heap.size W w'):=fun W h=>weigh_any 60 F v 0 1 W (by omega) rfl (Lib.hid (flX_below hv.out h));have HR:Hid (decide ((5000:Int)<((weighF 60 F 0:Nat):Int))=longF F):=by show _=_;unfold longF;rw[decide_eq_decide];omega
 generalize weighF 60 F 0=c at HC0 HR;generalize longF F=R at HR ⊢;obtain⟨xa,xc,ka,kc,rfl,HX,HK,hxc,hkc⟩:=flX_form hv.out;unfold flV;try unfold flV at HC0
 obtain⟨N,hN⟩: ∃N,F.kids.length=N:=⟨_,rfl⟩;have HN:=Lib.hid hN;obtain⟨M,hM⟩: ∃M,F.any.length=M:=⟨_,rfl⟩;have HM:=Lib.hid hM;rw[hN]at hkc ⊢;try rw[hN]at HC0
 rw[hM]at hxc ⊢;try rw[hM]at HC0
 clear hN hM;obtain⟨W1,hW1⟩: ∃W,w.alloc (.cells #[.int .i64 F.kind,.string F.attr,.string F.value,.string F.first,.slice xa M xc,.string F.last,.slice ka N kc] 25)=W:=⟨_,rfl⟩;have hB1:Below w.heap.size w W1:=by rw[←hW1];exact(Below.refl _ _).alloc (Nat.le_refl _) _
 have HF1:Hid (R7 W1 w.heap.size (.int .i64 F.kind) (.string F.attr) (.string F.value) (.string F.first) (.slice xa M xc) (.string F.last) (.slice ka N kc)):=by rw[←hW1];exact r7_new _ _ _ _ _ _ _ _
 obtain⟨k0,k1,k2,k3,k4,k5,k6⟩:=r7_cells HF1.out;have HB1:=Lib.hid hB1;have hs1:=hB1.size;clear hB1;have HC:=Lib.hid (HC0.out W1 HB1.out);clear HC0;have hq:=HR.out;cases R;all_goals
  go_enter Try.func5,Try.ntmps5;go_wp2_with fail;refine HC.out.mono ?_;rintro e w2 ⟨rfl,hB2⟩;have HB2:=Lib.hid (HB1.out.trans (hB2.mono hs1));clear hB2 k0 k1 k2 k3 k4 k5 k6;go_wp2_with fail;go_ret;exact⟨rfl,HB2.out⟩
end flw
open Go.RowKit
namespace same
theorem below_drewN {B:Nat}{a b:World}(h:Below B a b)(n:Nat):Below B a (b.drewN n):=⟨h.os,h.tape,h.output,h.size,h.block⟩
end same
open Go.RowKit
namespace flw
open flp atp atw etp etw
open tupw (Strs strs_below)
theorem same19_ind: ∀ (d:Nat) (F:Fl) (v v2:Value) (w:World),okD d F→Hid (FlX w v F)→Hid (FlX w v2 F)→Hid (FitX F)→
  Calls Try.prog 9 #[v,v2] w fun e w'=>e= .returned (.bool true)∧Below w.heap.size w w':=by
 intro d;induction d with
 | zero=>intro F v v2 w hd _ _ _;exact hd.elim
 | succ d ih=>
  intro F v v2 w hd hv hv2 hf;have IH:Hid (∀ (G:Fl) (u u2:Value) (W:World),G∈F.kids→FlX W u G→FlX W u2 G→FitX G→Calls Try.prog 9 #[u,u2] W fun e w'=>e= .returned (.bool true)∧Below W.heap.size W w'):=fun G u u2 W hG hu hu2 hg=>ih G u u2 W (hd G hG) (Lib.hid hu) (Lib.hid hu2) (Lib.hid hg);clear ih hd;obtain⟨xa2,xc2,ka2,kc2,rfl,HX2,HK2,hxc2,hkc2⟩:=flX_form hv2.out;obtain⟨xa,xc,ka,kc,rfl,HX,HK,hxc,hkc⟩:=flX_form hv.out;unfold flV;obtain⟨N,hN⟩: ∃N,F.kids.length=N:=⟨_,rfl⟩;have HN:=Lib.hid hN;obtain⟨M,hM⟩: ∃M,F.any.length=M:=⟨_,rfl⟩;have HM:=Lib.hid hM;have HFH:=Lib.hid (fitX_head hf.out);have hNb:N≤100000:=by rw[←hN];exact HFH.out.2.2.2.2.2.2
  have hMb:M≤100000:=by rw[←hM];exact HFH.out.2.2.2.2.1
  rw[hN]at hkc ⊢;rw[hM]at hxc ⊢;clear hN hM;obtain⟨W1,hW1⟩: ∃W,w.alloc (.cells #[.int .i64 F.kind,.string F.attr,.string F.value,.string F.first,.slice xa M xc,.string F.last,.slice ka N kc] 25)=W:=⟨_,rfl⟩;have hB1:Below w.heap.size w W1:=by rw[←hW1];exact(Below.refl _ _).alloc (Nat.le_refl _) _
  have HF1:Hid (R7 W1 w.heap.size (.int .i64 F.kind) (.string F.attr) (.string F.value) (.string F.first) (.slice xa M xc) (.string F.last) (.slice ka N kc)):=by rw[←hW1];exact r7_new _ _ _ _ _ _ _ _
  obtain⟨k0,k1,k2,k3,k4,k5,k6⟩:=r7_cells HF1.out;have HB1:=Lib.hid hB1;have hs1:=hB1.size;clear hB1;rw[HM.out]at hxc2;rw[HN.out]at hkc2;clear hv2;obtain⟨W2,hW2⟩: ∃W,W1.alloc (.cells #[.int .i64 F.kind,.string F.attr,.string F.value,.string F.first,.slice xa2 M xc2,.string F.last,.slice ka2 N kc2] 25)=W:=⟨_,rfl⟩;have hB2:Below W1.heap.size W1 W2:=by rw[←hW2];exact(Below.refl _ _).alloc (Nat.le_refl _) _
  obtain⟨q,hqq⟩: ∃q,W1.heap.size=q:=⟨_,rfl⟩;have HQ2:Hid (R7 W2 q (.int .i64 F.kind) (.string F.attr) (.string F.value) (.string F.first) (.slice xa2 M xc2) (.string F.last) (.slice ka2 N kc2)):=by rw[←hW2,←hqq];exact r7_new _ _ _ _ _ _ _ _
  have HB2:=Lib.hid (HB1.out.trans (hB2.mono hs1));have HF2:=Lib.hid (r7_below HF1.out hB2);clear hB2 k0 k1 k2 k3 k4 k5 k6;obtain⟨k0,k1,k2,k3,k4,k5,k6⟩:=r7_cells HF2.out;obtain⟨m0,m1,m2,m3,m4,m5,m6⟩:=r7_cells HQ2.out;go_enter Try.func9,Try.ntmps9;go_wp2_with fail;clear k0 k1 k2 k3 k4 k5 k6 m0 m1 m2 m3 m4 m5 m6 hW1 hW2 hqq;go_loopw [5] (fun iv wr=> ∃i:Nat,i≤M∧iv= .int .i64 (i:Int)∧Hid (Below w.heap.size w wr)∧Hid (R7 wr w.heap.size (.int .i64 F.kind) (.string F.attr) (.string F.value) (.string F.first) (.slice xa M xc) (.string F.last) (.slice ka N kc))∧Hid (R7 wr q (.int .i64 F.kind) (.string F.attr) (.string F.value) (.string F.first) (.slice xa2 M xc2) (.string F.last) (.slice ka2 N kc2))) (fun iv _=>M- (intOf iv).toNat);case atStart=>exact⟨0,Nat.zero_le _,rfl,HB2.out,HF2.out,HQ2.out⟩
  case round=>
   obtain⟨i,hi,rfl,hB,hT,hQ⟩:=hrel;obtain⟨k0,k1,k2,k3,k4,k5,k6⟩:=r7_cells hT.out;obtain⟨m0,m1,m2,m3,m4,m5,m6⟩:=r7_cells hQ.out;clear k0 k1 k2 k3 k5 m0 m1 m2 m3 m5;by_cases hlt:i<M
   ·have hltI:(i:Int)<(M:Int):=(by omega);have hil:i<F.any.length:=(by rw[HM.out];exact hlt);obtain⟨b,o,hao,x0⟩:=(strs_below HX.out hB.out) i hil;obtain⟨b2,o2,hao2,y0⟩:=(strs_below HX2.out hB.out) i hil;subst hao hao2;generalize F.any[i]=x at x0 y0;clear k6 m6;go_wp2_with fail;go_quiet (fail);have HBQ:=Lib.hid (same.below_drewN hB.out nq);have HBR:=Lib.hid (same.below_drewN (Below.refl wr.heap.size wr) nq);have HTQ:=Lib.hid (r7_below hT.out HBR.out);have HQQ:=Lib.hid (r7_below hQ.out HBR.out);clear k4 m4 x0 y0;go_wp2_with fail;go_roundw;case rel=>exact⟨i+1,by omega,by go_num,HBQ.out,HTQ.out,HQQ.out⟩
    case measure=>simp[intOf];omega
   ·obtain rfl:M=i:=(by omega);go_wp2_with fail;clear k4 m4 k6 m6;have HB0:=hB;have HT0:=hT;have HQ0:=hQ;clear hB hT hQ;go_loopw [6] (fun iv wr=> ∃i:Nat,i≤N∧iv= .int .i64 (i:Int)∧Hid (Below w.heap.size w wr)∧Hid (R7 wr w.heap.size (.int .i64 F.kind) (.string F.attr) (.string F.value) (.string F.first) (.slice xa M xc) (.string F.last) (.slice ka N kc))∧Hid (R7 wr q (.int .i64 F.kind) (.string F.attr) (.string F.value) (.string F.first) (.slice xa2 M xc2) (.string F.last) (.slice ka2 N kc2))) (fun iv _=>N- (intOf iv).toNat);case atStart=>exact⟨0,Nat.zero_le _,rfl,HB0.out,HT0.out,HQ0.out⟩
    case round=>
     clear HB0 HT0 HQ0;obtain⟨i,hi,rfl,hB,hT,hQ⟩:=hrel;have HBw:=hB;clear hB;obtain⟨k0,k1,k2,k3,k4,k5,k6⟩:=r7_cells hT.out;obtain⟨m0,m1,m2,m3,m4,m5,m6⟩:=r7_cells hQ.out;clear k0 k1 k2 k3 k4 k5 m0 m1 m2 m3 m4 m5;by_cases hlt:i<N
     ·have hltI:(i:Int)<(N:Int):=(by omega);have hil:i<F.kids.length:=(by rw[HN.out];exact hlt);obtain⟨b,o,ya,yc,la,lc,hao,hc,hkX⟩:=kidsX_at (kidsX_below HK.out HBw.out) i hil;obtain⟨b2,o2,ya2,yc2,la2,lc2,hao2,hc2,hkX2⟩:=kidsX_at (kidsX_below HK2.out HBw.out) i hil;subst hao hao2;have HFK:=Lib.hid (fitX_kid hf.out (List.getElem_mem hil));have HMEM:=Lib.hid (List.getElem_mem hil);obtain⟨G,hG⟩: ∃G,F.kids[i]=G:=⟨_,rfl⟩;rw[hG]at hc hc2 hkX hkX2 HFK HMEM;clear hG;unfold flV at hkX hkX2;generalize G.any.length=m' at hc hkX hc2 hkX2;generalize G.kids.length=n' at hc hkX hc2 hkX2;obtain⟨c0,c1,c2,c3,c4,c5,c6⟩:=hc;obtain⟨d0,d1,d2,d3,d4,d5,d6⟩:=hc2;have HC:Hid (∀W,Below wr.heap.size wr W→Calls Try.prog 9 #[.agg #[.int .i64 G.kind,.string G.attr,.string G.value,.string G.first,.slice ya m' yc,.string G.last,.slice la n' lc],.agg #[.int .i64 G.kind,.string G.attr,.string G.value,.string G.first,.slice ya2 m' yc2,.string G.last,.slice la2 n' lc2]] W fun e w'=>e= .returned (.bool true)∧Below W.heap.size W w'):=fun W h=>IH.out G _ _ W HMEM.out (flX_below hkX h) (flX_below hkX2 h) HFK.out;clear hkX hkX2;have hk6:=World.block_lt_of_cell? wr _ k6;have hm6:=World.block_lt_of_cell? wr _ m6;have hc0:=World.block_lt_of_cell? wr _ c0;have hc1:=World.block_lt_of_cell? wr _ c1;have hc2:=World.block_lt_of_cell? wr _ c2;have hc3:=World.block_lt_of_cell? wr _ c3;have hc4:=World.block_lt_of_cell? wr _ c4;have hc5:=World.block_lt_of_cell? wr _ c5;have hc6:=World.block_lt_of_cell? wr _ c6;have hd0:=World.block_lt_of_cell? wr _ d0;have hd1:=World.block_lt_of_cell? wr _ d1;have hd2:=World.block_lt_of_cell? wr _ d2;have hd3:=World.block_lt_of_cell? wr _ d3;have hd4:=World.block_lt_of_cell? wr _ d4;have hd5:=World.block_lt_of_cell? wr _ d5;have hd6:=World.block_lt_of_cell? wr _ d6;go_wp2_with fail;refine wp_region_held_drew (S:=fun W=>W.cell? ⟨w.heap.size,6,none⟩=some ((.slice (some ⟨b,o,none⟩) N kc))∧W.cell? ⟨q,6,none⟩=some ((.slice (some ⟨b2,o2,none⟩) N kc2))∧W.cell? ⟨b,o+i*7,none⟩=some ((.int .i64 G.kind))∧W.cell? ⟨b,o+i*7+1,none⟩=some ((.string G.attr))∧W.cell? ⟨b,o+i*7+2,none⟩=some ((.string G.value))∧W.cell? ⟨b,o+i*7+3,none⟩=some ((.string G.first))∧W.cell? ⟨b,o+i*7+4,none⟩=some ((.slice ya m' yc))∧W.cell? ⟨b,o+i*7+5,none⟩=some ((.string G.last))∧W.cell? ⟨b,o+i*7+6,none⟩=some ((.slice la n' lc))∧W.cell? ⟨b2,o2+i*7,none⟩=some ((.int .i64 G.kind))∧W.cell? ⟨b2,o2+i*7+1,none⟩=some ((.string G.attr))∧W.cell? ⟨b2,o2+i*7+2,none⟩=some ((.string G.value))∧W.cell? ⟨b2,o2+i*7+3,none⟩=some ((.string G.first))∧W.cell? ⟨b2,o2+i*7+4,none⟩=some ((.slice ya2 m' yc2))∧W.cell? ⟨b2,o2+i*7+5,none⟩=some ((.string G.last))∧W.cell? ⟨b2,o2+i*7+6,none⟩=some ((.slice la2 n' lc2))) (by kernel_rfl) (⟨k6,m6,c0,c1,c2,c3,c4,c5,c6,d0,d1,d2,d3,d4,d5,d6⟩) (fun hHeld=> ?_);refine tk 0 ⟨some 83,_,_,_,_,_⟩ rfl ?_;refine tk 1 ⟨some 84,_,_,_,_,_⟩ rfl ?_;refine tk 2 ⟨some 85,_,_,_,_,_⟩ rfl ?_;refine tk 3 ⟨some 86,_,_,_,_,_⟩ rfl ?_;refine tk 4 ⟨some 87,_,_,_,_,_⟩ rfl ?_;refine tk 5 ⟨some 88,_,_,_,_,_⟩ rfl ?_;refine tk 6 ⟨some 89,_,_,_,_,_⟩ rfl ?_;refine tk 7 ⟨some 90,_,_,_,_,_⟩ rfl ?_;refine tk 8 ⟨some 91,_,_,_,_,_⟩ rfl ?_;refine tk 9 ⟨some 92,_,_,_,_,_⟩ rfl ?_;refine etw.tc 10 ⟨some 93,_,_,_,_,_⟩ rfl (fun K hK=> ?_);go_simp;go_at_call 9;refine(HC.out _ ((Below.refl wr.heap.size wr).drew)).mono ?_;rintro e w6 ⟨rfl,hB6⟩;refine hK.out _ _ (⟨(hB6.cell (p:=⟨w.heap.size,6,none⟩) hk6).trans (k6),(hB6.cell (p:=⟨q,6,none⟩) hm6).trans (m6),(hB6.cell (p:=⟨b,o+i*7,none⟩) hc0).trans (c0),(hB6.cell (p:=⟨b,o+i*7+1,none⟩) hc1).trans (c1),(hB6.cell (p:=⟨b,o+i*7+2,none⟩) hc2).trans (c2),(hB6.cell (p:=⟨b,o+i*7+3,none⟩) hc3).trans (c3),(hB6.cell (p:=⟨b,o+i*7+4,none⟩) hc4).trans (c4),(hB6.cell (p:=⟨b,o+i*7+5,none⟩) hc5).trans (c5),(hB6.cell (p:=⟨b,o+i*7+6,none⟩) hc6).trans (c6),(hB6.cell (p:=⟨b2,o2+i*7,none⟩) hd0).trans (d0),(hB6.cell (p:=⟨b2,o2+i*7+1,none⟩) hd1).trans (d1),(hB6.cell (p:=⟨b2,o2+i*7+2,none⟩) hd2).trans (d2),(hB6.cell (p:=⟨b2,o2+i*7+3,none⟩) hd3).trans (d3),(hB6.cell (p:=⟨b2,o2+i*7+4,none⟩) hd4).trans (d4),(hB6.cell (p:=⟨b2,o2+i*7+5,none⟩) hd5).trans (d5),(hB6.cell (p:=⟨b2,o2+i*7+6,none⟩) hd6).trans (d6)⟩) (fun hHeld=> ?_);clear hK;try simp only[Act.put,List.setIfInBounds_toArray,List.set_cons_zero,List.set_cons_succ]
      refine tk 11 ⟨some 94,_,_,_,_,_⟩ rfl ?_;refine wpAnyH_done (by kernel_rfl) ?_ _;have HB6:=Lib.hid (((Below.refl wr.heap.size wr).drew).trans hB6);have HB7:=Lib.hid (HBw.out.trans (HB6.out.mono HBw.out.size));have HT7:=Lib.hid (r7_below hT.out HB6.out);have HQ7:=Lib.hid (r7_below hQ.out HB6.out);clear hHeld hB6 c0 c1 c2 c3 c4 c5 c6 d0 d1 d2 d3 d4 d5 d6 k6 m6;go_wp2_with fail;go_roundw;case rel=>exact⟨i+1,by omega,by go_num,HB7.out,HT7.out,HQ7.out⟩
      case measure=>simp[intOf];omega
     ·obtain rfl:N=i:=(by omega);go_wp2_with fail;go_ret;exact⟨rfl,HBw.out⟩
theorem same19_one (F:Fl)(v v2:Value)(w:World)(hv:Hid (FlX w v F))(hv2:Hid (FlX w v2 F))(hf:Hid (FitX F)):
  Calls Try.prog 9 #[v,v2] w fun e w'=>e= .returned (.bool true)∧Below w.heap.size w w':=by
 obtain⟨d,h⟩:=hf.out;exact same19_ind d F v v2 w (fit_ok h) hv hv2 hf
end flw
open Go.RowKit
namespace ftw
open ftp flp flw
open tupw (Strs strs_below)
theorem prints20_law (F:Fl)(v:Value)(w:World)(hv:Hid (FlX w v F)):
  Calls Try.prog 3 #[v] w fun e w'=>e= .returned (.bool true)∧Below w.heap.size w w':=by
 have HAW:Hid (∀W,Calls Try.prog 4 #[] W fun e w'=>e= .returned (.bool true)∧Below W.heap.size W w'):=fun W=>awake20_any W;have HLG0:Hid (∀W,Below w.heap.size w W→Calls Try.prog 5 #[v] W fun e w'=>e= .returned (.bool (longF F))∧Below W.heap.size W w'):=fun W h=>long_any F v W (Lib.hid (flX_below hv.out h));have HFX:Hid (longF F=false→FitX F):=fun h=>⟨60,(long_no h).1⟩;have HPR0:Hid (longF F=false→ ∀W,Below w.heap.size w W→Calls Try.prog 6 #[v] W fun e w'=>e= .returned (.tuple #[.string (bb (printF F).1),.int .i64 (printF F).2])∧Below W.heap.size W w'):=fun hl W h=>print_any F v W (Lib.hid (flX_below hv.out h)) (Lib.hid (HFX.out hl));have HRP0:Hid (longF F=false→ ∀W,Below w.heap.size w W→Calls Try.prog 7 #[v] W fun e w'=>e= .returned (.tuple #[.string (bb (printF F).1),.int .i64 (printF F).2])∧Below W.heap.size W w'):=fun hl W h=>rprint_any F v W (Lib.hid (flX_below hv.out h)) (Lib.hid (HFX.out hl));have HSM0:Hid (longF F=false→ ∀u W,FlX W u F→Below w.heap.size w W→Calls Try.prog 9 #[u,v] W fun e w'=>e= .returned (.bool true)∧Below W.heap.size W w'):=fun hl u W hu h=>same19_one F u v W (Lib.hid hu) (Lib.hid (flX_below hv.out h)) (Lib.hid (HFX.out hl));have HC:Hid (longF F=false→printF F=([],4)∨ ∃t:T,printF F=(t,0)∧t.length≤1000000000∧parseT t=if 8000<t.length then(noFl,5)else(F,0)):=by
  intro hl;rcases print_cases F with h | ⟨t,hr,ht,h⟩
  ·exact Or.inl h
  ·refine Or.inr ⟨t,h,?_,parse_print hr ht⟩;have h8:=(rightF_iff F).1 hr;have:=text_len 8 F t h8.1 (HFX.out hl) ht;omega
 generalize longF F=lg at HLG0 HFX HPR0 HRP0 HSM0 HC;generalize printF F=P at HPR0 HRP0 HC;obtain⟨xa,xc,ka,kc,rfl,HX,HK,hxc,hkc⟩:=flX_form hv.out;unfold flV;unfold flV at HLG0 HPR0 HRP0 HSM0;obtain⟨x,hx⟩: ∃x,(Value.slice xa F.any.length xc)=x:=⟨_,rfl⟩;obtain⟨y,hy⟩: ∃y,(Value.slice ka F.kids.length kc)=y:=⟨_,rfl⟩;rw[hx,hy]at HLG0 HPR0 HRP0 HSM0 ⊢;obtain⟨K,hK⟩: ∃K,F.kind=K:=⟨_,rfl⟩;obtain⟨s1,h1⟩: ∃s,F.attr=s:=⟨_,rfl⟩;obtain⟨s2,h2⟩: ∃s,F.value=s:=⟨_,rfl⟩;obtain⟨s3,h3⟩: ∃s,F.first=s:=⟨_,rfl⟩;obtain⟨s5,h5⟩: ∃s,F.last=s:=⟨_,rfl⟩;rw[hK,h1,h2,h3,h5]at HLG0 HPR0 HRP0 HSM0 ⊢;clear hv HX HK hxc hkc hx hy hK h1 h2 h3 h5 HFX;obtain⟨W1,hW1⟩: ∃W,w.alloc (.cells #[.int .i64 K,.string s1,.string s2,.string s3,x,.string s5,y] 25)=W:=⟨_,rfl⟩;have hB1:Below w.heap.size w W1:=by rw[←hW1];exact(Below.refl _ _).alloc (Nat.le_refl _) _
 obtain⟨p,hp⟩: ∃p,w.heap.size=p:=⟨_,rfl⟩;have HF1:Hid (R7 W1 p (.int .i64 K) (.string s1) (.string s2) (.string s3) x (.string s5) y):=by rw[←hW1,←hp];exact r7_new _ _ _ _ _ _ _ _
 have HB1:=Lib.hid hB1;have HAW1:=Lib.hid (HAW.out W1);clear hB1 HAW;go_enter Try.func3,Try.ntmps3;go_wp2_with fail;refine HAW1.out.mono ?_;rintro e w2 ⟨rfl,hB2⟩;have HB2:=Lib.hid (HB1.out.trans (hB2.mono HB1.out.size));have HF2:=Lib.hid (r7_below HF1.out hB2);have HLG:=Lib.hid (HLG0.out w2 HB2.out);clear hB2 hW1 hp HAW1 HF1 HB1 HLG0;obtain⟨k0,k1,k2,k3,k4,k5,k6⟩:=r7_cells HF2.out;go_wp2_with fail;refine HLG.out.mono ?_;rintro e w3 ⟨rfl,hB3⟩;have HB3:=Lib.hid (HB2.out.trans (hB3.mono HB2.out.size));have HF3:=Lib.hid (r7_below HF2.out hB3);clear hB3 HLG HF2 k0 k1 k2 k3 k4 k5 k6;cases lg with
 | true=>clear HPR0 HRP0 HSM0 HC;go_wp2_with fail;go_ret;exact⟨rfl,HB3.out⟩
 | false=>
  have HPR:=Lib.hid (HPR0.out rfl);have HRP:=Lib.hid (HRP0.out rfl);have HSM:=Lib.hid (HSM0.out rfl);have HC1:Hid (P=([],4)∨ ∃t:T,P=(t,0)∧t.length≤1000000000∧parseT t=if 8000<t.length then(noFl,5)else(F,0)):=HC.out rfl;clear HPR0 HRP0 HSM0 HC;obtain⟨k0,k1,k2,k3,k4,k5,k6⟩:=r7_cells HF3.out;go_wp2_with fail;refine(HPR.out w3 HB3.out).mono ?_;rintro e w4 ⟨rfl,hB4⟩;have HB4:=Lib.hid (HB3.out.trans (hB4.mono HB3.out.size));have HF4:=Lib.hid (r7_below HF3.out hB4);clear hB4 k0 k1 k2 k3 k4 k5 k6 HPR HF3 HB3;obtain⟨k0,k1,k2,k3,k4,k5,k6⟩:=r7_cells HF4.out;go_wp2_with fail;refine(HRP.out w4 HB4.out).mono ?_;rintro e w5 ⟨rfl,hB5⟩;have HB5:=Lib.hid (HB4.out.trans (hB5.mono HB4.out.size));have HF5:=Lib.hid (r7_below HF4.out hB5);clear hB5 k0 k1 k2 k3 k4 k5 k6 HRP HF4 HB4;rcases HC1.out with h | ⟨t,h,htl,hpt⟩
  ·subst h;clear HC1;have e0:bb (([]:T),(4:Int)).1=⟨#[]⟩:=rfl;rw[e0];dsimp only;go_wp2_with fail;go_ret;exact⟨rfl,HB5.out⟩
  ·subst h;clear HC1;dsimp only;obtain⟨Tt,hTt⟩: ∃x,bb t=x:=⟨_,rfl⟩;have HTX:Hid (tx Tt=t):=(by rw[←hTt];rfl);have HTS:Hid (Tt.size=t.length):=(by rw[←hTt];exact bb_size t);have HPT:=Lib.hid hpt;rw[hTt];clear hTt hpt;have HP2:=Lib.hid (parse_any Tt w5 (by rw[HTS.out];omega));go_wp2_with fail;refine HP2.out.mono ?_;rintro e w6 ⟨hB6,v2,at2,rfl,hX6,hat⟩;rw[HTX.out,HPT.out]at hX6 hat ⊢;have HB6:=Lib.hid (HB5.out.trans (hB6.mono HB5.out.size));have HF6:=Lib.hid (r7_below HF5.out hB6);clear hB6 HP2 HF5 HB5;obtain⟨ya,yc,la,lc,rfl,_,_,_,_⟩:=flX_form hX6;unfold flV at hX6 ⊢;by_cases h8:8000<t.length
   ·rw[if_pos h8]at hX6 hat ⊢;have h8I:(8000:Int)<(Tt.size:Int):=(by rw[HTS.out];omega);clear hX6 hat;dsimp only;go_wp2_with fail;go_ret;exact⟨rfl,HB6.out.alloc (by have:=HB6.out.size;omega) _⟩
   ·rw[if_neg h8]at hX6 hat ⊢;have h8I: ¬ (8000:Int)<(Tt.size:Int):=(by rw[HTS.out];omega);obtain rfl:at2=0:=hat rfl;dsimp only at hX6 ⊢;generalize F.any.length=m at hX6 ⊢;generalize F.kids.length=n at hX6 ⊢;obtain⟨J,hJ⟩: ∃K,F.kind=K:=⟨_,rfl⟩;obtain⟨t1,h1⟩: ∃s,F.attr=s:=⟨_,rfl⟩;obtain⟨t2,h2⟩: ∃s,F.value=s:=⟨_,rfl⟩;obtain⟨t3,h3⟩: ∃s,F.first=s:=⟨_,rfl⟩;obtain⟨t5,h5⟩: ∃s,F.last=s:=⟨_,rfl⟩;rw[hJ,h1,h2,h3,h5]at hX6 ⊢;clear hJ h1 h2 h3 h5 hat;obtain⟨w7,hw7⟩: ∃W,w6.alloc (.cells #[.int .i64 J,.string t1,.string t2,.string t3,.slice ya m yc,.string t5,.slice la n lc] 25)=W:=⟨_,rfl⟩;have hB7:Below w6.heap.size w6 w7:=(by rw[←hw7];exact(Below.refl _ _).alloc (Nat.le_refl _) _);obtain⟨q,hq⟩: ∃x,w6.heap.size=x:=⟨_,rfl⟩;have HQ7:Hid (R7 w7 q (.int .i64 J) (.string t1) (.string t2) (.string t3) (.slice ya m yc) (.string t5) (.slice la n lc)):=(by rw[←hw7,←hq];exact r7_new _ _ _ _ _ _ _ _);have HB7:=Lib.hid (HB6.out.trans (hB7.mono HB6.out.size));have HF7:=Lib.hid (r7_below HF6.out hB7);have HS7:=Lib.hid (HSM.out _ w7 (flX_below hX6 hB7) HB7.out);obtain⟨k0,k1,k2,k3,k4,k5,k6⟩:=r7_cells HF7.out;obtain⟨j0,j1,j2,j3,j4,j5,j6⟩:=r7_cells HQ7.out;clear hB7 hX6;go_wp2_with fail;refine HS7.out.mono ?_;rintro e w8 ⟨rfl,hB8⟩;clear hw7 hq k0 k1 k2 k3 k4 k5 k6 j0 j1 j2 j3 j4 j5 j6;go_wp2_with fail;go_ret;exact⟨rfl,HB7.out.trans (hB8.mono HB7.out.size)⟩
end ftw
open Go.RowKit
namespace tupo
open tupw
theorem cell_spot {w:World}{b o:Nat}{sp:Option Nat}{v:Value}(h:w.cell? ⟨b,o,sp⟩=some v):sp=none:=by
 cases sp with
 | none=>rfl
 | some x=>unfold World.cell? at h;simp at h;split at h<;>cases h
theorem texts_of {H:Type}{enc:TypeId × Value→H}{P:Program}{w:World}{base:Nat}{sp:Nat→Bool}{held:Bool}{t e:TypeId}{d:DataW H}{p:List MemPlace}{ao:Option Addr}{len cap:Nat}
  (ht:P.underlying t=some (.slice e)) (he:P.underlying e=some .string) (hc:P.cellsOf e=1)
  (h: ∃fuel,DataW.trod enc P w base sp held fuel t [.slice ao len cap]=some (d,p)): ∃l:List ByteArray,len=l.length∧Strs w ao l∧(∀s∈l,s.size≤maxLen)∧len≤maxLen∧len≤cap∧(ao=none→len=0∧cap=0):=by
 obtain⟨fuel,h⟩:=h;rcases ChangeShapes.open_strings ht he hc h with⟨hcs,_⟩ | ⟨a,len',cap',ss,hcs,_,hlc,hcm,hlen,_,hcell,hsm⟩
 ·simp at hcs;obtain⟨rfl,rfl,rfl⟩:=hcs;exact⟨[],rfl,fun i hi=>by simp at hi,fun s hs=>by simp at hs,by omega,by omega,fun _=>⟨rfl,rfl⟩⟩
 ·simp at hcs;obtain⟨rfl,rfl,rfl⟩:=hcs;have hle:len≤ss.length:=by rw[hlen];split<;>omega
  refine⟨ss.take len,by simp;omega,fun i hi=> ?_,fun s hs=>hsm s (List.mem_of_mem_take hs),by omega,hlc,fun e=>by simp at e⟩;have hi':i<len:=by simp at hi;omega
  have hc2:=hcell i (by omega);obtain⟨b,o,spt⟩:=a;have hsp:spt=none:=by
   cases spt with
   | none=>rfl
   | some x=>exfalso;have hz:=hcell 0 (by omega);have e0:(⟨b,o,some x⟩:Addr).add 0=⟨b,o,some x⟩:=(by unfold Addr.add;rfl);rw[e0]at hz;exact absurd (cell_spot hz) (by simp)
  subst hsp;refine⟨b,o,rfl,?_⟩;rw[Addr.add_mid]at hc2;rw[hc2,List.getElem_take];simp[List.getD,List.getElem?_eq_getElem (show i<ss.length by omega)]
end tupo
open Go.RowKit Go.ChangeShapes Go.WideShapes Go.Deep
namespace etw
open tupw (Strs)
theorem strs_any {H:Type}{enc:TypeId × Value→H}{w:World}{base:Nat}{sp:Nat→Bool}{held:Bool}{cs:List Value}{x:DataW H × List MemPlace}{fuel:Nat}
  (h:DataW.trod enc Try.prog w base sp held fuel 22 cs=some x): ∃ (ao:Option Addr) (l:List ByteArray) (cap:Nat),cs=[.slice ao l.length cap]∧l.length≤cap∧l.length≤9223372036854775807∧Strs w ao l:=by
 obtain⟨ao,len,cap,hcs⟩: ∃ao len cap,cs=[.slice ao len cap]:=by
  rcases ChangeShapes.open_strings Try.underlying22 Try.underlying9 (by kernel_rfl) h with⟨hcs,_⟩ | ⟨a,len',cap',ss,hcs,_⟩
  ·exact⟨_,_,_,hcs⟩
  ·exact⟨_,_,_,hcs⟩
 subst hcs;obtain⟨d,p⟩:=x;obtain⟨l,hlen,hS,_,hm,hc,_⟩:=tupo.texts_of Try.underlying22 Try.underlying9 (by kernel_rfl) ⟨fuel,h⟩;subst hlen;unfold maxLen at hm;exact⟨ao,l,cap,rfl,hc,by omega,hS⟩
end etw
open Go.RowKit Go.ChangeShapes Go.WideShapes Go.Deep
namespace opn
theorem cell_spot {w:World}{b o:Nat}{sp:Option Nat}{v:Value}(h:w.cell? ⟨b,o,sp⟩=some v):sp=none:=by
 cases sp with
 | none=>rfl
 | some x=>unfold World.cell? at h;simp at h;split at h<;>cases h
theorem list_of {α:Type}{Q:Nat→α→Prop}: ∀ (n:Nat),(∀i,i<n→ ∃c,Q i c)→ ∃l:List α,l.length=n∧ ∀i (h:i<l.length),Q i l[i]:=by
 intro n;induction n with
 | zero=>intro _;exact⟨[],rfl,fun i h=>by simp at h⟩
 | succ n ih=>
  intro h;obtain⟨l,hl,hq⟩:=ih (fun i hi=>h i (by omega));obtain⟨c,hc⟩:=h n (by omega);refine⟨l++[c],by simp[hl],fun i hi=> ?_⟩;by_cases e:i<l.length
  ·rw[List.getElem_append_left e];exact hq i e
  ·have:i=n:=(by simp at hi;omega);subst this;rw[List.getElem_append_right (by omega)];simpa using hc
section
variable {H : Type} {enc : TypeId × Value → H} {P : Program} {w : World} {base : Nat} {spare : Nat → Bool} {held : Bool}
end
end opn
open Go.RowKit Go.ChangeShapes Go.WideShapes Go.Deep
namespace flw
open flp etp etw
open tupw (Strs)
theorem array7 {α:Type}{cs:Array α}(h:cs.size=7): ∃c0 c1 c2 c3 c4 c5 c6,cs=#[c0,c1,c2,c3,c4,c5,c6]:=by
 obtain⟨l⟩:=cs
 match l,h with
 | [c0,c1,c2,c3,c4,c5,c6],_=>exact⟨c0,c1,c2,c3,c4,c5,c6,rfl⟩
theorem list7 {α:Type}{l:List α}(h:l.length=7): ∃c0 c1 c2 c3 c4 c5 c6,l=[c0,c1,c2,c3,c4,c5,c6]:=by
 match l,h with
 | [c0,c1,c2,c3,c4,c5,c6],_=>exact⟨c0,c1,c2,c3,c4,c5,c6,rfl⟩
theorem cellsFl:Try.prog.cellsOf 25=7:=by kernel_rfl
section
variable {H : Type} {enc : TypeId × Value → H} {w : World} {base : Nat} {sp : Nat → Bool} {held : Bool}
theorem fields_of {fuel:Nat}{v0 v1 v2 v3 v4 v5 v6:Value}{x:DataW H × List MemPlace}(h:DataW.trod enc Try.prog w base sp held fuel 25 [v0,v1,v2,v3,v4,v5,v6]=some x):
  ∃ (n:Nat) (y0 y1 y2 y3 y4 y5 y6:DataW H × List MemPlace),fuel=n+1∧DataW.trod enc Try.prog w base sp held n 3 [v0]=some y0∧DataW.trod enc Try.prog w base sp held n 9 [v1]=some y1∧DataW.trod enc Try.prog w base sp held n 9 [v2]=some y2∧DataW.trod enc Try.prog w base sp held n 9 [v3]=some y3∧
   DataW.trod enc Try.prog w base sp held n 22 [v4]=some y4∧DataW.trod enc Try.prog w base sp held n 9 [v5]=some y5∧DataW.trod enc Try.prog w base sp held n 23 [v6]=some y6:=by
 obtain⟨xs,n,hn,_,_,hlen,hf⟩:=DataW.trod_struct Try.underlying25 h;obtain⟨y0,y1,y2,y3,y4,y5,y6,rfl⟩:=list7 (hlen.trans rfl);exact⟨n,y0,y1,y2,y3,y4,y5,y6,hn,hf 0 _ rfl,hf 1 _ rfl,hf 2 _ rfl,hf 3 _ rfl,hf 4 _ rfl,hf 5 _ rfl,hf 6 _ rfl⟩
theorem nil_cap {fuel:Nat}{ao:Option Addr}{n cap:Nat}{x:DataW H × List MemPlace}(h:DataW.trod enc Try.prog w base sp held fuel 22 [.slice ao n cap]=some x):ao=none→cap=0:=by
 rcases DataW.trod_slice Try.underlying22 h with⟨hcs,_⟩ | ⟨a,len,cap',elems,rest,m,_,hcs,_⟩
 ·simp only[List.cons.injEq,Value.slice.injEq,and_true]at hcs;exact fun _=>hcs.2.2
 ·simp only[List.cons.injEq,Value.slice.injEq,and_true]at hcs;intro e;rw[e]at hcs;cases hcs.1
theorem kids_of: ∀ (fuel:Nat) {cs:List Value} {x:DataW H × List MemPlace},DataW.trod enc Try.prog w base sp held fuel 23 cs=some x→
  ∃ (ao:Option Addr) (l:List Fl) (cap:Nat),cs=[.slice ao l.length cap]∧l.length≤cap∧l.length≤9223372036854775807∧Kids w anyB fuel ao l:=by
 intro fuel;induction fuel using Nat.strongRecOn with
 | ind fuel ih=>
  intro cs x h;rcases DataW.trod_slice Try.underlying23 h with⟨hcs,_⟩ | ⟨a,len,cap,elems,rest,n,hn,hcs,_,hb,hl,hm,hlen,hel,_,_⟩
  ·exact⟨none,[],0,hcs,Nat.le_refl _,by simp,kids_nil _ _ _ _⟩
  ·have hspot:0<len→ ∃b o,a=⟨b,o,none⟩:=(by intro h0;have h1:=hel 0 h0;rw[List.getElem?_eq_getElem (by omega),cellsFl,Option.bind_eq_some_iff]at h1;obtain⟨cs',hc,_⟩:=h1;obtain⟨_,hcl,hcell⟩:=World.cells?_some hc;obtain⟨v0,v1,v2,v3,v4,v5,v6,rfl⟩:=list7 hcl;obtain⟨b,o,s⟩:=a;have c0:=hcell 0 (by omega);have e:((⟨b,o,s⟩:Addr).add (0*7)).add 0=⟨b,o,s⟩:=(by unfold Addr.add;rfl);rw[e]at c0;obtain rfl:=opn.cell_spot c0;exact⟨b,o,rfl⟩);have key: ∀i,i<len→ ∃F:Fl,∃b o xa xc ka kc,a=⟨b,o,none⟩∧CellsF w b (o+i*7) F (.slice xa F.any.length xc) (.slice ka F.kids.length kc)∧OkA xa F.any.length xc∧Strs w xa F.any∧F.kids.length≤kc∧Kids w anyB n ka F.kids:=by
    intro i hi;have h1:=hel i hi;have hi2:i<elems.length:=(by omega);rw[List.getElem?_eq_getElem hi2,cellsFl,Option.bind_eq_some_iff]at h1;obtain⟨cs',hc,ht⟩:=h1;obtain⟨_,hcl,hcell⟩:=World.cells?_some hc;obtain⟨v0,v1,v2,v3,v4,v5,v6,rfl⟩:=list7 hcl;obtain⟨n',y0,y1,y2,y3,y4,y5,y6,hn',t0,t1,t2,t3,t4,t5,t6⟩:=fields_of ht;obtain⟨kd,e0,_⟩:=DataW.trod_int Try.underlying3 t0;obtain⟨s1,e1,_⟩:=DataW.trod_string Try.underlying9 t1;obtain⟨s2,e2,_⟩:=DataW.trod_string Try.underlying9 t2;obtain⟨s3,e3,_⟩:=DataW.trod_string Try.underlying9 t3;obtain⟨xa,m,xc,e4,g1,_,g2⟩:=strs_any t4;obtain⟨s5,e5,_⟩:=DataW.trod_string Try.underlying9 t5;obtain⟨ka,ks,kc,e6,k1,_,k2⟩:=ih n' (by omega) t6;simp only[List.cons.injEq,and_true]at e0 e1 e2 e3 e4 e5 e6;subst e0 e1 e2 e3 e4 e5 e6;have gn:=nil_cap t4;have c0:=hcell 0 (by omega);have c1:=hcell 1 (by omega);have c2:=hcell 2 (by omega);have c3:=hcell 3 (by omega);have c4:=hcell 4 (by omega);have c5:=hcell 5 (by omega);have c6:=hcell 6 (by omega);obtain⟨b,o,rfl⟩:=hspot (by omega);have ad: ∀j,((⟨b,o,none⟩:Addr).add (i*7)).add j=⟨b,o+i*7+j,none⟩:=fun j=>by rw[Addr.add_mid,Addr.add_mid]
    rw[ad]at c0 c1 c2 c3 c4 c5 c6;exact⟨.mk kd s1 s2 s3 m s5 ks,b,o,xa,xc,ka,kc,rfl,⟨c0,c1,c2,c3,c4,c5,c6⟩,⟨g1,gn⟩,g2,k1,kids_mono k2 (by omega)⟩
   obtain⟨l,hll,hq⟩:=opn.list_of len key;subst hll;subst hn;unfold maxLen at hm;refine⟨some a,l,cap,hcs,hl,by omega,fun i hi=> ?_⟩;obtain⟨b,o,xa,xc,ka,kc,e,hc,h1,h2,h3,h4⟩:=hq i hi;exact⟨b,o,xa,xc,ka,kc,by rw[e],trivial,hc,h1,⟨h2,fun _ _ _=>trivial⟩,h3,h4⟩
theorem fl_of {r:Reach}{b0:Nat}{v:Value}{d:DataW H}{p:List MemPlace}(hv:Value.okWide Try.prog w r b0 25 v)(h:DataW.Trod enc Try.prog w base sp held 25 v d p): ∃ (F:Fl) (n:Nat),FlV w anyB n v F:=by obtain⟨cs,rfl,hsz⟩:=okWide_struct Try.underlying25 hv;obtain⟨v0,v1,v2,v3,v4,v5,v6,rfl⟩:=array7 (hsz.trans cellsFl);obtain⟨fuel,hf⟩:=h;obtain⟨n,y0,y1,y2,y3,y4,y5,y6,_,t0,t1,t2,t3,t4,t5,t6⟩:=fields_of (by simpa[Value.cells]using hf);obtain⟨kd,e0,_⟩:=DataW.trod_int Try.underlying3 t0;obtain⟨s1,e1,_⟩:=DataW.trod_string Try.underlying9 t1;obtain⟨s2,e2,_⟩:=DataW.trod_string Try.underlying9 t2;obtain⟨s3,e3,_⟩:=DataW.trod_string Try.underlying9 t3;obtain⟨xa,m,xc,e4,g1,_,g2⟩:=strs_any t4;obtain⟨s5,e5,_⟩:=DataW.trod_string Try.underlying9 t5;obtain⟨ka,ks,kc,e6,k1,_,k2⟩:=kids_of n t6;simp only[List.cons.injEq,and_true]at e0 e1 e2 e3 e4 e5 e6;subst e0 e1 e2 e3 e4 e5 e6;exact⟨.mk kd s1 s2 s3 m s5 ks,n,xa,xc,ka,kc,rfl,⟨g1,nil_cap t4⟩,⟨g2,fun _ _ _=>trivial⟩,k1,k2⟩
end
end flw
end Go.Proofs.Ytffkghkkobmhaaa
