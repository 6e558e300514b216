/- One text out of several: Kit, BuildS, B64P, BuildB, Shelf, LdEnc. -/
import Derived.WalkKit
import Derived.WalkSpells
import Derived.Lib.Hide
import Derived.Lib.UnsafeStr
import Derived.Lib.BufferRead
import Derived.Laws.BitsAllLaws
import Derived.IntWalk
import Derived.Lib.Builder
import Derived.Laws.IdiomStrings
import Derived.Laws.MakeOwn
import Derived.Deep.RegionHeld3
import Derived.Deep.RegionLaw
import Derived.Deep.RegionWith
import Derived.Deep.QuietTactic
import Derived.BigQuiet
import Derived.StillTailTactics
import Derived.RegionTactic
import Derived.ChangeAlike
import Derived.Lib.IndexBytes
import Derived.Lib.AppendZeros
import Derived.Test.YtmnpfkbjpeaemaaGreatDoorRows
import Derived.WalkLawsBesides
import Derived.Lib.AppendStr
import Derived.Shelf.Strings.Builder1
import Derived.Shelf.Strings.OnBuilder
import Derived.Shelf.Strings.Trim
import Derived.Shelf.Small.Strs
import Derived.Shelf.Small.Wraps
import Derived.Shelf.Utf8.AppendRunePlain
import Derived.Shelf.Strings.Search2
import Derived.Shelf.Strings.Cut
import Derived.Shelf.LaysM
import Derived.Shelf.Sort.Plain
import Derived.Shelf.Strings.Prefix
import Derived.Shelf.Strings.Split
import Derived.Shelf.Strings.Replace
import Derived.Shelf.Unicode.DecodeSlow
import Derived.Shelf.Strings.MapAny
import Derived.Shelf.Slices.Turned
import Derived.Shelf.Slices.Clone
import Derived.Shelf.Slices.CompactS
import Derived.Shelf.Slices.Delete
import Derived.Shelf.Slices.In.SortNone
import Derived.Shelf.Slices.Empties
import Derived.Test.YtmnpfkbjpeaemaaGreatDoorProg
set_option linter.unusedVariables false
set_option linter.unusedSimpArgs false
set_option maxRecDepth 20000
set_option maxHeartbeats 1000000
namespace Go.Proofs.YtmnpfkbjpeaemaaGreatDoor
open Go.RowKit
namespace kt
theorem ret_int {k:IntKind}{a b:Int}(h:a=b):Ending.returned (.int k a)= .returned (.int k b):=by rw[h]
theorem ret_bool {a b:Bool}(h:a=b):Ending.returned (.bool a)= .returned (.bool b):=by rw[h]
theorem ret_str {a b:ByteArray}(h:a=b):Ending.returned (.string a)= .returned (.string b):=by rw[h]
theorem str_eq {a b:ByteArray}(h:a.data.toList=b.data.toList):a=b:=by cases a;cases b;congr 1;exact Array.toList_inj.1 h
theorem take_snoc (s:ByteArray)(k:Nat)(h:k<s.size):s.data.toList.take (k+1)=s.data.toList.take k++[s[k]]:=by rw[List.take_succ_eq_append_getElem (by simpa using h)];rfl
theorem size_len (s:ByteArray):s.data.toList.length=s.size:=by simp
theorem row_slice {w:World}{B:Nat}{e:TypeId}{v:Value}{xs:List Value}(h:w.ownsRow B e 1 v xs.length xs): ∃ao cap,v= .slice ao xs.length cap∧(ao=none→xs=[]∧cap=0)∧xs.length≤cap:=by
 rcases h.2 with⟨rfl,h0⟩ | ⟨g,cap,cur,rfl,_,_,hc,_,_⟩
 ·have:xs=[]:=List.eq_nil_of_length_eq_zero h0;subst this;exact⟨none,0,rfl,fun _=>⟨rfl,rfl⟩,Nat.le_refl _⟩
 ·exact⟨_,cap,rfl,fun h=>by simp at h,hc⟩
theorem row_form {w:World}{B:Nat}{e:TypeId}{v:Value}{xs:List Value}(h:w.ownsRow B e 1 v xs.length xs): ∃ (ao:Option Addr) (n cap:Nat),v= .slice ao n cap∧Hid (n=xs.length):=by obtain⟨ao,cap,hv,_⟩:=row_slice h;exact⟨ao,_,cap,hv,rfl⟩
theorem app1 {P:Program}{t e ty:TypeId}{z:Value}{bytes:Nat}(ht:P.underlying t=some (.slice e))(hinfo:(P.info? e).map (fun i=>(i.zero,i.size,i.bytes))=some (some z,1,bytes))(hzs:z.cells.size=1)
  {w:World} {B:Nat} {v:Value} {xs:List Value} (x:Value) (hx:x.oneCell'=true) (hown:w.ownsRow B e 1 v xs.length xs) (h63:xs.length+1≤maxLen) (hb:(xs.length+1)*bytes≤140737488355328) (hbase:B≤w.heap.size):
  ∃v' w1,(Builtin.append_ #[t,t] ty #[v,.slice (some ⟨w.heap.size,0,none⟩) 1 1]).run P (w.alloc (.cells #[x] e))= .ok v' w1∧w1.ownsRow B e 1 v' (xs++[x]).length (xs++[x])∧w.grownBy w1 v.ownBlock∧Below B w w1:=by
 obtain⟨i0,hi,hz0,hz1,hz2⟩:=info_parts hinfo;obtain⟨v',w1,hrun,hown',hgr,_⟩:=run_append_own (P:=P) (w.alloc (.cells #[x] e)) B t ty e i0 z 1 bytes ht hi hz0 hz1 hz2 hzs (by omega) v xs.length xs (hown.alloc _) ⟨w.heap.size,0,none⟩ 1 1 [x] rfl
  (fun j u hj=>by
   match j,hj with
   | 0,hj=>simp at hj;subst hj;simp[Addr.add])
  (fun u hu=>by simp at hu;subst hu;exact hx) h63 hb (by simp;omega)
 have hlt: ∀k,v.ownBlock=some k→B≤k∧k<w.heap.size:=hown.lt;have hg:w.grownBy w1 v.ownBlock:=by
  refine⟨hgr.os,hgr.tape,hgr.output,?_,?_⟩
  ·have:=hgr.size;simp at this;omega
  ·intro k hk hne;rw[hgr.block k (by simp;omega) hne];exact Below.heap_alloc _ _ _ hk
 exact⟨v',w1,hrun,by simpa using hown',hg,(Below.refl B w).grown hg hbase (fun k hk=>(hlt k hk).1)⟩
theorem appN {P:Program}{t e ty:TypeId}{z:Value}{bytes:Nat}(ht:P.underlying t=some (.slice e))(hinfo:(P.info? e).map (fun i=>(i.zero,i.size,i.bytes))=some (some z,1,bytes))(hzs:z.cells.size=1)
  {w:World} {B:Nat} {v:Value} {xs:List Value} (ad:Addr) (m c:Nat) (news:List Value) (hl:news.length=m) (hnews: ∀j u,news[j]? =some u→w.cell? (ad.add j)=some u) (h1: ∀u∈news,u.oneCell'=true)
  (hown:w.ownsRow B e 1 v xs.length xs) (h63:xs.length+m≤maxLen) (hb:(xs.length+m)*bytes≤140737488355328) (hbase:B≤w.heap.size):
  ∃v' w1,(Builtin.append_ #[t,t] ty #[v,.slice (some ad) m c]).run P w= .ok v' w1∧w1.ownsRow B e 1 v' (xs++news).length (xs++news)∧w.grownBy w1 v.ownBlock∧Below B w w1:=by
 obtain⟨i0,hi,hz0,hz1,hz2⟩:=info_parts hinfo;obtain⟨v',w1,hrun,hown',hgr,_⟩:=run_append_own (P:=P) w B t ty e i0 z 1 bytes ht hi hz0 hz1 hz2 hzs (by omega) v xs.length xs hown ad m c news (by omega) hnews h1 h63 hb hbase;have hlt: ∀k,v.ownBlock=some k→B≤k∧k<w.heap.size:=hown.lt;exact⟨v',w1,hrun,by rw[List.length_append,hl];exact hown',hgr,(Below.refl B w).grown hgr hbase (fun k hk=>(hlt k hk).1)⟩
theorem str_of_row {P:Program}{src dst e:TypeId}(hs:P.underlying src=some (.slice e))(he:P.underlying e=some (.int .u8))(hd:P.underlying dst=some .string)
  {w:World} {B:Nat} {v:Value} {n:Nat} {l:List UInt8} (h:w.ownsRow B e 1 v n (Lib.byteCells l)):
  (convert src dst v).run P w= .ok (.string ⟨l.toArray⟩) w:=by
 have hn:l.length=n:=by have:=h.1;rw[Lib.byteCells_length]at this;omega
 rcases h.2 with⟨rfl,h0⟩ | ⟨g,cap,cur,rfl,_,hg,_,_,_,htk⟩
 ·have:l=[]:=List.eq_nil_of_length_eq_zero (by omega);subst this;exact Lib.run_convert_nil_bytes w src dst e 0 hs he hd
 ·rw[←hn];refine run_convert_bytes_back w src dst e ⟨g,0,none⟩ cap l hs he hd (Lib.bytes_of_row hg ?_);rw[Nat.mul_one,←hn]at htk;exact htk
theorem row_cell {w:World}{B:Nat}{e:TypeId}{g cap n:Nat}{xs:List Value}(h:w.ownsRow B e 1 (.slice (some ⟨g,0,none⟩) n cap) n xs)(i:Nat)(x:Value)(hx:xs[i]? =some x):w.cell? ⟨g,i,none⟩=some x:=by
 have:=h.cells (g:=g) rfl i x hx;have e1:(⟨g,0,none⟩:Addr).add i=⟨g,i,none⟩:=by
  unfold Addr.add;split
  ·rename_i h0;rw[h0]
  ·simp
 rw[e1]at this;exact this
theorem row_some {w:World}{B:Nat}{e:TypeId}{ao:Option Addr}{cap n:Nat}{xs:List Value}(h:w.ownsRow B e 1 (.slice ao n cap) n xs)(hne:0<n):
  ∃g,ao=some ⟨g,0,none⟩∧(∀ (j:Nat) (x:Value),xs[j]? =some x→w.cell? ⟨g,j,none⟩=some x)∧B≤g:=by
 rcases h.2 with⟨_,h0⟩ | ⟨g,cap',cur,hv,hBg,_⟩
 ·omega
 ·simp only[Value.slice.injEq]at hv;obtain⟨rfl,_,rfl⟩:=hv;exact⟨g,rfl,fun j x hx=>row_cell h j x hx,hBg⟩
theorem flip {P:Program}{f:FuncId}{args:Array Value}{w:World}{v:Value}(h:Calls P f args w fun e w'=>e= .returned v∧w=w'):Calls P f args w fun e w'=>e= .returned v∧w'=w:=h.mono fun _ _ ⟨he,hm⟩=>⟨he,hm.symm⟩
theorem step_append_run {P:Program}{w:World}{ops:Array Oper}{o:Oper}{a:Act}{K:Act→World→Prop}{Q:Exit→Act→World→Prop}{E:Prop}(hgd:o.guard=none)(s x:Operand)(t tn:TypeId)
  (ho:o.op= .call {callee:= .builtin .append,args:=#[s,x],argTypes:=#[t,tn]}) (vs vx:Value) (hs:a.eval s=vs) (hx:a.eval x=vx)
  (v':Value) (w':World) (hr:(Builtin.append_ #[t,tn] o.type #[vs,vx]).run P w= .ok v' w') (h:K (a.put o.dst v') w'):
  if Region.wanted o (yielded ops a.tmps)=true then Oper.wp P o a w K Q else E:=by
 have hw:Region.wanted o (yielded ops a.tmps)=true:=by simp[Region.wanted,hgd]
 rw[if_pos hw];exact Lib.wp_append_run w s x t tn ho vs vx hs hx v' w' hr h
theorem row_below {w w':World}{B:Nat}{e:TypeId}{v:Value}{n:Nat}{xs:List Value}(h:w.ownsRow B e 1 v n xs)(hb:Below w.heap.size w w'):w'.ownsRow B e 1 v n xs:=by
 refine⟨h.1,?_⟩;rcases h.2 with h0 | ⟨g,cap,cur,hv,hBg,hg,h1,h2,h3,h4⟩
 ·exact Or.inl h0
 ·refine Or.inr ⟨g,cap,cur,hv,hBg,?_,h1,h2,h3,h4⟩;rw[hb.block g (Nat.lt_of_not_le fun hge=>by simp[Array.getElem?_eq_none hge]at hg)];exact hg
theorem addr_add (b j:Nat):(⟨b,0,none⟩:Addr).add j=⟨b,j,none⟩:=by
 unfold Addr.add;split
 ·rename_i h0;rw[h0]
 ·simp
def ByteRow (w:World)(B:Nat)(l:List UInt8):Prop:=∀j (hj:j<l.length),w.cell? ⟨B,j,none⟩=some (.int .u8 (l[j].toNat:Int))∧w.frozen? ⟨B,j,none⟩=false
theorem byterow_set {w:World}{B:Nat}{l:List UInt8}(h:ByteRow w B l)(i:Nat)(x:UInt8):ByteRow (w.setCell ⟨B,i,none⟩ (.int .u8 (x.toNat:Int))) B (l.set i x):=by
 intro j hj;simp only[List.length_set]at hj;obtain⟨hc,hf⟩:=h j hj;refine⟨?_,?_⟩
 ·by_cases e:i=j
  ·subst e;rw[World.cell?_setCell_same _ _ _ hc];simp
  ·rw[World.cell?_setCell_other _ _ _ _ (by intro hh;apply e;injection hh),hc,List.getElem_set_ne e]
 ·rw[World.frozen?_setCell];exact hf
theorem byterow_str {P:Program}{src dst e:TypeId}(hs:P.underlying src=some (.slice e))(he:P.underlying e=some (.int .u8))(hd:P.underlying dst=some .string)
  {w:World} {B n cap:Nat} {l:List UInt8} (h:ByteRow w B l) (hn:n=l.length):(convert src dst (.slice (some ⟨B,0,none⟩) n cap)).run P w= .ok (.string ⟨l.toArray⟩) w:=by
 subst hn;exact run_convert_bytes_back w src dst e ⟨B,0,none⟩ cap l hs he hd (fun j hj=>by rw[addr_add];exact(h j hj).1)
theorem bytes_of {P:Program}{src dst e:TypeId}(hs:P.underlying src=some .string)(hd:P.underlying dst=some (.slice e))(he:P.underlying e=some (.int .u8))(w:World)(s:ByteArray):
  ∃ (W1:World) (cap:Nat),(convert src dst (.string s)).run P w= .ok (.slice (some ⟨w.heap.size,0,none⟩) s.size cap) W1∧ByteRow W1 w.heap.size s.data.toList∧Below w.heap.size w W1:=by
 refine⟨_,_,run_bytes_of_string w src dst e s hs hd he,?_,((Below.refl _ _).drew).alloc (Nat.le_refl _) _⟩;intro j hj;have hj':j<s.data.size:=by simpa using hj
 have hsz:s.size≤(bytesRow s (grownCap w s.size 0 e)).size:=by simp[bytesRow]
 refine⟨?_,?_⟩
 ·have h1:=World.cell?_alloc_mark w.drew (bytesRow s (grownCap w s.size 0 e)) e ((bytesRow s (grownCap w s.size 0 e)).size,(bytesRow s (grownCap w s.size 0 e)).size+1) j;rw[bytesRow_at s _ j hj']at h1;exact h1
 ·have h2:=World.frozen?_alloc_mark w.drew (bytesRow s (grownCap w s.size 0 e)) e (bytesRow s (grownCap w s.size 0 e)).size ((bytesRow s (grownCap w s.size 0 e)).size+1) j;refine h2.trans ?_;have: ¬ (bytesRow s (grownCap w s.size 0 e)).size≤j:=by have:s.data.size=s.size:=rfl;omega
  simp[this]
theorem ofInt64 (a:Nat)(ha:a<18446744073709551616):(BitVec.ofInt 64 (a:Int)).toNat=a:=by rw[BitVec.ofInt_natCast,BitVec.toNat_ofNat];exact Nat.mod_eq_of_lt (by omega)
theorem wrap_i64_nat (a:Nat)(ha:a<9223372036854775808):IntKind.i64.wrap (a:Int)=(a:Int):=by rw[IntKind.wrap_i64];omega
theorem i64_or_nat (a b:Nat)(ha:a<9223372036854775808)(hb:b<9223372036854775808):bits .or .i64 (a:Int) (b:Int)=((a||| b:Nat):Int):=by
 have hx:a||| b<2 ^ 63:=Nat.or_lt_two_pow (by omega) (by omega)
 show IntKind.i64.wrap ((BitVec.ofInt 64 (a:Int)||| BitVec.ofInt 64 (b:Int)).toNat:Int)=_;rw[BitVec.toNat_or,ofInt64 a (by omega),ofInt64 b (by omega)];exact wrap_i64_nat _ (by omega)
theorem i64_and_nat (a b:Nat)(ha:a<9223372036854775808)(hb:b<9223372036854775808):bits .and .i64 (a:Int) (b:Int)=((a&&&b:Nat):Int):=by have hx:a&&&b<2 ^ 63:=Nat.and_lt_two_pow _ (by omega);show IntKind.i64.wrap ((BitVec.ofInt 64 (a:Int)&&&BitVec.ofInt 64 (b:Int)).toNat:Int)=_;rw[BitVec.toNat_and,ofInt64 a (by omega),ofInt64 b (by omega)];exact wrap_i64_nat _ (by omega)
theorem i64_or_low (k a c:Nat)(hc:c<2 ^ k)(ha:2 ^ k*a+c<9223372036854775808):bits .or .i64 ((2 ^ k*a:Nat):Int) (c:Int)=((2 ^ k*a+c:Nat):Int):=by rw[i64_or_nat _ _ (by omega) (by omega),Nat.two_pow_add_eq_or_of_lt hc]
theorem i64_low (k a:Nat)(hk:2 ^ k≤9223372036854775808)(ha:a<9223372036854775808):bits .and .i64 (a:Int) ((2 ^ k-1:Nat):Int)=((a % 2 ^ k:Nat):Int):=by have:0<2 ^ k:=Nat.two_pow_pos k;rw[i64_and_nat _ _ ha (by omega),Nat.and_two_pow_sub_one_eq_mod]
end kt
open Go.RowKit
namespace bld
theorem sizeB:(Tryz.prog.info? 133).map (·.size)=some 2:=by kernel_rfl
theorem liesB:liesAt Tryz.prog Tryz.prog.depth 133 (2 / Tryz.prog.cellsOf 133) 0 133 1=true:=by kernel_rfl
theorem infoByte:(Tryz.prog.info? 5).map (fun i=>(i.zero,i.size,i.bytes))=some (some (.int .u8 0),1,1):=by kernel_rfl
abbrev Is (B b:Nat)(l:List UInt8)(w:World):Prop:=Lib.IsBuilder 133 5 B b (Lib.byteCells l) w
theorem copyCheck_used (b:Nat)(w:World)(h0:w.cell? ⟨b,0,none⟩=some (.pointer (some ⟨b,0,none⟩))):
  Calls Tryz.prog 167 #[.pointer (some ⟨b,0,none⟩)] w fun e w'=>e= .returned (.tuple #[])∧w=w':=by
 obtain⟨j,hj,_⟩:=Option.map_eq_some_iff.1 sizeB;have hne:=fun w':World=>Lib.run_neq_ptr_same (P:=Tryz.prog) w' (⟨b,0,none⟩:Addr) Tryz.underlying130 hj;go_enter Tryz.func167,Tryz.ntmps167;go_wp2;go_end0;exact⟨rfl,rfl⟩
theorem copyCheck_fresh (b:Nat)(w:World)(h0:w.cell? ⟨b,0,none⟩=some (.pointer none))(hsh:w.shape? b=some (133,2))(hfz:w.frozen? ⟨b,0,none⟩=false):
  Calls Tryz.prog 167 #[.pointer (some ⟨b,0,none⟩)] w fun e w'=>e= .returned (.tuple #[])∧w.setCell ⟨b,0,none⟩ (.pointer (some ⟨b,0,none⟩))=w':=by
 obtain⟨j,hj,hjs⟩:=Option.map_eq_some_iff.1 sizeB;have hne:=fun w':World=>Lib.run_neq_ptr_same (P:=Tryz.prog) w' (⟨b,0,none⟩:Addr) Tryz.underlying130 hj;go_enter Tryz.func167,Tryz.ntmps167;go_wp2;rw[Lib.run_to_unsafe w ⟨b,0,none⟩ Tryz.underlying130 Tryz.underlying228 hj (by rw[hjs];decide) hsh (Nat.zero_lt_succ 1)];simp only[Result.andThen];rw[Oper.upon_value];go_wp2;rw[run_callFunc_extern Tryz.func214 (by kernel_rfl) (by kernel_rfl) (by kernel_rfl) (e:=Extern.AbiNoEscape.same) (by kernel_rfl)];rw[Lib.run_noEscape];simp only[Result.andThen];rw[Oper.upon_value];go_wp2;rw[Lib.run_from_unsafe w ⟨b,0,none⟩ Tryz.underlying228 Tryz.underlying130 hj hsh liesB];simp only[Result.andThen];rw[Oper.upon_value];go_wp2;go_end0;exact⟨rfl,rfl⟩
theorem copyCheck_any (B b:Nat)(bs:List Value)(w:World)(h:Lib.IsBuilder 133 5 B b bs w):
  Calls Tryz.prog 167 #[.pointer (some ⟨b,0,none⟩)] w fun e w'=>e= .returned (.tuple #[])∧(Lib.BuilderAt 133 5 B b (.pointer (some ⟨b,0,none⟩)) bs w'∧Below B w w'):=by
 rcases h with h | h
 ·refine(copyCheck_fresh b w h.cell0 h.shape h.frozen0).mono ?_;rintro e w' ⟨rfl,rfl⟩;exact⟨rfl,h.used _,(Below.refl B w).setCell (p:=⟨b,0,none⟩) h.1 _⟩
 ·refine(copyCheck_used b w h.cell0).mono ?_;rintro e w' ⟨rfl,rfl⟩;exact⟨rfl,h,Below.refl B _⟩
theorem lt_of_heap {w:World}{b:Nat}{o:Obj}(h:w.heap[b]? =some o):b<w.heap.size:=by
 rcases Nat.lt_or_ge b w.heap.size with h' | h'
 ·exact h'
 ·simp[Array.getElem?_eq_none h']at h
theorem writeString_any (B b:Nat)(l:List UInt8)(t:ByteArray)(w:World)(h:Is B b l w)(hlen:l.length+t.size≤140737488355328)(hBw:B≤w.heap.size):
  Calls Tryz.prog 101 #[.pointer (some ⟨b,0,none⟩),.string t] w fun e w'=>e= .returned (.tuple #[.int .i64 (t.size:Int),.nilIface])∧(Is B b (l++t.data.toList) w'∧Below B w w'):=by
 have hbc:(Lib.byteCells l).length=l.length:=Lib.byteCells_length l;have hbc':Lib.byteCells (l++t.data.toList)=Lib.byteCells l++Lib.strCells t:=by rw[Lib.byteCells_append];rfl
 unfold Is;rw[hbc'];have h0:Lib.IsBuilder 133 5 B b (Lib.byteCells l) w:=h;clear h hbc';generalize Lib.byteCells l=bs at h0 hbc ⊢;have C:=Lib.hid (copyCheck_any B b bs w h0);clear h0;obtain⟨i0,hi,hz0,hz1,hz2⟩:=info_parts infoByte;go_enter Tryz.func101,Tryz.ntmps101;go_wp2_with fail;refine C.out.mono ?_;rintro e w1 ⟨rfl,h1,hb1⟩;obtain⟨hB,v,hbk,hown,hne⟩:=h1;have hsz:=hb1.size;have c0:w1.cell? ⟨b,0,none⟩=some (.pointer (some ⟨b,0,none⟩)):=by rw[Lib.cell_of_heap hbk];rfl
 have c1:w1.cell? ⟨b,1,none⟩=some v:=by rw[Lib.cell_of_heap hbk];rfl
 obtain⟨v',w2,hap,hown',hgr,_⟩:=Lib.run_append_own_string (P:=Tryz.prog) w1 B 131 9 131 5 i0 Tryz.underlying131 Tryz.underlying9 hi hz0 hz1 hz2 v bs.length bs hown t (by rw[hbc];unfold maxLen;omega) (by rw[hbc];omega) (by omega);have hlt:=lt_of_heap hbk;have hbk2:w2.heap[b]? =some (.cells #[.pointer (some ⟨b,0,none⟩),v] 133 (0,0)):=by rw[hgr.block b hlt (fun e=>hne e.symm)];exact hbk
 have hb2:Below B w1 w2:=(Below.refl B w1).grown hgr (by omega) (fun k hk=>(hown.lt k hk).1);have d1:w2.cell? ⟨b,1,none⟩=some v:=by rw[Lib.cell_of_heap hbk2];rfl
 have f1:w2.frozen? ⟨b,1,none⟩=false:=Lib.frozen_of_heap hbk2 1;have hown2:w2.ownsRow B 5 1 v' (bs++Lib.strCells t).length (bs++Lib.strCells t):=by rw[List.length_append,Lib.strCells_length];exact hown'
 obtain⟨ao,n,cap,rfl,hn⟩:=kt.row_form hown2;have H1:=Lib.hid hown2;have HB:=Lib.hid hbk2;clear hown' hown hbk2 hbk hne hgr C hown2;go_wp2_with (at_builtin;refine Lib.wpList_append_run _ rfl _ _ _ _ rfl _ _ rfl rfl _ _ hap ?_);go_ret2;exact⟨rfl,Or.inr (Lib.BuilderAt.put hB HB.out H1.out (by decide)),(hb1.trans hb2).setCell (p:=⟨b,1,none⟩) hB _⟩
theorem fresh (w:World):Is w.heap.size w.heap.size [] (w.alloc (.cells #[.pointer none,.slice none 0 0] 133)):=Lib.fresh_isBuilder _ _ w
end bld
namespace b64p
def digits:List UInt8:=[48,49,50,51,52,53,54,55,56,57,97,98,99,100,101,102]
def dg (n:Nat):UInt8:=digits.getD n 0
def hex:List UInt8→List UInt8
 | []=>[]
 | c::l=>dg (c.toNat / 16)::dg (c.toNat % 16)::hex l
theorem hex_append (a b:List UInt8):hex (a++b)=hex a++hex b:=by
 induction a with
 | nil=>rfl
 | cons c a ih=>simp[hex,ih]
theorem hex_length (l:List UInt8):(hex l).length=2*l.length:=by
 induction l with
 | nil=>rfl
 | cons c a ih=>simp[hex,ih];omega
def letters:List UInt8:=[65,66,67,68,69,70,71,72,73,74,75,76,77,78,79,80,81,82,83,84,85,86,87,88,89,90,97,98,99,100,101,102,103,104,105,106,107,108,109,110,111,112,113,114,115,116,117,118,119,120,121,122,48,49,50,51,52,53,54,55,56,57,43,47]
def lt (n:Nat):UInt8:=letters.getD (n % 64) 0
def numAt (l:List UInt8):Nat→Nat
 | 0=>0
 | j+1=>256*numAt l j+(l.getD j 0).toNat
def sign (n sz j:Nat):UInt8:=if sz<j then 61 else lt (n / 2 ^ (18-6*j))
def four (l:List UInt8):List UInt8:=(List.range 4).map (sign (numAt l 3) l.length)
def enc (l:List UInt8):List UInt8:=if h:l=[]then[]else four l++enc (l.drop 3)
termination_by l.length
decreasing_by
 have:l.length≠0:=fun e=>h (List.eq_nil_of_length_eq_zero e);simp;omega
theorem enc_nil:enc []=[]:=by unfold enc;simp
theorem enc_cons {l:List UInt8}(h:l≠[]):enc l=four l++enc (l.drop 3):=by
 conv=>lhs;unfold enc
 rw[dif_neg h]
theorem numAt_lt (l:List UInt8): ∀j,numAt l j<256 ^ j
 | 0=>by simp[numAt]
 | j+1=>by have:=numAt_lt l j;have h2:=(l.getD j 0).toNat_lt;simp only[numAt,Nat.pow_succ];omega
theorem four_length (l:List UInt8):(four l).length=4:=by simp[four]
theorem four_take (l:List UInt8)(j:Nat)(hj:j<4):(four l).take (j+1)=(four l).take j++[sign (numAt l 3) l.length j]:=by rw[List.take_succ_eq_append_getElem (by rw[four_length];exact hj)];simp[four]
theorem enc_length: ∀ (n:Nat) (l:List UInt8),l.length≤n→(enc l).length≤2*l.length+2∧(enc l).length % 4=0
 | 0,l,h=>by have:l=[]:=List.eq_nil_of_length_eq_zero (by omega);subst this;simp[enc_nil]
 | n+1,l,h=>by
  by_cases hl:l=[]
  ·subst hl;simp[enc_nil]
  ·have hpos:0<l.length:=List.length_pos_iff.2 hl;have ih:=enc_length n (l.drop 3) (by simp;omega);rw[enc_cons hl,List.length_append,four_length];simp only[List.length_drop]at ih;by_cases h3:l.length≤3
   ·have:(l.drop 3)=[]:=List.drop_eq_nil_of_le h3;rw[this,enc_nil];simp;omega
   ·omega
def valI (c:UInt8):Int:=if 48≤c.toNat∧c.toNat≤57 then c.toNat-48 else if 97≤c.toNat∧c.toNat≤102 then c.toNat-87 else if 65≤c.toNat∧c.toNat≤70 then c.toNat-55 else-1
theorem valI_le (c:UInt8): -1≤valI c∧valI c≤15:=by unfold valI;split<;>(try split)<;>(try split)<;>omega
def unhex:List UInt8→Option (List UInt8)
 | []=>some []
 | [_]=>none
 | a::b::r=>if valI a<0∨valI b<0 then none else(unhex r).map (UInt8.ofNat (16*valI a+valI b).toNat:: ·)
theorem unhex_odd: ∀ (n:Nat) (l:List UInt8),l.length≤n→l.length % 2=1→unhex l=none
 | _,[],_,h=>by simp at h
 | _,[_],_,_=>rfl
 | 0,_::_::_,h,_=>by simp at h
 | n+1,a::b::r,h,hm=>by simp only[unhex];rw[unhex_odd n r (by simp at h;omega) (by simp at hm;omega)];simp
theorem unhex_step (l:List UInt8)(i:Nat)(h:i+1<l.length):
  unhex (l.drop i)=if valI l[i]<0∨valI l[i+1]<0 then none else(unhex (l.drop (i+2))).map (UInt8.ofNat (16*valI l[i]+valI l[i+1]).toNat:: ·):=by
 rw[List.drop_eq_getElem_cons (i:=i) (by omega),List.drop_eq_getElem_cons (i:=i+1) h];rfl
def uhV (o:Option (List UInt8)):Value:=
 match o with
 | some l=> .tuple #[.string ⟨l.toArray⟩,.int .i64 0]
 | none=> .tuple #[.string ⟨#[]⟩,.int .i64 4]
end b64p
open Go.RowKit
namespace bld
theorem writeByte_cell (B b:Nat)(l:List UInt8)(c:UInt8)(w:World)(h:Is B b l w)(hlen:l.length+1≤140737488355328)(hBw:B≤w.heap.size):
  Calls Tryz.prog 128 #[.pointer (some ⟨b,0,none⟩),.int .u8 (c.toNat:Int)] w fun e w'=>e= .returned .nilIface∧(Is B b (l++[c]) w'∧Below B w w'):=by
 have hbc:(Lib.byteCells l).length=l.length:=Lib.byteCells_length l;have hbc':Lib.byteCells (l++[c])=Lib.byteCells l++[.int .u8 (c.toNat:Int)]:=by rw[Lib.byteCells_append];rfl
 unfold Is;rw[hbc'];have h0:Lib.IsBuilder 133 5 B b (Lib.byteCells l) w:=h;clear h hbc';generalize Lib.byteCells l=bs at h0 hbc ⊢;have C:=Lib.hid (copyCheck_any B b bs w h0);clear h0;go_enter Tryz.func128,Tryz.ntmps128;go_wp2_with fail;refine C.out.mono ?_;rintro e w1 ⟨rfl,h1,hb1⟩;obtain⟨hB,v,hbk,hown,hne⟩:=h1;have hsz:=hb1.size;have c0:w1.cell? ⟨b,0,none⟩=some (.pointer (some ⟨b,0,none⟩)):=by rw[Lib.cell_of_heap hbk];rfl
 have c1:w1.cell? ⟨b,1,none⟩=some v:=by rw[Lib.cell_of_heap hbk];rfl
 obtain⟨v',w2,hap,hown',hgr,hb2⟩:=kt.app1 (P:=Tryz.prog) (ty:=131) Tryz.underlying131 infoByte rfl (.int .u8 (c.toNat:Int)) rfl hown (by rw[hbc];unfold maxLen;omega) (by rw[hbc];omega) (by omega);have hlt:=lt_of_heap hbk;have hbk2:w2.heap[b]? =some (.cells #[.pointer (some ⟨b,0,none⟩),v] 133 (0,0)):=by rw[hgr.block b hlt (fun e=>hne e.symm)];exact hbk
 have d1:w2.cell? ⟨b,1,none⟩=some v:=by rw[Lib.cell_of_heap hbk2];rfl
 have f1:w2.frozen? ⟨b,1,none⟩=false:=Lib.frozen_of_heap hbk2 1;obtain⟨ao,n,cap,rfl,hn⟩:=kt.row_form hown';have H1:=Lib.hid hown';have H2:=Lib.hid hown;have HB:=Lib.hid hbk2;have HK:=Lib.hid hbk;have HN:=Lib.hid hne;have HG:=Lib.hid hgr;clear hown' hown hbk2 hbk hne hgr C;go_wp2_with (at_builtin;refine Lib.wpList_append_run _ rfl _ _ _ _ rfl _ _ rfl rfl _ _ hap ?_);go_ret;exact⟨rfl,Or.inr (Lib.BuilderAt.put hB HB.out H1.out (by decide)),(hb1.trans hb2).setCell (p:=⟨b,1,none⟩) hB _⟩
end bld
end Go.Proofs.YtmnpfkbjpeaemaaGreatDoor
namespace Go.Proofs
open Go.Shelf
def Tryz.lays170_ren:Go.Shelf.Ren:=⟨fun | 170=>129 | n=>n,fun | 70=>130 | 3=>3 | 0=>0 | 72=>133 | 37=>131 | 5=>5 | n=>n,fun | n=>n⟩
theorem Tryz.lays170:Go.Proofs.Lays.n170 Tryz.prog Tryz.lays170_ren:={
 mixed:=by kernel_rfl
 f170:=Tryz.func129.trans (congrArg some (by kernel_rfl))
 t0:=Tryz.underlying0
 a0:=Tryz.isAgg0
 z0:=Tryz.sizeOf0
 v0:=Tryz.zeroValue0
 t3:=Tryz.underlying3
 a3:=Tryz.isAgg3
 z3:=Tryz.sizeOf3
 v3:=Tryz.zeroValue3
 t37:=Tryz.underlying131
 a37:=Tryz.isAgg131
 z37:=Tryz.sizeOf131
 v37:=Tryz.zeroValue131
 t70:=Tryz.underlying130
 a70:=Tryz.isAgg130
 z70:=Tryz.sizeOf130
 v70:=Tryz.zeroValue130
 t72:=Tryz.underlying133
 a72:=Tryz.isAgg133
 z72:=Tryz.sizeOf133
 v72:=Tryz.zeroValue133}
open Go.RowKit in
theorem Tryz.Builder_Len (B b:Nat)(bs:List Value)(w:World)(h:Lib.IsBuilder 133 5 B b bs w):
  Calls Tryz.prog 129 #[.pointer (some ⟨b,0,none⟩)] w fun e w'=>e= .returned (.int .i64 bs.length)∧w'=w:=Any.Builder_Len Tryz.lays170 B b bs w h
def Tryz.lays169_ren:Go.Shelf.Ren:=⟨fun | 169=>105 | n=>n,fun | 70=>130 | 9=>9 | 0=>0 | 72=>133 | 37=>131 | 127=>198 | 3=>3 | 5=>5 | n=>n,fun | n=>n⟩
theorem Tryz.lays169:Go.Proofs.Lays.n169 Tryz.prog Tryz.lays169_ren:={
 mixed:=by kernel_rfl
 f169:=Tryz.func105.trans (congrArg some (by kernel_rfl))
 t0:=Tryz.underlying0
 a0:=Tryz.isAgg0
 z0:=Tryz.sizeOf0
 v0:=Tryz.zeroValue0
 t3:=Tryz.underlying3
 a3:=Tryz.isAgg3
 z3:=Tryz.sizeOf3
 v3:=Tryz.zeroValue3
 t9:=Tryz.underlying9
 a9:=Tryz.isAgg9
 z9:=Tryz.sizeOf9
 v9:=Tryz.zeroValue9
 t37:=Tryz.underlying131
 a37:=Tryz.isAgg131
 z37:=Tryz.sizeOf131
 v37:=Tryz.zeroValue131
 t70:=Tryz.underlying130
 a70:=Tryz.isAgg130
 z70:=Tryz.sizeOf130
 v70:=Tryz.zeroValue130
 t72:=Tryz.underlying133
 a72:=Tryz.isAgg133
 z72:=Tryz.sizeOf133
 v72:=Tryz.zeroValue133
 t127:=Tryz.underlying198
 a127:=Tryz.isAgg198
 z127:=Tryz.sizeOf198
 v127:=Tryz.zeroValue198}
theorem Tryz.Builder_Extra_169:Builder.Extra Tryz.prog Tryz.lays169_ren:={
 sizeBuilder:=by kernel_rfl
 liesBuilder:=by kernel_rfl
 t5:=Tryz.underlying5
 a5:=Tryz.isAgg5
 z5:=Tryz.sizeOf5
 v5:=Tryz.zeroValue5
 infoByte:=by kernel_rfl
 cellsByte:=by kernel_rfl
 sizeByte:=by kernel_rfl
 neB5:=by decide}
open Go.RowKit in
theorem Tryz.Builder_String_any (B b:Nat)(l:List UInt8)(w:World)(h:Lib.IsBuilder 133 5 B b (Lib.byteCells l) w)(hBw:B≤w.heap.size):
  Calls Tryz.prog 105 #[.pointer (some ⟨b,0,none⟩)] w fun e w'=>e= .returned (.string ⟨l.toArray⟩)∧Below B w w':=Any.Builder_String_any Tryz.lays169 Tryz.Builder_Extra_169 B b l w h hBw
def Tryz.lays156_ren:Go.Shelf.Ren:=⟨fun | 156=>165 | 165=>212 | 166=>101 | 169=>105 | 240=>167 | 241=>266 | 276=>214 | 277=>296 | n=>n,fun | 31=>35 | 9=>9 | 3=>3 | 4=>4 | 0=>0 | 20=>20 | 72=>133 | 76=>136 | 70=>130 | 37=>131 | 75=>135 | 127=>198 | 164=>228 | 5=>5 | 80=>93 | n=>n,fun | n=>n⟩
theorem Tryz.lays156:Go.Proofs.Lays.n156 Tryz.prog Tryz.lays156_ren:={
 mixed:=by kernel_rfl
 f156:=Tryz.func165.trans (congrArg some (by kernel_rfl))
 f165:=Tryz.func212.trans (congrArg some (by kernel_rfl))
 f166:=Tryz.func101.trans (congrArg some (by kernel_rfl))
 f169:=Tryz.func105.trans (congrArg some (by kernel_rfl))
 f240:=Tryz.func167.trans (congrArg some (by kernel_rfl))
 f241:=Tryz.func266.trans (congrArg some (by kernel_rfl))
 f276:=Tryz.func214.trans (congrArg some (by kernel_rfl))
 f277:=Tryz.func296.trans (congrArg some (by kernel_rfl))
 t0:=Tryz.underlying0
 a0:=Tryz.isAgg0
 z0:=Tryz.sizeOf0
 v0:=Tryz.zeroValue0
 t3:=Tryz.underlying3
 a3:=Tryz.isAgg3
 z3:=Tryz.sizeOf3
 v3:=Tryz.zeroValue3
 t4:=Tryz.underlying4
 a4:=Tryz.isAgg4
 z4:=Tryz.sizeOf4
 v4:=Tryz.zeroValue4
 t9:=Tryz.underlying9
 a9:=Tryz.isAgg9
 z9:=Tryz.sizeOf9
 v9:=Tryz.zeroValue9
 t20:=Tryz.underlying20
 a20:=Tryz.isAgg20
 z20:=Tryz.sizeOf20
 v20:=Tryz.zeroValue20
 t31:=Tryz.underlying35
 a31:=Tryz.isAgg35
 z31:=Tryz.sizeOf35
 v31:=Tryz.zeroValue35
 t37:=Tryz.underlying131
 a37:=Tryz.isAgg131
 z37:=Tryz.sizeOf131
 v37:=Tryz.zeroValue131
 t70:=Tryz.underlying130
 a70:=Tryz.isAgg130
 z70:=Tryz.sizeOf130
 v70:=Tryz.zeroValue130
 t72:=Tryz.underlying133
 a72:=Tryz.isAgg133
 z72:=Tryz.sizeOf133
 v72:=Tryz.zeroValue133
 t75:=Tryz.underlying135
 a75:=Tryz.isAgg135
 z75:=Tryz.sizeOf135
 v75:=Tryz.zeroValue135
 t76:=Tryz.underlying136
 a76:=Tryz.isAgg136
 z76:=Tryz.sizeOf136
 v76:=Tryz.zeroValue136
 t127:=Tryz.underlying198
 a127:=Tryz.isAgg198
 z127:=Tryz.sizeOf198
 v127:=Tryz.zeroValue198
 t164:=Tryz.underlying228
 a164:=Tryz.isAgg228
 z164:=Tryz.sizeOf228
 v164:=Tryz.zeroValue228}
theorem Tryz.Builder_Extra_156:Builder.Extra Tryz.prog Tryz.lays156_ren:={
 sizeBuilder:=by kernel_rfl
 liesBuilder:=by kernel_rfl
 t5:=Tryz.underlying5
 a5:=Tryz.isAgg5
 z5:=Tryz.sizeOf5
 v5:=Tryz.zeroValue5
 infoByte:=by kernel_rfl
 cellsByte:=by kernel_rfl
 sizeByte:=by kernel_rfl
 neB5:=by decide}
open Go.RowKit in
theorem Tryz.strings_Join_none (a:Option Addr)(c:Nat)(sep:ByteArray)(w:World):
  Calls Tryz.prog 165 #[.slice a 0 c,.string sep] w fun e w'=>e= .returned (.string ⟨#[]⟩)∧w'=w:=Any.strings_Join_none Tryz.lays156 Tryz.Builder_Extra_156 a c sep w
open Go.RowKit in
theorem Tryz.strings_Join (bk o c:Nat)(xs:List ByteArray)(sep:ByteArray)(w:World)(hcells: ∀ (j:Nat) x,xs[j]? =some x→w.cell? ⟨bk,o+j,none⟩=some (.string x))(hbk:bk<w.heap.size)(hN:xs.length≤140737488355328)(hcap:xs.length≤c)(hlen:(Lib.join (xs.map (·.data.toList)) sep.data.toList).length≤140737488355328):
  Calls Tryz.prog 165 #[.slice (some ⟨bk,o,none⟩) xs.length c,.string sep] w fun e w'=>e= .returned (.string ⟨(Lib.join (xs.map (·.data.toList)) sep.data.toList).toArray⟩)∧Below w.heap.size w w':=Any.strings_Join Tryz.lays156 Tryz.Builder_Extra_156 bk o c xs sep w hcells hbk hN hcap hlen
def Tryz.lays161_ren:Go.Shelf.Ren:=⟨fun | 161=>178 | 231=>221 | 227=>222 | 233=>223 | 235=>224 | 228=>269 | 197=>270 | 151=>271 | 260=>300 | 152=>301 | 137=>175 | 119=>317 | 224=>298 | 225=>297 | 217=>219 | 266=>268 | n=>n,fun | 9=>9 | 4=>4 | 3=>3 | 5=>5 | 117=>235 | 116=>234 | 0=>0 | 124=>238 | 105=>263 | 21=>21 | 119=>288 | 46=>44 | 139=>291 | 138=>290 | n=>n,fun | 3=>2 | 4=>3 | n=>n⟩
theorem Tryz.lays161:Go.Proofs.Lays.n161 Tryz.prog Tryz.lays161_ren:={
 mixed:=by kernel_rfl
 f119:=Tryz.func317.trans (congrArg some (by kernel_rfl))
 f137:=Tryz.func175.trans (congrArg some (by kernel_rfl))
 f151:=Tryz.func271.trans (congrArg some (by kernel_rfl))
 f152:=Tryz.func301.trans (congrArg some (by kernel_rfl))
 f161:=Tryz.func178.trans (congrArg some (by kernel_rfl))
 f197:=Tryz.func270.trans (congrArg some (by kernel_rfl))
 f217:=Tryz.func219.trans (congrArg some (by kernel_rfl))
 f224:=Tryz.func298.trans (congrArg some (by kernel_rfl))
 f225:=Tryz.func297.trans (congrArg some (by kernel_rfl))
 f227:=Tryz.func222.trans (congrArg some (by kernel_rfl))
 f228:=Tryz.func269.trans (congrArg some (by kernel_rfl))
 f231:=Tryz.func221.trans (congrArg some (by kernel_rfl))
 f233:=Tryz.func223.trans (congrArg some (by kernel_rfl))
 f235:=Tryz.func224.trans (congrArg some (by kernel_rfl))
 f260:=Tryz.func300.trans (congrArg some (by kernel_rfl))
 f266:=Tryz.func268.trans (congrArg some (by kernel_rfl))
 t0:=Tryz.underlying0
 a0:=Tryz.isAgg0
 z0:=Tryz.sizeOf0
 v0:=Tryz.zeroValue0
 t3:=Tryz.underlying3
 a3:=Tryz.isAgg3
 z3:=Tryz.sizeOf3
 v3:=Tryz.zeroValue3
 t4:=Tryz.underlying4
 a4:=Tryz.isAgg4
 z4:=Tryz.sizeOf4
 v4:=Tryz.zeroValue4
 t5:=Tryz.underlying5
 a5:=Tryz.isAgg5
 z5:=Tryz.sizeOf5
 v5:=Tryz.zeroValue5
 t9:=Tryz.underlying9
 a9:=Tryz.isAgg9
 z9:=Tryz.sizeOf9
 v9:=Tryz.zeroValue9
 t21:=Tryz.underlying21
 a21:=Tryz.isAgg21
 z21:=Tryz.sizeOf21
 v21:=Tryz.zeroValue21
 t46:=Tryz.underlying44
 a46:=Tryz.isAgg44
 z46:=Tryz.sizeOf44
 v46:=Tryz.zeroValue44
 t105:=Tryz.underlying263
 a105:=Tryz.isAgg263
 z105:=Tryz.sizeOf263
 v105:=Tryz.zeroValue263
 t116:=Tryz.underlying234
 a116:=Tryz.isAgg234
 z116:=Tryz.sizeOf234
 t117:=Tryz.underlying235
 a117:=Tryz.isAgg235
 z117:=Tryz.sizeOf235
 v117:=Tryz.zeroValue235
 t119:=Tryz.underlying288
 a119:=Tryz.isAgg288
 z119:=Tryz.sizeOf288
 t124:=Tryz.underlying238
 a124:=Tryz.isAgg238
 z124:=Tryz.sizeOf238
 v124:=Tryz.zeroValue238
 t138:=Tryz.underlying290
 a138:=Tryz.isAgg290
 z138:=Tryz.sizeOf290
 v138:=Tryz.zeroValue290
 t139:=Tryz.underlying291
 a139:=Tryz.isAgg291
 z139:=Tryz.sizeOf291
 v139:=Tryz.zeroValue291
 g3:=by kernel_rfl
 g4:=by kernel_rfl}
open Go.RowKit in
theorem Tryz.strings_TrimLeft_one (s:ByteArray)(c:UInt8)(hc:c.toNat<128)(w:World):
  Calls Tryz.prog 178 #[.string s,.string ⟨#[c]⟩] w fun e w'=>e= .returned (.string ⟨(Lib.trimLeftB s.data.toList c).toArray⟩)∧w'=w:=Any.strings_TrimLeft_one Tryz.lays161 s c hc w
def Tryz.lays137_ren:Go.Shelf.Ren:=⟨fun | 137=>175 | 217=>219 | 266=>268 | n=>n,fun | 9=>9 | 5=>5 | 3=>3 | n=>n,fun | n=>n⟩
theorem Tryz.lays137:Go.Proofs.Lays.n137 Tryz.prog Tryz.lays137_ren:={
 mixed:=by kernel_rfl
 f137:=Tryz.func175.trans (congrArg some (by kernel_rfl))
 f217:=Tryz.func219.trans (congrArg some (by kernel_rfl))
 f266:=Tryz.func268.trans (congrArg some (by kernel_rfl))
 t3:=Tryz.underlying3
 a3:=Tryz.isAgg3
 z3:=Tryz.sizeOf3
 v3:=Tryz.zeroValue3
 t5:=Tryz.underlying5
 a5:=Tryz.isAgg5
 z5:=Tryz.sizeOf5
 v5:=Tryz.zeroValue5
 t9:=Tryz.underlying9
 a9:=Tryz.isAgg9
 z9:=Tryz.sizeOf9
 v9:=Tryz.zeroValue9}
open Go.RowKit in
theorem Tryz.strings_IndexByte (s:ByteArray)(c:Int)(w:World):
  Calls Tryz.prog 175 #[.string s,.int .u8 c] w fun e w'=>e= .returned (.int .i64 (Lib.indexByte s.data.toList c.toNat.toUInt8))∧w'=w:=Any.strings_IndexByte Tryz.lays137 s c w
def Tryz.lays103_ren:Go.Shelf.Ren:=⟨fun | 103=>174 | 210=>218 | 206=>176 | n=>n,fun | 9=>9 | 4=>4 | 24=>158 | 3=>3 | n=>n,fun | n=>n⟩
theorem Tryz.lays103:Go.Proofs.Lays.n103 Tryz.prog Tryz.lays103_ren:={
 mixed:=by kernel_rfl
 f103:=Tryz.func174.trans (congrArg some (by kernel_rfl))
 f206:=Tryz.func176.trans (congrArg some (by kernel_rfl))
 f210:=Tryz.func218.trans (congrArg some (by kernel_rfl))
 t3:=Tryz.underlying3
 a3:=Tryz.isAgg3
 z3:=Tryz.sizeOf3
 v3:=Tryz.zeroValue3
 t4:=Tryz.underlying4
 a4:=Tryz.isAgg4
 z4:=Tryz.sizeOf4
 v4:=Tryz.zeroValue4
 t9:=Tryz.underlying9
 a9:=Tryz.isAgg9
 z9:=Tryz.sizeOf9
 v9:=Tryz.zeroValue9
 t24:=Tryz.underlying158
 a24:=Tryz.isAgg158
 z24:=Tryz.sizeOf158
 v24:=Tryz.zeroValue158}
open Go.RowKit in
theorem Tryz.strings_CutPrefix (s p:ByteArray)(w:World):
  Calls Tryz.prog 174 #[.string s,.string p] w fun e w'=>e= .returned (.tuple #[.string ⟨(Lib.trimPrefix s.data.toList p.data.toList).toArray⟩,.bool (Lib.hasPrefix s.data.toList p.data.toList)])∧w'=w:=Any.strings_CutPrefix Tryz.lays103 s p w
def Tryz.lays242_ren:Go.Shelf.Ren:=⟨fun | 242=>285 | 278=>312 | n=>n,fun | 37=>131 | 21=>21 | 51=>253 | 4=>4 | 5=>5 | 46=>44 | n=>n,fun | n=>n⟩
theorem Tryz.lays242:Go.Proofs.Lays.n242 Tryz.prog Tryz.lays242_ren:={
 mixed:=by kernel_rfl
 f242:=Tryz.func285.trans (congrArg some (by kernel_rfl))
 f278:=Tryz.func312.trans (congrArg some (by kernel_rfl))
 t4:=Tryz.underlying4
 a4:=Tryz.isAgg4
 z4:=Tryz.sizeOf4
 v4:=Tryz.zeroValue4
 t5:=Tryz.underlying5
 a5:=Tryz.isAgg5
 z5:=Tryz.sizeOf5
 v5:=Tryz.zeroValue5
 t21:=Tryz.underlying21
 a21:=Tryz.isAgg21
 z21:=Tryz.sizeOf21
 v21:=Tryz.zeroValue21
 t37:=Tryz.underlying131
 a37:=Tryz.isAgg131
 z37:=Tryz.sizeOf131
 v37:=Tryz.zeroValue131
 t46:=Tryz.underlying44
 a46:=Tryz.isAgg44
 z46:=Tryz.sizeOf44
 v46:=Tryz.zeroValue44
 t51:=Tryz.underlying253
 a51:=Tryz.isAgg253
 z51:=Tryz.sizeOf253
 v51:=Tryz.zeroValue253}
open Go.RowKit in
theorem Tryz.utf8_AppendRune_plain (B:Nat)(v:Value)(n:Nat)(xs:List Value)(r:Int)(hr0: -2147483648≤r)(hr1:r≤2147483647)(w:World)(hown:w.ownsRow B 5 1 v n xs)(hlen:n+4≤140737488355328)(hBw:B≤w.heap.size):
  Calls Tryz.prog 285 #[v,.int .i32 r] w fun e w'=> ∃v',e= .returned v'∧w'.ownsRow B 5 1 v' (n+(Lib.runeCells r).length) (xs++Lib.runeCells r)∧ ∃o,(w.alloc o).grownBy w' v.ownBlock:=Any.utf8_AppendRune_plain Tryz.lays242 (by kernel_rfl) B v n xs r hr0 hr1 w hown hlen hBw
def Tryz.lays219_ren:Go.Shelf.Ren:=⟨fun | 219=>267 | 217=>219 | 225=>297 | 224=>298 | 267=>299 | 266=>268 | 314=>316 | n=>n,fun | 9=>9 | 3=>3 | 4=>4 | 5=>5 | 46=>44 | 146=>286 | 51=>253 | n=>n,fun | 1=>1 | n=>n⟩
theorem Tryz.lays219:Go.Proofs.Lays.n219 Tryz.prog Tryz.lays219_ren:={
 mixed:=by kernel_rfl
 f217:=Tryz.func219.trans (congrArg some (by kernel_rfl))
 f219:=Tryz.func267.trans (congrArg some (by kernel_rfl))
 f224:=Tryz.func298.trans (congrArg some (by kernel_rfl))
 f225:=Tryz.func297.trans (congrArg some (by kernel_rfl))
 f266:=Tryz.func268.trans (congrArg some (by kernel_rfl))
 f267:=Tryz.func299.trans (congrArg some (by kernel_rfl))
 f314:=Tryz.func316.trans (congrArg some (by kernel_rfl))
 t3:=Tryz.underlying3
 a3:=Tryz.isAgg3
 z3:=Tryz.sizeOf3
 v3:=Tryz.zeroValue3
 t4:=Tryz.underlying4
 a4:=Tryz.isAgg4
 z4:=Tryz.sizeOf4
 v4:=Tryz.zeroValue4
 t5:=Tryz.underlying5
 a5:=Tryz.isAgg5
 z5:=Tryz.sizeOf5
 v5:=Tryz.zeroValue5
 t9:=Tryz.underlying9
 a9:=Tryz.isAgg9
 z9:=Tryz.sizeOf9
 v9:=Tryz.zeroValue9
 t46:=Tryz.underlying44
 a46:=Tryz.isAgg44
 z46:=Tryz.sizeOf44
 v46:=Tryz.zeroValue44
 t51:=Tryz.underlying253
 a51:=Tryz.isAgg253
 z51:=Tryz.sizeOf253
 v51:=Tryz.zeroValue253
 t146:=Tryz.underlying286
 a146:=Tryz.isAgg286
 z146:=Tryz.sizeOf286
 v146:=Tryz.zeroValue286
 g1:=by kernel_rfl}
open Go.RowKit Go.Lib in
theorem Tryz.stringslite_Index_one (s:ByteArray)(c:UInt8)(w:World):
  Calls Tryz.prog 267 #[.string s,.string ⟨#[c]⟩] w fun e w'=>e= .returned (.int .i64 (Lib.indexByte s.data.toList c))∧w'=w:=Any.stringslite_Index_one Tryz.lays219 s c w
def Tryz.lays190_ren:Go.Shelf.Ren:=⟨fun | 190=>116 | 125=>183 | 258=>182 | 128=>245 | 129=>246 | 302=>236 | 303=>237 | 304=>238 | 305=>239 | 306=>240 | 307=>241 | 308=>242 | 309=>243 | 310=>244 | 333=>277 | 329=>278 | 330=>279 | 334=>280 | 335=>281 | 336=>282 | 344=>310 | n=>n,fun | 31=>35 | 9=>9 | 3=>3 | 46=>44 | 0=>0 | 51=>253 | 53=>161 | 4=>4 | 183=>247 | 182=>246 | 131=>150 | 5=>5 | 218=>268 | 222=>272 | 228=>283 | 229=>218 | n=>n,fun | n=>n⟩
theorem Tryz.lays190:Go.Proofs.Lays.n190 Tryz.prog Tryz.lays190_ren:={
 mixed:=by kernel_rfl
 f125:=Tryz.func183.trans (congrArg some (by kernel_rfl))
 f128:=Tryz.func245.trans (congrArg some (by kernel_rfl))
 f129:=Tryz.func246.trans (congrArg some (by kernel_rfl))
 f190:=Tryz.func116.trans (congrArg some (by kernel_rfl))
 f258:=Tryz.func182.trans (congrArg some (by kernel_rfl))
 f302:=Tryz.func236.trans (congrArg some (by kernel_rfl))
 f303:=Tryz.func237.trans (congrArg some (by kernel_rfl))
 f304:=Tryz.func238.trans (congrArg some (by kernel_rfl))
 f305:=Tryz.func239.trans (congrArg some (by kernel_rfl))
 f306:=Tryz.func240.trans (congrArg some (by kernel_rfl))
 f307:=Tryz.func241.trans (congrArg some (by kernel_rfl))
 f308:=Tryz.func242.trans (congrArg some (by kernel_rfl))
 f309:=Tryz.func243.trans (congrArg some (by kernel_rfl))
 f310:=Tryz.func244.trans (congrArg some (by kernel_rfl))
 f329:=Tryz.func278.trans (congrArg some (by kernel_rfl))
 f330:=Tryz.func279.trans (congrArg some (by kernel_rfl))
 f333:=Tryz.func277.trans (congrArg some (by kernel_rfl))
 f334:=Tryz.func280.trans (congrArg some (by kernel_rfl))
 f335:=Tryz.func281.trans (congrArg some (by kernel_rfl))
 f336:=Tryz.func282.trans (congrArg some (by kernel_rfl))
 f344:=Tryz.func310.trans (congrArg some (by kernel_rfl))
 t0:=Tryz.underlying0
 a0:=Tryz.isAgg0
 z0:=Tryz.sizeOf0
 v0:=Tryz.zeroValue0
 t3:=Tryz.underlying3
 a3:=Tryz.isAgg3
 z3:=Tryz.sizeOf3
 v3:=Tryz.zeroValue3
 t4:=Tryz.underlying4
 a4:=Tryz.isAgg4
 z4:=Tryz.sizeOf4
 v4:=Tryz.zeroValue4
 t5:=Tryz.underlying5
 a5:=Tryz.isAgg5
 z5:=Tryz.sizeOf5
 v5:=Tryz.zeroValue5
 t9:=Tryz.underlying9
 a9:=Tryz.isAgg9
 z9:=Tryz.sizeOf9
 v9:=Tryz.zeroValue9
 t31:=Tryz.underlying35
 a31:=Tryz.isAgg35
 z31:=Tryz.sizeOf35
 v31:=Tryz.zeroValue35
 t46:=Tryz.underlying44
 a46:=Tryz.isAgg44
 z46:=Tryz.sizeOf44
 v46:=Tryz.zeroValue44
 t51:=Tryz.underlying253
 a51:=Tryz.isAgg253
 z51:=Tryz.sizeOf253
 v51:=Tryz.zeroValue253
 t53:=Tryz.underlying161
 a53:=Tryz.isAgg161
 z53:=Tryz.sizeOf161
 v53:=Tryz.zeroValue161
 t131:=Tryz.underlying150
 a131:=Tryz.isAgg150
 z131:=Tryz.sizeOf150
 v131:=Tryz.zeroValue150
 t182:=Tryz.underlying246
 a182:=Tryz.isAgg246
 z182:=Tryz.sizeOf246
 v182:=Tryz.zeroValue246
 t183:=Tryz.underlying247
 a183:=Tryz.isAgg247
 z183:=Tryz.sizeOf247
 v183:=Tryz.zeroValue247
 t218:=Tryz.underlying268
 a218:=Tryz.isAgg268
 z218:=Tryz.sizeOf268
 v218:=Tryz.zeroValue268
 t222:=Tryz.underlying272
 a222:=Tryz.isAgg272
 z222:=Tryz.sizeOf272
 v222:=Tryz.zeroValue272
 t228:=Tryz.underlying283
 a228:=Tryz.isAgg283
 z228:=Tryz.sizeOf283
 v228:=Tryz.zeroValue283
 t229:=Tryz.underlying218
 a229:=Tryz.isAgg218
 z229:=Tryz.sizeOf218
 v229:=Tryz.zeroValue218}
open Go.Sort Go.RowKit in
theorem Tryz.slices_Sort_string (blk off cap:Nat)(ss:List (List UInt8))(w:World)(hH:Holds encStr w blk off ss.toArray)(hblk:blk<w.heap.size)(hsz:ss.length<4611686018427387904):
  Calls Tryz.prog 116 #[.slice (some ⟨blk,off,none⟩) ss.length cap] w fun e w'=>
   e= .returned (.tuple #[])∧ ∃n os,w'=grow (putRow encStr (Sort.ahead w n) blk off (ss.mergeSort fun x y=>decide (x≤y)).toArray) os:=Any.slices_Sort_string Tryz.lays190 blk off cap ss w hH hblk hsz
def Tryz.lays99_ren:Go.Shelf.Ren:=⟨fun | 99=>108 | 206=>176 | n=>n,fun | 9=>9 | 4=>4 | 3=>3 | n=>n,fun | n=>n⟩
theorem Tryz.lays99:Go.Proofs.Lays.n99 Tryz.prog Tryz.lays99_ren:={
 mixed:=by kernel_rfl
 f99:=Tryz.func108.trans (congrArg some (by kernel_rfl))
 f206:=Tryz.func176.trans (congrArg some (by kernel_rfl))
 t3:=Tryz.underlying3
 a3:=Tryz.isAgg3
 z3:=Tryz.sizeOf3
 v3:=Tryz.zeroValue3
 t4:=Tryz.underlying4
 a4:=Tryz.isAgg4
 z4:=Tryz.sizeOf4
 v4:=Tryz.zeroValue4
 t9:=Tryz.underlying9
 a9:=Tryz.isAgg9
 z9:=Tryz.sizeOf9
 v9:=Tryz.zeroValue9}
open Go.RowKit Go.Lib in
theorem Tryz.strings_HasPrefix (s p:ByteArray)(w:World):
  Calls Tryz.prog 108 #[.string s,.string p] w fun e w'=>e= .returned (.bool (Lib.hasPrefix s.data.toList p.data.toList))∧w'=w:=Any.strings_HasPrefix Tryz.lays99 s p w
def Tryz.lays100_ren:Go.Shelf.Ren:=⟨fun | 100=>169 | 207=>215 | n=>n,fun | 9=>9 | 4=>4 | 3=>3 | n=>n,fun | n=>n⟩
theorem Tryz.lays100:Go.Proofs.Lays.n100 Tryz.prog Tryz.lays100_ren:={
 mixed:=by kernel_rfl
 f100:=Tryz.func169.trans (congrArg some (by kernel_rfl))
 f207:=Tryz.func215.trans (congrArg some (by kernel_rfl))
 t3:=Tryz.underlying3
 a3:=Tryz.isAgg3
 z3:=Tryz.sizeOf3
 v3:=Tryz.zeroValue3
 t4:=Tryz.underlying4
 a4:=Tryz.isAgg4
 z4:=Tryz.sizeOf4
 v4:=Tryz.zeroValue4
 t9:=Tryz.underlying9
 a9:=Tryz.isAgg9
 z9:=Tryz.sizeOf9
 v9:=Tryz.zeroValue9}
open Go.RowKit Go.Lib in
theorem Tryz.strings_HasSuffix (s p:ByteArray)(w:World)(hs:s.size≤9223372036854775807):
  Calls Tryz.prog 169 #[.string s,.string p] w fun e w'=>e= .returned (.bool (Lib.hasSuffix s.data.toList p.data.toList))∧w'=w:=Any.strings_HasSuffix Tryz.lays100 s p w hs
def Tryz.lays101_ren:Go.Shelf.Ren:=⟨fun | 101=>315 | 208=>326 | 206=>176 | n=>n,fun | 9=>9 | 4=>4 | 3=>3 | n=>n,fun | n=>n⟩
theorem Tryz.lays101:Go.Proofs.Lays.n101 Tryz.prog Tryz.lays101_ren:={
 mixed:=by kernel_rfl
 f101:=Tryz.func315.trans (congrArg some (by kernel_rfl))
 f206:=Tryz.func176.trans (congrArg some (by kernel_rfl))
 f208:=Tryz.func326.trans (congrArg some (by kernel_rfl))
 t3:=Tryz.underlying3
 a3:=Tryz.isAgg3
 z3:=Tryz.sizeOf3
 v3:=Tryz.zeroValue3
 t4:=Tryz.underlying4
 a4:=Tryz.isAgg4
 z4:=Tryz.sizeOf4
 v4:=Tryz.zeroValue4
 t9:=Tryz.underlying9
 a9:=Tryz.isAgg9
 z9:=Tryz.sizeOf9
 v9:=Tryz.zeroValue9}
open Go.RowKit Go.Lib in
theorem Tryz.strings_TrimPrefix (s p:ByteArray)(w:World):
  Calls Tryz.prog 315 #[.string s,.string p] w fun e w'=>e= .returned (.string ⟨(Lib.trimPrefix s.data.toList p.data.toList).toArray⟩)∧w'=w:=Any.strings_TrimPrefix Tryz.lays101 s p w
def Tryz.lays102_ren:Go.Shelf.Ren:=⟨fun | 102=>173 | 209=>217 | 207=>215 | n=>n,fun | 9=>9 | 4=>4 | 3=>3 | n=>n,fun | n=>n⟩
theorem Tryz.lays102:Go.Proofs.Lays.n102 Tryz.prog Tryz.lays102_ren:={
 mixed:=by kernel_rfl
 f102:=Tryz.func173.trans (congrArg some (by kernel_rfl))
 f207:=Tryz.func215.trans (congrArg some (by kernel_rfl))
 f209:=Tryz.func217.trans (congrArg some (by kernel_rfl))
 t3:=Tryz.underlying3
 a3:=Tryz.isAgg3
 z3:=Tryz.sizeOf3
 v3:=Tryz.zeroValue3
 t4:=Tryz.underlying4
 a4:=Tryz.isAgg4
 z4:=Tryz.sizeOf4
 v4:=Tryz.zeroValue4
 t9:=Tryz.underlying9
 a9:=Tryz.isAgg9
 z9:=Tryz.sizeOf9
 v9:=Tryz.zeroValue9}
open Go.RowKit Go.Lib in
theorem Tryz.strings_TrimSuffix (s p:ByteArray)(w:World)(hs:s.size≤9223372036854775807):
  Calls Tryz.prog 173 #[.string s,.string p] w fun e w'=>e= .returned (.string ⟨(Lib.trimSuffix s.data.toList p.data.toList).toArray⟩)∧w'=w:=Any.strings_TrimSuffix Tryz.lays102 s p w hs
def Tryz.lays146_ren:Go.Shelf.Ren:=⟨fun | 146=>193 | 221=>258 | 268=>286 | 138=>287 | 143=>288 | 195=>313 | 197=>270 | 218=>314 | 219=>267 | 260=>300 | 217=>219 | 225=>297 | 224=>298 | 267=>299 | 266=>268 | 314=>316 | n=>n,fun | 9=>9 | 31=>35 | 3=>3 | 4=>4 | 0=>0 | 105=>263 | 21=>21 | 5=>5 | 46=>44 | 119=>288 | 139=>291 | 138=>290 | 146=>286 | 51=>253 | n=>n,fun | 1=>1 | 3=>2 | 4=>3 | n=>n⟩
theorem Tryz.lays146:Go.Proofs.Lays.n146 Tryz.prog Tryz.lays146_ren:={
 mixed:=by kernel_rfl
 f138:=Tryz.func287.trans (congrArg some (by kernel_rfl))
 f143:=Tryz.func288.trans (congrArg some (by kernel_rfl))
 f146:=Tryz.func193.trans (congrArg some (by kernel_rfl))
 f195:=Tryz.func313.trans (congrArg some (by kernel_rfl))
 f197:=Tryz.func270.trans (congrArg some (by kernel_rfl))
 f217:=Tryz.func219.trans (congrArg some (by kernel_rfl))
 f218:=Tryz.func314.trans (congrArg some (by kernel_rfl))
 f219:=Tryz.func267.trans (congrArg some (by kernel_rfl))
 f221:=Tryz.func258.trans (congrArg some (by kernel_rfl))
 f224:=Tryz.func298.trans (congrArg some (by kernel_rfl))
 f225:=Tryz.func297.trans (congrArg some (by kernel_rfl))
 f260:=Tryz.func300.trans (congrArg some (by kernel_rfl))
 f266:=Tryz.func268.trans (congrArg some (by kernel_rfl))
 f267:=Tryz.func299.trans (congrArg some (by kernel_rfl))
 f268:=Tryz.func286.trans (congrArg some (by kernel_rfl))
 f314:=Tryz.func316.trans (congrArg some (by kernel_rfl))
 t0:=Tryz.underlying0
 a0:=Tryz.isAgg0
 z0:=Tryz.sizeOf0
 v0:=Tryz.zeroValue0
 t3:=Tryz.underlying3
 a3:=Tryz.isAgg3
 z3:=Tryz.sizeOf3
 v3:=Tryz.zeroValue3
 t4:=Tryz.underlying4
 a4:=Tryz.isAgg4
 z4:=Tryz.sizeOf4
 v4:=Tryz.zeroValue4
 t5:=Tryz.underlying5
 a5:=Tryz.isAgg5
 z5:=Tryz.sizeOf5
 v5:=Tryz.zeroValue5
 t9:=Tryz.underlying9
 a9:=Tryz.isAgg9
 z9:=Tryz.sizeOf9
 v9:=Tryz.zeroValue9
 t21:=Tryz.underlying21
 a21:=Tryz.isAgg21
 z21:=Tryz.sizeOf21
 v21:=Tryz.zeroValue21
 t31:=Tryz.underlying35
 a31:=Tryz.isAgg35
 z31:=Tryz.sizeOf35
 v31:=Tryz.zeroValue35
 t46:=Tryz.underlying44
 a46:=Tryz.isAgg44
 z46:=Tryz.sizeOf44
 v46:=Tryz.zeroValue44
 t51:=Tryz.underlying253
 a51:=Tryz.isAgg253
 z51:=Tryz.sizeOf253
 v51:=Tryz.zeroValue253
 t105:=Tryz.underlying263
 a105:=Tryz.isAgg263
 z105:=Tryz.sizeOf263
 v105:=Tryz.zeroValue263
 t119:=Tryz.underlying288
 a119:=Tryz.isAgg288
 z119:=Tryz.sizeOf288
 t138:=Tryz.underlying290
 a138:=Tryz.isAgg290
 z138:=Tryz.sizeOf290
 v138:=Tryz.zeroValue290
 t139:=Tryz.underlying291
 a139:=Tryz.isAgg291
 z139:=Tryz.sizeOf291
 v139:=Tryz.zeroValue291
 t146:=Tryz.underlying286
 a146:=Tryz.isAgg286
 z146:=Tryz.sizeOf286
 v146:=Tryz.zeroValue286
 g1:=by kernel_rfl
 g3:=by kernel_rfl
 g4:=by kernel_rfl}
open Go.RowKit Go.Lib in
theorem Tryz.strings_Split (s sep:ByteArray)(m:Int)(w:World)(hs:s.size<4294967281)(hm:w.cell? ⟨1,0,none⟩=some (.int .i64 m))(h1:1≤sep.size):
  Calls Tryz.prog 193 #[.string s,.string sep] w fun e w'=>
   e= .returned (.slice (some ⟨w.heap.size,0,none⟩) (Lib.countB s sep+1) (Lib.countB s sep+1))∧w'=w.alloc (.cells ((Lib.splitB sep 0 (Lib.countB s sep) s).map Value.string).toArray 9):=Any.strings_Split Tryz.lays146 (by kernel_rfl) s sep m w hs hm h1
def Tryz.lays155_ren:Go.Shelf.Ren:=⟨fun | 155=>284 | 154=>311 | 138=>287 | 165=>212 | 143=>288 | 166=>101 | 197=>270 | 169=>105 | 195=>313 | 218=>314 | 240=>167 | 241=>266 | 219=>267 | 260=>300 | 276=>214 | 277=>296 | 217=>219 | 225=>297 | 224=>298 | 267=>299 | 266=>268 | 314=>316 | n=>n,fun | 9=>9 | 3=>3 | 4=>4 | 72=>133 | 0=>0 | 76=>136 | 105=>263 | 21=>21 | 5=>5 | 70=>130 | 20=>20 | 37=>131 | 75=>135 | 127=>198 | 164=>228 | 46=>44 | 119=>288 | 139=>291 | 138=>290 | 146=>286 | 51=>253 | 80=>93 | n=>n,fun | 1=>1 | 3=>2 | 4=>3 | n=>n⟩
theorem Tryz.lays155:Go.Proofs.Lays.n155 Tryz.prog Tryz.lays155_ren:={
 mixed:=by kernel_rfl
 f138:=Tryz.func287.trans (congrArg some (by kernel_rfl))
 f143:=Tryz.func288.trans (congrArg some (by kernel_rfl))
 f154:=Tryz.func311.trans (congrArg some (by kernel_rfl))
 f155:=Tryz.func284.trans (congrArg some (by kernel_rfl))
 f165:=Tryz.func212.trans (congrArg some (by kernel_rfl))
 f166:=Tryz.func101.trans (congrArg some (by kernel_rfl))
 f169:=Tryz.func105.trans (congrArg some (by kernel_rfl))
 f195:=Tryz.func313.trans (congrArg some (by kernel_rfl))
 f197:=Tryz.func270.trans (congrArg some (by kernel_rfl))
 f217:=Tryz.func219.trans (congrArg some (by kernel_rfl))
 f218:=Tryz.func314.trans (congrArg some (by kernel_rfl))
 f219:=Tryz.func267.trans (congrArg some (by kernel_rfl))
 f224:=Tryz.func298.trans (congrArg some (by kernel_rfl))
 f225:=Tryz.func297.trans (congrArg some (by kernel_rfl))
 f240:=Tryz.func167.trans (congrArg some (by kernel_rfl))
 f241:=Tryz.func266.trans (congrArg some (by kernel_rfl))
 f260:=Tryz.func300.trans (congrArg some (by kernel_rfl))
 f266:=Tryz.func268.trans (congrArg some (by kernel_rfl))
 f267:=Tryz.func299.trans (congrArg some (by kernel_rfl))
 f276:=Tryz.func214.trans (congrArg some (by kernel_rfl))
 f277:=Tryz.func296.trans (congrArg some (by kernel_rfl))
 f314:=Tryz.func316.trans (congrArg some (by kernel_rfl))
 t0:=Tryz.underlying0
 a0:=Tryz.isAgg0
 z0:=Tryz.sizeOf0
 v0:=Tryz.zeroValue0
 t3:=Tryz.underlying3
 a3:=Tryz.isAgg3
 z3:=Tryz.sizeOf3
 v3:=Tryz.zeroValue3
 t4:=Tryz.underlying4
 a4:=Tryz.isAgg4
 z4:=Tryz.sizeOf4
 v4:=Tryz.zeroValue4
 t5:=Tryz.underlying5
 a5:=Tryz.isAgg5
 z5:=Tryz.sizeOf5
 v5:=Tryz.zeroValue5
 t9:=Tryz.underlying9
 a9:=Tryz.isAgg9
 z9:=Tryz.sizeOf9
 v9:=Tryz.zeroValue9
 t20:=Tryz.underlying20
 a20:=Tryz.isAgg20
 z20:=Tryz.sizeOf20
 v20:=Tryz.zeroValue20
 t21:=Tryz.underlying21
 a21:=Tryz.isAgg21
 z21:=Tryz.sizeOf21
 v21:=Tryz.zeroValue21
 t37:=Tryz.underlying131
 a37:=Tryz.isAgg131
 z37:=Tryz.sizeOf131
 v37:=Tryz.zeroValue131
 t46:=Tryz.underlying44
 a46:=Tryz.isAgg44
 z46:=Tryz.sizeOf44
 v46:=Tryz.zeroValue44
 t51:=Tryz.underlying253
 a51:=Tryz.isAgg253
 z51:=Tryz.sizeOf253
 v51:=Tryz.zeroValue253
 t70:=Tryz.underlying130
 a70:=Tryz.isAgg130
 z70:=Tryz.sizeOf130
 v70:=Tryz.zeroValue130
 t72:=Tryz.underlying133
 a72:=Tryz.isAgg133
 z72:=Tryz.sizeOf133
 v72:=Tryz.zeroValue133
 t75:=Tryz.underlying135
 a75:=Tryz.isAgg135
 z75:=Tryz.sizeOf135
 v75:=Tryz.zeroValue135
 t76:=Tryz.underlying136
 a76:=Tryz.isAgg136
 z76:=Tryz.sizeOf136
 v76:=Tryz.zeroValue136
 t105:=Tryz.underlying263
 a105:=Tryz.isAgg263
 z105:=Tryz.sizeOf263
 v105:=Tryz.zeroValue263
 t119:=Tryz.underlying288
 a119:=Tryz.isAgg288
 z119:=Tryz.sizeOf288
 t127:=Tryz.underlying198
 a127:=Tryz.isAgg198
 z127:=Tryz.sizeOf198
 v127:=Tryz.zeroValue198
 t138:=Tryz.underlying290
 a138:=Tryz.isAgg290
 z138:=Tryz.sizeOf290
 v138:=Tryz.zeroValue290
 t139:=Tryz.underlying291
 a139:=Tryz.isAgg291
 z139:=Tryz.sizeOf291
 v139:=Tryz.zeroValue291
 t146:=Tryz.underlying286
 a146:=Tryz.isAgg286
 z146:=Tryz.sizeOf286
 v146:=Tryz.zeroValue286
 t164:=Tryz.underlying228
 a164:=Tryz.isAgg228
 z164:=Tryz.sizeOf228
 v164:=Tryz.zeroValue228
 g1:=by kernel_rfl
 g3:=by kernel_rfl
 g4:=by kernel_rfl}
theorem Tryz.Builder_Extra_155:Builder.Extra Tryz.prog Tryz.lays155_ren:={
 sizeBuilder:=by kernel_rfl
 liesBuilder:=by kernel_rfl
 t5:=Tryz.underlying5
 a5:=Tryz.isAgg5
 z5:=Tryz.sizeOf5
 v5:=Tryz.zeroValue5
 infoByte:=by kernel_rfl
 cellsByte:=by kernel_rfl
 sizeByte:=by kernel_rfl
 neB5:=by decide}
open Go.RowKit Go.Lib in
theorem Tryz.strings_ReplaceAll (s old new:ByteArray)(m:Int)(w:World)(hs:s.size<4294967281)(hm:w.cell? ⟨1,0,none⟩=some (.int .i64 m))(h1:1≤old.size)(hlen:s.size+Lib.countB s old*new.size≤140737488355328):
  Calls Tryz.prog 284 #[.string s,.string old,.string new] w fun e w'=>
   e= .returned (.string ⟨(Lib.replaceAll s.data.toList old.data.toList new.data.toList).toArray⟩)∧Below w.heap.size w w':=Any.strings_ReplaceAll Tryz.lays155 Tryz.Builder_Extra_155 s old new m w hs hm h1 hlen
def Tryz.laysM146_ren:Go.Shelf.Ren:=⟨fun | 146=>193 | 221=>258 | 268=>286 | 138=>287 | 143=>288 | 195=>313 | 197=>270 | 218=>314 | 219=>267 | 260=>300 | 217=>219 | 225=>297 | 224=>298 | 267=>299 | 266=>268 | 314=>316 | n=>n,fun | 9=>9 | 31=>35 | 3=>3 | 4=>4 | 0=>0 | 105=>263 | 21=>21 | 5=>5 | 46=>44 | 119=>288 | 139=>291 | 138=>290 | 146=>286 | 51=>253 | n=>n,fun | 1=>1 | 3=>2 | 4=>3 | n=>n⟩
theorem Tryz.laysM146:Go.Proofs.LaysM.n146 Tryz.prog Tryz.laysM146_ren:={
 mixed:=by kernel_rfl
 f138:=Tryz.func287.trans (congrArg some (by kernel_rfl))
 f143:=Tryz.func288.trans (congrArg some (by kernel_rfl))
 f146:=Tryz.func193.trans (congrArg some (by kernel_rfl))
 f195:=Tryz.func313.trans (congrArg some (by kernel_rfl))
 f197:=Tryz.func270.trans (congrArg some (by kernel_rfl))
 f217:=Tryz.func219.trans (congrArg some (by kernel_rfl))
 f218:=Tryz.func314.trans (congrArg some (by kernel_rfl))
 f219:=Tryz.func267.trans (congrArg some (by kernel_rfl))
 f221:=Tryz.func258.trans (congrArg some (by kernel_rfl))
 f224:=Tryz.func298.trans (congrArg some (by kernel_rfl))
 f225:=Tryz.func297.trans (congrArg some (by kernel_rfl))
 f260:=Tryz.func300.trans (congrArg some (by kernel_rfl))
 f266:=Tryz.func268.trans (congrArg some (by kernel_rfl))
 f267:=Tryz.func299.trans (congrArg some (by kernel_rfl))
 f268:=Tryz.func286.trans (congrArg some (by kernel_rfl))
 f314:=Tryz.func316.trans (congrArg some (by kernel_rfl))
 t0:=Tryz.underlying0
 a0:=Tryz.isAgg0
 z0:=Tryz.sizeOf0
 v0:=Tryz.zeroValue0
 t3:=Tryz.underlying3
 a3:=Tryz.isAgg3
 z3:=Tryz.sizeOf3
 v3:=Tryz.zeroValue3
 t4:=Tryz.underlying4
 a4:=Tryz.isAgg4
 z4:=Tryz.sizeOf4
 v4:=Tryz.zeroValue4
 t5:=Tryz.underlying5
 a5:=Tryz.isAgg5
 z5:=Tryz.sizeOf5
 v5:=Tryz.zeroValue5
 t9:=Tryz.underlying9
 a9:=Tryz.isAgg9
 z9:=Tryz.sizeOf9
 v9:=Tryz.zeroValue9
 t21:=Tryz.underlying21
 a21:=Tryz.isAgg21
 z21:=Tryz.sizeOf21
 v21:=Tryz.zeroValue21
 t31:=Tryz.underlying35
 a31:=Tryz.isAgg35
 z31:=Tryz.sizeOf35
 v31:=Tryz.zeroValue35
 t46:=Tryz.underlying44
 a46:=Tryz.isAgg44
 z46:=Tryz.sizeOf44
 v46:=Tryz.zeroValue44
 t51:=Tryz.underlying253
 a51:=Tryz.isAgg253
 z51:=Tryz.sizeOf253
 v51:=Tryz.zeroValue253
 t105:=Tryz.underlying263
 a105:=Tryz.isAgg263
 z105:=Tryz.sizeOf263
 v105:=Tryz.zeroValue263
 t119:=Tryz.underlying288
 a119:=Tryz.isAgg288
 z119:=Tryz.sizeOf288
 t138:=Tryz.underlying290
 a138:=Tryz.isAgg290
 z138:=Tryz.sizeOf290
 v138:=Tryz.zeroValue290
 t139:=Tryz.underlying291
 a139:=Tryz.isAgg291
 z139:=Tryz.sizeOf291
 v139:=Tryz.zeroValue291
 t146:=Tryz.underlying286
 a146:=Tryz.isAgg286
 z146:=Tryz.sizeOf286
 v146:=Tryz.zeroValue286
 g1:=by kernel_rfl
 g3:=by kernel_rfl
 g4:=by kernel_rfl
 i0:=by kernel_rfl
 i3:=by kernel_rfl
 i4:=by kernel_rfl
 i5:=by kernel_rfl
 i9:=by kernel_rfl
 i21:=by kernel_rfl
 i31:=by kernel_rfl
 i46:=by kernel_rfl
 i51:=by kernel_rfl
 i105:=by kernel_rfl
 i138:=by kernel_rfl
 i139:=by kernel_rfl
 i146:=by kernel_rfl
 m1:=by kernel_rfl
 s1_3:=fun w h=>Go.Proofs.cell_of_shapedOpen_int (zero:=#[.int .i64 0]) (t:=3) h (of_decide_eq_true (by kernel_rfl)) (by kernel_rfl) rfl (by kernel_rfl) (by kernel_rfl) Tryz.underlying3
 m3:=by kernel_rfl
 m4:=by kernel_rfl}
def Tryz.lays260_ren:Go.Shelf.Ren:=⟨fun | 260=>300 | n=>n,fun | 9=>9 | 21=>21 | 3=>3 | 4=>4 | 5=>5 | 119=>288 | 0=>0 | 46=>44 | 139=>291 | 138=>290 | n=>n,fun | 3=>2 | 4=>3 | n=>n⟩
theorem Tryz.lays260:Go.Proofs.Lays.n260 Tryz.prog Tryz.lays260_ren:={
 mixed:=by kernel_rfl
 f260:=Tryz.func300.trans (congrArg some (by kernel_rfl))
 t0:=Tryz.underlying0
 a0:=Tryz.isAgg0
 z0:=Tryz.sizeOf0
 v0:=Tryz.zeroValue0
 t3:=Tryz.underlying3
 a3:=Tryz.isAgg3
 z3:=Tryz.sizeOf3
 v3:=Tryz.zeroValue3
 t4:=Tryz.underlying4
 a4:=Tryz.isAgg4
 z4:=Tryz.sizeOf4
 v4:=Tryz.zeroValue4
 t5:=Tryz.underlying5
 a5:=Tryz.isAgg5
 z5:=Tryz.sizeOf5
 v5:=Tryz.zeroValue5
 t9:=Tryz.underlying9
 a9:=Tryz.isAgg9
 z9:=Tryz.sizeOf9
 v9:=Tryz.zeroValue9
 t21:=Tryz.underlying21
 a21:=Tryz.isAgg21
 z21:=Tryz.sizeOf21
 v21:=Tryz.zeroValue21
 t46:=Tryz.underlying44
 a46:=Tryz.isAgg44
 z46:=Tryz.sizeOf44
 v46:=Tryz.zeroValue44
 t119:=Tryz.underlying288
 a119:=Tryz.isAgg288
 z119:=Tryz.sizeOf288
 t138:=Tryz.underlying290
 a138:=Tryz.isAgg290
 z138:=Tryz.sizeOf290
 v138:=Tryz.zeroValue290
 t139:=Tryz.underlying291
 a139:=Tryz.isAgg291
 z139:=Tryz.sizeOf291
 v139:=Tryz.zeroValue291
 g3:=by kernel_rfl
 g4:=by kernel_rfl}
def Tryz.lays230_ren:Go.Shelf.Ren:=⟨fun | 230=>262 | 197=>270 | 118=>293 | 165=>212 | 166=>101 | 168=>257 | 270=>294 | 167=>128 | 169=>105 | 260=>300 | 240=>167 | 241=>266 | 242=>285 | 276=>214 | 277=>296 | 278=>312 | n=>n,fun | 107=>183 | 9=>9 | 72=>133 | 0=>0 | 4=>4 | 3=>3 | 21=>21 | 105=>263 | 76=>136 | 5=>5 | 75=>135 | 70=>130 | 20=>20 | 37=>131 | 127=>198 | 119=>288 | 46=>44 | 139=>291 | 138=>290 | 164=>228 | 51=>253 | 80=>93 | n=>n,fun | 3=>2 | 4=>3 | n=>n⟩
theorem Tryz.lays230:Go.Proofs.Lays.n230 Tryz.prog Tryz.lays230_ren:={
 mixed:=by kernel_rfl
 f118:=Tryz.func293.trans (congrArg some (by kernel_rfl))
 f165:=Tryz.func212.trans (congrArg some (by kernel_rfl))
 f166:=Tryz.func101.trans (congrArg some (by kernel_rfl))
 f167:=Tryz.func128.trans (congrArg some (by kernel_rfl))
 f168:=Tryz.func257.trans (congrArg some (by kernel_rfl))
 f169:=Tryz.func105.trans (congrArg some (by kernel_rfl))
 f197:=Tryz.func270.trans (congrArg some (by kernel_rfl))
 f230:=Tryz.func262.trans (congrArg some (by kernel_rfl))
 f240:=Tryz.func167.trans (congrArg some (by kernel_rfl))
 f241:=Tryz.func266.trans (congrArg some (by kernel_rfl))
 f242:=Tryz.func285.trans (congrArg some (by kernel_rfl))
 f260:=Tryz.func300.trans (congrArg some (by kernel_rfl))
 f270:=Tryz.func294.trans (congrArg some (by kernel_rfl))
 f276:=Tryz.func214.trans (congrArg some (by kernel_rfl))
 f277:=Tryz.func296.trans (congrArg some (by kernel_rfl))
 f278:=Tryz.func312.trans (congrArg some (by kernel_rfl))
 t0:=Tryz.underlying0
 a0:=Tryz.isAgg0
 z0:=Tryz.sizeOf0
 v0:=Tryz.zeroValue0
 t3:=Tryz.underlying3
 a3:=Tryz.isAgg3
 z3:=Tryz.sizeOf3
 v3:=Tryz.zeroValue3
 t4:=Tryz.underlying4
 a4:=Tryz.isAgg4
 z4:=Tryz.sizeOf4
 v4:=Tryz.zeroValue4
 t5:=Tryz.underlying5
 a5:=Tryz.isAgg5
 z5:=Tryz.sizeOf5
 v5:=Tryz.zeroValue5
 t9:=Tryz.underlying9
 a9:=Tryz.isAgg9
 z9:=Tryz.sizeOf9
 v9:=Tryz.zeroValue9
 t20:=Tryz.underlying20
 a20:=Tryz.isAgg20
 z20:=Tryz.sizeOf20
 v20:=Tryz.zeroValue20
 t21:=Tryz.underlying21
 a21:=Tryz.isAgg21
 z21:=Tryz.sizeOf21
 v21:=Tryz.zeroValue21
 t37:=Tryz.underlying131
 a37:=Tryz.isAgg131
 z37:=Tryz.sizeOf131
 v37:=Tryz.zeroValue131
 t46:=Tryz.underlying44
 a46:=Tryz.isAgg44
 z46:=Tryz.sizeOf44
 v46:=Tryz.zeroValue44
 t51:=Tryz.underlying253
 a51:=Tryz.isAgg253
 z51:=Tryz.sizeOf253
 v51:=Tryz.zeroValue253
 t70:=Tryz.underlying130
 a70:=Tryz.isAgg130
 z70:=Tryz.sizeOf130
 v70:=Tryz.zeroValue130
 t72:=Tryz.underlying133
 a72:=Tryz.isAgg133
 z72:=Tryz.sizeOf133
 v72:=Tryz.zeroValue133
 t75:=Tryz.underlying135
 a75:=Tryz.isAgg135
 z75:=Tryz.sizeOf135
 v75:=Tryz.zeroValue135
 t76:=Tryz.underlying136
 a76:=Tryz.isAgg136
 z76:=Tryz.sizeOf136
 v76:=Tryz.zeroValue136
 t105:=Tryz.underlying263
 a105:=Tryz.isAgg263
 z105:=Tryz.sizeOf263
 v105:=Tryz.zeroValue263
 t107:=Tryz.underlying183
 a107:=Tryz.isAgg183
 z107:=Tryz.sizeOf183
 v107:=Tryz.zeroValue183
 t119:=Tryz.underlying288
 a119:=Tryz.isAgg288
 z119:=Tryz.sizeOf288
 t127:=Tryz.underlying198
 a127:=Tryz.isAgg198
 z127:=Tryz.sizeOf198
 v127:=Tryz.zeroValue198
 t138:=Tryz.underlying290
 a138:=Tryz.isAgg290
 z138:=Tryz.sizeOf290
 v138:=Tryz.zeroValue290
 t139:=Tryz.underlying291
 a139:=Tryz.isAgg291
 z139:=Tryz.sizeOf291
 v139:=Tryz.zeroValue291
 t164:=Tryz.underlying228
 a164:=Tryz.isAgg228
 z164:=Tryz.sizeOf228
 v164:=Tryz.zeroValue228
 g3:=by kernel_rfl
 g4:=by kernel_rfl}
theorem Tryz.Builder_Extra_230:Builder.Extra Tryz.prog Tryz.lays230_ren:={
 sizeBuilder:=by kernel_rfl
 liesBuilder:=by kernel_rfl
 t5:=Tryz.underlying5
 a5:=Tryz.isAgg5
 z5:=Tryz.sizeOf5
 v5:=Tryz.zeroValue5
 infoByte:=by kernel_rfl
 cellsByte:=by kernel_rfl
 sizeByte:=by kernel_rfl
 neB5:=by decide}
open Go.RowKit Go.Lib in
theorem Tryz.strings_Map_runes (g:Nat)(lb:Array Value)(eg: ∀args w,(callFunc g args).run Tryz.prog w= .ok (.enter g args) w)(f:Int→Int)(s:ByteArray)(w:World)(hs:s.size<35184372088832)(hf:MapAtRunes Tryz.prog g lb f w)(hnn: ∀x:Nat,x≤1114111→0≤f x∧f x≤2147483647)(hT:Lib.Utf8Tabs 2 3 w):
  Calls Tryz.prog 262 #[.func (.func g) #[] lb,.string s] w fun e w'=>e= .returned (.string ⟨(Lib.mapD f s.data.toList).toArray⟩)∧Below w.heap.size w w':=Any.strings_Map_runes Tryz.lays230 Tryz.Builder_Extra_230 g lb eg f s w hs hf hnn hT
def Tryz.laysNm216_ren:Go.Shelf.Ren:=⟨fun | 16=>87 | n=>n,fun | 24=>35 | 9=>9 | 4=>4 | n=>n,fun | n=>n⟩
theorem Tryz.laysNm216:Go.Proofs.Lays2.n16 Tryz.prog Tryz.laysNm216_ren:={
 mixed:=by kernel_rfl
 f16:=Tryz.func87.trans (congrArg some (by kernel_rfl))
 t4:=Tryz.underlying4
 a4:=Tryz.isAgg4
 z4:=Tryz.sizeOf4
 v4:=Tryz.zeroValue4
 t9:=Tryz.underlying9
 a9:=Tryz.isAgg9
 z9:=Tryz.sizeOf9
 v9:=Tryz.zeroValue9
 t24:=Tryz.underlying35
 a24:=Tryz.isAgg35
 z24:=Tryz.sizeOf35
 v24:=Tryz.zeroValue35
 i9:=by kernel_rfl}
open Go.RowKit Go.Lib in
theorem Tryz.slices_Clone_string (b off n c:Nat)(zs:List ByteArray)(w:World)(hz:n≤zs.length)(hbig:n*16≤140737488355328)(hc: ∀j,j<zs.length→w.cell? ⟨b,off+j,none⟩=some (.string (zs.getD j ByteArray.empty))):
  Calls Tryz.prog 87 #[.slice (some ⟨b,off,none⟩) n c] w fun e w'=> ∃v',e= .returned v'∧w'.ownsRow w.heap.size 9 1 v' n ((zs.take n).map (Value.string))∧v'≠ .slice none 0 0∧Below w.heap.size w w':=Any.slices_Clone_string Tryz.laysNm216 b off n c zs w hz hbig hc
open Go.RowKit Go.Lib in
theorem Tryz.slices_Clone_string_nil (n c:Nat)(w:World):
  Calls Tryz.prog 87 #[.slice none n c] w fun e w'=>e= .returned (.slice none 0 0)∧w'=w:=Any.slices_Clone_string_nil Tryz.laysNm216 n c w
open Go.RowKit Go.Lib in
theorem Tryz.slices_Clone_string_zero (a:Addr)(c:Nat)(w:World):
  Calls Tryz.prog 87 #[.slice (some a) 0 c] w fun e w'=> ∃v',e= .returned v'∧w'.ownsRow w.heap.size 9 1 v' 0 []∧v'≠ .slice none 0 0∧Below w.heap.size w w':=Any.slices_Clone_string_zero Tryz.laysNm216 a c w
open Go.RowKit Go.Sort in
theorem Tryz.slices_Sort_string_none (p:Option Addr)(cap:Nat)(w:World):
  Calls Tryz.prog 116 #[.slice p 0 cap] w fun e w'=>e= .returned (.tuple #[])∧w'=w:=Any.slices_Sort_string_none Tryz.lays190 p cap w
end Go.Proofs
namespace Go.Proofs.YtmnpfkbjpeaemaaGreatDoor
open Go.RowKit
def strLen:Value→Nat
 | .string s=>s.size
 | _=>0
theorem letter_at (n:Nat)(h:n<(ByteArray.mk #[65,66,67,68,69,70,71,72,73,74,75,76,77,78,79,80,81,82,83,84,85,86,87,88,89,90,97,98,99,100,101,102,103,104,105,106,107,108,109,110,111,112,113,114,115,116,117,118,119,120,121,122,48,49,50,51,52,53,54,55,56,57,43,47]).size):
  (ByteArray.mk #[65,66,67,68,69,70,71,72,73,74,75,76,77,78,79,80,81,82,83,84,85,86,87,88,89,90,97,98,99,100,101,102,103,104,105,106,107,108,109,110,111,112,113,114,115,116,117,118,119,120,121,122,48,49,50,51,52,53,54,55,56,57,43,47])[n]=b64p.letters.getD n 0:=by
 have h64:n<64:=h;have all: ∀m:Fin 64,(ByteArray.mk #[65,66,67,68,69,70,71,72,73,74,75,76,77,78,79,80,81,82,83,84,85,86,87,88,89,90,97,98,99,100,101,102,103,104,105,106,107,108,109,110,111,112,113,114,115,116,117,118,119,120,121,122,48,49,50,51,52,53,54,55,56,57,43,47])[m.val]'(m.isLt)=b64p.letters.getD m.val 0:=by decide
 exact all ⟨n,h64⟩
theorem nonempty (t:ByteArray)(h0: ¬t.size=0):t.data.toList≠[]:=by intro h;exact h0 (by rw[←kt.size_len,h];rfl)
theorem rest_data (t:ByteArray):(t.extract (min 3 (t.size:Int)).toNat t.size).data.toList=t.data.toList.drop 3:=by
 rw[Lib.extract_to_end];by_cases h:t.size<3
 ·rw[List.drop_eq_nil_of_le (by simp;omega),List.drop_eq_nil_of_le (by simp;omega)]
 ·rw[show(min 3 (t.size:Int)).toNat=3 from by omega]
theorem rest_size (t:ByteArray):(t.extract (min 3 (t.size:Int)).toNat t.size).size=t.size-3:=by rw[←kt.size_len,rest_data];simp
theorem getD_at (t:ByteArray)(j:Nat)(h:j<t.size):t.data.toList.getD j 0=t[j]:=by rw[List.getD,List.getElem?_eq_getElem (by simpa using h)];rfl
theorem getD_out (t:ByteArray)(j:Nat)(h: ¬j<t.size):t.data.toList.getD j 0=0:=by rw[List.getD,List.getElem?_eq_none (by simp;omega)];rfl
theorem encode_any (s:ByteArray)(w:World)(hs:s.size≤130000):
  Calls Tryz.prog 170 #[.string s] w fun e w'=>e= .returned (.string ⟨(b64p.enc s.data.toList).toArray⟩)∧Below w.heap.size w w':=by
 go_enter Tryz.func170,Tryz.ntmps170;go_wp2_with fail;go_loopw [0] (fun sv wr=> ∃ (t:ByteArray) (d:List UInt8),t.size≤130000∧sv= .string t∧Hid (d++b64p.enc t.data.toList=b64p.enc s.data.toList)∧bld.Is w.heap.size w.heap.size d wr∧Below w.heap.size w wr) (fun sv _=>strLen sv);case atStart=>exact⟨s,[],hs,rfl,rfl,bld.fresh w,(Below.refl _ _).alloc (Nat.le_refl _) _⟩
 case round=>
  obtain⟨t,d,ht,rfl,hE,hI,hB⟩:=hrel;by_cases h0:t.size=0
  ·have hem:t=ByteArray.empty:=kt.str_eq (List.eq_nil_of_length_eq_zero (by rw[kt.size_len];exact h0));subst hem;have hsz:=hB.size;have hI':=Lib.hid hI;clear hI;go_wp2_with fail;refine(Tryz.Builder_String_any _ _ _ _ hI'.out hsz).mono ?_;rintro e w1 ⟨rfl,hB1⟩;go_wp2;go_ret;have hh:=hE.out;rw[show ByteArray.empty.data.toList=[]from rfl,b64p.enc_nil,List.append_nil]at hh;exact⟨kt.ret_str (by rw[hh]),hB.trans hB1⟩
  ·have hne:t.toList.isEmpty=false:=by
    rw[Lib.toList_data];cases h:t.data.toList with
    | nil=>exact absurd (by rw[←kt.size_len,h];rfl) h0
    | cons a l=>rfl
   have hI':=Lib.hid hI;clear hI;have hd:d.length≤260002:=(by have h1:=(b64p.enc_length _ s.data.toList (Nat.le_refl _)).1;have h2:=congrArg List.length hE.out;rw[List.length_append]at h2;rw[kt.size_len]at h1;omega);go_wp2_with fail;go_loop [4,5,14] (fun n _ i=> ∃ (j N:Nat),j≤3∧i= .int .i64 j∧n= .int .i64 N∧N<16777216∧Hid (N=b64p.numAt t.data.toList j)) (fun _ _ i=>3- (intOf i).toNat);case atStart=>exact⟨0,0,by omega,rfl,rfl,by omega,rfl⟩
   case round=>
    obtain⟨j,N,hj,rfl,rfl,hN,hNe⟩:=hrel;by_cases hj3:j<3
    ·have hNj:N<65536:=(by have h1:=b64p.numAt_lt t.data.toList j;rw[←hNe.out]at h1;have h2:256 ^ j≤256 ^ 2:=Nat.pow_le_pow_right (by omega) (by omega);have h3:(256:Nat) ^ 2=65536:=(by decide);omega);by_cases hjs:j<t.size
     ·have hb:=t[j].toNat_lt;have e1:bits .or .i64 ((N:Int)*256) (t[j].toNat:Int)=((256*N+t[j].toNat:Nat):Int):=(by have h:=kt.i64_or_low 8 N t[j].toNat (by omega) (by omega);have p8:(2:Nat) ^ 8=256:=(by decide);rw[p8]at h;rw[←h,Int.mul_comm];rfl);go_wp2_with fail;go_round;case rel=>exact⟨j+1,256*N+t[j].toNat,by omega,by go_num,rfl,by omega,by show 256*N+t[j].toNat=_;rw[b64p.numAt,←hNe.out,getD_at t j hjs]⟩
      case measure=>simp[intOf];omega
     ·go_wp2_with fail;go_round;case rel=>exact⟨j+1,256*N,by omega,by go_num,by go_num,by omega,by show 256*N=_;rw[b64p.numAt,←hNe.out,getD_out t j hjs];rfl⟩
      case measure=>simp[intOf];omega
    ·obtain rfl:j=3:=(by omega);have hN3:=Lib.hid hNe.out;have hfl:=b64p.four_length t.data.toList;go_wp2_with fail;go_loopw [30] (fun i wq=> ∃ (j:Nat),j≤4∧i= .int .i64 j∧Hid (bld.Is w.heap.size w.heap.size (d++(b64p.four t.data.toList).take j) wq)∧Below w.heap.size w wq) (fun i _=>4- (intOf i).toNat);case atStart=>exact⟨0,by omega,rfl,by simpa using hI',hB⟩
     case round=>
      obtain⟨j,hj,rfl,hJ,hBq⟩:=hrel;have hszq:=hBq.size;have htk:((b64p.four t.data.toList).take j).length≤4:=(by rw[List.length_take];omega);by_cases hj4:j<4
      ·have hft:=b64p.four_take t.data.toList j hj4;have hft':=Lib.hid hft;clear hft;by_cases hjs:t.size<j
       ·go_wp2_with fail;refine(bld.writeByte_cell _ _ _ 61 _ hJ.out (by rw[List.length_append];omega) hszq).mono ?_;rintro e w1 ⟨rfl,hI1,hB1⟩;have hI1':=Lib.hid hI1;clear hI1;go_wp2_with fail;go_roundw;case rel=>
         refine⟨j+1,by omega,by go_num,?_,hBq.trans hB1⟩;have h:=hI1'.out;show bld.Is _ _ _ _;rw[hft'.out,b64p.sign,if_pos (by rw[kt.size_len];exact hjs),←List.append_assoc];exact h
        case measure=>simp[intOf];omega
       ·obtain⟨x,hx⟩: ∃x:Nat,Hid (x=N / 2 ^ (18-6*j) % 64):=⟨N / 2 ^ (18-6*j) % 64,rfl⟩;have hx64:x<64:=(by rw[hx.out];exact Nat.mod_lt _ (by omega));have e5:bits .and .i64 ((N:Int) / 2 ^ (18-6*j)) 63=(x:Int):=(by have h:=kt.i64_low 6 (N / 2 ^ (18-6*j)) (by decide) (Nat.lt_of_le_of_lt (Nat.div_le_self _ _) (by omega));rw[hx.out,show(64:Nat)=2 ^ 6 from rfl,←h,Int.natCast_ediv,Int.natCast_pow];rfl);go_wp2_with fail;refine(bld.writeByte_cell _ _ _ _ _ hJ.out (by rw[List.length_append];omega) hszq).mono ?_;rintro e w1 ⟨rfl,hI1,hB1⟩;have hI1':=Lib.hid hI1;clear hI1;go_wp2_with fail;go_roundw;case rel=>
         refine⟨j+1,by omega,by go_num,?_,hBq.trans hB1⟩;have h:=hI1'.out;rw[letter_at]at h;show bld.Is _ _ _ _;rw[hft'.out,b64p.sign,if_neg (by rw[kt.size_len];exact hjs),←List.append_assoc,b64p.lt,←hN3.out,←hx.out];exact h
        case measure=>simp[intOf];omega
      ·obtain rfl:j=4:=(by omega);go_wp2_with fail;go_roundw;case rel=>
        refine⟨_,d++b64p.four t.data.toList,?_,rfl,?_,?_,hBq⟩
        ·rw[rest_size];omega
        ·show(_:List UInt8)=_;rw[←hE.out,rest_data,b64p.enc_cons (nonempty t h0),List.append_assoc]
        ·have h:=hJ.out;rw[List.take_of_length_le (by rw[hfl];omega)]at h;exact h
       case measure=>show(t.extract _ _).size<t.size;rw[rest_size];omega
end Go.Proofs.YtmnpfkbjpeaemaaGreatDoor
