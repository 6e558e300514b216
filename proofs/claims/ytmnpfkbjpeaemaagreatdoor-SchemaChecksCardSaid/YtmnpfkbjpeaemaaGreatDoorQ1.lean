/- One text out of several: Kit, SchP, SmallW, LowerW, RowS, SchK, AttrP, SegS, FindW, SchF, SchL, SchS, B64P. -/
import Derived.WalkKit
import Derived.WalkSpells
import Derived.Lib.Hide
import Derived.Lib.UnsafeStr
import Derived.Lib.BufferRead
import Derived.Laws.BitsAllLaws
import Derived.IntWalk
import Derived.Lib.Builder
import Derived.Laws.IdiomStrings
import Derived.Laws.MakeOwn
import Derived.Deep.RegionHeld3
import Derived.Deep.RegionLaw
import Derived.Deep.RegionWith
import Derived.Deep.QuietTactic
import Derived.BigQuiet
import Derived.StillTailTactics
import Derived.RegionTactic
import Derived.ChangeAlike
import Derived.Lib.IndexBytes
import Derived.Lib.AppendZeros
import Derived.Test.YtmnpfkbjpeaemaaGreatDoorRows
import Derived.Deep.MidRow
import Derived.Lib.SlBuf
import Derived.Lib.IndexMore
import Derived.Laws.CopyRow
import Derived.Lib.AppendZerosOnto
import Derived.Lib.Overlaps
import Derived.Deep.Upon
import Derived.Shelf.SlicesE.DeleteFunc
import Derived.Shelf.SlicesE.IndexFunc
import Derived.Test.YtmnpfkbjpeaemaaGreatDoorProg
set_option linter.unusedVariables false
set_option linter.unusedSimpArgs false
set_option maxRecDepth 20000
set_option maxHeartbeats 8000000
namespace Go.Proofs.YtmnpfkbjpeaemaaGreatDoor
open Go.RowKit
namespace kt
theorem ret_int {k:IntKind}{a b:Int}(h:a=b):Ending.returned (.int k a)= .returned (.int k b):=by rw[h]
theorem ret_bool {a b:Bool}(h:a=b):Ending.returned (.bool a)= .returned (.bool b):=by rw[h]
theorem str_eq {a b:ByteArray}(h:a.data.toList=b.data.toList):a=b:=by cases a;cases b;congr 1;exact Array.toList_inj.1 h
theorem take_snoc (s:ByteArray)(k:Nat)(h:k<s.size):s.data.toList.take (k+1)=s.data.toList.take k++[s[k]]:=by rw[List.take_succ_eq_append_getElem (by simpa using h)];rfl
theorem size_len (s:ByteArray):s.data.toList.length=s.size:=by simp
theorem row_slice {w:World}{B:Nat}{e:TypeId}{v:Value}{xs:List Value}(h:w.ownsRow B e 1 v xs.length xs): ∃ao cap,v= .slice ao xs.length cap∧(ao=none→xs=[]∧cap=0)∧xs.length≤cap:=by
 rcases h.2 with⟨rfl,h0⟩ | ⟨g,cap,cur,rfl,_,_,hc,_,_⟩
 ·have:xs=[]:=List.eq_nil_of_length_eq_zero h0;subst this;exact⟨none,0,rfl,fun _=>⟨rfl,rfl⟩,Nat.le_refl _⟩
 ·exact⟨_,cap,rfl,fun h=>by simp at h,hc⟩
theorem row_form {w:World}{B:Nat}{e:TypeId}{v:Value}{xs:List Value}(h:w.ownsRow B e 1 v xs.length xs): ∃ (ao:Option Addr) (n cap:Nat),v= .slice ao n cap∧Hid (n=xs.length):=by obtain⟨ao,cap,hv,_⟩:=row_slice h;exact⟨ao,_,cap,hv,rfl⟩
theorem app1 {P:Program}{t e ty:TypeId}{z:Value}{bytes:Nat}(ht:P.underlying t=some (.slice e))(hinfo:(P.info? e).map (fun i=>(i.zero,i.size,i.bytes))=some (some z,1,bytes))(hzs:z.cells.size=1)
  {w:World} {B:Nat} {v:Value} {xs:List Value} (x:Value) (hx:x.oneCell'=true) (hown:w.ownsRow B e 1 v xs.length xs) (h63:xs.length+1≤maxLen) (hb:(xs.length+1)*bytes≤140737488355328) (hbase:B≤w.heap.size):
  ∃v' w1,(Builtin.append_ #[t,t] ty #[v,.slice (some ⟨w.heap.size,0,none⟩) 1 1]).run P (w.alloc (.cells #[x] e))= .ok v' w1∧w1.ownsRow B e 1 v' (xs++[x]).length (xs++[x])∧w.grownBy w1 v.ownBlock∧Below B w w1:=by
 obtain⟨i0,hi,hz0,hz1,hz2⟩:=info_parts hinfo;obtain⟨v',w1,hrun,hown',hgr,_⟩:=run_append_own (P:=P) (w.alloc (.cells #[x] e)) B t ty e i0 z 1 bytes ht hi hz0 hz1 hz2 hzs (by omega) v xs.length xs (hown.alloc _) ⟨w.heap.size,0,none⟩ 1 1 [x] rfl
  (fun j u hj=>by
   match j,hj with
   | 0,hj=>simp at hj;subst hj;simp[Addr.add])
  (fun u hu=>by simp at hu;subst hu;exact hx) h63 hb (by simp;omega)
 have hlt: ∀k,v.ownBlock=some k→B≤k∧k<w.heap.size:=hown.lt;have hg:w.grownBy w1 v.ownBlock:=by
  refine⟨hgr.os,hgr.tape,hgr.output,?_,?_⟩
  ·have:=hgr.size;simp at this;omega
  ·intro k hk hne;rw[hgr.block k (by simp;omega) hne];exact Below.heap_alloc _ _ _ hk
 exact⟨v',w1,hrun,by simpa using hown',hg,(Below.refl B w).grown hg hbase (fun k hk=>(hlt k hk).1)⟩
theorem app2 {P:Program}{t e ty:TypeId}{z:Value}{bytes:Nat}(ht:P.underlying t=some (.slice e))(hinfo:(P.info? e).map (fun i=>(i.zero,i.size,i.bytes))=some (some z,1,bytes))(hzs:z.cells.size=1)
  {w:World} {B:Nat} {v:Value} {xs:List Value} (x y:Value) (hx:x.oneCell'=true) (hy:y.oneCell'=true) (hown:w.ownsRow B e 1 v xs.length xs) (h63:xs.length+2≤maxLen) (hb:(xs.length+2)*bytes≤140737488355328) (hbase:B≤w.heap.size):
  ∃v' w1,(Builtin.append_ #[t,t] ty #[v,.slice (some ⟨w.heap.size,0,none⟩) 2 2]).run P (w.alloc (.cells #[x,y] e))= .ok v' w1∧w1.ownsRow B e 1 v' (xs++[x,y]).length (xs++[x,y])∧w.grownBy w1 v.ownBlock∧Below B w w1:=by
 obtain⟨i0,hi,hz0,hz1,hz2⟩:=info_parts hinfo;obtain⟨v',w1,hrun,hown',hgr,_⟩:=run_append_own (P:=P) (w.alloc (.cells #[x,y] e)) B t ty e i0 z 1 bytes ht hi hz0 hz1 hz2 hzs (by omega) v xs.length xs (hown.alloc _) ⟨w.heap.size,0,none⟩ 2 2 [x,y] rfl
  (fun j u hj=>by
   match j,hj with
   | 0,hj=>simp at hj;subst hj;simp[Addr.add]
   | 1,hj=>simp at hj;subst hj;simp[Addr.add])
  (fun u hu=>by simp at hu;rcases hu with rfl | rfl<;>assumption) h63 hb (by simp;omega)
 have hlt: ∀k,v.ownBlock=some k→B≤k∧k<w.heap.size:=hown.lt;have hg:w.grownBy w1 v.ownBlock:=by
  refine⟨hgr.os,hgr.tape,hgr.output,?_,?_⟩
  ·have:=hgr.size;simp at this;omega
  ·intro k hk hne;rw[hgr.block k (by simp;omega) hne];exact Below.heap_alloc _ _ _ hk
 exact⟨v',w1,hrun,by simpa using hown',hg,(Below.refl B w).grown hg hbase (fun k hk=>(hlt k hk).1)⟩
theorem appN {P:Program}{t e ty:TypeId}{z:Value}{bytes:Nat}(ht:P.underlying t=some (.slice e))(hinfo:(P.info? e).map (fun i=>(i.zero,i.size,i.bytes))=some (some z,1,bytes))(hzs:z.cells.size=1)
  {w:World} {B:Nat} {v:Value} {xs:List Value} (ad:Addr) (m c:Nat) (news:List Value) (hl:news.length=m) (hnews: ∀j u,news[j]? =some u→w.cell? (ad.add j)=some u) (h1: ∀u∈news,u.oneCell'=true)
  (hown:w.ownsRow B e 1 v xs.length xs) (h63:xs.length+m≤maxLen) (hb:(xs.length+m)*bytes≤140737488355328) (hbase:B≤w.heap.size):
  ∃v' w1,(Builtin.append_ #[t,t] ty #[v,.slice (some ad) m c]).run P w= .ok v' w1∧w1.ownsRow B e 1 v' (xs++news).length (xs++news)∧w.grownBy w1 v.ownBlock∧Below B w w1:=by
 obtain⟨i0,hi,hz0,hz1,hz2⟩:=info_parts hinfo;obtain⟨v',w1,hrun,hown',hgr,_⟩:=run_append_own (P:=P) w B t ty e i0 z 1 bytes ht hi hz0 hz1 hz2 hzs (by omega) v xs.length xs hown ad m c news (by omega) hnews h1 h63 hb hbase;have hlt: ∀k,v.ownBlock=some k→B≤k∧k<w.heap.size:=hown.lt;exact⟨v',w1,hrun,by rw[List.length_append,hl];exact hown',hgr,(Below.refl B w).grown hgr hbase (fun k hk=>(hlt k hk).1)⟩
theorem str_of_row {P:Program}{src dst e:TypeId}(hs:P.underlying src=some (.slice e))(he:P.underlying e=some (.int .u8))(hd:P.underlying dst=some .string)
  {w:World} {B:Nat} {v:Value} {n:Nat} {l:List UInt8} (h:w.ownsRow B e 1 v n (Lib.byteCells l)):
  (convert src dst v).run P w= .ok (.string ⟨l.toArray⟩) w:=by
 have hn:l.length=n:=by have:=h.1;rw[Lib.byteCells_length]at this;omega
 rcases h.2 with⟨rfl,h0⟩ | ⟨g,cap,cur,rfl,_,hg,_,_,_,htk⟩
 ·have:l=[]:=List.eq_nil_of_length_eq_zero (by omega);subst this;exact Lib.run_convert_nil_bytes w src dst e 0 hs he hd
 ·rw[←hn];refine run_convert_bytes_back w src dst e ⟨g,0,none⟩ cap l hs he hd (Lib.bytes_of_row hg ?_);rw[Nat.mul_one,←hn]at htk;exact htk
theorem row_cell {w:World}{B:Nat}{e:TypeId}{g cap n:Nat}{xs:List Value}(h:w.ownsRow B e 1 (.slice (some ⟨g,0,none⟩) n cap) n xs)(i:Nat)(x:Value)(hx:xs[i]? =some x):w.cell? ⟨g,i,none⟩=some x:=by
 have:=h.cells (g:=g) rfl i x hx;have e1:(⟨g,0,none⟩:Addr).add i=⟨g,i,none⟩:=by
  unfold Addr.add;split
  ·rename_i h0;rw[h0]
  ·simp
 rw[e1]at this;exact this
theorem row_some {w:World}{B:Nat}{e:TypeId}{ao:Option Addr}{cap n:Nat}{xs:List Value}(h:w.ownsRow B e 1 (.slice ao n cap) n xs)(hne:0<n):
  ∃g,ao=some ⟨g,0,none⟩∧(∀ (j:Nat) (x:Value),xs[j]? =some x→w.cell? ⟨g,j,none⟩=some x)∧B≤g:=by
 rcases h.2 with⟨_,h0⟩ | ⟨g,cap',cur,hv,hBg,_⟩
 ·omega
 ·simp only[Value.slice.injEq]at hv;obtain⟨rfl,_,rfl⟩:=hv;exact⟨g,rfl,fun j x hx=>row_cell h j x hx,hBg⟩
theorem flip {P:Program}{f:FuncId}{args:Array Value}{w:World}{v:Value}(h:Calls P f args w fun e w'=>e= .returned v∧w=w'):Calls P f args w fun e w'=>e= .returned v∧w'=w:=h.mono fun _ _ ⟨he,hm⟩=>⟨he,hm.symm⟩
theorem step_append_run {P:Program}{w:World}{ops:Array Oper}{o:Oper}{a:Act}{K:Act→World→Prop}{Q:Exit→Act→World→Prop}{E:Prop}(hgd:o.guard=none)(s x:Operand)(t tn:TypeId)
  (ho:o.op= .call {callee:= .builtin .append,args:=#[s,x],argTypes:=#[t,tn]}) (vs vx:Value) (hs:a.eval s=vs) (hx:a.eval x=vx)
  (v':Value) (w':World) (hr:(Builtin.append_ #[t,tn] o.type #[vs,vx]).run P w= .ok v' w') (h:K (a.put o.dst v') w'):
  if Region.wanted o (yielded ops a.tmps)=true then Oper.wp P o a w K Q else E:=by
 have hw:Region.wanted o (yielded ops a.tmps)=true:=by simp[Region.wanted,hgd]
 rw[if_pos hw];exact Lib.wp_append_run w s x t tn ho vs vx hs hx v' w' hr h
theorem row_below {w w':World}{B:Nat}{e:TypeId}{v:Value}{n:Nat}{xs:List Value}(h:w.ownsRow B e 1 v n xs)(hb:Below w.heap.size w w'):w'.ownsRow B e 1 v n xs:=by
 refine⟨h.1,?_⟩;rcases h.2 with h0 | ⟨g,cap,cur,hv,hBg,hg,h1,h2,h3,h4⟩
 ·exact Or.inl h0
 ·refine Or.inr ⟨g,cap,cur,hv,hBg,?_,h1,h2,h3,h4⟩;rw[hb.block g (Nat.lt_of_not_le fun hge=>by simp[Array.getElem?_eq_none hge]at hg)];exact hg
theorem addr_add (b j:Nat):(⟨b,0,none⟩:Addr).add j=⟨b,j,none⟩:=by
 unfold Addr.add;split
 ·rename_i h0;rw[h0]
 ·simp
def ByteRow (w:World)(B:Nat)(l:List UInt8):Prop:=∀j (hj:j<l.length),w.cell? ⟨B,j,none⟩=some (.int .u8 (l[j].toNat:Int))∧w.frozen? ⟨B,j,none⟩=false
theorem byterow_set {w:World}{B:Nat}{l:List UInt8}(h:ByteRow w B l)(i:Nat)(x:UInt8):ByteRow (w.setCell ⟨B,i,none⟩ (.int .u8 (x.toNat:Int))) B (l.set i x):=by
 intro j hj;simp only[List.length_set]at hj;obtain⟨hc,hf⟩:=h j hj;refine⟨?_,?_⟩
 ·by_cases e:i=j
  ·subst e;rw[World.cell?_setCell_same _ _ _ hc];simp
  ·rw[World.cell?_setCell_other _ _ _ _ (by intro hh;apply e;injection hh),hc,List.getElem_set_ne e]
 ·rw[World.frozen?_setCell];exact hf
theorem byterow_str {P:Program}{src dst e:TypeId}(hs:P.underlying src=some (.slice e))(he:P.underlying e=some (.int .u8))(hd:P.underlying dst=some .string)
  {w:World} {B n cap:Nat} {l:List UInt8} (h:ByteRow w B l) (hn:n=l.length):(convert src dst (.slice (some ⟨B,0,none⟩) n cap)).run P w= .ok (.string ⟨l.toArray⟩) w:=by
 subst hn;exact run_convert_bytes_back w src dst e ⟨B,0,none⟩ cap l hs he hd (fun j hj=>by rw[addr_add];exact(h j hj).1)
theorem bytes_of {P:Program}{src dst e:TypeId}(hs:P.underlying src=some .string)(hd:P.underlying dst=some (.slice e))(he:P.underlying e=some (.int .u8))(w:World)(s:ByteArray):
  ∃ (W1:World) (cap:Nat),(convert src dst (.string s)).run P w= .ok (.slice (some ⟨w.heap.size,0,none⟩) s.size cap) W1∧ByteRow W1 w.heap.size s.data.toList∧Below w.heap.size w W1:=by
 refine⟨_,_,run_bytes_of_string w src dst e s hs hd he,?_,((Below.refl _ _).drew).alloc (Nat.le_refl _) _⟩;intro j hj;have hj':j<s.data.size:=by simpa using hj
 have hsz:s.size≤(bytesRow s (grownCap w s.size 0 e)).size:=by simp[bytesRow]
 refine⟨?_,?_⟩
 ·have h1:=World.cell?_alloc_mark w.drew (bytesRow s (grownCap w s.size 0 e)) e ((bytesRow s (grownCap w s.size 0 e)).size,(bytesRow s (grownCap w s.size 0 e)).size+1) j;rw[bytesRow_at s _ j hj']at h1;exact h1
 ·have h2:=World.frozen?_alloc_mark w.drew (bytesRow s (grownCap w s.size 0 e)) e (bytesRow s (grownCap w s.size 0 e)).size ((bytesRow s (grownCap w s.size 0 e)).size+1) j;refine h2.trans ?_;have: ¬ (bytesRow s (grownCap w s.size 0 e)).size≤j:=by have:s.data.size=s.size:=rfl;omega
  simp[this]
theorem ofInt64 (a:Nat)(ha:a<18446744073709551616):(BitVec.ofInt 64 (a:Int)).toNat=a:=by rw[BitVec.ofInt_natCast,BitVec.toNat_ofNat];exact Nat.mod_eq_of_lt (by omega)
theorem wrap_i64_nat (a:Nat)(ha:a<9223372036854775808):IntKind.i64.wrap (a:Int)=(a:Int):=by rw[IntKind.wrap_i64];omega
theorem i64_or_nat (a b:Nat)(ha:a<9223372036854775808)(hb:b<9223372036854775808):bits .or .i64 (a:Int) (b:Int)=((a||| b:Nat):Int):=by
 have hx:a||| b<2 ^ 63:=Nat.or_lt_two_pow (by omega) (by omega)
 show IntKind.i64.wrap ((BitVec.ofInt 64 (a:Int)||| BitVec.ofInt 64 (b:Int)).toNat:Int)=_;rw[BitVec.toNat_or,ofInt64 a (by omega),ofInt64 b (by omega)];exact wrap_i64_nat _ (by omega)
theorem i64_or_low (k a c:Nat)(hc:c<2 ^ k)(ha:2 ^ k*a+c<9223372036854775808):bits .or .i64 ((2 ^ k*a:Nat):Int) (c:Int)=((2 ^ k*a+c:Nat):Int):=by rw[i64_or_nat _ _ (by omega) (by omega),Nat.two_pow_add_eq_or_of_lt hc]
end kt
namespace scp
abbrev T:=List UInt8
structure Cls where
 name:T
 kind:Int
 above:T
 must:List T
 may:List T
deriving DecidableEq
def clsL:List Cls:=[⟨[116,111,112],0,[],[[111,98,106,101,99,116,99,108,97,115,115],[]],[[],[],[],[],[],[]]⟩,
 ⟨[100,111,109,97,105,110],1,[116,111,112],[[100,99],[]],[[100,101,115,99,114,105,112,116,105,111,110],[111],[108],[115,101,101,97,108,115,111],[],[]]⟩,
 ⟨[111,114,103,97,110,105,122,97,116,105,111,110],1,[116,111,112],[[111],[]],[[100,101,115,99,114,105,112,116,105,111,110],[108],[116,101,108,101,112,104,111,110,101,110,117,109,98,101,114],[115,101,101,97,108,115,111],[],[]]⟩,
 ⟨[111,114,103,97,110,105,122,97,116,105,111,110,97,108,117,110,105,116],1,[116,111,112],[[111,117],[]],[[100,101,115,99,114,105,112,116,105,111,110],[108],[116,101,108,101,112,104,111,110,101,110,117,109,98,101,114],[115,101,101,97,108,115,111],[],[]]⟩,
 ⟨[112,101,114,115,111,110],1,[116,111,112],[[99,110],[115,110]],[[117,115,101,114,112,97,115,115,119,111,114,100],[116,101,108,101,112,104,111,110,101,110,117,109,98,101,114],[115,101,101,97,108,115,111],[100,101,115,99,114,105,112,116,105,111,110],[],[]]⟩,
 ⟨[111,114,103,97,110,105,122,97,116,105,111,110,97,108,112,101,114,115,111,110],1,[112,101,114,115,111,110],[[],[]],[[116,105,116,108,101],[111,117],[108],[],[],[]]⟩,
 ⟨[105,110,101,116,111,114,103,112,101,114,115,111,110],1,[111,114,103,97,110,105,122,97,116,105,111,110,97,108,112,101,114,115,111,110],[[],[]],[[109,97,105,108],[117,105,100],[112,104,111,116,111],[111],[],[]]⟩,
 ⟨[97,99,99,111,117,110,116],1,[116,111,112],[[117,105,100],[]],[[100,101,115,99,114,105,112,116,105,111,110],[115,101,101,97,108,115,111],[108],[111],[111,117],[]]⟩,
 ⟨[103,114,111,117,112,111,102,110,97,109,101,115],1,[116,111,112],[[99,110],[109,101,109,98,101,114]],[[100,101,115,99,114,105,112,116,105,111,110],[115,101,101,97,108,115,111],[111],[111,117],[],[]]⟩,
 ⟨[100,101,118,105,99,101],1,[116,111,112],[[99,110],[]],[[115,101,114,105,97,108,110,117,109,98,101,114],[100,101,115,99,114,105,112,116,105,111,110],[115,101,101,97,108,115,111],[108],[111],[111,117]]⟩,
 ⟨[117,105,100,111,98,106,101,99,116],2,[116,111,112],[[117,105,100],[]],[[],[],[],[],[],[]]⟩,
 ⟨[108,105,109,105,116,111,98,106,101,99,116],2,[116,111,112],[[],[]],[[108,105,109,105,116],[117,105,100,110,117,109,98,101,114],[101,110,97,98,108,101,100],[],[],[]]⟩,
 ⟨[115,101,99,114,101,116,111,98,106,101,99,116],2,[116,111,112],[[117,115,101,114,112,97,115,115,119,111,114,100],[]],[[],[],[],[],[],[]]⟩]
def noCls:Cls:=⟨[],0,[],[[],[]],[[],[],[],[],[],[]]⟩
def clsA (k:Nat):Cls:=clsL.getD k noCls
def idx (n:T):Option Nat:=clsL.findIdx? fun c=>decide (c.name=n)
theorem idx_some {n:T}{k:Nat}(h:idx n=some k):k<13∧(clsA k).name=n:=by
 unfold idx at h;rw[List.findIdx?_eq_some_iff_getElem]at h;obtain⟨h1,h2,_⟩:=h;have h3:k<13:=h1;refine⟨h3,?_⟩;have:clsA k=clsL[k]:=by unfold clsA;rw[List.getD_eq_getElem?_getD,List.getElem?_eq_getElem h1];rfl
 rw[this];exact of_decide_eq_true h2
theorem idx_hit {n:T}{k:Nat}(hk:k<13)(h1:(clsA k).name=n)(h2: ∀j,j<k→(clsA j).name≠n):idx n=some k:=by
 have e: ∀j (hj:j<clsL.length),clsA j=clsL[j]'hj:=fun j hj=>by unfold clsA;rw[List.getD_eq_getElem?_getD,List.getElem?_eq_getElem hj];rfl
 unfold idx;rw[List.findIdx?_eq_some_iff_getElem];refine⟨hk,decide_eq_true (by rw[←e k hk];exact h1),fun j hj=> ?_⟩;have h3:=h2 j hj;rw[e j (Nat.lt_trans hj hk)]at h3;simpa using h3
theorem idx_no {n:T}(h: ∀j,j<13→(clsA j).name≠n):idx n=none:=by
 unfold idx;rw[List.findIdx?_eq_none_iff];intro c hc;obtain⟨j,hj,rfl⟩:=List.mem_iff_getElem.1 hc;have e:clsA j=clsL[j]:=by unfold clsA;rw[List.getD_eq_getElem?_getD,List.getElem?_eq_getElem hj];rfl
 rw[←e];simpa using h j hj
theorem idx_name: ∀k:Fin 13,idx (clsA k).name=some k.val:=by decide+kernel
def lineT:List (List Nat):=[[0],[1,0],[2,0],[3,0],[4,0],[5,4,0],[6,5,4,0],[7,0],[8,0],[9,0],[10,0],[11,0],[12,0]]
def lineK (k:Nat):List Nat:=lineT.getD k []
theorem lineK_step: ∀k:Fin 13,lineK k.val=k.val::(match idx (clsA k.val).above with
  | none=>[]
  | some j=>lineK j):=by decide+kernel
theorem lineK_lt: ∀k:Fin 13,∀j∈lineK k.val,j<13:=by decide+kernel
theorem lineK_len: ∀k:Fin 13,(lineK k.val).length≤4:=by decide+kernel
def ownMust (k:Nat):List T:=(List.getD [[[111,98,106,101,99,116,99,108,97,115,115]],[[100,99]],[[111]],[[111,117]],[[99,110],[115,110]],[],[],[[117,105,100]],[[99,110],[109,101,109,98,101,114]],[[99,110]],[[117,105,100]],[],[[117,115,101,114,112,97,115,115,119,111,114,100]]] k [])
def ownMay (k:Nat):List T:=(List.getD [[],[[100,101,115,99,114,105,112,116,105,111,110],[108],[111],[115,101,101,97,108,115,111]],[[100,101,115,99,114,105,112,116,105,111,110],[108],[115,101,101,97,108,115,111],[116,101,108,101,112,104,111,110,101,110,117,109,98,101,114]],[[100,101,115,99,114,105,112,116,105,111,110],[108],[115,101,101,97,108,115,111],[116,101,108,101,112,104,111,110,101,110,117,109,98,101,114]],[[100,101,115,99,114,105,112,116,105,111,110],[115,101,101,97,108,115,111],[116,101,108,101,112,104,111,110,101,110,117,109,98,101,114],[117,115,101,114,112,97,115,115,119,111,114,100]],[[108],[111,117],[116,105,116,108,101]],[[109,97,105,108],[111],[112,104,111,116,111],[117,105,100]],[[100,101,115,99,114,105,112,116,105,111,110],[108],[111],[111,117],[115,101,101,97,108,115,111]],[[100,101,115,99,114,105,112,116,105,111,110],[111],[111,117],[115,101,101,97,108,115,111]],[[100,101,115,99,114,105,112,116,105,111,110],[108],[111],[111,117],[115,101,101,97,108,115,111],[115,101,114,105,97,108,110,117,109,98,101,114]],[],[[101,110,97,98,108,101,100],[108,105,109,105,116],[117,105,100,110,117,109,98,101,114]],[]] k [])
def ltT (a b:T):Bool:=decide (Lib.compareBytes a b= -1)
def putL (l:List T)(s:T):List T:=if s∈l then l else l.takeWhile (fun x=>ltT x s)++s::l.dropWhile (fun x=>ltT x s)
def mustK (k:Nat):List T:=((lineK k).flatMap ownMust).foldl putL []
def mayK (k:Nat):List T:=((lineK k).flatMap ownMay).foldl putL []
def rawMust (k:Nat):List T:=(lineK k).flatMap fun j=>(clsA j).must
def rawMay (k:Nat):List T:=(lineK k).flatMap fun j=>(clsA j).may
def aboveK (k:Nat):List T:=(lineK k).tail.map fun j=>(clsA j).name
theorem must_len: ∀k:Fin 13,(mustK k.val).length≤10∧(mayK k.val).length≤20:=by decide+kernel
end scp
open Go.RowKit
namespace sml
def low (c:UInt8):UInt8:=if 65≤c.toNat∧c.toNat≤90 then UInt8.ofNat (c.toNat+32)else c
def lowL (l:List UInt8):List UInt8:=l.map low
theorem low_nat (c:UInt8):((low c).toNat:Int)=if 65≤(c.toNat:Int)∧(c.toNat:Int)≤90 then(c.toNat:Int)+32 else(c.toNat:Int):=by
 unfold low;by_cases h:65≤c.toNat∧c.toNat≤90
 ·rw[if_pos h,if_pos (by omega),UInt8.toNat_ofNat'];omega
 ·rw[if_neg h,if_neg (by omega)]
theorem infoByte:(Tryz.prog.info? 5).map (fun i=>(i.zero,i.size,i.bytes))=some (some (.int .u8 0),1,1):=by kernel_rfl
theorem emptyRow (w:World)(e:TypeId):(w.alloc (.cells #[] e)).ownsRow w.heap.size e 1 (.slice (some ⟨w.heap.size,0,none⟩) 0 0) ([]:List Value).length []:=World.ownsRow_made w #[] 0 (Nat.le_refl _) (by unfold maxLen;omega) rfl
theorem small_any (s:ByteArray)(w:World)(hs:s.size≤10000000):
  Calls Tryz.prog 80 #[.string s] w fun e w'=>e= .returned (.string ⟨(lowL s.data.toList).toArray⟩)∧Below w.heap.size w w':=by
 go_enter Tryz.func80,Tryz.ntmps80;go_wp2_with fail;go_loopw [3,4,5] (fun bv iv _ wr=> ∃k:Nat,k≤s.size∧iv= .int .i64 (k:Int)∧Hid (wr.ownsRow w.heap.size 5 1 bv (Lib.byteCells (lowL (s.data.toList.take k))).length (Lib.byteCells (lowL (s.data.toList.take k))))∧Below w.heap.size w wr) (fun _ iv _ _=>s.size- (intOf iv).toNat);case atStart=>exact⟨0,Nat.zero_le _,rfl,emptyRow w _,(Below.refl _ _).alloc (Nat.le_refl _) _⟩
 case round=>
  obtain⟨k,hk,rfl,hO,hB⟩:=hrel;have hsz:=hB.size;by_cases hlt:k<s.size
  ·have hlt':(k:Int)<(s.size:Int):=(by omega);have HT:=kt.take_snoc s k hlt;obtain⟨c,hc⟩: ∃c,s[k]'hlt=c:=⟨_,rfl⟩;rw[hc]at HT;have hcn:=c.toNat_lt;have hlen:(Lib.byteCells (lowL (s.data.toList.take k))).length≤k:=(by rw[Lib.byteCells_length];unfold lowL;rw[List.length_map];exact List.length_take_le _ _);obtain⟨v',w1,hap,hO1,hg1,hB1⟩:=kt.app1 (P:=Tryz.prog) (ty:=131) (w:=wr) Tryz.underlying131 infoByte rfl (.int .u8 ((low c).toNat:Int)) rfl hO.out (by unfold maxLen;omega) (by omega) hsz;have HO1:Hid (w1.ownsRow w.heap.size 5 1 v' (Lib.byteCells (lowL (s.data.toList.take (k+1)))).length (Lib.byteCells (lowL (s.data.toList.take (k+1))))):=(by show World.ownsRow _ _ _ _ _ _ _;rw[HT];unfold lowL at hO1 ⊢;rw[List.map_append,Lib.byteCells_append];exact hO1);have HB1:=Lib.hid (hB.trans hB1);clear HT hO1 hg1 hB1 hlen;have hlow:=low_nat c;by_cases hup:65≤(c.toNat:Int)∧(c.toNat:Int)≤90
   ·rw[if_pos hup]at hlow;rw[hlow]at hap;obtain⟨u1,u2⟩:=hup;have r1:IntKind.u8.wrap ((c.toNat:Int)+32)=(c.toNat:Int)+32:=IntWalk.u8_in _ (by omega);clear hlow;go_wp2_with (at_builtin;refine Lib.wpList_append_run _ rfl _ _ _ _ rfl _ _ rfl rfl _ _ hap ?_);go_roundw;case rel=>exact⟨k+1,by omega,by go_num,HO1,HB1.out⟩
    case measure=>simp[intOf];omega
   ·rw[if_neg hup]at hlow;rw[hlow]at hap;clear hlow;by_cases h65:65≤(c.toNat:Int)
    ·have h90:decide ((c.toNat:Int)≤90)=false:=(by rw[decide_eq_false_iff_not];omega);clear hup;go_wp2_with (at_builtin;refine Lib.wpList_append_run _ rfl _ _ _ _ rfl _ _ rfl rfl _ _ hap ?_);go_roundw;case rel=>exact⟨k+1,by omega,by go_num,HO1,HB1.out⟩
     case measure=>simp[intOf];omega
    ·clear hup;go_wp2_with (at_builtin;refine Lib.wpList_append_run _ rfl _ _ _ _ rfl _ _ rfl rfl _ _ hap ?_);go_roundw;case rel=>exact⟨k+1,by omega,by go_num,HO1,HB1.out⟩
     case measure=>simp[intOf];omega
  ·obtain rfl:k=s.size:=(by omega);have hO2:=hO.out;rw[List.take_of_length_le (by simp)]at hO2;have hst:=kt.str_of_row (P:=Tryz.prog) (dst:=9) Tryz.underlying131 Tryz.underlying5 Tryz.underlying9 hO2;clear hO2;go_wp2_with fail;go_ret;exact⟨rfl,hB⟩
end sml
open Go.RowKit
namespace atw
def bs (l:List UInt8):ByteArray:=⟨l.toArray⟩
theorem bs_data (l:List UInt8):(bs l).data.toList=l:=rfl
theorem bs_of (s:ByteArray):bs s.data.toList=s:=kt.str_eq rfl
theorem bs_size (l:List UInt8):(bs l).size=l.length:=by rw[←kt.size_len];rfl
def midL (l:List UInt8)(k:Nat):List UInt8:=(sml.lowL l).take k++l.drop k
theorem midL_len (l:List UInt8)(k:Nat):(midL l k).length=l.length:=by unfold midL sml.lowL;simp;omega
theorem midL_at {l:List UInt8}{k:Nat}(h:k<l.length):(midL l k)[k]'(by rw[midL_len];exact h)=l[k]:=by unfold midL sml.lowL;rw[List.getElem_append_right (by simp;omega)];simp[Nat.min_eq_left (Nat.le_of_lt h)]
theorem midL_set {l:List UInt8}{k:Nat}(h:k<l.length):(midL l k).set k (sml.low l[k])=midL l (k+1):=by
 unfold midL sml.lowL;have h1:((l.map sml.low).take k).length=k:=by simp;omega
 rw[List.set_append_right _ _ (by omega),h1,Nat.sub_self,List.drop_eq_getElem_cons h,List.set_cons_zero,List.take_succ_eq_append_getElem (by simpa using h),List.append_assoc];simp
theorem midL_keep {l:List UInt8}{k:Nat}(h:k<l.length)(hl:sml.low l[k]=l[k]):midL l k=midL l (k+1):=by
 rw[←midL_set h,hl];apply List.ext_getElem (by simp);intro i h1 h2;by_cases e:k=i
 ·subst e;rw[List.getElem_set_self,midL_at h]
 ·rw[List.getElem_set_ne e]
theorem lower_any (s:ByteArray)(w:World)(hs:s.size≤10000000):
    Calls Tryz.prog 135 #[.string s] w fun e w'=>e= .returned (.string (bs (sml.lowL s.data.toList)))∧Below w.heap.size w w':=by
  obtain⟨W1,cap,hrun,hrow,hB1⟩:=kt.bytes_of (P:=Tryz.prog) (src:=9) (dst:=131) (e:=5) Tryz.underlying9 Tryz.underlying131 Tryz.underlying5 w s;have HB1:=Lib.hid hB1;have HROW:=Lib.hid hrow;obtain⟨B,hB⟩: ∃B,w.heap.size=B:=⟨_,rfl⟩;rw[hB]at hrun HROW;have HBB:=Lib.hid hB;have hsl:s.data.toList.length=s.size:=kt.size_len s;have HSL:=Lib.hid hsl;clear hB1 hrow hB hsl;go_enter Tryz.func135,Tryz.ntmps135;go_wp2_with fail;go_loopw [4,5,10] (fun _ _ iv wr=> ∃k:Nat,k≤s.size∧iv= .int .i64 (k:Int)∧Hid (kt.ByteRow wr B (midL s.data.toList k))∧Hid (Below w.heap.size w wr)) (fun _ _ iv _=>s.size- (intOf iv).toNat);case atStart=>exact⟨0,Nat.zero_le _,rfl,(by show kt.ByteRow _ _ _;unfold midL;simpa using HROW.out),HB1.out⟩
  case round=>
    clear hrun;obtain⟨k,hk,rfl,hR,hB⟩:=hrel;by_cases hlt:k<s.size
    · have hlt':(k:Int)<(s.size:Int):=(by omega);have hkl:k<s.data.toList.length:=(by rw[HSL.out];exact hlt);obtain⟨c0,f0⟩:=hR.out k (by rw[midL_len];exact hkl);rw[midL_at hkl]at c0;have HSET:=Lib.hid (midL_set hkl);have HKEEP:=Lib.hid (midL_keep hkl);have hset:=fun x=>kt.byterow_set hR.out k x;generalize s.data.toList[k]=c at c0 HSET HKEEP;have hcn:=c.toNat_lt;have hlow:=sml.low_nat c;by_cases hup:65≤(c.toNat:Int)∧(c.toNat:Int)≤90
      · rw[if_pos hup]at hlow;obtain⟨u1,u2⟩:=hup;have r1:IntKind.u8.wrap ((c.toNat:Int)+32)=(c.toNat:Int)+32:=IntWalk.u8_in _ (by omega);have h2:=hset (sml.low c);rw[hlow,HSET.out]at h2;have H2:=Lib.hid h2;clear hlow hset h2;go_wp2_with fail;go_roundw;case rel=>exact⟨k+1,by omega,by go_num,H2,hB.out.setCell (p:=⟨B,k,none⟩) (by rw[HBB.out];exact Nat.le_refl _) _⟩
        case measure=>simp[intOf];omega
      · rw[if_neg hup]at hlow;have hl:sml.low c=c:=(by apply UInt8.toNat_inj.1;omega);have H2:Hid (kt.ByteRow wr B (midL s.data.toList (k+1))):=(by show kt.ByteRow _ _ _;rw[←HKEEP.out hl];exact hR.out);clear hlow hset hl;go_wp2_with fail;all_goals first
          | (go_roundw
             case rel=>exact⟨k+1,by omega,by go_num,H2,hB⟩
             case measure=>simp[intOf];omega)
          | (exfalso;simp only[decide_eq_true_eq]at*;omega)
    · obtain rfl:k=s.size:=(by omega);have hst:=kt.byterow_str (P:=Tryz.prog) (n:=s.size) (cap:=cap) Tryz.underlying131 Tryz.underlying5 Tryz.underlying9 hR.out (by rw[midL_len,HSL.out]);have hm:midL s.data.toList s.size=sml.lowL s.data.toList:=(by unfold midL sml.lowL;rw[List.take_of_length_le (by simp),List.drop_of_length_le (by simp),List.append_nil]);rw[hm]at hst;have hst2:(convert 131 9 (.slice (some ⟨B,0,none⟩) s.size cap)).run Tryz.prog wr= .ok (.string (bs (sml.lowL s.data.toList))) wr:=hst;clear hst hm;go_wp2_with fail;go_ret;exact⟨rfl,hB.out⟩
end atw
open Go.RowKit
namespace kt
theorem appS {P:Program}{t e ty:TypeId}{z:Value}{sz bytes:Nat}(ht:P.underlying t=some (.slice e))(hinfo:(P.info? e).map (fun i=>(i.zero,i.size,i.bytes))=some (some z,sz,bytes))(hzs:z.cells.size=sz)(hsz:0<sz)
  {w:World} {B n:Nat} {v:Value} {xs:List Value} (news:List Value) (hl:news.length=sz) (h1: ∀u∈news,u.oneCell'=true) (hown:w.ownsRow B e sz v n xs) (h63:n+1≤maxLen) (hb:(n+1)*bytes≤140737488355328) (hbase:B≤w.heap.size):
  ∃v' w1,(Builtin.append_ #[t,t] ty #[v,.slice (some ⟨w.heap.size,0,none⟩) 1 1]).run P (w.alloc (.cells news.toArray e))= .ok v' w1∧w1.ownsRow B e sz v' (n+1) (xs++news)∧w.grownBy w1 v.ownBlock∧Below B w w1:=by
 obtain⟨i0,hi,hz0,hz1,hz2⟩:=info_parts hinfo;obtain⟨v',w1,hrun,hown',hgr,_⟩:=run_append_own (P:=P) (w.alloc (.cells news.toArray e)) B t ty e i0 z sz bytes ht hi hz0 hz1 hz2 hzs hsz v n xs (hown.alloc _) ⟨w.heap.size,0,none⟩ 1 1 news (by omega)
  (fun j u hj=>by rw[kt.addr_add,World.cell?_alloc_new];simpa using hj) h1 h63 hb (by simp;omega)
 have hlt: ∀k,v.ownBlock=some k→B≤k∧k<w.heap.size:=hown.lt;have hg:w.grownBy w1 v.ownBlock:=by
  refine⟨hgr.os,hgr.tape,hgr.output,?_,?_⟩
  ·have:=hgr.size;simp at this;omega
  ·intro k hk hne;rw[hgr.block k (by simp;omega) hne];exact Below.heap_alloc _ _ _ hk
 exact⟨v',w1,hrun,hown',hg,(Below.refl B w).grown hg hbase (fun k hk=>(hlt k hk).1)⟩
theorem row_nil (w:World)(B:Nat)(e:TypeId)(sz:Nat):w.ownsRow B e sz (.slice none 0 0) 0 []:=⟨by simp,Or.inl ⟨rfl,rfl⟩⟩
theorem rowS_slice {w:World}{B n:Nat}{e:TypeId}{sz:Nat}{v:Value}{xs:List Value}(h:w.ownsRow B e sz v n xs): ∃ao cap,v= .slice ao n cap∧n≤cap:=by
 rcases h.2 with⟨rfl,h0⟩ | ⟨g,cap,cur,rfl,_,_,hc,_,_⟩
 ·subst h0;exact⟨none,0,rfl,Nat.le_refl _⟩
 ·exact⟨_,cap,rfl,hc⟩
theorem rowS_some {w:World}{B:Nat}{e:TypeId}{sz:Nat}{ao:Option Addr}{cap n:Nat}{xs:List Value}(h:w.ownsRow B e sz (.slice ao n cap) n xs)(hne:0<n):
  ∃g,ao=some ⟨g,0,none⟩∧(∀ (j:Nat) (x:Value),xs[j]? =some x→w.cell? ⟨g,j,none⟩=some x)∧B≤g:=by
 rcases h.2 with⟨_,h0⟩ | ⟨g,cap',cur,hv,hBg,_⟩
 ·omega
 ·simp only[Value.slice.injEq]at hv;obtain⟨rfl,_,rfl⟩:=hv;refine⟨g,rfl,fun j x hx=> ?_,hBg⟩;have:=h.cells (g:=g) rfl j x hx;rwa[kt.addr_add]at this
theorem rowS_below {w w':World}{B:Nat}{e:TypeId}{sz:Nat}{v:Value}{n:Nat}{xs:List Value}(h:w.ownsRow B e sz v n xs)(hb:Below w.heap.size w w'):w'.ownsRow B e sz v n xs:=by
 refine⟨h.1,?_⟩;rcases h.2 with h0 | ⟨g,cap,cur,hv,hBg,hg,h1,h2,h3,h4⟩
 ·exact Or.inl h0
 ·refine Or.inr ⟨g,cap,cur,hv,hBg,?_,h1,h2,h3,h4⟩;rw[hb.block g (Nat.lt_of_not_le fun hge=>by simp[Array.getElem?_eq_none hge]at hg)];exact hg
theorem flat_get {α:Type}(f:α→List Value)(sz:Nat)(hf: ∀a,(f a).length=sz): ∀ (l:List α) (i j:Nat) (hi:i<l.length) (_:j<sz),(l.flatMap f)[i*sz+j]? =(f l[i])[j]? :=by
 intro l;induction l with
 | nil=>intro i j hi;simp at hi
 | cons c r ih=>
  intro i j hi hj;rw[List.flatMap_cons]
  match i,hi with
  | 0,_=>rw[List.getElem?_append_left (by rw[hf];omega)];simp
  | k+1,hi=>rw[List.getElem?_append_right (by rw[hf,Nat.add_mul];omega),hf];have e:(k+1)*sz+j-sz=k*sz+j:=(by rw[Nat.add_mul];omega);rw[e,ih k j (by simpa using hi) hj];simp
theorem flat_len {α:Type}(f:α→List Value)(sz:Nat)(hf: ∀a,(f a).length=sz)(l:List α):(l.flatMap f).length=l.length*sz:=by
 induction l with
 | nil=>simp
 | cons c r ih=>rw[List.flatMap_cons,List.length_append,hf,ih,List.length_cons,Nat.add_mul];omega
end kt
open Go.RowKit
namespace scw
open scp atw
def clsV (c:Cls):List Value:=[.string (bs c.name),.int .i64 c.kind,.string (bs c.above),.string (bs (c.must.getD 0 [])),.string (bs (c.must.getD 1 [])),.string (bs (c.may.getD 0 [])),.string (bs (c.may.getD 1 [])),.string (bs (c.may.getD 2 [])),.string (bs (c.may.getD 3 [])),.string (bs (c.may.getD 4 [])),.string (bs (c.may.getD 5 []))]
theorem clsV_len (c:Cls):(clsV c).length=11:=rfl
theorem cinfo:(Tryz.prog.info? 106).map (·.size)=some 11:=by kernel_rfl
def CA (w:World)(b o:Nat)(c:Cls):Prop:=w.rangeAt b o (clsV c)
def CB (w:World)(p:Nat)(c:Cls):Prop:=w.rangeAt p 0 (clsV c)∧w.there p 0 11
theorem ca_lt {w:World}{b o:Nat}{c:Cls}(h:CA w b o c):b<w.heap.size:=World.block_lt_of_cell? w _ (h 0 _ rfl)
theorem ca_below {w w':World}{b o:Nat}{c:Cls}(h:CA w b o c)(hb:Below w.heap.size w w'):CA w' b o c:=fun j u hj=>(hb.cell (World.block_lt_of_cell? w _ (h j u hj))).trans (h j u hj)
theorem cb_lt {w:World}{p:Nat}{c:Cls}(h:CB w p c):p<w.heap.size:=ca_lt h.1
theorem frozen_below {w w':World}{p o:Nat}(hp:p<w.heap.size)(hb:Below w.heap.size w w'):w'.frozen? ⟨p,o,none⟩=w.frozen? ⟨p,o,none⟩:=by unfold World.frozen?;show(match w'.heap[p]? with | _=>_)=_;rw[hb.block p hp]
theorem cb_below {w w':World}{p:Nat}{c:Cls}(h:CB w p c)(hb:Below w.heap.size w w'):CB w' p c:=by refine⟨ca_below h.1 hb,fun j hj=> ?_⟩;obtain⟨h1,h2⟩:=h.2 j hj;obtain⟨u,hu⟩:=Option.isSome_iff_exists.1 h1;refine⟨by rw[hb.cell (World.block_lt_of_cell? w _ hu),hu];rfl,?_⟩;rw[frozen_below (World.block_lt_of_cell? w _ hu) hb];exact h2
theorem cb_new (w:World)(c:Cls):CB (w.alloc (.cells (clsV c).toArray 106)) w.heap.size c:=by
 have key: ∀j v,(clsV c)[j]? =some v→(w.alloc (.cells (clsV c).toArray 106)).cell? ⟨w.heap.size,0+j,none⟩=some v:=by intro j v hv;rw[Nat.zero_add,World.cell?_alloc_new];simpa using hv
 refine⟨key,fun j hj=>⟨?_,Lib.frozen_of_heap (heap_alloc_new w _) _⟩⟩;have hj':j<(clsV c).length:=hj;rw[key j _ (List.getElem?_eq_getElem hj')];rfl
theorem cb_set {w:World}{p:Nat}{c:Cls}(h:CB w p c)(d:Cls):CB (w.setCells p 0 (clsV d)) p d:=⟨World.rangeAt_setCells_same w p 0 (clsV d) h.2,World.there_setCells h.2 p 0 (clsV d)⟩
theorem res_cls {fn:Func}{p u:Tmp}{ty:TypeId}(h:fn.results=#[.cell p ty,.tmp u])(tmps:Array Value)(P:Program)(w:World)(b:Nat)(cs:List Value)(d:TypeDesc)(x:Value)(hp:tmps.getD p undef= .pointer (some ⟨b,0,none⟩))(hc:w.rangeAt b 0 cs)
  (hu:P.underlying ty=some d) (hd:d.isRow=true) (hi:(P.info? ty).map (·.size)=some cs.length) (hx:tmps.getD u undef=x):
  (results fn tmps).run P w= .ok (.tuple #[.agg cs.toArray,x]) w:=by
 rw[results_cell_tmp h,hp,hx];simp[asAddr,run_loadVar_mid w b 0 ty cs d hc hu hd hi]
def tabV:List Value:=clsL.flatMap clsV
theorem tab_at (w:World)(i:Nat)(hi:i<13):CA (w.alloc (.cells tabV.toArray 106)) w.heap.size (i*11) (clsA i):=by
 intro j v hv;have hj:j<11:=(List.getElem?_eq_some_iff.1 hv).1;rw[World.cell?_alloc_new];have h1:=kt.flat_get clsV 11 clsV_len clsL i j hi hj;have h2:clsL[i]'hi=clsA i:=by unfold clsA;rw[List.getD_eq_getElem?_getD,List.getElem?_eq_getElem (show i<clsL.length from hi)];rfl
 rw[h2,hv]at h1;simpa[tabV]using h1
theorem classes_any (w:World):
  Calls Tryz.prog 142 #[] w fun e w'=>e= .returned (.slice (some ⟨w.heap.size,0,none⟩) 13 13)∧w'=w.alloc (.cells tabV.toArray 106):=by
 go_enter Tryz.func142,Tryz.ntmps142;go_wp2_with fail;go_ret;exact⟨rfl,rfl⟩
end scw
namespace atp
structure Ty where
 name:List UInt8
 syn:Int
 single:Bool
deriving DecidableEq
def tys:List Ty:=[⟨[99,110],1,false⟩,⟨[100,99],1,false⟩,⟨[100,101,115,99,114,105,112,116,105,111,110],1,false⟩,⟨[101,110,97,98,108,101,100],5,true⟩,⟨[108],1,false⟩,⟨[108,105,109,105,116],4,false⟩,⟨[109,97,105,108],1,false⟩,⟨[109,101,109,98,101,114],6,false⟩,⟨[111],1,false⟩,⟨[111,98,106,101,99,116,99,108,97,115,115],1,false⟩,⟨[111,117],1,false⟩,⟨[112,104,111,116,111],3,false⟩,⟨[115,101,101,97,108,115,111],6,false⟩,⟨[115,101,114,105,97,108,110,117,109,98,101,114],2,false⟩,⟨[115,110],1,false⟩,⟨[116,101,108,101,112,104,111,110,101,110,117,109,98,101,114],7,false⟩,⟨[116,105,116,108,101],1,false⟩,⟨[117,105,100],1,false⟩,⟨[117,105,100,110,117,109,98,101,114],4,true⟩,⟨[117,115,101,114,112,97,115,115,119,111,114,100],3,false⟩]
def findS (n:List UInt8):Option Ty:=tys.find? (fun t=>decide (t.name=n))
theorem findS_some {n:List UInt8}{t:Ty}(h:findS n=some t):t∈tys∧t.name=n:=by unfold findS at h;refine⟨List.mem_of_find?_eq_some h,?_⟩;have:=List.find?_some h;simpa using this
theorem findS_none {n:List UInt8}(h:findS n=none): ∀t∈tys,t.name≠n:=by intro t ht;unfold findS at h;have:=List.find?_eq_none.1 h t ht;simpa using this
theorem findS_all: ∀j:Fin 20,findS (tys[j.val]'(j.isLt)).name=some (tys[j.val]'(j.isLt)):=by decide+kernel
theorem findS_at (i:Nat)(hi:i<tys.length):findS tys[i].name=some tys[i]:=by exact findS_all ⟨i,hi⟩
theorem findS_not {n:List UInt8}(h: ∀i (hi:i<tys.length),tys[i].name≠n):findS n=none:=by unfold findS;rw[List.find?_eq_none];intro t ht;obtain⟨i,hi,rfl⟩:=List.mem_iff_getElem.1 ht;simpa using h i hi
theorem tys_len:tys.length=20:=rfl
def bare (l:List UInt8):List UInt8:=if l.head?=some 45 then l.tail else l
def digit (c:UInt8):Bool:=decide (48≤c.toNat∧c.toNat≤57)
def numOK (l:List UInt8):Bool:=decide (l=[48])||(decide (1≤(bare l).length)&&decide ((bare l).length≤18)&&decide ((bare l).head?≠some 48)&&(bare l).all digit)
def worthN (l:List UInt8):Nat:=l.foldl (fun n c=>10*n+(c.toNat-48)) 0
def worth (l:List UInt8):Int:=if l.head?=some 45 then- (worthN (bare l):Int)else(worthN (bare l):Int)
end atp
open Go.RowKit
namespace kt
def SegX (w:World)(B:Nat)(e:TypeId)(sz:Nat)(v:Value)(n:Nat)(xs:List Value):Prop:=
 xs.length=n*sz∧((v= .slice none 0 0∧n=0)∨
  ∃ (g o cap:Nat) (pre post:List Value),v= .slice (some ⟨g,o,none⟩) n cap∧B≤g∧w.heap[g]? =some (.cells (pre++xs++post).toArray e (0,0))∧pre.length=o∧n≤cap∧cap≤maxLen∧(cap-n)*sz≤post.length)
theorem segX_nil (w:World)(B:Nat)(e:TypeId)(sz:Nat):SegX w B e sz (.slice none 0 0) 0 []:=⟨by simp,Or.inl ⟨rfl,rfl⟩⟩
theorem segX_of_row {w:World}{B:Nat}{e:TypeId}{sz:Nat}{v:Value}{n:Nat}{xs:List Value}(h:w.ownsRow B e sz v n xs):SegX w B e sz v n xs:=by
 refine⟨h.1,?_⟩;rcases h.2 with h0 | ⟨g,cap,cur,rfl,hb,hg,hc,hm,hs,ht⟩
 ·exact Or.inl h0
 ·refine Or.inr ⟨g,0,cap,[],cur.toList.drop (n*sz),rfl,hb,?_,rfl,hc,hm,?_⟩
  ·rw[hg,←ht];simp
  ·rw[List.length_drop,Array.length_toList,hs,Nat.sub_mul];omega
theorem segX_slice {w:World}{B n:Nat}{e:TypeId}{sz:Nat}{v:Value}{xs:List Value}(h:SegX w B e sz v n xs): ∃ao cap,v= .slice ao n cap∧n≤cap:=by
 rcases h.2 with⟨rfl,rfl⟩ | ⟨g,o,cap,pre,post,rfl,_,_,_,hc,_⟩
 ·exact⟨none,0,rfl,Nat.le_refl _⟩
 ·exact⟨_,cap,rfl,hc⟩
theorem segX_same {w w':World}{B n:Nat}{e:TypeId}{sz:Nat}{v:Value}{xs:List Value}(h:SegX w B e sz v n xs)(hb: ∀k,v.ownBlock=some k→w'.heap[k]? =w.heap[k]?):SegX w' B e sz v n xs:=by
 refine⟨h.1,?_⟩;rcases h.2 with h0 | ⟨g,o,cap,pre,post,rfl,hB,hg,hr⟩
 ·exact Or.inl h0
 ·exact Or.inr ⟨g,o,cap,pre,post,rfl,hB,(hb g rfl).trans hg,hr⟩
theorem bld_lt {w:World}{b:Nat}{o:Obj}(h:w.heap[b]? =some o):b<w.heap.size:=by
 rcases Nat.lt_or_ge b w.heap.size with h' | h'
 ·exact h'
 ·simp[Array.getElem?_eq_none h']at h
theorem segX_lt {w:World}{B n:Nat}{e:TypeId}{sz:Nat}{v:Value}{xs:List Value}(h:SegX w B e sz v n xs): ∀k,v.ownBlock=some k→B≤k∧k<w.heap.size:=by
 intro k hk;rcases h.2 with⟨rfl,_⟩ | ⟨g,o,cap,pre,post,rfl,hB,hg,_⟩
 ·cases hk
 ·cases hk;exact⟨hB,bld_lt hg⟩
theorem segX_below {w w':World}{B n:Nat}{e:TypeId}{sz:Nat}{v:Value}{xs:List Value}(h:SegX w B e sz v n xs)(hb:Below w.heap.size w w'):SegX w' B e sz v n xs:=segX_same h fun k hk=>hb.block k (segX_lt h k hk).2
theorem segX_mono {w:World}{B C n:Nat}{e:TypeId}{sz:Nat}{v:Value}{xs:List Value}(h:SegX w B e sz v n xs)(hc:C≤B):SegX w C e sz v n xs:=by
 refine⟨h.1,?_⟩;rcases h.2 with h0 | ⟨g,o,cap,pre,post,rfl,hB,hr⟩
 ·exact Or.inl h0
 ·exact Or.inr ⟨g,o,cap,pre,post,rfl,Nat.le_trans hc hB,hr⟩
def SameOrNew (w:World)(v v':Value):Prop:= ∀k,v'.ownBlock=some k→v.ownBlock=some k∨w.heap.size≤k
theorem segX_cell {w:World}{B n:Nat}{e:TypeId}{sz:Nat}{v:Value}{xs:List Value}(h:SegX w B e sz v n xs)(hn:0<n): ∃g o cap,v= .slice (some ⟨g,o,none⟩) n cap∧B≤g∧n≤cap∧(∀ (j:Nat) (x:Value),xs[j]? =some x→w.cell? ⟨g,o+j,none⟩=some x):=by
 rcases h.2 with⟨_,h0⟩ | ⟨g,o,cap,pre,post,rfl,hB,hg,hp,hc,_⟩
 ·omega
 ·refine⟨g,o,cap,rfl,hB,hc,fun j x hx=> ?_⟩;have hj:=(List.getElem?_eq_some_iff.1 hx).1;rw[Lib.cell_of_heap hg];simp only[List.getElem?_toArray];rw[List.append_assoc,List.getElem?_append_right (by omega),show o+j-pre.length=j by omega,List.getElem?_append_left hj];exact hx
theorem run_append_room_at {P:Program}{w:World}(t ty e:TypeId)(i:TypeInfo)(ht:P.underlying t=some (.slice e))(hi:P.info? e=some i)
  (g o sLen sCap:Nat) (cur:Array Value) (hg:w.heap[g]? =some (.cells cur e (0,0)))
  (a:Addr) (m c:Nat) (news:List Value) (hl:news.length=m*i.size) (hnews: ∀j u,news[j]? =some u→w.cell? (a.add j)=some u) (h1: ∀u∈news,u.oneCell'=true)
  (hroom:sLen+m≤sCap) (hfit:o+sLen*i.size+news.length≤cur.size):
  (Builtin.append_ #[t,t] ty #[.slice (some ⟨g,o,none⟩) sLen sCap,.slice (some a) m c]).run P w=
   .ok (.slice (some ⟨g,o,none⟩) (sLen+m) sCap) (w.setRow g (cur.toList.take (o+sLen*i.size)++news++cur.toList.drop (o+sLen*i.size+news.length)).toArray):=by
 have hf:=run_firstCells_some (P:=P) w i.size m a m c news hl hnews;have hst:=run_storeCells_at P g (o+sLen*i.size) e news 0 cur w hg (by simpa using hfit) h1;simp only[Nat.add_zero]at hst;have ha:(⟨g,o,none⟩:Addr).add (sLen*i.size)=⟨g,o+sLen*i.size,none⟩:=by rw[Addr.add_mid]
 simp[Builtin.append_,run_underlying ht,sizeOf,typeInfo,hi,Builtin.lenOf,hroom,hf,ha,hst]
theorem grown_trans {w w1 w2:World}{k:Option Nat}(h:w.grownBy w1 k)(h2:w1.grownBy w2 k):w.grownBy w2 k:=⟨h2.os.trans h.os,h2.tape.trans h.tape,h2.output.trans h.output,Nat.le_trans h.size h2.size,fun j hj hne=>(h2.block j (Nat.lt_of_lt_of_le hj h.size) hne).trans (h.block j hj hne)⟩
theorem grown_row (w:World)(g:Nat)(cs:Array Value):w.grownBy (w.setRow g cs) (some g):=⟨rfl,rfl,rfl,by simp,fun j hj hne=>setRow_other w g j cs (fun h=>hne (by rw[h]))⟩
theorem segX_append {P:Program}{t e ty:TypeId}{z:Value}{sz bytes:Nat}(ht:P.underlying t=some (.slice e))(hinfo:(P.info? e).map (fun i=>(i.zero,i.size,i.bytes))=some (some z,sz,bytes))(hzs:z.cells.size=sz)(hsz:0<sz)
  {w:World} {B:Nat} {v:Value} {n:Nat} {xs:List Value} (ad:Addr) (m c:Nat) (news:List Value) (hl:news.length=m*sz) (hnews: ∀j u,news[j]? =some u→w.cell? (ad.add j)=some u) (h1: ∀u∈news,u.oneCell'=true)
  (hown:SegX w B e sz v n xs) (h63:n+m≤maxLen) (hb:(n+m)*bytes≤140737488355328) (hbase:B≤w.heap.size):
  ∃v' w1,(Builtin.append_ #[t,t] ty #[v,.slice (some ad) m c]).run P w= .ok v' w1∧SegX w1 B e sz v' (n+m) (xs++news)∧w.grownBy w1 v.ownBlock∧SameOrNew w v v':=by
 rcases hown.2 with⟨rfl,rfl⟩ | ⟨g,o,cap,pre,post,rfl,hB,hg,hp,hc,hm,hpost⟩
 ·have h0:xs=[]:=List.eq_nil_of_length_eq_zero (by simpa using hown.1);subst h0;obtain⟨i0,hi,hz0,hz1,hz2⟩:=info_parts hinfo;obtain⟨v',w1,hr,ho,hgr,_⟩:=run_append_own (P:=P) w w.heap.size t ty e i0 z sz bytes ht hi hz0 hz1 hz2 hzs hsz (.slice none 0 0) 0 [] (row_nil _ _ _ _) ad m c news hl hnews h1 h63 hb (Nat.le_refl _);exact⟨v',w1,hr,segX_mono (segX_of_row ho) hbase,hgr,fun k hk=>Or.inr (segX_lt (segX_of_row ho) k hk).1⟩
 ·obtain⟨i0,hi,hz0,hz1,hz2⟩:=info_parts hinfo;subst hz1 hz2;by_cases hroom:n+m≤cap
  ·have hfit:m*i0.size≤post.length:=(by refine Nat.le_trans (Nat.mul_le_mul_right _ ?_) hpost;omega);have hxl:=hown.1;have hr:=run_append_room_at (P:=P) (w:=w) t ty e i0 ht hi g o n cap _ hg ad m c news hl hnews h1 hroom (by simp;omega);refine⟨_,_,hr,⟨by rw[List.length_append,hown.1,hl,Nat.add_mul],Or.inr ⟨g,o,cap,pre,post.drop (m*i0.size),rfl,hB,?_,hp,hroom,hm,?_⟩⟩,grown_row _ _ _,fun k hk=>Or.inl hk⟩
   ·rw[setRow_heap w g _ _ e _ hg];congr 3;have e1:(pre++xs++post).take (o+n*i0.size)=pre++xs:=(by rw[List.take_append_of_le_length (by rw[List.length_append];omega),List.take_of_length_le (by rw[List.length_append];omega)]);have e2:(pre++xs++post).drop (o+n*i0.size+news.length)=post.drop (m*i0.size):=(by rw[List.drop_append,List.drop_of_length_le (by rw[List.length_append];omega),List.nil_append];congr 1;rw[List.length_append];omega);rw[e1,e2];simp
   ·rw[List.length_drop,Nat.sub_mul];rw[Nat.sub_mul]at hpost;rw[Nat.add_mul];omega
  ·have holds: ∀j u,xs[j]? =some u→w.cell? ((⟨g,o,none⟩:Addr).add j)=some u:=(by intro j u hj;have hj':=(List.getElem?_eq_some_iff.1 hj).1;rw[Addr.add_mid,Lib.cell_of_heap hg];simp only[List.getElem?_toArray];rw[List.append_assoc,List.getElem?_append_right (by omega),show o+j-pre.length=j by omega,List.getElem?_append_left hj'];exact hj);have hr:=run_append_grow (P:=P) w t ty e i0 z ht hi hz0 ⟨g,o,none⟩ n cap xs hown.1 holds ad m c news hl hnews (by omega) (by unfold maxLen at h63;omega) (growslice_fits (by omega) hb);have hge:=grownCap_ge w (n+m) cap e;refine⟨_,_,hr,⟨by rw[List.length_append,hown.1,hl,Nat.add_mul],Or.inr ⟨w.heap.size,0,_,[],(Builtin.zeroCells z.cells (grownCap w (n+m) cap e- (n+m))).toList,rfl,hbase,?_,rfl,hge,grownCap_le_maxLen w (n+m) cap e h63,?_⟩⟩,⟨rfl,rfl,rfl,by simp,fun k hk _=>Below.heap_alloc w.drew _ _ hk⟩,fun k hk=>Or.inr (by cases hk;exact Nat.le_refl _)⟩
   ·refine(heap_alloc_new w.drew _).trans ?_;congr 3;simp
   ·rw[Array.length_toList,size_zeroCells,hzs];exact Nat.le_refl _
end kt
open Go.RowKit
namespace atw
open atp
def tval (t:Ty):List Value:=[.string (bs t.name),.int .i64 t.syn,.bool t.single]
def tcells:List Value:=tys.flatMap tval
def TyEnv (w:World):Prop:=w.rangeAt 0 0 tcells
theorem tyEnv_below {w w':World}(h:TyEnv w)(hb:Below w.heap.size w w'):TyEnv w':=fun j u hj=>(hb.cell (World.block_lt_of_cell? w _ (h j u hj))).trans (h j u hj)
theorem tinfo:(Tryz.prog.info? 169).map (·.size)=some tcells.length:=by kernel_rfl
theorem tix0 (w:World):(Instr.index 169 (.agg tcells.toArray) (.int .i64 (0:Nat))).run Tryz.prog w= .ok (.agg (tval (tys[0]'(by decide))).toArray) w:=by kernel_rfl
theorem tix1 (w:World):(Instr.index 169 (.agg tcells.toArray) (.int .i64 (1:Nat))).run Tryz.prog w= .ok (.agg (tval (tys[1]'(by decide))).toArray) w:=by kernel_rfl
theorem tix2 (w:World):(Instr.index 169 (.agg tcells.toArray) (.int .i64 (2:Nat))).run Tryz.prog w= .ok (.agg (tval (tys[2]'(by decide))).toArray) w:=by kernel_rfl
theorem tix3 (w:World):(Instr.index 169 (.agg tcells.toArray) (.int .i64 (3:Nat))).run Tryz.prog w= .ok (.agg (tval (tys[3]'(by decide))).toArray) w:=by kernel_rfl
theorem tix4 (w:World):(Instr.index 169 (.agg tcells.toArray) (.int .i64 (4:Nat))).run Tryz.prog w= .ok (.agg (tval (tys[4]'(by decide))).toArray) w:=by kernel_rfl
theorem tix5 (w:World):(Instr.index 169 (.agg tcells.toArray) (.int .i64 (5:Nat))).run Tryz.prog w= .ok (.agg (tval (tys[5]'(by decide))).toArray) w:=by kernel_rfl
theorem tix6 (w:World):(Instr.index 169 (.agg tcells.toArray) (.int .i64 (6:Nat))).run Tryz.prog w= .ok (.agg (tval (tys[6]'(by decide))).toArray) w:=by kernel_rfl
theorem tix7 (w:World):(Instr.index 169 (.agg tcells.toArray) (.int .i64 (7:Nat))).run Tryz.prog w= .ok (.agg (tval (tys[7]'(by decide))).toArray) w:=by kernel_rfl
theorem tix8 (w:World):(Instr.index 169 (.agg tcells.toArray) (.int .i64 (8:Nat))).run Tryz.prog w= .ok (.agg (tval (tys[8]'(by decide))).toArray) w:=by kernel_rfl
theorem tix9 (w:World):(Instr.index 169 (.agg tcells.toArray) (.int .i64 (9:Nat))).run Tryz.prog w= .ok (.agg (tval (tys[9]'(by decide))).toArray) w:=by kernel_rfl
theorem tix10 (w:World):(Instr.index 169 (.agg tcells.toArray) (.int .i64 (10:Nat))).run Tryz.prog w= .ok (.agg (tval (tys[10]'(by decide))).toArray) w:=by kernel_rfl
theorem tix11 (w:World):(Instr.index 169 (.agg tcells.toArray) (.int .i64 (11:Nat))).run Tryz.prog w= .ok (.agg (tval (tys[11]'(by decide))).toArray) w:=by kernel_rfl
theorem tix12 (w:World):(Instr.index 169 (.agg tcells.toArray) (.int .i64 (12:Nat))).run Tryz.prog w= .ok (.agg (tval (tys[12]'(by decide))).toArray) w:=by kernel_rfl
theorem tix13 (w:World):(Instr.index 169 (.agg tcells.toArray) (.int .i64 (13:Nat))).run Tryz.prog w= .ok (.agg (tval (tys[13]'(by decide))).toArray) w:=by kernel_rfl
theorem tix14 (w:World):(Instr.index 169 (.agg tcells.toArray) (.int .i64 (14:Nat))).run Tryz.prog w= .ok (.agg (tval (tys[14]'(by decide))).toArray) w:=by kernel_rfl
theorem tix15 (w:World):(Instr.index 169 (.agg tcells.toArray) (.int .i64 (15:Nat))).run Tryz.prog w= .ok (.agg (tval (tys[15]'(by decide))).toArray) w:=by kernel_rfl
theorem tix16 (w:World):(Instr.index 169 (.agg tcells.toArray) (.int .i64 (16:Nat))).run Tryz.prog w= .ok (.agg (tval (tys[16]'(by decide))).toArray) w:=by kernel_rfl
theorem tix17 (w:World):(Instr.index 169 (.agg tcells.toArray) (.int .i64 (17:Nat))).run Tryz.prog w= .ok (.agg (tval (tys[17]'(by decide))).toArray) w:=by kernel_rfl
theorem tix18 (w:World):(Instr.index 169 (.agg tcells.toArray) (.int .i64 (18:Nat))).run Tryz.prog w= .ok (.agg (tval (tys[18]'(by decide))).toArray) w:=by kernel_rfl
theorem tix19 (w:World):(Instr.index 169 (.agg tcells.toArray) (.int .i64 (19:Nat))).run Tryz.prog w= .ok (.agg (tval (tys[19]'(by decide))).toArray) w:=by kernel_rfl
theorem tix (i:Nat)(hi:i<20)(w:World):(Instr.index 169 (.agg tcells.toArray) (.int .i64 (i:Int))).run Tryz.prog w= .ok (.agg (tval (tys[i]'hi)).toArray) w:=by
 match i,hi with
 | 0,_=>exact tix0 w
 | 1,_=>exact tix1 w
 | 2,_=>exact tix2 w
 | 3,_=>exact tix3 w
 | 4,_=>exact tix4 w
 | 5,_=>exact tix5 w
 | 6,_=>exact tix6 w
 | 7,_=>exact tix7 w
 | 8,_=>exact tix8 w
 | 9,_=>exact tix9 w
 | 10,_=>exact tix10 w
 | 11,_=>exact tix11 w
 | 12,_=>exact tix12 w
 | 13,_=>exact tix13 w
 | 14,_=>exact tix14 w
 | 15,_=>exact tix15 w
 | 16,_=>exact tix16 w
 | 17,_=>exact tix17 w
 | 18,_=>exact tix18 w
 | 19,_=>exact tix19 w
 | n+20,h=>exact absurd h (by omega)
def resT:Option Ty→Value
 | some t=> .tuple #[.agg #[.string (bs t.name),.int .i64 t.syn,.bool t.single],.bool true]
 | none=> .tuple #[.agg #[.string ⟨#[]⟩,.int .i64 0,.bool false],.bool false]
def AC (w:World)(p:Nat):Prop:= ∃x i b,w.heap[p]? =some (.cells #[.string x,.int .i64 i,.bool b] 108 (0,0))
theorem ac_lt {w:World}{p:Nat}(h:AC w p):p<w.heap.size:=by obtain⟨x,i,b,h⟩:=h;exact kt.bld_lt h
theorem ac_below {w w':World}{p:Nat}(h:AC w p)(hb:Below w.heap.size w w'):AC w' p:=by have hlt:=ac_lt h;obtain⟨x,i,b,h⟩:=h;exact⟨x,i,b,(hb.block p hlt).trans h⟩
theorem ac_cells {w:World}{p:Nat}(h:AC w p):(∃x,w.cell? ⟨p,0,none⟩=some (.string x))∧(∃i,w.cell? ⟨p,1,none⟩=some (.int .i64 i))∧(∃b,w.cell? ⟨p,2,none⟩=some (.bool b))∧w.frozen? ⟨p,0,none⟩=false∧w.frozen? ⟨p,1,none⟩=false∧w.frozen? ⟨p,2,none⟩=false:=by obtain⟨x,i,b,h⟩:=h;exact⟨⟨x,by rw[Lib.cell_of_heap h];rfl⟩,⟨i,by rw[Lib.cell_of_heap h];rfl⟩,⟨b,by rw[Lib.cell_of_heap h];rfl⟩,Lib.frozen_of_heap h 0,Lib.frozen_of_heap h 1,Lib.frozen_of_heap h 2⟩
theorem ac_new (w:World)(x:ByteArray)(i:Int)(b:Bool):AC (w.alloc (.cells #[.string x,.int .i64 i,.bool b] 108)) w.heap.size:=⟨x,i,b,heap_alloc_new w _⟩
theorem ac_store {w:World}{p:Nat}(h:AC w p)(a b c:Value):(((w.setCell ⟨p,0,none⟩ a).setCell ⟨p,1,none⟩ b).setCell ⟨p,2,none⟩ c).cell? ⟨p,0,none⟩=some a∧(((w.setCell ⟨p,0,none⟩ a).setCell ⟨p,1,none⟩ b).setCell ⟨p,2,none⟩ c).cell? ⟨p,1,none⟩=some b∧(((w.setCell ⟨p,0,none⟩ a).setCell ⟨p,1,none⟩ b).setCell ⟨p,2,none⟩ c).cell? ⟨p,2,none⟩=some c:=by
 obtain⟨⟨x,h0⟩,⟨y,h1⟩,⟨z,h2⟩,_⟩:=ac_cells h;have n01:(⟨p,0,none⟩:Addr)≠⟨p,1,none⟩:=by intro hh;injection hh with _ h _;cases h
 have n02:(⟨p,0,none⟩:Addr)≠⟨p,2,none⟩:=by intro hh;injection hh with _ h _;cases h
 have n12:(⟨p,1,none⟩:Addr)≠⟨p,2,none⟩:=by intro hh;injection hh with _ h _;cases h
 have k0:=World.cell?_setCell_same w ⟨p,0,none⟩ a h0;have k1:(w.setCell ⟨p,0,none⟩ a).cell? ⟨p,1,none⟩=some (.int .i64 y):=by rw[World.cell?_setCell_other _ _ _ _ n01,h1]
 have k2:(w.setCell ⟨p,0,none⟩ a).cell? ⟨p,2,none⟩=some (.bool z):=by rw[World.cell?_setCell_other _ _ _ _ n02,h2]
 have m1:=World.cell?_setCell_same _ ⟨p,1,none⟩ b k1;have m0:((w.setCell ⟨p,0,none⟩ a).setCell ⟨p,1,none⟩ b).cell? ⟨p,0,none⟩=some a:=by rw[World.cell?_setCell_other _ _ _ _ n01.symm,k0]
 have m2:((w.setCell ⟨p,0,none⟩ a).setCell ⟨p,1,none⟩ b).cell? ⟨p,2,none⟩=some (.bool z):=by rw[World.cell?_setCell_other _ _ _ _ n12,k2]
 refine⟨?_,?_,World.cell?_setCell_same _ _ _ m2⟩
 ·rw[World.cell?_setCell_other _ _ _ _ n02.symm,m0]
 ·rw[World.cell?_setCell_other _ _ _ _ n12.symm,m1]
theorem below_put3 {B:Nat}{w w':World}(h:Below B w w'){p:Nat}(hp:B≤p)(a b c:Value):Below B w (((w'.setCell ⟨p,0,none⟩ a).setCell ⟨p,1,none⟩ b).setCell ⟨p,2,none⟩ c):=((h.setCell (p:=⟨p,0,none⟩) hp a).setCell (p:=⟨p,1,none⟩) hp b).setCell (p:=⟨p,2,none⟩) hp c
theorem bs_beq (a b:List UInt8):((bs a).toList==(bs b).toList)=decide (a=b):=by rw[Lib.toList_data,Lib.toList_data,bs_data,bs_data,Bool.eq_iff_iff,beq_iff_eq,decide_eq_true_iff]
theorem find_any (s:ByteArray)(w:World)(hs:s.size≤10000000)(hE:Hid (TyEnv w)):
  Calls Tryz.prog 74 #[.string s] w fun e w'=>e= .returned (resT (findS (sml.lowL s.data.toList)))∧Below w.heap.size w w':=by
 obtain⟨n,hn⟩: ∃n,n=sml.lowL s.data.toList:=⟨_,rfl⟩;have HL:Hid (∀w,Calls Tryz.prog 135 #[.string s] w fun e w'=>e= .returned (.string (bs n))∧Below w.heap.size w w'):=fun w=>by rw[hn];exact lower_any s w hs
 rw[←hn];clear hn;obtain⟨cs,hcs⟩: ∃cs:List Value,Hid (cs=tcells):=⟨_,rfl⟩;have HIX:Hid (∀ (i:Nat) (hi:i<20) w,(Instr.index 169 (.agg cs.toArray) (.int .i64 (i:Int))).run Tryz.prog w= .ok (.agg #[.string (bs (tys[i]'hi).name),.int .i64 (tys[i]'hi).syn,.bool (tys[i]'hi).single]) w):=by rw[hcs.out];exact tix
 have HPC0:=Lib.hid (ac_new w ByteArray.empty 0 false);have HTI:Hid ((Tryz.prog.info? 169).map (·.size)=some cs.length):=by rw[hcs.out];exact tinfo
 have HTE:Hid (∀w',Below w.heap.size w w'→w'.rangeAt 0 0 cs):=by rw[hcs.out];exact fun w' h=>tyEnv_below hE.out h
 clear hcs;go_enter Tryz.func74,Tryz.ntmps74;go_wp2_with fail;refine(HL.out _).mono ?_;rintro e w1 ⟨rfl,hB1⟩;have HPC1:=Lib.hid (ac_below HPC0.out hB1);have HB1:Hid (Below w.heap.size w w1):=((Below.refl _ w).alloc (Nat.le_refl _) _).trans (hB1.mono (by simp));have hw1:w.heap.size<w1.heap.size:=ac_lt HPC1.out;have hr:=HTE.out w1 HB1.out;clear hB1;go_wp2_with (refine wpList_load_mid rfl 169 _ rfl 0 0 rfl cs _ hr Tryz.underlying169 rfl HTI.out ?_);clear hr;go_loopw [9] (fun iv wr=> ∃i:Nat,i≤20∧iv= .int .i64 (i:Int)∧Hid (∀j (hj:j<tys.length),j<i→tys[j].name≠n)∧Hid (AC wr w.heap.size)∧Hid (Below w.heap.size w wr)) (fun iv _=>20- (intOf iv).toNat);case atStart=>exact⟨0,by omega,rfl,fun j hj h=>by omega,HPC1,HB1⟩
 case round=>
  obtain⟨i,hi,rfl,hN,hA,hB⟩:=hrel;have hwr:w.heap.size<wr.heap.size:=ac_lt hA.out;by_cases hlt:i<20
  ·have hlt':(i:Int)<20:=(by omega);have hix:=HIX.out i hlt;have HS:=Lib.hid (findS_at i hlt);have HNX:Hid ((tys[i]'hlt).name≠n→ ∀j (hj:j<tys.length),j<i+1→tys[j].name≠n):=by
    intro h j hj hji;by_cases e:j=i
    ·subst e;exact h
    ·exact hN.out j hj (by omega)
   generalize(tys[i]'hlt)=t at hix HS HNX;have hbeq:=bs_beq t.name n;have HAX:Hid (AC (wr.alloc (.cells #[.string (bs t.name),.int .i64 t.syn,.bool t.single] 108)) w.heap.size):=ac_below hA.out ((Below.refl _ _).alloc (Nat.le_refl _) _);have HBX:Hid (Below w.heap.size w (wr.alloc (.cells #[.string (bs t.name),.int .i64 t.syn,.bool t.single] 108))):=hB.out.alloc (by omega) _;by_cases htn:t.name=n
   ·have hbeq2:((bs t.name).toList==(bs n).toList)=true:=(by rw[hbeq];exact decide_eq_true htn);have HF:Hid (findS n=some t):=(by rw[←htn];exact HS.out);obtain⟨W,hW⟩: ∃W,wr.alloc (.cells #[.string (bs t.name),.int .i64 t.syn,.bool t.single] 108)=W:=⟨_,rfl⟩;rw[hW]at HAX HBX;have k0:W.cell? ⟨wr.heap.size,0,none⟩=some (.string (bs t.name)):=(by rw[←hW,World.cell?_alloc_new];rfl);have k1:W.cell? ⟨wr.heap.size,1,none⟩=some (.int .i64 t.syn):=(by rw[←hW,World.cell?_alloc_new];rfl);have k2:W.cell? ⟨wr.heap.size,2,none⟩=some (.bool t.single):=(by rw[←hW,World.cell?_alloc_new];rfl);obtain⟨⟨x0,c0⟩,⟨y0,c1⟩,⟨z0,c2⟩,f0,f1,f2⟩:=ac_cells HAX.out;obtain⟨e0,e1,e2⟩:=ac_store HAX.out (.string (bs t.name)) (.int .i64 t.syn) (.bool t.single);clear hbeq htn;go_wp2_with fail
    (try simp only[Exit.inBlock,Exit.then])
    refine bodyPost_ret (v:= .tuple #[.agg #[.string (bs t.name),.int .i64 t.syn,.bool t.single],.bool true]) (by rw[results_cell_tmp rfl];go_simp) rfl ?_;exact⟨by rw[HF.out];rfl,below_put3 HBX.out (Nat.le_refl _) _ _ _⟩
   ·have hbeq2:((bs t.name).toList==(bs n).toList)=false:=(by rw[hbeq];exact decide_eq_false htn);have HN2:=Lib.hid (HNX.out htn);clear hbeq htn;go_wp2_with fail;go_roundw;case rel=>exact⟨i+1,by omega,by go_num,HN2,HAX,HBX⟩
    case measure=>simp[intOf];omega
  ·obtain rfl:i=20:=(by omega);have HF:Hid (findS n=none):=findS_not (fun j hj=>hN.out j hj hj);obtain⟨⟨x0,c0⟩,⟨y0,c1⟩,⟨z0,c2⟩,f0,f1,f2⟩:=ac_cells hA.out;obtain⟨e0,e1,e2⟩:=ac_store hA.out (.string ⟨#[]⟩) (.int .i64 0) (.bool false);go_wp2_with fail
   (try simp only[Exit.inBlock,Exit.then])
   refine bodyPost_ret (v:= .tuple #[.agg #[.string ⟨#[]⟩,.int .i64 0,.bool false],.bool false]) (by rw[results_cell_tmp rfl];go_simp) rfl ?_;exact⟨by rw[HF.out];rfl,below_put3 hB.out (Nat.le_refl _) _ _ _⟩
end atw
open Go.RowKit
namespace scw
open scp atw
def resC:Option Nat→Value
 | some k=> .tuple #[.agg (clsV (clsA k)).toArray,.bool true]
 | none=> .tuple #[.agg (clsV noCls).toArray,.bool false]
theorem classes_at (w:World):
  Calls Tryz.prog 142 #[] w fun e w'=> ∃g,e= .returned (.slice (some ⟨g,0,none⟩) 13 13)∧(∀i,i<13→CA w' g (i*11) (clsA i))∧Below w.heap.size w w':=
 (classes_any w).mono fun e w' ⟨he,hw⟩=>⟨_,he,fun i hi=>by rw[hw];exact tab_at w i hi,by rw[hw];exact(Below.refl _ _).alloc (Nat.le_refl _) _⟩
theorem cls_letters (c:Cls): ∃a0 i1 a2 a3 a4 a5 a6 a7 a8 a9 a10,clsV c=[.string a0,.int .i64 i1,.string a2,.string a3,.string a4,.string a5,.string a6,.string a7,.string a8,.string a9,.string a10]∧a0=bs c.name∧i1=c.kind∧a2=bs c.above:=⟨_,_,_,_,_,_,_,_,_,_,_,rfl,rfl,rfl,rfl⟩
theorem ca_cells {w:World}{b o:Nat}{c:Cls}{a0 a2 a3 a4 a5 a6 a7 a8 a9 a10:ByteArray}{i1:Int}(h:CA w b o c)(hc:clsV c=[.string a0,.int .i64 i1,.string a2,.string a3,.string a4,.string a5,.string a6,.string a7,.string a8,.string a9,.string a10]):
  w.cell? ⟨b,o,none⟩=some (.string a0)∧w.cell? ⟨b,o+1,none⟩=some (.int .i64 i1)∧w.cell? ⟨b,o+2,none⟩=some (.string a2)∧w.cell? ⟨b,o+3,none⟩=some (.string a3)∧w.cell? ⟨b,o+4,none⟩=some (.string a4)∧w.cell? ⟨b,o+5,none⟩=some (.string a5)∧w.cell? ⟨b,o+6,none⟩=some (.string a6)∧w.cell? ⟨b,o+7,none⟩=some (.string a7)∧w.cell? ⟨b,o+8,none⟩=some (.string a8)∧w.cell? ⟨b,o+9,none⟩=some (.string a9)∧w.cell? ⟨b,o+10,none⟩=some (.string a10):=by
 unfold CA at h;rw[hc]at h;exact⟨h 0 _ rfl,h 1 _ rfl,h 2 _ rfl,h 3 _ rfl,h 4 _ rfl,h 5 _ rfl,h 6 _ rfl,h 7 _ rfl,h 8 _ rfl,h 9 _ rfl,h 10 _ rfl⟩
theorem cb_cells {w:World}{p:Nat}{c:Cls}{a0 a2 a3 a4 a5 a6 a7 a8 a9 a10:ByteArray}{i1:Int}(h:CB w p c)(hc:clsV c=[.string a0,.int .i64 i1,.string a2,.string a3,.string a4,.string a5,.string a6,.string a7,.string a8,.string a9,.string a10]):
  w.cell? ⟨p,0,none⟩=some (.string a0)∧w.cell? ⟨p,1,none⟩=some (.int .i64 i1)∧w.cell? ⟨p,2,none⟩=some (.string a2)∧w.cell? ⟨p,3,none⟩=some (.string a3)∧w.cell? ⟨p,4,none⟩=some (.string a4)∧w.cell? ⟨p,5,none⟩=some (.string a5)∧w.cell? ⟨p,6,none⟩=some (.string a6)∧w.cell? ⟨p,7,none⟩=some (.string a7)∧w.cell? ⟨p,8,none⟩=some (.string a8)∧w.cell? ⟨p,9,none⟩=some (.string a9)∧w.cell? ⟨p,10,none⟩=some (.string a10):=by
 have:=ca_cells h.1 hc;simpa only[Nat.zero_add]using this
theorem cls_name: ∀k:Fin 13,(clsA k.val).name≠[]:=by decide+kernel
theorem sfind_any (n:ByteArray)(w:World):
  Calls Tryz.prog 81 #[.string n] w fun e w'=>e= .returned (resC (idx n.data.toList))∧Below w.heap.size w w':=by
 have HZ0:=Lib.hid (cb_new w noCls);have HC:Hid (∀W,Calls Tryz.prog 142 #[] W fun e w'=> ∃g,e= .returned (.slice (some ⟨g,0,none⟩) 13 13)∧(∀i,i<13→CA w' g (i*11) (clsA i))∧Below W.heap.size W w'):=classes_at;have HBZ:Hid (Below w.heap.size w (w.alloc (.cells (clsV noCls).toArray 106))):=(Below.refl _ _).alloc (Nat.le_refl _) _;go_enter Tryz.func81,Tryz.ntmps81;go_wp2_with fail;refine(HC.out _).mono ?_;rintro e w1 ⟨g,rfl,hT,hB1⟩;have HT1:=Lib.hid hT;have HB1:Hid (Below w.heap.size w w1):=HBZ.out.trans (hB1.mono HBZ.out.size);have HZ1:Hid (CB w1 w.heap.size noCls):=cb_below HZ0.out hB1;clear hB1 hT HBZ;go_wp2_with fail;go_loopw [8] (fun iv wr=> ∃i:Nat,i≤13∧iv= .int .i64 (i:Int)∧Hid (∀j,j<i→(clsA j).name≠n.data.toList)∧Hid (Below w1.heap.size w1 wr)) (fun iv _=>13- (intOf iv).toNat);case atStart=>exact⟨0,by omega,rfl,fun j h=>absurd h (Nat.not_lt_zero _),Below.refl _ _⟩
 case round=>
  obtain⟨i,hi,rfl,hN,hB⟩:=hrel;have hsz:=hB.out.size;have HZr:Hid (CB wr w.heap.size noCls):=cb_below HZ1.out hB.out;have HBw:=Lib.hid (HB1.out.trans (hB.out.mono HB1.out.size));have hwr:w.heap.size<wr.heap.size:=cb_lt HZr.out;by_cases hlt:i<13
  ·have hlt':(i:Int)<13:=(by omega);obtain⟨c,hc⟩: ∃c,clsA i=c:=⟨_,rfl⟩;have hcn:=cls_name ⟨i,hlt⟩;have HIX:=Lib.hid (fun h1 h2=>idx_hit (n:=n.data.toList) hlt h1 h2);have hca:=ca_below (HT1.out i hlt) hB.out;have hcn2:c.name≠[]:=(by rw[←hc];exact hcn);have HN2:Hid (c.name≠n.data.toList→ ∀j,j<i+1→(clsA j).name≠n.data.toList):=fun h j hj=>by
    by_cases e:j=i
    ·subst e;rw[hc];exact h
    ·exact hN.out j (by omega)
   rw[hc]at HIX hca;have HCI:Hid (clsA i=c):=hc;obtain⟨a0,i1,a2,a3,a4,a5,a6,a7,a8,a9,a10,hv,h0,hx1,hx2⟩:=cls_letters c;obtain⟨c0,c1,c2,c3,c4,c5,c6,c7,c8,c9,c10⟩:=ca_cells hca hv;have HV:=Lib.hid hv;have H0:=Lib.hid h0;clear hc hcn hca hv hx1 hx2;obtain⟨W2,hW2⟩: ∃W,wr.alloc (.cells #[.string a0,.int .i64 i1,.string a2,.string a3,.string a4,.string a5,.string a6,.string a7,.string a8,.string a9,.string a10] 106)=W:=⟨_,rfl⟩;have hB2:Below wr.heap.size wr W2:=(by rw[←hW2];exact(Below.refl _ _).alloc (Nat.le_refl _) _);have hcb:CB W2 wr.heap.size c:=(by rw[←hW2];have:=cb_new wr c;rw[HV.out]at this;exact this);obtain⟨d0,d1,d2,d3,d4,d5,d6,d7,d8,d9,d10⟩:=cb_cells hcb HV.out;have HZ2:=Lib.hid (cb_below HZr.out hB2);have HB2:=Lib.hid (HBw.out.trans (hB2.mono HBw.out.size));have HB12:=Lib.hid (hB.out.trans (hB2.mono hsz));by_cases hn:c.name=n.data.toList
   ·have e1:(a0.toList==n.toList)=true:=(by rw[h0,←bs_of n,bs_beq];exact decide_eq_true hn);have e2:n.toList.isEmpty=false:=(by rw[Lib.toList_data,←hn];exact List.isEmpty_eq_false_iff.2 hcn2);have HF:Hid (idx n.data.toList=some i):=HIX.out hn hN.out;have HEND:Hid (CB (W2.setCells w.heap.size 0 (clsV c)) w.heap.size c):=cb_set HZ2.out c;have HBE:Hid (Below w.heap.size w (W2.setCells w.heap.size 0 (clsV c))):=Lib.below_setCells _ (Nat.le_refl _) _ _ HB2.out;have hth:=HZ2.out.2;clear hn hcn2 HIX hB2 hcb h0;go_wp2_with (refine wpList_store_mid rfl 106 _ _ rfl w.heap.size 0 #[.string a0,.int .i64 i1,.string a2,.string a3,.string a4,.string a5,.string a6,.string a7,.string a8,.string a9,.string a10] rfl rfl hth cinfo (by simp[Value.oneCell']) ?_);obtain⟨W3,hW3⟩: ∃W,W2.setCells w.heap.size 0 (clsV c)=W:=⟨_,rfl⟩;rw[hW3]at HEND HBE;rw[HV.out]at hW3;refine bodyPost_ret (v:= .tuple #[.agg #[.string a0,.int .i64 i1,.string a2,.string a3,.string a4,.string a5,.string a6,.string a7,.string a8,.string a9,.string a10],.bool true]) (by exact res_cls rfl _ _ _ w.heap.size [.string a0,.int .i64 i1,.string a2,.string a3,.string a4,.string a5,.string a6,.string a7,.string a8,.string a9,.string a10] _ (.bool true) rfl (by have:=HEND.out.1;rw[HV.out]at this;rw[←hW3]at this;exact this) Tryz.underlying106 rfl cinfo rfl) rfl ?_;refine⟨?_,?_⟩
    ·rw[HF.out];show _=Ending.returned (.tuple #[.agg (clsV (clsA i)).toArray,.bool true]);rw[HCI.out,HV.out]
    ·have:=HBE.out;rw[←hW3]at this;exact this
   ·have e1:(a0.toList==n.toList)=false:=(by rw[h0,←bs_of n,bs_beq];exact decide_eq_false hn);have HN3:=Lib.hid (HN2.out hn);clear hn hcn2 HIX hB2 hcb h0 HN2;go_wp2_with fail;go_roundw;case rel=>exact⟨i+1,by omega,by go_num,HN3,HB12⟩
    case measure=>simp[intOf];omega
  ·obtain rfl:i=13:=(by omega);have HF:Hid (idx n.data.toList=none):=idx_no fun j hj=>hN.out j hj;have hth:=HZr.out.2;have HEND:Hid (CB (wr.setCells w.heap.size 0 (clsV noCls)) w.heap.size noCls):=cb_set HZr.out noCls;have HBE:Hid (Below w.heap.size w (wr.setCells w.heap.size 0 (clsV noCls))):=Lib.below_setCells _ (Nat.le_refl _) _ _ HBw.out;go_wp2_with (refine wpList_store_mid rfl 106 _ _ rfl w.heap.size 0 (clsV noCls).toArray rfl rfl hth cinfo (by simp[clsV,Value.oneCell']) ?_);refine bodyPost_ret (v:= .tuple #[.agg (clsV noCls).toArray,.bool false]) (by exact res_cls rfl _ _ _ w.heap.size (clsV noCls) _ (.bool false) rfl HEND.out.1 Tryz.underlying106 rfl cinfo rfl) rfl ?_;exact⟨by rw[HF.out];rfl,HBE.out⟩
end scw
open Go.RowKit
namespace scw
open scp atw
theorem slower_any (s:ByteArray)(w:World)(hs:s.size≤10000000):
    Calls Tryz.prog 82 #[.string s] w fun e w'=>e= .returned (.string (bs (sml.lowL s.data.toList)))∧Below w.heap.size w w':=by
  obtain⟨W1,cap,hrun,hrow,hB1⟩:=kt.bytes_of (P:=Tryz.prog) (src:=9) (dst:=131) (e:=5) Tryz.underlying9 Tryz.underlying131 Tryz.underlying5 w s;have HB1:=Lib.hid hB1;have HROW:=Lib.hid hrow;obtain⟨B,hB⟩: ∃B,w.heap.size=B:=⟨_,rfl⟩;rw[hB]at hrun HROW;have HBB:=Lib.hid hB;have hsl:s.data.toList.length=s.size:=kt.size_len s;have HSL:=Lib.hid hsl;clear hB1 hrow hB hsl;go_enter Tryz.func82,Tryz.ntmps82;go_wp2_with fail;go_loopw [4,5,10] (fun _ _ iv wr=> ∃k:Nat,k≤s.size∧iv= .int .i64 (k:Int)∧Hid (kt.ByteRow wr B (midL s.data.toList k))∧Hid (Below w.heap.size w wr)) (fun _ _ iv _=>s.size- (intOf iv).toNat);case atStart=>exact⟨0,Nat.zero_le _,rfl,(by show kt.ByteRow _ _ _;unfold midL;simpa using HROW.out),HB1.out⟩
  case round=>
    clear hrun;obtain⟨k,hk,rfl,hR,hB⟩:=hrel;by_cases hlt:k<s.size
    · have hlt':(k:Int)<(s.size:Int):=(by omega);have hkl:k<s.data.toList.length:=(by rw[HSL.out];exact hlt);obtain⟨c0,f0⟩:=hR.out k (by rw[midL_len];exact hkl);rw[midL_at hkl]at c0;have HSET:=Lib.hid (midL_set hkl);have HKEEP:=Lib.hid (midL_keep hkl);have hset:=fun x=>kt.byterow_set hR.out k x;generalize s.data.toList[k]=c at c0 HSET HKEEP;have hcn:=c.toNat_lt;have hlow:=sml.low_nat c;by_cases hup:65≤(c.toNat:Int)∧(c.toNat:Int)≤90
      · rw[if_pos hup]at hlow;obtain⟨u1,u2⟩:=hup;have r1:IntKind.u8.wrap ((c.toNat:Int)+32)=(c.toNat:Int)+32:=IntWalk.u8_in _ (by omega);have h2:=hset (sml.low c);rw[hlow,HSET.out]at h2;have H2:=Lib.hid h2;clear hlow hset h2;go_wp2_with fail;go_roundw;case rel=>exact⟨k+1,by omega,by go_num,H2,hB.out.setCell (p:=⟨B,k,none⟩) (by rw[HBB.out];exact Nat.le_refl _) _⟩
        case measure=>simp[intOf];omega
      · rw[if_neg hup]at hlow;have hl:sml.low c=c:=(by apply UInt8.toNat_inj.1;omega);have H2:Hid (kt.ByteRow wr B (midL s.data.toList (k+1))):=(by show kt.ByteRow _ _ _;rw[←HKEEP.out hl];exact hR.out);clear hlow hset hl;go_wp2_with fail;all_goals first
          | (go_roundw
             case rel=>exact⟨k+1,by omega,by go_num,H2,hB⟩
             case measure=>simp[intOf];omega)
          | (exfalso;simp only[decide_eq_true_eq]at*;omega)
    · obtain rfl:k=s.size:=(by omega);have hst:=kt.byterow_str (P:=Tryz.prog) (n:=s.size) (cap:=cap) Tryz.underlying131 Tryz.underlying5 Tryz.underlying9 hR.out (by rw[midL_len,HSL.out]);have hm:midL s.data.toList s.size=sml.lowL s.data.toList:=(by unfold midL sml.lowL;rw[List.take_of_length_le (by simp),List.drop_of_length_le (by simp),List.append_nil]);rw[hm]at hst;have hst2:(convert 131 9 (.slice (some ⟨B,0,none⟩) s.size cap)).run Tryz.prog wr= .ok (.string (bs (sml.lowL s.data.toList))) wr:=hst;clear hst hm;go_wp2_with fail;go_ret;exact⟨rfl,hB.out⟩
def OwnC (w:World)(B:Nat)(v:Value)(l:List Nat):Prop:=w.ownsRow B 106 11 v l.length (l.flatMap fun k=>clsV (clsA k))
def vlen:Value→Nat
 | .slice _ n _=>n
 | _=>0
theorem ownC_len {w:World}{B:Nat}{v:Value}{l:List Nat}(h:OwnC w B v l):vlen v=l.length:=by obtain⟨ao,cap,rfl,_⟩:=kt.rowS_slice h;rfl
theorem cinfo3:(Tryz.prog.info? 106).map (fun i=>(i.zero,i.size,i.bytes))=some (some (.agg (clsV noCls).toArray),11,168):=by kernel_rfl
theorem clsV_one' (c:Cls): ∀u∈clsV c,u.oneCell'=true:=by intro u hu;simp only[clsV,List.mem_cons,List.not_mem_nil,or_false]at hu;rcases hu with rfl | rfl | rfl | rfl | rfl | rfl | rfl | rfl | rfl | rfl | rfl<;>rfl
theorem ownC_app {w:World}{B:Nat}{v:Value}{l:List Nat}(k:Nat)(h:OwnC w B v l)(hl:l.length≤100000)(hB:B≤w.heap.size):
  ∃v' w1,(Builtin.append_ #[99,99] 99 #[v,.slice (some ⟨w.heap.size,0,none⟩) 1 1]).run Tryz.prog (w.alloc (.cells (clsV (clsA k)).toArray 106))= .ok v' w1∧OwnC w1 B v' (l++[k])∧w.grownBy w1 v.ownBlock∧Below B w w1:=by
 obtain⟨v',w1,h1,h2,h3,h4⟩:=kt.appS (P:=Tryz.prog) (t:=99) (ty:=99) Tryz.underlying99 cinfo3 rfl (by decide) (clsV (clsA k)) rfl (clsV_one' _) h (by unfold maxLen;omega) (by omega) hB;refine⟨v',w1,h1,?_,h3,h4⟩;unfold OwnC;rw[List.flatMap_append,List.length_append];simpa using h2
theorem ownC_mono {w:World}{B C:Nat}{v:Value}{l:List Nat}(h:OwnC w B v l)(hc:C≤B):OwnC w C v l:=by
 refine⟨h.1,?_⟩;rcases h.2 with h0 | ⟨g,cap,cur,hv,hBg,hr⟩
 ·exact Or.inl h0
 ·exact Or.inr ⟨g,cap,cur,hv,Nat.le_trans hc hBg,hr⟩
theorem ownC_below {w w':World}{B:Nat}{v:Value}{l:List Nat}(h:OwnC w B v l)(hb:Below w.heap.size w w'):OwnC w' B v l:=kt.rowS_below h hb
theorem cb_same {w w':World}{p:Nat}{c:Cls}(h:CB w p c)(he:w'.heap[p]? =w.heap[p]?):CB w' p c:=by
 have hc: ∀o,w'.cell? ⟨p,o,none⟩=w.cell? ⟨p,o,none⟩:=fun o=>by unfold World.cell?;show(match w'.heap[p]? with | _=>_)=_;rw[he]
 have hf: ∀o,w'.frozen? ⟨p,o,none⟩=w.frozen? ⟨p,o,none⟩:=fun o=>by unfold World.frozen?;show(match w'.heap[p]? with | _=>_)=_;rw[he]
 exact⟨fun j u hj=>by rw[hc];exact h.1 j u hj,fun j hj=>by rw[hc,hf];exact h.2 j hj⟩
theorem ownC_other {w w':World}{B:Nat}{v:Value}{l:List Nat}(h:OwnC w B v l)(he: ∀k,v.ownBlock=some k→w'.heap[k]? =w.heap[k]?):OwnC w' B v l:=by
 refine⟨h.1,?_⟩;rcases h.2 with h0 | ⟨g,cap,cur,hv,hBg,hg,h1,h2,h3,h4⟩
 ·exact Or.inl h0
 ·exact Or.inr ⟨g,cap,cur,hv,hBg,by rw[he g (by rw[hv];rfl)];exact hg,h1,h2,h3,h4⟩
def clsO:Option Nat→Cls
 | some k=>clsA k
 | none=>noCls
theorem resC_eq (r:Option Nat):resC r= .tuple #[.agg (clsV (clsO r)).toArray,.bool r.isSome]:=by cases r<;>rfl
def lineO:Option Nat→List Nat
 | some k=>lineK k
 | none=>[]
def lineN (n:List UInt8):List Nat:=lineO (idx n)
theorem lineO_len (r:Option Nat)(h: ∀k,r=some k→k<13):(lineO r).length≤4:=by
 cases r with
 | none=>simp[lineO]
 | some k=>exact lineK_len ⟨k,h k rfl⟩
theorem idx_lt {n:List UInt8}{k:Nat}(h:idx n=some k):k<13:=(idx_some h).1
theorem sline_any (n:ByteArray)(w:World):
  Calls Tryz.prog 83 #[.string n] w fun e w'=> ∃v,e= .returned v∧OwnC w' w.heap.size v (lineN n.data.toList)∧Below w.heap.size w w':=by
 have HF0:Hid (∀ (m:ByteArray) W,Calls Tryz.prog 81 #[.string m] W fun e w'=>e= .returned (.tuple #[.agg (clsV (clsO (idx m.data.toList))).toArray,.bool (idx m.data.toList).isSome])∧Below W.heap.size W w'):=fun m W=>by rw[←resC_eq];exact sfind_any m W
 have HF:=Lib.hid (HF0.out n w);have HLT:Hid (∀k,idx n.data.toList=some k→k<13):=fun k h=>idx_lt h;have HLN:Hid (lineN n.data.toList=lineO (idx n.data.toList)):=rfl;rw[HLN.out];generalize idx n.data.toList=r0 at HF HLT ⊢;obtain⟨a0,a1,a2,a3,a4,a5,a6,a7,a8,a9,a10,hv,hx0,hx1,hx2⟩:=cls_letters (clsO r0);have HV:=Lib.hid hv;rw[hv]at HF;clear hv hx0 hx1 hx2 HLN;obtain⟨b0,hb0⟩: ∃b,r0.isSome=b:=⟨_,rfl⟩;rw[hb0]at HF;have HB0:=Lib.hid hb0;clear hb0;go_enter Tryz.func83,Tryz.ntmps83;go_wp2_with fail;refine HF.out.mono ?_;rintro e w1 ⟨rfl,hB1⟩;obtain⟨W2,hW2⟩: ∃W,w1.alloc (.cells #[.string a0,.int .i64 a1,.string a2,.string a3,.string a4,.string a5,.string a6,.string a7,.string a8,.string a9,.string a10] 106)=W:=⟨_,rfl⟩;have hB2:Below w1.heap.size w1 W2:=by rw[←hW2];exact(Below.refl _ _).alloc (Nat.le_refl _) _
 obtain⟨p,hp⟩: ∃p,w1.heap.size=p:=⟨_,rfl⟩;have HCB:Hid (CB W2 p (clsO r0)):=by rw[←hW2,←hp];have:=cb_new w1 (clsO r0);rw[HV.out]at this;exact this
 have HB2:=Lib.hid (hB1.trans (hB2.mono hB1.size));have hpw:w.heap.size≤p:=by rw[←hp];exact hB1.size
 obtain⟨q,hq⟩: ∃q,W2.heap.size=q:=⟨_,rfl⟩;have hpq:p<q:=by rw[←hq];exact cb_lt HCB.out
 have HQ:=Lib.hid hq;clear hq hB1 hB2 HF;go_wp2_with fail;clear hW2 hp;go_loopw [3,5] (fun lv bv wr=> ∃ (pre:List Nat) (r:Option Nat),bv= .bool r.isSome∧Hid (OwnC wr q lv pre)∧Hid (lineO r0=pre++lineO r)∧Hid (∀k,r=some k→k<13)∧Hid (CB wr p (clsO r))∧Hid (Below w.heap.size w wr)∧Hid (q≤wr.heap.size)) (fun lv _ _=>5-vlen lv);case atStart=>exact⟨[],r0,by rw[HB0.out],kt.row_nil _ _ _ _,rfl,HLT.out,HCB.out,HB2.out,Nat.le_of_eq HQ.out.symm⟩
 case round=>
  obtain⟨pre,r,rfl,hO,hL,hK,hC,hB,hD⟩:=hrel;clear HV HB0 HCB HB2 HQ;cases r with
  | none=>have HL:Hid (lineO r0=pre):=(by show _=_;rw[hL.out];simp[lineO]);go_wp2_with fail;go_ret;exact⟨_,rfl,by rw[HL.out];exact ownC_mono hO.out (by omega),hB.out⟩
  | some k=>
   have hk:=hK.out k rfl;have hlen:=lineO_len r0 HLT.out;rw[hL.out,List.length_append]at hlen;have hlk:0<(lineO (some k)).length:=(by show 0<(lineK k).length;rw[lineK_step ⟨k,hk⟩];simp);have hstep:lineO (some k)=k::lineO (idx (clsA k).above):=(by show lineK k=_;rw[lineK_step ⟨k,hk⟩];cases idx (clsA k).above<;>rfl);have HL2:Hid (lineO r0=(pre++[k])++lineO (idx (clsA k).above)):=(by show _=_;rw[hL.out,hstep];simp);have hpl:pre.length≤3:=(by omega);have hD1:=hD.out;obtain⟨v',wa,hrun,hO2,hg,hBa⟩:=ownC_app k hO.out (by omega) hD1;have HC0:Hid (CB wr p (clsA k)):=hC.out;have HC1:Hid (CB wa p (clsA k)):=cb_same HC0.out (hBa.block p hpq);obtain⟨c0,c1,c2,c3,c4,c5,c6,c7,c8,c9,c10,hv,hx0,hx1,hx2⟩:=cls_letters (clsA k);have hx2':idx (clsA k).above=idx c2.data.toList:=(by rw[hx2];rfl);rw[hx2']at HL2;obtain⟨d0,d1,d2,d3,d4,d5,d6,d7,d8,d9,d10⟩:=cb_cells HC0.out hv;obtain⟨g0,g1,g2,g3,g4,g5,g6,g7,g8,g9,g10⟩:=cb_cells HC1.out hv;rw[hv]at hrun;have hva:vlen v'=pre.length+1:=(by rw[ownC_len hO2,List.length_append];rfl);have hvl:vlen u3=pre.length:=ownC_len hO.out;have HVA:=Lib.hid hva;have HVL:=Lib.hid hvl;have HO2:=Lib.hid hO2;have hsa:=hBa.size;have HBa:=Lib.hid (hB.out.trans (hBa.mono (by omega)));have HFA:=Lib.hid (HF0.out c2 wa);have HKL:Hid (∀j,idx c2.data.toList=some j→j<13):=fun j h=>idx_lt h;generalize idx c2.data.toList=r at HL2 HFA HKL;obtain⟨e0,e1,e2,e3,e4,e5,e6,e7,e8,e9,e10,hv2,hy0,hy1,hy2⟩:=cls_letters (clsO r);have HV2:=Lib.hid hv2;rw[hv2]at HFA;clear hv hv2 hx0 hx1 hx2 hx2' hlen hlk hstep hy0 hy1 hy2 hBa hO2 hva hvl hg;go_wp2_with (refine Lib.wpList_append_run _ rfl _ _ _ _ rfl _ _ rfl rfl _ _ hrun ?_);refine HFA.out.mono ?_;rintro e w5 ⟨rfl,hB5⟩;have HC5:=Lib.hid (cb_below HC1.out hB5);have hth:=HC5.out.2;have HO5:Hid (OwnC (w5.setCells p 0 (clsV (clsO r))) q v' (pre++[k])):=ownC_other (ownC_below HO2.out hB5) fun b hb=>World.heap_setCells_other _ _ _ _ (Nat.lt_of_lt_of_le (HO2.out.lt b hb).2 hB5.size) (by have:=(HO2.out.lt b hb).1;omega);have HCB:Hid (CB (w5.setCells p 0 (clsV (clsO r))) p (clsO r)):=cb_set HC5.out _;have HB5:Hid (Below w.heap.size w (w5.setCells p 0 (clsV (clsO r)))):=Lib.below_setCells p hpw _ _ (HBa.out.trans (hB5.mono HBa.out.size));have HS5:Hid (q≤(w5.setCells p 0 (clsV (clsO r))).heap.size):=(by show _≤_;exact Nat.le_trans (Nat.le_trans (Nat.le_trans hD1 hsa) hB5.size) (Lib.below_setCells (B:=p) p (Nat.le_refl _) (clsV (clsO r)) 0 (Below.refl p w5)).size);rw[HV2.out]at HO5 HCB HB5 HS5;clear hB5 d0 d1 d2 d3 d4 d5 d6 d7 d8 d9 d10 g0 g1 g2 g3 g4 g5 g6 g7 g8 g9 g10 hrun HFA;go_wp2_with (refine wpList_store_mid rfl 106 _ _ rfl p 0 #[.string e0,.int .i64 e1,.string e2,.string e3,.string e4,.string e5,.string e6,.string e7,.string e8,.string e9,.string e10] rfl rfl hth cinfo (by simp[Value.oneCell']) ?_);go_roundw;case rel=>exact⟨pre++[k],r,rfl,HO5,HL2,HKL,HCB,HB5,HS5⟩
   case measure=>show 5-vlen v'<5-vlen u3;rw[HVA.out,HVL.out];omega
end scw
end Go.Proofs.YtmnpfkbjpeaemaaGreatDoor
namespace Go.Proofs
def Tryz.laysSlH6_f146_ren:Go.Shelf.Ren:=⟨fun | 6=>146 | n=>n,fun | 22=>35 | 23=>9 | 25=>31 | 3=>3 | 0=>0 | 4=>4 | n=>n,fun | n=>n⟩
theorem Tryz.laysSlH6_f146:Go.Proofs.SlLaysH.n6 Tryz.prog Tryz.laysSlH6_f146_ren:={
 mixed:=by kernel_rfl
 f6:=⟨Tryz.f146.name,by decide,Tryz.func146.trans (congrArg some (by kernel_rfl))⟩
 t0:=Tryz.underlying0
 a0:=Tryz.isAgg0
 z0:=Tryz.sizeOf0
 v0:=Tryz.zeroValue0
 t3:=Tryz.underlying3
 a3:=Tryz.isAgg3
 z3:=Tryz.sizeOf3
 v3:=Tryz.zeroValue3
 t4:=Tryz.underlying4
 a4:=Tryz.isAgg4
 z4:=Tryz.sizeOf4
 v4:=Tryz.zeroValue4
 t22:=Tryz.underlying35
 a22:=Tryz.isAgg35
 z22:=Tryz.sizeOf35
 v22:=Tryz.zeroValue35
 a23:=Tryz.isAgg9
 z23:=Tryz.sizeOf9
 t25:=Tryz.underlying31
 a25:=Tryz.isAgg31
 z25:=Tryz.sizeOf31
 v25:=Tryz.zeroValue31}
open Go.RowKit Go.Lib in
theorem Tryz.slices_IndexFunc_empty {α:Type}[Inhabited α](a:Option Addr)(c:Nat)(fv:Value)(w:World):
  Calls Tryz.prog 146 #[.slice a 0 c,fv] w fun e w'=>e= .returned (.int .i64 (-1))∧w'=w:=AnyE.slices_IndexFunc_empty Tryz.laysSlH6_f146 a c fv w
def Tryz.laysSlH10_f143_ren:Go.Shelf.Ren:=⟨fun | 10=>143 | 6=>146 | n=>n,fun | 22=>35 | 23=>9 | 25=>31 | 3=>3 | 4=>4 | 0=>0 | n=>n,fun | n=>n⟩
theorem Tryz.laysSlH10_f143:Go.Proofs.SlLaysH.n10 Tryz.prog Tryz.laysSlH10_f143_ren:={
 mixed:=by kernel_rfl
 f6:=⟨Tryz.f146.name,by decide,Tryz.func146.trans (congrArg some (by kernel_rfl))⟩
 f10:=⟨Tryz.f143.name,by decide,Tryz.func143.trans (congrArg some (by kernel_rfl))⟩
 t0:=Tryz.underlying0
 a0:=Tryz.isAgg0
 z0:=Tryz.sizeOf0
 v0:=Tryz.zeroValue0
 t3:=Tryz.underlying3
 a3:=Tryz.isAgg3
 z3:=Tryz.sizeOf3
 v3:=Tryz.zeroValue3
 t4:=Tryz.underlying4
 a4:=Tryz.isAgg4
 z4:=Tryz.sizeOf4
 v4:=Tryz.zeroValue4
 t22:=Tryz.underlying35
 a22:=Tryz.isAgg35
 z22:=Tryz.sizeOf35
 v22:=Tryz.zeroValue35
 a23:=Tryz.isAgg9
 z23:=Tryz.sizeOf9
 t25:=Tryz.underlying31
 a25:=Tryz.isAgg31
 z25:=Tryz.sizeOf31
 v25:=Tryz.zeroValue31}
open Go.RowKit Go.Lib Go.Sort in
theorem Tryz.slices_DeleteFunc {α:Type}[Inhabited α](enc:α→Value)(hO:OneCell enc)(p:α→Bool)(g:Nat)(lb:Array Value)(eg: ∀args w,(callFunc g args).run Tryz.prog w= .ok (.enter g args) w)(zr:α)(v23: ∀w,(zeroValue 9).run Tryz.prog w= .ok (enc zr) w)(blk off cap:Nat)(d:Array α)(w:World)(hp:PredAt Tryz.prog g lb enc p w)(hpo:PredOver Tryz.prog g lb enc p blk off d.size w)(hH:Holds enc w blk off d)(hsz:d.size≤9223372036854775807)(hcap:d.size≤cap):
  Calls Tryz.prog 143 #[.slice (some ⟨blk,off,none⟩) d.size cap,.func (.func g) #[] lb] w fun e w'=>e= .returned (.slice (some ⟨blk,off,none⟩) (d.toList.filter fun x=> !p x).length cap)∧ ∃q,w'=putRow enc (Sort.ahead w q) blk off ((d.toList.filter fun x=> !p x)++List.replicate (d.size- (d.toList.filter fun x=> !p x).length) zr).toArray:=AnyE.slices_DeleteFunc Tryz.laysSlH10_f143 enc hO p g lb eg zr v23 blk off cap d w hp hpo hH hsz hcap
end Go.Proofs
namespace Go.Proofs.YtmnpfkbjpeaemaaGreatDoor
namespace b64p
def digits:List UInt8:=[48,49,50,51,52,53,54,55,56,57,97,98,99,100,101,102]
def dg (n:Nat):UInt8:=digits.getD n 0
def hex:List UInt8→List UInt8
 | []=>[]
 | c::l=>dg (c.toNat / 16)::dg (c.toNat % 16)::hex l
def letters:List UInt8:=[65,66,67,68,69,70,71,72,73,74,75,76,77,78,79,80,81,82,83,84,85,86,87,88,89,90,97,98,99,100,101,102,103,104,105,106,107,108,109,110,111,112,113,114,115,116,117,118,119,120,121,122,48,49,50,51,52,53,54,55,56,57,43,47]
def lt (n:Nat):UInt8:=letters.getD (n % 64) 0
def numAt (l:List UInt8):Nat→Nat
 | 0=>0
 | j+1=>256*numAt l j+(l.getD j 0).toNat
def sign (n sz j:Nat):UInt8:=if sz<j then 61 else lt (n / 2 ^ (18-6*j))
def four (l:List UInt8):List UInt8:=(List.range 4).map (sign (numAt l 3) l.length)
def enc (l:List UInt8):List UInt8:=if h:l=[]then[]else four l++enc (l.drop 3)
termination_by l.length
decreasing_by
 have:l.length≠0:=fun e=>h (List.eq_nil_of_length_eq_zero e);simp;omega
def valI (c:UInt8):Int:=if 48≤c.toNat∧c.toNat≤57 then c.toNat-48 else if 97≤c.toNat∧c.toNat≤102 then c.toNat-87 else if 65≤c.toNat∧c.toNat≤70 then c.toNat-55 else-1
theorem valI_le (c:UInt8): -1≤valI c∧valI c≤15:=by unfold valI;split<;>(try split)<;>(try split)<;>omega
def unhex:List UInt8→Option (List UInt8)
 | []=>some []
 | [_]=>none
 | a::b::r=>if valI a<0∨valI b<0 then none else(unhex r).map (UInt8.ofNat (16*valI a+valI b).toNat:: ·)
theorem unhex_odd: ∀ (n:Nat) (l:List UInt8),l.length≤n→l.length % 2=1→unhex l=none
 | _,[],_,h=>by simp at h
 | _,[_],_,_=>rfl
 | 0,_::_::_,h,_=>by simp at h
 | n+1,a::b::r,h,hm=>by simp only[unhex];rw[unhex_odd n r (by simp at h;omega) (by simp at hm;omega)];simp
theorem unhex_step (l:List UInt8)(i:Nat)(h:i+1<l.length):
  unhex (l.drop i)=if valI l[i]<0∨valI l[i+1]<0 then none else(unhex (l.drop (i+2))).map (UInt8.ofNat (16*valI l[i]+valI l[i+1]).toNat:: ·):=by
 rw[List.drop_eq_getElem_cons (i:=i) (by omega),List.drop_eq_getElem_cons (i:=i+1) h];rfl
def uhV (o:Option (List UInt8)):Value:=
 match o with
 | some l=> .tuple #[.string ⟨l.toArray⟩,.int .i64 0]
 | none=> .tuple #[.string ⟨#[]⟩,.int .i64 4]
end b64p
end Go.Proofs.YtmnpfkbjpeaemaaGreatDoor
