/- One text out of several: FilP, Kit, B64P, FtxP, BuildS, BuildB, Shelf, HexW, TupW, ReadyW, KeysW, FtN, FtRa. -/
import Derived.WalkKit
import Derived.WalkSpells
import Derived.Lib.Hide
import Derived.Lib.UnsafeStr
import Derived.Lib.BufferRead
import Derived.Laws.BitsAllLaws
import Derived.IntWalk
import Derived.Lib.Builder
import Derived.Laws.IdiomStrings
import Derived.Laws.MakeOwn
import Derived.Deep.RegionHeld3
import Derived.Deep.RegionLaw
import Derived.Deep.RegionWith
import Derived.Deep.QuietTactic
import Derived.BigQuiet
import Derived.StillTailTactics
import Derived.RegionTactic
import Derived.ChangeAlike
import Derived.Lib.IndexBytes
import Derived.Lib.AppendZeros
import Derived.Test.YtffkghkkobmhaaaRows
import Derived.WalkLawsBesides
import Derived.Lib.AppendStr
import Derived.Shelf.Strings.Builder1
import Derived.Shelf.Small.Strs
import Derived.Shelf.Strings.BuilderF
import Derived.Shelf.Strings.BuilderK
import Derived.Shelf.Strings.Search1
import Derived.Shelf.Strings.BuilderCap
import Derived.Test.YtffkghkkobmhaaaProg
set_option linter.unusedVariables false
set_option linter.unusedSimpArgs false
set_option maxRecDepth 20000
set_option maxHeartbeats 4000000
namespace Go.Proofs.Ytffkghkkobmhaaa
namespace atp
end atp
namespace etp
end etp
namespace atw
end atw
namespace flp
open atp atw etp
inductive Fl where
 | mk (kind:Int) (attr value first:ByteArray) (any:List ByteArray) (last:ByteArray) (kids:List Fl):Fl
def Fl.kind:Fl→Int | .mk k _ _ _ _ _ _=>k
def Fl.attr:Fl→ByteArray | .mk _ a _ _ _ _ _=>a
def Fl.value:Fl→ByteArray | .mk _ _ v _ _ _ _=>v
def Fl.first:Fl→ByteArray | .mk _ _ _ f _ _ _=>f
def Fl.any:Fl→List ByteArray | .mk _ _ _ _ m _ _=>m
def Fl.last:Fl→ByteArray | .mk _ _ _ _ _ z _=>z
def Fl.kids:Fl→List Fl | .mk _ _ _ _ _ _ ks=>ks
theorem Fl.eta (F:Fl):F= .mk F.kind F.attr F.value F.first F.any F.last F.kids:=by cases F;rfl
def noFl:Fl:= .mk 0 ⟨#[]⟩ ⟨#[]⟩ ⟨#[]⟩ [] ⟨#[]⟩ []
def okD:Nat→Fl→Prop
 | 0,_=>False
 | d+1,F=> ∀k∈F.kids,okD d k
def cntN:Nat→Fl→Nat
 | 0,_=>0
 | d+1,F=>1+(F.kids.map (cntN d)).sum
theorem map_same {α β:Type}{f g:α→β}: ∀ {l:List α},(∀x∈l,f x=g x)→l.map f=l.map g
 | [],_=>rfl
 | a::r,h=>by rw[List.map_cons,List.map_cons,h a (by simp),map_same fun x hx=>h x (by simp[hx])]
def isE (x:ByteArray):Bool:=decide (x.size=0)
def partsF (F:Fl):Bool:= !isE F.first||decide (0<F.any.length)|| !isE F.last
def piecesF (F:Fl):Bool:=F.any.any (fun x=> !isE x)|| !isE F.first|| !isE F.last
def attrOK (F:Fl):Bool:=decide (1≤F.attr.size)&&decide (F.attr.size≤64)
def oneF (F:Fl):Bool:=
 if F.kind=0∨F.kind=1 then isE F.attr&&isE F.value&& !partsF F
 else if F.kind=2 then isE F.attr&&isE F.value&& !partsF F&&decide (F.kids.length=1)
 else if F.kind=3∨F.kind=5∨F.kind=6∨F.kind=8 then attrOK F&& !partsF F&&decide (F.kids.length=0)
 else if F.kind=4 then attrOK F&&isE F.value&&piecesF F&&decide (F.any.length≤8)&&decide (F.kids.length=0)
 else if F.kind=7 then attrOK F&&isE F.value&& !partsF F&&decide (F.kids.length=0)
 else false
def rightD:Nat→Fl→Bool
 | 0,_=>false
 | d+1,F=>oneF F&&F.kids.all (rightD d)
def cntR:Nat→Fl→Nat→Option Nat
 | 0,_,_=>none
 | d+1,_,0=>none
 | d+1,F,m+1=>if oneF F=true then F.kids.foldlM (fun l k=>cntR d k l) m else none
def rightF (F:Fl):Bool:=(cntR 8 F 40).isSome
theorem rightD_mono: ∀ {d e:Nat} {F:Fl},rightD d F=true→d≤e→rightD e F=true
 | 0,_,_,h,_=>by cases h
 | d+1,0,_,_,h=>absurd h (by omega)
 | d+1,e+1,F,h,he=>by unfold rightD at h ⊢;rw[Bool.and_eq_true,List.all_eq_true]at h ⊢;exact⟨h.1,fun k hk=>rightD_mono (h.2 k hk) (by omega)⟩
theorem fold_iff {d:Nat}(ih: ∀ (F:Fl) (m r:Nat),cntR d F m=some r↔rightD d F=true∧cntN d F+r=m): ∀ (l:List Fl) (m r:Nat),l.foldlM (fun l k=>cntR d k l) m=some r↔l.all (rightD d)=true∧(l.map (cntN d)).sum+r=m
 | [],m,r=>by
  rw[List.foldlM_nil];simp only[List.all_nil,List.map_nil,List.sum_nil];constructor
  ·intro h;cases h;exact⟨trivial,by omega⟩
  ·rintro⟨_,h⟩;rw[show m=r from by omega];rfl
 | k::t,m,r=>by
  rw[List.foldlM_cons,List.all_cons,List.map_cons,List.sum_cons,Bool.and_eq_true];constructor
  ·intro h;cases hc:cntR d k m with
   | none=>rw[hc]at h;cases h
   | some q=>rw[hc]at h;obtain⟨h1,h2⟩:=(ih k m q).1 hc;obtain⟨h3,h4⟩:=(fold_iff ih t q r).1 h;exact⟨⟨h1,h3⟩,by omega⟩
  ·rintro⟨⟨h1,h2⟩,h3⟩;have hq:cntR d k m=some ((t.map (cntN d)).sum+r):=(ih k m _).2 ⟨h1,by omega⟩;rw[hq];exact(fold_iff ih t _ r).2 ⟨h2,rfl⟩
theorem cntR_iff: ∀ (d:Nat) (F:Fl) (m r:Nat),cntR d F m=some r↔rightD d F=true∧cntN d F+r=m
 | 0,F,m,r=>by simp[cntR,rightD]
 | d+1,F,0,r=>by
  constructor
  ·intro h;cases h
  ·rintro⟨_,h⟩;unfold cntN at h;omega
 | d+1,F,m+1,r=>by
  unfold cntR rightD cntN;rw[Bool.and_eq_true];cases h1:oneF F with
  | false=>simp
  | true=>
   rw[if_pos rfl,fold_iff (cntR_iff d)];constructor
   ·rintro⟨h2,h3⟩;exact⟨⟨rfl,h2⟩,by omega⟩
   ·rintro⟨⟨_,h2⟩,h3⟩;exact⟨h2,by omega⟩
theorem rightF_iff (F:Fl):rightF F=true↔rightD 8 F=true∧cntN 8 F≤40:=by
 unfold rightF;rw[Option.isSome_iff_exists];constructor
 ·rintro⟨r,h⟩;obtain⟨h1,h2⟩:=(cntR_iff 8 F 40 r).1 h;exact⟨h1,by omega⟩
 ·rintro⟨h1,h2⟩;exact⟨40-cntN 8 F,(cntR_iff 8 F 40 _).2 ⟨h1,by omega⟩⟩
def both (kind:Int)(Ks:List Fl):Fl:= .mk kind ⟨#[]⟩ ⟨#[]⟩ ⟨#[]⟩ [] ⟨#[]⟩ Ks
def notF (F:Fl):Fl:=both 2 [F]
end flp
open Go.RowKit
namespace kt
theorem ret_int {k:IntKind}{a b:Int}(h:a=b):Ending.returned (.int k a)= .returned (.int k b):=by rw[h]
theorem ret_bool {a b:Bool}(h:a=b):Ending.returned (.bool a)= .returned (.bool b):=by rw[h]
theorem ret_str {a b:ByteArray}(h:a=b):Ending.returned (.string a)= .returned (.string b):=by rw[h]
theorem str_eq {a b:ByteArray}(h:a.data.toList=b.data.toList):a=b:=by cases a;cases b;congr 1;exact Array.toList_inj.1 h
theorem take_snoc (s:ByteArray)(k:Nat)(h:k<s.size):s.data.toList.take (k+1)=s.data.toList.take k++[s[k]]:=by rw[List.take_succ_eq_append_getElem (by simpa using h)];rfl
theorem size_len (s:ByteArray):s.data.toList.length=s.size:=by simp
theorem row_slice {w:World}{B:Nat}{e:TypeId}{v:Value}{xs:List Value}(h:w.ownsRow B e 1 v xs.length xs): ∃ao cap,v= .slice ao xs.length cap∧(ao=none→xs=[]∧cap=0)∧xs.length≤cap:=by
 rcases h.2 with⟨rfl,h0⟩ | ⟨g,cap,cur,rfl,_,_,hc,_,_⟩
 ·have:xs=[]:=List.eq_nil_of_length_eq_zero h0;subst this;exact⟨none,0,rfl,fun _=>⟨rfl,rfl⟩,Nat.le_refl _⟩
 ·exact⟨_,cap,rfl,fun h=>by simp at h,hc⟩
theorem row_form {w:World}{B:Nat}{e:TypeId}{v:Value}{xs:List Value}(h:w.ownsRow B e 1 v xs.length xs): ∃ (ao:Option Addr) (n cap:Nat),v= .slice ao n cap∧Hid (n=xs.length):=by obtain⟨ao,cap,hv,_⟩:=row_slice h;exact⟨ao,_,cap,hv,rfl⟩
theorem app1 {P:Program}{t e ty:TypeId}{z:Value}{bytes:Nat}(ht:P.underlying t=some (.slice e))(hinfo:(P.info? e).map (fun i=>(i.zero,i.size,i.bytes))=some (some z,1,bytes))(hzs:z.cells.size=1)
  {w:World} {B:Nat} {v:Value} {xs:List Value} (x:Value) (hx:x.oneCell'=true) (hown:w.ownsRow B e 1 v xs.length xs) (h63:xs.length+1≤maxLen) (hb:(xs.length+1)*bytes≤140737488355328) (hbase:B≤w.heap.size):
  ∃v' w1,(Builtin.append_ #[t,t] ty #[v,.slice (some ⟨w.heap.size,0,none⟩) 1 1]).run P (w.alloc (.cells #[x] e))= .ok v' w1∧w1.ownsRow B e 1 v' (xs++[x]).length (xs++[x])∧w.grownBy w1 v.ownBlock∧Below B w w1:=by
 obtain⟨i0,hi,hz0,hz1,hz2⟩:=info_parts hinfo;obtain⟨v',w1,hrun,hown',hgr,_⟩:=run_append_own (P:=P) (w.alloc (.cells #[x] e)) B t ty e i0 z 1 bytes ht hi hz0 hz1 hz2 hzs (by omega) v xs.length xs (hown.alloc _) ⟨w.heap.size,0,none⟩ 1 1 [x] rfl
  (fun j u hj=>by
   match j,hj with
   | 0,hj=>simp at hj;subst hj;simp[Addr.add])
  (fun u hu=>by simp at hu;subst hu;exact hx) h63 hb (by simp;omega)
 have hlt: ∀k,v.ownBlock=some k→B≤k∧k<w.heap.size:=hown.lt;have hg:w.grownBy w1 v.ownBlock:=by
  refine⟨hgr.os,hgr.tape,hgr.output,?_,?_⟩
  ·have:=hgr.size;simp at this;omega
  ·intro k hk hne;rw[hgr.block k (by simp;omega) hne];exact Below.heap_alloc _ _ _ hk
 exact⟨v',w1,hrun,by simpa using hown',hg,(Below.refl B w).grown hg hbase (fun k hk=>(hlt k hk).1)⟩
theorem appN {P:Program}{t e ty:TypeId}{z:Value}{bytes:Nat}(ht:P.underlying t=some (.slice e))(hinfo:(P.info? e).map (fun i=>(i.zero,i.size,i.bytes))=some (some z,1,bytes))(hzs:z.cells.size=1)
  {w:World} {B:Nat} {v:Value} {xs:List Value} (ad:Addr) (m c:Nat) (news:List Value) (hl:news.length=m) (hnews: ∀j u,news[j]? =some u→w.cell? (ad.add j)=some u) (h1: ∀u∈news,u.oneCell'=true)
  (hown:w.ownsRow B e 1 v xs.length xs) (h63:xs.length+m≤maxLen) (hb:(xs.length+m)*bytes≤140737488355328) (hbase:B≤w.heap.size):
  ∃v' w1,(Builtin.append_ #[t,t] ty #[v,.slice (some ad) m c]).run P w= .ok v' w1∧w1.ownsRow B e 1 v' (xs++news).length (xs++news)∧w.grownBy w1 v.ownBlock∧Below B w w1:=by
 obtain⟨i0,hi,hz0,hz1,hz2⟩:=info_parts hinfo;obtain⟨v',w1,hrun,hown',hgr,_⟩:=run_append_own (P:=P) w B t ty e i0 z 1 bytes ht hi hz0 hz1 hz2 hzs (by omega) v xs.length xs hown ad m c news (by omega) hnews h1 h63 hb hbase;have hlt: ∀k,v.ownBlock=some k→B≤k∧k<w.heap.size:=hown.lt;exact⟨v',w1,hrun,by rw[List.length_append,hl];exact hown',hgr,(Below.refl B w).grown hgr hbase (fun k hk=>(hlt k hk).1)⟩
theorem str_of_row {P:Program}{src dst e:TypeId}(hs:P.underlying src=some (.slice e))(he:P.underlying e=some (.int .u8))(hd:P.underlying dst=some .string)
  {w:World} {B:Nat} {v:Value} {n:Nat} {l:List UInt8} (h:w.ownsRow B e 1 v n (Lib.byteCells l)):
  (convert src dst v).run P w= .ok (.string ⟨l.toArray⟩) w:=by
 have hn:l.length=n:=by have:=h.1;rw[Lib.byteCells_length]at this;omega
 rcases h.2 with⟨rfl,h0⟩ | ⟨g,cap,cur,rfl,_,hg,_,_,_,htk⟩
 ·have:l=[]:=List.eq_nil_of_length_eq_zero (by omega);subst this;exact Lib.run_convert_nil_bytes w src dst e 0 hs he hd
 ·rw[←hn];refine run_convert_bytes_back w src dst e ⟨g,0,none⟩ cap l hs he hd (Lib.bytes_of_row hg ?_);rw[Nat.mul_one,←hn]at htk;exact htk
theorem row_cell {w:World}{B:Nat}{e:TypeId}{g cap n:Nat}{xs:List Value}(h:w.ownsRow B e 1 (.slice (some ⟨g,0,none⟩) n cap) n xs)(i:Nat)(x:Value)(hx:xs[i]? =some x):w.cell? ⟨g,i,none⟩=some x:=by
 have:=h.cells (g:=g) rfl i x hx;have e1:(⟨g,0,none⟩:Addr).add i=⟨g,i,none⟩:=by
  unfold Addr.add;split
  ·rename_i h0;rw[h0]
  ·simp
 rw[e1]at this;exact this
theorem row_some {w:World}{B:Nat}{e:TypeId}{ao:Option Addr}{cap n:Nat}{xs:List Value}(h:w.ownsRow B e 1 (.slice ao n cap) n xs)(hne:0<n):
  ∃g,ao=some ⟨g,0,none⟩∧(∀ (j:Nat) (x:Value),xs[j]? =some x→w.cell? ⟨g,j,none⟩=some x)∧B≤g:=by
 rcases h.2 with⟨_,h0⟩ | ⟨g,cap',cur,hv,hBg,_⟩
 ·omega
 ·simp only[Value.slice.injEq]at hv;obtain⟨rfl,_,rfl⟩:=hv;exact⟨g,rfl,fun j x hx=>row_cell h j x hx,hBg⟩
theorem flip {P:Program}{f:FuncId}{args:Array Value}{w:World}{v:Value}(h:Calls P f args w fun e w'=>e= .returned v∧w=w'):Calls P f args w fun e w'=>e= .returned v∧w'=w:=h.mono fun _ _ ⟨he,hm⟩=>⟨he,hm.symm⟩
theorem step_append_run {P:Program}{w:World}{ops:Array Oper}{o:Oper}{a:Act}{K:Act→World→Prop}{Q:Exit→Act→World→Prop}{E:Prop}(hgd:o.guard=none)(s x:Operand)(t tn:TypeId)
  (ho:o.op= .call {callee:= .builtin .append,args:=#[s,x],argTypes:=#[t,tn]}) (vs vx:Value) (hs:a.eval s=vs) (hx:a.eval x=vx)
  (v':Value) (w':World) (hr:(Builtin.append_ #[t,tn] o.type #[vs,vx]).run P w= .ok v' w') (h:K (a.put o.dst v') w'):
  if Region.wanted o (yielded ops a.tmps)=true then Oper.wp P o a w K Q else E:=by
 have hw:Region.wanted o (yielded ops a.tmps)=true:=by simp[Region.wanted,hgd]
 rw[if_pos hw];exact Lib.wp_append_run w s x t tn ho vs vx hs hx v' w' hr h
theorem row_below {w w':World}{B:Nat}{e:TypeId}{v:Value}{n:Nat}{xs:List Value}(h:w.ownsRow B e 1 v n xs)(hb:Below w.heap.size w w'):w'.ownsRow B e 1 v n xs:=by
 refine⟨h.1,?_⟩;rcases h.2 with h0 | ⟨g,cap,cur,hv,hBg,hg,h1,h2,h3,h4⟩
 ·exact Or.inl h0
 ·refine Or.inr ⟨g,cap,cur,hv,hBg,?_,h1,h2,h3,h4⟩;rw[hb.block g (Nat.lt_of_not_le fun hge=>by simp[Array.getElem?_eq_none hge]at hg)];exact hg
theorem addr_add (b j:Nat):(⟨b,0,none⟩:Addr).add j=⟨b,j,none⟩:=by
 unfold Addr.add;split
 ·rename_i h0;rw[h0]
 ·simp
theorem ofInt64 (a:Nat)(ha:a<18446744073709551616):(BitVec.ofInt 64 (a:Int)).toNat=a:=by rw[BitVec.ofInt_natCast,BitVec.toNat_ofNat];exact Nat.mod_eq_of_lt (by omega)
theorem wrap_i64_nat (a:Nat)(ha:a<9223372036854775808):IntKind.i64.wrap (a:Int)=(a:Int):=by rw[IntKind.wrap_i64];omega
theorem i64_or_nat (a b:Nat)(ha:a<9223372036854775808)(hb:b<9223372036854775808):bits .or .i64 (a:Int) (b:Int)=((a||| b:Nat):Int):=by
 have hx:a||| b<2 ^ 63:=Nat.or_lt_two_pow (by omega) (by omega)
 show IntKind.i64.wrap ((BitVec.ofInt 64 (a:Int)||| BitVec.ofInt 64 (b:Int)).toNat:Int)=_;rw[BitVec.toNat_or,ofInt64 a (by omega),ofInt64 b (by omega)];exact wrap_i64_nat _ (by omega)
theorem i64_or_low (k a c:Nat)(hc:c<2 ^ k)(ha:2 ^ k*a+c<9223372036854775808):bits .or .i64 ((2 ^ k*a:Nat):Int) (c:Int)=((2 ^ k*a+c:Nat):Int):=by rw[i64_or_nat _ _ (by omega) (by omega),Nat.two_pow_add_eq_or_of_lt hc]
end kt
namespace b64p
def digits:List UInt8:=[48,49,50,51,52,53,54,55,56,57,97,98,99,100,101,102]
def dg (n:Nat):UInt8:=digits.getD n 0
def hex:List UInt8→List UInt8
 | []=>[]
 | c::l=>dg (c.toNat / 16)::dg (c.toNat % 16)::hex l
theorem hex_append (a b:List UInt8):hex (a++b)=hex a++hex b:=by
 induction a with
 | nil=>rfl
 | cons c a ih=>simp[hex,ih]
theorem hex_length (l:List UInt8):(hex l).length=2*l.length:=by
 induction l with
 | nil=>rfl
 | cons c a ih=>simp[hex,ih];omega
def letters:List UInt8:=[65,66,67,68,69,70,71,72,73,74,75,76,77,78,79,80,81,82,83,84,85,86,87,88,89,90,97,98,99,100,101,102,103,104,105,106,107,108,109,110,111,112,113,114,115,116,117,118,119,120,121,122,48,49,50,51,52,53,54,55,56,57,43,47]
def lt (n:Nat):UInt8:=letters.getD (n % 64) 0
def numAt (l:List UInt8):Nat→Nat
 | 0=>0
 | j+1=>256*numAt l j+(l.getD j 0).toNat
def sign (n sz j:Nat):UInt8:=if sz<j then 61 else lt (n / 2 ^ (18-6*j))
def four (l:List UInt8):List UInt8:=(List.range 4).map (sign (numAt l 3) l.length)
def enc (l:List UInt8):List UInt8:=if h:l=[]then[]else four l++enc (l.drop 3)
termination_by l.length
decreasing_by
 have:l.length≠0:=fun e=>h (List.eq_nil_of_length_eq_zero e);simp;omega
def valI (c:UInt8):Int:=if 48≤c.toNat∧c.toNat≤57 then c.toNat-48 else if 97≤c.toNat∧c.toNat≤102 then c.toNat-87 else if 65≤c.toNat∧c.toNat≤70 then c.toNat-55 else-1
theorem valI_le (c:UInt8): -1≤valI c∧valI c≤15:=by unfold valI;split<;>(try split)<;>(try split)<;>omega
def unhex:List UInt8→Option (List UInt8)
 | []=>some []
 | [_]=>none
 | a::b::r=>if valI a<0∨valI b<0 then none else(unhex r).map (UInt8.ofNat (16*valI a+valI b).toNat:: ·)
theorem valI_dg (n:Nat)(h:n<16):valI (dg n)=n:=by
 have all: ∀m:Fin 16,valI (dg m.val)=m.val:=by decide
 exact all ⟨n,h⟩
theorem unhex_odd: ∀ (n:Nat) (l:List UInt8),l.length≤n→l.length % 2=1→unhex l=none
 | _,[],_,h=>by simp at h
 | _,[_],_,_=>rfl
 | 0,_::_::_,h,_=>by simp at h
 | n+1,a::b::r,h,hm=>by simp only[unhex];rw[unhex_odd n r (by simp at h;omega) (by simp at hm;omega)];simp
theorem unhex_step (l:List UInt8)(i:Nat)(h:i+1<l.length):
  unhex (l.drop i)=if valI l[i]<0∨valI l[i+1]<0 then none else(unhex (l.drop (i+2))).map (UInt8.ofNat (16*valI l[i]+valI l[i+1]).toNat:: ·):=by
 rw[List.drop_eq_getElem_cons (i:=i) (by omega),List.drop_eq_getElem_cons (i:=i+1) h];rfl
def uhV (o:Option (List UInt8)):Value:=
 match o with
 | some l=> .tuple #[.string ⟨l.toArray⟩,.int .i64 0]
 | none=> .tuple #[.string ⟨#[]⟩,.int .i64 4]
end b64p
namespace ftp
open flp atp
open b64p (hex valI dg)
abbrev T:=List UInt8
def nameCh (c:UInt8)(first:Bool):Bool:=(decide (65≤c.toNat∧c.toNat≤90)||decide (97≤c.toNat∧c.toNat≤122))||(!first&&(decide (48≤c.toNat∧c.toNat≤57)||decide (c=45)||decide (c=46)))
def nameL:T→Bool
 | []=>false
 | c::r=>nameCh c true&&r.all fun c=>nameCh c false
def hexed (c:UInt8):Bool:=decide (c.toNat<32)||decide (126<c.toNat)||decide (c=40)||decide (c=41)||decide (c=42)||decide (c=92)
def valB (c:UInt8):T:=if hexed c=true then 92::hex [c]else[c]
def valL (s:T):T:=s.flatMap valB
def tx (x:ByteArray):T:=x.data.toList
def opT (kind:Int):T:=if kind=5 then[62,61]else if kind=6 then[60,61]else if kind=8 then[126,61]else[61]
def bodyT (F:Fl):T:=
 if F.kind=7 then[61,42]
 else if F.kind=4 then 61::(valL (tx F.first)++42::((F.any.flatMap fun x=>valL (tx x)++[42])++valL (tx F.last)))
 else opT F.kind++valL (tx F.value)
def itemT (F:Fl):T:=40::(tx F.attr++(bodyT F++[41]))
def signT (kind:Int):UInt8:=if kind=0 then 38 else if kind=1 then 124 else 33
def catO:List (Option T)→Option T
 | []=>some []
 | none::_=>none
 | some t::r=>(catO r).map fun u=>t++u
def textF:Nat→Fl→Option T
 | 0,_=>none
 | d+1,F=>if F.kind=0∨F.kind=1∨F.kind=2 then(catO (F.kids.map (textF d))).map fun t=>40::signT F.kind::(t++[41])
  else if nameL (tx F.attr)=true then some (itemT F)else none
def printF (F:Fl):T × Int:=if rightF F=true then(match textF 8 F with
 | some t=>(t,0)
 | none=>([],4))else([],4)
def consB (c:UInt8):List T→List T
 | []=>[[c]]
 | p::ps=>(c::p)::ps
def piecesP (starry:Bool):T→Option (List T × T)
 | []=>none
 | c::r=>if c=40∨c=0 then none
  else if c=41 then some ([[]],c::r)
  else if c=42 then(if starry=true then(piecesP starry r).map fun q=>([]::q.1,q.2)else none)
  else if c=92 then(match r with
   | h::l::r2=>if valI h<0∨valI l<0 then none else(piecesP starry r2).map fun q=>(consB (UInt8.ofNat (16*valI h+valI l).toNat) q.1,q.2)
   | _=>none)
  else(piecesP starry r).map fun q=>(consB c q.1,q.2)
def spanN:T→T
 | []=>[]
 | c::r=>if nameCh c true=true then c::r.takeWhile (fun c=>nameCh c false)else[]
def kindP:T→Int × T
 | 62::r=>(5,r)
 | 60::r=>(6,r)
 | 126::r=>(8,r)
 | r=>(3,r)
def bb (l:T):ByteArray:=⟨l.toArray⟩
def leafF (nm:T)(kind:Int)(ps:List T):Fl:=match ps with
 | []=> .mk kind (bb nm) ⟨#[]⟩ ⟨#[]⟩ [] ⟨#[]⟩ []
 | [v]=> .mk kind (bb nm) (bb v) ⟨#[]⟩ [] ⟨#[]⟩ []
 | p::q::r=>if p=[]∧q=[]∧r=[]then .mk 7 (bb nm) ⟨#[]⟩ ⟨#[]⟩ [] ⟨#[]⟩ []
  else .mk 4 (bb nm) ⟨#[]⟩ (bb p) ((q::r).dropLast.map bb) (bb ((q::r).getLast (by simp))) []
def leafP (s:T):Option (Fl × T):=
 if spanN s=[]then none
 else match(kindP (s.drop (spanN s).length)).2 with
  | 61::r=>(piecesP (decide ((kindP (s.drop (spanN s).length)).1=3)) r).map fun q=>(leafF (spanN s) (kindP (s.drop (spanN s).length)).1 q.1,q.2)
  | _=>none
def kidsG (P:T→Option (Fl × T)):Nat→T→Option (List Fl × T)
 | 0,l=>none
 | m+1,l=>if l.head?=some 40 then(match P l with
   | none=>none
   | some (k,r)=>(kidsG P m r).map fun q=>(k::q.1,q.2))else some ([],l)
def oneP:Nat→T→Option (Fl × T)
 | 0,_=>none
 | n+1,l=>match l with
  | 40::c::r=>if c=38∨c=124 then(match kidsG (oneP n) (r.length+1) r with
    | some (ks,41::r2)=>some (both (if c=38 then 0 else 1) ks,r2)
    | _=>none)
   else if c=33 then(match oneP n r with
    | some (k,41::r2)=>some (notF k,r2)
    | _=>none)
   else(match leafP (c::r)with
    | some (F,41::r2)=>some (F,r2)
    | _=>none)
  | _=>none
def parseT (s:T):Fl × Int:=if 8000<s.length then(noFl,5)else match oneP (s.length+1) s with
 | some (F,[])=>if rightF F=true then(F,0)else(noFl,4)
 | _=>(noFl,4)
theorem span_cons (c:UInt8)(r:T):spanN (c::r)=if nameCh c true=true then c::r.takeWhile (fun c=>nameCh c false)else[]:=rfl
theorem span_name: ∀ {t:T} (r:T),nameL t=true→(∀c u,r=c::u→nameCh c false=false)→spanN (t++r)=t
 | [],r,h,_=>by cases h
 | c::t,r,h,hr=>by
  unfold nameL at h;rw[Bool.and_eq_true,List.all_eq_true]at h;have e: ∀ (t:T),(∀c∈t,nameCh c false=true)→(t++r).takeWhile (fun c=>nameCh c false)=t:=by
   intro t;induction t with
   | nil=>
    intro _;cases r with
    | nil=>rfl
    | cons c u=>rw[List.nil_append,List.takeWhile_cons_of_neg (p:=fun c=>nameCh c false) (by rw[hr c u rfl];decide)]
   | cons a t ih=>intro h;rw[List.cons_append,List.takeWhile_cons_of_pos (p:=fun c=>nameCh c false) (h a (by simp)),ih fun c hc=>h c (by simp[hc])]
  show(if nameCh c true=true then c::(t++r).takeWhile (fun c=>nameCh c false)else[])=c::t;rw[if_pos h.1,e t h.2]
theorem span_len (s:T):spanN s=s.take (spanN s).length∧(spanN s).length≤s.length:=by
 cases s with
 | nil=>exact⟨rfl,Nat.le_refl _⟩
 | cons c r=>
  rw[span_cons];by_cases hc:nameCh c true=true
  ·rw[if_pos hc];have h:=List.takeWhile_prefix (l:=r) (fun c=>nameCh c false);refine⟨?_,by have:=h.length_le;simp only[List.length_cons];omega⟩;rw[List.length_cons,List.take_succ_cons,←List.prefix_iff_eq_take.1 h]
  ·rw[if_neg hc];exact⟨rfl,by simp⟩
theorem valB_plain {c:UInt8}(h:hexed c=false):valB c=[c]:=if_neg (by rw[h];decide)
theorem hexed_no {c:UInt8}(h:hexed c=false):c≠40∧c≠41∧c≠42∧c≠92∧c≠0:=by unfold hexed at h;simp only[Bool.or_eq_false_iff,decide_eq_false_iff_not]at h;obtain⟨⟨⟨⟨⟨h1,h2⟩,h3⟩,h4⟩,h5⟩,h6⟩:=h;refine⟨h3,h4,h5,h6,fun e=>h1 ?_⟩;rw[e];decide
theorem pieces_val (st:Bool): ∀ (v r:T),piecesP st (valL v++r)=(piecesP st r).map fun q=>(v.foldr consB q.1,q.2)
 | [],r=>by show piecesP st r=_;cases piecesP st r<;>rfl
 | c::v,r=>by
  have e:valL (c::v)++r=valB c++(valL v++r):=by unfold valL;rw[List.flatMap_cons,List.append_assoc]
  rw[e];cases hc:hexed c with
  | false=>
   obtain⟨h1,h2,h3,h4,h5⟩:=hexed_no hc;rw[valB_plain hc,List.singleton_append];conv=>lhs;unfold piecesP
   rw[if_neg (by simp[h1,h5]),if_neg h2,if_neg h3,if_neg h4,pieces_val st v r];cases piecesP st r<;>rfl
  | true=>
   have e2:valB c=[92,dg (c.toNat / 16),dg (c.toNat % 16)]:=if_pos hc;have hlt:=c.toNat_lt;rw[e2];show piecesP st (92::dg (c.toNat / 16)::dg (c.toNat % 16)::(valL v++r))=_;conv=>lhs;unfold piecesP
   rw[if_neg (by decide),if_neg (by decide),if_neg (by decide),if_pos rfl];simp only;rw[b64p.valI_dg _ (by omega),b64p.valI_dg _ (by omega),if_neg (by omega),pieces_val st v r];rw[show(16*((c.toNat / 16:Nat):Int)+((c.toNat % 16:Nat):Int)).toNat=c.toNat from by omega,UInt8.ofNat_toNat];cases piecesP st r<;>rfl
theorem fold_cons (v:T)(p:T)(ps:List T):v.foldr consB (p::ps)=(v++p)::ps:=by
 induction v with
 | nil=>rfl
 | cons c v ih=>rw[List.foldr_cons,ih];rfl
theorem pieces_end (st:Bool)(v r:T):piecesP st (valL v++41::r)=some ([v],41::r):=by
 rw[pieces_val];have e:piecesP st (41::r)=some ([[]],41::r):=by
  conv=>lhs;unfold piecesP
  rw[if_neg (by decide),if_pos rfl]
 rw[e];simp[fold_cons]
theorem pieces_star (v r:T):piecesP true (valL v++42::r)=(piecesP true r).map fun q=>(v::q.1,q.2):=by
 rw[pieces_val];have e:piecesP true (42::r)=(piecesP true r).map fun q=>([]::q.1,q.2):=by
  conv=>lhs;unfold piecesP
  rw[if_neg (by decide),if_neg (by decide),if_pos rfl,if_pos rfl]
 rw[e];cases piecesP true r with
 | none=>rfl
 | some q=>simp[fold_cons]
theorem pieces_any (z r:T): ∀l:List ByteArray,piecesP true ((l.flatMap fun x=>valL (tx x)++[42])++(valL z++41::r))=some (l.map tx++[z],41::r)
 | []=>by simpa using pieces_end true z r
 | x::t=>by
  have e:((x::t).flatMap fun x=>valL (tx x)++[42])++(valL z++41::r)=valL (tx x)++42::((t.flatMap fun x=>valL (tx x)++[42])++(valL z++41::r)):=by simp
  rw[e,pieces_star,pieces_any z r t];rfl
theorem isE_eq {x:ByteArray}(h:isE x=true):x=⟨#[]⟩:=by
 unfold isE at h;rw[decide_eq_true_iff]at h;cases x with
 | mk d=>have:d.size=0:=h;rw[Array.eq_empty_of_size_eq_zero this]
theorem bb_tx (x:ByteArray):bb (tx x)=x:=by
 cases x with
 | mk d=>unfold bb tx;rfl
theorem map_bb (l:List ByteArray):(l.map tx).map bb=l:=by
 rw[List.map_map];conv=>rhs;rw[←List.map_id l]
 exact map_same fun x _=>bb_tx x
theorem no_parts {F:Fl}(h:partsF F=false):F.first=⟨#[]⟩∧F.any=[]∧F.last=⟨#[]⟩:=by unfold partsF at h;simp only[Bool.or_eq_false_iff,Bool.not_eq_false',decide_eq_false_iff_not]at h;obtain⟨⟨h1,h2⟩,h3⟩:=h;exact⟨isE_eq h1,List.eq_nil_of_length_eq_zero (by omega),isE_eq h3⟩
theorem len_nil {α:Type}{l:List α}(h:l.length=0):l=[]:=List.eq_nil_of_length_eq_zero h
theorem leaf_shape {F:Fl}(h:oneF F=true)(hk: ¬ (F.kind=0∨F.kind=1∨F.kind=2)):
  (∃a v k,(k=3∨k=5∨k=6∨k=8)∧F= .mk k a v ⟨#[]⟩ [] ⟨#[]⟩ [])∨(∃a,F= .mk 7 a ⟨#[]⟩ ⟨#[]⟩ [] ⟨#[]⟩ [])∨(∃a p m z,F= .mk 4 a ⟨#[]⟩ p m z []∧piecesF F=true):=by
 obtain⟨k,a,v,p,m,z,ks⟩:=F;unfold oneF at h;rw[if_neg (by intro h;exact hk (by rcases h with h | h;exact Or.inl h;exact Or.inr (Or.inl h))),if_neg (by intro h;exact hk (Or.inr (Or.inr h)))]at h;split at h
 ·rename_i h3;simp only[Bool.and_eq_true,Bool.not_eq_true',decide_eq_true_iff]at h;obtain⟨⟨_,h1⟩,h2⟩:=h;obtain⟨e1,e2,e3⟩:=no_parts h1;simp only[Fl.first,Fl.any,Fl.last]at e1 e2 e3;have e4:=len_nil h2;simp only[Fl.kids]at e4;subst e1 e2 e3 e4;exact Or.inl ⟨a,v,k,h3,rfl⟩
 ·split at h
  ·rename_i h4;simp only[Fl.kind]at h4;subst h4;simp only[Bool.and_eq_true,decide_eq_true_iff]at h;obtain⟨⟨⟨⟨_,h1⟩,h2⟩,_⟩,h3⟩:=h;have e1:=isE_eq h1;have e4:=len_nil h3;simp only[Fl.kids,Fl.value]at e4 e1;subst e1 e4;exact Or.inr (Or.inr ⟨a,p,m,z,rfl,h2⟩)
  ·split at h
   ·rename_i h7;simp only[Fl.kind]at h7;subst h7;simp only[Bool.and_eq_true,Bool.not_eq_true',decide_eq_true_iff]at h;obtain⟨⟨⟨_,h0⟩,h1⟩,h2⟩:=h;obtain⟨e1,e2,e3⟩:=no_parts h1;simp only[Fl.first,Fl.any,Fl.last]at e1 e2 e3;have e4:=len_nil h2;have e0:=isE_eq h0;simp only[Fl.kids,Fl.value]at e4 e0;subst e0 e1 e2 e3 e4;exact Or.inr (Or.inl ⟨a,rfl⟩)
   ·cases h
theorem op_no: ∀k:Int,∀c u,opT k=c::u→nameCh c false=false:=by
 intro k c u h;unfold opT at h;split at h
 ·cases h;decide
 ·split at h
  ·cases h;decide
  ·split at h
   ·cases h;decide
   ·cases h;decide
theorem leaf_back {F:Fl}(h:oneF F=true)(hk: ¬ (F.kind=0∨F.kind=1∨F.kind=2))(hn:nameL (tx F.attr)=true)(r:T):leafP (tx F.attr++(bodyT F++41::r))=some (F,41::r):=by
 have hb: ∀c u,bodyT F++41::r=c::u→nameCh c false=false:=by
  intro c u he;unfold bodyT at he;split at he
  ·cases he;decide
  ·split at he
   ·cases he;decide
   ·have h2:=op_no F.kind;cases ho:opT F.kind with
    | nil=>
     exfalso
     revert ho
     unfold opT;split
     ·intro h;cases h
     ·split
      ·intro h;cases h
      ·split<;>(intro h;cases h)
    | cons d w=>rw[ho]at he;cases he;exact h2 _ _ ho
 have hs:=span_name (bodyT F++41::r) hn hb;have hne:tx F.attr≠[]:=by intro e;rw[e]at hn;cases hn
 unfold leafP;rw[hs,if_neg hne,List.drop_left];rcases leaf_shape h hk with⟨a,v,k,hkk,rfl⟩ | ⟨a,rfl⟩ | ⟨a,p,m,z,rfl,hp⟩
 ·have e:bodyT (.mk k a v ⟨#[]⟩ [] ⟨#[]⟩ [])=opT k++valL (tx v):=by show(if k=7 then _ else if k=4 then _ else _)=_;rw[if_neg (show¬k=7 by omega),if_neg (show¬k=4 by omega)];rfl
  have e2:kindP ((opT k++valL (tx v))++41::r)=(k,61::(valL (tx v)++41::r)):=by rcases hkk with rfl | rfl | rfl | rfl<;>(rw[List.append_assoc];rfl)
  rw[e,e2];simp only;rw[pieces_end];show some (Fl.mk k (bb (tx a)) (bb (tx v)) ⟨#[]⟩ [] ⟨#[]⟩ [],_)=_;rw[bb_tx,bb_tx]
 ·have e2:kindP (bodyT (.mk 7 a ⟨#[]⟩ ⟨#[]⟩ [] ⟨#[]⟩ [])++41::r)=(3,61::42::41::r):=rfl;rw[e2];show(piecesP (decide ((3:Int)=3)) (42::41::r)).map _=_;rw[show decide ((3:Int)=3)=true from rfl,show piecesP true (42::41::r)=some ([[],[]],41::r)from by have:=pieces_star [] (41::r);rw[show valL []++42::41::r=42::41::r from rfl]at this;rw[this,show(41:UInt8)::r=valL []++41::r from rfl,pieces_end];rfl];show some (Fl.mk 7 (bb (tx a)) ⟨#[]⟩ ⟨#[]⟩ [] ⟨#[]⟩ [],_)=_;rw[bb_tx]
 ·have e2:kindP (bodyT (.mk 4 a ⟨#[]⟩ p m z [])++41::r)=(3,61::(valL (tx p)++42::((m.flatMap fun x=>valL (tx x)++[42])++(valL (tx z)++41::r)))):=by have e:bodyT (.mk 4 a ⟨#[]⟩ p m z [])=61::(valL (tx p)++42::((m.flatMap fun x=>valL (tx x)++[42])++valL (tx z))):=rfl;rw[e];simp[kindP]
  rw[e2];show(piecesP (decide ((3:Int)=3)) (valL (tx p)++42::((m.flatMap fun x=>valL (tx x)++[42])++(valL (tx z)++41::r)))).map _=_;rw[show decide ((3:Int)=3)=true from rfl,pieces_star,pieces_any];show some (leafF (tx a) 3 (tx p::(m.map tx++[tx z])),_)=_;congr 2;cases hm:m.map tx++[tx z]with
  | nil=>simp at hm
  | cons q w=>
   unfold leafF;simp only;rw[if_neg]
   ·rw[bb_tx];have e3:(q::w).dropLast=m.map tx:=(by rw[←hm,List.dropLast_concat]);have e4: ∀h,(q::w).getLast h=tx z:=(by intro h;have: ∀ (l:List T) h,l=m.map tx++[tx z]→l.getLast h=tx z:=(by intro l h e;subst e;rw[List.getLast_concat]);exact this _ h hm.symm);rw[e3,e4,bb_tx,map_bb,bb_tx]
   ·rintro⟨h1,h2,h3⟩;subst h2 h3;have hl:=congrArg List.length hm;simp only[List.length_append,List.length_map,List.length_cons,List.length_nil]at hl;have hm0:m=[]:=len_nil (by omega);subst hm0;simp only[List.map_nil,List.nil_append,List.cons.injEq,and_true]at hm;unfold piecesF at hp;simp only[Fl.any,Fl.first,Fl.last,List.any_nil,Bool.false_or]at hp;have g: ∀x:ByteArray,tx x=[]→isE x=true:=(by intro x hx;have:x=bb []:=(by rw[←hx,bb_tx]);rw[this];rfl);rw[g p h1,g z hm]at hp;cases hp
theorem catO_some: ∀ {l:List (Option T)} {t:T},catO l=some t→ ∃us:List T,l=us.map some∧t=us.flatten
 | [],t,h=>by cases h;exact⟨[],rfl,rfl⟩
 | none::_,t,h=>by cases h
 | some a::r,t,h=>by unfold catO at h;rw[Option.map_eq_some_iff]at h;obtain⟨u,hu,rfl⟩:=h;obtain⟨us,e1,e2⟩:=catO_some hu;exact⟨a::us,by rw[e1];rfl,by rw[e2];rfl⟩
theorem kids_back {P:T→Option (Fl × T)}: ∀ (ks:List Fl) (us:List T) (r:T) (m:Nat),ks.length=us.length→(∀i (h:i<ks.length) (h2:i<us.length) (r:T),P (us[i]++r)=some (ks[i],r)∧(us[i]++r).head?=some 40)→r.head?≠some 40→ks.length<m→
  kidsG P m (us.flatten++r)=some (ks,r)
 | [],us,r,m,hl,h,hr,hm=>by
  have:us=[]:=len_nil (by simpa using hl.symm);subst this;cases m with
  | zero=>omega
  | succ m=>show kidsG P (m+1) r=_;unfold kidsG;rw[if_neg hr]
 | k::ks,[],r,m,hl,_,_,_=>by cases hl
 | k::ks,u::us,r,0,_,_,_,hm=>by cases hm
 | k::ks,u::us,r,m+1,hl,h,hr,hm=>by have h0:=h 0 (by simp) (by simp) (us.flatten++r);simp only[List.getElem_cons_zero]at h0;rw[List.flatten_cons,List.append_assoc];unfold kidsG;rw[if_pos h0.2,h0.1];simp only;rw[kids_back ks us r m (by simpa using hl) (fun i a b r=>by have:=h (i+1) (by simpa using a) (by simpa using b) r;simpa using this) hr (by simp at hm;omega)];rfl
theorem text_head: ∀ {d:Nat} {F:Fl} {t:T},textF d F=some t→t.head?=some 40
 | 0,_,_,h=>by cases h
 | d+1,F,t,h=>by
  unfold textF at h;split at h
  ·rw[Option.map_eq_some_iff]at h;obtain⟨u,_,rfl⟩:=h;rfl
  ·split at h
   ·cases h;rfl
   ·cases h
theorem head_app {t r:T}{c:UInt8}(h:t.head?=some c):(t++r).head?=some c:=by
 cases t with
 | nil=>cases h
 | cons a u=>exact h
theorem text_kids {d:Nat}{ks:List Fl}{t:T}(h:catO (ks.map (textF d))=some t): ∃us:List T,t=us.flatten∧ks.length=us.length∧ ∀i (h:i<ks.length) (h2:i<us.length),textF d ks[i]=some us[i]:=by
 obtain⟨us,e1,e2⟩:=catO_some h;have hl:=congrArg List.length e1;simp only[List.length_map]at hl;refine⟨us,e2,hl,fun i a b=> ?_⟩;have e:(ks.map (textF d))[i]'(by simpa using a)=(us.map some)[i]'(by simpa using b):=by simp only[e1]
 simpa using e
theorem flat_len_ge (us:List T)(h: ∀u∈us,u≠[]):us.length≤us.flatten.length:=by
 induction us with
 | nil=>exact Nat.le_refl _
 | cons u t ih=>rw[List.flatten_cons,List.length_append,List.length_cons];have:=ih fun x hx=>h x (by simp[hx]);have:=List.length_pos_iff.2 (h u (by simp));omega
theorem one_back: ∀ (d:Nat) (F:Fl) (t r:T) (n:Nat),rightD d F=true→textF d F=some t→d≤n→oneP n (t++r)=some (F,r)
 | 0,F,t,r,n,h,_,_=>by cases h
 | d+1,F,t,r,0,_,_,hn=>absurd hn (by omega)
 | d+1,F,t,r,n+1,h,ht,hn=>by
  unfold rightD at h;rw[Bool.and_eq_true,List.all_eq_true]at h;obtain⟨h1,h2⟩:=h;unfold textF at ht;by_cases hk:F.kind=0∨F.kind=1∨F.kind=2
  ·rw[if_pos hk,Option.map_eq_some_iff]at ht;obtain⟨u,hu,rfl⟩:=ht;obtain⟨us,rfl,hl,hus⟩:=text_kids hu;have hne: ∀x∈us,x≠[]:=(by intro x hx;obtain⟨i,hi,rfl⟩:=List.mem_iff_getElem.1 hx;have:=text_head (hus i (by omega) hi);intro e;rw[e]at this;cases this);have hP: ∀i (a:i<F.kids.length) (b:i<us.length) (r:T),oneP n (us[i]++r)=some (F.kids[i],r)∧(us[i]++r).head?=some 40:=fun i a b r=>
    ⟨one_back d F.kids[i] us[i] r n (h2 _ (List.getElem_mem a)) (hus i a b) (by omega),head_app (text_head (hus i a b))⟩
   have hF: ∀k,F.kind=k→(k=0∨k=1∨k=2)→F=both k F.kids:=by
    intro k hk2 hk3;have h3:(isE F.attr&&isE F.value&& !partsF F)=true:=by
     unfold oneF at h1;by_cases h01:F.kind=0∨F.kind=1
     ·rwa[if_pos h01]at h1
     ·rw[if_neg h01,if_pos (by omega),Bool.and_eq_true]at h1;exact h1.1
    simp only[Bool.and_eq_true,Bool.not_eq_true']at h3;obtain⟨⟨e1,e2⟩,e3⟩:=h3;obtain⟨p1,p2,p3⟩:=no_parts e3;rw[Fl.eta F,hk2,isE_eq e1,isE_eq e2,p1,p2,p3];rfl
   have hsh:(40::signT F.kind::(us.flatten++[41]))++r=40::signT F.kind::(us.flatten++41::r):=(by simp);rw[hsh];have hall:kidsG (oneP n) ((us.flatten++41::r).length+1) (us.flatten++41::r)=some (F.kids,41::r):=
    kids_back F.kids us (41::r) _ hl hP (by simp) (by have:=flat_len_ge us hne;rw[List.length_append];omega)
   unfold oneP;rcases hk with hk | hk | hk
   ·rw[hk];simp only;rw[show signT 0=38 from rfl,if_pos (Or.inl rfl),hall];simp only;rw[if_pos trivial,←hF 0 hk (by simp)]
   ·rw[hk];simp only;rw[show signT 1=124 from rfl,if_pos (Or.inr rfl),hall];simp only;rw[if_neg (by decide),←hF 1 hk (by simp)]
   ·have hlen:F.kids.length=1:=(by unfold oneF at h1;rw[if_neg (by omega),if_pos hk,Bool.and_eq_true]at h1;exact of_decide_eq_true h1.2);obtain⟨k,hkk⟩:=List.length_eq_one_iff.1 hlen;obtain⟨v,rfl⟩:=List.length_eq_one_iff.1 (hl.symm.trans hlen);have h0:=(hP 0 (by omega) (by simp) (41::r)).1;simp only[List.getElem_cons_zero,hkk]at h0;rw[hk];simp only[List.flatten_cons,List.flatten_nil,List.append_nil];rw[show signT 2=33 from rfl,if_neg (by decide),if_pos rfl,h0];simp only;rw[hF 2 hk (by simp),hkk];rfl
  ·rw[if_neg hk]at ht;split at ht
   ·rename_i hn2;cases ht;have hsh:itemT F++r=40::(tx F.attr++(bodyT F++41::r)):=(by unfold itemT;simp);rw[hsh];have hb:=leaf_back h1 hk hn2 r;cases ha:tx F.attr with
    | nil=>rw[ha]at hn2;cases hn2
    | cons c w=>rw[ha]at hb hn2;unfold nameL at hn2;rw[Bool.and_eq_true]at hn2;have hc:c≠38∧c≠124∧c≠33:=(by refine⟨?_,?_,?_⟩<;>(rintro rfl;exact absurd hn2.1 (by decide)));unfold oneP;rw[List.cons_append];simp only;rw[if_neg (by simp[hc.1,hc.2.1]),if_neg hc.2.2];rw[List.cons_append]at hb;rw[hb];rfl
   ·cases ht
theorem print_cases (F:Fl):(printF F=([],4))∨ ∃t,rightF F=true∧textF 8 F=some t∧printF F=(t,0):=by
 unfold printF;cases hr:rightF F with
 | false=>exact Or.inl rfl
 | true=>
  rw[if_pos rfl];cases ht:textF 8 F with
  | none=>exact Or.inl rfl
  | some t=>exact Or.inr ⟨t,rfl,rfl,rfl⟩
theorem text_len3: ∀ {d:Nat} {F:Fl} {t:T},textF d F=some t→1≤t.length:=by
 intro d F t h;have:=text_head h;cases t with
 | nil=>cases this
 | cons a u=>simp
theorem text_deep: ∀ (d:Nat) (F:Fl) (t:T),textF d F=some t→rightD d F=true→ ∃e,e≤t.length∧e≤d∧rightD e F=true∧textF e F=some t
 | 0,_,_,h,_=>by cases h
 | d+1,F,t,h,hd=>by
  by_cases hl:d+1≤t.length
  ·exact⟨d+1,hl,Nat.le_refl _,hd,h⟩
  ·have hd2:=hd;unfold rightD at hd2;rw[Bool.and_eq_true,List.all_eq_true]at hd2;have h2:=h;unfold textF at h2;by_cases hk:F.kind=0∨F.kind=1∨F.kind=2
   ·rw[if_pos hk,Option.map_eq_some_iff]at h2;obtain⟨u,hu,rfl⟩:=h2;obtain⟨us,rfl,hlen,hus⟩:=text_kids hu;have hL:(40::signT F.kind::(us.flatten++[41])).length=us.flatten.length+3:=(by simp);have key: ∀i (a:i<F.kids.length) (b:i<us.length),rightD us.flatten.length F.kids[i]=true∧textF us.flatten.length F.kids[i]=some us[i]:=by
     intro i a b;obtain⟨e,e1,e2,e3,e4⟩:=text_deep d F.kids[i] us[i] (hus i a b) (hd2.2 _ (List.getElem_mem a));have hle:us[i].length≤us.flatten.length:=by
      have: ∀ (us:List T) i (b:i<us.length),us[i].length≤us.flatten.length:=by
       intro us;induction us with
       | nil=>intro i b;cases b
       | cons x w ih=>
        intro i b;rw[List.flatten_cons,List.length_append];cases i with
        | zero=>simp
        | succ i=>have h3:=ih i (by simpa using b);rw[List.getElem_cons_succ];omega
      exact this us i b
     have mono: ∀ (e e':Nat) (G:Fl) (v:T),rightD e G=true→textF e G=some v→e≤e'→textF e' G=some v:=by
      intro e;induction e with
      | zero=>intro e' G v h;cases h
      | succ e ih=>
       intro e' G v hr hv hle;cases e' with
       | zero=>omega
       | succ e'=>
        unfold rightD at hr;rw[Bool.and_eq_true,List.all_eq_true]at hr;unfold textF at hv ⊢;by_cases hk:G.kind=0∨G.kind=1∨G.kind=2
        ·rw[if_pos hk]at hv ⊢;rw[Option.map_eq_some_iff]at hv;obtain⟨y,hy,rfl⟩:=hv;obtain⟨ws,rfl,wl,hws⟩:=text_kids hy;have e5:G.kids.map (textF e')=G.kids.map (textF e):=map_same fun k hk=>by obtain⟨j,hj,rfl⟩:=List.mem_iff_getElem.1 hk;rw[hws j hj (by omega)];exact ih e' _ _ (hr.2 _ (List.getElem_mem hj)) (hws j hj (by omega)) (by omega)
         rw[e5,hy];rfl
        ·rw[if_neg hk]at hv ⊢;exact hv
     exact⟨rightD_mono e3 (Nat.le_trans e1 hle),mono e us.flatten.length _ _ e3 e4 (Nat.le_trans e1 hle)⟩
    refine⟨us.flatten.length+1,by omega,by omega,?_,?_⟩
    ·unfold rightD;rw[Bool.and_eq_true,List.all_eq_true];refine⟨hd2.1,fun k hk=> ?_⟩;obtain⟨j,hj,rfl⟩:=List.mem_iff_getElem.1 hk;exact(key j hj (by omega)).1
    ·unfold textF;rw[if_pos hk];have e5:F.kids.map (textF us.flatten.length)=F.kids.map (textF d):=map_same fun k hk=>by obtain⟨j,hj,rfl⟩:=List.mem_iff_getElem.1 hk;rw[(key j hj (by omega)).2,hus j hj (by omega)]
     rw[e5,hu];rfl
   ·refine⟨1,text_len3 h,by omega,?_,?_⟩
    ·unfold rightD;rw[Bool.and_eq_true];refine⟨hd2.1,?_⟩;rcases leaf_shape hd2.1 hk with⟨a,v,k,_,rfl⟩ | ⟨a,rfl⟩ | ⟨a,p,m,z,rfl,_⟩<;>rfl
    ·unfold textF;rw[if_neg hk]at h2 ⊢;exact h2
theorem parse_print {F:Fl}{t:T}(hr:rightF F=true)(ht:textF 8 F=some t):parseT t=if 8000<t.length then(noFl,5)else(F,0):=by
 unfold parseT;split
 ·rfl
 ·obtain⟨h1,h2⟩:=(rightF_iff F).1 hr;obtain⟨e,e1,e2,e3,e4⟩:=text_deep 8 F t ht h1;have h3:=one_back e F t [] (t.length+1) e3 e4 (by omega);rw[List.append_nil]at h3;rw[h3];simp only;rw[if_pos hr]
end ftp
open Go.RowKit
namespace bld
theorem sizeB:(Try.prog.info? 47).map (·.size)=some 2:=by kernel_rfl
theorem liesB:liesAt Try.prog Try.prog.depth 47 (2 / Try.prog.cellsOf 47) 0 47 1=true:=by kernel_rfl
theorem infoByte:(Try.prog.info? 5).map (fun i=>(i.zero,i.size,i.bytes))=some (some (.int .u8 0),1,1):=by kernel_rfl
abbrev Is (B b:Nat)(l:List UInt8)(w:World):Prop:=Lib.IsBuilder 47 5 B b (Lib.byteCells l) w
theorem copyCheck_used (b:Nat)(w:World)(h0:w.cell? ⟨b,0,none⟩=some (.pointer (some ⟨b,0,none⟩))):
  Calls Try.prog 31 #[.pointer (some ⟨b,0,none⟩)] w fun e w'=>e= .returned (.tuple #[])∧w=w':=by
 obtain⟨j,hj,_⟩:=Option.map_eq_some_iff.1 sizeB;have hne:=fun w':World=>Lib.run_neq_ptr_same (P:=Try.prog) w' (⟨b,0,none⟩:Addr) Try.underlying44 hj;go_enter Try.func31,Try.ntmps31;go_wp2;go_end0;exact⟨rfl,rfl⟩
theorem copyCheck_fresh (b:Nat)(w:World)(h0:w.cell? ⟨b,0,none⟩=some (.pointer none))(hsh:w.shape? b=some (47,2))(hfz:w.frozen? ⟨b,0,none⟩=false):
  Calls Try.prog 31 #[.pointer (some ⟨b,0,none⟩)] w fun e w'=>e= .returned (.tuple #[])∧w.setCell ⟨b,0,none⟩ (.pointer (some ⟨b,0,none⟩))=w':=by
 obtain⟨j,hj,hjs⟩:=Option.map_eq_some_iff.1 sizeB;have hne:=fun w':World=>Lib.run_neq_ptr_same (P:=Try.prog) w' (⟨b,0,none⟩:Addr) Try.underlying44 hj;go_enter Try.func31,Try.ntmps31;go_wp2;rw[Lib.run_to_unsafe w ⟨b,0,none⟩ Try.underlying44 Try.underlying67 hj (by rw[hjs];decide) hsh (Nat.zero_lt_succ 1)];simp only[Result.andThen];rw[Oper.upon_value];go_wp2;rw[run_callFunc_extern Try.func43 (by kernel_rfl) (by kernel_rfl) (by kernel_rfl) (e:=Extern.AbiNoEscape.same) (by kernel_rfl)];rw[Lib.run_noEscape];simp only[Result.andThen];rw[Oper.upon_value];go_wp2;rw[Lib.run_from_unsafe w ⟨b,0,none⟩ Try.underlying67 Try.underlying44 hj hsh liesB];simp only[Result.andThen];rw[Oper.upon_value];go_wp2;go_end0;exact⟨rfl,rfl⟩
theorem copyCheck_any (B b:Nat)(bs:List Value)(w:World)(h:Lib.IsBuilder 47 5 B b bs w):
  Calls Try.prog 31 #[.pointer (some ⟨b,0,none⟩)] w fun e w'=>e= .returned (.tuple #[])∧(Lib.BuilderAt 47 5 B b (.pointer (some ⟨b,0,none⟩)) bs w'∧Below B w w'):=by
 rcases h with h | h
 ·refine(copyCheck_fresh b w h.cell0 h.shape h.frozen0).mono ?_;rintro e w' ⟨rfl,rfl⟩;exact⟨rfl,h.used _,(Below.refl B w).setCell (p:=⟨b,0,none⟩) h.1 _⟩
 ·refine(copyCheck_used b w h.cell0).mono ?_;rintro e w' ⟨rfl,rfl⟩;exact⟨rfl,h,Below.refl B _⟩
theorem lt_of_heap {w:World}{b:Nat}{o:Obj}(h:w.heap[b]? =some o):b<w.heap.size:=by
 rcases Nat.lt_or_ge b w.heap.size with h' | h'
 ·exact h'
 ·simp[Array.getElem?_eq_none h']at h
theorem writeString_any (B b:Nat)(l:List UInt8)(t:ByteArray)(w:World)(h:Is B b l w)(hlen:l.length+t.size≤140737488355328)(hBw:B≤w.heap.size):
  Calls Try.prog 20 #[.pointer (some ⟨b,0,none⟩),.string t] w fun e w'=>e= .returned (.tuple #[.int .i64 (t.size:Int),.nilIface])∧(Is B b (l++t.data.toList) w'∧Below B w w'):=by
 have hbc:(Lib.byteCells l).length=l.length:=Lib.byteCells_length l;have hbc':Lib.byteCells (l++t.data.toList)=Lib.byteCells l++Lib.strCells t:=by rw[Lib.byteCells_append];rfl
 unfold Is;rw[hbc'];have h0:Lib.IsBuilder 47 5 B b (Lib.byteCells l) w:=h;clear h hbc';generalize Lib.byteCells l=bs at h0 hbc ⊢;have C:=Lib.hid (copyCheck_any B b bs w h0);clear h0;obtain⟨i0,hi,hz0,hz1,hz2⟩:=info_parts infoByte;go_enter Try.func20,Try.ntmps20;go_wp2_with fail;refine C.out.mono ?_;rintro e w1 ⟨rfl,h1,hb1⟩;obtain⟨hB,v,hbk,hown,hne⟩:=h1;have hsz:=hb1.size;have c0:w1.cell? ⟨b,0,none⟩=some (.pointer (some ⟨b,0,none⟩)):=by rw[Lib.cell_of_heap hbk];rfl
 have c1:w1.cell? ⟨b,1,none⟩=some v:=by rw[Lib.cell_of_heap hbk];rfl
 obtain⟨v',w2,hap,hown',hgr,_⟩:=Lib.run_append_own_string (P:=Try.prog) w1 B 45 9 45 5 i0 Try.underlying45 Try.underlying9 hi hz0 hz1 hz2 v bs.length bs hown t (by rw[hbc];unfold maxLen;omega) (by rw[hbc];omega) (by omega);have hlt:=lt_of_heap hbk;have hbk2:w2.heap[b]? =some (.cells #[.pointer (some ⟨b,0,none⟩),v] 47 (0,0)):=by rw[hgr.block b hlt (fun e=>hne e.symm)];exact hbk
 have hb2:Below B w1 w2:=(Below.refl B w1).grown hgr (by omega) (fun k hk=>(hown.lt k hk).1);have d1:w2.cell? ⟨b,1,none⟩=some v:=by rw[Lib.cell_of_heap hbk2];rfl
 have f1:w2.frozen? ⟨b,1,none⟩=false:=Lib.frozen_of_heap hbk2 1;have hown2:w2.ownsRow B 5 1 v' (bs++Lib.strCells t).length (bs++Lib.strCells t):=by rw[List.length_append,Lib.strCells_length];exact hown'
 obtain⟨ao,n,cap,rfl,hn⟩:=kt.row_form hown2;have H1:=Lib.hid hown2;have HB:=Lib.hid hbk2;clear hown' hown hbk2 hbk hne hgr C hown2;go_wp2_with (at_builtin;refine Lib.wpList_append_run _ rfl _ _ _ _ rfl _ _ rfl rfl _ _ hap ?_);go_ret2;exact⟨rfl,Or.inr (Lib.BuilderAt.put hB HB.out H1.out (by decide)),(hb1.trans hb2).setCell (p:=⟨b,1,none⟩) hB _⟩
theorem fresh (w:World):Is w.heap.size w.heap.size [] (w.alloc (.cells #[.pointer none,.slice none 0 0] 47)):=Lib.fresh_isBuilder _ _ w
end bld
open Go.RowKit
namespace bld
theorem writeByte_cell (B b:Nat)(l:List UInt8)(c:UInt8)(w:World)(h:Is B b l w)(hlen:l.length+1≤140737488355328)(hBw:B≤w.heap.size):
  Calls Try.prog 42 #[.pointer (some ⟨b,0,none⟩),.int .u8 (c.toNat:Int)] w fun e w'=>e= .returned .nilIface∧(Is B b (l++[c]) w'∧Below B w w'):=by
 have hbc:(Lib.byteCells l).length=l.length:=Lib.byteCells_length l;have hbc':Lib.byteCells (l++[c])=Lib.byteCells l++[.int .u8 (c.toNat:Int)]:=by rw[Lib.byteCells_append];rfl
 unfold Is;rw[hbc'];have h0:Lib.IsBuilder 47 5 B b (Lib.byteCells l) w:=h;clear h hbc';generalize Lib.byteCells l=bs at h0 hbc ⊢;have C:=Lib.hid (copyCheck_any B b bs w h0);clear h0;go_enter Try.func42,Try.ntmps42;go_wp2_with fail;refine C.out.mono ?_;rintro e w1 ⟨rfl,h1,hb1⟩;obtain⟨hB,v,hbk,hown,hne⟩:=h1;have hsz:=hb1.size;have c0:w1.cell? ⟨b,0,none⟩=some (.pointer (some ⟨b,0,none⟩)):=by rw[Lib.cell_of_heap hbk];rfl
 have c1:w1.cell? ⟨b,1,none⟩=some v:=by rw[Lib.cell_of_heap hbk];rfl
 obtain⟨v',w2,hap,hown',hgr,hb2⟩:=kt.app1 (P:=Try.prog) (ty:=45) Try.underlying45 infoByte rfl (.int .u8 (c.toNat:Int)) rfl hown (by rw[hbc];unfold maxLen;omega) (by rw[hbc];omega) (by omega);have hlt:=lt_of_heap hbk;have hbk2:w2.heap[b]? =some (.cells #[.pointer (some ⟨b,0,none⟩),v] 47 (0,0)):=by rw[hgr.block b hlt (fun e=>hne e.symm)];exact hbk
 have d1:w2.cell? ⟨b,1,none⟩=some v:=by rw[Lib.cell_of_heap hbk2];rfl
 have f1:w2.frozen? ⟨b,1,none⟩=false:=Lib.frozen_of_heap hbk2 1;obtain⟨ao,n,cap,rfl,hn⟩:=kt.row_form hown';have H1:=Lib.hid hown';have H2:=Lib.hid hown;have HB:=Lib.hid hbk2;have HK:=Lib.hid hbk;have HN:=Lib.hid hne;have HG:=Lib.hid hgr;clear hown' hown hbk2 hbk hne hgr C;go_wp2_with (at_builtin;refine Lib.wpList_append_run _ rfl _ _ _ _ rfl _ _ rfl rfl _ _ hap ?_);go_ret;exact⟨rfl,Or.inr (Lib.BuilderAt.put hB HB.out H1.out (by decide)),(hb1.trans hb2).setCell (p:=⟨b,1,none⟩) hB _⟩
end bld
end Go.Proofs.Ytffkghkkobmhaaa
namespace Go.Proofs
open Go.Shelf
def Try.lays169_ren:Go.Shelf.Ren:=⟨fun | 169=>21 | n=>n,fun | 70=>44 | 9=>9 | 0=>0 | 72=>47 | 37=>45 | 127=>60 | 3=>3 | 5=>5 | n=>n,fun | n=>n⟩
theorem Try.lays169:Go.Proofs.Lays.n169 Try.prog Try.lays169_ren:={
 mixed:=by kernel_rfl
 f169:=Try.func21.trans (congrArg some (by kernel_rfl))
 t0:=Try.underlying0
 a0:=Try.isAgg0
 z0:=Try.sizeOf0
 v0:=Try.zeroValue0
 t3:=Try.underlying3
 a3:=Try.isAgg3
 z3:=Try.sizeOf3
 v3:=Try.zeroValue3
 t9:=Try.underlying9
 a9:=Try.isAgg9
 z9:=Try.sizeOf9
 v9:=Try.zeroValue9
 t37:=Try.underlying45
 a37:=Try.isAgg45
 z37:=Try.sizeOf45
 v37:=Try.zeroValue45
 t70:=Try.underlying44
 a70:=Try.isAgg44
 z70:=Try.sizeOf44
 v70:=Try.zeroValue44
 t72:=Try.underlying47
 a72:=Try.isAgg47
 z72:=Try.sizeOf47
 v72:=Try.zeroValue47
 t127:=Try.underlying60
 a127:=Try.isAgg60
 z127:=Try.sizeOf60
 v127:=Try.zeroValue60}
theorem Try.Builder_Extra_169:Builder.Extra Try.prog Try.lays169_ren:={
 sizeBuilder:=by kernel_rfl
 liesBuilder:=by kernel_rfl
 t5:=Try.underlying5
 a5:=Try.isAgg5
 z5:=Try.sizeOf5
 v5:=Try.zeroValue5
 infoByte:=by kernel_rfl
 cellsByte:=by kernel_rfl
 sizeByte:=by kernel_rfl
 neB5:=by decide}
open Go.RowKit in
theorem Try.Builder_String_any (B b:Nat)(l:List UInt8)(w:World)(h:Lib.IsBuilder 47 5 B b (Lib.byteCells l) w)(hBw:B≤w.heap.size):
  Calls Try.prog 21 #[.pointer (some ⟨b,0,none⟩)] w fun e w'=>e= .returned (.string ⟨l.toArray⟩)∧Below B w w':=Any.Builder_String_any Try.lays169 Try.Builder_Extra_169 B b l w h hBw
def Try.lays137_ren:Go.Shelf.Ren:=⟨fun | 137=>40 | 217=>47 | 266=>49 | n=>n,fun | 9=>9 | 5=>5 | 3=>3 | n=>n,fun | n=>n⟩
theorem Try.lays137:Go.Proofs.Lays.n137 Try.prog Try.lays137_ren:={
 mixed:=by kernel_rfl
 f137:=Try.func40.trans (congrArg some (by kernel_rfl))
 f217:=Try.func47.trans (congrArg some (by kernel_rfl))
 f266:=Try.func49.trans (congrArg some (by kernel_rfl))
 t3:=Try.underlying3
 a3:=Try.isAgg3
 z3:=Try.sizeOf3
 v3:=Try.zeroValue3
 t5:=Try.underlying5
 a5:=Try.isAgg5
 z5:=Try.sizeOf5
 v5:=Try.zeroValue5
 t9:=Try.underlying9
 a9:=Try.isAgg9
 z9:=Try.sizeOf9
 v9:=Try.zeroValue9}
open Go.RowKit in
theorem Try.strings_IndexByte (s:ByteArray)(c:Int)(w:World):
  Calls Try.prog 40 #[.string s,.int .u8 c] w fun e w'=>e= .returned (.int .i64 (Lib.indexByte s.data.toList c.toNat.toUInt8))∧w'=w:=Any.strings_IndexByte Try.lays137 s c w
end Go.Proofs
namespace Go.Proofs.Ytffkghkkobmhaaa
open Go.RowKit
theorem digit_at (n:Nat)(h:n<(ByteArray.mk #[48,49,50,51,52,53,54,55,56,57,97,98,99,100,101,102]).size):(ByteArray.mk #[48,49,50,51,52,53,54,55,56,57,97,98,99,100,101,102])[n]=b64p.dg n:=by
 have h16:n<16:=h;have all: ∀m:Fin 16,(ByteArray.mk #[48,49,50,51,52,53,54,55,56,57,97,98,99,100,101,102])[m.val]'(m.isLt)=b64p.dg m.val:=by decide
 exact all ⟨n,h16⟩
theorem hex_any (s:ByteArray)(w:World)(hs:s.size≤3000):
  Calls Try.prog 41 #[.string s] w fun e w'=>e= .returned (.string ⟨(b64p.hex s.data.toList).toArray⟩)∧Below w.heap.size w w':=by
 go_enter Try.func41,Try.ntmps41;go_wp2_with fail;go_loopw [7] (fun i wr=> ∃k:Nat,k≤s.size∧i= .int .i64 k∧bld.Is w.heap.size w.heap.size (b64p.hex (s.data.toList.take k)) wr∧Below w.heap.size w wr) (fun i _=>s.size- (intOf i).toNat);case atStart=>exact⟨0,Nat.zero_le _,rfl,bld.fresh w,(Below.refl _ _).alloc (Nat.le_refl _) _⟩
 case round=>
  obtain⟨k,hk,rfl,hI,hB⟩:=hrel;by_cases hlt:k<s.size
  ·have hb:=s[k].toNat_lt;have e1:bits .and .u8 (s[k].toNat:Int) 15=((s[k].toNat % 16:Nat):Int):=(by have h:=u8_and_nat s[k].toNat 15 hb (by omega);rw[show s[k].toNat&&&15=s[k].toNat % 16 from Nat.and_two_pow_sub_one_eq_mod _ 4]at h;exact h);have hlen:(b64p.hex (s.data.toList.take k)).length≤6000:=(by rw[b64p.hex_length,List.length_take];omega);have hsz:=hB.size;have hI':=Lib.hid hI;clear hI;go_wp2_with fail;refine(bld.writeByte_cell _ _ _ _ _ hI'.out (by omega) hsz).mono ?_;rintro e w1 ⟨rfl,hI1,hB1⟩;have hI1':=Lib.hid hI1;clear hI1;have hsz1:=hB1.size;go_wp2_with fail;refine(bld.writeByte_cell _ _ _ _ _ hI1'.out (by simp;omega) (by omega)).mono ?_;rintro e w2 ⟨rfl,hI2,hB2⟩;have hI2':=Lib.hid hI2;clear hI2;go_wp2_with fail;go_roundw;case rel=>
    refine⟨k+1,by omega,by go_num,?_,(hB.trans hB1).trans hB2⟩;have h:=hI2'.out;rw[digit_at,digit_at]at h;rw[kt.take_snoc s k hlt,b64p.hex_append];simpa[b64p.hex]using h
   case measure=>simp[intOf];omega
  ·obtain rfl:k=s.size:=(by omega);have hsz:=hB.size;have hI':=Lib.hid hI;clear hI;go_wp2_with fail;refine(Try.Builder_String_any _ _ _ _ hI'.out hsz).mono ?_;rintro e w1 ⟨rfl,hB1⟩;go_wp2;go_ret;exact⟨kt.ret_str (by rw[List.take_of_length_le (by simp)]),hB.trans hB1⟩
open Go.RowKit
namespace tupw
def Strs (w:World)(ao:Option Addr)(l:List ByteArray):Prop:= ∀ (i:Nat) (h:i<l.length),∃b o,ao=some ⟨b,o,none⟩∧w.cell? ⟨b,o+i,none⟩=some (.string l[i])
theorem strs_below {w w':World}{ao:Option Addr}{l:List ByteArray}(h:Strs w ao l)(hb:Below w.heap.size w w'):Strs w' ao l:=by intro i hi;obtain⟨b,o,e,hc⟩:=h i hi;exact⟨b,o,e,(hb.cell (World.block_lt_of_cell? w _ hc)).trans hc⟩
theorem is_below {B b:Nat}{l:List UInt8}{w w':World}(h:bld.Is B b l w)(hb:Below w.heap.size w w'):bld.Is B b l w':=by
 rcases h with h | h
 ·obtain⟨hB,v,hk,ho,hn⟩:=h;exact Or.inl ⟨hB,v,(hb.block b (bld.lt_of_heap hk)).trans hk,kt.row_below ho hb,hn⟩
 ·obtain⟨hB,v,hk,ho,hn⟩:=h;exact Or.inr ⟨hB,v,(hb.block b (bld.lt_of_heap hk)).trans hk,kt.row_below ho hb,hn⟩
end tupw
open Go.RowKit
namespace prw
theorem infoStr:(Try.prog.info? 9).map (fun i=>(i.zero,i.size,i.bytes))=some (some (.string ByteArray.empty),1,16):=by kernel_rfl
def scells (l:List ByteArray):List Value:=l.map Value.string
theorem scells_length (l:List ByteArray):(scells l).length=l.length:=by simp[scells]
def OwnT (w:World)(B:Nat)(v:Value)(l:List ByteArray):Prop:=w.ownsRow B 9 1 v (scells l).length (scells l)
theorem ownT_cells {w:World}{B:Nat}{v:Value}{l:List ByteArray}(h:OwnT w B v l): ∃ (ao:Option Addr) (cap:Nat),v= .slice ao l.length cap∧l.length≤cap∧(l≠[]→ ∃g,ao=some ⟨g,0,none⟩∧g<w.heap.size∧ ∀ (j:Nat) x,l[j]? =some x→w.cell? ⟨g,0+j,none⟩=some (.string x)):=by
 obtain⟨ao,cap,hv,_,hc⟩:=kt.row_slice h;rw[scells_length]at hv hc;subst hv;refine⟨ao,cap,rfl,hc,fun hne=> ?_⟩;have h':w.ownsRow B 9 1 (.slice ao l.length cap) l.length (scells l):=by have:=h;unfold OwnT at this;rw[scells_length]at this;exact this
 obtain⟨g,rfl,hcc,_⟩:=kt.row_some h' (List.length_pos_iff.2 hne);have hcell: ∀ (j:Nat) x,l[j]? =some x→w.cell? ⟨g,0+j,none⟩=some (.string x):=by intro j x hj;rw[Nat.zero_add];exact hcc j _ (by simp[scells,hj])
 refine⟨g,rfl,?_,hcell⟩;obtain⟨x,t,rfl⟩:=List.exists_cons_of_ne_nil hne;exact World.block_lt_of_cell? w ⟨g,0+0,none⟩ (hcell 0 x rfl)
end prw
open Go.RowKit
namespace dnw
theorem ownT_below {w w':World}{B:Nat}{v:Value}{l:List ByteArray}(h:prw.OwnT w B v l)(hb:Below w.heap.size w w'):prw.OwnT w' B v l:=kt.row_below h hb
theorem ownT_appG {w:World}{B:Nat}{v:Value}{l:List ByteArray}(x:ByteArray)(hown:prw.OwnT w B v l)(hl:l.length≤100000000)(hbase:B≤w.heap.size):
  ∃ao m cap w1,(Builtin.append_ #[22,22] 22 #[v,.slice (some ⟨w.heap.size,0,none⟩) 1 1]).run Try.prog (w.alloc (.cells #[.string x] 9))= .ok (.slice ao m cap) w1∧prw.OwnT w1 B (.slice ao m cap) (l++[x])∧w.grownBy w1 v.ownBlock∧Below B w w1:=by
 obtain⟨v',w1,h1,h2,h4,h3⟩:=kt.app1 (P:=Try.prog) (t:=22) (ty:=22) Try.underlying22 prw.infoStr rfl (.string x) rfl hown (by rw[prw.scells_length];unfold maxLen;omega) (by rw[prw.scells_length];omega) hbase;have h2':prw.OwnT w1 B v' (l++[x]):=by
  unfold prw.OwnT;have e:prw.scells (l++[x])=prw.scells l++[.string x]:=by simp[prw.scells]
  rw[e];exact h2
 obtain⟨ao,cap,rfl,_,_⟩:=prw.ownT_cells h2';exact⟨ao,_,cap,w1,h1,h2',h4,h3⟩
theorem ownT_form {w:World}{B:Nat}{v:Value}{l:List ByteArray}(h:prw.OwnT w B v l): ∃ (ao:Option Addr) (m cap:Nat),v= .slice ao m cap∧Hid (m=l.length):=by obtain⟨ao,cap,rfl,_,_⟩:=prw.ownT_cells h;exact⟨ao,_,cap,rfl,rfl⟩
end dnw
open Go.RowKit
namespace ftw
open ftp
def NameP (c:UInt8)(b:Bool):Prop:=(65≤(c.toNat:Int)∧(c.toNat:Int)≤90)∨(97≤(c.toNat:Int)∧(c.toNat:Int)≤122)∨(b=false∧((48≤(c.toNat:Int)∧(c.toNat:Int)≤57)∨(c.toNat:Int)=45∨(c.toNat:Int)=46))
theorem nat_eq (c:UInt8)(n:Nat)(hn:n<256):c=UInt8.ofNat n↔c.toNat=n:=by
 constructor
 ·intro h;rw[h];simp;omega
 ·intro h;exact UInt8.toNat_inj.1 (by rw[h];simp;omega)
theorem nameCh_iff (c:UInt8)(b:Bool):nameCh c b=true↔NameP c b:=by
 have h1:=nat_eq c 45 (by decide);have h2:=nat_eq c 46 (by decide);unfold nameCh NameP;simp only[Bool.or_eq_true,Bool.and_eq_true,decide_eq_true_eq,Bool.not_eq_true'];have e1:(c=45)=(c.toNat=45):=propext h1;have e2:(c=46)=(c.toNat=46):=propext h2;rw[e1,e2];constructor
 ·rintro((h | h) | ⟨h,(h3 | h3) | h3⟩)
  ·exact Or.inl (by omega)
  ·exact Or.inr (Or.inl (by omega))
  ·exact Or.inr (Or.inr ⟨h,by omega⟩)
  ·exact Or.inr (Or.inr ⟨h,by omega⟩)
  ·exact Or.inr (Or.inr ⟨h,by omega⟩)
 ·rintro(h | h | ⟨h,h3 | h3 | h3⟩)
  ·exact Or.inl (Or.inl (by omega))
  ·exact Or.inl (Or.inr (by omega))
  ·exact Or.inr ⟨h,Or.inl (Or.inl (by omega))⟩
  ·exact Or.inr ⟨h,Or.inl (Or.inr (by omega))⟩
  ·exact Or.inr ⟨h,Or.inr (by omega)⟩
theorem nameCh_of {c:UInt8}{b x:Bool}(h:x=true↔NameP c b):x=nameCh c b:=by rw[Bool.eq_iff_iff,nameCh_iff,h]
theorem nameByte_any (c:UInt8)(b:Bool)(w:World):Calls Try.prog 30 #[.int .u8 (c.toNat:Int),.bool b] w fun e w'=>e= .returned (.bool (nameCh c b))∧w=w':=by
 have HO:Hid (∀x:Bool,(x=true↔NameP c b)→x=nameCh c b):=fun x h=>nameCh_of h;have hcn:=c.toNat_lt;cases b with
 | true=>
  go_enter Try.func30,Try.ntmps30;go_wp2_with fail;all_goals first
   | (go_ret;refine⟨kt.ret_bool (HO.out _ ?_),rfl⟩;unfold NameP;simp only[Bool.not_eq_true',Bool.not_eq_false',Bool.or_eq_true,Bool.and_eq_true,Bool.or_eq_false_iff,Bool.and_eq_false_iff,decide_eq_true_eq,decide_eq_false_iff_not,beq_iff_eq,bne_iff_ne,bne_eq_false_iff_eq,beq_eq_false_iff_ne,ne_eq,Classical.not_not,Bool.true_eq_false,Bool.false_eq_true,false_and,or_false,true_and,true_iff,false_iff]at*;omega)
   | (exfalso;simp only[Bool.not_eq_true',Bool.not_eq_false',Bool.or_eq_true,Bool.and_eq_true,Bool.or_eq_false_iff,Bool.and_eq_false_iff,decide_eq_true_eq,decide_eq_false_iff_not,beq_iff_eq,bne_iff_ne,bne_eq_false_iff_eq,beq_eq_false_iff_ne,ne_eq,Classical.not_not]at*;omega)
 | false=>
  go_enter Try.func30,Try.ntmps30;go_wp2_with fail;all_goals first
   | (go_ret;refine⟨kt.ret_bool (HO.out _ ?_),rfl⟩;unfold NameP;simp only[Bool.not_eq_true',Bool.not_eq_false',Bool.or_eq_true,Bool.and_eq_true,Bool.or_eq_false_iff,Bool.and_eq_false_iff,decide_eq_true_eq,decide_eq_false_iff_not,beq_iff_eq,bne_iff_ne,bne_eq_false_iff_eq,beq_eq_false_iff_ne,ne_eq,Classical.not_not,Bool.true_eq_false,Bool.false_eq_true,false_and,or_false,true_and,true_iff,false_iff]at*;omega)
   | (exfalso;simp only[Bool.not_eq_true',Bool.not_eq_false',Bool.or_eq_true,Bool.and_eq_true,Bool.or_eq_false_iff,Bool.and_eq_false_iff,decide_eq_true_eq,decide_eq_false_iff_not,beq_iff_eq,bne_iff_ne,bne_eq_false_iff_eq,beq_eq_false_iff_ne,ne_eq,Classical.not_not]at*;omega)
theorem nameL_iff (l:T):nameL l=true↔l≠[]∧ ∀j (h:j<l.length),nameCh l[j] (decide (j=0))=true:=by
 cases l with
 | nil=>simp[nameL]
 | cons c r=>
  unfold nameL;rw[Bool.and_eq_true,List.all_eq_true];constructor
  ·rintro⟨h1,h2⟩;refine⟨by simp,fun j hj=> ?_⟩;cases j with
   | zero=>exact h1
   | succ j=>exact h2 _ (List.getElem_mem (by simpa using hj))
  ·rintro⟨_,h⟩;refine⟨h 0 (by simp),fun x hx=> ?_⟩;obtain⟨j,hj,rfl⟩:=List.getElem_of_mem hx;exact h (j+1) (by simpa using hj)
theorem nameL_no {s:ByteArray}{k:Nat}(hk:k<s.size)(h:nameCh s[k] (decide (k=0))=false):false=nameL s.data.toList:=by symm;rw[Bool.eq_false_iff];intro h2;have:=((nameL_iff _).1 h2).2 k (by rw[kt.size_len];exact hk);rw[show s.data.toList[k]'(by rw[kt.size_len];exact hk)=s[k]from rfl,h]at this;cases this
theorem nameL_end {s:ByteArray}(h: ∀j (hj:j<s.size),nameCh s[j] (decide (j=0))=true)(hs: ¬s.size=0):true=nameL s.data.toList:=by symm;rw[nameL_iff];refine⟨fun e=>hs (by rw[←kt.size_len,e];rfl),fun j hj=>h j (by rw[kt.size_len]at hj;exact hj)⟩
theorem ix_signs (d:UInt8):0≤Lib.indexByte [40,41,42,92] d↔(d=40∨d=41∨d=42∨d=92):=by
 have all: ∀m:Fin 256,(decide (0≤Lib.indexByte [40,41,42,92] (UInt8.ofNat m.val)))=decide (UInt8.ofNat m.val=40∨UInt8.ofNat m.val=41∨UInt8.ofNat m.val=42∨UInt8.ofNat m.val=92):=by decide+kernel
 have h:=all ⟨d.toNat,d.toNat_lt⟩;simp only[UInt8.ofNat_toNat]at h;rw[←decide_eq_true_iff (p:=0≤_),h,decide_eq_true_iff]
theorem signs_any (c:UInt8)(W:World): ∃r:Int,(0≤r↔(c=40∨c=41∨c=42∨c=92))∧Calls Try.prog 40 #[.string ⟨#[40,41,42,92]⟩,.int .u8 (c.toNat:Int)] W fun e w'=>e= .returned (.int .i64 r)∧W=w':=by have C:=Try.strings_IndexByte {data:=#[40,41,42,92]} (c.toNat:Int) W;refine⟨_,?_,C.mono fun e w' h=>⟨h.1,by first | exact h.2 | exact h.2.symm⟩⟩;rw[show((c.toNat:Int)).toNat.toUInt8=c from by simp];exact ix_signs c
theorem hexed_cases (c:UInt8):hexed c=true↔(c.toNat<32∨126<c.toNat∨(c=40∨c=41∨c=42∨c=92)):=by unfold hexed;simp only[Bool.or_eq_true,decide_eq_true_eq,or_assoc]
theorem valL_take {s:ByteArray}{k:Nat}(hk:k<s.size):valL (s.data.toList.take (k+1))=valL (s.data.toList.take k)++valB s[k]:=by unfold valL;rw[List.take_succ_eq_append_getElem (by rw[kt.size_len];exact hk),List.flatMap_append];simp;rfl
theorem valB_len (c:UInt8):(valB c).length≤3:=by
 unfold valB;split
 ·rw[List.length_cons,b64p.hex_length];simp
 ·simp
theorem valL_len: ∀l:T,(valL l).length≤3*l.length
 | []=>by simp[valL]
 | c::r=>by have ih:=valL_len r;have h:=valB_len c;unfold valL at ih ⊢;rw[List.flatMap_cons,List.length_append,List.length_cons];omega
def valBy (s:ByteArray):ByteArray:=⟨(valL s.data.toList).toArray⟩
theorem value_any (s:ByteArray)(w:World)(hs:s.size≤1000000):Calls Try.prog 29 #[.string s] w fun e w'=>e= .returned (.string (valBy s))∧Below w.heap.size w w':=by
 go_enter Try.func29,Try.ntmps29;go_wp2_with fail;go_loopw [8] (fun iv wr=> ∃k:Nat,k≤s.size∧iv= .int .i64 (k:Int)∧Hid (bld.Is w.heap.size w.heap.size (valL (s.data.toList.take k)) wr)∧Below w.heap.size w wr) (fun iv _=>s.size- (intOf iv).toNat);case atStart=>exact⟨0,Nat.zero_le _,rfl,bld.fresh w,(Below.refl _ _).alloc (Nat.le_refl _) _⟩
 case round=>
  obtain⟨k,hk,rfl,HI,hB⟩:=hrel;have hsz:=hB.size;have hlen:(valL (s.data.toList.take k)).length≤3000000:=by have:=valL_len (s.data.toList.take k);rw[List.length_take,kt.size_len]at this;omega
  by_cases hlt:k<s.size
  ·have hlt':(k:Int)<(s.size:Int):=(by omega);have hlt2:(k:Int)+1≤(s.size:Int):=(by omega);have HT:=Lib.hid (valL_take hlt);obtain⟨r,hr,CX⟩:=signs_any (s[k]'hlt) wr;have HC:=Lib.hid CX;have hcn:=(s[k]'hlt).toNat_lt;have hxc:=hexed_cases (s[k]'hlt);have HXe:Hid ((s.extract k (k+1)).data.toList=[s[k]'hlt]):=(by show _=_;rw[Lib.extract_data];have e:s.data.toList[k]'(by rw[kt.size_len];exact hlt)=s[k]'hlt:=rfl;rw[←e,show k+1-k=1 from by omega];rw[List.drop_eq_getElem_cons (by rw[kt.size_len];exact hlt)];rfl);clear CX;by_cases hx:hexed (s[k]'hlt)=true
   ·have HV:Hid (valB (s[k]'hlt)=92::b64p.hex [s[k]'hlt]):=if_pos hx;obtain⟨X,hX⟩: ∃X:ByteArray,Hid (X=⟨(b64p.hex [s[k]'hlt]).toArray⟩):=⟨_,rfl⟩;have CH:Hid (Calls Try.prog 41 #[.string (s.extract k (k+1))] wr fun e w'=>e= .returned (.string X)∧Below wr.heap.size wr w'):=(by have h:=hex_any (s.extract k (k+1)) wr (by rw[←kt.size_len,HXe.out];simp);rw[HXe.out]at h;rw[hX.out];exact h);obtain⟨Y,hY⟩: ∃Y:ByteArray,Y=(⟨#[92]⟩:ByteArray)++X:=⟨_,rfl⟩;have hXs:X.size=2:=(by rw[hX.out,←kt.size_len];exact b64p.hex_length _);have hYs:Y.size=3:=(by rw[hY,ByteArray.size_append,hXs];rfl);have HYd:Hid (Y.data.toList=valB (s[k]'hlt)):=(by show _=_;rw[HV.out,hY,hX.out];simp);have hadd: ∀W,(Op.stringOp .add ⟨#[92]⟩ X).run Try.prog W= .ok (.string Y) W:=fun W=>by rw[hY];exact run_string_add_sum W _ _ (by rw[hXs];decide)
    have hx3:=hxc.1 hx;have hx4:(((s[k]'hlt).toNat:Int)<32)∨(¬ ((s[k]'hlt).toNat:Int)<32∧126<((s[k]'hlt).toNat:Int))∨(¬ ((s[k]'hlt).toNat:Int)<32∧ ¬126<((s[k]'hlt).toNat:Int)∧0≤r):=by
     rcases hx3 with h | h | h
     ·exact Or.inl (by omega)
     ·exact Or.inr (Or.inl ⟨by omega,by omega⟩)
     ·refine Or.inr (Or.inr ⟨?_,?_,hr.2 h⟩)
      ·rcases h with h | h | h | h<;>rw[h]<;>decide
      ·rcases h with h | h | h | h<;>rw[h]<;>decide
    rw[←HYd.out]at HT;clear hr hxc hx hx3 HV hY hX hXs HYd;rcases hx4 with h1 | ⟨h1,h2⟩ | ⟨h1,h2,h3⟩
    ·clear HC;go_wp2_with fail;refine CH.out.mono ?_;rintro e w1 ⟨rfl,hB1⟩;have HW:=Lib.hid (bld.writeString_any w.heap.size w.heap.size _ Y w1 (tupw.is_below HI.out hB1) (by omega) (Nat.le_trans hsz hB1.size));go_wp2_with fail;refine HW.out.mono ?_;rintro e w2 ⟨rfl,hI2,hB2⟩;go_wp2_with fail;go_roundw;case rel=>exact⟨k+1,by omega,by go_num,by show bld.Is _ _ _ _;rw[HT.out];exact hI2,(hB.trans (hB1.mono hsz)).trans hB2⟩
     case measure=>simp[intOf];omega
    ·clear HC;go_wp2_with fail;refine CH.out.mono ?_;rintro e w1 ⟨rfl,hB1⟩;have HW:=Lib.hid (bld.writeString_any w.heap.size w.heap.size _ Y w1 (tupw.is_below HI.out hB1) (by omega) (Nat.le_trans hsz hB1.size));go_wp2_with fail;refine HW.out.mono ?_;rintro e w2 ⟨rfl,hI2,hB2⟩;go_wp2_with fail;go_roundw;case rel=>exact⟨k+1,by omega,by go_num,by show bld.Is _ _ _ _;rw[HT.out];exact hI2,(hB.trans (hB1.mono hsz)).trans hB2⟩
     case measure=>simp[intOf];omega
    ·go_wp2_with fail;refine HC.out.mono ?_;rintro e w0 ⟨rfl,hw⟩;subst hw;go_wp2_with fail;refine CH.out.mono ?_;rintro e w1 ⟨rfl,hB1⟩;have HW:=Lib.hid (bld.writeString_any w.heap.size w.heap.size _ Y w1 (tupw.is_below HI.out hB1) (by omega) (Nat.le_trans hsz hB1.size));go_wp2_with fail;refine HW.out.mono ?_;rintro e w2 ⟨rfl,hI2,hB2⟩;go_wp2_with fail;go_roundw;case rel=>exact⟨k+1,by omega,by go_num,by show bld.Is _ _ _ _;rw[HT.out];exact hI2,(hB.trans (hB1.mono hsz)).trans hB2⟩
     case measure=>simp[intOf];omega
   ·have HV:Hid (valB (s[k]'hlt)=[s[k]'hlt]):=if_neg hx;have hxn: ¬ (((s[k]'hlt).toNat<32)∨126<(s[k]'hlt).toNat∨((s[k]'hlt)=40∨(s[k]'hlt)=41∨(s[k]'hlt)=42∨(s[k]'hlt)=92)):=fun h=>hx (hxc.2 h);have h1: ¬ ((s[k]'hlt).toNat:Int)<32:=fun h=>hxn (Or.inl (by omega));have h2: ¬126<((s[k]'hlt).toNat:Int):=fun h=>hxn (Or.inr (Or.inl (by omega)));have h3: ¬0≤r:=fun h=>hxn (Or.inr (Or.inr (hr.1 h)));have HW:=Lib.hid (bld.writeByte_cell w.heap.size w.heap.size _ (s[k]'hlt) wr HI.out (by omega) hsz);rw[HV.out]at HT;clear hr hxc hx hxn HV;go_wp2_with fail;refine HC.out.mono ?_;rintro e w0 ⟨rfl,hw⟩;subst hw;go_wp2_with fail;refine HW.out.mono ?_;rintro e w2 ⟨rfl,hI2,hB2⟩;go_wp2_with fail;go_roundw;case rel=>exact⟨k+1,by omega,by go_num,by show bld.Is _ _ _ _;rw[HT.out];exact hI2,hB.trans hB2⟩
    case measure=>simp[intOf];omega
  ·obtain rfl:k=s.size:=(by omega);have hI5:=HI.out;rw[List.take_of_length_le (by rw[kt.size_len];exact Nat.le_refl _)]at hI5;have HX:=Lib.hid (Try.Builder_String_any _ _ _ wr hI5 hsz);go_wp2_with fail;refine HX.out.mono ?_;rintro e w5 ⟨rfl,hB5⟩;go_wp2_with fail;go_ret;exact⟨rfl,hB.trans hB5⟩
end ftw
open Go.RowKit
namespace ftw
open ftp
theorem rnameByte_any (c:UInt8)(b:Bool)(w:World):Calls Try.prog 23 #[.int .u8 (c.toNat:Int),.bool b] w fun e w'=>e= .returned (.bool (nameCh c b))∧w=w':=by
 have HO:Hid (∀x:Bool,(x=true↔NameP c b)→x=nameCh c b):=fun x h=>nameCh_of h;have hcn:=c.toNat_lt;cases b with
 | true=>
  go_enter Try.func23,Try.ntmps23;go_wp2_with fail;all_goals first
   | (go_ret;refine⟨kt.ret_bool (HO.out _ ?_),rfl⟩;unfold NameP;simp only[Bool.not_eq_true',Bool.not_eq_false',Bool.or_eq_true,Bool.and_eq_true,Bool.or_eq_false_iff,Bool.and_eq_false_iff,decide_eq_true_eq,decide_eq_false_iff_not,beq_iff_eq,bne_iff_ne,bne_eq_false_iff_eq,beq_eq_false_iff_ne,ne_eq,Classical.not_not,Bool.true_eq_false,Bool.false_eq_true,false_and,or_false,true_and,true_iff,false_iff]at*;omega)
   | (exfalso;simp only[Bool.not_eq_true',Bool.not_eq_false',Bool.or_eq_true,Bool.and_eq_true,Bool.or_eq_false_iff,Bool.and_eq_false_iff,decide_eq_true_eq,decide_eq_false_iff_not,beq_iff_eq,bne_iff_ne,bne_eq_false_iff_eq,beq_eq_false_iff_ne,ne_eq,Classical.not_not]at*;omega)
 | false=>
  go_enter Try.func23,Try.ntmps23;go_wp2_with fail;all_goals first
   | (go_ret;refine⟨kt.ret_bool (HO.out _ ?_),rfl⟩;unfold NameP;simp only[Bool.not_eq_true',Bool.not_eq_false',Bool.or_eq_true,Bool.and_eq_true,Bool.or_eq_false_iff,Bool.and_eq_false_iff,decide_eq_true_eq,decide_eq_false_iff_not,beq_iff_eq,bne_iff_ne,bne_eq_false_iff_eq,beq_eq_false_iff_ne,ne_eq,Classical.not_not,Bool.true_eq_false,Bool.false_eq_true,false_and,or_false,true_and,true_iff,false_iff]at*;omega)
   | (exfalso;simp only[Bool.not_eq_true',Bool.not_eq_false',Bool.or_eq_true,Bool.and_eq_true,Bool.or_eq_false_iff,Bool.and_eq_false_iff,decide_eq_true_eq,decide_eq_false_iff_not,beq_iff_eq,bne_iff_ne,bne_eq_false_iff_eq,beq_eq_false_iff_ne,ne_eq,Classical.not_not]at*;omega)
theorem rdig_any (n:Nat)(hn:n<16)(w:World):Calls Try.prog 33 #[.int .i64 (n:Int)] w fun e w'=>e= .returned (.int .u8 ((b64p.dg n).toNat:Int))∧w=w':=by
 have hd:((b64p.dg n).toNat:Int)=if n<10 then 48+(n:Int)else 87+n:=by
  have all: ∀m:Fin 16,((b64p.dg m.val).toNat:Int)=if m.val<10 then 48+(m.val:Int)else 87+m.val:=by decide
  exact all ⟨n,hn⟩
 by_cases h:n<10
 ·rw[hd,if_pos h];clear hd;go_enter Try.func33,Try.ntmps33;go_wp2_with fail;go_ret;exact⟨kt.ret_int (by omega),rfl⟩
 ·rw[hd,if_neg h];clear hd;go_enter Try.func33,Try.ntmps33;go_wp2_with fail;go_ret;exact⟨kt.ret_int (by omega),rfl⟩
theorem app3 {w:World}{B:Nat}{v:Value}{xs:List Value}(x y z:Value)(hx:x.oneCell'=true)(hy:y.oneCell'=true)(hz:z.oneCell'=true)(hown:w.ownsRow B 5 1 v xs.length xs)(hl:xs.length≤100000000)(hbase:B≤w.heap.size):
  ∃v' w1,(Builtin.append_ #[45,45] 45 #[v,.slice (some ⟨w.heap.size,0,none⟩) 3 3]).run Try.prog (w.alloc (.cells #[x,y,z] 5))= .ok v' w1∧w1.ownsRow B 5 1 v' (xs++[x,y,z]).length (xs++[x,y,z])∧Below B w w1:=by
 have hA:Below w.heap.size w (w.alloc (.cells #[x,y,z] 5)):=(Below.refl _ _).alloc (Nat.le_refl _) _;have hown2:=kt.row_below hown hA;obtain⟨v',w1,h1,h2,_,h3⟩:=kt.appN (P:=Try.prog) (t:=45) (ty:=45) Try.underlying45 bld.infoByte rfl ⟨w.heap.size,0,none⟩ 3 3 [x,y,z] rfl (fun j u hj=>by rw[kt.addr_add,World.cell?_alloc_new];simpa using hj) (by intro u hu;simp at hu;rcases hu with rfl | rfl | rfl<;>assumption) hown2 (by unfold maxLen;omega) (by omega) (Nat.le_trans hbase hA.size);exact⟨v',w1,h1,h2,((Below.refl B w).alloc hbase _).trans h3⟩
theorem val_row {v:Value}{w:World}{B:Nat}{s:ByteArray}{k:Nat}(hk:k<s.size)(news:List UInt8)(hn:valB s[k]=news)(h:w.ownsRow B 5 1 v (Lib.byteCells (valL (s.data.toList.take k))++Lib.byteCells news).length (Lib.byteCells (valL (s.data.toList.take k))++Lib.byteCells news)):w.ownsRow B 5 1 v (Lib.byteCells (valL (s.data.toList.take (k+1)))).length (Lib.byteCells (valL (s.data.toList.take (k+1)))):=by rw[valL_take hk,Lib.byteCells_append,hn];exact h
theorem rvalue_any (s:ByteArray)(w:World)(hs:s.size≤1000000):Calls Try.prog 24 #[.string s] w fun e w'=>e= .returned (.string (valBy s))∧Below w.heap.size w w':=by
 go_enter Try.func24,Try.ntmps24;go_wp2_with fail;go_loopw [3,4] (fun bv iv wr=> ∃k:Nat,k≤s.size∧iv= .int .i64 (k:Int)∧Hid (wr.ownsRow w.heap.size 5 1 bv (Lib.byteCells (valL (s.data.toList.take k))).length (Lib.byteCells (valL (s.data.toList.take k))))∧Below w.heap.size w wr) (fun _ iv _=>s.size- (intOf iv).toNat);case atStart=>exact⟨0,Nat.zero_le _,rfl,World.ownsRow_made w #[] 0 (Nat.le_refl _) (by unfold maxLen;omega) rfl,(Below.refl _ _).alloc (Nat.le_refl _) _⟩
 case round=>
  obtain⟨k,hk,rfl,hO,hB⟩:=hrel;have hsz:=hB.size;have hlen:(Lib.byteCells (valL (s.data.toList.take k))).length≤3000000:=by have:=valL_len (s.data.toList.take k);rw[List.length_take,kt.size_len]at this;rw[Lib.byteCells_length];omega
  by_cases hlt:k<s.size
  ·have hlt':(k:Int)<(s.size:Int):=(by omega);have HVR:=Lib.hid (fun(v:Value) (W:World) news hn h=> @val_row v W w.heap.size s k hlt news hn h);obtain⟨c,hc⟩: ∃c,s[k]'hlt=c:=⟨_,rfl⟩;have hcn:=c.toNat_lt;by_cases hx:hexed c=true
   ·have HV:Hid (valB (s[k]'hlt)=[92,b64p.dg (c.toNat / 16),b64p.dg (c.toNat % 16)]):=(by rw[hc];exact if_pos hx);have hx3:=(hexed_cases c).1 hx;obtain⟨d1,hd1⟩: ∃d,b64p.dg (c.toNat / 16)=d:=⟨_,rfl⟩;obtain⟨d2,hd2⟩: ∃d,b64p.dg (c.toNat % 16)=d:=⟨_,rfl⟩;obtain⟨n1,hn1⟩: ∃n,c.toNat / 16=n:=⟨_,rfl⟩;obtain⟨n2,hn2⟩: ∃n,c.toNat % 16=n:=⟨_,rfl⟩;have b1:(n1:Int)<16:=(by omega);have b2:(n2:Int)<16:=(by omega);have D1:Hid (∀W:World,Calls Try.prog 33 #[.int .i64 (n1:Int)] W fun e w'=>e= .returned (.int .u8 (d1.toNat:Int))∧W=w'):=(by intro W;rw[←hd1,hn1];exact rdig_any n1 (by omega) W);have D2:Hid (∀W:World,Calls Try.prog 33 #[.int .i64 (n2:Int)] W fun e w'=>e= .returned (.int .u8 (d2.toNat:Int))∧W=w'):=(by intro W;rw[←hd2,hn2];exact rdig_any n2 (by omega) W);rw[hd1,hd2]at HV;obtain⟨v',w1,hap,hO1,hB1⟩:=app3 (.int .u8 92) (.int .u8 (d1.toNat:Int)) (.int .u8 (d2.toNat:Int)) rfl rfl rfl hO.out (by omega) hsz;have HO1:=Lib.hid hO1;have r1:IntKind.i64.wrap (c.toNat:Int)=(c.toNat:Int):=kt.wrap_i64_nat _ (by omega);have r2:(c.toNat:Int).tdiv 16=(n1:Int):=(by rw[←hn1];rfl);have r3:(c.toNat:Int).tmod 16=(n2:Int):=(by rw[←hn2];rfl);have r4:IntKind.i64.wrap (n1:Int)=(n1:Int):=kt.wrap_i64_nat _ (by omega);have r5:IntKind.i64.wrap (n2:Int)=(n2:Int):=kt.wrap_i64_nat _ (by omega);have hx4:((c.toNat:Int)<32)∨(126<(c.toNat:Int))∨(c.toNat:Int)=40∨(c.toNat:Int)=41∨(c.toNat:Int)=42∨(c.toNat:Int)=92:=by
     rcases hx3 with h | h | h | h | h | h
     ·exact Or.inl (by omega)
     ·exact Or.inr (Or.inl (by omega))
     ·rw[h];decide
     ·rw[h];decide
     ·rw[h];decide
     ·rw[h];decide
    have HX4:=Lib.hid hx4;clear hx hx3 hx4 hd1 hd2 hn1 hn2 hO1;rcases HX4.out with h | h | h | h | h | h
    ·have g1:(c.toNat:Int)<32:=h;clear h;go_wp2_with (first | (go_at_call_of 33 (Value.int IntKind.i64 (n1:Int));refine(D1.out _).mono ?_;rintro e w' ⟨rfl,rfl⟩) | (go_at_call_of 33 (Value.int IntKind.i64 (n2:Int));refine(D2.out _).mono ?_;rintro e w' ⟨rfl,rfl⟩) | (at_builtin;refine Lib.wpList_append_run _ rfl _ _ _ _ rfl _ _ rfl rfl _ _ hap ?_));go_roundw;case rel=>exact⟨k+1,by omega,by go_num,HVR.out _ _ _ HV.out HO1.out,hB.trans hB1⟩
     case measure=>simp[intOf];omega
    ·have g1: ¬ (c.toNat:Int)<32:=(by omega);have g2:126<(c.toNat:Int):=h;clear h;go_wp2_with (first | (go_at_call_of 33 (Value.int IntKind.i64 (n1:Int));refine(D1.out _).mono ?_;rintro e w' ⟨rfl,rfl⟩) | (go_at_call_of 33 (Value.int IntKind.i64 (n2:Int));refine(D2.out _).mono ?_;rintro e w' ⟨rfl,rfl⟩) | (at_builtin;refine Lib.wpList_append_run _ rfl _ _ _ _ rfl _ _ rfl rfl _ _ hap ?_));go_roundw;case rel=>exact⟨k+1,by omega,by go_num,HVR.out _ _ _ HV.out HO1.out,hB.trans hB1⟩
     case measure=>simp[intOf];omega
    ·have g1: ¬ (c.toNat:Int)<32:=(by omega);have g2: ¬126<(c.toNat:Int):=(by omega);have e40:((c.toNat:Int)==40)=true:=(by rw[beq_iff_eq];exact h);clear h;go_wp2_with (first | (go_at_call_of 33 (Value.int IntKind.i64 (n1:Int));refine(D1.out _).mono ?_;rintro e w' ⟨rfl,rfl⟩) | (go_at_call_of 33 (Value.int IntKind.i64 (n2:Int));refine(D2.out _).mono ?_;rintro e w' ⟨rfl,rfl⟩) | (at_builtin;refine Lib.wpList_append_run _ rfl _ _ _ _ rfl _ _ rfl rfl _ _ hap ?_));go_roundw;case rel=>exact⟨k+1,by omega,by go_num,HVR.out _ _ _ HV.out HO1.out,hB.trans hB1⟩
     case measure=>simp[intOf];omega
    ·have g1: ¬ (c.toNat:Int)<32:=(by omega);have g2: ¬126<(c.toNat:Int):=(by omega);have e40:((c.toNat:Int)==40)=false:=(by rw[beq_eq_false_iff_ne];omega);have e41:((c.toNat:Int)==41)=true:=(by rw[beq_iff_eq];exact h);clear h;go_wp2_with (first | (go_at_call_of 33 (Value.int IntKind.i64 (n1:Int));refine(D1.out _).mono ?_;rintro e w' ⟨rfl,rfl⟩) | (go_at_call_of 33 (Value.int IntKind.i64 (n2:Int));refine(D2.out _).mono ?_;rintro e w' ⟨rfl,rfl⟩) | (at_builtin;refine Lib.wpList_append_run _ rfl _ _ _ _ rfl _ _ rfl rfl _ _ hap ?_));go_roundw;case rel=>exact⟨k+1,by omega,by go_num,HVR.out _ _ _ HV.out HO1.out,hB.trans hB1⟩
     case measure=>simp[intOf];omega
    ·have g1: ¬ (c.toNat:Int)<32:=(by omega);have g2: ¬126<(c.toNat:Int):=(by omega);have e40:((c.toNat:Int)==40)=false:=(by rw[beq_eq_false_iff_ne];omega);have e41:((c.toNat:Int)==41)=false:=(by rw[beq_eq_false_iff_ne];omega);have e42:((c.toNat:Int)==42)=true:=(by rw[beq_iff_eq];exact h);clear h;go_wp2_with (first | (go_at_call_of 33 (Value.int IntKind.i64 (n1:Int));refine(D1.out _).mono ?_;rintro e w' ⟨rfl,rfl⟩) | (go_at_call_of 33 (Value.int IntKind.i64 (n2:Int));refine(D2.out _).mono ?_;rintro e w' ⟨rfl,rfl⟩) | (at_builtin;refine Lib.wpList_append_run _ rfl _ _ _ _ rfl _ _ rfl rfl _ _ hap ?_));go_roundw;case rel=>exact⟨k+1,by omega,by go_num,HVR.out _ _ _ HV.out HO1.out,hB.trans hB1⟩
     case measure=>simp[intOf];omega
    ·have g1: ¬ (c.toNat:Int)<32:=(by omega);have g2: ¬126<(c.toNat:Int):=(by omega);have e40:((c.toNat:Int)==40)=false:=(by rw[beq_eq_false_iff_ne];omega);have e41:((c.toNat:Int)==41)=false:=(by rw[beq_eq_false_iff_ne];omega);have e42:((c.toNat:Int)==42)=false:=(by rw[beq_eq_false_iff_ne];omega);have e92:((c.toNat:Int)==92)=true:=(by rw[beq_iff_eq];exact h);clear h;go_wp2_with (first | (go_at_call_of 33 (Value.int IntKind.i64 (n1:Int));refine(D1.out _).mono ?_;rintro e w' ⟨rfl,rfl⟩) | (go_at_call_of 33 (Value.int IntKind.i64 (n2:Int));refine(D2.out _).mono ?_;rintro e w' ⟨rfl,rfl⟩) | (at_builtin;refine Lib.wpList_append_run _ rfl _ _ _ _ rfl _ _ rfl rfl _ _ hap ?_));go_roundw;case rel=>exact⟨k+1,by omega,by go_num,HVR.out _ _ _ HV.out HO1.out,hB.trans hB1⟩
     case measure=>simp[intOf];omega
   ·have hxf:hexed c=false:=by cases he:hexed c with
     | true=>exact absurd he hx
     | false=>rfl
    have HV:Hid (valB (s[k]'hlt)=[c]):=(by rw[hc];exact valB_plain hxf);have hx3: ¬ (c.toNat<32∨126<c.toNat∨(c=40∨c=41∨c=42∨c=92)):=fun h=>hx ((hexed_cases c).2 h);have g1: ¬ (c.toNat:Int)<32:=fun h=>hx3 (Or.inl (by omega));have g2: ¬126<(c.toNat:Int):=fun h=>hx3 (Or.inr (Or.inl (by omega)));have e40:((c.toNat:Int)==40)=false:=(by rw[beq_eq_false_iff_ne];intro h;exact hx3 (Or.inr (Or.inr (Or.inl (UInt8.toNat_inj.1 (by show c.toNat=40;omega))))));have e41:((c.toNat:Int)==41)=false:=(by rw[beq_eq_false_iff_ne];intro h;exact hx3 (Or.inr (Or.inr (Or.inr (Or.inl (UInt8.toNat_inj.1 (by show c.toNat=41;omega)))))));have e42:((c.toNat:Int)==42)=false:=(by rw[beq_eq_false_iff_ne];intro h;exact hx3 (Or.inr (Or.inr (Or.inr (Or.inr (Or.inl (UInt8.toNat_inj.1 (by show c.toNat=42;omega))))))));have e92:((c.toNat:Int)==92)=false:=(by rw[beq_eq_false_iff_ne];intro h;exact hx3 (Or.inr (Or.inr (Or.inr (Or.inr (Or.inr (UInt8.toNat_inj.1 (by show c.toNat=92;omega))))))));obtain⟨v',w1,hap,hO1,_,hB1⟩:=kt.app1 (P:=Try.prog) (t:=45) (ty:=45) Try.underlying45 bld.infoByte rfl (.int .u8 (c.toNat:Int)) rfl hO.out (by unfold maxLen;omega) (by omega) hsz;have HO1:=Lib.hid hO1;clear hx hxf hx3 hO1;go_wp2_with (at_builtin;refine Lib.wpList_append_run _ rfl _ _ _ _ rfl _ _ rfl rfl _ _ hap ?_);go_roundw;case rel=>exact⟨k+1,by omega,by go_num,HVR.out _ _ _ HV.out HO1.out,hB.trans hB1⟩
    case measure=>simp[intOf];omega
  ·obtain rfl:k=s.size:=(by omega);have hst:=kt.str_of_row (P:=Try.prog) (dst:=9) Try.underlying45 Try.underlying5 Try.underlying9 hO.out;go_wp2_with fail;go_ret;exact⟨kt.ret_str (by rw[List.take_of_length_le (by simp)];rfl),hB⟩
end ftw
end Go.Proofs.Ytffkghkkobmhaaa
