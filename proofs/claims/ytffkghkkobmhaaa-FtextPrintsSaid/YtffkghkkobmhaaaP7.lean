/- One text out of several: UnhexW, FtA, FtD, FtB, FtE, FtF, FtG. -/
import Derived.Test.YtffkghkkobmhaaaP1
import Derived.Test.YtffkghkkobmhaaaP6
import Derived.WalkLawsBesides
import Derived.BigQuiet
import Derived.Lib.SmallJoins
import Derived.Test.YtffkghkkobmhaaaP2
import Derived.Test.YtffkghkkobmhaaaP4
import Derived.Maps.OwnSet
set_option linter.unusedVariables false
set_option linter.unusedSimpArgs false
set_option maxRecDepth 20000
set_option maxHeartbeats 8000000
namespace Go.Proofs.Ytffkghkkobmhaaa
open Go.RowKit
def UhRes (o:Option (List UInt8))(w:World)(e:Ending)(w':World):Prop:=e= .returned (b64p.uhV o)∧Below w.heap.size w w'
theorem unhex_any (s:ByteArray)(w:World)(hs:s.size≤10000):
  Calls Try.prog 48 #[.string s] w (UhRes (b64p.unhex s.data.toList) w):=by
 by_cases hodd:s.size % 2=1
 ·have ho:=b64p.unhex_odd _ s.data.toList (Nat.le_refl _) (by rw[kt.size_len];exact hodd);have HO:=Lib.hid ho;have q1:((s.size:Int) % 2 !=0)=true:=by rw[bne_iff_ne];omega
  clear ho hodd;go_enter Try.func48,Try.ntmps48;go_wp2_with fail;go_ret2;exact⟨by rw[HO.out];rfl,Below.refl _ _⟩
 ·have q1:((s.size:Int) % 2 !=0)=false:=by rw[bne_eq_false_iff_eq];omega
  have hodd':=Lib.hid hodd;clear hodd;go_enter Try.func48,Try.ntmps48;go_wp2_with fail;go_loopw [4,5] (fun bv iv wr=> ∃ (i:Nat) (d:List UInt8),i≤s.size∧Hid (i % 2=0)∧d.length≤i∧iv= .int .i64 i∧Hid (wr.ownsRow w.heap.size 5 1 bv (Lib.byteCells d).length (Lib.byteCells d))∧Hid (b64p.unhex s.data.toList=(b64p.unhex (s.data.toList.drop i)).map (d++ ·))∧Below w.heap.size w wr) (fun _ iv _=>s.size- (intOf iv).toNat);case atStart=>exact⟨0,[],Nat.zero_le _,rfl,by simp,rfl,World.ownsRow_nil _ _ _ _,by show _=_;simp,Below.refl _ _⟩
  case round=>
   obtain⟨i,d,hi,hpar,hd,rfl,hO,hU,hB⟩:=hrel;have hsz:=hB.size;by_cases hlt:i<s.size
   ·have hi1:i+1<s.size:=(by have:=hpar.out;have:=hodd'.out;omega);have hstep:=b64p.unhex_step s.data.toList i (by rw[kt.size_len];exact hi1);have g1:s.data.toList[i]'(by rw[kt.size_len];exact hlt)=s[i]:=rfl;have g2:s.data.toList[i+1]'(by rw[kt.size_len];exact hi1)=s[i+1]:=rfl;rw[g1,g2]at hstep;have hstep':=Lib.hid hstep;clear hstep g1 g2;obtain⟨a,ha⟩: ∃a:Int,Hid (a=b64p.valI s[i]):=⟨b64p.valI s[i],rfl⟩;obtain⟨b,hb⟩: ∃b:Int,Hid (b=b64p.valI s[i+1]):=⟨b64p.valI s[i+1],rfl⟩;have va: -1≤a∧a≤15:=(by rw[ha.out];exact b64p.valI_le _);have vb: -1≤b∧b≤15:=(by rw[hb.out];exact b64p.valI_le _);obtain⟨va1,va2⟩:=va;obtain⟨vb1,vb2⟩:=vb;obtain⟨n1,en1⟩: ∃n:Nat,s[i].toNat=n:=⟨_,rfl⟩;obtain⟨n2,en2⟩: ∃n:Nat,s[i+1].toNat=n:=⟨_,rfl⟩;have DA:Hid (∀W:World,Calls Try.prog 50 #[.int .u8 (n1:Int)] W fun e w'=>e= .returned (.int .i64 a)∧w'=W):=(by intro W;rw[ha.out,←en1];exact kt.flip (digit_any _ W));have DB:Hid (∀W:World,Calls Try.prog 50 #[.int .u8 (n2:Int)] W fun e w'=>e= .returned (.int .i64 b)∧w'=W):=(by intro W;rw[hb.out,←en2];exact kt.flip (digit_any _ W));have f1:(0:Int)≤(i:Int):=(by omega);have f2:(i:Int)<(s.size:Int):=(by omega);have f3:(0:Int)≤(i:Int)+1:=(by omega);have f4:(i:Int)+1<(s.size:Int):=(by omega);have f5:IntKind.i64.wrap ((i:Int)+1)=(i:Int)+1:=IntWalk.i64_in _ (by omega);have f6:((i:Int)+1).toNat=i+1:=(by omega);go_wp2_with fail;go_quiet ((first | (go_at_call_of 50 (Value.int IntKind.u8 (n1:Int));exact Calls.quiet_of_same (DA.out _)) | (go_at_call_of 50 (Value.int IntKind.u8 (n2:Int));exact Calls.quiet_of_same (DB.out _))));by_cases hneg:a<0∨b<0
    ·have hnone:b64p.unhex s.data.toList=none:=(by rw[hU.out,hstep'.out,if_pos (by rw[←ha.out,←hb.out];exact hneg)];rfl);have HN:=Lib.hid hnone;clear hnone;by_cases ha0:a<0
     ·clear hneg;go_wp2_with fail;go_ret2;exact⟨by rw[HN.out];rfl,hB.trans (hx_drewN (Below.refl _ _) _)⟩
     ·have hb0:b<0:=(by omega);clear hneg;go_wp2_with fail;go_ret2;exact⟨by rw[HN.out];rfl,hB.trans (hx_drewN (Below.refl _ _) _)⟩
    ·have ha0:0≤a:=(by omega);have hb0:0≤b:=(by omega);have hsome:b64p.unhex s.data.toList=(b64p.unhex (s.data.toList.drop (i+2))).map ((d++[UInt8.ofNat (16*a+b).toNat])++ ·):=(by rw[hU.out,hstep'.out,if_neg (by rw[←ha.out,←hb.out];exact hneg),←ha.out,←hb.out,Option.map_map];congr 1;funext x;simp);have HS:=Lib.hid hsome;clear hsome hneg;obtain⟨A,rfl⟩:=Int.eq_ofNat_of_zero_le ha0;obtain⟨B,rfl⟩:=Int.eq_ofNat_of_zero_le hb0;obtain⟨m,hm⟩: ∃m:UInt8,Hid (m=UInt8.ofNat (16*(A:Int)+(B:Int)).toNat):=⟨_,rfl⟩;have em:(m.toNat:Int)=16*A+B:=(by rw[hm.out,UInt8.toNat_ofNat'];omega);have e1:bits .or .i64 ((A:Int)*16) (B:Int)=(m.toNat:Int):=(by have h:=kt.i64_or_low 4 A B (by omega) (by omega);rw[em,show(A:Int)*16=((2 ^ 4*A:Nat):Int)from by omega,h];omega);have e2:(m.toNat:Int) % 256=(m.toNat:Int):=(by have:=m.toNat_lt;omega);obtain⟨v',w1,hap,hO1,hg1,hB1⟩:=kt.app1 (P:=Try.prog) (ty:=45) (w:=wr.drewN nq) Try.underlying45 bld.infoByte rfl (.int .u8 (m.toNat:Int)) rfl hO.out (by rw[Lib.byteCells_length];unfold maxLen;omega) (by rw[Lib.byteCells_length];omega) hsz;have HO1:=Lib.hid hO1;have HG1:=Lib.hid hg1;have EM:=Lib.hid em;clear hO1 hg1 em;go_wp2_with (at_builtin;refine Lib.wpList_append_run _ rfl _ _ _ _ rfl _ _ rfl rfl _ _ hap ?_);go_roundw;case rel=>
      refine⟨i+2,d++[m],by omega,by show _=_;have:=hpar.out;omega,by simp;omega,by go_num,?_,?_,(hB.trans (hx_drewN (Below.refl _ _) _)).trans hB1⟩
      ·show World.ownsRow _ _ _ _ _ _ _;rw[Lib.byteCells_append];exact HO1.out
      ·show _=_;rw[hm.out];exact HS.out
     case measure=>simp[intOf];omega
   ·obtain rfl:i=s.size:=(by omega);have hst:=kt.str_of_row (P:=Try.prog) (dst:=9) Try.underlying45 Try.underlying5 Try.underlying9 hO.out;have hfin:b64p.unhex s.data.toList=some d:=(by rw[hU.out,List.drop_of_length_le (by simp)];simp[b64p.unhex]);have HF:=Lib.hid hfin;clear hfin;go_wp2_with fail;go_ret2;exact⟨by rw[HF.out];rfl,hB⟩
open Go.RowKit
namespace ftw
open ftp
def ScB (w:World)(p:Nat)(s:ByteArray)(k:Nat):Prop:=w.heap[p]? =some (.cells #[.string s,.int .i64 (k:Int)] 40 (0,0))
structure Off (p:Nat)(w w':World):Prop where
 os:w'.os=w.os
 tape:w'.tape=w.tape
 output:w'.output=w.output
 size:w.heap.size≤w'.heap.size
 block: ∀k,k<w.heap.size→k≠p→w'.heap[k]? =w.heap[k]?
theorem off_refl (p:Nat)(w:World):Off p w w:=⟨rfl,rfl,rfl,Nat.le_refl _,fun _ _ _=>rfl⟩
theorem off_trans {p:Nat}{a b c:World}(h:Off p a b)(k:Off p b c):Off p a c:=⟨k.os.trans h.os,k.tape.trans h.tape,k.output.trans h.output,Nat.le_trans h.size k.size,fun i hi hp=>(k.block i (Nat.lt_of_lt_of_le hi h.size) hp).trans (h.block i hi hp)⟩
theorem off_below {p:Nat}{w w':World}(h:Below w.heap.size w w'):Off p w w':=⟨h.os,h.tape,h.output,h.size,fun k hk _=>h.block k hk⟩
theorem off_set (p i:Nat)(w:World)(v:Value):Off p w (w.setCell ⟨p,i,none⟩ v):=⟨rfl,rfl,rfl,by simp[World.setCell],fun k hk hp=>Below.heap_setCell _ _ _ _ hp⟩
theorem off_Below {p B:Nat}{w w':World}(h:Off p w w')(hB:B≤w.heap.size)(hp:B≤p):Below B w w':=⟨h.os,h.tape,h.output,h.size,fun k hk=>h.block k (by omega) (by omega)⟩
theorem off_old {p:Nat}{w w1 w':World}(h:Off p w w1)(h2:Below w.heap.size w1 w')(hp:p<w.heap.size):Off p w w':=⟨h2.os.trans h.os,h2.tape.trans h.tape,h2.output.trans h.output,Nat.le_trans h.size h2.size,fun k hk hne=>(h2.block k hk).trans (h.block k hk hne)⟩
theorem sc_lt {w:World}{p k:Nat}{s:ByteArray}(h:ScB w p s k):p<w.heap.size:=kt.bld_lt h
theorem sc_cells {w:World}{p k:Nat}{s:ByteArray}(h:ScB w p s k):w.cell? ⟨p,0,none⟩=some (.string s)∧w.cell? ⟨p,1,none⟩=some (.int .i64 (k:Int))∧w.frozen? ⟨p,1,none⟩=false:=⟨(Lib.cell_of_heap h 0).trans rfl,(Lib.cell_of_heap h 1).trans rfl,Lib.frozen_of_heap h 1⟩
theorem sc_below {w w':World}{p k:Nat}{s:ByteArray}(h:ScB w p s k)(hb:Below w.heap.size w w'):ScB w' p s k:=(hb.block p (sc_lt h)).trans h
theorem sc_drew {w:World}{p k:Nat}{s:ByteArray}(h:ScB w p s k):ScB w.drew p s k:=h
theorem sc_set {w:World}{p k:Nat}{s:ByteArray}(h:ScB w p s k)(m:Nat):ScB (w.setCell ⟨p,1,none⟩ (.int .i64 (m:Int))) p s m:=by unfold ScB at h ⊢;have:=Joins.block_setCell h (i:=1) (v:= .int .i64 (m:Int));simpa using this
theorem sc_new (w:World)(s:ByteArray)(k:Nat):ScB (w.alloc (.cells #[.string s,.int .i64 (k:Int)] 40)) w.heap.size s k:=heap_alloc_new w _
def atOf (w:World)(p:Nat):Nat:=match w.cell? ⟨p,1,none⟩with
 | some (.int _ k)=>k.toNat
 | _=>0
theorem atOf_sc {w:World}{p k:Nat}{s:ByteArray}(h:ScB w p s k):atOf w p=k:=by unfold atOf;rw[(sc_cells h).2.1];simp
def PanicE (e:Ending):Prop:= ∃j:Nat,j≤1000000∧e= .panicked [{v:= .iface 37 (.int .i64 (j:Int)),recovered:=false}]
def nextI (s:ByteArray)(k:Nat):Int:=if h:k<s.size then((s[k]'h).toNat:Int)else 0
theorem next_any (p:Nat)(s:ByteArray)(k:Nat)(w:World)(h:Hid (ScB w p s k))(hk:k≤s.size):
  Calls Try.prog 26 #[.pointer (some ⟨p,0,none⟩)] w fun e w'=>e= .returned (.int .u8 (nextI s k))∧Below w.heap.size w w':=by
 obtain⟨c0,c1,f1⟩:=sc_cells h.out;by_cases hlt:k<s.size
 ·have hI:Hid (nextI s k=((s[k]'hlt).toNat:Int)):=dif_pos hlt;have hlt':(k:Int)<(s.size:Int):=by omega
  have hcn:=(s[k]'hlt).toNat_lt;go_enter Try.func26,Try.ntmps26;go_wp2_with fail;go_quiet (fail);generalize hw2:w.drewN nq=w2;have HB:Hid (Below w.heap.size w w2):=by rw[←hw2];exact hx_drewN (Below.refl _ _) _
  have c0':w2.cell? ⟨p,0,none⟩=some (.string s):=by rw[←hw2];exact c0
  have c1':w2.cell? ⟨p,1,none⟩=some (.int .i64 (k:Int)):=by rw[←hw2];exact c1
  clear c0 c1 hw2;go_wp2_with fail;go_quiet (fail);go_wp2_with fail;go_ret;exact⟨kt.ret_int hI.out.symm,hx_drewN HB.out _⟩
 ·obtain rfl:k=s.size:=by omega
  have hI:Hid (nextI s s.size=0):=dif_neg hlt;clear hlt;go_enter Try.func26,Try.ntmps26;go_wp2_with fail;go_quiet (fail);go_wp2_with fail;go_ret;exact⟨kt.ret_int hI.out.symm,hx_drewN (Below.refl _ _) _⟩
theorem take_ok (p:Nat)(s:ByteArray)(k:Nat)(c:UInt8)(w:World)(h:Hid (ScB w p s k))(hlt:k<s.size)(hc:s[k]'hlt=c)(hs:s.size≤1000000):
  Calls Try.prog 25 #[.pointer (some ⟨p,0,none⟩),.int .u8 (c.toNat:Int)] w fun e w'=>e= .returned (.tuple #[])∧Off p w w'∧ScB w' p s (k+1):=by
 obtain⟨c0,c1,f1⟩:=sc_cells h.out;have hlt':(k:Int)<(s.size:Int):=by omega
 have hge:decide (s.size≤k)=false:=decide_eq_false (by omega);have hcn:=(s[k]'hlt).toNat_lt;have hone:(k:Int)+1≤9223372036854775807:=by omega
 subst hc;go_enter Try.func25,Try.ntmps25;go_wp2_with fail;go_quiet (fail);generalize hw2:w.drewN nq=w2;have HB:Hid (Below w.heap.size w w2):=by rw[←hw2];exact hx_drewN (Below.refl _ _) _
 have HS:=Lib.hid (sc_below h.out HB.out);clear c0 c1 f1 hw2 h;obtain⟨c0,c1,f1⟩:=sc_cells HS.out;go_wp2_with fail;go_end0;exact⟨rfl,off_trans (off_below HB.out) (off_set _ _ _ _),by have:=sc_set HS.out (k+1);simpa using this⟩
theorem take_no (p:Nat)(s:ByteArray)(k:Nat)(c:UInt8)(w:World)(h:Hid (ScB w p s k))(hk:k≤s.size)(hc: ∀hlt:k<s.size,s[k]'hlt≠c)(hs:s.size≤1000000):
  Calls Try.prog 25 #[.pointer (some ⟨p,0,none⟩),.int .u8 (c.toNat:Int)] w fun e w'=>PanicE e∧Below w.heap.size w w':=by
 obtain⟨c0,c1,f1⟩:=sc_cells h.out;by_cases hlt:k<s.size
 ·have hlt':(k:Int)<(s.size:Int):=by omega
  have hge:decide (s.size≤k)=false:=decide_eq_false (by omega);have hcn:=(s[k]'hlt).toNat_lt;have hne:=hc hlt;have hne2:(((s[k]'hlt).toNat:Int) != (c.toNat:Int))=true:=by rw[bne_iff_ne];intro e;exact hne (UInt8.toNat_inj.1 (by omega))
  clear hne hc;go_enter Try.func25,Try.ntmps25;go_wp2_with fail;go_quiet (fail);generalize hw2:w.drewN nq=w2;have HB:Hid (Below w.heap.size w w2):=by rw[←hw2];exact hx_drewN (Below.refl _ _) _
  have HS:=Lib.hid (sc_below h.out HB.out);clear c0 c1 f1 hw2 h;obtain⟨c0,c1,f1⟩:=sc_cells HS.out;go_wp2_with fail;exact⟨rfl,⟨k,by omega,rfl⟩,HB.out⟩
 ·obtain rfl:k=s.size:=by omega
  have hge:(s.size:Int)≤(s.size:Int):=by omega
  clear hlt hc;go_enter Try.func25,Try.ntmps25;go_wp2_with fail;go_quiet (fail);generalize hw2:w.drewN nq=w2;have HB:Hid (Below w.heap.size w w2):=by rw[←hw2];exact hx_drewN (Below.refl _ _) _
  have HS:=Lib.hid (sc_below h.out HB.out);clear c0 c1 f1 hw2 h;obtain⟨c0,c1,f1⟩:=sc_cells HS.out;go_wp2_with fail;exact⟨rfl,⟨s.size,by omega,rfl⟩,HB.out⟩
end ftw
open Go.RowKit
namespace ftw
open ftp
theorem tw_at (q:UInt8→Bool): ∀ (n:Nat) (r:T),n≤r.length→(∀j (hj:j<r.length),j<n→q r[j]=true)→(∀h:n<r.length,q r[n]=false)→r.takeWhile q=r.take n
 | 0,[],_,_,_=>rfl
 | 0,c::r,_,_,h2=>by have e:q c=false:=h2 (by simp);rw[List.takeWhile_cons_of_neg (by rw[e];decide)];rfl
 | n+1,[],h,_,_=>by simp at h
 | n+1,c::r,h,h1,h2=>by have e:q c=true:=h1 0 (by simp) (by omega);rw[List.takeWhile_cons_of_pos e,List.take_succ_cons];rw[tw_at q n r (by simpa using h) (fun j hj hjn=>by have:=h1 (j+1) (by simpa using hj) (by omega);simpa using this) (fun h=>by have:=h2 (by simpa using h);simpa using this)]
theorem span_at {l:T}{n:Nat}(hn:n≤l.length)(h1: ∀j (hj:j<l.length),j<n→nameCh l[j] (decide (j=0))=true)(h2: ∀h:n<l.length,nameCh l[n] (decide (n=0))=false):spanN l=l.take n:=by
 cases l with
 | nil=>simp[spanN]
 | cons c r=>
  rw[span_cons];cases n with
  | zero=>have:=h2 (by simp);rw[if_neg (by have e:nameCh c true=false:=this;rw[e];decide)];rfl
  | succ n=>have h0:nameCh c true=true:=h1 0 (by simp) (by omega);rw[if_pos h0,List.take_succ_cons];rw[tw_at (fun c=>nameCh c false) n r (by simpa using hn) (fun j hj hjn=>by have:=h1 (j+1) (by simpa using hj) (by omega);simpa using this) (fun h=>by have:=h2 (by simpa using h);simpa using this)]
def rest (s:ByteArray)(k:Nat):T:=(tx s).drop k
theorem rest_len (s:ByteArray)(k:Nat):(rest s k).length=s.size-k:=by unfold rest;rw[List.length_drop];have:(tx s).length=s.size:=kt.size_len s;omega
theorem rest_at {s:ByteArray}{k:Nat}(j:Nat)(hj:j<(rest s k).length):(rest s k)[j]=s[k+j]'(by rw[rest_len]at hj;omega):=by have h: ∀ (l:T) (hj:j<(l.drop k).length),(l.drop k)[j]=l[k+j]'(by rw[List.length_drop]at hj;omega):=fun l hj=>List.getElem_drop;exact h (tx s) hj
theorem rest_cons {s:ByteArray}{k:Nat}(h:k<s.size):rest s k=s[k]::rest s (k+1):=by unfold rest;rw[List.drop_eq_getElem_cons (by show k<(tx s).length;rw[show(tx s).length=s.size from kt.size_len s];exact h)];rfl
theorem rest_end (s:ByteArray):rest s s.size=[]:=List.eq_nil_of_length_eq_zero (by rw[rest_len];omega)
theorem rest_drop (s:ByteArray)(k n:Nat):(rest s k).drop n=rest s (k+n):=by unfold rest;rw[List.drop_drop]
theorem rest_take {s:ByteArray}{k m:Nat}(hk:k≤m):bb ((rest s k).take (m-k))=s.extract k m:=by refine kt.str_eq ?_;rw[Lib.extract_data];unfold bb rest tx;simp
theorem sc_inc {w:World}{p k:Nat}{s:ByteArray}(h:ScB w p s k):ScB (w.setCell ⟨p,1,none⟩ (.int .i64 ((k:Int)+1))) p s (k+1):=by have:=sc_set h (k+1);simpa using this
def NameE (w:World)(p:Nat)(s:ByteArray)(k:Nat)(e:Ending)(w':World):Prop:=Off p w w'∧if spanN (rest s k)=[]then PanicE e else e= .returned (.string (bb (spanN (rest s k))))∧ScB w' p s (k+(spanN (rest s k)).length)
theorem nameE_no {w w':World}{p k:Nat}{s:ByteArray}{e:Ending}(h:spanN (rest s k)=[])(ho:Off p w w')(he:PanicE e):NameE w p s k e w':=⟨ho,by rw[if_pos h];exact he⟩
theorem nameE_yes {w w':World}{p k m:Nat}{s:ByteArray}{e:Ending}(hk:k<m)(hm:m≤s.size)(h:spanN (rest s k)=(rest s k).take (m-k))(ho:Off p w w')(he:e= .returned (.string (s.extract k m)))(hs:ScB w' p s m):NameE w p s k e w':=by
 have hl:(spanN (rest s k)).length=m-k:=by rw[h,List.length_take,rest_len];omega
 refine⟨ho,?_⟩;rw[if_neg (fun e=>by rw[e]at hl;simp at hl;omega)];refine⟨?_,by rw[hl,show k+(m-k)=m by omega];exact hs⟩;rw[he,h,rest_take (by omega)]
theorem name_any (p:Nat)(s:ByteArray)(k:Nat)(w:World)(h:Hid (ScB w p s k))(hk:k≤s.size)(hs:s.size≤1000000):
  Calls Try.prog 34 #[.pointer (some ⟨p,0,none⟩)] w (NameE w p s k):=by
 obtain⟨c0,c1,f1⟩:=sc_cells h.out;go_enter Try.func34,Try.ntmps34;go_wp2_with fail;clear c0 c1 f1;go_loopw [40] (fun _ wr=> ∃m:Nat,k≤m∧m≤s.size∧Hid (∀j (hj:j<(rest s k).length),j<m-k→nameCh (rest s k)[j] (decide (j=0))=true)∧Hid (ScB wr p s m)∧Hid (Off p w wr)) (fun _ wr=>s.size-atOf wr p);case atStart=>exact⟨k,Nat.le_refl _,hk,fun j hj h=>by omega,h.out,off_refl _ _⟩
 case round=>
  obtain⟨m,hkm,hm,hA,hS,hO⟩:=hrel;obtain⟨c0,c1,f1⟩:=sc_cells hS.out;by_cases hlt:m<s.size
  ·have hlt':(m:Int)<(s.size:Int):=(by omega);have hcn:=(s[m]'hlt).toNat_lt;have hj:m-k<(rest s k).length:=(by rw[rest_len];omega);have hat:(rest s k)[m-k]=s[m]'hlt:=(by rw[rest_at];congr 1;omega);have hd:decide (m-k=0)=decide ((m:Int)=(k:Int)):=(by rw[Bool.eq_iff_iff,decide_eq_true_iff,decide_eq_true_iff];omega);have HN:Hid (∀W,Calls Try.prog 30 #[.int .u8 ((s[m]'hlt).toNat:Int),.bool (decide ((m:Int)=(k:Int)))] W fun e w'=>e= .returned (.bool (nameCh (rest s k)[m-k] (decide (m-k=0))))∧w'=W):=(by intro W;rw[hat,hd];exact kt.flip (nameByte_any _ _ W));have HY:Hid (nameCh (rest s k)[m-k] (decide (m-k=0))=true→ ∀j (hj:j<(rest s k).length),j<m+1-k→nameCh (rest s k)[j] (decide (j=0))=true):=by
    intro ht j hj2 hjm;by_cases e:j=m-k
    ·subst e;exact ht
    ·exact hA.out j hj2 (by omega)
   have HZ:Hid (nameCh (rest s k)[m-k] (decide (m-k=0))=false→spanN (rest s k)=(rest s k).take (m-k)):=(by intro hf;exact span_at (by omega) (fun j hj2 hjm=>hA.out j hj2 hjm) (fun _=>hf));generalize nameCh (rest s k)[m-k] (decide (m-k=0))=r at HN HY HZ;clear hat hd hj;go_wp2_with fail;go_quiet ((go_at_call 30;exact Calls.quiet_of_same (HN.out _)));generalize hw2:wr.drewN nq=w2;have HB:Hid (Below wr.heap.size wr w2):=(by rw[←hw2];exact hx_drewN (Below.refl _ _) _);have HS:=Lib.hid (sc_below hS.out HB.out);have HO:=Lib.hid (off_trans hO.out (off_below HB.out));clear c0 c1 f1 hw2 HN;obtain⟨c0,c1,f1⟩:=sc_cells HS.out;cases r with
   | true=>
    have HY1:=Lib.hid (HY.out rfl);clear HY HZ;have hone:(m:Int)+1≤9223372036854775807:=(by omega);go_wp2_with fail;go_roundw;case rel=>exact⟨m+1,by omega,by omega,HY1.out,sc_inc HS.out,off_trans HO.out (off_set _ _ _ _)⟩
    case measure=>rw[atOf_sc hS.out,atOf_sc (sc_inc HS.out)];omega
   | false=>
    have HZ1:=Lib.hid (HZ.out rfl);clear HY HZ;by_cases he:m=k
    ·have hmk:((m:Int)==(k:Int))=true:=(by rw[beq_iff_eq];omega);have hem:=Lib.hid he;clear he;go_wp2_with fail;exact⟨rfl,nameE_no (by rw[HZ1.out,hem.out];simp) HO.out ⟨m,by omega,rfl⟩⟩
    ·have hmk:((m:Int)==(k:Int))=false:=(by rw[beq_eq_false_iff_ne];omega);have hlt2:k<m:=(by omega);have g1:(k:Int)≤(m:Int):=(by omega);clear he;go_wp2_with fail;go_quiet (fail);go_wp2_with fail;go_ret;have HB2:Below w2.heap.size w2 (w2.drewN nq):=hx_drewN (Below.refl _ _) _;exact nameE_yes hlt2 hm HZ1.out (off_trans HO.out (off_below HB2)) rfl (sc_below HS.out HB2)
  ·obtain rfl:m=s.size:=(by omega);have hdd:decide ((s.size:Int)<(s.size:Int))=false:=decide_eq_false (by omega);have hd2:decide (s.size<s.size)=false:=decide_eq_false (by omega);have HZ:Hid (spanN (rest s k)=(rest s k).take (s.size-k)):=span_at (by rw[rest_len];exact Nat.le_refl _) (fun j hj2 hjm=>hA.out j hj2 hjm) (fun h=>by rw[rest_len]at h;omega);clear hlt;go_wp2_with fail;go_quiet (fail);generalize hw2:wr.drewN nq=w2;have HB:Hid (Below wr.heap.size wr w2):=(by rw[←hw2];exact hx_drewN (Below.refl _ _) _);have HS:=Lib.hid (sc_below hS.out HB.out);have HO:=Lib.hid (off_trans hO.out (off_below HB.out));clear c0 c1 f1 hw2;obtain⟨c0,c1,f1⟩:=sc_cells HS.out;by_cases he:s.size=k
   ·have hmk:((s.size:Int)==(k:Int))=true:=(by rw[beq_iff_eq];omega);have hem:=Lib.hid he;clear he;go_wp2_with fail;exact⟨rfl,nameE_no (by rw[HZ.out,hem.out];simp) HO.out ⟨s.size,by omega,rfl⟩⟩
   ·have hmk:((s.size:Int)==(k:Int))=false:=(by rw[beq_eq_false_iff_ne];omega);have hlt2:k<s.size:=(by omega);have g1:(k:Int)≤(s.size:Int):=(by omega);clear he;go_wp2_with fail;go_quiet (fail);go_wp2_with fail;go_ret;have HB2:Below w2.heap.size w2 (w2.drewN nq):=hx_drewN (Below.refl _ _) _;exact nameE_yes hlt2 hm HZ.out (off_trans HO.out (off_below HB2)) rfl (sc_below HS.out HB2)
end ftw
namespace ftp
open flp atp
open b64p (valI)
def glue (ps:List T)(z:T)(qs:List T):List T:=ps++z.foldr consB qs
theorem glue_star (ps:List T)(z:T)(qs:List T):glue ps z ([]::qs)=glue (ps++[z]) [] qs:=by unfold glue;rw[fold_cons];simp
theorem glue_byte (ps:List T)(z:T)(b:UInt8)(qs:List T):glue ps z (consB b qs)=glue ps (z++[b]) qs:=by unfold glue;rw[List.foldr_append];rfl
theorem glue_end (ps:List T)(z:T):glue ps z [[]]=ps++[z]:=by unfold glue;rw[fold_cons];simp
def goP (st:Bool)(ps:List T)(z:T)(r:T):Option (List T × T):=(piecesP st r).map fun q=>(glue ps z q.1,q.2)
theorem goP_start (st:Bool)(r:T):goP st [] [] r=piecesP st r:=by unfold goP glue;cases piecesP st r<;>rfl
theorem goP_bad (st:Bool)(ps:List T)(z:T)(c:UInt8)(r:T)(h:c=40∨c=0):goP st ps z (c::r)=none:=by
 unfold goP;conv=>lhs;unfold piecesP
 rw[if_pos h];rfl
theorem goP_end (st:Bool)(ps:List T)(z r:T):goP st ps z (41::r)=some (ps++[z],41::r):=by
 unfold goP;conv=>lhs;unfold piecesP
 rw[if_neg (by decide),if_pos rfl];show some (glue ps z [[]],_)=_;rw[glue_end]
theorem goP_starno (ps:List T)(z r:T):goP false ps z (42::r)=none:=by
 unfold goP;conv=>lhs;unfold piecesP
 rw[if_neg (by decide),if_neg (by decide),if_pos rfl,if_neg (by decide)];rfl
theorem goP_star (ps:List T)(z r:T):goP true ps z (42::r)=goP true (ps++[z]) [] r:=by
 unfold goP;conv=>lhs;unfold piecesP
 rw[if_neg (by decide),if_neg (by decide),if_pos rfl,if_pos rfl,Option.map_map];congr 1;funext q;show(glue ps z ([]::q.1),q.2)=_;rw[glue_star]
def hexB (h l:UInt8):UInt8:=UInt8.ofNat (16*valI h+valI l).toNat
theorem goP_hex (st:Bool)(ps:List T)(z:T)(h l:UInt8)(r:T)(h1:0≤valI h)(h2:0≤valI l):goP st ps z (92::h::l::r)=goP st ps (z++[hexB h l]) r:=by
 unfold goP;conv=>lhs;unfold piecesP
 rw[if_neg (by decide),if_neg (by decide),if_neg (by decide),if_pos rfl];simp only;rw[if_neg (by omega),Option.map_map];congr 1;funext q;show(glue ps z (consB (hexB h l) q.1),q.2)=_;rw[glue_byte]
theorem goP_hexno (st:Bool)(ps:List T)(z:T)(r:T)(h: ∀a b u,r=a::b::u→valI a<0∨valI b<0):goP st ps z (92::r)=none:=by
 unfold goP;conv=>lhs;unfold piecesP
 rw[if_neg (by decide),if_neg (by decide),if_neg (by decide),if_pos rfl];split
 ·rename_i a b u;rw[if_pos (h a b u rfl)];rfl
 ·rfl
theorem goP_byte (st:Bool)(ps:List T)(z:T)(c:UInt8)(r:T)(h0:c≠0)(h1:c≠40)(h2:c≠41)(h3:c≠42)(h4:c≠92):goP st ps z (c::r)=goP st ps (z++[c]) r:=by
 unfold goP;conv=>lhs;unfold piecesP
 rw[if_neg (by simp[h0,h1]),if_neg h2,if_neg h3,if_neg h4,Option.map_map];congr 1;funext q;show(glue ps z (consB c q.1),q.2)=_;rw[glue_byte]
def goK (P:T→Option (Fl × T))(m:Nat)(Ks:List Fl)(r:T):Option (List Fl × T):=(kidsG P m r).map fun q=>(Ks++q.1,q.2)
theorem goK_start (P:T→Option (Fl × T))(m:Nat)(r:T):goK P m [] r=kidsG P m r:=by unfold goK;cases kidsG P m r<;>rfl
theorem goK_stop (P:T→Option (Fl × T))(m:Nat)(Ks:List Fl)(r:T)(h:r.head?≠some 40):goK P (m+1) Ks r=some (Ks,r):=by unfold goK kidsG;rw[if_neg h];simp
theorem goK_none (P:T→Option (Fl × T))(m:Nat)(Ks:List Fl)(r:T)(h:r.head?=some 40)(hp:P r=none):goK P (m+1) Ks r=none:=by unfold goK kidsG;rw[if_pos h,hp];rfl
theorem goK_some (P:T→Option (Fl × T))(m:Nat)(Ks:List Fl)(r:T)(h:r.head?=some 40)(k:Fl)(u:T)(hp:P r=some (k,u)):goK P (m+1) Ks r=goK P m (Ks++[k]) u:=by
 unfold goK;conv=>lhs;unfold kidsG
 rw[if_pos h,hp];simp only;rw[Option.map_map];congr 1;funext q;simp
end ftp
open Go.RowKit
namespace ftw
open ftp
open b64p (valI)
theorem sc_two {w:World}{p k:Nat}{s:ByteArray}(h:ScB w p s k):w.cell? ⟨p,0,none⟩=some (.string s)∧w.cell? ⟨p,1,none⟩=some (.int .i64 (k:Int)):=⟨(sc_cells h).1,(sc_cells h).2.1⟩
def ByteE (w:World)(p:Nat)(s:ByteArray)(k:Nat)(e:Ending)(w':World):Prop:=
 Off p w w'∧((∃h l u,rest s (k+1)=h::l::u∧0≤valI h∧0≤valI l∧e= .returned (.string (bb [hexB h l]))∧ScB w' p s (k+3))∨
  ((∀a b u,rest s (k+1)=a::b::u→valI a<0∨valI b<0)∧PanicE e))
theorem byteE_end {w w':World}{p k K i:Nat}{s:ByteArray}{e:Ending}(hK:K=k+1)(hi:i<2)(hl: ¬K+i<s.size)(ho:Off p w w')(he:PanicE e):ByteE w p s k e w':=by refine⟨ho,Or.inr ⟨fun a b u h=> ?_,he⟩⟩;have:=congrArg List.length h;rw[rest_len]at this;simp only[List.length_cons]at this;omega
theorem rest2 {s:ByteArray}{K:Nat}(h:K+1<s.size):rest s K=s[K]'(by omega)::s[K+1]::rest s (K+2):=by rw[rest_cons (show K<s.size by omega),rest_cons h]
theorem byteE_bad {w w':World}{p k K i:Nat}{s:ByteArray}{e:Ending}(hK:K=k+1)(hi:i<2)(hl:K+i<s.size)(hv:valI (s[K+i]'hl)<0)(ho:Off p w w')(he:PanicE e):ByteE w p s k e w':=by
 refine⟨ho,Or.inr ⟨fun a b u h=> ?_,he⟩⟩;subst hK;have hlen:=congrArg List.length h;rw[rest_len]at hlen;simp only[List.length_cons]at hlen;rw[rest2 (by omega)]at h;simp only[List.cons.injEq]at h;obtain⟨rfl,rfl,_⟩:=h;rcases(show i=0∨i=1 by omega)with rfl | rfl
 ·exact Or.inl hv
 ·exact Or.inr hv
theorem byteE_ok {w w':World}{p k K:Nat}{s:ByteArray}{e:Ending}(hK:K=k+1)(hl:K+1<s.size)(h1:0≤valI (s[K]'(by omega)))(h2:0≤valI (s[K+1]'hl))(ho:Off p w w')(he:e= .returned (.string (bb [hexB (s[K]'(by omega)) (s[K+1]'hl)])))(hs:ScB w' p s (K+2)):ByteE w p s k e w':=by subst hK;exact⟨ho,Or.inl ⟨_,_,_,rest2 hl,h1,h2,he,hs⟩⟩
theorem un_one (c:UInt8):b64p.unhex [48,c]=if valI c<0 then none else some [UInt8.ofNat (valI c).toNat]:=by
 have e:valI 48=0:=rfl;unfold b64p.unhex;rw[e];by_cases h:valI c<0
 ·rw[if_pos (Or.inr h),if_pos h]
 ·rw[if_neg (by omega),if_neg h];unfold b64p.unhex;simp
theorem un_two (a b:UInt8)(h1:0≤valI a)(h2:0≤valI b):b64p.unhex [a,b]=some [hexB a b]:=by unfold b64p.unhex;rw[if_neg (by omega)];unfold b64p.unhex;rfl
theorem ext1 {s:ByteArray}{m:Nat}(h:m<s.size):(s.extract m (m+1)).data.toList=[s[m]'h]:=by rw[Lib.extract_data];have e:s.data.toList[m]'(by rw[kt.size_len];exact h)=s[m]'h:=rfl;rw[←e,show m+1-m=1 from by omega];rw[List.drop_eq_getElem_cons (by rw[kt.size_len];exact h)];rfl
theorem ext2 {s:ByteArray}{m:Nat}(h:m+1<s.size):(s.extract m (m+2)).data.toList=[s[m]'(by omega),s[m+1]'h]:=by rw[Lib.extract_data];have e:s.data.toList[m]'(by rw[kt.size_len];omega)=s[m]'(by omega):=rfl;have e2:s.data.toList[m+1]'(by rw[kt.size_len];exact h)=s[m+1]'h:=rfl;rw[←e,←e2,show m+2-m=2 from by omega];rw[List.drop_eq_getElem_cons (by rw[kt.size_len];omega),List.drop_eq_getElem_cons (by rw[kt.size_len];exact h)];rfl
theorem digit_one (s:ByteArray)(m:Nat)(h:m<s.size)(X:ByteArray)(hX:X=(⟨#[48]⟩:ByteArray)++s.extract m (m+1))(W:World):
  Calls Try.prog 48 #[.string X] W fun e w'=>(∃y:ByteArray,e= .returned (.tuple #[.string y,.int .i64 (if valI (s[m]'h)<0 then 4 else 0)]))∧Below W.heap.size W w':=by
 have hd:X.data.toList=[48,s[m]'h]:=by
  rw[hX];have:((⟨#[48]⟩:ByteArray)++s.extract m (m+1)).data.toList=[48]++(s.extract m (m+1)).data.toList:=by simp
  rw[this,ext1 h];rfl
 refine(unhex_any X W (by rw[←kt.size_len,hd];simp)).mono ?_;rintro e w' ⟨he,hb⟩;refine⟨?_,hb⟩;rw[hd,un_one]at he;split at he
 ·rename_i hn;rw[if_pos hn];exact⟨_,he⟩
 ·rename_i hn;rw[if_neg hn];exact⟨_,he⟩
theorem digit_two (s:ByteArray)(m:Nat)(h:m+1<s.size)(h1:0≤valI (s[m]'(by omega)))(h2:0≤valI (s[m+1]'h))(W:World):
  Calls Try.prog 48 #[.string (s.extract m (m+2))] W fun e w'=>e= .returned (.tuple #[.string (bb [hexB (s[m]'(by omega)) (s[m+1]'h)]),.int .i64 0])∧Below W.heap.size W w':=by
 have hd:=ext2 h;refine(unhex_any _ W (by rw[←kt.size_len,hd];simp)).mono ?_;rintro e w' ⟨he,hb⟩;refine⟨?_,hb⟩;rw[hd,un_two _ _ h1 h2]at he;exact he
theorem byte_any (p:Nat)(s:ByteArray)(k:Nat)(w:World)(h:Hid (ScB w p s k))(hk:k<s.size)(hs:s.size≤1000000):
  Calls Try.prog 45 #[.pointer (some ⟨p,0,none⟩)] w (ByteE w p s k):=by
 obtain⟨c0,c1,f1⟩:=sc_cells h.out;have hone:(k:Int)+1≤9223372036854775807:=by omega
 have HS0:=Lib.hid (sc_inc h.out);have HO0:Hid (Off p w (w.setCell ⟨p,1,none⟩ (.int .i64 ((k:Int)+1)))):=off_set _ _ _ _;go_enter Try.func45,Try.ntmps45;go_wp2_with fail;generalize hw1:w.setCell ⟨p,1,none⟩ (.int .i64 ((k:Int)+1))=w1 at HS0 HO0 ⊢;obtain⟨K,hK⟩: ∃K,K=k+1:=⟨_,rfl⟩;have HS1:Hid (ScB w1 p s K):=by rw[hK];exact HS0.out
 have HK:=Lib.hid hK;have hKs:K≤s.size:=by omega
 clear HS0 hK hw1 c0 c1 f1 h hone;go_loopw [15] (fun iv wr=> ∃i:Nat,i≤2∧iv= .int .i64 (i:Int)∧Hid (∀j (hj:K+j<s.size),j<i→0≤valI (s[K+j]'hj))∧K+i≤s.size∧Hid (ScB wr p s K)∧Hid (Off p w wr)) (fun iv _=>2- (intOf iv).toNat);case atStart=>exact⟨0,by omega,rfl,fun j hj h=>by omega,by omega,HS1.out,HO0.out⟩
 case round=>
  obtain⟨i,hi,rfl,hA,hKi,hS,hO⟩:=hrel;obtain⟨c0,c1,f1⟩:=sc_cells hS.out;by_cases hlt:i<2
  ·have hlt':(i:Int)<2:=(by omega);by_cases hl:K+i<s.size
   ·have hl':(K:Int)+(i:Int)<(s.size:Int):=(by omega);obtain⟨X,hX⟩: ∃X:ByteArray,X=(⟨#[48]⟩:ByteArray)++s.extract (K+i) (K+i+1):=⟨_,rfl⟩;have hadd: ∀W,(Op.stringOp .add ⟨#[48]⟩ (s.extract (K+i) (K+i+1))).run Try.prog W= .ok (.string X) W:=fun W=>by rw[hX];exact run_string_add_sum W _ _ (by rw[ByteArray.size_extract];show 1+_≤9223372036854775807;omega)
    have HU:=Lib.hid (digit_one s (K+i) hl X hX);clear hX;obtain⟨n,hn⟩: ∃n:Int,n=(if valI (s[K+i]'hl)<0 then 4 else 0):=⟨_,rfl⟩;rw[←hn]at HU;have HV:Hid (n=(if valI (s[K+i]'hl)<0 then 4 else 0)):=hn;clear hn;go_wp2_with fail;go_quiet (fail);generalize hw2:wr.drewN nq=w2;have HB:Hid (Below wr.heap.size wr w2):=(by rw[←hw2];exact hx_drewN (Below.refl _ _) _);have HS:=Lib.hid (sc_below hS.out HB.out);have HO:=Lib.hid (off_trans hO.out (off_below HB.out));clear c0 c1 f1 hw2;obtain⟨c0,c1,f1⟩:=sc_cells HS.out;have f1:(0:Int)≤(K:Int)+(i:Int):=(by omega);have f2:(K:Int)+(i:Int)+1≤(s.size:Int):=(by omega);have f3:IntKind.i64.wrap ((K:Int)+(i:Int))=(K:Int)+(i:Int):=IntWalk.i64_in _ (by omega);have f4:IntKind.i64.wrap ((K:Int)+(i:Int)+1)=(K:Int)+(i:Int)+1:=IntWalk.i64_in _ (by omega);have f5:((K:Int)+(i:Int)).toNat=K+i:=(by omega);have f6:((K:Int)+(i:Int)+1).toNat=K+i+1:=(by omega);have f7:(K:Int)+(i:Int)≤(K:Int)+(i:Int)+1:=(by omega);have f8:(0:Int)≤(K:Int)+(i:Int)+1:=(by omega);go_wp2_with fail;go_region_held3 (fun W=>W.cell? ⟨p,0,none⟩=some (.string s)∧W.cell? ⟨p,1,none⟩=some (.int .i64 (K:Int))) (first
      | exact⟨c0,c1⟩
      | exact sc_two (sc_below (sc_drew HS.out) hB3))
     (first
      | (go_at_call 48;refine(HU.out _).mono ?_;rintro e w3 ⟨⟨y,rfl⟩,hB3⟩))
    have HS3:Hid (ScB w3 p s K):=sc_below (sc_drew HS.out) hB3;have HO3:Hid (Off p w w3):=off_trans HO.out (off_trans (off_below ((Below.refl _ _).drew)) (off_below hB3));clear hB3 c0 c1 f3 f4 f5 f6 f7 f8 f1 f2;obtain⟨c0,c1,f1⟩:=sc_cells HS3.out;by_cases hv:valI (s[K+i]'hl)<0
    ·have hn4:n=4:=(by rw[HV.out,if_pos hv]);subst hn4;have HVV:=Lib.hid hv;clear hv;have f3:IntKind.i64.wrap ((K:Int)+(i:Int))=(K:Int)+(i:Int):=IntWalk.i64_in _ (by omega);go_wp2_with fail;exact⟨rfl,byteE_bad HK.out hlt hl HVV.out HO3.out ⟨K+i,by omega,by simp⟩⟩
    ·have hn0:n=0:=(by rw[HV.out,if_neg hv]);subst hn0;have HVV:Hid (0≤valI (s[K+i]'hl)):=show 0≤valI (s[K+i]'hl)by omega
     clear hv;have HA:Hid (∀j (hj:K+j<s.size),j<i+1→0≤valI (s[K+j]'hj)):=by
      intro j hj hji;by_cases e:j=i
      ·subst e;exact HVV.out
      ·exact hA.out j hj (by omega)
     go_wp2_with fail;go_roundw;case rel=>exact⟨i+1,by omega,by go_num,HA.out,by omega,HS3.out,HO3.out⟩
     case measure=>simp[intOf];omega
   ·have hl': ¬ (K:Int)+(i:Int)<(s.size:Int):=(by omega);have HL:=Lib.hid hl;clear hl;go_wp2_with fail;go_quiet (fail);generalize hw2:wr.drewN nq=w2;have HB:Hid (Below wr.heap.size wr w2):=(by rw[←hw2];exact hx_drewN (Below.refl _ _) _);have HS:=Lib.hid (sc_below hS.out HB.out);have HO:=Lib.hid (off_trans hO.out (off_below HB.out));clear c0 c1 f1 hw2;obtain⟨c0,c1,f1⟩:=sc_cells HS.out;go_wp2_with fail;exact⟨rfl,byteE_end HK.out hlt HL.out HO.out ⟨s.size,by omega,rfl⟩⟩
  ·obtain rfl:i=2:=(by omega);have hl1:K+1<s.size:=(by omega);have h1:=hA.out 0 (by omega) (by omega);have h2:=hA.out 1 hl1 (by omega);have HD:=Lib.hid (digit_two s K hl1 h1 h2);have HF:Hid (∀e w',Off p w w'→e= .returned (.string (bb [hexB (s[K]'(by omega)) (s[K+1]'hl1)]))→ScB w' p s (K+2)→ByteE w p s k e w'):=fun e w' a b c=>byteE_ok HK.out hl1 h1 h2 a b c;generalize bb [hexB (s[K]'(by omega)) (s[K+1]'hl1)]=Y at HD HF;clear h1 h2 hA;have hl2:(K:Int)+2≤(s.size:Int):=(by omega);have f3:IntKind.i64.wrap ((K:Int)+2)=(K:Int)+2:=IntWalk.i64_in _ (by omega);have f5:((K:Int)+2).toNat=K+2:=(by omega);have f7:(K:Int)≤(K:Int)+2:=(by omega);go_wp2_with fail;go_region_held3 (fun W=>W.cell? ⟨p,0,none⟩=some (.string s)∧W.cell? ⟨p,1,none⟩=some (.int .i64 (K:Int))) (first
     | exact⟨c0,c1⟩
     | exact sc_two (sc_below (sc_drew hS.out) hB3))
    (first
     | (go_at_call 48;refine(HD.out _).mono ?_;rintro e w3 ⟨rfl,hB3⟩))
   have HS3:Hid (ScB w3 p s K):=sc_below (sc_drew hS.out) hB3;have HO3:Hid (Off p w w3):=off_trans hO.out (off_trans (off_below ((Below.refl _ _).drew)) (off_below hB3));clear hB3 c0 c1 f1;obtain⟨c0,c1,f1⟩:=sc_cells HS3.out;go_wp2_with fail;go_ret;exact HF.out _ _ (off_trans HO3.out (off_set _ _ _ _)) rfl (by have:=sc_set HS3.out (K+2);simpa using this)
end ftw
open Go.RowKit
namespace ftw
open ftp
open Go.Maps
theorem kindsK:Keyed Try.prog 5:=int_keyed Try.underlying5
theorem kindsZ (w:World):(zeroValue 3).run Try.prog w= .ok (.int .i64 0) w:=by kernel_rfl
abbrev ki (n:Int):DataW Unit:= .lit (.int .i64 n)
def kindsD:DataW Unit:=(((DataW.map []).put (.int .u8 62) (ki 5)).put (.int .u8 60) (ki 6)).put (.int .u8 126) (ki 8)
theorem kindsD_eq:kindsD= .map [(.int .u8 60,ki 6),(.int .u8 62,ki 5),(.int .u8 126,ki 8)]:=by rfl
theorem ownsMap_block {w w':World}{P:Program}{k:TypeId}{R:Value→Option (DataW Unit × List MemPlace)}{b n:Nat}{D:DataW Unit}(h:w.ownsMap P k R b n D)(hb:w'.heap[b]? =w.heap[b]?):w'.ownsMap P k R b n D:=by obtain⟨es,clock,h1,h2⟩:=h;exact⟨es,clock,hb.trans h1,h2⟩
theorem ownsMap_lt {w:World}{P:Program}{k:TypeId}{R:Value→Option (DataW Unit × List MemPlace)}{b n:Nat}{D:DataW Unit}(h:w.ownsMap P k R b n D):b<w.heap.size:=by obtain⟨es,clock,h1,h2⟩:=h;exact kt.bld_lt h1
theorem kinds_made (w:World): ∃w1 w2 w3,(Instr.mapUpdate 69 (.map (some w.heap.size)) (.int .u8 62) (.int .i64 5)).run Try.prog (w.alloc (.map #[] 0))= .ok () w1∧
  (Instr.mapUpdate 69 (.map (some w.heap.size)) (.int .u8 60) (.int .i64 6)).run Try.prog w1= .ok () w2∧
  (Instr.mapUpdate 69 (.map (some w.heap.size)) (.int .u8 126) (.int .i64 8)).run Try.prog w2= .ok () w3∧
  w3.ownsMap Try.prog 5 (plainElem Try.prog 3) w.heap.size 3 kindsD∧Below w.heap.size w w3:=by
 have h0:(w.alloc (.map #[] 0)).ownsMap Try.prog 5 (plainElem (H:=Unit) Try.prog 3) w.heap.size 0 (.map []):=World.ownsMap_made _ _ _ _;obtain⟨w1,r1,h1,g1⟩:=h0.update kindsK Try.underlying69 (by unfold maxLen;omega) (keyOf_int_mk Try.underlying5 (q:= .u8) (a:=62) (by decide)) (plainElem_int Try.underlying3 (q:= .i64) (a:=5) (by decide));obtain⟨w2,r2,h2,g2⟩:=h1.update kindsK Try.underlying69 (by unfold maxLen;omega) (keyOf_int_mk Try.underlying5 (q:= .u8) (a:=60) (by decide)) (plainElem_int Try.underlying3 (q:= .i64) (a:=6) (by decide));obtain⟨w3,r3,h3,g3⟩:=h2.update kindsK Try.underlying69 (by unfold maxLen;omega) (keyOf_int_mk Try.underlying5 (q:= .u8) (a:=126) (by decide)) (plainElem_int Try.underlying3 (q:= .i64) (a:=8) (by decide));have hB:Below w.heap.size w (w.alloc (.map #[] 0)):=(Below.refl _ _).alloc (Nat.le_refl _) _;have hr: ∀k,some w.heap.size=some k→w.heap.size≤k:=fun k hk=>by cases hk;exact Nat.le_refl _
 have hB1:=hB.grown g1 hB.size hr;have hB2:=hB1.grown g2 hB1.size hr;have hB3:=hB2.grown g3 hB2.size hr;exact⟨w1,w2,w3,r1,r2,r3,h3,hB3⟩
def isSign (c:Int):Bool:=decide (c=62)||decide (c=60)||decide (c=126)
def signK (c:Int):Int:=if c=62 then 5 else if c=60 then 6 else if c=126 then 8 else 0
theorem kinds_has (c:Int)(h0:0≤c)(h1:c<256):Maps.has kindsD (.int .u8 c)=isSign c:=by
 rw[kindsD_eq];obtain⟨n,rfl⟩:=Int.eq_ofNat_of_zero_le h0;have all: ∀m:Fin 256,Maps.has (DataW.map [(.int .u8 60,ki 6),(.int .u8 62,ki 5),(.int .u8 126,ki 8)]) (.int .u8 (m.val:Int))=isSign (m.val:Int):=by decide+kernel
 exact all ⟨n,by omega⟩
theorem kinds_at (c v:Int)(h0:0≤c)(h1:c<256)(h:kindsD.atKey (.int .u8 c) (ki 0)=ki v):v=signK c:=by
 rw[kindsD_eq]at h;obtain⟨n,rfl⟩:=Int.eq_ofNat_of_zero_le h0;have all: ∀m:Fin 256,(match(DataW.map [(.int .u8 60,ki 6),(.int .u8 62,ki 5),(.int .u8 126,ki 8)]).atKey (.int .u8 (m.val:Int)) (ki 0)with | .lit (.int .i64 x)=>decide (x=signK (m.val:Int)) | _=>false)=true:=by decide+kernel
 have:=all ⟨n,by omega⟩;simp only at this;rw[h]at this;exact of_decide_eq_true this
theorem kindP_62 {s:ByteArray}{k:Nat}(h:k<s.size)(hc:s[k]=62):kindP (rest s k)=(5,rest s (k+1)):=by rw[rest_cons h,hc];rfl
theorem kindP_60 {s:ByteArray}{k:Nat}(h:k<s.size)(hc:s[k]=60):kindP (rest s k)=(6,rest s (k+1)):=by rw[rest_cons h,hc];rfl
theorem kindP_126 {s:ByteArray}{k:Nat}(h:k<s.size)(hc:s[k]=126):kindP (rest s k)=(8,rest s (k+1)):=by rw[rest_cons h,hc];rfl
theorem kindP_no {s:ByteArray}{k:Nat}(h:isSign (nextI s k)=false):kindP (rest s k)=(3,rest s k):=by
 unfold nextI at h;unfold kindP;split
 ·rename_i r hr;exfalso;have hk:k<s.size:=by have:=congrArg List.length hr;rw[rest_len]at this;simp only[List.length_cons]at this;omega
  rw[rest_cons hk]at hr;simp only[List.cons.injEq]at hr;rw[dif_pos hk,hr.1]at h;exact absurd h (by decide)
 ·rename_i r hr;exfalso;have hk:k<s.size:=by have:=congrArg List.length hr;rw[rest_len]at this;simp only[List.length_cons]at this;omega
  rw[rest_cons hk]at hr;simp only[List.cons.injEq]at hr;rw[dif_pos hk,hr.1]at h;exact absurd h (by decide)
 ·rename_i r hr;exfalso;have hk:k<s.size:=by have:=congrArg List.length hr;rw[rest_len]at this;simp only[List.length_cons]at this;omega
  rw[rest_cons hk]at hr;simp only[List.cons.injEq]at hr;rw[dif_pos hk,hr.1]at h;exact absurd h (by decide)
 ·rfl
theorem kindP_yes {s:ByteArray}{k:Nat}(h:isSign (nextI s k)=true):k<s.size∧kindP (rest s k)=(signK (nextI s k),rest s (k+1)):=by
 unfold nextI at h ⊢;by_cases hk:k<s.size
 ·rw[dif_pos hk]at h ⊢;refine⟨hk,?_⟩;unfold isSign at h;simp only[Bool.or_eq_true,decide_eq_true_iff]at h;have e: ∀n:UInt8,((s[k]'hk).toNat:Int)=(n.toNat:Int)→s[k]'hk=n:=fun n h=>UInt8.toNat_inj.1 (by omega);rcases h with(h | h) | h
  ·rw[h];exact kindP_62 hk (e 62 h)
  ·rw[h];exact kindP_60 hk (e 60 h)
  ·rw[h];exact kindP_126 hk (e 126 h)
 ·rw[dif_neg hk]at h;exact absurd h (by decide)
theorem nextI_le (s:ByteArray)(k:Nat):0≤nextI s k∧nextI s k<256:=by
 unfold nextI;split
 ·rename_i h;have:=(s[k]'h).toNat_lt;omega
 ·omega
def KindE (w:World)(p:Nat)(s:ByteArray)(k:Nat)(e:Ending)(w':World):Prop:=
 Off p w w'∧ ∃ (kd:Int) (K:Nat),K≤s.size∧kindP (rest s k)=(kd,rest s K)∧
  ((∃h:K<s.size,s[K]=61∧e= .returned (.int .i64 kd)∧ScB w' p s (K+1))∨((∀h:K<s.size,s[K]≠61)∧PanicE e))
def TakeE (w:World)(p:Nat)(s:ByteArray)(k:Nat)(c:UInt8)(e:Ending)(w':World):Prop:=Off p w w'∧((∃h:k<s.size,s[k]=c∧e= .returned (.tuple #[])∧ScB w' p s (k+1))∨((∀h:k<s.size,s[k]≠c)∧PanicE e))
theorem take_any (p:Nat)(s:ByteArray)(k:Nat)(c:UInt8)(w:World)(h:Hid (ScB w p s k))(hk:k≤s.size)(hs:s.size≤1000000):
  Calls Try.prog 25 #[.pointer (some ⟨p,0,none⟩),.int .u8 (c.toNat:Int)] w (TakeE w p s k c):=by
 by_cases hc: ∃h:k<s.size,s[k]=c
 ·obtain⟨hlt,he⟩:=hc;refine(take_ok p s k c w h hlt he hs).mono ?_;rintro e w' ⟨h1,h2,h3⟩;exact⟨h2,Or.inl ⟨hlt,he,h1,h3⟩⟩
 ·refine(take_no p s k c w h hk (fun hlt he=>hc ⟨hlt,he⟩) hs).mono ?_;rintro e w' ⟨h1,h2⟩;exact⟨off_below h2,Or.inr ⟨fun hlt he=>hc ⟨hlt,he⟩,h1⟩⟩
theorem kind_any (p:Nat)(s:ByteArray)(k:Nat)(w:World)(h:Hid (ScB w p s k))(hk:k≤s.size)(hs:s.size≤1000000):
  Calls Try.prog 35 #[.pointer (some ⟨p,0,none⟩)] w (KindE w p s k):=by
 have hmm:= @run_makeMap Try.prog;obtain⟨w1,w2,w3,r1,r2,r3,hown,hB⟩:=kinds_made w;have HOW:=Lib.hid hown;have HB:=Lib.hid hB;have HN:=Lib.hid (next_any p s k w3 (Lib.hid (sc_below h.out hB)) hk);have hcn:=nextI_le s k;have HY:=Lib.hid (fun h=> @kindP_yes s k h);have HZ:=Lib.hid (fun h=> @kindP_no s k h);obtain⟨c,hc⟩: ∃c,nextI s k=c:=⟨_,rfl⟩;rw[hc]at HN hcn HY HZ;have hkey:=keyOf_int_mk Try.underlying5 (q:= .u8) (a:=c) (by simp[Lit.wf,IntKind.min,IntKind.max,IntKind.bits,IntKind.signed];omega);have HH:=Lib.hid (kinds_has c hcn.1 hcn.2);have HA:=Lib.hid (fun v=>kinds_at c v hcn.1 hcn.2);clear hown hB hc hcn;go_enter Try.func35,Try.ntmps35;go_wp2_with fail;refine HN.out.mono ?_;rintro e w4 ⟨rfl,hB4⟩;have HS4:Hid (ScB w4 p s k):=sc_below (sc_below h.out HB.out) hB4;have HO4:Hid (Off p w w4):=off_below (HB.out.trans (hB4.mono HB.out.size));have hown4:=ownsMap_block HOW.out (hB4.block _ (ownsMap_lt HOW.out));clear hmm r1 r2 r3 hB4;obtain⟨c0,c1,f1⟩:=sc_cells HS4.out;go_wp2_with (at_lookup;refine wpList_lookup_own_ok_int _ rfl _ _ 69 rfl 5 3 .i64 kindsK Try.underlying69 Try.underlying3 (kindsZ _) _ _ _ rfl hown4 _ _ rfl hkey ?_;intro v hat hwv)
 ·have hh:Maps.has kindsD (.int .u8 c)=true:=by assumption
  have hs1:isSign c=true:=by rw[←HH.out];exact hh
  obtain⟨hks,hkp⟩:=HY.out hs1;have hv:=HA.out v hat;have HP:Hid (kindP (rest s k)=(v,rest s (k+1))):=by rw[hv];exact hkp
  have HK:Hid (k+1≤s.size):=hks;clear hv hkp hs1 hat hks;refine(take_any p s (k+1) 61 _ (Lib.hid (sc_inc HS4.out)) HK.out hs).mono ?_;rintro e w5 ⟨hO5,hE⟩;rcases hE with⟨hl,he,rfl,hS5⟩ | ⟨hno,hP⟩
  ·go_wp2_with fail;go_ret;exact⟨off_trans (off_trans HO4.out (off_set _ _ _ _)) hO5,v,(k+1),HK.out,HP.out,Or.inl ⟨hl,he,rfl,hS5⟩⟩
  ·obtain⟨j,hj,rfl⟩:=hP;exact⟨rfl,off_trans (off_trans HO4.out (off_set _ _ _ _)) hO5,v,(k+1),HK.out,HP.out,Or.inr ⟨hno,j,hj,rfl⟩⟩
 ·have hh:Maps.has kindsD (.int .u8 c)=false:=by assumption
  have HP:Hid (kindP (rest s k)=(3,rest s k)):=HZ.out (by rw[←HH.out];exact hh);have HK:=Lib.hid hk;clear hat;refine(take_any p s k 61 _ (Lib.hid HS4.out) HK.out hs).mono ?_;rintro e w5 ⟨hO5,hE⟩;rcases hE with⟨hl,he,rfl,hS5⟩ | ⟨hno,hP⟩
  ·go_wp2_with fail;go_ret;exact⟨off_trans HO4.out hO5,3,k,HK.out,HP.out,Or.inl ⟨hl,he,rfl,hS5⟩⟩
  ·obtain⟨j,hj,rfl⟩:=hP;exact⟨rfl,off_trans HO4.out hO5,3,k,HK.out,HP.out,Or.inr ⟨hno,j,hj,rfl⟩⟩
end ftw
open Go.RowKit
namespace ftw
open ftp
open etw (tk)
open b64p (valI)
theorem row_same {w w':World}{B:Nat}{e:TypeId}{sz:Nat}{v:Value}{n:Nat}{xs:List Value}(h:w.ownsRow B e sz v n xs)(hb: ∀k,v.ownBlock=some k→w'.heap[k]? =w.heap[k]?):w'.ownsRow B e sz v n xs:=by
 refine⟨h.1,?_⟩;rcases h.2 with h0 | ⟨g,cap,cur,hv,hBg,hg,h1,h2,h3,h4⟩
 ·exact Or.inl h0
 ·exact Or.inr ⟨g,cap,cur,hv,hBg,(hb g (by rw[hv];rfl)).trans hg,h1,h2,h3,h4⟩
theorem ownT_off {w w':World}{B p:Nat}{v:Value}{l:List ByteArray}(h:prw.OwnT w B v l)(hp:p<B)(ho:Off p w w'):prw.OwnT w' B v l:=by have h2:w.ownsRow B 9 1 v (prw.scells l).length (prw.scells l):=h;exact row_same h2 fun k hk=>ho.block k (h2.lt k hk).2 (by have:=(h2.lt k hk).1;omega)
theorem ownT_sc {w:World}{B p i:Nat}{v u:Value}{l:List ByteArray}(h:prw.OwnT w B v l)(hp:p<B):prw.OwnT (w.setCell ⟨p,i,none⟩ u) B v l:=ownT_off h hp (off_set _ _ _ _)
theorem sc_other {w:World}{p k g i:Nat}{s:ByteArray}{u:Value}(h:ScB w p s k)(hg:p≠g):ScB (w.setCell ⟨g,i,none⟩ u) p s k:=(Below.heap_setCell _ _ _ _ hg).trans h
theorem ownT_last {w:World}{B n cap:Nat}{ao:Option Addr}{l:List ByteArray}(h:prw.OwnT w B (.slice ao n cap) l)(hn:n=l.length)(j:Nat)(hj:j<l.length): ∃g,ao=some ⟨g,0,none⟩∧B≤g∧n≤cap∧w.cell? ⟨g,j,none⟩=some (.string l[j])∧w.frozen? ⟨g,j,none⟩=false:=by
 have h2:w.ownsRow B 9 1 (.slice ao n cap) n (prw.scells l):=by have:=h;unfold prw.OwnT at this;rw[prw.scells_length,←hn]at this;exact this
 obtain⟨g,rfl,hc,hB⟩:=kt.row_some h2 (by omega);obtain⟨ao',cap',hv,hcc,_⟩:=prw.ownT_cells h;simp only[Value.slice.injEq]at hv;refine⟨g,rfl,hB,by omega,hc j _ (by simp[prw.scells,hj]),?_⟩;exact h2.frozenAt j
theorem ownT_put {w:World}{B n cap g:Nat}{l:List ByteArray}(h:prw.OwnT w B (.slice (some ⟨g,0,none⟩) n cap) l)(j:Nat)(x:ByteArray):prw.OwnT (w.setCell ⟨g,j,none⟩ (.string x)) B (.slice (some ⟨g,0,none⟩) n cap) (l.set j x):=by
 unfold prw.OwnT at h ⊢;rw[prw.scells_length]at h ⊢;obtain⟨ao',cap',hv,hcc,_⟩:=prw.ownT_cells (show prw.OwnT w B (.slice (some ⟨g,0,none⟩) n cap) l by unfold prw.OwnT;rw[prw.scells_length];exact h);simp only[Value.slice.injEq]at hv;rw[List.length_set];have e:prw.scells (l.set j x)=(prw.scells l).set j (.string x):=by unfold prw.scells;rw[List.map_set]
 rw[e];obtain⟨_,rfl,rfl⟩:=hv;exact(h.stored j (.string x)).1
theorem ownT_one (w:World)(x:ByteArray):prw.OwnT (w.alloc (.cells #[.string x] 9)) w.heap.size (.slice (some ⟨w.heap.size,0,none⟩) 1 1) [x]:=⟨rfl,Or.inr ⟨w.heap.size,1,#[.string x],rfl,Nat.le_refl _,heap_alloc_new w _,Nat.le_refl _,by unfold maxLen;omega,rfl,rfl⟩⟩
theorem set_last (ps:List T)(z y:T):((ps++[z]).map bb).set ps.length (bb y)=(ps++[y]).map bb:=by rw[←List.map_set,List.set_append_right _ _ (Nat.le_refl _),Nat.sub_self];rfl
theorem bb_app (z:T)(c:UInt8):bb (z++[c])=bb z++⟨#[c]⟩:=by
 refine kt.str_eq ?_;have:(bb z++(⟨#[c]⟩:ByteArray)).data.toList=(bb z).data.toList++[c]:=by simp
 rw[this];unfold bb;simp
theorem bb_size' (l:T):(bb l).size=l.length:=by unfold bb;show l.toArray.size=_;simp
theorem off_new {p g i:Nat}{w w1:World}{u:Value}(h:Off p w w1)(hg:w.heap.size≤g):Off p w (w1.setCell ⟨g,i,none⟩ u):=⟨h.os,h.tape,h.output,Nat.le_trans h.size (by simp[World.setCell]),fun k hk hp=>(Below.heap_setCell _ _ _ _ (by show k≠g;omega)).trans (h.block k hk hp)⟩
theorem ms_lt {a b m m' S:Nat}(h1:a=m)(h2:b=m')(h:m<S)(h3:m<m'):S-b<S-a:=by omega
theorem hex_rest {s:ByteArray}{m:Nat}{a b:UInt8}{u:T}(h:rest s (m+1)=a::b::u):u=rest s (m+3):=by have e:=rest_drop s (m+1) 2;rw[h]at e;exact e
theorem byte_ok (p:Nat)(s:ByteArray)(m:Nat)(a b:UInt8)(u:T)(w:World)(h:Hid (ScB w p s m))(hk:m<s.size)(hs:s.size≤1000000)(hr:rest s (m+1)=a::b::u)(h1:0≤valI a)(h2:0≤valI b):
  Calls Try.prog 45 #[.pointer (some ⟨p,0,none⟩)] w fun e w'=>e= .returned (.string ⟨#[hexB a b]⟩)∧Off p w w'∧ScB w' p s (m+3):=by
 refine(byte_any p s m w h hk hs).mono ?_;rintro e w' ⟨ho,hE⟩;rcases hE with⟨a',b',u',hr',_,_,he,hS⟩ | ⟨hno,_⟩
 ·rw[hr]at hr';simp only[List.cons.injEq]at hr';obtain⟨rfl,rfl,rfl⟩:=hr';exact⟨he,ho,hS⟩
 ·exfalso;have:=hno a b u hr;omega
theorem byte_no (p:Nat)(s:ByteArray)(m:Nat)(w:World)(h:Hid (ScB w p s m))(hk:m<s.size)(hs:s.size≤1000000)(hr: ∀a b u,rest s (m+1)=a::b::u→valI a<0∨valI b<0):
  Calls Try.prog 45 #[.pointer (some ⟨p,0,none⟩)] w fun e w'=>PanicE e∧Off p w w':=by
 refine(byte_any p s m w h hk hs).mono ?_;rintro e w' ⟨ho,hE⟩;rcases hE with⟨a,b,u,hr',h1,h2,he,hS⟩ | ⟨_,hP⟩
 ·exfalso;have:=hr a b u hr';omega
 ·exact⟨hP,ho⟩
def PiecesO (w:World)(p:Nat)(s:ByteArray)(O:Option (List T × T))(e:Ending)(w':World):Prop:=
 Off p w w'∧match O with
  | none=>PanicE e
  | some q=> ∃ao cap K,e= .returned (.slice ao q.1.length cap)∧prw.OwnT w' w.heap.size (.slice ao q.1.length cap) (q.1.map bb)∧K≤s.size∧q.2=rest s K∧ScB w' p s K
theorem pcO_none {w w':World}{p:Nat}{s:ByteArray}{O:Option (List T × T)}{e:Ending}(h:O=none)(ho:Off p w w')(he:PanicE e):PiecesO w p s O e w':=by rw[h];exact⟨ho,he⟩
theorem pcO_some {w w':World}{p K n cap:Nat}{s:ByteArray}{O:Option (List T × T)}{e:Ending}{ao:Option Addr}{ps:List T}{z:T}(h:O=some (ps++[z],rest s K))(ho:Off p w w')(he:e= .returned (.slice ao n cap))(hn:n=((ps++[z]).map bb).length)(hT:prw.OwnT w' w.heap.size (.slice ao n cap) ((ps++[z]).map bb))(hK:K≤s.size)(hS:ScB w' p s K):PiecesO w p s O e w':=by rw[h];rw[List.length_map]at hn;subst hn;exact⟨ho,ao,cap,K,he,hT,hK,rfl,hS⟩
theorem pieces_any (p:Nat)(s:ByteArray)(k:Nat)(st:Bool)(w:World)(h:Hid (ScB w p s k))(hk:k≤s.size)(hs:s.size≤1000000):
  Calls Try.prog 36 #[.pointer (some ⟨p,0,none⟩),.bool st] w (PiecesO w p s (piecesP st (rest s k))):=by
 obtain⟨O,hO⟩: ∃O,piecesP st (rest s k)=O:=⟨_,rfl⟩;have HG0:Hid (goP st [] [] (rest s k)=O):=by rw[←hO];exact goP_start st _
 rw[hO];clear hO;have hpB:=sc_lt h.out;have hBA:Below w.heap.size w (w.alloc (.cells #[.string ⟨#[]⟩] 9)):=(Below.refl _ _).alloc (Nat.le_refl _) _;have HS0:=Lib.hid (sc_below h.out hBA);have HO0:Hid (Off p w (w.alloc (.cells #[.string ⟨#[]⟩] 9))):=off_below hBA;have HL0:=Lib.hid (ownT_one w ⟨#[]⟩);clear hBA;go_enter Try.func36,Try.ntmps36;go_wp2_with fail;go_loopw [5] (fun lv wr=> ∃ (m:Nat) (ps:List T) (z:T),m≤s.size∧Hid (goP st ps z (rest s m)=O)∧ps.length≤m∧z.length≤m∧Hid (prw.OwnT wr w.heap.size lv ((ps++[z]).map bb))∧Hid (ScB wr p s m)∧Hid (Off p w wr)) (fun _ wr=>s.size-atOf wr p);case atStart=>exact⟨k,[],[],hk,HG0.out,Nat.zero_le _,Nat.zero_le _,HL0.out,HS0.out,HO0.out⟩
 case round=>
  obtain⟨m,ps,z,hm,hG,hps,hz,hL,hS,hO⟩:=hrel;obtain⟨c0,c1,f1⟩:=sc_cells hS.out;have HN:=Lib.hid (next_any p s m wr (Lib.hid hS.out) hm);obtain⟨ao,n,cap,rfl,hn⟩:=dnw.ownT_form hL.out;by_cases hlt:m<s.size
  ·obtain⟨c,hc⟩: ∃c,s[m]'hlt=c:=⟨_,rfl⟩;have hcI:nextI s m=(c.toNat:Int):=(by unfold nextI;rw[dif_pos hlt,hc]);have hrest:rest s m=c::rest s (m+1):=(by rw[rest_cons hlt,hc]);rw[hcI]at HN;rw[hrest]at hG;have hrest2:=Lib.hid hrest;have hge:decide (s.size≤m)=false:=decide_eq_false (by omega);have hlt':(m:Int)<(s.size:Int):=(by omega);clear hcI hrest;by_cases hcc:c=40
   ·subst hcc;have HOE:Hid (O=none):=(by rw[←hG.out];exact goP_bad _ _ _ _ _ (Or.inl rfl));rw[show(((40:UInt8)).toNat:Int)=40 from rfl]at HN;clear hG hc;go_wp2_with fail;refine HN.out.mono ?_;rintro e w2 ⟨rfl,hB2⟩;have HS2:=Lib.hid (sc_below hS.out hB2);have HO2:=Lib.hid (off_trans hO.out (off_below hB2));have HL2:=Lib.hid (dnw.ownT_below hL.out hB2);clear hB2 c0 c1 f1 HN;obtain⟨c0,c1,f1⟩:=sc_cells HS2.out;go_wp2_with fail;go_quiet (fail);generalize hw3:w2.drewN nq=w3;have HB:Hid (Below w2.heap.size w2 w3):=(by rw[←hw3];exact hx_drewN (Below.refl _ _) _);have HS3:=Lib.hid (sc_below HS2.out HB.out);have HO3:=Lib.hid (off_trans HO2.out (off_below HB.out));have HL3:=Lib.hid (dnw.ownT_below HL2.out HB.out);clear c0 c1 f1 hw3 HB HL2 HO2 HS2;obtain⟨c0,c1,f1⟩:=sc_cells HS3.out;go_wp2_with fail;exact⟨rfl,pcO_none HOE.out HO3.out ⟨m,by omega,rfl⟩⟩
   by_cases hcc0:c=0
   ·subst hcc0;clear hcc;have HOE:Hid (O=none):=(by rw[←hG.out];exact goP_bad _ _ _ _ _ (Or.inr rfl));rw[show(((0:UInt8)).toNat:Int)=0 from rfl]at HN;clear hG hc;go_wp2_with fail;refine HN.out.mono ?_;rintro e w2 ⟨rfl,hB2⟩;have HS2:=Lib.hid (sc_below hS.out hB2);have HO2:=Lib.hid (off_trans hO.out (off_below hB2));have HL2:=Lib.hid (dnw.ownT_below hL.out hB2);clear hB2 c0 c1 f1 HN;obtain⟨c0,c1,f1⟩:=sc_cells HS2.out;go_wp2_with fail;go_quiet (fail);generalize hw3:w2.drewN nq=w3;have HB:Hid (Below w2.heap.size w2 w3):=(by rw[←hw3];exact hx_drewN (Below.refl _ _) _);have HS3:=Lib.hid (sc_below HS2.out HB.out);have HO3:=Lib.hid (off_trans HO2.out (off_below HB.out));have HL3:=Lib.hid (dnw.ownT_below HL2.out HB.out);clear c0 c1 f1 hw3 HB HL2 HO2 HS2;obtain⟨c0,c1,f1⟩:=sc_cells HS3.out;go_wp2_with fail;exact⟨rfl,pcO_none HOE.out HO3.out ⟨m,by omega,rfl⟩⟩
   by_cases hcc1:c=41
   ·subst hcc1;clear hcc hcc0;have HOE:Hid (O=some (ps++[z],rest s m)):=(by rw[←hG.out,hrest2.out];exact goP_end _ _ _ _);rw[show(((41:UInt8)).toNat:Int)=41 from rfl]at HN;clear hG hc;go_wp2_with fail;refine HN.out.mono ?_;rintro e w2 ⟨rfl,hB2⟩;have HS2:=Lib.hid (sc_below hS.out hB2);have HO2:=Lib.hid (off_trans hO.out (off_below hB2));have HL2:=Lib.hid (dnw.ownT_below hL.out hB2);clear hB2 c0 c1 f1 HN;obtain⟨c0,c1,f1⟩:=sc_cells HS2.out;go_wp2_with fail;go_quiet (fail);generalize hw3:w2.drewN nq=w3;have HB:Hid (Below w2.heap.size w2 w3):=(by rw[←hw3];exact hx_drewN (Below.refl _ _) _);have HS3:=Lib.hid (sc_below HS2.out HB.out);have HO3:=Lib.hid (off_trans HO2.out (off_below HB.out));have HL3:=Lib.hid (dnw.ownT_below HL2.out HB.out);clear c0 c1 f1 hw3 HB HL2 HO2 HS2;obtain⟨c0,c1,f1⟩:=sc_cells HS3.out;go_wp2_with fail;go_ret;exact pcO_some HOE.out HO3.out rfl hn.out HL3.out hm HS3.out
   by_cases hcc2:c=42
   ·subst hcc2;clear hcc hcc0 hcc1;rw[show(((42:UInt8)).toNat:Int)=42 from rfl]at HN;cases st with
    | false=>have HOE:Hid (O=none):=(by rw[←hG.out];exact goP_starno _ _ _);clear hG hc;go_wp2_with fail;refine HN.out.mono ?_;rintro e w2 ⟨rfl,hB2⟩;have HS2:=Lib.hid (sc_below hS.out hB2);have HO2:=Lib.hid (off_trans hO.out (off_below hB2));have HL2:=Lib.hid (dnw.ownT_below hL.out hB2);clear hB2 c0 c1 f1 HN;obtain⟨c0,c1,f1⟩:=sc_cells HS2.out;go_wp2_with fail;go_quiet (fail);generalize hw3:w2.drewN nq=w3;have HB:Hid (Below w2.heap.size w2 w3):=(by rw[←hw3];exact hx_drewN (Below.refl _ _) _);have HS3:=Lib.hid (sc_below HS2.out HB.out);have HO3:=Lib.hid (off_trans HO2.out (off_below HB.out));have HL3:=Lib.hid (dnw.ownT_below HL2.out HB.out);clear c0 c1 f1 hw3 HB HL2 HO2 HS2;obtain⟨c0,c1,f1⟩:=sc_cells HS3.out;go_wp2_with fail;exact⟨rfl,pcO_none HOE.out HO3.out ⟨m,by omega,rfl⟩⟩
    | true=>
     have HG1:Hid (goP true (ps++[z]) [] (rest s (m+1))=O):=(by rw[←hG.out];exact(goP_star _ _ _).symm);clear hG hc;go_wp2_with fail;refine HN.out.mono ?_;rintro e w2 ⟨rfl,hB2⟩;have HS2:=Lib.hid (sc_below hS.out hB2);have HO2:=Lib.hid (off_trans hO.out (off_below hB2));have HL2:=Lib.hid (dnw.ownT_below hL.out hB2);clear hB2 c0 c1 f1 HN;obtain⟨c0,c1,f1⟩:=sc_cells HS2.out;go_wp2_with fail;go_quiet (fail);generalize hw3:w2.drewN nq=w3;have HB:Hid (Below w2.heap.size w2 w3):=(by rw[←hw3];exact hx_drewN (Below.refl _ _) _);have HS3:=Lib.hid (sc_below HS2.out HB.out);have HO3:=Lib.hid (off_trans HO2.out (off_below HB.out));have HL3:=Lib.hid (dnw.ownT_below HL2.out HB.out);clear c0 c1 f1 hw3 HB HL2 HO2 HS2;obtain⟨c0,c1,f1⟩:=sc_cells HS3.out;have hwb:w.heap.size≤w3.heap.size:=HO3.out.size;obtain⟨ao',n',cap',w4,hap,hT4,_,hB4⟩:=dnw.ownT_appG ⟨#[]⟩ HL3.out (by rw[List.length_map,List.length_append,List.length_singleton];omega) hwb;have HL4:Hid (prw.OwnT w4 w.heap.size (.slice ao' n' cap') (((ps++[z])++[[]]).map bb)):=(by have e:((ps++[z])++[[]]).map bb=(ps++[z]).map bb++[(⟨#[]⟩:ByteArray)]:=(by simp[bb]);rw[e];exact hT4);have HS4:Hid (ScB w4 p s m):=(hB4.block p hpB).trans HS3.out;have HO4:Hid (Off p w w4):=off_old HO3.out hB4 hpB;have hone:(m:Int)+1≤9223372036854775807:=(by omega);clear hT4 hB4 c0 c1 f1 hwb;obtain⟨c0,c1,f1⟩:=sc_cells HS4.out;go_wp2_with (at_builtin;refine Lib.wpList_append_run _ rfl _ _ _ _ rfl _ _ rfl rfl _ _ hap ?_);go_roundw;case rel=>exact⟨m+1,ps++[z],[],by omega,HG1.out,by rw[List.length_append,List.length_singleton];omega,Nat.zero_le _,ownT_sc HL4.out hpB,sc_inc HS4.out,off_trans HO4.out (off_set _ _ _ _)⟩
     case measure=>rw[atOf_sc hS.out,atOf_sc (sc_inc HS4.out)];omega
   obtain⟨j,hj⟩: ∃j,j=ps.length:=⟨_,rfl⟩;have HJ:=Lib.hid hj;have hnl:n=ps.length+1:=(by rw[hn.out,List.length_map,List.length_append,List.length_singleton]);have hjn:j<n:=(by omega);have hjI:(j:Int)<(n:Int):=(by omega);have hwr:IntKind.i64.wrap ((n:Int)-1)=(j:Int):=(by rw[IntWalk.i64_in _ (by omega)];omega);have hj0:(0:Int)≤(j:Int):=(by omega);clear hnl hj;by_cases hcc3:c=92
   ·subst hcc3;clear hcc hcc0 hcc1 hcc2;rw[show(((92:UInt8)).toNat:Int)=92 from rfl]at HN;have hrest3:rest s m=92::rest s (m+1):=hrest2.out;by_cases hdg: ∃a b u,rest s (m+1)=a::b::u∧0≤valI a∧0≤valI b
    ·obtain⟨a,b,u,hr,h1,h2⟩:=hdg;have hu:=hex_rest hr;obtain⟨y,hy⟩: ∃y,hexB a b=y:=⟨_,rfl⟩;have HOE:Hid (goP st ps (z++[y]) (rest s (m+3))=O):=(by rw[←hG.out,hr,hu,←hy];exact(goP_hex _ _ _ _ _ _ h1 h2).symm);have hm3:m+3≤s.size:=(by have:=congrArg List.length hr;rw[rest_len]at this;simp only[List.length_cons]at this;omega);have HBC:Hid (∀W,ScB W p s m→Calls Try.prog 45 #[.pointer (some ⟨p,0,none⟩)] W fun e w'=>e= .returned (.string ⟨#[y]⟩)∧Off p W w'∧ScB w' p s (m+3)):=fun W hW=>by rw[←hy];exact byte_ok p s m a b u W (Lib.hid hW) hlt hs hr h1 h2
     clear hG hc hr h1 h2 hu hy hrest3;go_wp2_with fail;refine HN.out.mono ?_;rintro e w2 ⟨rfl,hB2⟩;have HS2:=Lib.hid (sc_below hS.out hB2);have HO2:=Lib.hid (off_trans hO.out (off_below hB2));have HL2:=Lib.hid (dnw.ownT_below hL.out hB2);clear hB2 c0 c1 f1 HN;obtain⟨c0,c1,f1⟩:=sc_cells HS2.out;go_wp2_with fail;go_quiet (fail);generalize hw3:w2.drewN nq=w3;have HB:Hid (Below w2.heap.size w2 w3):=(by rw[←hw3];exact hx_drewN (Below.refl _ _) _);have HS3:=Lib.hid (sc_below HS2.out HB.out);have HO3:=Lib.hid (off_trans HO2.out (off_below HB.out));have HL3:=Lib.hid (dnw.ownT_below HL2.out HB.out);clear c0 c1 f1 hw3 HB HL2 HO2 HS2;obtain⟨c0,c1,f1⟩:=sc_cells HS3.out;obtain⟨g,rfl,hBg,hcap,hcell,hfz⟩:=ownT_last HL3.out hn.out j (by rw[HJ.out,List.length_map,List.length_append,List.length_singleton];omega);obtain⟨Z,hZ⟩: ∃Z,bb z=Z:=⟨_,rfl⟩;have hzj:((ps++[z]).map bb)[j]'(by rw[HJ.out,List.length_map,List.length_append,List.length_singleton];omega)=Z:=(by rw[←hZ];simp[HJ.out]);rw[hzj]at hcell;have hZs:Z.size≤1000000:=(by rw[←hZ,bb_size'];omega);have hpg:p≠g:=(by omega);have hgl:g<w3.heap.size:=World.block_lt_of_cell? w3 _ hcell;have HBC1:=Lib.hid (HBC.out w3.drew (sc_drew HS3.out));clear HBC;obtain⟨Y,hY⟩: ∃Y,bb (z++[y])=Y:=⟨_,rfl⟩;have hadd: ∀W,(Op.stringOp .add Z ⟨#[y]⟩).run Try.prog W= .ok (.string Y) W:=fun W=>by rw[←hY,bb_app,hZ];exact run_string_add_sum W _ _ (by show Z.size+1≤9223372036854775807;omega)
     have HYE:=Lib.hid hY;clear hZ hzj hY;go_wp2_with fail;refine wp_region_held_drew (S:=fun _=>True) (by kernel_rfl) trivial (fun hHeld=> ?_);refine tk 0 ⟨some 70,_,_,_,_,_⟩ rfl ?_;refine tk 1 ⟨some 71,_,_,_,_,_⟩ rfl ?_;refine tk 2 ⟨some 72,_,_,_,_,_⟩ rfl ?_;refine tk 3 ⟨some 73,_,_,_,_,_⟩ rfl ?_;refine tk 4 ⟨some 74,_,_,_,_,_⟩ rfl ?_;refine tk 6 ⟨some 76,_,_,_,_,_⟩ rfl ?_;refine wpAnyH_ready (rs:=[5,7]) (by kernel_rfl) (by simp) ?_;refine AllReadyH.cons (o:=⟨some 75,_,_,_,_,_⟩) rfl (fun K hK=> ?_) (AllReadyH.cons (o:=⟨some 77,_,_,_,_,_⟩) rfl (fun K hK=> ?_) AllReadyH.nil)
     ·go_simp;refine hK.out _ _ trivial (fun hHeld=> ?_);clear hK;try simp only[Act.put,List.setIfInBounds_toArray,List.set_cons_zero,List.set_cons_succ]
      refine etw.tc 7 ⟨some 77,_,_,_,_,_⟩ rfl (fun K hK=> ?_);go_simp
      (go_at_call 45;refine HBC1.out.mono ?_;rintro e w5 ⟨rfl,hO5,hS5⟩)
      refine hK.out _ _ trivial (fun hHeld=> ?_);clear hK;try simp only[Act.put,List.setIfInBounds_toArray,List.set_cons_zero,List.set_cons_succ]
      have hb5:w5.heap[g]? =w3.heap[g]? :=hO5.block g hgl (fun e=>hpg e.symm);have hc5:w5.cell? ⟨g,j,none⟩=some (.string Z):=(World.cell?_of_block (w:=w3) (a:=⟨g,j,none⟩) hb5).trans hcell;have hf5:w5.frozen? ⟨g,j,none⟩=false:=(World.frozen?_of_block (w:=w3) (a:=⟨g,j,none⟩) hb5).trans hfz;refine tk 8 ⟨some 78,_,_,_,_,_⟩ rfl ?_;refine tk 9 ⟨some 79,_,_,_,_,_⟩ rfl ?_;refine etw.tc 10 ⟨none,_,_,_,_,_⟩ rfl (fun K hK=> ?_);go_simp;refine hK.out _ _ trivial (fun hHeld=> ?_);clear hK;try simp only[Act.put,List.setIfInBounds_toArray,List.set_cons_zero,List.set_cons_succ]
      refine wpAnyH_done (by kernel_rfl) ?_ _;have HO5:Off p w w5:=off_trans HO3.out (off_trans (off_below (Below.refl _ _).drew) hO5);have HL5:=ownT_off (ownT_off HL3.out hpB (off_below (Below.refl _ _).drew)) hpB hO5;have HS6:Hid (ScB (w5.setCell ⟨g,j,none⟩ (.string Y)) p s (m+3)):=sc_other hS5 hpg;have HL6:Hid (prw.OwnT (w5.setCell ⟨g,j,none⟩ (.string Y)) w.heap.size (.slice (some ⟨g,0,none⟩) n cap) ((ps++[z++[y]]).map bb)):=(by have h5:=ownT_put HL5 j Y;rw[HJ.out,←HYE.out,set_last]at h5;rw[HJ.out,←HYE.out];exact h5);have HO6:Hid (Off p w (w5.setCell ⟨g,j,none⟩ (.string Y))):=off_new HO5 hBg;clear hHeld hcell hfz c0 c1 f1 hb5 hc5 hf5 hO5 hS5 HO5 HL5;go_wp2_with fail;go_roundw;case rel=>exact⟨m+3,ps,z++[y],hm3,HOE.out,by omega,by rw[List.length_append,List.length_singleton];omega,HL6.out,HS6.out,HO6.out⟩
      case measure=>exact ms_lt (atOf_sc hS.out) (atOf_sc HS6.out) hlt (by omega)
     ·go_simp
      (go_at_call 45;refine HBC1.out.mono ?_;rintro e w5 ⟨rfl,hO5,hS5⟩)
      refine hK.out _ _ trivial (fun hHeld=> ?_);clear hK;try simp only[Act.put,List.setIfInBounds_toArray,List.set_cons_zero,List.set_cons_succ]
      have hb5:w5.heap[g]? =w3.heap[g]? :=hO5.block g hgl (fun e=>hpg e.symm);have hc5:w5.cell? ⟨g,j,none⟩=some (.string Z):=(World.cell?_of_block (w:=w3) (a:=⟨g,j,none⟩) hb5).trans hcell;have hf5:w5.frozen? ⟨g,j,none⟩=false:=(World.frozen?_of_block (w:=w3) (a:=⟨g,j,none⟩) hb5).trans hfz;refine etw.tc 5 ⟨some 75,_,_,_,_,_⟩ rfl (fun K hK=> ?_);go_simp;refine hK.out _ _ trivial (fun hHeld=> ?_);clear hK;try simp only[Act.put,List.setIfInBounds_toArray,List.set_cons_zero,List.set_cons_succ]
      refine tk 8 ⟨some 78,_,_,_,_,_⟩ rfl ?_;refine tk 9 ⟨some 79,_,_,_,_,_⟩ rfl ?_;refine etw.tc 10 ⟨none,_,_,_,_,_⟩ rfl (fun K hK=> ?_);go_simp;refine hK.out _ _ trivial (fun hHeld=> ?_);clear hK;try simp only[Act.put,List.setIfInBounds_toArray,List.set_cons_zero,List.set_cons_succ]
      refine wpAnyH_done (by kernel_rfl) ?_ _;have HO5:Off p w w5:=off_trans HO3.out (off_trans (off_below (Below.refl _ _).drew) hO5);have HL5:=ownT_off (ownT_off HL3.out hpB (off_below (Below.refl _ _).drew)) hpB hO5;have HS6:Hid (ScB (w5.setCell ⟨g,j,none⟩ (.string Y)) p s (m+3)):=sc_other hS5 hpg;have HL6:Hid (prw.OwnT (w5.setCell ⟨g,j,none⟩ (.string Y)) w.heap.size (.slice (some ⟨g,0,none⟩) n cap) ((ps++[z++[y]]).map bb)):=(by have h5:=ownT_put HL5 j Y;rw[HJ.out,←HYE.out,set_last]at h5;rw[HJ.out,←HYE.out];exact h5);have HO6:Hid (Off p w (w5.setCell ⟨g,j,none⟩ (.string Y))):=off_new HO5 hBg;clear hHeld hcell hfz c0 c1 f1 hb5 hc5 hf5 hO5 hS5 HO5 HL5;go_wp2_with fail;go_roundw;case rel=>exact⟨m+3,ps,z++[y],hm3,HOE.out,by omega,by rw[List.length_append,List.length_singleton];omega,HL6.out,HS6.out,HO6.out⟩
      case measure=>exact ms_lt (atOf_sc hS.out) (atOf_sc HS6.out) hlt (by omega)
    ·have hno: ∀a b u,rest s (m+1)=a::b::u→valI a<0∨valI b<0:=by
      intro a b u hr;by_cases h1:valI a<0
      ·exact Or.inl h1
      ·by_cases h2:valI b<0
       ·exact Or.inr h2
       ·exact absurd ⟨a,b,u,hr,by omega,by omega⟩ hdg
     have HOE:Hid (O=none):=(by rw[←hG.out];exact goP_hexno _ _ _ _ hno);have HBC:Hid (∀W,ScB W p s m→Calls Try.prog 45 #[.pointer (some ⟨p,0,none⟩)] W fun e w'=>PanicE e∧Off p W w'):=fun W hW=>byte_no p s m W (Lib.hid hW) hlt hs hno;clear hG hc hrest3 hno hdg;go_wp2_with fail;refine HN.out.mono ?_;rintro e w2 ⟨rfl,hB2⟩;have HS2:=Lib.hid (sc_below hS.out hB2);have HO2:=Lib.hid (off_trans hO.out (off_below hB2));have HL2:=Lib.hid (dnw.ownT_below hL.out hB2);clear hB2 c0 c1 f1 HN;obtain⟨c0,c1,f1⟩:=sc_cells HS2.out;go_wp2_with fail;go_quiet (fail);generalize hw3:w2.drewN nq=w3;have HB:Hid (Below w2.heap.size w2 w3):=(by rw[←hw3];exact hx_drewN (Below.refl _ _) _);have HS3:=Lib.hid (sc_below HS2.out HB.out);have HO3:=Lib.hid (off_trans HO2.out (off_below HB.out));have HL3:=Lib.hid (dnw.ownT_below HL2.out HB.out);clear c0 c1 f1 hw3 HB HL2 HO2 HS2;obtain⟨c0,c1,f1⟩:=sc_cells HS3.out;obtain⟨g,rfl,hBg,hcap,hcell,hfz⟩:=ownT_last HL3.out hn.out j (by rw[HJ.out,List.length_map,List.length_append,List.length_singleton];omega);obtain⟨Z,hZ⟩: ∃Z,bb z=Z:=⟨_,rfl⟩;have hzj:((ps++[z]).map bb)[j]'(by rw[HJ.out,List.length_map,List.length_append,List.length_singleton];omega)=Z:=(by rw[←hZ];simp[HJ.out]);rw[hzj]at hcell;have hZs:Z.size≤1000000:=(by rw[←hZ,bb_size'];omega);have hpg:p≠g:=(by omega);have hgl:g<w3.heap.size:=World.block_lt_of_cell? w3 _ hcell;have HBC1:=Lib.hid (HBC.out w3.drew (sc_drew HS3.out));clear HBC;clear hZ hzj;go_wp2_with fail;refine wp_region_held_drew (S:=fun _=>True) (by kernel_rfl) trivial (fun hHeld=> ?_);refine tk 0 ⟨some 70,_,_,_,_,_⟩ rfl ?_;refine tk 1 ⟨some 71,_,_,_,_,_⟩ rfl ?_;refine tk 2 ⟨some 72,_,_,_,_,_⟩ rfl ?_;refine tk 3 ⟨some 73,_,_,_,_,_⟩ rfl ?_;refine tk 4 ⟨some 74,_,_,_,_,_⟩ rfl ?_;refine tk 6 ⟨some 76,_,_,_,_,_⟩ rfl ?_;refine wpAnyH_ready (rs:=[5,7]) (by kernel_rfl) (by simp) ?_;refine AllReadyH.cons (o:=⟨some 75,_,_,_,_,_⟩) rfl (fun K hK=> ?_) (AllReadyH.cons (o:=⟨some 77,_,_,_,_,_⟩) rfl (fun K hK=> ?_) AllReadyH.nil)
     ·go_simp;refine hK.out _ _ trivial (fun hHeld=> ?_);clear hK;try simp only[Act.put,List.setIfInBounds_toArray,List.set_cons_zero,List.set_cons_succ]
      refine etw.tc 7 ⟨some 77,_,_,_,_,_⟩ rfl (fun K hK=> ?_);go_simp;go_at_call 45;refine HBC1.out.mono ?_;rintro e w5 ⟨⟨q,hq,rfl⟩,hO5⟩;exact⟨rfl,pcO_none HOE.out (off_trans HO3.out (off_trans (off_below (Below.refl _ _).drew) hO5)) ⟨q,hq,rfl⟩⟩
     ·go_simp;go_at_call 45;refine HBC1.out.mono ?_;rintro e w5 ⟨⟨q,hq,rfl⟩,hO5⟩;exact⟨rfl,pcO_none HOE.out (off_trans HO3.out (off_trans (off_below (Below.refl _ _).drew) hO5)) ⟨q,hq,rfl⟩⟩
   ·have HOE:Hid (goP st ps (z++[c]) (rest s (m+1))=O):=(by rw[←hG.out];exact(goP_byte _ _ _ _ _ hcc0 hcc hcc1 hcc2 hcc3).symm);have e40:((c.toNat:Int)==40)=false:=(by rw[beq_eq_false_iff_ne];intro e;exact hcc (UInt8.toNat_inj.1 (by show c.toNat=40;omega)));have e0:((c.toNat:Int)==0)=false:=(by rw[beq_eq_false_iff_ne];intro e;exact hcc0 (UInt8.toNat_inj.1 (by show c.toNat=0;omega)));have e41:((c.toNat:Int)==41)=false:=(by rw[beq_eq_false_iff_ne];intro e;exact hcc1 (UInt8.toNat_inj.1 (by show c.toNat=41;omega)));have e42:((c.toNat:Int)==42)=false:=(by rw[beq_eq_false_iff_ne];intro e;exact hcc2 (UInt8.toNat_inj.1 (by show c.toNat=42;omega)));have e92:((c.toNat:Int)==92)=false:=(by rw[beq_eq_false_iff_ne];intro e;exact hcc3 (UInt8.toNat_inj.1 (by show c.toNat=92;omega)));have hcb:=c.toNat_lt;clear hG hc hcc hcc0 hcc1 hcc2 hcc3;go_wp2_with fail;refine HN.out.mono ?_;rintro e w2 ⟨rfl,hB2⟩;have HS2:=Lib.hid (sc_below hS.out hB2);have HO2:=Lib.hid (off_trans hO.out (off_below hB2));have HL2:=Lib.hid (dnw.ownT_below hL.out hB2);clear hB2 c0 c1 f1 HN;obtain⟨c0,c1,f1⟩:=sc_cells HS2.out;go_wp2_with fail;go_quiet (fail);generalize hw3:w2.drewN nq=w3;have HB:Hid (Below w2.heap.size w2 w3):=(by rw[←hw3];exact hx_drewN (Below.refl _ _) _);have HS3:=Lib.hid (sc_below HS2.out HB.out);have HO3:=Lib.hid (off_trans HO2.out (off_below HB.out));have HL3:=Lib.hid (dnw.ownT_below HL2.out HB.out);clear c0 c1 f1 hw3 HB HL2 HO2 HS2;obtain⟨c0,c1,f1⟩:=sc_cells HS3.out;obtain⟨g,rfl,hBg,hcap,hcell,hfz⟩:=ownT_last HL3.out hn.out j (by rw[HJ.out,List.length_map,List.length_append,List.length_singleton];omega);obtain⟨Z,hZ⟩: ∃Z,bb z=Z:=⟨_,rfl⟩;have hzj:((ps++[z]).map bb)[j]'(by rw[HJ.out,List.length_map,List.length_append,List.length_singleton];omega)=Z:=(by rw[←hZ];simp[HJ.out]);rw[hzj]at hcell;have hZs:Z.size≤1000000:=(by rw[←hZ,bb_size'];omega);obtain⟨Y,hY⟩: ∃Y,bb (z++[c])=Y:=⟨_,rfl⟩;have hadd: ∀W,(Op.stringOp .add Z ⟨#[c]⟩).run Try.prog W= .ok (.string Y) W:=fun W=>by rw[←hY,bb_app,hZ];exact run_string_add_sum W _ _ (by show Z.size+1≤9223372036854775807;omega)
    have HYE:=Lib.hid hY;clear hZ hzj hY;have hpg:p≠g:=(by omega);obtain⟨A,hA⟩: ∃A,w3.alloc (.cells #[.int .u8 (c.toNat:Int)] 5)=A:=⟨_,rfl⟩;have HBA:Below w3.heap.size w3 A:=(by rw[←hA];exact(Below.refl _ _).alloc (Nat.le_refl _) _);have hgl:g<w3.heap.size:=World.block_lt_of_cell? w3 _ hcell;have hcA:A.cell? ⟨g,j,none⟩=some (.string Z):=(HBA.cell (p:=⟨g,j,none⟩) hgl).trans hcell;have hfA:A.frozen? ⟨g,j,none⟩=false:=(HBA.frozen (p:=⟨g,j,none⟩) hgl).trans hfz;have hcv:(convert 45 9 (.slice (some ⟨w3.heap.size,0,none⟩) 1 1)).run Try.prog A.drew= .ok (.string ⟨#[c]⟩) A.drew:=(by refine run_convert_bytes_back A.drew 45 9 5 ⟨w3.heap.size,0,none⟩ 1 [c] Try.underlying45 Try.underlying5 Try.underlying9 (fun i hi=> ?_);have hi0:i=0:=(by simpa using hi);subst hi0;rw[kt.addr_add,←hA];show(w3.alloc _).cell? _=_;rw[World.cell?_alloc_new];simp);have HSA:=sc_below HS3.out HBA;have HLA:=dnw.ownT_below HL3.out HBA;have HOA:=off_trans HO3.out (off_below HBA);have HS5:Hid (ScB (A.setCell ⟨g,j,none⟩ (.string Y)).drew p s m):=sc_drew (sc_other HSA hpg);have HL5:Hid (prw.OwnT (A.setCell ⟨g,j,none⟩ (.string Y)).drew w.heap.size (.slice (some ⟨g,0,none⟩) n cap) ((ps++[z++[c]]).map bb)):=(by have h5:=ownT_put HLA j Y;rw[HJ.out,←HYE.out,set_last]at h5;rw[HJ.out,←HYE.out];exact h5);have HO5:Hid (Off p w (A.setCell ⟨g,j,none⟩ (.string Y)).drew):=off_trans (off_new HOA hBg) (off_below (Below.refl _ _).drew);have hone:(m:Int)+1≤9223372036854775807:=(by omega);clear HBA HSA HLA HOA;go_wp2_with fail;refine wp_region_held_drew (S:=fun _=>True) (by kernel_rfl) trivial (fun hHeld=> ?_);refine tk 0 ⟨some 10,_,_,_,_,_⟩ rfl ?_;refine tk 1 ⟨some 11,_,_,_,_,_⟩ rfl ?_;refine tk 2 ⟨some 12,_,_,_,_,_⟩ rfl ?_;refine tk 3 ⟨some 13,_,_,_,_,_⟩ rfl ?_;refine tk 4 ⟨some 14,_,_,_,_,_⟩ rfl ?_;refine tk 6 ⟨some 16,_,_,_,_,_⟩ rfl ?_;refine wpAnyH_ready (rs:=[5,7]) (by kernel_rfl) (by simp) ?_;refine AllReadyH.cons (o:=⟨some 15,_,_,_,_,_⟩) rfl (fun K hK=> ?_) (AllReadyH.cons (o:=⟨some 17,_,_,_,_,_⟩) rfl (fun K hK=> ?_) AllReadyH.nil)
    ·go_simp;refine hK.out _ _ trivial (fun hHeld=> ?_);clear hK;try simp only[Act.put,List.setIfInBounds_toArray,List.set_cons_zero,List.set_cons_succ]
     refine etw.tc 7 ⟨some 17,_,_,_,_,_⟩ rfl (fun K hK=> ?_);go_simp;refine hK.out _ _ trivial (fun hHeld=> ?_);clear hK;try simp only[Act.put,List.setIfInBounds_toArray,List.set_cons_zero,List.set_cons_succ]
     refine etw.tc 8 ⟨some 18,_,_,_,_,_⟩ rfl (fun K hK=> ?_);go_simp;refine hK.out _ _ trivial (fun hHeld=> ?_);clear hK;try simp only[Act.put,List.setIfInBounds_toArray,List.set_cons_zero,List.set_cons_succ]
     refine tk 9 ⟨some 19,_,_,_,_,_⟩ rfl ?_;refine tk 10 ⟨some 20,_,_,_,_,_⟩ rfl ?_;refine etw.tc 11 ⟨none,_,_,_,_,_⟩ rfl (fun K hK=> ?_);go_simp;refine hK.out _ _ trivial (fun hHeld=> ?_);clear hK;try simp only[Act.put,List.setIfInBounds_toArray,List.set_cons_zero,List.set_cons_succ]
     refine wpAnyH_done (by kernel_rfl) ?_ _;clear hHeld hcA hfA hcv hcell hfz c0 c1 f1;obtain⟨c0,c1,f1⟩:=sc_cells HS5.out;go_wp2_with fail;go_roundw;case rel=>exact⟨m+1,ps,z++[c],by omega,HOE.out,by omega,by rw[List.length_append,List.length_singleton];omega,ownT_sc HL5.out hpB,sc_inc HS5.out,off_trans HO5.out (off_set _ _ _ _)⟩
     case measure=>exact ms_lt (atOf_sc hS.out) (atOf_sc (sc_inc HS5.out)) hlt (Nat.lt_succ_self _)
    ·go_simp;refine hK.out _ _ trivial (fun hHeld=> ?_);clear hK;try simp only[Act.put,List.setIfInBounds_toArray,List.set_cons_zero,List.set_cons_succ]
     refine wpAnyH_ready (rs:=[5,8]) (by kernel_rfl) (by simp) ?_;refine AllReadyH.cons (o:=⟨some 15,_,_,_,_,_⟩) rfl (fun K hK=> ?_) (AllReadyH.cons (o:=⟨some 18,_,_,_,_,_⟩) rfl (fun K hK=> ?_) AllReadyH.nil)
     ·go_simp;refine hK.out _ _ trivial (fun hHeld=> ?_);clear hK;try simp only[Act.put,List.setIfInBounds_toArray,List.set_cons_zero,List.set_cons_succ]
      refine etw.tc 8 ⟨some 18,_,_,_,_,_⟩ rfl (fun K hK=> ?_);go_simp;refine hK.out _ _ trivial (fun hHeld=> ?_);clear hK;try simp only[Act.put,List.setIfInBounds_toArray,List.set_cons_zero,List.set_cons_succ]
      refine tk 9 ⟨some 19,_,_,_,_,_⟩ rfl ?_;refine tk 10 ⟨some 20,_,_,_,_,_⟩ rfl ?_;refine etw.tc 11 ⟨none,_,_,_,_,_⟩ rfl (fun K hK=> ?_);go_simp;refine hK.out _ _ trivial (fun hHeld=> ?_);clear hK;try simp only[Act.put,List.setIfInBounds_toArray,List.set_cons_zero,List.set_cons_succ]
      refine wpAnyH_done (by kernel_rfl) ?_ _;clear hHeld hcA hfA hcv hcell hfz c0 c1 f1;obtain⟨c0,c1,f1⟩:=sc_cells HS5.out;go_wp2_with fail;go_roundw;case rel=>exact⟨m+1,ps,z++[c],by omega,HOE.out,by omega,by rw[List.length_append,List.length_singleton];omega,ownT_sc HL5.out hpB,sc_inc HS5.out,off_trans HO5.out (off_set _ _ _ _)⟩
      case measure=>exact ms_lt (atOf_sc hS.out) (atOf_sc (sc_inc HS5.out)) hlt (Nat.lt_succ_self _)
     ·go_simp;refine hK.out _ _ trivial (fun hHeld=> ?_);clear hK;try simp only[Act.put,List.setIfInBounds_toArray,List.set_cons_zero,List.set_cons_succ]
      refine etw.tc 5 ⟨some 15,_,_,_,_,_⟩ rfl (fun K hK=> ?_);go_simp;refine hK.out _ _ trivial (fun hHeld=> ?_);clear hK;try simp only[Act.put,List.setIfInBounds_toArray,List.set_cons_zero,List.set_cons_succ]
      refine tk 9 ⟨some 19,_,_,_,_,_⟩ rfl ?_;refine tk 10 ⟨some 20,_,_,_,_,_⟩ rfl ?_;refine etw.tc 11 ⟨none,_,_,_,_,_⟩ rfl (fun K hK=> ?_);go_simp;refine hK.out _ _ trivial (fun hHeld=> ?_);clear hK;try simp only[Act.put,List.setIfInBounds_toArray,List.set_cons_zero,List.set_cons_succ]
      refine wpAnyH_done (by kernel_rfl) ?_ _;clear hHeld hcA hfA hcv hcell hfz c0 c1 f1;obtain⟨c0,c1,f1⟩:=sc_cells HS5.out;go_wp2_with fail;go_roundw;case rel=>exact⟨m+1,ps,z++[c],by omega,HOE.out,by omega,by rw[List.length_append,List.length_singleton];omega,ownT_sc HL5.out hpB,sc_inc HS5.out,off_trans HO5.out (off_set _ _ _ _)⟩
      case measure=>exact ms_lt (atOf_sc hS.out) (atOf_sc (sc_inc HS5.out)) hlt (Nat.lt_succ_self _)
  ·obtain rfl:m=s.size:=(by omega);have HOE:Hid (O=none):=(by rw[←hG.out,rest_end];rfl);have hcI:nextI s s.size=0:=dif_neg hlt;rw[hcI]at HN;have hge:decide (s.size≤s.size)=true:=decide_eq_true (Nat.le_refl _);have hge2:(s.size:Int)≤(s.size:Int):=Int.le_refl _;clear hG hlt hcI;go_wp2_with fail;refine HN.out.mono ?_;rintro e w2 ⟨rfl,hB2⟩;have HS2:=Lib.hid (sc_below hS.out hB2);have HO2:=Lib.hid (off_trans hO.out (off_below hB2));have HL2:=Lib.hid (dnw.ownT_below hL.out hB2);clear hB2 c0 c1 f1 HN;obtain⟨c0,c1,f1⟩:=sc_cells HS2.out;go_wp2_with fail;go_quiet (fail);generalize hw3:w2.drewN nq=w3;have HB:Hid (Below w2.heap.size w2 w3):=(by rw[←hw3];exact hx_drewN (Below.refl _ _) _);have HS3:=Lib.hid (sc_below HS2.out HB.out);have HO3:=Lib.hid (off_trans HO2.out (off_below HB.out));have HL3:=Lib.hid (dnw.ownT_below HL2.out HB.out);clear c0 c1 f1 hw3 HB HL2 HO2 HS2;obtain⟨c0,c1,f1⟩:=sc_cells HS3.out;go_wp2_with fail;exact⟨rfl,pcO_none HOE.out HO3.out ⟨s.size,by omega,rfl⟩⟩
end ftw
end Go.Proofs.Ytffkghkkobmhaaa
