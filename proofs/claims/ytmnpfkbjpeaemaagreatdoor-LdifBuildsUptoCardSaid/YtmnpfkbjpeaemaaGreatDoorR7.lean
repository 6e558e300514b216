/- One text out of several: TupR, CmpP, LessW, RRdnW, RKeyW, RKeyX, RKeysW, RParseP, SpecW, CutW, TrimW, BRowW. -/
import Derived.Test.YtmnpfkbjpeaemaaGreatDoorR6
import Derived.Lib.Bytealg
import Derived.Test.YtmnpfkbjpeaemaaGreatDoorRows
import Derived.Deep.QuietTactic
import Derived.BigQuiet
import Derived.Test.YtmnpfkbjpeaemaaGreatDoorR1
import Derived.Test.YtmnpfkbjpeaemaaGreatDoorR5
import Derived.ChangeKeysEq
set_option linter.unusedVariables false
set_option linter.unusedSimpArgs false
set_option maxRecDepth 20000
set_option maxHeartbeats 8000000
namespace Go.Proofs.YtmnpfkbjpeaemaaGreatDoor
open Go.RowKit
namespace tupr
open tupw prt
def Inv (l:List ByteArray)(i:Nat)(done:List UInt8)(b:List UInt8):Prop:=b=tup.bytes (l.take i)++tup.esc done∨(4096<b.length∧4096<(tup.bytes l).length)
theorem bytes_at (l:List ByteArray)(i:Nat)(h:i<l.length):tup.bytes l=tup.bytes (l.take i)++(tup.esc l[i].data.toList++[0,1]++tup.bytes (l.drop (i+1))):=by
 have e:l=l.take i++(l[i]::l.drop (i+1)):=by rw[←List.drop_eq_getElem_cons h,List.take_append_drop]
 conv=>lhs;rw[e]
 rw[tup.bytes_append,tup.bytes]
theorem esc_take (p:List UInt8)(k:Nat):(tup.esc (p.take k)).length≤(tup.esc p).length:=by
 conv=>rhs;rw[←List.take_append_drop k p,tup.esc_append]
 simp
theorem inv_step {l:List ByteArray}{i k:Nat}{b:List UInt8}(h:i<l.length)(hk:k<l[i].size)(hI:Inv l i (l[i].data.toList.take k) b)(hb:b.length≤4096):
  Inv l i (l[i].data.toList.take (k+1)) (b++(if l[i][k]=0 then[0,255]else[l[i][k]])):=by
 rcases hI with rfl | ⟨h1,_⟩
 ·left;rw[kt.take_snoc _ k hk,tup.esc_append,List.append_assoc];simp[tup.esc]
 ·omega
theorem inv_done {l:List ByteArray}{i k:Nat}{b:List UInt8}(h:i<l.length)(hI:Inv l i (l[i].data.toList.take k) b)(hb: ¬ (k<l[i].size∧b.length≤4096)):Inv l (i+1) [] (b++[0,1]):=by
 have hat:=bytes_at l i h;rcases hI with rfl | ⟨h1,h2⟩
 ·by_cases hk:k<l[i].size
  ·right;have hlen: ¬ (tup.bytes (l.take i)++tup.esc (l[i].data.toList.take k)).length≤4096:=fun hh=>hb ⟨hk,hh⟩;have he:=esc_take l[i].data.toList k;rw[hat];simp only[List.length_append]at hlen ⊢;omega
  ·left;rw[show l[i].data.toList.take k=l[i].data.toList from List.take_of_length_le (by rw[kt.size_len];omega),List.take_succ_eq_append_getElem h,tup.bytes_append];simp[tup.bytes,tup.esc]
 ·right;simp only[List.length_append];omega
theorem inv_end {l:List ByteArray}{b:List UInt8}(hI:Inv l l.length [] b)(h16: ¬16<l.length):tup.out l=if 4096<b.length then(⟨#[]⟩,5)else(⟨b.toArray⟩,0):=by
 unfold tup.out;rw[if_neg h16];rcases hI with rfl | ⟨h1,h2⟩
 ·rw[List.take_of_length_le (Nat.le_refl _)];simp[tup.esc]
 ·rw[if_pos h2,if_pos h1]
theorem ownb_app2 {w:World}{B:Nat}{v:Value}{l:List UInt8}(h:OwnB w B v l)(x y:UInt8)(hl:l.length≤1100000)(hB:B≤w.heap.size):
  ∃v' w1,(Builtin.append_ #[131,131] 131 #[v,.slice (some ⟨w.heap.size,0,none⟩) 2 2]).run Tryz.prog (w.alloc (.cells #[.int .u8 (x.toNat:Int),.int .u8 (y.toNat:Int)] 5))= .ok v' w1∧OwnB w1 B v' (l++[x,y])∧w.grownBy w1 v.ownBlock∧Below B w w1:=by
 obtain⟨v',w1,h1,h2,h3,h4⟩:=kt.app2 (P:=Tryz.prog) (ty:=131) (w:=w) Tryz.underlying131 fldw.infoByte rfl (.int .u8 (x.toNat:Int)) (.int .u8 (y.toNat:Int)) rfl rfl h (by rw[Lib.byteCells_length];unfold maxLen;omega) (by rw[Lib.byteCells_length];omega) hB;refine⟨v',w1,h1,?_,h3,h4⟩;unfold OwnB;rw[Lib.byteCells_append];exact h2
theorem ownb_len {w:World}{B:Nat}{v:Value}{l:List UInt8}(h:OwnB w B v l): ∃ao cap,v= .slice ao l.length cap:=by obtain⟨ao,cap,hv,_⟩:=kt.row_slice h;rw[Lib.byteCells_length]at hv;exact⟨ao,cap,hv⟩
theorem rtuple_any (ao:Option Addr)(cap:Nat)(l:List ByteArray)(w:World)(hl:Hid (Strs w ao l))(hsm:Hid (∀p∈l,p.size≤1100000)):
  Calls Tryz.prog 289 #[.slice ao l.length cap] w fun e w'=>e= .returned (tupV (tup.out l))∧Below w.heap.size w w':=by
 by_cases c16:16<l.length
 ·have hp:tup.out l=(⟨#[]⟩,1):=by unfold tup.out;rw[if_pos c16]
  have HP:=Lib.hid hp;clear hp;have c16':16<(l.length:Int):=by omega
  go_enter Tryz.func289,Tryz.ntmps289;go_wp2_with fail;go_ret2;exact⟨by rw[HP.out];rfl,Below.refl _ _⟩
 ·have c16': ¬16<(l.length:Int):=by omega
  go_enter Tryz.func289,Tryz.ntmps289;go_wp2_with fail;go_loopw [4,5] (fun bv iv wr=> ∃ (i:Nat) (b:List UInt8),i≤l.length∧iv= .int .i64 i∧Hid (Inv l i [] b)∧b.length≤4098+2*i∧Hid (OwnB wr w.heap.size bv b)∧Below w.heap.size w wr) (fun _ iv _=>l.length- (intOf iv).toNat);case atStart=>exact⟨0,[],Nat.zero_le _,rfl,Or.inl rfl,by simp,ownb_new w _ (Nat.le_refl _),(Below.refl _ _).alloc (Nat.le_refl _) _⟩
  case round=>
   obtain⟨i,b,hi,rfl,hI,hbl,hOB,hB⟩:=hrel;have hsz:=hB.size;by_cases hil:i<l.length
   ·have hil':(i:Int)<(l.length:Int):=(by omega);obtain⟨p,hp⟩: ∃p:ByteArray,Hid (p=l[i]'hil):=⟨l[i]'hil,rfl⟩;have hps:p.size≤1100000:=(by rw[hp.out];exact hsm.out _ (List.getElem_mem hil));obtain⟨bl,of,hao,hc0⟩:=hl.out i hil;rw[←hp.out]at hc0;subst hao;have hI0:Hid (Inv l i (p.data.toList.take 0) b):=hI;clear hI;go_wp2_with fail;go_loopw [4,6] (fun bv kv wr=> ∃ (k:Nat) (b:List UInt8),k≤p.size∧kv= .int .i64 k∧Hid (Inv l i (p.data.toList.take k) b)∧b.length≤4098+2*i∧Hid (OwnB wr w.heap.size bv b)∧Below w.heap.size w wr) (fun _ kv _=>p.size- (intOf kv).toNat);case atStart=>exact⟨0,b,Nat.zero_le _,rfl,hI0,hbl,hOB,hB⟩
    case round=>
     clear hI0 hOB hB hbl hsz;obtain⟨k,b,hk,rfl,hI,hbl,hOB,hB⟩:=hrel;have hsz:=hB.size;have hc:=(hB.cell (World.block_lt_of_cell? w _ hc0)).trans hc0;obtain⟨ao2,cap2,rfl⟩:=ownb_len hOB.out;by_cases hgo:k<p.size∧b.length≤4096
     ·obtain⟨hkp,hb4⟩:=hgo;have hkp':(k:Int)<(p.size:Int):=(by omega);have hb4':(b.length:Int)≤4096:=(by omega);obtain⟨c,hcc⟩: ∃c:UInt8,Hid (c=p[k]'hkp):=⟨p[k]'hkp,rfl⟩;have ec:(p[k]'hkp).toNat=c.toNat:=(by rw[hcc.out]);have hst:Inv l i (p.data.toList.take (k+1)) (b++(if c=0 then[0,255]else[c])):=(by have hpe:=hp.out;subst hpe;have hce:=hcc.out;subst hce;exact inv_step hil hkp hI.out hb4);obtain⟨v1,w1,hap,hO1,hgr,hB1⟩:=ownb_app hOB.out c (by omega) hsz;have hs1:=hB1.size;have hc1:=(hB1.cell (p:=⟨bl,of+i,none⟩) (World.block_lt_of_cell? w _ hc0)).trans hc;by_cases c0:c=0
      ·subst c0;rw[if_pos rfl]at hst;have HI2:=Lib.hid hst;have ec':(p[k]'hkp).toNat=0:=ec;clear hst ec hI;obtain⟨v2,w2,hap2,hO2,hgr2,hB2⟩:=ownb_app hO1 255 (by simp;omega) (Nat.le_trans hsz hs1);rw[List.append_assoc]at hO2;have HO2:=Lib.hid hO2;clear hO2 hgr hgr2 hO1;change (Builtin.append_ _ _ #[_,.slice (some ⟨wr.heap.size,0,none⟩) 1 1]).run _ (wr.alloc (.cells #[.int .u8 0] 5))= .ok v1 w1 at hap;change (Builtin.append_ _ _ #[_,.slice (some ⟨w1.heap.size,0,none⟩) 1 1]).run _ (w1.alloc (.cells #[.int .u8 255] 5))= .ok v2 w2 at hap2;go_wp2_with (at_builtin;first | refine Lib.wpList_append_run _ rfl _ _ _ _ rfl _ _ rfl rfl _ _ hap ?_ | refine Lib.wpList_append_run _ rfl _ _ _ _ rfl _ _ rfl rfl _ _ hap2 ?_);go_roundw;case rel=>exact⟨k+1,b++[0,255],by omega,by go_num,HI2,by simp;omega,HO2,(hB.trans hB1).trans hB2⟩
       case measure=>simp[intOf];omega
      ·have n0:((c.toNat:Int)==0)=false:=(by rw[beq_eq_false_iff_ne];intro h;exact c0 (UInt8.toNat_inj.1 (by simpa using h)));rw[if_neg c0]at hst;have HI2:=Lib.hid hst;have HO1:=Lib.hid hO1;clear hst hI hO1 hgr;go_wp2_with (at_builtin;refine Lib.wpList_append_run _ rfl _ _ _ _ rfl _ _ rfl rfl _ _ hap ?_);go_roundw;case rel=>exact⟨k+1,b++[c],by omega,by go_num,HI2,by simp;omega,HO1,hB.trans hB1⟩
       case measure=>simp[intOf];omega
     ·have hdn:Inv l (i+1) [] (b++[0,1]):=(by have hpe:=hp.out;subst hpe;exact inv_done hil hI.out hgo);have HI2:=Lib.hid hdn;obtain⟨v1,w1,hap,hO1,hgr,hB1⟩:=ownb_app2 hOB.out 0 1 (by omega) hsz;have HO1:=Lib.hid hO1;clear hdn hI hO1 hgr;change (Builtin.append_ _ _ #[_,.slice (some ⟨wr.heap.size,0,none⟩) 2 2]).run _ (wr.alloc (.cells #[.int .u8 0,.int .u8 1] 5))= .ok v1 w1 at hap;by_cases hkp:k<p.size
      ·have hkp':(k:Int)<(p.size:Int):=(by omega);have hb4': ¬ (b.length:Int)≤4096:=(by omega);go_wp2_with (at_builtin;refine Lib.wpList_append_run _ rfl _ _ _ _ rfl _ _ rfl rfl _ _ hap ?_);go_roundw;case rel=>exact⟨i+1,b++[0,1],by omega,by go_num,HI2,by simp;omega,HO1,hB.trans hB1⟩
       case measure=>simp[intOf];omega
      ·have hkp': ¬ (k:Int)<(p.size:Int):=(by omega);go_wp2_with (at_builtin;refine Lib.wpList_append_run _ rfl _ _ _ _ rfl _ _ rfl rfl _ _ hap ?_);go_roundw;case rel=>exact⟨i+1,b++[0,1],by omega,by go_num,HI2,by simp;omega,HO1,hB.trans hB1⟩
       case measure=>simp[intOf];omega
   ·obtain rfl:i=l.length:=(by omega);have hil': ¬ (l.length:Int)<(l.length:Int):=(by omega);obtain⟨ao2,cap2,rfl⟩:=ownb_len hOB.out;have ho:=inv_end hI.out c16;by_cases hb4:4096<b.length
    ·have hb4':4096<(b.length:Int):=(by omega);rw[if_pos hb4]at ho;have HO:=Lib.hid ho;clear ho hI;go_wp2_with fail;go_ret2;exact⟨by rw[HO.out];rfl,hB⟩
    ·have hb4': ¬4096<(b.length:Int):=(by omega);rw[if_neg hb4]at ho;obtain⟨q,hq⟩: ∃q:ByteArray,Hid (q=⟨b.toArray⟩):=⟨_,rfl⟩;have hst:=kt.str_of_row (P:=Tryz.prog) (dst:=9) Tryz.underlying131 Tryz.underlying5 Tryz.underlying9 hOB.out;rw[←hq.out]at ho hst;have HO:=Lib.hid ho;clear ho hI;go_wp2_with fail;go_ret2;exact⟨by rw[HO.out];rfl,hB⟩
end tupr
namespace ord
open Go.Lib
theorem cmp_nil_cons (a:UInt8)(s:List UInt8):compareBytes [] (a::s)= -1:=rfl
theorem cmp_cons_nil (a:UInt8)(s:List UInt8):compareBytes (a::s) []=1:=rfl
theorem cmp_cons (a b:UInt8)(s t:List UInt8):compareBytes (a::s) (b::t)=if a<b then-1 else if b<a then 1 else compareBytes s t:=rfl
theorem cmp_same (a:UInt8)(s t:List UInt8):compareBytes (a::s) (a::t)=compareBytes s t:=by rw[cmp_cons];simp
theorem cmp_lt {a b:UInt8}(h:a<b)(s t:List UInt8):compareBytes (a::s) (b::t)= -1:=by rw[cmp_cons,if_pos h]
theorem cmp_gt {a b:UInt8}(h:b<a)(s t:List UInt8):compareBytes (a::s) (b::t)=1:=by rw[cmp_cons,if_neg (fun h'=>absurd h (by have h1:=UInt8.lt_iff_toNat_lt.1 h';intro h2;have h3:=UInt8.lt_iff_toNat_lt.1 h2;omega)),if_pos h]
theorem cmp_cases (a b:UInt8):a<b∨b<a∨a=b:=by
 rcases Nat.lt_trichotomy a.toNat b.toNat with h | h | h
 ·exact Or.inl (UInt8.lt_iff_toNat_lt.2 h)
 ·exact Or.inr (Or.inr (UInt8.toNat_inj.1 h))
 ·exact Or.inr (Or.inl (UInt8.lt_iff_toNat_lt.2 h))
theorem cmp_three: ∀a b:List UInt8,compareBytes a b= -1∨compareBytes a b=0∨compareBytes a b=1
 | [],[]=>Or.inr (Or.inl rfl)
 | [],_::_=>Or.inl rfl
 | _::_,[]=>Or.inr (Or.inr rfl)
 | a::s,b::t=>by
  rcases cmp_cases a b with h | h | rfl
  ·exact Or.inl (cmp_lt h s t)
  ·exact Or.inr (Or.inr (cmp_gt h s t))
  ·rw[cmp_same];exact cmp_three s t
theorem cmp_neg: ∀a b:List UInt8,compareBytes b a= -compareBytes a b
 | [],[]=>rfl
 | [],_::_=>rfl
 | _::_,[]=>rfl
 | a::s,b::t=>by
  rcases cmp_cases a b with h | h | rfl
  ·rw[cmp_lt h,cmp_gt h];rfl
  ·rw[cmp_gt h,cmp_lt h]
  ·rw[cmp_same,cmp_same];exact cmp_neg s t
theorem cmp_end (a b:List UInt8)(i:Nat)(hi:i≤a.length)(hb:i≤b.length)(h:a.length≤i∨b.length≤i):compareBytes (a.drop i) (b.drop i)=if a.length<b.length then-1 else if b.length<a.length then 1 else 0:=by
 by_cases h1:a.length≤i
 ·rw[List.drop_eq_nil_of_le h1];by_cases h2:b.length≤i
  ·rw[List.drop_eq_nil_of_le h2,if_neg (by omega),if_neg (by omega)];rfl
  ·rw[List.drop_eq_getElem_cons (by omega),if_pos (by omega)];rfl
 ·rw[List.drop_eq_nil_of_le (show b.length≤i by omega),List.drop_eq_getElem_cons (by omega),if_neg (by omega),if_pos (by omega)];rfl
end ord
open Go.RowKit
namespace ordw
open ord
theorem dr (s:ByteArray)(k:Nat)(h:k<s.size):s.data.toList.drop k=s[k]::s.data.toList.drop (k+1):=by rw[List.drop_eq_getElem_cons (by rw[kt.size_len];exact h)];rfl
theorem less_any (a b:ByteArray)(w:World)(ha:a.size≤1100000):
  Calls Tryz.prog 139 #[.string a,.string b] w fun e w'=>e= .returned (.int .i64 (Lib.compareBytes a.data.toList b.data.toList))∧ ∃n,w'=w.drewN n:=by
 go_enter Tryz.func139,Tryz.ntmps139;go_wp2_with fail;go_loopw [5] (fun iv wr=> ∃ (i:Nat),i≤a.size∧i≤b.size∧iv= .int .i64 i∧Hid (Lib.compareBytes a.data.toList b.data.toList=Lib.compareBytes (a.data.toList.drop i) (b.data.toList.drop i))∧ ∃n,wr=w.drewN n) (fun iv _=>a.size- (intOf iv).toNat);case atStart=>exact⟨0,Nat.zero_le _,Nat.zero_le _,rfl,rfl,0,rfl⟩
 case round=>
  obtain⟨i,hia,hib,rfl,hE,n,rfl⟩:=hrel;by_cases h:i<a.size∧i<b.size
  ·obtain⟨h1,h2⟩:=h;have h1':(i:Int)<(a.size:Int):=(by omega);have h2':(i:Int)<(b.size:Int):=(by omega);obtain⟨x,hx⟩: ∃x:UInt8,Hid (x=a[i]'h1):=⟨a[i]'h1,rfl⟩;obtain⟨y,hy⟩: ∃y:UInt8,Hid (y=b[i]'h2):=⟨b[i]'h2,rfl⟩;have ex:(a[i]'h1).toNat=x.toNat:=(by rw[hx.out]);have ey:(b[i]'h2).toNat=y.toNat:=(by rw[hy.out]);have he:=hE.out;rw[dr a i h1,dr b i h2,←hx.out,←hy.out]at he;rcases cmp_cases x y with c | c | c
   ·rw[cmp_lt c]at he;have HE:=Lib.hid he;have c':(x.toNat:Int)<(y.toNat:Int):=(by have:=UInt8.lt_iff_toNat_lt.1 c;omega);clear he c;go_wp2_with fail;go_quiet (fail);go_wp2_with fail;go_ret;exact⟨by rw[HE.out];rfl,_,World.drewN_drewN _ _ _⟩
   ·rw[cmp_gt c]at he;have HE:=Lib.hid he;have c': ¬ (x.toNat:Int)<(y.toNat:Int):=(by have:=UInt8.lt_iff_toNat_lt.1 c;omega);have c'':(y.toNat:Int)<(x.toNat:Int):=(by have:=UInt8.lt_iff_toNat_lt.1 c;omega);clear he c;go_wp2_with fail;go_quiet (fail);go_wp2_with fail;go_quiet (fail);go_wp2_with fail;go_ret;exact⟨by rw[HE.out];rfl,_,by rw[World.drewN_drewN,World.drewN_drewN]⟩
   ·subst c;rw[cmp_same]at he;have HE:=Lib.hid he;have c': ¬ (x.toNat:Int)<(x.toNat:Int):=(by omega);have hh1:=Lib.hid h1;have hh2:=Lib.hid h2;clear he;go_wp2_with fail;go_quiet (fail);go_wp2_with fail;go_quiet (fail);go_wp2_with fail;go_roundw;case rel=>exact⟨i+1,hh1.out,hh2.out,by go_num,HE,_,rfl⟩
    case measure=>have:=hh1.out;simp[intOf];omega
  ·have he:=hE.out;rw[cmp_end _ _ i (by rw[kt.size_len];exact hia) (by rw[kt.size_len];exact hib) (by rw[kt.size_len,kt.size_len];omega),kt.size_len,kt.size_len]at he;have hq:(decide ((i:Int)<(a.size:Int))&&decide ((i:Int)<(b.size:Int)))=false:=(by rw[Bool.and_eq_false_iff,decide_eq_false_iff_not,decide_eq_false_iff_not];omega);by_cases l1:a.size<b.size
   ·rw[if_pos l1]at he;have HE:=Lib.hid he;have l1':(a.size:Int)<(b.size:Int):=(by omega);have i1: ¬ (i:Int)<(a.size:Int):=(by omega);clear he h;go_wp2_with fail;go_ret;exact⟨by rw[HE.out];rfl,_,rfl⟩
   ·rw[if_neg l1]at he;have l1': ¬ (a.size:Int)<(b.size:Int):=(by omega);by_cases l2:b.size<a.size
    ·rw[if_pos l2]at he;have HE:=Lib.hid he;have l2':(b.size:Int)<(a.size:Int):=(by omega);have i1:(i:Int)<(a.size:Int):=(by omega);have i2: ¬ (i:Int)<(b.size:Int):=(by omega);clear he h;go_wp2_with fail;go_ret;exact⟨by rw[HE.out];rfl,_,rfl⟩
    ·rw[if_neg l2]at he;have HE:=Lib.hid he;have l2': ¬ (b.size:Int)<(a.size:Int):=(by omega);have i1: ¬ (i:Int)<(a.size:Int):=(by omega);clear he h;go_wp2_with fail;go_ret;exact⟨by rw[HE.out];rfl,_,rfl⟩
end ordw
open Go.RowKit
namespace dnw
open dnp
theorem dr_drewN {B:Nat}{a b:World}(h:Below B a b)(n:Nat):Below B a (b.drewN n):=⟨h.os,h.tape,h.output,h.size,h.block⟩
theorem rrdn_any (ao:Option Addr)(cap:Nat)(l:List Av)(w:World)(hA:Hid (Avas w ao l))(hS:Hid (l.length≤4→Smalls l)):
  Calls Tryz.prog 137 #[.slice ao l.length cap] w fun e w'=>e= .returned (.bool (rdnOK l))∧Below w.heap.size w w':=by
 by_cases h1:l.length<1
 ·have HN:=Lib.hid (rdnOK_len (l:=l) (Or.inl h1));have h0:l.length=0:=by omega
  obtain rfl:l=[]:=List.eq_nil_of_length_eq_zero h0;clear h0 h1;go_enter Tryz.func137,Tryz.ntmps137;go_wp2_with fail;go_ret;exact⟨kt.ret_bool HN.out,Below.refl _ _⟩
 ·have h1':((l.length:Int)==0)=false:=by rw[beq_eq_false_iff_ne];omega
  by_cases h4:4<l.length
  ·have h4':4<(l.length:Int):=(by omega);have HN:=Lib.hid (rdnOK_len (l:=l) (Or.inr h4));go_enter Tryz.func137,Tryz.ntmps137;go_wp2_with fail;go_ret;exact⟨kt.ret_bool HN.out,Below.refl _ _⟩
  ·have h4': ¬4<(l.length:Int):=(by omega);have HSm:=Lib.hid (hS.out (by omega));have h1n:1≤l.length:=(by omega);have h4n:l.length≤4:=(by omega);go_enter Tryz.func137,Tryz.ntmps137;go_wp2_with fail;go_loopw [3,4] (fun iv _ wr=> ∃i:Nat,i≤l.length∧iv= .int .i64 (i:Int)∧Hid (∀j (hj:j<l.length),j<i→pairB l j l[j]=true)∧Below w.heap.size w wr) (fun iv _ _=>l.length- (intOf iv).toNat);case atStart=>exact⟨0,Nat.zero_le _,rfl,fun j _ h=>by omega,Below.refl _ _⟩
   case round=>
    obtain⟨i,hi,rfl,hP,hB⟩:=hrel;have hsz:=hB.size;by_cases hlt:i<l.length
    ·have hlt':(i:Int)<(l.length:Int):=(by omega);obtain⟨b,o,hao,hc0,hc1⟩:=(avas_below hA.out hB) i hlt;obtain⟨_,_,hao2,hw0,_⟩:=hA.out i hlt;obtain⟨hts,hvs⟩:=HSm.out l[i] (by simp);have hpn:=fun h=>rdnOK_no (l:=l) hlt h;have hpy:pairB l i l[i]=true→ ∀j (hj:j<l.length),j<i+1→pairB l j l[j]=true:=by
      intro h j hj hji;by_cases e:j=i
      ·subst e;exact h
      ·exact hP.out j hj (by omega)
     have hx:pairB l i l[i]=(!hasB l i l[i].t&&typeOK l[i].t.data.toList&&valOK l[i].v.data.toList):=rfl;rw[hao]at hao2;cases hao2;subst hao;generalize l[i]=x at hc0 hc1 hts hvs hpn hpy hx hw0;have HW0:=Lib.hid hw0;have HTy:Hid (∀W,Calls Tryz.prog 194 #[.string x.t] W fun e w'=>e= .returned (.bool (typeOK x.t.data.toList))∧W=w'):=fun W=>type_any x.t W hts;have HVa:Hid (∀W,Calls Tryz.prog 195 #[.string x.v] W fun e w'=>e= .returned (.bool (valOK x.v.data.toList))∧Below W.heap.size W w'):=fun W=>rvalue_any x.v W hvs;generalize typeOK x.t.data.toList=b2 at HTy hx;generalize valOK x.v.data.toList=b3 at HVa hx;clear hw0;cases b2 with
     | false=>have HN:=Lib.hid (hpn (by rw[hx];simp));clear hpn hpy hx;go_wp2_with fail;refine(HTy.out _).mono ?_;rintro e w3 ⟨rfl,rfl⟩;go_wp2_with fail;go_ret;exact⟨kt.ret_bool HN.out,hB⟩
     | true=>
      cases b3 with
      | false=>have HN:=Lib.hid (hpn (by rw[hx];simp));clear hpn hpy hx;go_wp2_with fail;refine(HTy.out _).mono ?_;rintro e w3 ⟨rfl,rfl⟩;go_wp2_with fail;refine(HVa.out _).mono ?_;rintro e w4 ⟨rfl,hB4⟩;go_wp2_with fail;go_ret;exact⟨kt.ret_bool HN.out,hB.trans (hB4.mono hsz)⟩
      | true=>
       have HPN:Hid (hasB l i x.t=true→false=rdnOK l):=fun h=>hpn (by rw[hx,h];rfl);have HPY:Hid (hasB l i x.t=false→ ∀j (hj:j<l.length),j<i+1→pairB l j l[j]=true):=fun h=>hpy (by rw[hx,h];rfl);clear hpn hpy hx;go_wp2_with fail;refine(HTy.out _).mono ?_;rintro e w3 ⟨rfl,rfl⟩;go_wp2_with fail;refine(HVa.out _).mono ?_;rintro e w4 ⟨rfl,hB4⟩;have hB5:=hB.trans (hB4.mono hsz);clear hc0 hc1;go_wp2_with fail;go_loopw [4] (fun kv wr=> ∃k:Nat,k≤i∧kv= .int .i64 (k:Int)∧Hid (¬Has l k x.t)∧Below w.heap.size w wr) (fun kv _=>i- (intOf kv).toNat);case atStart=>exact⟨0,Nat.zero_le _,rfl,fun⟨_,_,h,_⟩=>by omega,hB5⟩
       case round=>
        obtain⟨k,hk,rfl,hN,hBk⟩:=hrel;by_cases hki:k<i
        ·have hki':(k:Int)<(i:Int):=(by omega);have hkl:k<l.length:=(by omega);have hkl':(k:Int)<(l.length:Int):=(by omega);obtain⟨b',o',hao',hk0,hk1⟩:=(avas_below hA.out hBk) k hkl;cases hao';have hx0:=(hBk.cell (World.block_lt_of_cell? w _ HW0.out)).trans HW0.out;by_cases he:l[k].t.data.toList=x.t.data.toList
         ·have HN2:=Lib.hid (HPN.out ((hasB_iff l i x.t).2 ⟨k,hkl,hki,he⟩));have hee:l[k].t=x.t:=kt.str_eq he;rw[hee]at hk0;clear he hee hk1;go_wp2_with fail;go_quiet (fail);go_wp2_with fail;go_ret;exact⟨kt.ret_bool HN2.out,dr_drewN hBk nq⟩
         ·have HN2:Hid (¬Has l (k+1) x.t):=by
           rintro⟨j,hj,h1,h2⟩;by_cases e:j=k
           ·subst e;exact he h2
           ·exact hN.out ⟨j,hj,by omega,h2⟩
          generalize l[k].t=y at hk0 he;have g1:(y.toList==x.t.toList)=false:=(by rw[str_beq,decide_eq_false he]);clear he hk1;go_wp2_with fail;go_quiet (fail);go_wp2_with fail;go_roundw;case rel=>exact⟨k+1,by omega,by go_num,HN2,dr_drewN hBk nq⟩
          case measure=>simp[intOf];omega
        ·obtain rfl:k=i:=(by omega);have hh:hasB l k x.t=false:=(by rw[Bool.eq_false_iff];exact fun h=>hN.out ((hasB_iff l k x.t).1 h));have HY:=Lib.hid (HPY.out hh);clear hh;go_wp2_with fail;go_roundw;case rel=>exact⟨k+1,by omega,by go_num,HY,hBk⟩
         case measure=>simp[intOf];omega
    ·obtain rfl:i=l.length:=(by omega);have HN:=Lib.hid (rdnOK_yes (l:=l) (by omega) (by omega) (fun j hj=>hP.out j hj hj));go_wp2_with fail;go_ret;exact⟨kt.ret_bool HN.out,hB⟩
theorem rright_any (ao:Option Addr)(cap:Nat)(n:List (List Av))(w:World)(hA:Hid (Rdns w ao n))(hn:n.length≤1000)(hS:Hid (∀l∈n,l.length≤4→Smalls l)):
  Calls Tryz.prog 99 #[.slice ao n.length cap] w fun e w'=>e= .returned (.bool (nameOK n))∧Below w.heap.size w w':=by
 go_enter Tryz.func99,Tryz.ntmps99;go_wp2_with fail;go_loopw [3] (fun iv wr=> ∃i:Nat,i≤n.length∧iv= .int .i64 (i:Int)∧Hid (∀j (hj:j<n.length),j<i→rdnOK n[j]=true)∧Below w.heap.size w wr) (fun iv _=>n.length- (intOf iv).toNat);case atStart=>exact⟨0,Nat.zero_le _,rfl,fun j _ h=>by omega,Below.refl _ _⟩
 case round=>
  obtain⟨i,hi,rfl,hP,hB⟩:=hrel;have hsz:=hB.size;by_cases hlt:i<n.length
  ·have hlt':(i:Int)<(n.length:Int):=(by omega);obtain⟨b,o,ao',cap',hao,hc0,hcc,hAv⟩:=(rdns_below hA.out hB) i hlt;subst hao;have hSm:=hS.out n[i] (List.getElem_mem hlt);have hpn:=fun h=>nameOK_no (n:=n) hlt h;have hpy:rdnOK n[i]=true→ ∀j (hj:j<n.length),j<i+1→rdnOK n[j]=true:=by
    intro h j hj hji;by_cases e:j=i
    ·subst e;exact h
    ·exact hP.out j hj (by omega)
   have CR:=rrdn_any ao' cap' n[i] wr (Lib.hid hAv) (Lib.hid hSm);generalize n[i]=l at hc0 hpn hpy CR;generalize hm:l.length=m at hc0 CR;cases hr:rdnOK l with
   | false=>rw[hr]at CR;have HN:=Lib.hid (hpn hr);have HC:=Lib.hid CR;clear CR hpn hpy hr hm hAv hSm hcc;go_wp2_with fail;refine HC.out.mono ?_;rintro e w2 ⟨rfl,hB2⟩;go_wp2_with fail;go_ret;exact⟨kt.ret_bool HN.out,hB.trans (hB2.mono hsz)⟩
   | true=>
    rw[hr]at CR;have HY:=Lib.hid (hpy hr);have HC:=Lib.hid CR;clear CR hpn hpy hr hm hAv hSm hcc;go_wp2_with fail;refine HC.out.mono ?_;rintro e w2 ⟨rfl,hB2⟩;go_wp2_with fail;go_roundw;case rel=>exact⟨i+1,by omega,by go_num,HY,hB.trans (hB2.mono hsz)⟩
    case measure=>simp[intOf];omega
  ·obtain rfl:i=n.length:=(by omega);have HN:=Lib.hid (nameOK_all (n:=n) (fun j hj=>hP.out j hj hj));by_cases h12:n.length≤12
   ·have h12':(n.length:Int)≤12:=(by omega);have HN2:=Lib.hid ((decide_eq_true h12).symm.trans HN.out);go_wp2_with fail;go_ret;exact⟨kt.ret_bool HN2.out,hB⟩
   ·have h12':decide ((n.length:Int)≤12)=false:=(by rw[decide_eq_false_iff_not];omega);have HN2:=Lib.hid ((decide_eq_false h12).symm.trans HN.out);go_wp2_with fail;go_ret;exact⟨kt.ret_bool HN2.out,hB⟩
end dnw
open Go.RowKit
namespace dnw
open dnp
def KeyE (l:List Av)(e:Ending):Prop:=e=if rdnOK l=true then .returned (.tuple #[.string (bytes (keyL l)),.int .i64 0])else .returned (.tuple #[.string ⟨#[]⟩,.int .i64 4])
theorem cmp_lt_iff: ∀a b:List UInt8,Lib.compareBytes a b= -1↔a<b
 | [],[]=>by simp[Lib.compareBytes]
 | [],b::t=>by rw[ord.cmp_nil_cons];simp
 | a::s,[]=>by rw[ord.cmp_cons_nil];simp
 | a::s,b::t=>by
  rw[List.cons_lt_cons_iff];rcases ord.cmp_cases a b with h | h | rfl
  ·rw[ord.cmp_lt h];simp[h]
  ·rw[ord.cmp_gt h];have h1: ¬a<b:=(by intro h';have h1:=UInt8.lt_iff_toNat_lt.1 h;have h2:=UInt8.lt_iff_toNat_lt.1 h';omega);have h2: ¬a=b:=(by rintro rfl;exact absurd (UInt8.lt_iff_toNat_lt.1 h) (by omega));simp[h1,h2]
  ·rw[ord.cmp_same,cmp_lt_iff s t];have: ¬a<a:=(by intro h;exact absurd (UInt8.lt_iff_toNat_lt.1 h) (by omega));simp[this]
def insAt (P:List ByteArray)(k:Nat)(s:ByteArray):List ByteArray:=(P.take k++[s])++P.drop k
def dat (P:List ByteArray):List (List UInt8):=P.map (·.data.toList)
def SortedB (P:List ByteArray):Prop:=(dat P).Pairwise (fun x y=>x≤y)
theorem insAt_perm (P:List ByteArray)(k:Nat)(s:ByteArray):(dat (insAt P k s)).Perm (s.data.toList::dat P):=by
 have h:(insAt P k s).Perm (s::P):=by
  unfold insAt;conv=>rhs;rw[←List.take_append_drop k P]
  rw[List.append_assoc];exact List.perm_middle
 exact h.map _
theorem insAt_sorted {P:List ByteArray}{k:Nat}{s:ByteArray}(h:SortedB P)(hk:k≤P.length)(h1: ∀j (hj:j<P.length),j<k→P[j].data.toList<s.data.toList)(h2: ∀hj:k<P.length,s.data.toList≤(P[k]'hj).data.toList):SortedB (insAt P k s):=by
 unfold SortedB dat insAt at*;rw[List.pairwise_map]at h ⊢;rw[List.append_assoc,List.pairwise_append];have hle: ∀x∈P.take k,x.data.toList≤s.data.toList:=by intro x hx;obtain⟨j,hj,rfl⟩:=List.mem_iff_getElem.1 hx;rw[List.length_take]at hj;rw[List.getElem_take];exact List.le_of_lt (h1 j (by omega) (by omega))
 have hge: ∀y∈P.drop k,s.data.toList≤y.data.toList:=by
  intro y hy;obtain⟨j,hj,rfl⟩:=List.mem_iff_getElem.1 hy;rw[List.length_drop]at hj;rw[List.getElem_drop];have hkl:k<P.length:=by omega
  have h3:=h2 hkl;rcases Nat.eq_zero_or_pos j with rfl | hj0
  ·exact h3
  ·exact List.le_trans h3 ((List.pairwise_iff_getElem.1 h) k (k+j) hkl (by omega) (by omega))
 refine⟨h.sublist (List.take_sublist _ _),?_,?_⟩
 ·rw[List.singleton_append,List.pairwise_cons];exact⟨hge,h.sublist (List.drop_sublist _ _)⟩
 ·intro x hx y hy;rw[List.singleton_append]at hy;rcases List.mem_cons.1 hy with rfl | hy
  ·exact hle x hx
  ·exact List.le_trans (hle x hx) (hge y hy)
theorem ownT_mono {w:World}{B C:Nat}{v:Value}{l:List ByteArray}(h:prw.OwnT w B v l)(hc:C≤B):prw.OwnT w C v l:=by
 refine⟨h.1,?_⟩;rcases h.2 with h0 | ⟨g,cap,cur,hv,hBg,hr⟩
 ·exact Or.inl h0
 ·exact Or.inr ⟨g,cap,cur,hv,Nat.le_trans hc hBg,hr⟩
theorem ownT_appN {w:World}{B:Nat}{v:Value}{l ys:List ByteArray}(g o c:Nat)(hys: ∀j (hj:j<ys.length),w.cell? ⟨g,o+j,none⟩=some (.string ys[j]))(hown:prw.OwnT w B v l)(hl:l.length≤1100000)(hyl:ys.length≤1100000)(hbase:B≤w.heap.size):
  ∃ao m cap w1,(Builtin.append_ #[35,35] 35 #[v,.slice (some ⟨g,o,none⟩) ys.length c]).run Tryz.prog w= .ok (.slice ao m cap) w1∧prw.OwnT w1 B (.slice ao m cap) (l++ys)∧Below B w w1:=by
 obtain⟨v',w1,h1,h2,_,h3⟩:=kt.appN (P:=Tryz.prog) (t:=35) (ty:=35) Tryz.underlying35 prw.infoStr rfl ⟨g,o,none⟩ ys.length c (prw.scells ys) (prw.scells_length ys) (fun j u hj=>by
  have hj':=(List.getElem?_eq_some_iff.1 hj).1;rw[prw.scells_length]at hj';rw[Addr.add_mid,hys j hj'];rw[←hj];unfold prw.scells;simp[List.getElem?_eq_getElem hj']) (fun u hu=>by
  unfold prw.scells at hu;obtain⟨y,_,rfl⟩:=List.mem_map.1 hu;rfl) hown (by rw[prw.scells_length];unfold maxLen;omega) (by rw[prw.scells_length];omega) hbase
 have h2':prw.OwnT w1 B v' (l++ys):=by
  unfold prw.OwnT;have e:prw.scells (l++ys)=prw.scells l++prw.scells ys:=by simp[prw.scells]
  rw[e];exact h2
 obtain⟨ao,cap,rfl,_,_⟩:=prw.ownT_cells h2';exact⟨ao,_,cap,w1,h1,h2',h3⟩
theorem key_ok {l:List Av}{P:List ByteArray}(h1:SortedB P)(h2:(dat P).Perm (partsL l)):(dat P).flatten=keyL l:=by unfold keyL;rw[sorted_eq h1 (sortL_sorted (partsL l)) (h2.trans (List.mergeSort_perm _ _).symm)]
end dnw
open Go.RowKit
namespace dnw
open dnp
theorem below_drewN2 {B:Nat}{a b:World}(h:Below B a b)(n:Nat):Below B a (b.drewN n):=⟨h.os,h.tape,h.output,h.size,h.block⟩
structure ApR (P:Program)(t tn ty:TypeId)(vs vx:Value)(w:World)(v':Value)(w':World):Prop where
 run:(Builtin.append_ #[t,tn] ty #[vs,vx]).run P w= .ok v' w'
theorem wp_apR {P:Program}{w:World}{ops:Array Oper}{rest:List Oper}{o:Oper}{a:Act}{Q:Exit→Act→World→Prop}(hgd:o.guard=none)(s x:Operand)(t tn:TypeId)
  (ho:o.op= .call {callee:= .builtin .append,args:=#[s,x],argTypes:=#[t,tn]}) (v':Value) (w':World) (hr:ApR P t tn o.type (a.eval s) (a.eval x) w v' w') (h:wpList P ops Q rest (a.put o.dst v') w'):wpList P ops Q (o::rest) a w:=
 Lib.wpList_append_run w hgd s x t tn ho _ _ rfl rfl v' w' hr.run h
theorem rkey_any (ao:Option Addr)(cap:Nat)(l:List Av)(w:World)(hA:Hid (Avas w ao l))(hS:Hid (l.length≤4→Smalls l)):
  Calls Tryz.prog 259 #[.slice ao l.length cap] w fun e w'=>KeyE l e∧Below w.heap.size w w':=by
 have CR:=rrdn_any ao cap l w hA hS;obtain⟨m,hm⟩: ∃m,m=l.length:=⟨_,rfl⟩;have HM:=Lib.hid hm;rw[←hm]at CR ⊢;clear hm;cases hok:rdnOK l with
 | false=>
  rw[hok]at CR;have HC:=Lib.hid CR;have HK:Hid (KeyE l (.returned (.tuple #[.string ⟨#[]⟩,.int .i64 4]))):=by show KeyE _ _;unfold KeyE;rw[hok];rfl
  clear CR hok;go_enter Tryz.func259,Tryz.ntmps259;go_wp2_with fail;refine HC.out.mono ?_;rintro e w1 ⟨rfl,hB1⟩;go_wp2_with fail;go_ret2;exact⟨HK.out,hB1⟩
 | true=>
  rw[hok]at CR;have HC:=Lib.hid CR;have h4:=(rdnOK_facts hok).2.1;rw[←HM.out]at h4;have HX:=Lib.hid (rdnOK_av hok);have HKE:Hid (∀T:ByteArray,T=bytes (keyL l)→KeyE l (.returned (.tuple #[.string T,.int .i64 0]))):=by intro T h;unfold KeyE;rw[hok,h];rfl
  clear CR hok;go_enter Tryz.func259,Tryz.ntmps259;go_wp2_with fail;refine HC.out.mono ?_;rintro e w1 ⟨rfl,hB1⟩;have HB1:=Lib.hid hB1;have hsz1:=hB1.size;clear hB1 HC;go_wp2_with fail;go_loopw [4,5,6,7,8,9,10,11] (fun pv iv _ _ _ _ _ _ wr=> ∃ (i:Nat) (P:List ByteArray) (g cp:Nat),i≤m∧iv= .int .i64 (i:Int)∧pv= .slice (some ⟨g,0,none⟩) i cp∧i≤cp∧Hid (prw.OwnT wr w1.heap.size (.slice (some ⟨g,0,none⟩) i cp) P)∧Hid (P.length=i)∧Hid (SortedB P)∧Hid ((dat P).Perm (partsL (l.take i)))∧Below w1.heap.size w1 wr) (fun _ iv _ _ _ _ _ _ _=>m- (intOf iv).toNat);case atStart=>
   refine⟨0,[],_,0,Nat.zero_le _,rfl,rfl,Nat.le_refl _,World.ownsRow_made w1 #[] 0 (Nat.le_refl _) (by unfold maxLen;omega) rfl,rfl,?_,?_,(Below.refl _ _).alloc (Nat.le_refl _) _⟩
   ·show SortedB [];unfold SortedB dat;simp
   ·show(dat []).Perm (partsL (l.take 0));simp[dat,partsL]
  case round=>
   obtain⟨i,P,g,cp,hi,rfl,rfl,hcp,hO,hPl,hPs,hPp,hB⟩:=hrel;have hsz:=hB.size;by_cases hlt:i<m
   ·have hlt':(i:Int)<(m:Int):=(by omega);have hil:i<l.length:=(by rw[←HM.out];exact hlt);have HBW:=Lib.hid (HB1.out.trans (hB.mono hsz1));obtain⟨b,o,hao,c0,c1⟩:=hA.out i hil;subst hao;have hTK:partsL (l.take (i+1))=partsL (l.take i)++[(partB l[i]).data.toList]:=(by unfold partsL;rw[List.take_succ_eq_append_getElem hil,List.map_append];rfl);have hxx:=HX.out l[i] (List.getElem_mem hil);generalize l[i]=x at c0 c1 hTK hxx;have HC0:=Lib.hid c0;have d1:=(HBW.out.cell (World.block_lt_of_cell? w _ c1)).trans c1;obtain⟨R,hR⟩: ∃R:ByteArray,R=⟨(rv x.v.data.toList).toArray⟩:=⟨_,rfl⟩;have hvs:x.v.size≤1100000:=(by have:=valOK_le hxx.2;rw[kt.size_len]at this;omega);have hts:x.t.size≤1100000:=(by have:=typeOK_le hxx.1;rw[kt.size_len]at this;omega);have CRD:=prw.rready_any x.v true wr hvs;rw[rv_ok hxx.2]at CRD;have HRD:Hid (Calls Tryz.prog 32 #[.string x.v,.bool true] wr fun e w'=>e= .returned (.tuple #[.string R,.int .i64 0])∧Below wr.heap.size wr w'):=(by rw[hR];exact CRD);have hRs:R.size≤1100000:=(by have h1:=prp.readyO_len (rv_ok hxx.2);rw[kt.size_len]at h1;rw[hR,←kt.size_len];show(rv _).length≤_;omega);have HRe:=Lib.hid hR;have HTK:=Lib.hid hTK;clear CRD hxx c0 c1 hR hTK hvs;go_wp2_with fail;refine HRD.out.mono ?_;rintro e w6 ⟨rfl,hB6⟩;have HB6:=Lib.hid (hB.trans (hB6.mono hsz));have d0:=((HB1.out.trans (HB6.out.mono hsz1)).cell (World.block_lt_of_cell? w _ HC0.out)).trans HC0.out;have HO6:=Lib.hid (ownT_below hO.out hB6);have CT:=tupr.rtuple_any (some ⟨w6.heap.size,0,none⟩) 2 [x.t,R] (w6.alloc (.cells #[.string x.t,.string R] 9)) (Lib.hid (by
     intro j hj;refine⟨_,0,rfl,?_⟩;rw[World.cell?_alloc_new]
     match j,hj with
     | 0,_=>rfl
     | 1,_=>rfl)) (Lib.hid (by
     intro q hq;simp only[List.mem_cons,List.not_mem_nil,or_false]at hq;rcases hq with rfl | rfl
     ·exact hts
     ·exact hRs))
    have HT:Hid (Calls Tryz.prog 289 #[.slice (some ⟨w6.heap.size,0,none⟩) 2 2] (w6.alloc (.cells #[.string x.t,.string R] 9)) fun e w'=>(∃er:Int,e= .returned (.tuple #[.string (partB x),.int .i64 er]))∧Below (w6.alloc (.cells #[.string x.t,.string R] 9)).heap.size (w6.alloc (.cells #[.string x.t,.string R] 9)) w'):=(by refine CT.mono ?_;rintro e w' ⟨rfl,hb⟩;exact⟨⟨(tup.out [x.t,R]).2,by unfold tupw.tupV partB;rw[HRe.out]⟩,hb⟩);clear CT hB6 hts hRs HRD d1;go_wp2_with fail;refine HT.out.mono ?_;rintro e w7 ⟨⟨er,rfl⟩,hB7⟩;have hB67:Below w6.heap.size w6 w7:=((Below.refl w6.heap.size w6).alloc (Nat.le_refl _) _).trans (hB7.mono (by simp));have HB7:=Lib.hid (HB6.out.trans (hB67.mono HB6.out.size));have HO7:=Lib.hid (ownT_below HO6.out hB67);obtain⟨s,hs⟩: ∃s,s=partB x:=⟨_,rfl⟩;have hss:s.size≤4096:=(by rw[hs];exact partB_len x);have HSx:=Lib.hid hs;rw[←hs];clear hB7 hB67 HT d0 hs;go_wp2_with fail;go_loopw [10] (fun kv wq=> ∃k:Nat,k≤i∧kv= .int .i64 (k:Int)∧Hid (∀j (h:j<P.length),j<k→P[j].data.toList<s.data.toList)∧Below w7.heap.size w7 wq) (fun kv _=>i- (intOf kv).toNat);case atStart=>exact⟨0,Nat.zero_le _,rfl,fun j _ h=>by omega,Below.refl _ _⟩
    case round=>
     obtain⟨k,hk,rfl,hL,hBk⟩:=hrel;have HOk:=Lib.hid (ownT_below HO7.out hBk);have HBK:=Lib.hid (HB7.out.trans (hBk.mono HB7.out.size));obtain⟨ao0,cp0,hv0,hc0',hcs0⟩:=prw.ownT_cells HOk.out;simp only[Value.slice.injEq]at hv0;have hcell: ∀j (hj:j<P.length),wr.cell? ⟨g,j,none⟩=some (.string P[j]):=(by intro j hj;obtain⟨g',hg',_,hcc⟩:=hcs0 (by intro e;rw[e]at hj;simp at hj);have e1:some (⟨g,0,none⟩:Addr)=some ⟨g',0,none⟩:=hv0.1.trans hg';cases e1;have:=hcc j _ (List.getElem?_eq_getElem hj);rw[Nat.zero_add]at this;exact this);have hglt:P≠[]→g<wr.heap.size:=(by intro h;obtain⟨g',hg',hlt,_⟩:=hcs0 h;have e1:some (⟨g,0,none⟩:Addr)=some ⟨g',0,none⟩:=hv0.1.trans hg';cases e1;exact hlt);have hPmem: ∀j (hj:j<P.length),P[j].size≤4096:=(by intro j hj;have h1:P[j].data.toList∈dat P:=List.mem_map.2 ⟨P[j],List.getElem_mem hj,rfl⟩;have h2:=hPp.out.mem_iff.1 h1;unfold partsL at h2;obtain⟨a,_,ha⟩:=List.mem_map.1 h2;rw[←kt.size_len,←ha,kt.size_len];exact partB_len a);have HCELL:=Lib.hid hcell;clear hv0 hc0' hcs0;by_cases hki:k<i
     ·have hki':(k:Int)<(i:Int):=(by omega);have hkP:k<P.length:=(by rw[hPl.out];exact hki);have ck:=hcell k hkP;have CL:=ordw.less_any P[k] s wr (by have:=hPmem k hkP;omega);have hltk:Lib.compareBytes P[k].data.toList s.data.toList= -1↔P[k].data.toList<s.data.toList:=cmp_lt_iff _ _;have hge: ¬Lib.compareBytes P[k].data.toList s.data.toList= -1→Hid (∀hj:k<P.length,s.data.toList≤(P[k]'hj).data.toList):=fun h hj=>List.not_lt.1 (fun h2=>h (hltk.2 h2));have hLN:P[k].data.toList<s.data.toList→Hid (∀j (h:j<P.length),j<k+1→P[j].data.toList<s.data.toList):=by
       intro h j hj hjk;by_cases e:j=k
       ·subst e;exact h
       ·exact hL.out j hj (by omega)
      have h3:=ord.cmp_three P[k].data.toList s.data.toList;generalize Lib.compareBytes P[k].data.toList s.data.toList=cv at CL hltk hge h3;have HGE:=Lib.hid hge;have HLN:=Lib.hid hLN;generalize P[k]=pk at ck CL hltk HLN;by_cases hcv:cv= -1
      ·have HN:=HLN.out (hltk.1 hcv);subst hcv;have HCL:=Lib.hid CL;clear CL hge hLN hltk h3 HGE HLN hcell hPmem hglt;go_wp2_with fail;refine HCL.out.mono ?_;rintro e wz ⟨rfl,nn,rfl⟩;go_wp2_with fail;go_roundw;case rel=>exact⟨k+1,by omega,by go_num,HN,below_drewN2 hBk nn⟩
       case measure=>simp[intOf]<;>omega
      ·have HGE2:=HGE.out hcv;have hc0: ¬cv<0:=(by omega);have HCL:=Lib.hid CL;clear CL hge hLN hltk h3 HGE HLN hcell hcv;have HPE:Hid (∀nn,Below wr.heap.size wr (wr.drewN nn)):=fun nn=>below_drewN2 (Below.refl _ _) nn;go_wp2_with fail;refine HCL.out.mono ?_;rintro e wz ⟨rfl,nn,hwz⟩;have HZ:Hid (Below wr.heap.size wr wz):=(by show Below _ _ _;rw[hwz];exact HPE.out nn);have HCELLz:Hid (∀j (hj:j<P.length),wz.cell? ⟨g,j,none⟩=some (.string P[j])):=fun j hj=>(HZ.out.cell (p:=⟨g,j,none⟩) (hglt (by intro e;rw[e]at hj;simp at hj))).trans (HCELL.out j hj);have hgltz:P≠[]→g<wz.heap.size:=fun h=>Nat.lt_of_lt_of_le (hglt h) HZ.out.size;clear hglt hwz;have hglt:=hgltz;clear hgltz;have HBz:Hid (Below w7.heap.size w7 wz):=Lib.hid (hBk.trans (HZ.out.mono hBk.size));have hcz: ∀j (hj:j<P.length),(wz.alloc (.cells #[] 9)).cell? ⟨g,j,none⟩=some (.string P[j]):=(by intro j hj;have hne:P≠[]:=(by intro e;rw[e]at hj;simp at hj);exact(((Below.refl wz.heap.size wz).alloc (Nat.le_refl _) _).cell (p:=⟨g,j,none⟩) (show g<wz.heap.size from hglt hne)).trans (show wz.cell? ⟨g,j,none⟩=_ from HCELLz.out j hj));have hmade:prw.OwnT (wz.alloc (.cells #[] 9)) wz.heap.size (.slice (some ⟨wz.heap.size,0,none⟩) 0 0) []:=World.ownsRow_made wz #[] 0 (Nat.le_refl _) (by unfold maxLen;omega) rfl;have htkl:(P.take k).length=k:=(by rw[List.length_take,hPl.out];omega);have hdkl:(P.drop k).length=i-k:=(by rw[List.length_drop,hPl.out]);obtain⟨aoA,mA,capA,w10,hapA,hOA,hBA⟩:=ownT_appN (ys:=P.take k) g 0 cp (fun j hj=>by rw[List.length_take]at hj;rw[Nat.zero_add,List.getElem_take];exact hcz j (by omega)) hmade (by simp) (by rw[htkl];omega) (by simp);rw[htkl]at hapA;obtain⟨aoB,mB,capB,w11,hapB,hOB,hgB,hBB⟩:=ownT_appG s hOA (by rw[List.nil_append,htkl];omega) (Nat.le_trans (by simp) hBA.size);have hBAB:Below wz.heap.size wz w11:=(((Below.refl wz.heap.size wz).alloc (Nat.le_refl _) _).trans hBA).trans hBB;have hc11: ∀j (hj:j<P.length),w11.cell? ⟨g,j,none⟩=some (.string P[j]):=(by intro j hj;have hne:P≠[]:=(by intro e;rw[e]at hj;simp at hj);exact(hBAB.cell (p:=⟨g,j,none⟩) (show g<wz.heap.size from hglt hne)).trans (show wz.cell? ⟨g,j,none⟩=_ from HCELLz.out j hj));have hszC:wz.heap.size≤w11.heap.size:=hBAB.size;have hSI:=insAt_sorted hPs.out (by rw[hPl.out];omega) hL.out HGE2.out;have hPI:(dat (insAt P k s)).Perm (partsL (l.take (i+1))):=(by rw[HTK.out,←HSx.out];exact(insAt_perm P k s).trans ((List.Perm.cons _ hPp.out).trans (List.perm_append_singleton _ _).symm));have HSI:=Lib.hid hSI;have HPI:=Lib.hid hPI;have hIl:(insAt P k s).length=i+1:=(by unfold insAt;simp only[List.length_append,htkl,hdkl,List.length_cons,List.length_nil];try omega);clear hSI hPI;by_cases hck:cp=k
       ·exfalso;omega
       ·skip
        obtain⟨aoC,mC,capC,w12,hapC,hOC,hBC⟩:=ownT_appN (ys:=P.drop k) g k (cp-k) (fun j hj=>by rw[List.getElem_drop];exact hc11 (k+j) (by rw[List.length_drop]at hj;omega)) hOB (by simp[htkl];omega) (by rw[hdkl];omega) hszC;rw[hdkl]at hapC;have hapA:=ApR.mk hapA;have hapB:=ApR.mk hapB;have hapC:=ApR.mk hapC;have hOI:prw.OwnT w12 wz.heap.size (.slice aoC mC capC) (insAt P k s):=(by have h:=hOC;rw[List.nil_append]at h;exact h);obtain⟨aoI,cpI,hvI,hcI,hcsI⟩:=prw.ownT_cells hOI;rw[hIl]at hvI hcI;simp only[Value.slice.injEq]at hvI;obtain⟨rfl,rfl,rfl⟩:=hvI;obtain⟨gI,rfl,_,_⟩:=hcsI (by intro e;rw[e]at hIl;simp at hIl);have HREL:Hid (∃ (i':Nat) (P':List ByteArray) (g' cp':Nat),i'≤m∧Value.int IntKind.i64 ((i:Int)+1)= .int .i64 (i':Int)∧Value.slice (some ⟨gI,0,none⟩) (i+1) capC= .slice (some ⟨g',0,none⟩) i' cp'∧i'≤cp'∧Hid (prw.OwnT w12 w1.heap.size (.slice (some ⟨g',0,none⟩) i' cp') P')∧Hid (P'.length=i')∧Hid (SortedB P')∧Hid ((dat P').Perm (partsL (l.take i')))∧Below w1.heap.size w1 w12):=
         ⟨i+1,insAt P k s,gI,capC,by omega,by go_num,rfl,hcI,Lib.hid (ownT_mono hOI (Nat.le_trans HB7.out.size HBz.out.size)),Lib.hid hIl,HSI,HPI,(HB7.out.trans (HBz.out.mono HB7.out.size)).trans ((hBAB.trans hBC).mono (Nat.le_trans HB7.out.size HBz.out.size))⟩
        clear hOI hOC hOB hOA hmade hcz hc11 hBA hBB hBC hgB hIl hcI hcsI hBAB htkl hdkl hglt hPmem;go_wp2_with (first | (at_builtin;refine wp_apR rfl _ _ _ _ rfl _ _ hapA ?_) | (at_builtin;refine wp_apR rfl _ _ _ _ rfl _ _ hapB ?_) | (at_builtin;refine wp_apR rfl _ _ _ _ rfl _ _ hapC ?_));go_roundw;case rel=>exact HREL.out
        case measure=>simp[intOf]<;>omega
     ·obtain rfl:k=i:=(by omega);have HGE2:Hid (∀hj:k<P.length,s.data.toList≤(P[k]'hj).data.toList):=fun hj=>absurd hj (by rw[hPl.out];omega);have HBz:Hid (Below w7.heap.size w7 wr):=Lib.hid hBk;have hcz: ∀j (hj:j<P.length),(wr.alloc (.cells #[] 9)).cell? ⟨g,j,none⟩=some (.string P[j]):=(by intro j hj;have hne:P≠[]:=(by intro e;rw[e]at hj;simp at hj);exact(((Below.refl wr.heap.size wr).alloc (Nat.le_refl _) _).cell (p:=⟨g,j,none⟩) (show g<wr.heap.size from hglt hne)).trans (show wr.cell? ⟨g,j,none⟩=_ from HCELL.out j hj));have hmade:prw.OwnT (wr.alloc (.cells #[] 9)) wr.heap.size (.slice (some ⟨wr.heap.size,0,none⟩) 0 0) []:=World.ownsRow_made wr #[] 0 (Nat.le_refl _) (by unfold maxLen;omega) rfl;have htkl:(P.take k).length=k:=(by rw[List.length_take,hPl.out];omega);have hdkl:(P.drop k).length=0:=(by rw[List.length_drop,hPl.out];omega);obtain⟨aoA,mA,capA,w10,hapA,hOA,hBA⟩:=ownT_appN (ys:=P.take k) g 0 cp (fun j hj=>by rw[List.length_take]at hj;rw[Nat.zero_add,List.getElem_take];exact hcz j (by omega)) hmade (by simp) (by rw[htkl];omega) (by simp);rw[htkl]at hapA;obtain⟨aoB,mB,capB,w11,hapB,hOB,hgB,hBB⟩:=ownT_appG s hOA (by rw[List.nil_append,htkl];omega) (Nat.le_trans (by simp) hBA.size);have hBAB:Below wr.heap.size wr w11:=(((Below.refl wr.heap.size wr).alloc (Nat.le_refl _) _).trans hBA).trans hBB;have hc11: ∀j (hj:j<P.length),w11.cell? ⟨g,j,none⟩=some (.string P[j]):=(by intro j hj;have hne:P≠[]:=(by intro e;rw[e]at hj;simp at hj);exact(hBAB.cell (p:=⟨g,j,none⟩) (show g<wr.heap.size from hglt hne)).trans (show wr.cell? ⟨g,j,none⟩=_ from HCELL.out j hj));have hszC:wr.heap.size≤w11.heap.size:=hBAB.size;have hSI:=insAt_sorted hPs.out (by rw[hPl.out];omega) hL.out HGE2.out;have hPI:(dat (insAt P k s)).Perm (partsL (l.take (k+1))):=(by rw[HTK.out,←HSx.out];exact(insAt_perm P k s).trans ((List.Perm.cons _ hPp.out).trans (List.perm_append_singleton _ _).symm));have HSI:=Lib.hid hSI;have HPI:=Lib.hid hPI;have hIl:(insAt P k s).length=k+1:=(by unfold insAt;simp only[List.length_append,htkl,hdkl,List.length_cons,List.length_nil];try omega);clear hSI hPI;by_cases hck:cp=k
      ·subst hck;obtain⟨aoC,mC,capC,w12,hapC,hOC,hBC⟩:=ownT_appN (ys:=P.drop cp) g 0 0 (fun j hj=>absurd hj (by rw[hdkl];omega)) hOB (by simp[htkl];omega) (by rw[hdkl];omega) hszC;rw[hdkl]at hapC;have hapA:=ApR.mk hapA;have hapB:=ApR.mk hapB;have hapC:=ApR.mk hapC;have hOI:prw.OwnT w12 wr.heap.size (.slice aoC mC capC) (insAt P cp s):=(by have h:=hOC;rw[List.nil_append]at h;exact h);obtain⟨aoI,cpI,hvI,hcI,hcsI⟩:=prw.ownT_cells hOI;rw[hIl]at hvI hcI;simp only[Value.slice.injEq]at hvI;obtain⟨rfl,rfl,rfl⟩:=hvI;obtain⟨gI,rfl,_,_⟩:=hcsI (by intro e;rw[e]at hIl;simp at hIl);have HREL:Hid (∃ (i':Nat) (P':List ByteArray) (g' cp':Nat),i'≤m∧Value.int IntKind.i64 ((cp:Int)+1)= .int .i64 (i':Int)∧Value.slice (some ⟨gI,0,none⟩) (cp+1) capC= .slice (some ⟨g',0,none⟩) i' cp'∧i'≤cp'∧Hid (prw.OwnT w12 w1.heap.size (.slice (some ⟨g',0,none⟩) i' cp') P')∧Hid (P'.length=i')∧Hid (SortedB P')∧Hid ((dat P').Perm (partsL (l.take i')))∧Below w1.heap.size w1 w12):=
        ⟨cp+1,insAt P cp s,gI,capC,by omega,by go_num,rfl,hcI,Lib.hid (ownT_mono hOI (Nat.le_trans HB7.out.size HBz.out.size)),Lib.hid hIl,HSI,HPI,(HB7.out.trans (HBz.out.mono HB7.out.size)).trans ((hBAB.trans hBC).mono (Nat.le_trans HB7.out.size HBz.out.size))⟩
       clear hOI hOC hOB hOA hmade hcz hc11 hBA hBB hBC hgB hIl hcI hcsI hBAB htkl hdkl hglt hPmem;go_wp2_with (first | (at_builtin;refine wp_apR rfl _ _ _ _ rfl _ _ hapA ?_) | (at_builtin;refine wp_apR rfl _ _ _ _ rfl _ _ hapB ?_) | (at_builtin;refine wp_apR rfl _ _ _ _ rfl _ _ hapC ?_));go_roundw;case rel=>exact HREL.out
       case measure=>simp[intOf]<;>omega
      ·skip
       obtain⟨aoC,mC,capC,w12,hapC,hOC,hBC⟩:=ownT_appN (ys:=P.drop k) g k (cp-k) (fun j hj=>by rw[List.getElem_drop];exact hc11 (k+j) (by rw[List.length_drop]at hj;omega)) hOB (by simp[htkl];omega) (by rw[hdkl];omega) hszC;rw[hdkl]at hapC;have hapA:=ApR.mk hapA;have hapB:=ApR.mk hapB;have hapC:=ApR.mk hapC;have hOI:prw.OwnT w12 wr.heap.size (.slice aoC mC capC) (insAt P k s):=(by have h:=hOC;rw[List.nil_append]at h;exact h);obtain⟨aoI,cpI,hvI,hcI,hcsI⟩:=prw.ownT_cells hOI;rw[hIl]at hvI hcI;simp only[Value.slice.injEq]at hvI;obtain⟨rfl,rfl,rfl⟩:=hvI;obtain⟨gI,rfl,_,_⟩:=hcsI (by intro e;rw[e]at hIl;simp at hIl);have HREL:Hid (∃ (i':Nat) (P':List ByteArray) (g' cp':Nat),i'≤m∧Value.int IntKind.i64 ((k:Int)+1)= .int .i64 (i':Int)∧Value.slice (some ⟨gI,0,none⟩) (k+1) capC= .slice (some ⟨g',0,none⟩) i' cp'∧i'≤cp'∧Hid (prw.OwnT w12 w1.heap.size (.slice (some ⟨g',0,none⟩) i' cp') P')∧Hid (P'.length=i')∧Hid (SortedB P')∧Hid ((dat P').Perm (partsL (l.take i')))∧Below w1.heap.size w1 w12):=
        ⟨k+1,insAt P k s,gI,capC,by omega,by go_num,rfl,hcI,Lib.hid (ownT_mono hOI (Nat.le_trans HB7.out.size HBz.out.size)),Lib.hid hIl,HSI,HPI,(HB7.out.trans (HBz.out.mono HB7.out.size)).trans ((hBAB.trans hBC).mono (Nat.le_trans HB7.out.size HBz.out.size))⟩
       clear hOI hOC hOB hOA hmade hcz hc11 hBA hBB hBC hgB hIl hcI hcsI hBAB htkl hdkl hglt hPmem;go_wp2_with (first | (at_builtin;refine wp_apR rfl _ _ _ _ rfl _ _ hapA ?_) | (at_builtin;refine wp_apR rfl _ _ _ _ rfl _ _ hapB ?_) | (at_builtin;refine wp_apR rfl _ _ _ _ rfl _ _ hapC ?_));go_roundw;case rel=>exact HREL.out
       case measure=>simp[intOf]<;>omega
   ·obtain rfl:i=m:=(by omega);have hPe:Hid ((dat P).Perm (partsL l)):=(by have h:=hPp.out;rw[HM.out,List.take_length]at h;exact h);have HK:=Lib.hid (key_ok hPs.out hPe.out);have hPmem: ∀j (hj:j<P.length),P[j].size≤4096:=(by intro j hj;have h1:P[j].data.toList∈dat P:=List.mem_map.2 ⟨P[j],List.getElem_mem hj,rfl⟩;have h2:=hPe.out.mem_iff.1 h1;unfold partsL at h2;obtain⟨a,_,ha⟩:=List.mem_map.1 h2;rw[←kt.size_len,←ha,kt.size_len];exact partB_len a);have HMEM:=Lib.hid hPmem;obtain⟨ao0,cp0,hv0,hc0',hcs0⟩:=prw.ownT_cells hO.out;simp only[Value.slice.injEq]at hv0;have hcell: ∀j (hj:j<P.length),wr.cell? ⟨g,j,none⟩=some (.string P[j]):=(by intro j hj;obtain⟨g',hg',_,hcc⟩:=hcs0 (by intro e;rw[e]at hj;simp at hj);have e1:some (⟨g,0,none⟩:Addr)=some ⟨g',0,none⟩:=hv0.1.trans hg';cases e1;have:=hcc j _ (List.getElem?_eq_getElem hj);rw[Nat.zero_add]at this;exact this);have HCELL:=Lib.hid hcell;have HBW:=Lib.hid (HB1.out.trans (hB.mono hsz1));clear hPp hPs hPe hPmem hcell hv0 hc0' hcs0 hO;obtain⟨wo,rfl⟩: ∃x,x=wr:=⟨_,rfl⟩;go_wp2_with fail;go_loopw [12,13] (fun sv jv wq=> ∃ (j:Nat) (T:ByteArray),j≤i∧jv= .int .i64 (j:Int)∧sv= .string T∧Hid (T=bytes (dat (P.take j)).flatten)∧T.size≤4096*j∧wo=wq) (fun _ jv _=>i- (intOf jv).toNat);case atStart=>exact⟨0,_,Nat.zero_le _,rfl,rfl,rfl,Nat.le_refl _,rfl⟩
    case round=>
     obtain⟨j,T,hj,rfl,rfl,hT,hTs,rfl⟩:=hrel;by_cases hjl:j<i
     ·have hjl':(j:Int)<(i:Int):=(by omega);have hjP:j<P.length:=(by rw[hPl.out];exact hjl);have ck:=HCELL.out j hjP;have hps:=HMEM.out j hjP;have hst:dat (P.take (j+1))=dat (P.take j)++[P[j].data.toList]:=(by unfold dat;rw[List.take_succ_eq_append_getElem hjP,List.map_append];rfl);generalize P[j]=s at ck hps hst;obtain⟨T2,hT2⟩: ∃T2,T2=T++s:=⟨_,rfl⟩;have h2s:T2.size=T.size+s.size:=(by rw[hT2,ByteArray.size_append]);have hadd: ∀W,(Op.stringOp .add T s).run Tryz.prog W= .ok (.string T2) W:=fun W=>by rw[hT2];exact run_string_add_sum W _ _ (by omega)
      have HT2:Hid (T2=bytes (dat (P.take (j+1))).flatten):=(by show _=_;rw[hst,List.flatten_append,hT2,hT.out];apply kt.str_eq;rw[ByteArray.data_append,bytes_data];simp[bytes]);have h2l:T2.size≤4096*(j+1):=(by omega);clear hst hT2 h2s hps;go_wp2_with fail;go_roundw;case rel=>exact⟨j+1,T2,by omega,by go_num,rfl,HT2,h2l,trivial⟩
      case measure=>simp[intOf]<;>omega
     ·obtain rfl:j=i:=(by omega);have hTT:T=bytes (keyL l):=(by rw[hT.out,←HK.out,List.take_of_length_le (by rw[hPl.out];exact Nat.le_refl _)]);have HKK:=Lib.hid (HKE.out T hTT);clear hTT hT;go_wp2_with fail;go_ret2;exact⟨HKK.out,HBW.out⟩
end dnw
open Go.RowKit
namespace dnw
open dnp
theorem keyE_yes {l:List Av}(h:rdnOK l=true):KeyE l (.returned (.tuple #[.string (bytes (keyL l)),.int .i64 0])):=by unfold KeyE;rw[if_pos h]
theorem keyE_no {l:List Av}(h:rdnOK l=false):KeyE l (.returned (.tuple #[.string ⟨#[]⟩,.int .i64 4])):=by unfold KeyE;rw[if_neg (by rw[h];simp)]
theorem rkeys_any (ao:Option Addr)(cap:Nat)(n:List (List Av))(w:World)(hA:Hid (Rdns w ao n))(hn:n.length≤1000)(hS:Hid (∀l∈n,l.length≤4→Smalls l)):
  Calls Tryz.prog 197 #[.slice ao n.length cap] w fun e w'=>KeysE n w e w':=by
 have CR:=rright_any ao cap n w hA hn hS;obtain⟨m,hm⟩: ∃m,m=n.length:=⟨_,rfl⟩;have HM:=Lib.hid hm;rw[←hm]at CR hn ⊢;clear hm;cases hok:nameOK n with
 | false=>rw[hok]at CR;have HC:=Lib.hid CR;have HOK:=Lib.hid hok;clear CR hok;go_enter Tryz.func197,Tryz.ntmps197;go_wp2_with fail;refine HC.out.mono ?_;rintro e w1 ⟨rfl,hB1⟩;go_wp2_with fail;go_ret2;refine⟨hB1,?_⟩;rw[if_neg (by rw[HOK.out];simp)];rfl
 | true=>
  rw[hok]at CR;have HC:=Lib.hid CR;have HOK:=Lib.hid hok;have hf:=nameOK_facts hok;have hm12:m≤12:=by rw[HM.out];exact hf.1
  have HL:=Lib.hid hf.2;have k0:IntKind.i64.wrap ((m:Int)-1)=(m:Int)-1:=IntWalk.i64_in _ (by omega);clear CR hok hf;go_enter Tryz.func197,Tryz.ntmps197;go_wp2_with fail;refine HC.out.mono ?_;rintro e w1 ⟨rfl,hB1⟩;have HB1:=Lib.hid hB1;have hsz1:=hB1.size;clear hB1 HC;go_wp2_with fail;go_loopw [4,5,6,7] (fun rv iv _ _ wr=> ∃ (c:Nat) (z:Int),c≤m∧iv= .int .i64 z∧z=(m:Int)-1- (c:Int)∧Hid (prw.OwnT wr w1.heap.size rv ((n.reverse.take c).map fun l=>bytes (keyL l)))∧Below w1.heap.size w1 wr) (fun _ iv _ _ _=>(intOf iv+1).toNat);case atStart=>exact⟨0,_,Nat.zero_le _,rfl,by simp,World.ownsRow_made w1 #[] 0 (Nat.le_refl _) (by unfold maxLen;omega) rfl,(Below.refl _ _).alloc (Nat.le_refl _) _⟩
  case round=>
   obtain⟨c,z,hc,rfl,hz,hO,hB⟩:=hrel;have HZ:=Lib.hid hz;have hsz:=hB.size;obtain⟨aoR,mR,capR,rfl,hmR⟩:=ownT_form hO.out;by_cases hlt:c<m
   ·obtain⟨j,hj⟩: ∃j,j=m-1-c:=⟨_,rfl⟩;obtain rfl:z=(j:Int):=(by omega);clear hz;have hjm:(j:Int)<(m:Int):=(by omega);have hj0:(0:Int)≤(j:Int):=(by omega);have hjl:j<n.length:=(by rw[←HM.out];omega);have hcl:c<n.length:=(by rw[←HM.out];exact hlt);have HBT:=Lib.hid (HB1.out.trans (hB.mono hsz1));have HST:=revTake_step n c hcl;have hje:n.length-1-c=j:=(by rw[←HM.out];exact hj.symm);have HST2:(n.reverse.take (c+1)).map (fun l=>bytes (keyL l))=(n.reverse.take c).map (fun l=>bytes (keyL l))++[bytes (keyL n[j])]:=(by rw[HST];congr 4;simp only[hje]);obtain⟨b,o,ao',cap',hao,hc0,hcc,hAv⟩:=(rdns_below hA.out HBT.out) j hjl;subst hao;have hro:=HL.out n[j] (List.getElem_mem hjl);have CK:=rkey_any ao' cap' n[j] wr (Lib.hid hAv) (Lib.hid (hS.out n[j] (List.getElem_mem hjl)));have hst:=Lib.hid HST2;have hEE: ∀e,KeyE n[j] e→e= .returned (.tuple #[.string (bytes (keyL n[j])),.int .i64 0]):=(by intro e h;unfold KeyE at h;rw[if_pos hro]at h;exact h);have k1:IntKind.i64.wrap ((j:Int)-1)=(j:Int)-1:=IntWalk.i64_in _ (by omega);have HREL:Hid ((j:Int)-1=(m:Int)-1- ((c+1:Nat):Int)):=(by show _=_;omega);generalize n[j]=l at hc0 CK hst hEE;obtain⟨p,hp⟩: ∃p,p=l.length:=⟨_,rfl⟩;rw[←hp]at hc0 CK;have HCK:Hid (Calls Tryz.prog 259 #[.slice ao' p cap'] wr fun e w'=>e= .returned (.tuple #[.string (bytes (keyL l)),.int .i64 0])∧Below wr.heap.size wr w'):=CK.mono fun e w' h=>⟨hEE e h.1,h.2⟩;clear CK HST HST2 hje hro hAv hcc hp hj hEE;generalize bytes (keyL l)=KB at HCK hst;go_wp2_with fail;refine HCK.out.mono ?_;rintro e w2 ⟨rfl,hB2⟩;obtain⟨ao7,m7,cap7,w8,hap,hO8,_,hB8⟩:=ownT_appG KB (ownT_below hO.out hB2) (by rw[List.length_map,List.length_take,List.length_reverse];omega) (Nat.le_trans hsz hB2.size);have HO8:Hid (prw.OwnT w8 w1.heap.size (.slice ao7 m7 cap7) ((n.reverse.take (c+1)).map fun l=>bytes (keyL l))):=(by show prw.OwnT _ _ _ _;rw[hst.out];exact hO8);have HB8:=Lib.hid ((hB.trans (hB2.mono hsz)).trans hB8);clear hO8 hB8 hB2 HCK hst;go_wp2_with (at_builtin;refine Lib.wpList_append_run _ rfl _ _ _ _ rfl _ _ rfl rfl _ _ hap ?_);go_roundw;case rel=>exact⟨c+1,_,by omega,rfl,HREL.out,HO8,HB8.out⟩
    case measure=>simp[intOf]<;>omega
   ·obtain rfl:c=m:=(by omega);have hzn: ¬ (0:Int)≤z:=(by omega);have hO1:=hO.out;rw[HM.out,List.take_of_length_le (by rw[List.length_reverse];exact Nat.le_refl _)]at hO1;obtain⟨hst,hml,hmc⟩:=ownT_strs hO1;rw[List.length_map,List.length_reverse]at hml;have HST:=Lib.hid hst;have HML:=Lib.hid hml;clear hO1 hst hml hz;go_wp2_with fail;go_ret2;refine⟨HB1.out.trans (hB.mono hsz1),?_⟩;rw[if_pos HOK.out];have h1:=HML.out;subst h1;exact⟨aoR,capR,rfl,hmc,HST.out⟩
end dnw
namespace dnw
open dnp
theorem signs_len: ∀ (n:Nat) (l:List UInt8) (L:List Sg),l.length≤n→signs l=some L→L.length≤l.length
 | n,[],L,_,h=>by rw[signs_nil]at h;cases h;exact Nat.le_refl _
 | 0,_::_,_,h,_=>by simp at h
 | n+1,c::t,L,hn,h=>by
  simp only[List.length_cons]at hn;by_cases h92:c=92
  ·subst h92;cases he:esc t with
   | none=>rw[signs_bad t he]at h;cases h
   | some p=>obtain⟨d,k⟩:=p;rw[signs_esc t d k he]at h;obtain⟨q,hq,rfl⟩:=Option.map_eq_some_iff.1 h;have:=signs_len n (t.drop k) q (by rw[List.length_drop];omega) hq;rw[List.length_drop]at this;simp only[List.length_cons];omega
  ·rw[signs_bare c t h92]at h;obtain⟨q,hq,rfl⟩:=Option.map_eq_some_iff.1 h;have:=signs_len n t q (by omega) hq;simp only[List.length_cons];omega
theorem dropW_len {α:Type}(p:α→Bool)(l:List α):(l.dropWhile p).length≤l.length:=by obtain⟨a,h,_⟩:=dropW_split p l;have:=congrArg List.length h;rw[List.length_append]at this;omega
theorem trim_len (L:List Sg):(trim L).length≤L.length:=by unfold trim;have h1:=trimR_len (L.dropWhile blankS);have h2:=dropW_len blankS L;omega
theorem pairS_small {B:List Sg}{p:Pr}(h:pairS B=some p):p.1.length≤32∧p.2.length≤B.length∧1≤B.length:=by
 obtain⟨A,V,rfl,_,_,h1,_,rfl⟩:=pairS_some h;have h2:=trim_len V;refine⟨?_,?_,?_⟩
 ·unfold typeOK at h1;simp only[Bool.and_eq_true,decide_eq_true_eq]at h1;exact h1.1.2
 ·simp only[List.length_map,List.length_append,List.length_cons];omega
 ·simp only[List.length_append,List.length_cons];omega
def Seg (L:List Sg)(j0 i:Nat):Prop:=j0≤i∧i≤L.length∧ ∀j (h:j<L.length),j0≤j→j<i→sepS L[j]=false
def segL (L:List Sg)(j0 i:Nat):List Sg:=(L.drop j0).take (i-j0)
theorem segL_len {L:List Sg}{j0 i:Nat}(h:Seg L j0 i):(segL L j0 i).length=i-j0:=by unfold segL;rw[List.length_take,List.length_drop];have:=h.1;have:=h.2.1;omega
theorem segL_sep {L:List Sg}{j0 i:Nat}(h:Seg L j0 i): ∀x∈segL L j0 i,sepS x=false:=by
 intro x hx;obtain⟨k,hk,rfl⟩:=List.mem_iff_getElem.1 hx;have hk':=hk;rw[segL_len h]at hk';have e:(segL L j0 i)[k]=L[j0+k]'(by have:=h.2.1;omega):=by simp only[segL,List.getElem_take,List.getElem_drop]
 rw[e];exact h.2.2 (j0+k) _ (by omega) (by have:=h.1;omega)
theorem segL_at {L:List Sg}{j0 i:Nat}(h:Seg L j0 i)(hi:i<L.length):L.drop j0=segL L j0 i++L[i]::L.drop (i+1):=by unfold segL;have h1:=(List.take_append_drop (i-j0) (L.drop j0)).symm;rw[List.drop_drop,show j0+(i-j0)=i from by have:=h.1;omega]at h1;rw[List.drop_eq_getElem_cons hi]at h1;exact h1
theorem segL_end {L:List Sg}{j0:Nat}(h:Seg L j0 L.length):L.drop j0=segL L j0 L.length:=by unfold segL;rw[List.take_of_length_le (by rw[List.length_drop];exact Nat.le_refl _)]
theorem seg_next {L:List Sg}{j0 i:Nat}(h:Seg L j0 i)(hi:i<L.length)(hs:sepS L[i]=false):Seg L j0 (i+1):=by
 refine⟨by have:=h.1;omega,by omega,fun j hj h1 h2=> ?_⟩;by_cases e:j=i
 ·subst e;exact hs
 ·exact h.2.2 j hj h1 (by omega)
theorem seg_new {L:List Sg}{i:Nat}(hi:i≤L.length):Seg L i i:=⟨Nat.le_refl _,hi,fun j _ h1 h2=>by omega⟩
def GAt (L:List Sg)(ns:List (List Av))(cur:List Av)(j0:Nat):Prop:=GR [] [] L=GR ns cur (L.drop j0)
theorem sep_eq {x:Sg}(h:sepS x=true):x=(x.1,true)∧isSep x.1=true:=by obtain⟨c,b⟩:=x;unfold sepS at h;simp only[Bool.and_eq_true]at h;obtain⟨rfl,h2⟩:=h;exact⟨rfl,h2⟩
theorem gat_none {L:List Sg}{ns:List (List Av)}{cur:List Av}{j0 i:Nat}(h:GAt L ns cur j0)(hs:Seg L j0 i)(he: ∀h:i<L.length,sepS L[i]=true)(hp:pairS (segL L j0 i)=none):GR [] [] L=none:=by
 rw[h];by_cases hi:i<L.length
 ·have h1:=he hi;obtain⟨e1,e2⟩:=sep_eq h1;rw[segL_at hs hi,e1];exact GR_bad (segL_sep hs) e2 hp
 ·obtain rfl:i=L.length:=by have:=hs.2.1;omega
  rw[segL_end hs];exact GR_bad_end (segL_sep hs) hp
theorem gat_end {L:List Sg}{ns:List (List Av)}{cur:List Av}{j0:Nat}{p:Pr}(h:GAt L ns cur j0)(hs:Seg L j0 L.length)(hp:pairS (segL L j0 L.length)=some p):GR [] [] L=some (ns++[cur++[av p]]):=by rw[h,segL_end hs];exact GR_end (segL_sep hs) hp
theorem gat_plus {L:List Sg}{ns:List (List Av)}{cur:List Av}{j0 i:Nat}{p:Pr}(h:GAt L ns cur j0)(hs:Seg L j0 i)(hi:i<L.length)(he:L[i]=(43,true))(hp:pairS (segL L j0 i)=some p):GAt L ns (cur++[av p]) (i+1):=by unfold GAt at*;rw[h,segL_at hs hi,he];exact GR_plus (segL_sep hs) hp
theorem gat_next {L:List Sg}{ns:List (List Av)}{cur:List Av}{j0 i:Nat}{p:Pr}(h:GAt L ns cur j0)(hs:Seg L j0 i)(hi:i<L.length)(he:sepS L[i]=true)(h43:L[i].1≠43)(hp:pairS (segL L j0 i)=some p):GAt L (ns++[cur++[av p]]) [] (i+1):=by unfold GAt at*;obtain⟨e1,e2⟩:=sep_eq he;rw[h,segL_at hs hi,e1];exact GR_next (segL_sep hs) e2 h43 hp
end dnw
open Go.RowKit
namespace dnw
open dnp
theorem u8_special (c:UInt8):special c=decide ((c.toNat:Int)=34∨(c.toNat:Int)=43∨(c.toNat:Int)=44∨(c.toNat:Int)=59∨(c.toNat:Int)=60∨(c.toNat:Int)=61∨(c.toNat:Int)=62∨(c.toNat:Int)=92):=by
 have all: ∀m:Fin 256,special (UInt8.ofNat m.val)=decide ((m.val:Int)=34∨(m.val:Int)=43∨(m.val:Int)=44∨(m.val:Int)=59∨(m.val:Int)=60∨(m.val:Int)=61∨(m.val:Int)=62∨(m.val:Int)=92):=by decide+kernel
 have h:=all ⟨c.toNat,c.toNat_lt⟩;simp only[UInt8.ofNat_toNat]at h;exact h
theorem special_any (c:UInt8)(w:World):Calls Tryz.prog 206 #[.int .u8 (c.toNat:Int)] w fun e w'=>e= .returned (.bool (special c))∧w=w':=by
 rw[u8_special];generalize(c.toNat:Int)=r;go_enter Tryz.func206,Tryz.ntmps206;go_wp2;all_goals
  go_ret;refine⟨kt.ret_bool ?_,rfl⟩
  (try simp only[beq_iff_eq,beq_eq_false_iff_ne,ne_eq,bne_iff_ne]at*)
  first
   | exact(decide_eq_true (by omega)).symm
   | exact(decide_eq_false (by omega)).symm
   | (rw[Bool.eq_iff_iff];simp only[Bool.or_eq_true,decide_eq_true_eq,beq_iff_eq];omega)
def scell (x:Sg):List Value:=[.int .u8 (x.1.toNat:Int),.bool x.2]
def scells (l:List Sg):List Value:=l.flatMap scell
def OwnS (w:World)(B:Nat)(v:Value)(l:List Sg):Prop:=kt.SegX w B 194 2 v l.length (scells l)
def Sgs (w:World)(ao:Option Addr)(l:List Sg):Prop:= ∀i (hi:i<l.length),∃b o,ao=some ⟨b,o,none⟩∧w.cell? ⟨b,o+i*2,none⟩=some (.int .u8 (l[i].1.toNat:Int))∧w.cell? ⟨b,o+i*2+1,none⟩=some (.bool l[i].2)
theorem sgs_below {w w':World}{ao:Option Addr}{l:List Sg}(h:Sgs w ao l)(hb:Below w.heap.size w w'):Sgs w' ao l:=by intro i hi;obtain⟨b,o,h1,h2,h3⟩:=h i hi;exact⟨b,o,h1,(hb.cell (World.block_lt_of_cell? w _ h2)).trans h2,(hb.cell (World.block_lt_of_cell? w _ h3)).trans h3⟩
theorem ownS_sgs {w:World}{B cap:Nat}{ao:Option Addr}{l:List Sg}(h:OwnS w B (.slice ao l.length cap) l):Sgs w ao l:=by
 intro i hi;obtain⟨g,o,cap',hv,_,_,hc⟩:=kt.segX_cell h (by omega);simp only[Value.slice.injEq]at hv;obtain⟨rfl,_,_⟩:=hv;have h0:=kt.flat_get scell 2 (fun _=>rfl) l i 0 hi (by omega);have h1:=kt.flat_get scell 2 (fun _=>rfl) l i 1 hi (by omega);refine⟨g,o,rfl,?_,?_⟩
 ·exact hc _ _ h0
 ·rw[Nat.add_assoc];exact hc _ _ h1
theorem scells_append (a b:List Sg):scells (a++b)=scells a++scells b:=List.flatMap_append ..
theorem infoSign:(Tryz.prog.info? 194).map (fun i=>(i.zero,i.size,i.bytes))=some (some (.agg #[.int .u8 0,.bool false]),2,2):=by kernel_rfl
theorem ownS_below {w w':World}{B:Nat}{v:Value}{l:List Sg}(h:OwnS w B v l)(hb:Below w.heap.size w w'):OwnS w' B v l:=kt.segX_below h hb
theorem ownS_app {w:World}{B:Nat}{v:Value}{l:List Sg}(x:Sg)(h:OwnS w B v l)(hl:l.length≤1100000)(hB:B≤w.heap.size):
  ∃v' w1,(Builtin.append_ #[189,189] 189 #[v,.slice (some ⟨w.heap.size,0,none⟩) 1 1]).run Tryz.prog (w.alloc (.cells #[.int .u8 (x.1.toNat:Int),.bool x.2] 194))= .ok v' w1∧OwnS w1 B v' (l++[x])∧Below B w w1:=by
 have hn:=ownS_below h (w':=w.alloc (.cells #[.int .u8 (x.1.toNat:Int),.bool x.2] 194)) ((Below.refl _ _).alloc (Nat.le_refl _) _);obtain⟨v',w1,h1,h2,h3,_⟩:=kt.segX_append (P:=Tryz.prog) (t:=189) (ty:=189) Tryz.underlying189 infoSign rfl (by omega) ⟨w.heap.size,0,none⟩ 1 1 (scell x) rfl (fun j u hj=>by rw[kt.addr_add,World.cell?_alloc_new];simpa[scell]using hj) (by intro u hu;simp[scell]at hu;rcases hu with rfl | rfl<;>rfl) hn (by unfold maxLen;omega) (by omega) (by simp;omega);refine⟨v',w1,h1,?_,((Below.refl B w).alloc hB _).trans (below_of_gr h3 (by simp;omega) (fun k hk=>(kt.segX_lt hn k hk).1))⟩;unfold OwnS;rw[List.length_append,scells_append];have e:scells [x]=scell x:=by simp[scells]
 rw[e];exact h2
end dnw
open Go.RowKit
namespace dnw
open dnp
def cutA (ao:Option Addr)(cap lo:Nat):Option Addr:=if cap=lo then ao else ao.map (·.add (lo*2))
theorem cutA_some (b o cap lo:Nat):cutA (some ⟨b,o,none⟩) cap lo=if cap=lo then some ⟨b,o,none⟩else some ⟨b,o+lo*2,none⟩:=by
 unfold cutA;split
 ·rfl
 ·simp only[Option.map_some,Addr.add_mid]
theorem sgs_cut {w:World}{ao:Option Addr}{L:List Sg}{cap lo:Nat}(h:Sgs w ao L)(hc:L.length≤cap):Sgs w (cutA ao cap lo) (L.drop lo):=by
 intro i hi;rw[List.length_drop]at hi;obtain⟨b,o,e,h1,h2⟩:=h (lo+i) (by omega);subst e;rw[List.getElem_drop];unfold cutA;rw[if_neg (by omega)];refine⟨b,o+lo*2,by simp only[Option.map_some,Addr.add_mid],?_,?_⟩
 ·rw[show o+lo*2+i*2=o+(lo+i)*2 from by rw[Nat.add_mul];omega];exact h1
 ·rw[show o+lo*2+i*2+1=o+(lo+i)*2+1 from by rw[Nat.add_mul];omega];exact h2
theorem sgs_take {w:World}{ao:Option Addr}{M:List Sg}(h:Sgs w ao M)(k:Nat):Sgs w ao (M.take k):=by intro i hi;rw[List.length_take]at hi;rw[List.getElem_take];exact h i (by omega)
def slen:Value→Nat
 | .slice _ n _=>n
 | _=>0
end dnw
open Go.RowKit
namespace dnw
open dnp
theorem trimR_endblank {M:List Sg}{x:Sg}(h:blankS x=true):trimR (M++[x])=trimR M:=by unfold trimR;rw[List.reverse_append];show(List.dropWhile blankS (x::M.reverse)).reverse=_;rw[List.dropWhile_cons,if_pos h]
theorem trimR_endkeep {M:List Sg}{x:Sg}(h:blankS x=false):trimR (M++[x])=M++[x]:=by unfold trimR;rw[List.reverse_append];show(List.dropWhile blankS (x::M.reverse)).reverse=_;rw[List.dropWhile_cons,if_neg (by rw[h];simp)];simp
def TrimE (L:List Sg)(w:World)(e:Ending)(w':World):Prop:=w=w'∧ ∃ao cap,e= .returned (.slice ao (trim L).length cap)∧(trim L).length≤cap∧Sgs w ao (trim L)
theorem trimE_of {L:List Sg}{w:World}{ao:Option Addr}{cap:Nat}{M:List Sg}(h:trim L=M)(hc:M.length≤cap)(hs:Sgs w ao M):TrimE L w (.returned (.slice ao M.length cap)) w:=by subst h;exact⟨rfl,ao,cap,rfl,hc,hs⟩
theorem trim_drop {M:List Sg}{L:List Sg}{x:Sg}(h:L.dropWhile blankS=(x::M).dropWhile blankS)(hx:blankS x=true):L.dropWhile blankS=M.dropWhile blankS:=by rw[h,List.dropWhile_cons,if_pos hx]
theorem trim_head {M:List Sg}{L:List Sg}(h:L.dropWhile blankS=M.dropWhile blankS)(hx: ∀x t,M=x::t→blankS x=false):trim L=trimR M:=by unfold trim;rw[h,dropW_id _ M hx]
theorem trim_any (ao:Option Addr)(cap:Nat)(L:List Sg)(w:World)(hA:Hid (Sgs w ao L))(hc:L.length≤cap)(hl:L.length≤1100000):
    Calls Tryz.prog 159 #[.slice ao L.length cap] w fun e w'=>TrimE L w e w':=by
  go_enter Tryz.func159,Tryz.ntmps159;go_wp2_with fail;go_loopw [0] (fun lv wr=> ∃ (ao:Option Addr) (m cap:Nat) (M:List Sg),lv= .slice ao m cap∧Hid (m=M.length)∧m≤cap∧m≤1100000∧Hid (Sgs w ao M)∧Hid (L.dropWhile blankS=M.dropWhile blankS)∧w=wr) (fun lv _=>slen lv);case atStart=>exact⟨ao,_,cap,L,rfl,rfl,hc,hl,hA,rfl,rfl⟩
  case round=>
    clear hA hc hl;obtain⟨ao,m,cap,M,rfl,hm,hc,hl,hA,hD,rfl⟩:=hrel;by_cases hb: ∃x t,M=x::t∧blankS x=true
    · obtain⟨x,t,rfl,hx⟩:=hb;obtain⟨k,rfl⟩: ∃k,m=k+1:=⟨t.length,by rw[hm.out];rfl⟩;have HX:=Lib.hid (trim_drop hD.out hx);obtain⟨b,o,hao,c0,c1⟩:=hA.out 0 (by simp);have hS:=sgs_cut (lo:=1) hA.out (by rw[←hm.out];exact hc);obtain⟨c,bare⟩:=x;unfold blankS at hx;simp only[Bool.and_eq_true,decide_eq_true_eq]at hx;obtain⟨rfl,rfl⟩:=hx;simp only[Nat.zero_mul,Nat.add_zero,List.getElem_cons_zero]at c0 c1;subst hao;have HS:Hid (Sgs w (if cap=1 then some ⟨b,o,none⟩else some ⟨b,o+2,none⟩) t):=(by have h:cutA (some ⟨b,o,none⟩) cap 1=if cap=1 then some ⟨b,o,none⟩else some ⟨b,o+2,none⟩:=cutA_some b o cap 1;rw[h]at hS;exact hS);have HM:Hid (k=t.length):=(by have:=hm.out;simp only[List.length_cons]at this;show k=_;omega);clear hS hm hD hA;go_wp2_with fail;go_roundw;case rel=>exact⟨_,_,_,t,rfl,HM,by omega,by omega,HS,HX,trivial⟩
      case measure=>simp[slen]<;>omega
    · have HD:=Lib.hid (trim_head hD.out (fun x t h=>by
        cases hx:blankS x with
        | false=>rfl
        | true=>exact absurd ⟨x,t,h,hx⟩ hb))
      have hM:M=[]∧m=0∨ ∃c t,M=(c,false)::t∨(M=(c,true)::t∧ ¬ (c.toNat:Int)=32):=by
        cases M with
        | nil=>exact Or.inl ⟨rfl,by rw[hm.out];rfl⟩
        | cons x t=>
          obtain⟨c,bare⟩:=x;refine Or.inr ⟨c,t,?_⟩;cases bare with
          | false=>exact Or.inl rfl
          | true=>refine Or.inr ⟨rfl,fun h=>hb ⟨_,t,rfl,?_⟩⟩;show(true&&decide (c=32))=true;rw[u8_eq (n:=32) (by omega) h];rfl
      have hfacts:m=0∨(0<m∧ ∃b o,ao=some ⟨b,o,none⟩∧((w.cell? ⟨b,o+1,none⟩=some (.bool false))∨ ∃c:UInt8,w.cell? ⟨b,o+1,none⟩=some (.bool true)∧w.cell? ⟨b,o,none⟩=some (.int .u8 (c.toNat:Int))∧((c.toNat:Int)==32)=false)):=by
        rcases hM with⟨_,h⟩ | ⟨c,t,h | ⟨h,hc⟩⟩
        · exact Or.inl h
        · subst h;obtain⟨b,o,hao,c0,c1⟩:=hA.out 0 (by simp);simp only[Nat.zero_mul,Nat.add_zero,List.getElem_cons_zero]at c0 c1;exact Or.inr ⟨by rw[hm.out];simp,b,o,hao,Or.inl c1⟩
        · subst h;obtain⟨b,o,hao,c0,c1⟩:=hA.out 0 (by simp);simp only[Nat.zero_mul,Nat.add_zero,List.getElem_cons_zero]at c0 c1;exact Or.inr ⟨by rw[hm.out];simp,b,o,hao,Or.inr ⟨c,c1,c0,by rw[beq_eq_false_iff_ne];exact hc⟩⟩
      have HD:=Lib.hid HD;clear hb hM hD;rcases hfacts with rfl | ⟨hpos,b,o,rfl,c1 | ⟨c,c1,c0,q⟩⟩
      case' inr.inl=>have hpos':(0:Int)<(m:Int):=by omega
      case' inr.inr=>have hpos':(0:Int)<(m:Int):=by omega
      all_goals
        go_wp2_with fail;go_loopw [0] (fun lv wr=> ∃ (ao2:Option Addr) (m2 cap2:Nat) (M2:List Sg),lv= .slice ao2 m2 cap2∧Hid (m2=M2.length)∧m2≤cap2∧m2≤1100000∧Hid (Sgs w ao2 M2)∧Hid (trim L=trimR M2)∧w=wr) (fun lv _=>slen lv);case atStart=>exact⟨_,_,_,M,rfl,hm,hc,hl,hA,HD,rfl⟩
        case round=>
          clear hm hA HD hc hl;obtain⟨ao,m,cap,M,rfl,hm,hc,hl,hA,hD,rfl⟩:=hrel;by_cases hb: ∃A x,M=A++[x]∧blankS x=true
          · obtain⟨A,x,rfl,hx⟩:=hb;obtain⟨k,rfl⟩: ∃k,m=k+1:=⟨A.length,by rw[hm.out];simp⟩;have hk:k=A.length:=(by have:=hm.out;simp only[List.length_append,List.length_cons,List.length_nil]at this;omega);have HX:Hid (trim L=trimR A):=hD.out.trans (trimR_endblank hx);obtain⟨b,o,hao,c0,c1⟩:=hA.out k (by rw[hk];simp);have hxe:(A++[x])[k]'(by rw[hk];simp)=x:=(by subst hk;simp);rw[hxe]at c0 c1;have hS:=sgs_take hA.out k;rw[hk,List.take_left]at hS;obtain⟨c,bare⟩:=x;unfold blankS at hx;simp only[Bool.and_eq_true,decide_eq_true_eq]at hx;obtain⟨rfl,rfl⟩:=hx;subst hao;have HS:=Lib.hid hS;have HM:=Lib.hid hk;clear hS hm hD hA hk hxe;go_wp2_with fail;go_roundw;case rel=>exact⟨_,_,_,A,rfl,HM,by omega,by omega,HS,HX,trivial⟩
            case measure=>simp[slen]<;>omega
          · have hM:M=[]∧m=0∨ ∃A x,M=A++[x]:=by
              cases hMM:M.reverse with
              | nil=>have:M=[]:=(by simpa using hMM);subst this;exact Or.inl ⟨rfl,by rw[hm.out];rfl⟩
              | cons x t=>exact Or.inr ⟨t.reverse,x,by rw[←List.reverse_reverse M,hMM];simp⟩
            have HT:Hid (trim L=M):=by
              show trim L=M;rw[hD.out];rcases hM with⟨rfl,_⟩ | ⟨A,x,rfl⟩
              · rfl
              · refine trimR_endkeep ?_;cases hx:blankS x with
                | false=>rfl
                | true=>exact absurd ⟨A,x,rfl,hx⟩ hb
            have hfacts:m=0∨ ∃k,m=k+1∧ ∃b o,ao=some ⟨b,o,none⟩∧((w.cell? ⟨b,o+k*2+1,none⟩=some (.bool false))∨ ∃c:UInt8,w.cell? ⟨b,o+k*2+1,none⟩=some (.bool true)∧w.cell? ⟨b,o+k*2,none⟩=some (.int .u8 (c.toNat:Int))∧((c.toNat:Int)==32)=false):=by
              rcases hM with⟨_,h⟩ | ⟨A,x,rfl⟩
              · exact Or.inl h
              · refine Or.inr ⟨A.length,by rw[hm.out];simp,?_⟩;obtain⟨b,o,hao,c0,c1⟩:=hA.out A.length (by simp);have hxe:(A++[x])[A.length]'(by simp)=x:=(by simp);rw[hxe]at c0 c1;refine⟨b,o,hao,?_⟩;obtain⟨c,bare⟩:=x;cases bare with
                | false=>exact Or.inl c1
                | true=>refine Or.inr ⟨c,c1,c0,?_⟩;rw[beq_eq_false_iff_ne];intro h;apply hb;refine⟨A,_,rfl,?_⟩;show(true&&decide (c=32))=true;rw[u8_eq (n:=32) (by omega) h];rfl
            have FIN:Hid (∀v,v=Value.slice ao m cap→TrimE L w (.returned v) w):=(by intro v hv;subst hv;rw[hm.out];exact trimE_of HT.out (by rw[←hm.out];exact hc) hA.out);clear hb hM hD hm hA HT;rcases hfacts with rfl | ⟨k,rfl,b,o,rfl,c1 | ⟨c,c1,c0,q⟩⟩
            all_goals go_wp2_with fail;go_ret;exact FIN.out _ rfl
end dnw
open Go.RowKit
namespace dnw
structure ApX (P:Program)(t tn ty:TypeId)(vs vx:Value)(w:World)(v':Value)(w':World):Prop where
 run:(Builtin.append_ #[t,tn] ty #[vs,vx]).run P w= .ok v' w'
theorem wp_apX {P:Program}{w:World}{ops:Array Oper}{rest:List Oper}{o:Oper}{a:Act}{Q:Exit→Act→World→Prop}(hgd:o.guard=none)(s x:Operand)(t tn:TypeId)
  (ho:o.op= .call {callee:= .builtin .append,args:=#[s,x],argTypes:=#[t,tn]}) (v':Value) (w':World) (hr:ApX P t tn o.type (a.eval s) (a.eval x) w v' w') (h:wpList P ops Q rest (a.put o.dst v') w'):wpList P ops Q (o::rest) a w:=
 Lib.wpList_append_run w hgd s x t tn ho _ _ rfl rfl v' w' hr.run h
def BRow (w:World)(B:Nat)(v:Value)(l:List UInt8):Prop:=w.ownsRow B 5 1 v (Lib.byteCells l).length (Lib.byteCells l)
theorem brow_made (w:World)(B:Nat)(hB:B≤w.heap.size):BRow (w.alloc (.cells #[] 5)) B (.slice (some ⟨w.heap.size,0,none⟩) 0 0) []:=World.ownsRow_made w #[] 0 hB (by unfold maxLen;omega) rfl
theorem brow_below {w w':World}{B:Nat}{v:Value}{l:List UInt8}(h:BRow w B v l)(hb:Below w.heap.size w w'):BRow w' B v l:=kt.row_below h hb
theorem brow_same {w w':World}{B:Nat}{v:Value}{l:List UInt8}(h:BRow w B v l)(hs: ∀k,B≤k→k<w.heap.size→w'.heap[k]? =w.heap[k]?):BRow w' B v l:=by
 refine⟨h.1,?_⟩;rcases h.2 with h0 | ⟨g,cap,cur,hv,hBg,hg,h1,h2,h3,h4⟩
 ·exact Or.inl h0
 ·refine Or.inr ⟨g,cap,cur,hv,hBg,?_,h1,h2,h3,h4⟩;rw[hs g hBg (bld.lt_of_heap hg)];exact hg
theorem brow_form {w:World}{B:Nat}{v:Value}{l:List UInt8}(h:BRow w B v l): ∃ (ao:Option Addr) (m cap:Nat),v= .slice ao m cap∧Hid (m=l.length):=by obtain⟨ao,n,cap,h1,h2⟩:=kt.row_form h;exact⟨ao,n,cap,h1,by show _=_;rw[h2.out,Lib.byteCells_length]⟩
theorem brow_app {w:World}{B:Nat}{v:Value}{l:List UInt8}(c:UInt8)(h:BRow w B v l)(hl:l.length≤100000000)(hB:B≤w.heap.size):
  ∃ao m cap w1,(Builtin.append_ #[131,131] 131 #[v,.slice (some ⟨w.heap.size,0,none⟩) 1 1]).run Tryz.prog (w.alloc (.cells #[.int .u8 (c.toNat:Int)] 5))= .ok (.slice ao m cap) w1∧BRow w1 B (.slice ao m cap) (l++[c])∧Below B w w1:=by
 have hlen:(Lib.byteCells l).length=l.length:=Lib.byteCells_length l;obtain⟨v',w1,h1,h2,_,h3⟩:=kt.app1 (P:=Tryz.prog) (ty:=131) Tryz.underlying131 bld.infoByte rfl (.int .u8 (c.toNat:Int)) rfl h (by rw[hlen];unfold maxLen;omega) (by rw[hlen];omega) hB;have h2':BRow w1 B v' (l++[c]):=by unfold BRow;rw[Lib.byteCells_append];exact h2
 obtain⟨ao,m,cap,rfl,_⟩:=brow_form h2';exact⟨ao,m,cap,w1,h1,h2',h3⟩
theorem brow_app3 {w:World}{B:Nat}{v:Value}{l:List UInt8}(a b c:UInt8)(h:BRow w B v l)(hl:l.length≤100000000)(hB:B≤w.heap.size):
  ∃ao m cap w1,(Builtin.append_ #[131,131] 131 #[v,.slice (some ⟨w.heap.size,0,none⟩) 3 3]).run Tryz.prog (w.alloc (.cells #[.int .u8 (a.toNat:Int),.int .u8 (b.toNat:Int),.int .u8 (c.toNat:Int)] 5))= .ok (.slice ao m cap) w1∧BRow w1 B (.slice ao m cap) (l++[a,b,c])∧Below B w w1:=by
 have hlen:(Lib.byteCells l).length=l.length:=Lib.byteCells_length l;have hb0:Below w.heap.size w (w.alloc (.cells #[.int .u8 (a.toNat:Int),.int .u8 (b.toNat:Int),.int .u8 (c.toNat:Int)] 5)):=(Below.refl _ _).alloc (Nat.le_refl _) _;obtain⟨v',w1,h1,h2,_,h3⟩:=kt.appN (P:=Tryz.prog) (ty:=131) Tryz.underlying131 bld.infoByte rfl ⟨w.heap.size,0,none⟩ 3 3 [.int .u8 (a.toNat:Int),.int .u8 (b.toNat:Int),.int .u8 (c.toNat:Int)] rfl (fun j u hj=>by rw[kt.addr_add,World.cell?_alloc_new];simpa using hj) (fun u hu=>by simp at hu;rcases hu with rfl | rfl | rfl<;>rfl) (kt.row_below h hb0) (by rw[hlen];unfold maxLen;omega) (by rw[hlen];omega) (by simp;omega);have h2':BRow w1 B v' (l++[a,b,c]):=by unfold BRow;rw[Lib.byteCells_append];exact h2
 obtain⟨ao,m,cap,rfl,_⟩:=brow_form h2';exact⟨ao,m,cap,w1,h1,h2',((Below.refl B w).alloc hB _).trans h3⟩
theorem brow_str {w:World}{B:Nat}{v:Value}{l:List UInt8}(h:BRow w B v l):(convert 131 9 v).run Tryz.prog w= .ok (.string ⟨l.toArray⟩) w:=kt.str_of_row Tryz.underlying131 Tryz.underlying5 Tryz.underlying9 h
end dnw
end Go.Proofs.YtmnpfkbjpeaemaaGreatDoor
