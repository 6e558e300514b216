/- One text out of several: UnhexW, ScanW, TypeW, KindW, EscW, ValueW. -/
import Derived.Test.YtmnpfkbjpeaemaaGreatDoorQ2
import Derived.Test.YtmnpfkbjpeaemaaGreatDoorRows
import Derived.Test.YtmnpfkbjpeaemaaGreatDoorQ1
import Derived.Lib.LaidU8
import Derived.Deep.MidRow
set_option linter.unusedVariables false
set_option linter.unusedSimpArgs false
set_option maxRecDepth 100000
set_option maxHeartbeats 4000000
namespace Go.Proofs.YtmnpfkbjpeaemaaGreatDoor
open Go.RowKit
def UhRes (o:Option (List UInt8))(w:World)(e:Ending)(w':World):Prop:=e= .returned (b64p.uhV o)∧Below w.heap.size w w'
theorem unhex_any (s:ByteArray)(w:World)(hs:s.size≤10000):
  Calls Tryz.prog 264 #[.string s] w (UhRes (b64p.unhex s.data.toList) w):=by
 by_cases hodd:s.size % 2=1
 ·have ho:=b64p.unhex_odd _ s.data.toList (Nat.le_refl _) (by rw[kt.size_len];exact hodd);have HO:=Lib.hid ho;have q1:((s.size:Int) % 2 !=0)=true:=by rw[bne_iff_ne];omega
  clear ho hodd;go_enter Tryz.func264,Tryz.ntmps264;go_wp2_with fail;go_ret2;exact⟨by rw[HO.out];rfl,Below.refl _ _⟩
 ·have q1:((s.size:Int) % 2 !=0)=false:=by rw[bne_eq_false_iff_eq];omega
  have hodd':=Lib.hid hodd;clear hodd;go_enter Tryz.func264,Tryz.ntmps264;go_wp2_with fail;go_loopw [4,5] (fun bv iv wr=> ∃ (i:Nat) (d:List UInt8),i≤s.size∧Hid (i % 2=0)∧d.length≤i∧iv= .int .i64 i∧Hid (wr.ownsRow w.heap.size 5 1 bv (Lib.byteCells d).length (Lib.byteCells d))∧Hid (b64p.unhex s.data.toList=(b64p.unhex (s.data.toList.drop i)).map (d++ ·))∧Below w.heap.size w wr) (fun _ iv _=>s.size- (intOf iv).toNat);case atStart=>exact⟨0,[],Nat.zero_le _,rfl,by simp,rfl,World.ownsRow_nil _ _ _ _,by show _=_;simp,Below.refl _ _⟩
  case round=>
   obtain⟨i,d,hi,hpar,hd,rfl,hO,hU,hB⟩:=hrel;have hsz:=hB.size;by_cases hlt:i<s.size
   ·have hi1:i+1<s.size:=(by have:=hpar.out;have:=hodd'.out;omega);have hstep:=b64p.unhex_step s.data.toList i (by rw[kt.size_len];exact hi1);have g1:s.data.toList[i]'(by rw[kt.size_len];exact hlt)=s[i]:=rfl;have g2:s.data.toList[i+1]'(by rw[kt.size_len];exact hi1)=s[i+1]:=rfl;rw[g1,g2]at hstep;have hstep':=Lib.hid hstep;clear hstep g1 g2;obtain⟨a,ha⟩: ∃a:Int,Hid (a=b64p.valI s[i]):=⟨b64p.valI s[i],rfl⟩;obtain⟨b,hb⟩: ∃b:Int,Hid (b=b64p.valI s[i+1]):=⟨b64p.valI s[i+1],rfl⟩;have va: -1≤a∧a≤15:=(by rw[ha.out];exact b64p.valI_le _);have vb: -1≤b∧b≤15:=(by rw[hb.out];exact b64p.valI_le _);obtain⟨va1,va2⟩:=va;obtain⟨vb1,vb2⟩:=vb;obtain⟨n1,en1⟩: ∃n:Nat,s[i].toNat=n:=⟨_,rfl⟩;obtain⟨n2,en2⟩: ∃n:Nat,s[i+1].toNat=n:=⟨_,rfl⟩;have DA:Hid (∀W:World,Calls Tryz.prog 295 #[.int .u8 (n1:Int)] W fun e w'=>e= .returned (.int .i64 a)∧w'=W):=(by intro W;rw[ha.out,←en1];exact kt.flip (digit_any _ W));have DB:Hid (∀W:World,Calls Tryz.prog 295 #[.int .u8 (n2:Int)] W fun e w'=>e= .returned (.int .i64 b)∧w'=W):=(by intro W;rw[hb.out,←en2];exact kt.flip (digit_any _ W));have f1:(0:Int)≤(i:Int):=(by omega);have f2:(i:Int)<(s.size:Int):=(by omega);have f3:(0:Int)≤(i:Int)+1:=(by omega);have f4:(i:Int)+1<(s.size:Int):=(by omega);have f5:IntKind.i64.wrap ((i:Int)+1)=(i:Int)+1:=IntWalk.i64_in _ (by omega);have f6:((i:Int)+1).toNat=i+1:=(by omega);go_wp2_with fail;go_quiet ((first | (go_at_call_of 295 (Value.int IntKind.u8 (n1:Int));exact Calls.quiet_of_same (DA.out _)) | (go_at_call_of 295 (Value.int IntKind.u8 (n2:Int));exact Calls.quiet_of_same (DB.out _))));by_cases hneg:a<0∨b<0
    ·have hnone:b64p.unhex s.data.toList=none:=(by rw[hU.out,hstep'.out,if_pos (by rw[←ha.out,←hb.out];exact hneg)];rfl);have HN:=Lib.hid hnone;clear hnone;by_cases ha0:a<0
     ·clear hneg;go_wp2_with fail;go_ret2;exact⟨by rw[HN.out];rfl,hB.trans (hx_drewN (Below.refl _ _) _)⟩
     ·have hb0:b<0:=(by omega);clear hneg;go_wp2_with fail;go_ret2;exact⟨by rw[HN.out];rfl,hB.trans (hx_drewN (Below.refl _ _) _)⟩
    ·have ha0:0≤a:=(by omega);have hb0:0≤b:=(by omega);have hsome:b64p.unhex s.data.toList=(b64p.unhex (s.data.toList.drop (i+2))).map ((d++[UInt8.ofNat (16*a+b).toNat])++ ·):=(by rw[hU.out,hstep'.out,if_neg (by rw[←ha.out,←hb.out];exact hneg),←ha.out,←hb.out,Option.map_map];congr 1;funext x;simp);have HS:=Lib.hid hsome;clear hsome hneg;obtain⟨A,rfl⟩:=Int.eq_ofNat_of_zero_le ha0;obtain⟨B,rfl⟩:=Int.eq_ofNat_of_zero_le hb0;obtain⟨m,hm⟩: ∃m:UInt8,Hid (m=UInt8.ofNat (16*(A:Int)+(B:Int)).toNat):=⟨_,rfl⟩;have em:(m.toNat:Int)=16*A+B:=(by rw[hm.out,UInt8.toNat_ofNat'];omega);have e1:bits .or .i64 ((A:Int)*16) (B:Int)=(m.toNat:Int):=(by have h:=kt.i64_or_low 4 A B (by omega) (by omega);rw[em,show(A:Int)*16=((2 ^ 4*A:Nat):Int)from by omega,h];omega);have e2:(m.toNat:Int) % 256=(m.toNat:Int):=(by have:=m.toNat_lt;omega);obtain⟨v',w1,hap,hO1,hg1,hB1⟩:=kt.app1 (P:=Tryz.prog) (ty:=131) (w:=wr.drewN nq) Tryz.underlying131 bld.infoByte rfl (.int .u8 (m.toNat:Int)) rfl hO.out (by rw[Lib.byteCells_length];unfold maxLen;omega) (by rw[Lib.byteCells_length];omega) hsz;have HO1:=Lib.hid hO1;have HG1:=Lib.hid hg1;have EM:=Lib.hid em;clear hO1 hg1 em;go_wp2_with (at_builtin;refine Lib.wpList_append_run _ rfl _ _ _ _ rfl _ _ rfl rfl _ _ hap ?_);go_roundw;case rel=>
      refine⟨i+2,d++[m],by omega,by show _=_;have:=hpar.out;omega,by simp;omega,by go_num,?_,?_,(hB.trans (hx_drewN (Below.refl _ _) _)).trans hB1⟩
      ·show World.ownsRow _ _ _ _ _ _ _;rw[Lib.byteCells_append];exact HO1.out
      ·show _=_;rw[hm.out];exact HS.out
     case measure=>simp[intOf];omega
   ·obtain rfl:i=s.size:=(by omega);have hst:=kt.str_of_row (P:=Tryz.prog) (dst:=9) Tryz.underlying131 Tryz.underlying5 Tryz.underlying9 hO.out;have hfin:b64p.unhex s.data.toList=some d:=(by rw[hU.out,List.drop_of_length_le (by simp)];simp[b64p.unhex]);have HF:=Lib.hid hfin;clear hfin;go_wp2_with fail;go_ret2;exact⟨by rw[HF.out];rfl,hB⟩
open Go.RowKit
namespace dnw
open dnp
def Sc (w:World)(b:Nat)(s:ByteArray)(i:Nat):Prop:=w.heap[b]? =some (.cells #[.string s,.int .i64 (i:Int)] 187 (0,0))
theorem set_same {w:World}{g j:Nat}{cs:Array Value}{t:TypeId}{fr:Nat × Nat}(h:w.heap[g]? =some (.cells cs t fr))(v:Value):(w.setCell ⟨g,j,none⟩ v).heap[g]? =some (.cells (cs.setIfInBounds j v) t fr):=by simp[World.setCell,Array.getElem?_modify,h]
theorem sc_set {w:World}{b i:Nat}{s:ByteArray}(h:Sc w b s i)(n j:Nat):Sc ((w.drewN n).setCell ⟨b,1,none⟩ (.int .i64 (j:Int))) b s j:=by have h':(w.drewN n).heap[b]? =some (.cells #[.string s,.int .i64 (i:Int)] 187 (0,0)):=h;exact set_same (j:=1) h' _
theorem sc_set0 {w:World}{b i:Nat}{s:ByteArray}(h:Sc w b s i)(j:Nat):Sc (w.setCell ⟨b,1,none⟩ (.int .i64 (j:Int))) b s j:=set_same (j:=1) h _
theorem sc_inc {w:World}{b i:Nat}{s:ByteArray}(h:Sc w b s i)(n:Nat):Sc ((w.drewN n).setCell ⟨b,1,none⟩ (.int .i64 ((i:Int)+1))) b s (i+1):=sc_set h n (i+1)
theorem sc_cells {w:World}{b i:Nat}{s:ByteArray}(h:Sc w b s i):w.cell? ⟨b,0,none⟩=some (.string s)∧w.cell? ⟨b,1,none⟩=some (.int .i64 (i:Int))∧w.frozen? ⟨b,1,none⟩=false∧b<w.heap.size:=by
 refine⟨?_,?_,Lib.frozen_of_heap h 1,kt.bld_lt h⟩
 ·rw[Lib.cell_of_heap h];rfl
 ·rw[Lib.cell_of_heap h];rfl
theorem sc_drewN {w:World}{b i:Nat}{s:ByteArray}(h:Sc w b s i)(n:Nat):Sc (w.drewN n) b s i:=h
theorem sc_below {w w':World}{b i:Nat}{s:ByteArray}(h:Sc w b s i)(hb:Below w.heap.size w w'):Sc w' b s i:=(hb.block b (kt.bld_lt h)).trans h
theorem gr_refl (w:World)(k:Option Nat):w.grownBy w k:=⟨rfl,rfl,rfl,Nat.le_refl _,fun _ _ _=>rfl⟩
theorem gr_set {w w':World}{b:Nat}(h:w.grownBy w' (some b))(n:Nat)(v:Value):w.grownBy ((w'.drewN n).setCell ⟨b,1,none⟩ v) (some b):=⟨h.os,h.tape,h.output,by rw[World.size_setCell];exact h.size,fun k hk hne=>(Below.heap_setCell _ _ _ _ (fun e=>hne (by have e':k=b:=e;rw[e']))).trans (h.block k hk hne)⟩
theorem gr_drewN {w w':World}{k:Option Nat}(h:w.grownBy w' k)(n:Nat):w.grownBy (w'.drewN n) k:=⟨h.os,h.tape,h.output,h.size,h.block⟩
theorem gr_below {w w':World}(k:Option Nat)(hb:Below w.heap.size w w'):w.grownBy w' k:=⟨hb.os,hb.tape,hb.output,hb.size,fun j hj _=>hb.block j hj⟩
theorem drop_cons (s:ByteArray)(i:Nat)(h:i<s.size):s.data.toList.drop i=s[i]::s.data.toList.drop (i+1):=by
 have h':i<s.data.toList.length:=by simpa using h
 rw[List.drop_eq_getElem_cons h'];rfl
theorem drop_end (s:ByteArray):s.data.toList.drop s.size=[]:=List.drop_of_length_le (by simp)
def posOf (w:World)(b:Nat):Nat:=match w.heap[b]? with
 | some (.cells cs _ _)=>(intOf (cs.getD 1 undef)).toNat
 | _=>0
theorem posOf_sc {w:World}{b i:Nat}{s:ByteArray}(h:Sc w b s i):posOf w b=i:=by unfold posOf;rw[h];simp[intOf]
def BlanksE (b:Nat)(s:ByteArray)(i:Nat)(w:World)(e:Ending)(w':World):Prop:=e= .returned (.tuple #[])∧ ∃j,i≤j∧j≤s.size∧s.data.toList.drop j=(s.data.toList.drop i).dropWhile (· =32)∧Sc w' b s j∧w.grownBy w' (some b)
theorem blanks_any (b:Nat)(s:ByteArray)(i:Nat)(w:World)(hS:Hid (Sc w b s i))(hi:i≤s.size)(hs:s.size≤100000):
  Calls Tryz.prog 155 #[.pointer (some ⟨b,0,none⟩)] w fun e w'=>BlanksE b s i w e w':=by
 go_enter Tryz.func155,Tryz.ntmps155;go_wp2_with fail;go_loopw [] (fun wr=> ∃j,i≤j∧j≤s.size∧Hid ((s.data.toList.drop j).dropWhile (· =32)=(s.data.toList.drop i).dropWhile (· =32))∧Hid (Sc wr b s j)∧w.grownBy wr (some b)) (fun wr=>s.size-posOf wr b);case atStart=>exact⟨i,Nat.le_refl _,hi,rfl,hS,gr_refl _ _⟩
 case round=>
  obtain⟨j,hij,hj,hD,hC,hG⟩:=hrel;obtain⟨c0,c1,f1,hb⟩:=sc_cells hC.out;by_cases hlt:j<s.size
  ·have hlt':(j:Int)<(s.size:Int):=(by omega);have hdc:=drop_cons s j hlt;by_cases h32:((s[j]'hlt).toNat:Int)=32
   ·have hD2:Hid ((s.data.toList.drop (j+1)).dropWhile (· =32)=(s.data.toList.drop i).dropWhile (· =32)):=(by show _=_;rw[←hD.out,hdc,List.dropWhile_cons,if_pos (by have:s[j]=32:=UInt8.toNat_inj.1 (by show _=32;omega);simp[this])]);clear hdc;go_wp2_with fail;go_quiet (fail);go_wp2_with fail;go_roundw;case rel=>exact⟨j+1,by omega,by omega,hD2,sc_set hC.out nq (j+1),gr_set hG nq _⟩
    case measure=>rw[posOf_sc hC.out,posOf_sc (sc_inc hC.out nq)];omega
   ·have hD2:Hid (s.data.toList.drop j=(s.data.toList.drop i).dropWhile (· =32)):=(by show _=_;rw[←hD.out,hdc,List.dropWhile_cons,if_neg (by intro e;have:s[j]=32:=(by simpa using e);rw[this]at h32;exact h32 rfl)]);have h1:(((s[j]'hlt).toNat:Int)==32)=false:=(by rw[beq_eq_false_iff_ne];exact h32);clear hdc;go_wp2_with fail;go_quiet (fail);go_wp2_with fail;go_end0;exact⟨rfl,j,hij,hj,hD2.out,sc_drewN hC.out nq,gr_drewN hG nq⟩
  ·obtain rfl:j=s.size:=(by omega);have hD2:Hid (s.data.toList.drop s.size=(s.data.toList.drop i).dropWhile (· =32)):=(by show _=_;rw[←hD.out,drop_end];rfl);go_wp2_with fail;go_quiet (fail);go_wp2_with fail;go_end0;exact⟨rfl,_,hij,hj,hD2.out,sc_drewN hC.out nq,gr_drewN hG nq⟩
end dnw
open Go.RowKit
namespace dnw
open dnp
def tyAt (k:Nat)(c:UInt8):Prop:=(97≤(c.toNat:Int)∧(c.toNat:Int)≤122)∨(k≠0∧((c.toNat:Int)=45∨(48≤(c.toNat:Int)∧(c.toNat:Int)≤57)))
theorem letter_iff (c:UInt8):letter c=true↔97≤(c.toNat:Int)∧(c.toNat:Int)≤122:=by unfold letter;rw[decide_eq_true_iff,UInt8.le_iff_toNat_le,UInt8.le_iff_toNat_le];show(97≤c.toNat∧c.toNat≤122)↔_;omega
theorem typeCh_iff (c:UInt8):typeCh c=true↔(97≤(c.toNat:Int)∧(c.toNat:Int)≤122)∨(c.toNat:Int)=45∨(48≤(c.toNat:Int)∧(c.toNat:Int)≤57):=by unfold typeCh;rw[Bool.or_eq_true,Bool.or_eq_true,letter_iff,decide_eq_true_iff,decide_eq_true_iff,UInt8.le_iff_toNat_le,UInt8.le_iff_toNat_le,←UInt8.toNat_inj];show(_∨(48≤c.toNat∧c.toNat≤57))∨c.toNat=45↔_;omega
theorem typeOK_iff (l:List UInt8):typeOK l=true↔l≠[]∧l.length≤32∧ ∀k (h:k<l.length),tyAt k l[k]:=by
 unfold typeOK;cases l with
 | nil=>simp
 | cons c t=>
  simp only[Bool.and_eq_true,decide_eq_true_eq,List.all_eq_true,letter_iff,ne_eq,reduceCtorEq,not_false_eq_true,true_and];constructor
  ·rintro⟨⟨h1,h2⟩,h3⟩;refine⟨h2,fun k hk=> ?_⟩;cases k with
   | zero=>exact Or.inl h1
   | succ k=>have:=(typeCh_iff _).1 (h3 (c::t)[k+1] (List.getElem_mem hk));unfold tyAt;omega
  ·rintro⟨h2,h3⟩;refine⟨⟨?_,h2⟩,?_⟩
   ·have:=h3 0 (by simp);unfold tyAt at this;simp only[List.getElem_cons_zero,ne_eq,not_true_eq_false,false_and,or_false]at this;exact this
   ·intro x hx;obtain⟨k,hk,rfl⟩:=List.mem_iff_getElem.1 hx;have:=h3 k hk;unfold tyAt at this;rw[typeCh_iff];omega
theorem typeOK_no {s:ByteArray}{k:Nat}(hk:k<s.size)(h: ¬tyAt k s[k]):false=typeOK s.data.toList:=by symm;rw[Bool.eq_false_iff];intro e;exact h (((typeOK_iff _).1 e).2.2 k (by simpa using hk))
theorem typeOK_end {s:ByteArray}(h: ∀k (hk:k<s.size),tyAt k s[k])(h0:s.size≠0)(h1:s.size≤32):true=typeOK s.data.toList:=by
 symm;rw[typeOK_iff];have hl:s.data.toList.length=s.size:=by simp
 refine⟨fun e=>by rw[e]at hl;simp at hl;omega,by omega,fun k hk=>h k (by omega)⟩
theorem typeOK_len {s:ByteArray}(h1:s.size=0∨32<s.size):false=typeOK s.data.toList:=by
 symm;rw[Bool.eq_false_iff];intro e;have hl:s.data.toList.length=s.size:=by simp
 obtain⟨h2,h3,_⟩:=(typeOK_iff _).1 e;rcases h1 with h1 | h1
 ·exact h2 (List.eq_nil_of_length_eq_zero (by omega))
 ·omega
theorem rightType_any (s:ByteArray)(w:World)(hs:s.size≤100000):Calls Tryz.prog 204 #[.string s] w fun e w'=>e= .returned (.bool (typeOK s.data.toList))∧w=w':=by
 go_enter Tryz.func204,Tryz.ntmps204;go_wp2_with fail;go_loop [3,4,5,8] (fun _ _ _ iv=> ∃k:Nat,k≤s.size∧iv= .int .i64 (k:Int)∧Hid (∀j (hj:j<s.size),j<k→tyAt j s[j])) (fun _ _ _ iv=>s.size- (intOf iv).toNat);case atStart=>exact⟨0,Nat.zero_le _,rfl,fun j hj h=>by omega⟩
 case round=>
  obtain⟨k,hk,rfl,hA⟩:=hrel;by_cases hlt:k<s.size
  ·have hlt':(k:Int)<(s.size:Int):=(by omega);have g0:0≤((s[k]'hlt).toNat:Int):=(by omega);by_cases ht:tyAt k (s[k]'hlt)
   ·have HA:Hid (∀j (hj:j<s.size),j<k+1→tyAt j s[j]):=by
     intro j hj h;by_cases e:j=k
     ·subst e;exact ht
     ·exact hA.out j hj (by omega)
    unfold tyAt at ht;rcases ht with⟨h1,h2⟩ | ⟨h0,h1 | ⟨h1,h2⟩⟩
    ·go_wp2_with fail;go_round;case rel=>exact⟨k+1,by omega,by go_num,HA⟩
     case measure=>simp[intOf];omega
    ·have hk0:((k:Int)==0)=false:=(by rw[beq_eq_false_iff_ne];omega);have hc1:(((s[k]'hlt).toNat:Int)==45)=true:=(by rw[beq_iff_eq];exact h1);have hc2:(((s[k]'hlt).toNat:Int) !=45)=false:=(by rw[bne_eq_false_iff_eq];exact h1);have hc3: ¬97≤((s[k]'hlt).toNat:Int):=(by omega);clear h1 h0;go_wp2_with fail;go_round;case rel=>exact⟨k+1,by omega,by go_num,HA⟩
     case measure=>simp[intOf];omega
    ·have hk0:((k:Int)==0)=false:=(by rw[beq_eq_false_iff_ne];omega);have hc1:(((s[k]'hlt).toNat:Int)==45)=false:=(by rw[beq_eq_false_iff_ne];omega);have hc2:(((s[k]'hlt).toNat:Int) !=45)=true:=(by rw[bne_iff_ne];omega);have hc3: ¬97≤((s[k]'hlt).toNat:Int):=(by omega);clear h0;go_wp2_with fail;go_round;case rel=>exact⟨k+1,by omega,by go_num,HA⟩
     case measure=>simp[intOf];omega
   ·have HN:=Lib.hid (typeOK_no hlt ht);unfold tyAt at ht;have g256:((s[k]'hlt).toNat:Int)<256:=(by have:=(s[k]'hlt).toNat_lt;omega);by_cases hk0:k=0
    ·subst hk0;by_cases h97:97≤((s[0]'hlt).toNat:Int)
     ·have h122:decide (((s[0]'hlt).toNat:Int)≤122)=false:=(by rw[decide_eq_false_iff_not];omega);clear ht;go_wp2_with fail;go_ret;exact⟨kt.ret_bool HN.out,rfl⟩
     ·clear ht;go_wp2_with fail;go_ret;exact⟨kt.ret_bool HN.out,rfl⟩
    ·have hk1:((k:Int)==0)=false:=(by rw[beq_eq_false_iff_ne];omega);have hc1:(((s[k]'hlt).toNat:Int)==45)=false:=(by rw[beq_eq_false_iff_ne];omega);have hc2:(((s[k]'hlt).toNat:Int) !=45)=true:=(by rw[bne_iff_ne];omega);by_cases h97:97≤((s[k]'hlt).toNat:Int)
     ·have h122:decide (((s[k]'hlt).toNat:Int)≤122)=false:=(by rw[decide_eq_false_iff_not];omega);have h57:57<((s[k]'hlt).toNat:Int):=(by omega);have h48:48≤((s[k]'hlt).toNat:Int):=(by omega);clear ht hk0;go_wp2_with fail;go_ret;exact⟨kt.ret_bool HN.out,rfl⟩
     ·by_cases h48:48≤((s[k]'hlt).toNat:Int)
      ·have h57:57<((s[k]'hlt).toNat:Int):=(by omega);clear ht hk0;go_wp2_with fail;go_ret;exact⟨kt.ret_bool HN.out,rfl⟩
      ·clear ht hk0;go_wp2_with fail;go_ret;exact⟨kt.ret_bool HN.out,rfl⟩
  ·obtain rfl:k=s.size:=(by omega);by_cases h0:s.size=0
   ·have HN:=Lib.hid (typeOK_len (s:=s) (Or.inl h0));obtain rfl:s=⟨#[]⟩:=kt.str_eq (by have:s.data.toList.length=0:=(by simpa using h0);exact List.eq_nil_of_length_eq_zero this);clear h0;go_wp2_with fail;go_ret;exact⟨kt.ret_bool HN.out,rfl⟩
   ·have g1:(s.toList==[])=false:=(by rw[beq_eq_false_iff_ne,Lib.toList_data];intro e;apply h0;have:=congrArg List.length e;simpa using this);have g2: ¬s.toList=[]:=(by simpa using g1);by_cases h32:s.size≤32
    ·have h32':(s.size:Int)≤32:=(by omega);have HN:=Lib.hid (typeOK_end (s:=s) (fun j hj=>hA.out j hj hj) h0 h32);clear h0;go_wp2_with fail;go_ret;exact⟨kt.ret_bool HN.out,rfl⟩
    ·have h32': ¬ (s.size:Int)≤32:=(by omega);have HN:=Lib.hid (typeOK_len (s:=s) (Or.inr (by omega)));clear h0;go_wp2_with fail;go_ret;exact⟨kt.ret_bool HN.out,rfl⟩
theorem typeOK_head {s:ByteArray}(h:0<s.size)(h1: ¬ (97≤((s[0]'h).toNat:Int)∧((s[0]'h).toNat:Int)≤122)):false=typeOK s.data.toList:=typeOK_no h (by unfold tyAt;omega)
def chAt (c:UInt8):Prop:=(97≤(c.toNat:Int)∧(c.toNat:Int)≤122)∨((c.toNat:Int)=45∨(48≤(c.toNat:Int)∧(c.toNat:Int)≤57))
theorem typeOK_all {s:ByteArray}(h:0<s.size)(h0:97≤((s[0]'h).toNat:Int)∧((s[0]'h).toNat:Int)≤122)(h1:s.size≤32)(hA: ∀k (hk:k<s.size),chAt s[k]):true=typeOK s.data.toList:=by
 refine typeOK_end (fun k hk=> ?_) (by omega) h1;have:=hA k hk;unfold chAt at this;unfold tyAt;by_cases e:k=0
 ·subst e;exact Or.inl h0
 ·omega
theorem typeOK_ch {s:ByteArray}{k:Nat}(hk:k<s.size)(h: ¬chAt s[k]):false=typeOK s.data.toList:=typeOK_no hk (by unfold chAt at h;unfold tyAt;omega)
theorem type_any (s:ByteArray)(w:World)(hs:s.size≤100000):Calls Tryz.prog 194 #[.string s] w fun e w'=>e= .returned (.bool (typeOK s.data.toList))∧w=w':=by
 by_cases hz:s.size<1
 ·have hz':(s.size:Int)<1:=by omega
  have HN:=Lib.hid (typeOK_len (s:=s) (Or.inl (by omega)));go_enter Tryz.func194,Tryz.ntmps194;go_wp2_with fail;go_ret;exact⟨kt.ret_bool HN.out,rfl⟩
 ·have hz': ¬ (s.size:Int)<1:=by omega
  by_cases h32:32<s.size
  ·have h32':32<(s.size:Int):=(by omega);have HN:=Lib.hid (typeOK_len (s:=s) (Or.inr h32));go_enter Tryz.func194,Tryz.ntmps194;go_wp2_with fail;go_ret;exact⟨kt.ret_bool HN.out,rfl⟩
  ·have h32': ¬32<(s.size:Int):=(by omega);have h0:0<s.size:=(by omega);have h0':0<(s.size:Int):=(by omega);by_cases hh:97≤((s[0]'h0).toNat:Int)∧((s[0]'h0).toNat:Int)≤122
   ·obtain⟨q1,q2⟩:=hh;have q1': ¬ ((s[0]'h0).toNat:Int)<97:=(by omega);have q2': ¬122<((s[0]'h0).toNat:Int):=(by omega);have HY:Hid ((∀k (hk:k<s.size),chAt s[k])→true=typeOK s.data.toList):=fun hA=>typeOK_all h0 ⟨q1,q2⟩ (by omega) hA;go_enter Tryz.func194,Tryz.ntmps194;go_wp2_with fail;clear q1 q2 q1' q2';go_loop [3] (fun iv=> ∃k:Nat,k≤s.size∧iv= .int .i64 (k:Int)∧Hid (∀j (hj:j<s.size),j<k→chAt s[j])) (fun iv=>s.size- (intOf iv).toNat);case atStart=>exact⟨0,Nat.zero_le _,rfl,fun j hj h=>by omega⟩
    case round=>
     obtain⟨k,hk,rfl,hA⟩:=hrel;by_cases hlt:k<s.size
     ·have hlt':(k:Int)<(s.size:Int):=(by omega);by_cases ht:chAt (s[k]'hlt)
      ·have HA:Hid (∀j (hj:j<s.size),j<k+1→chAt s[j]):=by
        intro j hj h;by_cases e:j=k
        ·subst e;exact ht
        ·exact hA.out j hj (by omega)
       unfold chAt at ht;rcases ht with⟨h1,h2⟩ | h1 | ⟨h1,h2⟩
       ·go_wp2_with fail;go_round;case rel=>exact⟨k+1,by omega,by go_num,HA⟩
        case measure=>simp[intOf];omega
       ·have hc1:(((s[k]'hlt).toNat:Int)==45)=true:=(by rw[beq_iff_eq];exact h1);have hc2:(((s[k]'hlt).toNat:Int) !=45)=false:=(by rw[bne_eq_false_iff_eq];exact h1);have hc3:decide (97≤((s[k]'hlt).toNat:Int))=false:=(by rw[decide_eq_false_iff_not];omega);have hc4:decide (48≤((s[k]'hlt).toNat:Int))=false:=(by rw[decide_eq_false_iff_not];omega);clear h1;go_wp2_with fail;go_round;case rel=>exact⟨k+1,by omega,by go_num,HA⟩
        case measure=>simp[intOf];omega
       ·have hc3:decide (97≤((s[k]'hlt).toNat:Int))=false:=(by rw[decide_eq_false_iff_not];omega);go_wp2_with fail;go_round;case rel=>exact⟨k+1,by omega,by go_num,HA⟩
        case measure=>simp[intOf];omega
      ·have HN:=Lib.hid (typeOK_ch hlt ht);unfold chAt at ht;have hc1:(((s[k]'hlt).toNat:Int)==45)=false:=(by rw[beq_eq_false_iff_ne];omega);have hc2:(((s[k]'hlt).toNat:Int) !=45)=true:=(by rw[bne_iff_ne];omega);by_cases h97:97≤((s[k]'hlt).toNat:Int)
       ·have h122:decide (((s[k]'hlt).toNat:Int)≤122)=false:=(by rw[decide_eq_false_iff_not];omega);have h48:48≤((s[k]'hlt).toNat:Int):=(by omega);have h57:decide (((s[k]'hlt).toNat:Int)≤57)=false:=(by rw[decide_eq_false_iff_not];omega);clear ht;go_wp2_with fail;go_ret;exact⟨kt.ret_bool HN.out,rfl⟩
       ·have hc3:decide (97≤((s[k]'hlt).toNat:Int))=false:=(by rw[decide_eq_false_iff_not];omega);by_cases h48:48≤((s[k]'hlt).toNat:Int)
        ·have h57:decide (((s[k]'hlt).toNat:Int)≤57)=false:=(by rw[decide_eq_false_iff_not];omega);clear ht h97;go_wp2_with fail;go_ret;exact⟨kt.ret_bool HN.out,rfl⟩
        ·have hc4:decide (48≤((s[k]'hlt).toNat:Int))=false:=(by rw[decide_eq_false_iff_not];omega);clear ht h97 h48;go_wp2_with fail;go_ret;exact⟨kt.ret_bool HN.out,rfl⟩
     ·obtain rfl:k=s.size:=(by omega);have HN:=Lib.hid (HY.out (fun j hj=>hA.out j hj hj));go_wp2_with fail;go_ret;exact⟨kt.ret_bool HN.out,rfl⟩
   ·have HN:=Lib.hid (typeOK_head h0 hh);by_cases q1:((s[0]'h0).toNat:Int)<97
    ·clear hh;go_enter Tryz.func194,Tryz.ntmps194;go_wp2_with fail;go_ret;exact⟨kt.ret_bool HN.out,rfl⟩
    ·have q2:122<((s[0]'h0).toNat:Int):=(by omega);clear hh;go_enter Tryz.func194,Tryz.ntmps194;go_wp2_with fail;go_ret;exact⟨kt.ret_bool HN.out,rfl⟩
end dnw
open Go.RowKit
namespace dnw
open dnp
def Tabs (w:World):Prop:=Lib.Utf8Tabs 2 3 w
theorem tabs_below {w w':World}(h:Tabs w)(hb:Below w.heap.size w w'):Tabs w':=Utf8Tabs_below h hb
theorem lower1_any (W:World)(x:Nat)(hx:x≤1114111):Calls Tryz.prog 263 #[.int .i32 (x:Int)] W fun e w'=>e= .returned (.int .i32 (lowf (x:Int)))∧ ∃q,w'=W.drewN q:=by
 obtain⟨r,hr⟩: ∃r:Int,r=(x:Int):=⟨_,rfl⟩;have h0:0≤r:=by omega
 have h1:r≤1114111:=by omega
 rw[←hr];clear hr;unfold lowf;by_cases h:65≤r∧r≤90
 ·rw[if_pos h];obtain⟨h2,h3⟩:=h;go_enter Tryz.func263,Tryz.ntmps263;go_wp2_with fail;go_ret;exact⟨rfl,0,rfl⟩
 ·rw[if_neg h];by_cases h2:65≤r
  ·have h3: ¬r≤90:=(by omega);have h3':decide (r≤90)=false:=(by rw[decide_eq_false_iff_not];exact h3);clear h h3;go_enter Tryz.func263,Tryz.ntmps263;go_wp2_with fail;go_ret;exact⟨rfl,0,rfl⟩
  ·clear h;go_enter Tryz.func263,Tryz.ntmps263;go_wp2_with fail;go_ret;exact⟨rfl,0,rfl⟩
theorem lower_any (s:ByteArray)(w:World)(hs:s.size≤100000)(hT:Hid (Tabs w)):Calls Tryz.prog 203 #[.string s] w fun e w'=>e= .returned (.string ⟨(Lib.mapD lowf s.data.toList).toArray⟩)∧Below w.heap.size w w':=by have C:=Lib.hid (Tryz.strings_Map_runes 263 #[] (enters_of Tryz.func263 (by kernel_rfl) rfl) lowf s w (by omega) (fun W x hx _=>lower1_any W x hx) (fun x hx=>by unfold lowf;split<;>omega) hT.out);go_enter Tryz.func203,Tryz.ntmps203;go_wp2_with fail;refine C.out.mono ?_;rintro e w1 ⟨rfl,hB1⟩;go_wp2_with fail;go_ret;exact⟨rfl,hB1⟩
def KindE (b:Nat)(s:ByteArray)(i:Nat)(w:World)(e:Ending)(w':World):Prop:=
 w.grownBy w' (some b)∧match kindP (s.data.toList.drop i)with
  | none=> ∃j,e= .returned (.tuple #[.string ⟨#[]⟩,.bool false])∧Sc w' b s j
  | some (t,r)=> ∃j,e= .returned (.tuple #[.string ⟨t.toArray⟩,.bool true])∧i<j∧j≤s.size∧s.data.toList.drop j=r∧Sc w' b s j
def tpB (c:UInt8):Bool:=decide (c≠61∧c≠32)
theorem u8_ne {c:UInt8}{n:Nat}(hn:n<256)(h: ¬ (c.toNat:Int)=(n:Int)):c≠UInt8.ofNat n:=by rintro rfl;apply h;rw[UInt8.toNat_ofNat'];omega
theorem u8_eq {c:UInt8}{n:Nat}(hn:n<256)(h:(c.toNat:Int)=(n:Int)):c=UInt8.ofNat n:=by apply UInt8.toNat_inj.1;rw[UInt8.toNat_ofNat'];omega
theorem tpB_iff (c:UInt8):tpB c=true↔ ¬ (c.toNat:Int)=61∧ ¬ (c.toNat:Int)=32:=by
 unfold tpB;rw[decide_eq_true_iff];constructor
 ·rintro⟨h1,h2⟩;exact⟨fun e=>h1 (u8_eq (n:=61) (by omega) e),fun e=>h2 (u8_eq (n:=32) (by omega) e)⟩
 ·rintro⟨h1,h2⟩;exact⟨u8_ne (n:=61) (by omega) h1,u8_ne (n:=32) (by omega) h2⟩
def kTail (T:List UInt8):List UInt8→Option (List UInt8 × List UInt8)
 | []=>none
 | c::r=>if c=61∧typeOK (lowL T)=true then some (lowL T,r)else none
theorem kindP_eq (l:List UInt8)(T l3:List UInt8)(hT:(l.dropWhile (· =32)).takeWhile tpB=T)(h3:((l.dropWhile (· =32)).dropWhile tpB).dropWhile (· =32)=l3):
  kindP l=kTail T l3:=by
 subst hT h3;rfl
def TypeAt (s:ByteArray)(j1 j:Nat):Prop:=(s.data.toList.drop j1).takeWhile tpB=(s.data.toList.drop j1).take (j-j1)++(s.data.toList.drop j).takeWhile tpB∧(s.data.toList.drop j1).dropWhile tpB=(s.data.toList.drop j).dropWhile tpB
theorem typeAt_on {s:ByteArray}{j1 j:Nat}(h:TypeAt s j1 j)(h1:j1≤j)(hj:j<s.size)(hc:tpB s[j]=true):TypeAt s j1 (j+1):=by
 unfold TypeAt at*;rw[drop_cons s j hj,List.takeWhile_cons,if_pos hc,List.dropWhile_cons,if_pos hc]at h;refine⟨?_,h.2⟩;rw[h.1];have e:(s.data.toList.drop j1).take (j+1-j1)=(s.data.toList.drop j1).take (j-j1)++[s[j]]:=by
  have hl:j-j1<(s.data.toList.drop j1).length:=by simp;omega
  rw[show j+1-j1=(j-j1)+1 from by omega,List.take_succ_eq_append_getElem hl];congr 2;rw[List.getElem_drop];simp only[show j1+(j-j1)=j from by omega];rfl
 rw[e];simp
theorem typeAt_off {s:ByteArray}{j1 j:Nat}(h:TypeAt s j1 j)(hc: ∀c t,s.data.toList.drop j=c::t→tpB c=false):(s.data.toList.drop j1).takeWhile tpB=(s.data.toList.drop j1).take (j-j1)∧(s.data.toList.drop j1).dropWhile tpB=s.data.toList.drop j:=by
 unfold TypeAt at h;rw[dropW_id _ _ hc]at h;refine⟨?_,h.2⟩;have e:(s.data.toList.drop j).takeWhile tpB=[]:=by
  cases hd:s.data.toList.drop j with
  | nil=>rfl
  | cons c t=>rw[List.takeWhile_cons,if_neg (by rw[hc c t hd];simp)]
 rw[h.1,e,List.append_nil]
theorem gr_trans {w w1 w2:World}{k:Option Nat}(h:w.grownBy w1 k)(h2:w1.grownBy w2 k):w.grownBy w2 k:=kt.grown_trans h h2
theorem kindE_none {b i j:Nat}{s:ByteArray}{w w':World}{T l3:List UInt8}(hg:w.grownBy w' (some b))(hs:Sc w' b s j)(hT:((s.data.toList.drop i).dropWhile (· =32)).takeWhile tpB=T)(h3:(((s.data.toList.drop i).dropWhile (· =32)).dropWhile tpB).dropWhile (· =32)=l3)
  (h: ∀c r,l3=c::r→ ¬ (c=61∧typeOK (lowL T)=true)):KindE b s i w (.returned (.tuple #[.string ⟨#[]⟩,.bool false])) w':=by
 refine⟨hg,?_⟩;rw[kindP_eq _ T l3 hT h3];have e:kTail T l3=none:=by
  cases l3 with
  | nil=>rfl
  | cons c r=>exact if_neg (h c r rfl)
 rw[e];exact⟨j,rfl,hs⟩
theorem kindE_some {b i j:Nat}{s:ByteArray}{w w':World}{T r:List UInt8}(hg:w.grownBy w' (some b))(hs:Sc w' b s j)(hT:((s.data.toList.drop i).dropWhile (· =32)).takeWhile tpB=T)(h3:(((s.data.toList.drop i).dropWhile (· =32)).dropWhile tpB).dropWhile (· =32)=61::r)
  (h:typeOK (lowL T)=true) (hij:i<j) (hj:j≤s.size) (hr:s.data.toList.drop j=r):KindE b s i w (.returned (.tuple #[.string ⟨(lowL T).toArray⟩,.bool true])) w':=by
 refine⟨hg,?_⟩;rw[kindP_eq _ T _ hT h3];have e:kTail T (61::r)=some (lowL T,r):=if_pos ⟨rfl,h⟩;rw[e];exact⟨j,rfl,hij,hj,hr,hs⟩
theorem kind_any (b:Nat)(s:ByteArray)(i:Nat)(w:World)(hS:Hid (Sc w b s i))(hi:i≤s.size)(hs:s.size≤10000)(hT:Hid (Tabs w))(hTb:Hid (∀w',w.grownBy w' (some b)→Tabs w')):
  Calls Tryz.prog 156 #[.pointer (some ⟨b,0,none⟩)] w fun e w'=>KindE b s i w e w':=by
 have CB:=Lib.hid (blanks_any b s i w hS hi (by omega));go_enter Tryz.func156,Tryz.ntmps156;go_wp2_with fail;refine CB.out.mono ?_;rintro e w1 ⟨rfl,j1,hij1,hj1,hD1,hS1,hG1⟩;obtain⟨c0,c1,f1,hb1⟩:=sc_cells hS1;have HS1:=Lib.hid hS1;have HD1:=Lib.hid hD1;clear hS1 hD1 CB;go_wp2_with fail;clear c0 c1 f1;go_loopw [] (fun wr=> ∃j,j1≤j∧j≤s.size∧Hid (TypeAt s j1 j)∧Hid (Sc wr b s j)∧w.grownBy wr (some b)) (fun wr=>s.size-posOf wr b);case atStart=>exact⟨j1,Nat.le_refl _,hj1,⟨by simp,rfl⟩,HS1,hG1⟩
 case round=>
  obtain⟨j,hj1j,hj,hTA,hC,hG⟩:=hrel;obtain⟨c0,c1,f1,hb⟩:=sc_cells hC.out;have hjI:(j1:Int)≤(j:Int):=by omega
  by_cases hon: ∃hlt:j<s.size,tpB (s[j]'hlt)=true
  ·obtain⟨hlt,hc⟩:=hon;have hlt':(j:Int)<(s.size:Int):=(by omega);have HTA:=Lib.hid (typeAt_on hTA.out hj1j hlt hc);obtain⟨q1,q2⟩:=(tpB_iff _).1 hc;have q1a:(((s[j]'hlt).toNat:Int)==61)=false:=(by rw[beq_eq_false_iff_ne];exact q1);have q1b:(((s[j]'hlt).toNat:Int) !=61)=true:=(by rw[bne_iff_ne];exact q1);have q2a:(((s[j]'hlt).toNat:Int)==32)=false:=(by rw[beq_eq_false_iff_ne];exact q2);have q2b:(((s[j]'hlt).toNat:Int) !=32)=true:=(by rw[bne_iff_ne];exact q2);clear hc q1 q2;go_wp2_with fail;go_quiet (fail);go_wp2_with fail;go_roundw;case rel=>exact⟨j+1,by omega,by omega,HTA,sc_inc hC.out nq,gr_set hG nq _⟩
   case measure=>rw[posOf_sc hC.out,posOf_sc (sc_inc hC.out nq)];omega
  ·have hex: ∀c t,s.data.toList.drop j=c::t→tpB c=false:=by
    intro c t hct;by_cases hlt:j<s.size
    ·rw[drop_cons s j hlt]at hct;have hcc:s[j]=c:=(by simp only[List.cons.injEq]at hct;exact hct.1);rw[←hcc];by_cases e:tpB s[j]=true
     ·exact absurd ⟨hlt,e⟩ hon
     ·simpa using e
    ·rw[List.drop_of_length_le (by simp;omega)]at hct;cases hct
   obtain⟨hT1,hT2⟩:=typeAt_off hTA.out hex;rw[HD1.out]at hT1 hT2;obtain⟨U,hU⟩: ∃U:ByteArray,U=s.extract j1 j:=⟨_,rfl⟩;have hUd:U.data.toList=(s.data.toList.drop j1).take (j-j1):=(by rw[hU,Lib.extract_data]);rw[←HD1.out]at hT1;rw[←hUd]at hT1;rw[HD1.out]at hT1;have hUs:U.size≤10000:=(by rw[←kt.size_len,hUd,List.length_take,List.length_drop,kt.size_len];omega);obtain⟨lt1,lt2⟩:=low_type U.data.toList;have hml:=mapGoD_len lowf _ U.data.toList (Nat.le_refl _);rw[kt.size_len]at hml;have CL:Hid (∀W:World,Hid (Tabs W)→Calls Tryz.prog 203 #[.string U] W fun e w'=>e= .returned (.string ⟨(Lib.mapD lowf U.data.toList).toArray⟩)∧Below W.heap.size W w'):=fun W h=>lower_any U W (by omega) h;obtain⟨V,hV⟩: ∃V:ByteArray,V=⟨(Lib.mapD lowf U.data.toList).toArray⟩:=⟨_,rfl⟩;have hVd:V.data.toList=Lib.mapD lowf U.data.toList:=(by rw[hV]);have hVs:V.size≤40000:=(by rw[←kt.size_len,hVd];omega);rw[←hV]at CL;have LR: ∀W,_:=fun W=>rightType_any V W (by omega);rw[hVd,lt1]at LR;have HLT2:Hid (typeOK (lowL U.data.toList)=true→V=⟨(lowL U.data.toList).toArray⟩):=fun h=>by rw[hV,lt2 h]
   have CLD:Hid (∀n,Calls Tryz.prog 203 #[.string U] (wr.drewN n) fun e w'=>e= .returned (.string V)∧Below (wr.drewN n).heap.size (wr.drewN n) w'):=fun n=>CL.out _ (Lib.hid (hTb.out _ (gr_drewN hG n)));have HT1:=Lib.hid hT1;have HT2:=Lib.hid hT2;have hex3:j=s.size∨(∃hlt:j<s.size,((s[j]'hlt).toNat:Int)=61)∨(∃hlt:j<s.size,((s[j]'hlt).toNat:Int)=32):=by
    by_cases hlt:j<s.size
    ·right;by_cases e1:((s[j]'hlt).toNat:Int)=61
     ·exact Or.inl ⟨hlt,e1⟩
     ·by_cases e2:((s[j]'hlt).toNat:Int)=32
      ·exact Or.inr ⟨hlt,e2⟩
      ·exact absurd ⟨hlt,(tpB_iff _).2 ⟨e1,e2⟩⟩ hon
    ·left;omega
   have HUS:=Lib.hid hUs;have HVS:=Lib.hid hVs;clear hT1 hT2 hUd lt1 lt2 hml hV hVd hex hon hUs hVs;have hU':=hU.symm;clear hU;have hjj:(j:Int)≤(s.size:Int):=(by omega);have hj0:(0:Int)≤(j:Int):=(by omega);have hj10:(0:Int)≤(j1:Int):=(by omega);have htn:((j:Int)).toNat=j:=(by omega);have htn1:((j1:Int)).toNat=j1:=(by omega);rcases hex3 with h0 | ⟨hlt,h0⟩ | ⟨hlt,h0⟩
   ·have h0':decide (j<s.size)=false:=(by rw[decide_eq_false_iff_not];omega);clear h0;go_wp2_with fail;go_quiet (fail);clear h0';go_wp2_with fail;go_region_held3 (fun W=>W.cell? ⟨b,0,none⟩=some (.string s)∧W.cell? ⟨b,1,none⟩=some (.int .i64 (j:Int))∧Hid (Sc W b s j)) (first | exact⟨c0,c1,hC⟩ | exact⟨(sc_cells (sc_below (sc_drewN hC.out _) hBn)).1,(sc_cells (sc_below (sc_drewN hC.out _) hBn)).2.1,sc_below (sc_drewN hC.out _) hBn⟩)
     ((go_at_call 203;refine(CLD.out _).mono ?_;rintro e w2 ⟨rfl,hBn⟩))
    have HS2:=Lib.hid (sc_below (sc_drewN hC.out _) hBn);have HG2:=Lib.hid (gr_trans (gr_drewN hG _) (gr_below (some b) hBn));clear hBn c0 c1 f1;have CB2:=Lib.hid (blanks_any b s j w2 HS2 hj (by omega));go_wp2_with fail;refine CB2.out.mono ?_;rintro e w3 ⟨rfl,j3,hij3,hj3,hD3,hS3,hG3⟩;have HS3:=Lib.hid hS3;have HG3:=Lib.hid (gr_trans HG2.out hG3);rw[←HT2.out]at hD3;have HD3:=Lib.hid hD3;obtain⟨d0,d1,g1,hb3⟩:=sc_cells hS3;clear hS3 hG3 hD3 CB2;by_cases hl3:j3<s.size
    ·have hl3':decide (s.size≤j3)=false:=(by rw[decide_eq_false_iff_not];omega);have hl3i:(j3:Int)<(s.size:Int):=(by omega);have hdc:=drop_cons s j3 hl3;rw[HD3.out]at hdc;have HDC:=Lib.hid hdc;clear hdc;by_cases h61:((s[j3]'hl3).toNat:Int)=61
     ·have q3a:(((s[j3]'hl3).toNat:Int)==61)=true:=(by rw[beq_iff_eq];exact h61);have q3b:(((s[j3]'hl3).toNat:Int) !=61)=false:=(by rw[bne_eq_false_iff_eq];exact h61);have h61':s[j3]=61:=u8_eq (n:=61) (by omega) h61;rw[h61']at HDC;by_cases hty:typeOK (lowL U.data.toList)=true
      ·rw[hty]at LR;have HLR:=Lib.hid LR;have HV:=Lib.hid (HLT2.out hty);have HE:Hid (∀w',w.grownBy w' (some b)→Sc w' b s (j3+1)→KindE b s i w (.returned (.tuple #[.string V,.bool true])) w'):=(by intro w' hg hs';rw[HV.out];exact kindE_some hg hs' HT1.out HDC.out hty (by omega) (by omega) rfl);clear LR h61 h61' hty HV;go_wp2_with fail;go_quiet ((go_at_call 204;exact Calls.quiet_of_same (kt.flip (HLR.out _))));go_wp2_with fail;go_ret2;exact HE.out _ (gr_set HG3.out _ _) (sc_inc HS3.out _)
      ·have hty':typeOK (lowL U.data.toList)=false:=(by simpa using hty);rw[hty']at LR;have HLR:=Lib.hid LR;have HE:Hid (∀w',w.grownBy w' (some b)→Sc w' b s j3→KindE b s i w (.returned (.tuple #[.string ⟨#[]⟩,.bool false])) w'):=
        fun w' hg hs'=>kindE_none hg hs' HT1.out HDC.out (fun c r _ h=>hty h.2)
       clear LR h61 h61' hty hty';go_wp2_with fail;go_quiet ((go_at_call 204;exact Calls.quiet_of_same (kt.flip (HLR.out _))));go_wp2_with fail;go_ret2;exact HE.out _ (gr_drewN HG3.out _) (sc_drewN HS3.out _)
     ·have q3a:(((s[j3]'hl3).toNat:Int)==61)=false:=(by rw[beq_eq_false_iff_ne];exact h61);have q3b:(((s[j3]'hl3).toNat:Int) !=61)=true:=(by rw[bne_iff_ne];exact h61);have HE:Hid (∀w',w.grownBy w' (some b)→Sc w' b s j3→KindE b s i w (.returned (.tuple #[.string ⟨#[]⟩,.bool false])) w'):=
       fun w' hg hs'=>kindE_none hg hs' HT1.out HDC.out (fun c r hcr h=>by simp only[List.cons.injEq]at hcr;exact u8_ne (n:=61) (by omega) h61 (hcr.1.trans h.1))
      clear h61 LR;go_wp2_with fail;go_quiet (fail);go_wp2_with fail;go_ret2;exact HE.out _ (gr_drewN HG3.out _) (sc_drewN HS3.out _)
    ·have hl3':decide (s.size≤j3)=true:=(by rw[decide_eq_true_iff];omega);have hd0:s.data.toList.drop j3=[]:=List.drop_of_length_le (by simp;omega);rw[HD3.out]at hd0;have HD0:=Lib.hid hd0;have HE:Hid (∀w',w.grownBy w' (some b)→Sc w' b s j3→KindE b s i w (.returned (.tuple #[.string ⟨#[]⟩,.bool false])) w'):=
      fun w' hg hs'=>kindE_none hg hs' HT1.out HD0.out (fun c r hcr=>by cases hcr)
     clear hd0 LR;go_wp2_with fail;go_quiet (fail);go_wp2_with fail;go_ret2;exact HE.out _ (gr_drewN HG3.out _) (sc_drewN HS3.out _)
   ·have hlt':(j:Int)<(s.size:Int):=(by omega);have q1a:(((s[j]'hlt).toNat:Int)==61)=true:=(by rw[beq_iff_eq];exact h0);have q1b:(((s[j]'hlt).toNat:Int) !=61)=false:=(by rw[bne_eq_false_iff_eq];exact h0);clear h0;go_wp2_with fail;go_quiet (fail);clear q1a q1b;go_wp2_with fail;go_region_held3 (fun W=>W.cell? ⟨b,0,none⟩=some (.string s)∧W.cell? ⟨b,1,none⟩=some (.int .i64 (j:Int))∧Hid (Sc W b s j)) (first | exact⟨c0,c1,hC⟩ | exact⟨(sc_cells (sc_below (sc_drewN hC.out _) hBn)).1,(sc_cells (sc_below (sc_drewN hC.out _) hBn)).2.1,sc_below (sc_drewN hC.out _) hBn⟩)
     ((go_at_call 203;refine(CLD.out _).mono ?_;rintro e w2 ⟨rfl,hBn⟩))
    have HS2:=Lib.hid (sc_below (sc_drewN hC.out _) hBn);have HG2:=Lib.hid (gr_trans (gr_drewN hG _) (gr_below (some b) hBn));clear hBn c0 c1 f1;have CB2:=Lib.hid (blanks_any b s j w2 HS2 hj (by omega));go_wp2_with fail;refine CB2.out.mono ?_;rintro e w3 ⟨rfl,j3,hij3,hj3,hD3,hS3,hG3⟩;have HS3:=Lib.hid hS3;have HG3:=Lib.hid (gr_trans HG2.out hG3);rw[←HT2.out]at hD3;have HD3:=Lib.hid hD3;obtain⟨d0,d1,g1,hb3⟩:=sc_cells hS3;clear hS3 hG3 hD3 CB2;by_cases hl3:j3<s.size
    ·have hl3':decide (s.size≤j3)=false:=(by rw[decide_eq_false_iff_not];omega);have hl3i:(j3:Int)<(s.size:Int):=(by omega);have hdc:=drop_cons s j3 hl3;rw[HD3.out]at hdc;have HDC:=Lib.hid hdc;clear hdc;by_cases h61:((s[j3]'hl3).toNat:Int)=61
     ·have q3a:(((s[j3]'hl3).toNat:Int)==61)=true:=(by rw[beq_iff_eq];exact h61);have q3b:(((s[j3]'hl3).toNat:Int) !=61)=false:=(by rw[bne_eq_false_iff_eq];exact h61);have h61':s[j3]=61:=u8_eq (n:=61) (by omega) h61;rw[h61']at HDC;by_cases hty:typeOK (lowL U.data.toList)=true
      ·rw[hty]at LR;have HLR:=Lib.hid LR;have HV:=Lib.hid (HLT2.out hty);have HE:Hid (∀w',w.grownBy w' (some b)→Sc w' b s (j3+1)→KindE b s i w (.returned (.tuple #[.string V,.bool true])) w'):=(by intro w' hg hs';rw[HV.out];exact kindE_some hg hs' HT1.out HDC.out hty (by omega) (by omega) rfl);clear LR h61 h61' hty HV;go_wp2_with fail;go_quiet ((go_at_call 204;exact Calls.quiet_of_same (kt.flip (HLR.out _))));go_wp2_with fail;go_ret2;exact HE.out _ (gr_set HG3.out _ _) (sc_inc HS3.out _)
      ·have hty':typeOK (lowL U.data.toList)=false:=(by simpa using hty);rw[hty']at LR;have HLR:=Lib.hid LR;have HE:Hid (∀w',w.grownBy w' (some b)→Sc w' b s j3→KindE b s i w (.returned (.tuple #[.string ⟨#[]⟩,.bool false])) w'):=
        fun w' hg hs'=>kindE_none hg hs' HT1.out HDC.out (fun c r _ h=>hty h.2)
       clear LR h61 h61' hty hty';go_wp2_with fail;go_quiet ((go_at_call 204;exact Calls.quiet_of_same (kt.flip (HLR.out _))));go_wp2_with fail;go_ret2;exact HE.out _ (gr_drewN HG3.out _) (sc_drewN HS3.out _)
     ·have q3a:(((s[j3]'hl3).toNat:Int)==61)=false:=(by rw[beq_eq_false_iff_ne];exact h61);have q3b:(((s[j3]'hl3).toNat:Int) !=61)=true:=(by rw[bne_iff_ne];exact h61);have HE:Hid (∀w',w.grownBy w' (some b)→Sc w' b s j3→KindE b s i w (.returned (.tuple #[.string ⟨#[]⟩,.bool false])) w'):=
       fun w' hg hs'=>kindE_none hg hs' HT1.out HDC.out (fun c r hcr h=>by simp only[List.cons.injEq]at hcr;exact u8_ne (n:=61) (by omega) h61 (hcr.1.trans h.1))
      clear h61 LR;go_wp2_with fail;go_quiet (fail);go_wp2_with fail;go_ret2;exact HE.out _ (gr_drewN HG3.out _) (sc_drewN HS3.out _)
    ·have hl3':decide (s.size≤j3)=true:=(by rw[decide_eq_true_iff];omega);have hd0:s.data.toList.drop j3=[]:=List.drop_of_length_le (by simp;omega);rw[HD3.out]at hd0;have HD0:=Lib.hid hd0;have HE:Hid (∀w',w.grownBy w' (some b)→Sc w' b s j3→KindE b s i w (.returned (.tuple #[.string ⟨#[]⟩,.bool false])) w'):=
      fun w' hg hs'=>kindE_none hg hs' HT1.out HD0.out (fun c r hcr=>by cases hcr)
     clear hd0 LR;go_wp2_with fail;go_quiet (fail);go_wp2_with fail;go_ret2;exact HE.out _ (gr_drewN HG3.out _) (sc_drewN HS3.out _)
   ·have hlt':(j:Int)<(s.size:Int):=(by omega);have q1a:(((s[j]'hlt).toNat:Int)==61)=false:=(by rw[beq_eq_false_iff_ne];omega);have q1b:(((s[j]'hlt).toNat:Int) !=61)=true:=(by rw[bne_iff_ne];omega);have q2a:(((s[j]'hlt).toNat:Int)==32)=true:=(by rw[beq_iff_eq];exact h0);have q2b:(((s[j]'hlt).toNat:Int) !=32)=false:=(by rw[bne_eq_false_iff_eq];exact h0);clear h0;go_wp2_with fail;go_quiet (fail);clear q1a q1b q2a q2b;go_wp2_with fail;go_region_held3 (fun W=>W.cell? ⟨b,0,none⟩=some (.string s)∧W.cell? ⟨b,1,none⟩=some (.int .i64 (j:Int))∧Hid (Sc W b s j)) (first | exact⟨c0,c1,hC⟩ | exact⟨(sc_cells (sc_below (sc_drewN hC.out _) hBn)).1,(sc_cells (sc_below (sc_drewN hC.out _) hBn)).2.1,sc_below (sc_drewN hC.out _) hBn⟩)
     ((go_at_call 203;refine(CLD.out _).mono ?_;rintro e w2 ⟨rfl,hBn⟩))
    have HS2:=Lib.hid (sc_below (sc_drewN hC.out _) hBn);have HG2:=Lib.hid (gr_trans (gr_drewN hG _) (gr_below (some b) hBn));clear hBn c0 c1 f1;have CB2:=Lib.hid (blanks_any b s j w2 HS2 hj (by omega));go_wp2_with fail;refine CB2.out.mono ?_;rintro e w3 ⟨rfl,j3,hij3,hj3,hD3,hS3,hG3⟩;have HS3:=Lib.hid hS3;have HG3:=Lib.hid (gr_trans HG2.out hG3);rw[←HT2.out]at hD3;have HD3:=Lib.hid hD3;obtain⟨d0,d1,g1,hb3⟩:=sc_cells hS3;clear hS3 hG3 hD3 CB2;by_cases hl3:j3<s.size
    ·have hl3':decide (s.size≤j3)=false:=(by rw[decide_eq_false_iff_not];omega);have hl3i:(j3:Int)<(s.size:Int):=(by omega);have hdc:=drop_cons s j3 hl3;rw[HD3.out]at hdc;have HDC:=Lib.hid hdc;clear hdc;by_cases h61:((s[j3]'hl3).toNat:Int)=61
     ·have q3a:(((s[j3]'hl3).toNat:Int)==61)=true:=(by rw[beq_iff_eq];exact h61);have q3b:(((s[j3]'hl3).toNat:Int) !=61)=false:=(by rw[bne_eq_false_iff_eq];exact h61);have h61':s[j3]=61:=u8_eq (n:=61) (by omega) h61;rw[h61']at HDC;by_cases hty:typeOK (lowL U.data.toList)=true
      ·rw[hty]at LR;have HLR:=Lib.hid LR;have HV:=Lib.hid (HLT2.out hty);have HE:Hid (∀w',w.grownBy w' (some b)→Sc w' b s (j3+1)→KindE b s i w (.returned (.tuple #[.string V,.bool true])) w'):=(by intro w' hg hs';rw[HV.out];exact kindE_some hg hs' HT1.out HDC.out hty (by omega) (by omega) rfl);clear LR h61 h61' hty HV;go_wp2_with fail;go_quiet ((go_at_call 204;exact Calls.quiet_of_same (kt.flip (HLR.out _))));go_wp2_with fail;go_ret2;exact HE.out _ (gr_set HG3.out _ _) (sc_inc HS3.out _)
      ·have hty':typeOK (lowL U.data.toList)=false:=(by simpa using hty);rw[hty']at LR;have HLR:=Lib.hid LR;have HE:Hid (∀w',w.grownBy w' (some b)→Sc w' b s j3→KindE b s i w (.returned (.tuple #[.string ⟨#[]⟩,.bool false])) w'):=
        fun w' hg hs'=>kindE_none hg hs' HT1.out HDC.out (fun c r _ h=>hty h.2)
       clear LR h61 h61' hty hty';go_wp2_with fail;go_quiet ((go_at_call 204;exact Calls.quiet_of_same (kt.flip (HLR.out _))));go_wp2_with fail;go_ret2;exact HE.out _ (gr_drewN HG3.out _) (sc_drewN HS3.out _)
     ·have q3a:(((s[j3]'hl3).toNat:Int)==61)=false:=(by rw[beq_eq_false_iff_ne];exact h61);have q3b:(((s[j3]'hl3).toNat:Int) !=61)=true:=(by rw[bne_iff_ne];exact h61);have HE:Hid (∀w',w.grownBy w' (some b)→Sc w' b s j3→KindE b s i w (.returned (.tuple #[.string ⟨#[]⟩,.bool false])) w'):=
       fun w' hg hs'=>kindE_none hg hs' HT1.out HDC.out (fun c r hcr h=>by simp only[List.cons.injEq]at hcr;exact u8_ne (n:=61) (by omega) h61 (hcr.1.trans h.1))
      clear h61 LR;go_wp2_with fail;go_quiet (fail);go_wp2_with fail;go_ret2;exact HE.out _ (gr_drewN HG3.out _) (sc_drewN HS3.out _)
    ·have hl3':decide (s.size≤j3)=true:=(by rw[decide_eq_true_iff];omega);have hd0:s.data.toList.drop j3=[]:=List.drop_of_length_le (by simp;omega);rw[HD3.out]at hd0;have HD0:=Lib.hid hd0;have HE:Hid (∀w',w.grownBy w' (some b)→Sc w' b s j3→KindE b s i w (.returned (.tuple #[.string ⟨#[]⟩,.bool false])) w'):=
      fun w' hg hs'=>kindE_none hg hs' HT1.out HD0.out (fun c r hcr=>by cases hcr)
     clear hd0 LR;go_wp2_with fail;go_quiet (fail);go_wp2_with fail;go_ret2;exact HE.out _ (gr_drewN HG3.out _) (sc_drewN HS3.out _)
end dnw
open Go.RowKit
namespace dnw
open dnp
def EscE (b:Nat)(s:ByteArray)(i:Nat)(w:World)(e:Ending)(w':World):Prop:=
 w.grownBy w' (some b)∧match esc (s.data.toList.drop i)with
  | none=> ∃j,e= .returned (.tuple #[.int .u8 0,.bool false])∧Sc w' b s j
  | some (d,n)=>e= .returned (.tuple #[.int .u8 (d.toNat:Int),.bool true])∧Sc w' b s (i+n)
def plainEsc (d:UInt8):Prop:=special d=true∨d=35∨d=32
theorem ix_signs (d:UInt8):0≤Lib.indexByte [34,43,44,59,60,61,62,92,35,32] d↔plainEsc d:=by
 have all: ∀m:Fin 256,(decide (0≤Lib.indexByte [34,43,44,59,60,61,62,92,35,32] (UInt8.ofNat m.val)))=(special (UInt8.ofNat m.val)||decide (UInt8.ofNat m.val=35)||decide (UInt8.ofNat m.val=32)):=by decide+kernel
 have h:=all ⟨d.toNat,d.toNat_lt⟩;simp only[UInt8.ofNat_toNat]at h;unfold plainEsc;rw[←decide_eq_true_iff (p:=0≤_),h,Bool.or_eq_true,Bool.or_eq_true,decide_eq_true_iff,decide_eq_true_iff];constructor
 ·rintro((h | h) | h)
  ·exact Or.inl h
  ·exact Or.inr (Or.inl h)
  ·exact Or.inr (Or.inr h)
 ·rintro(h | h | h)
  ·exact Or.inl (Or.inl h)
  ·exact Or.inl (Or.inr h)
  ·exact Or.inr h
theorem esc_plain {d:UInt8}{t:List UInt8}(h:plainEsc d):esc (d::t)=some (d,1):=if_pos h
theorem esc_one {d:UInt8}(h: ¬plainEsc d):esc [d]=none:=if_neg h
theorem esc_hex {d e:UInt8}{t:List UInt8}(h: ¬plainEsc d)(h2: ¬ (b64p.valI d<0∨b64p.valI e<0)):esc (d::e::t)=some (UInt8.ofNat (16*b64p.valI d+b64p.valI e).toNat,2):=(if_neg h).trans (if_neg h2)
theorem esc_nohex {d e:UInt8}{t:List UInt8}(h: ¬plainEsc d)(h2:b64p.valI d<0∨b64p.valI e<0):esc (d::e::t)=none:=(if_neg h).trans (if_pos h2)
theorem unhex_two (d e:UInt8):b64p.unhex [d,e]=if b64p.valI d<0∨b64p.valI e<0 then none else some [UInt8.ofNat (16*b64p.valI d+b64p.valI e).toNat]:=by
 unfold b64p.unhex;split
 ·rfl
 ·rfl
theorem sc_inc0 {w:World}{b i:Nat}{s:ByteArray}(h:Sc w b s i):Sc (w.setCell ⟨b,1,none⟩ (.int .i64 ((i:Int)+1))) b s (i+1):=sc_set0 h (i+1)
theorem sc_two0 {w:World}{b i:Nat}{s:ByteArray}(h:Sc w b s i):Sc (w.setCell ⟨b,1,none⟩ (.int .i64 ((i:Int)+2))) b s (i+2):=sc_set0 h (i+2)
theorem gr_set0 {w w':World}{b:Nat}(h:w.grownBy w' (some b))(v:Value):w.grownBy (w'.setCell ⟨b,1,none⟩ v) (some b):=gr_set h 0 v
theorem escaped_any (b:Nat)(s:ByteArray)(i:Nat)(w:World)(hS:Hid (Sc w b s i))(hi:i≤s.size)(hs:s.size≤10000):
  Calls Tryz.prog 205 #[.pointer (some ⟨b,0,none⟩)] w fun e w'=>EscE b s i w e w':=by
 obtain⟨c0,c1,f1,hb⟩:=sc_cells hS.out;obtain⟨U,hU⟩: ∃U:ByteArray,s.extract i s.size=U:=⟨_,rfl⟩;have hUd:U.data.toList=s.data.toList.drop i:=by rw[←hU,Lib.extract_to_end]
 have hUs:U.size=s.size-i:=by rw[←kt.size_len,hUd,List.length_drop,kt.size_len]
 have hi':(i:Int)≤(s.size:Int):=by omega
 have hi0:(0:Int)≤(i:Int):=by omega
 by_cases h0:U.size=0
 ·have hd0:s.data.toList.drop i=[]:=by rw[←hUd];exact List.eq_nil_of_length_eq_zero (by rw[kt.size_len];exact h0)
  have HD0:=Lib.hid hd0;obtain rfl:U=⟨#[]⟩:=kt.str_eq (by rw[hUd,hd0]);clear hUd hUs h0 hd0;go_enter Tryz.func205,Tryz.ntmps205;go_wp2_with fail;go_quiet (fail);go_wp2_with fail;go_ret2;refine⟨gr_drewN (gr_refl _ _) _,?_⟩;rw[HD0.out];exact⟨i,rfl,sc_drewN hS.out _⟩
 ·have hU0:0<U.size:=by omega
  have hU0':0<(U.size:Int):=by omega
  have hcons:s.data.toList.drop i=U[0]::U.data.toList.drop 1:=by rw[←hUd];have:=drop_cons U 0 hU0;simpa using this
  have g1:(U.toList==[])=false:=by rw[beq_eq_false_iff_ne,Lib.toList_data,hUd,hcons];simp
  have g2: ¬U.toList=[]:=by simpa using g1
  have CX:Hid (∀W:World,Calls Tryz.prog 175 #[.string ⟨#[34,43,44,59,60,61,62,92,35,32]⟩,.int .u8 ((U[0]'hU0).toNat:Int)] W fun e w'=>e= .returned (.int .i64 (Lib.indexByte [34,43,44,59,60,61,62,92,35,32] (U[0]'hU0)))∧w'=W):=by intro W;have:=Tryz.strings_IndexByte ⟨#[34,43,44,59,60,61,62,92,35,32]⟩ ((U[0]'hU0).toNat:Int) W;have e:((U[0]'hU0).toNat:Int).toNat.toUInt8=U[0]'hU0:=(by simp);rw[e]at this;exact this
  have hix:=ix_signs (U[0]'hU0);generalize Lib.indexByte [34,43,44,59,60,61,62,92,35,32] (U[0]'hU0)=ix at CX hix;by_cases hp:plainEsc (U[0]'hU0)
  ·have hix':0≤ix:=hix.2 hp;have HE:Hid (esc (s.data.toList.drop i)=some (U[0]'hU0,1)):=(by show _=_;rw[hcons];exact esc_plain hp);clear hix hp hcons hUd;go_enter Tryz.func205,Tryz.ntmps205;go_wp2_with fail;go_quiet (fail);go_wp2_with fail;refine(CX.out _).mono ?_;rintro e w1 ⟨rfl,rfl⟩;go_wp2_with fail;go_ret2;refine⟨gr_set (gr_refl _ _) _ _,?_⟩;rw[HE.out];exact⟨rfl,sc_inc hS.out _⟩
  ·have hix': ¬0≤ix:=fun h=>hp (hix.1 h);have hix2:decide (0≤ix)=false:=(by rw[decide_eq_false_iff_not];exact hix');by_cases h2:U.size<2
   ·have h2':(U.size:Int)<2:=(by omega);have HE:Hid (esc (s.data.toList.drop i)=none):=(by show _=_;rw[hcons,List.drop_of_length_le (by rw[kt.size_len];omega)];exact esc_one hp);clear hix hix' hp hcons hUd;go_enter Tryz.func205,Tryz.ntmps205;go_wp2_with fail;go_quiet (fail);go_wp2_with fail;refine(CX.out _).mono ?_;rintro e w1 ⟨rfl,rfl⟩;go_wp2_with fail;go_ret2;refine⟨gr_drewN (gr_refl _ _) _,?_⟩;rw[HE.out];exact⟨i,rfl,sc_drewN hS.out _⟩
   ·have h2': ¬ (U.size:Int)<2:=(by omega);have hU1:1<U.size:=(by omega);have h2b:(2:Int)≤(U.size:Int):=(by omega);have hc2:U.data.toList.drop 1=U[1]::U.data.toList.drop 2:=drop_cons U 1 hU1;rw[hc2]at hcons;obtain⟨V,hV⟩: ∃V:ByteArray,U.extract 0 2=V:=⟨_,rfl⟩;have hVd:V.data.toList=[U[0],U[1]]:=(by rw[←hV,Lib.extract_from_zero,hUd,hcons];rfl);have CU: ∀W,_:=fun W=>unhex_any V W (by rw[←kt.size_len,hVd];simp);rw[hVd,unhex_two]at CU;by_cases hn:b64p.valI (U[0]'hU0)<0∨b64p.valI (U[1]'hU1)<0
    ·have HE:Hid (esc (s.data.toList.drop i)=none):=(by show _=_;rw[hcons];exact esc_nohex hp hn);rw[if_pos hn]at CU;have HCU:=Lib.hid CU;clear hix hix' hp hcons hUd hc2 hVd hn CU;go_enter Tryz.func205,Tryz.ntmps205;go_wp2_with fail;go_quiet (fail);go_wp2_with fail;refine(CX.out _).mono ?_;rintro e w1 ⟨rfl,rfl⟩;go_wp2_with fail;refine(HCU.out _).mono ?_;rintro e w2 ⟨rfl,hB2⟩;unfold b64p.uhV;go_wp2_with fail;go_ret2;refine⟨gr_trans (gr_drewN (gr_refl _ _) _) (gr_below _ hB2),?_⟩;rw[HE.out];exact⟨i,rfl,sc_below (sc_drewN hS.out _) hB2⟩
    ·have HE:Hid (esc (s.data.toList.drop i)=some (UInt8.ofNat (16*b64p.valI (U[0]'hU0)+b64p.valI (U[1]'hU1)).toNat,2)):=(by show _=_;rw[hcons];exact esc_hex hp hn);rw[if_neg hn]at CU;generalize UInt8.ofNat (16*b64p.valI (U[0]'hU0)+b64p.valI (U[1]'hU1)).toNat=x at CU HE;have HCU:=Lib.hid CU;clear hix hix' hp hcons hUd hc2 hVd hn CU;go_enter Tryz.func205,Tryz.ntmps205;go_wp2_with fail;go_quiet (fail);go_wp2_with fail;refine(CX.out _).mono ?_;rintro e w1 ⟨rfl,rfl⟩;go_wp2_with fail;refine(HCU.out _).mono ?_;rintro e w2 ⟨rfl,hB2⟩;have HS2:=Lib.hid (sc_below (sc_drewN hS.out _) hB2);have HG2:=Lib.hid (gr_trans (gr_drewN (gr_refl w (some b)) _) (gr_below _ hB2));obtain⟨d0,d1,e1,hb2⟩:=sc_cells HS2.out;clear hB2 c0 c1 f1;unfold b64p.uhV;go_wp2_with fail;go_ret2;refine⟨gr_set0 HG2.out _,?_⟩;rw[HE.out];exact⟨rfl,sc_two0 HS2.out⟩
end dnw
open Go.RowKit
namespace dnw
open dnp
def ValE (b:Nat)(s:ByteArray)(i:Nat)(w:World)(e:Ending)(w':World):Prop:=
 w.grownBy w' (some b)∧match valueP (s.data.toList.drop i)with
  | none=> ∃j,e= .returned (.tuple #[.string ⟨#[]⟩,.bool false])∧Sc w' b s j
  | some (t,r)=> ∃j,e= .returned (.tuple #[.string ⟨t.toArray⟩,.bool true])∧i≤j∧j≤s.size∧s.data.toList.drop j=r∧Sc w' b s j
theorem row_same {w w':World}{B n:Nat}{e:TypeId}{sz:Nat}{v:Value}{xs:List Value}(h:w.ownsRow B e sz v n xs)(hb: ∀k,v.ownBlock=some k→w'.heap[k]? =w.heap[k]?):w'.ownsRow B e sz v n xs:=by
 refine⟨h.1,?_⟩;rcases h.2 with h0 | ⟨g,cap,cur,hv,hBg,hg,h1,h2,h3,h4⟩
 ·exact Or.inl h0
 ·exact Or.inr ⟨g,cap,cur,hv,hBg,(hb g (by rw[hv];rfl)).trans hg,h1,h2,h3,h4⟩
def OwnB (w:World)(B:Nat)(v:Value)(l:List UInt8):Prop:=w.ownsRow B 5 1 v (Lib.byteCells l).length (Lib.byteCells l)
theorem ownB_nil (w:World)(B:Nat):OwnB w B (.slice none 0 0) []:=World.ownsRow_nil _ _ _ _
theorem ownB_set {w:World}{B b n:Nat}{v u:Value}{l:List UInt8}(h:OwnB w B v l)(hb:b<B):OwnB ((w.drewN n).setCell ⟨b,1,none⟩ u) B v l:=row_same (w:=w) h fun k hk=>by have:=(World.ownsRow.lt h k hk).1;exact Below.heap_setCell (w.drewN n) ⟨b,1,none⟩ u k (by show k≠b;omega)
theorem ownB_drewN {w:World}{B n:Nat}{v:Value}{l:List UInt8}(h:OwnB w B v l):OwnB (w.drewN n) B v l:=row_same (w:=w) h fun k _=>rfl
theorem ownB_form {w:World}{B:Nat}{v:Value}{l:List UInt8}(h:OwnB w B v l): ∃ (ao:Option Addr) (cap:Nat),v= .slice ao l.length cap∧l.length≤cap:=by obtain⟨ao,cap,hv,_,hc⟩:=kt.row_slice h;rw[Lib.byteCells_length]at hv hc;exact⟨ao,cap,hv,hc⟩
theorem ownB_gr {w w':World}{B b:Nat}{v:Value}{l:List UInt8}(h:OwnB w B v l)(hb:b<B)(hg:w.grownBy w' (some b)):OwnB w' B v l:=row_same h fun k hk=>by obtain⟨h1,h2⟩:=World.ownsRow.lt h k hk;exact hg.block k h2 (by intro e;cases e;omega)
theorem ownB_app {w:World}{B:Nat}{v:Value}{l:List UInt8}(x:UInt8)(hown:OwnB w B v l)(hl:l.length≤100000000)(hbase:B≤w.heap.size):
  ∃v' w1,(Builtin.append_ #[131,131] 131 #[v,.slice (some ⟨w.heap.size,0,none⟩) 1 1]).run Tryz.prog (w.alloc (.cells #[.int .u8 (x.toNat:Int)] 5))= .ok v' w1∧OwnB w1 B v' (l++[x])∧Below B w w1:=by
 obtain⟨v',w1,h1,h2,_,h3⟩:=kt.app1 (P:=Tryz.prog) (t:=131) (ty:=131) Tryz.underlying131 bld.infoByte rfl (.int .u8 (x.toNat:Int)) rfl hown (by rw[Lib.byteCells_length];unfold maxLen;omega) (by rw[Lib.byteCells_length];omega) hbase;refine⟨v',w1,h1,?_,h3⟩;unfold OwnB;rw[Lib.byteCells_append];exact h2
theorem ownB_str {w:World}{B k cap:Nat}{ao:Option Addr}{l:List UInt8}(h:OwnB w B (.slice ao l.length cap) l)(hk:k≤l.length):
  (convert 131 9 (.slice ao k cap)).run Tryz.prog w= .ok (.string ⟨(l.take k).toArray⟩) w:=by
 by_cases hl:l.length=0
 ·obtain rfl:l=[]:=List.eq_nil_of_length_eq_zero hl;obtain rfl:k=0:=by simp at hk;exact hk
  rcases h.2 with⟨hv,_⟩ | ⟨g,cap',cur,hv,_,hg,_⟩
  ·simp only[Value.slice.injEq]at hv;obtain⟨rfl,_,rfl⟩:=hv;exact Lib.run_convert_nil_bytes w 131 9 5 0 Tryz.underlying131 Tryz.underlying5 Tryz.underlying9
  ·simp only[Value.slice.injEq]at hv;obtain⟨rfl,_,_⟩:=hv;exact run_convert_bytes_back w 131 9 5 ⟨g,0,none⟩ cap [] Tryz.underlying131 Tryz.underlying5 Tryz.underlying9 (fun j hj=>by simp at hj)
 ·have h':w.ownsRow B 5 1 (.slice ao l.length cap) l.length (Lib.byteCells l):=by have:=h;unfold OwnB at this;rw[Lib.byteCells_length]at this;exact this
  obtain⟨g,rfl,hc,_⟩:=kt.row_some h' (by omega);have hlen:(l.take k).length=k:=by rw[List.length_take];omega
  have:=run_convert_bytes_back (P:=Tryz.prog) w 131 9 5 ⟨g,0,none⟩ cap (l.take k) Tryz.underlying131 Tryz.underlying5 Tryz.underlying9 (fun j hj=>by rw[kt.addr_add];rw[hlen]at hj;refine hc j _ ?_;unfold Lib.byteCells;rw[List.getElem?_map,List.getElem?_eq_getElem (by omega)];simp[List.getElem_take]);rw[hlen]at this;exact this
theorem trimR_snoc (B:List Sg)(x:Sg):trimR (B++[x])=if blankS x=true then trimR B else B++[x]:=by
 unfold trimR;rw[List.reverse_append,List.reverse_singleton,List.singleton_append,List.dropWhile_cons];split
 ·rfl
 ·simp
theorem trimR_len (B:List Sg):(trimR B).length≤B.length:=by obtain⟨a,h1,_⟩:=trimR_split B;have:=congrArg List.length h1;rw[List.length_append]at this;omega
theorem trimR_take (B:List Sg):(B.map (·.1)).take (trimR B).length=(trimR B).map (·.1):=by
 obtain⟨a,h1,_⟩:=trimR_split B;have h2:B.map (·.1)=(trimR B).map (·.1)++a.map (·.1):=by rw[←List.map_append,←h1]
 rw[h2,List.take_append_of_le_length (by rw[List.length_map];exact Nat.le_refl _),List.take_of_length_le (by rw[List.length_map];exact Nat.le_refl _)]
def ScanAt (s:ByteArray)(j1 j:Nat)(B:List Sg):Prop:=scan (s.data.toList.drop j1)=(scan (s.data.toList.drop j)).map fun p=>(B++p.1,p.2)
theorem valE_none {b i j:Nat}{s:ByteArray}{w w':World}(hg:w.grownBy w' (some b))(hs:Sc w' b s j)(h:valueP (s.data.toList.drop i)=none):ValE b s i w (.returned (.tuple #[.string ⟨#[]⟩,.bool false])) w':=by refine⟨hg,?_⟩;rw[h];exact⟨j,rfl,hs⟩
theorem valE_some {b i j:Nat}{s:ByteArray}{w w':World}{t r:List UInt8}(hg:w.grownBy w' (some b))(hs:Sc w' b s j)(h:valueP (s.data.toList.drop i)=some (t,r))(hij:i≤j)(hj:j≤s.size)(hr:s.data.toList.drop j=r):ValE b s i w (.returned (.tuple #[.string ⟨t.toArray⟩,.bool true])) w':=by refine⟨hg,?_⟩;rw[h];exact⟨j,rfl,hij,hj,hr,hs⟩
theorem valueP_at {s:ByteArray}{i j1:Nat}(hD:s.data.toList.drop j1=(s.data.toList.drop i).dropWhile (· =32)):valueP (s.data.toList.drop i)=if(s.data.toList.drop j1).head?=some 35 then none else(scan (s.data.toList.drop j1)).map fun p=>((trimR p.1).map (·.1),p.2):=by unfold valueP;rw[←hD]
theorem u8_sep (c:UInt8):isSep c=true↔(c.toNat:Int)=44∨(c.toNat:Int)=59∨(c.toNat:Int)=43:=by
 have all: ∀m:Fin 256,isSep (UInt8.ofNat m.val)=decide ((m.val:Int)=44∨(m.val:Int)=59∨(m.val:Int)=43):=by decide+kernel
 have h:=all ⟨c.toNat,c.toNat_lt⟩;simp only[UInt8.ofNat_toNat]at h;rw[h,decide_eq_true_iff]
theorem u8_bad (c:UInt8):bad c=true↔(c.toNat:Int)=34∨(c.toNat:Int)=60∨(c.toNat:Int)=62:=by
 have all: ∀m:Fin 256,bad (UInt8.ofNat m.val)=decide ((m.val:Int)=34∨(m.val:Int)=60∨(m.val:Int)=62):=by decide+kernel
 have h:=all ⟨c.toNat,c.toNat_lt⟩;simp only[UInt8.ofNat_toNat]at h;rw[h,decide_eq_true_iff]
theorem scanAt_end {s:ByteArray}{j1:Nat}{B:List Sg}(h:ScanAt s j1 s.size B):scan (s.data.toList.drop j1)=some (B,[]):=by unfold ScanAt at h;rw[drop_end,scan_nil]at h;simpa using h
theorem scanAt_sep {s:ByteArray}{j1 j:Nat}{B:List Sg}(h:ScanAt s j1 j B)(hj:j<s.size)(hc:isSep s[j]=true):scan (s.data.toList.drop j1)=some (B,s.data.toList.drop j):=by unfold ScanAt at h;rw[drop_cons s j hj,scan_sep _ _ hc]at h;rw[h,drop_cons s j hj];simp
theorem scanAt_bad {s:ByteArray}{j1 j:Nat}{B:List Sg}(h:ScanAt s j1 j B)(hj:j<s.size)(hs:isSep s[j]=false)(hc:bad s[j]=true):scan (s.data.toList.drop j1)=none:=by unfold ScanAt at h;rw[drop_cons s j hj,scan_bad _ _ hs hc]at h;rw[h];rfl
theorem scanAt_bare {s:ByteArray}{j1 j:Nat}{B:List Sg}(h:ScanAt s j1 j B)(hj:j<s.size)(hs:isSep s[j]=false)(hc:bad s[j]=false)(h92:s[j]≠92):ScanAt s j1 (j+1) (B++[(s[j],true)]):=by unfold ScanAt at*;rw[drop_cons s j hj,scan_bare _ _ hs hc h92,Option.map_map]at h;rw[h];congr 1;funext p;simp
theorem scanAt_none {s:ByteArray}{j1 j:Nat}{B:List Sg}(h:ScanAt s j1 j B)(hj:j<s.size)(hc:s[j]=92)(he:esc (s.data.toList.drop (j+1))=none):scan (s.data.toList.drop j1)=none:=by unfold ScanAt at h;rw[drop_cons s j hj,hc,scan_none _ he]at h;rw[h];rfl
theorem scanAt_esc {s:ByteArray}{j1 j n:Nat}{d:UInt8}{B:List Sg}(h:ScanAt s j1 j B)(hj:j<s.size)(hc:s[j]=92)(he:esc (s.data.toList.drop (j+1))=some (d,n)):ScanAt s j1 (j+1+n) (B++[(d,false)]):=by unfold ScanAt at*;rw[drop_cons s j hj,hc,scan_esc _ _ _ he,Option.map_map,List.drop_drop]at h;rw[h];congr 1;funext p;simp
theorem valueP_none {s:ByteArray}{i j1:Nat}(hD:s.data.toList.drop j1=(s.data.toList.drop i).dropWhile (· =32))(h:scan (s.data.toList.drop j1)=none):valueP (s.data.toList.drop i)=none:=by rw[valueP_at hD,h];simp
theorem valueP_some {s:ByteArray}{i j1:Nat}{B:List Sg}{r:List UInt8}(hD:s.data.toList.drop j1=(s.data.toList.drop i).dropWhile (· =32))(h35: ¬ (s.data.toList.drop j1).head?=some 35)(h:scan (s.data.toList.drop j1)=some (B,r)):valueP (s.data.toList.drop i)=some ((trimR B).map (·.1),r):=by rw[valueP_at hD,if_neg h35,h];rfl
def ValRel (w wr:World)(b:Nat)(s:ByteArray)(j1 j:Nat)(B:List Sg)(ao:Option Addr)(n cap K:Nat):Prop:=Sc wr b s j∧w.grownBy wr (some b)∧OwnB wr w.heap.size (.slice ao n cap) (B.map (·.1))∧n=B.length∧n≤cap∧K=(trimR B).length∧ScanAt s j1 j B∧B.length≤j
theorem valRel_str {w wr:World}{b j1 j n cap K:Nat}{s:ByteArray}{B:List Sg}{ao:Option Addr}(h:ValRel w wr b s j1 j B ao n cap K):(convert 131 9 (.slice ao K cap)).run Tryz.prog wr= .ok (.string ⟨((trimR B).map (·.1)).toArray⟩) wr:=by
 obtain⟨_,_,h3,h4,_,h6,_⟩:=h;have h3':OwnB wr w.heap.size (.slice ao (B.map (·.1)).length cap) (B.map (·.1)):=by rw[List.length_map,←h4];exact h3
 have hk:=trimR_len B;have:=ownB_str h3' (k:=K) (by rw[List.length_map,h6];exact hk);rw[this,h6,trimR_take]
theorem valRel_drewN {w wr:World}{b j1 j n cap K:Nat}{s:ByteArray}{B:List Sg}{ao:Option Addr}(h:ValRel w wr b s j1 j B ao n cap K)(q:Nat):ValRel w (wr.drewN q) b s j1 j B ao n cap K:=⟨sc_drewN h.1 q,gr_drewN h.2.1 q,ownB_drewN h.2.2.1,h.2.2.2⟩
theorem valRel_move {w wr:World}{b j1 j n cap K:Nat}{s:ByteArray}{B:List Sg}{ao:Option Addr}(h:ValRel w wr b s j1 j B ao n cap K)(hb:b<w.heap.size):Sc (wr.setCell ⟨b,1,none⟩ (.int .i64 ((j:Int)+1))) b s (j+1)∧w.grownBy (wr.setCell ⟨b,1,none⟩ (.int .i64 ((j:Int)+1))) (some b)∧OwnB (wr.setCell ⟨b,1,none⟩ (.int .i64 ((j:Int)+1))) w.heap.size (.slice ao n cap) (B.map (·.1)):=⟨sc_inc0 h.1,gr_set0 h.2.1 _,ownB_set (n:=0) h.2.2.1 hb⟩
theorem valRel_app {w wr:World}{b j1 j j2 n cap K:Nat}{s:ByteArray}{B:List Sg}{ao:Option Addr}(x:Sg)(h:ValRel w wr b s j1 j B ao n cap K)(hs:s.size≤10000)(hj:j≤s.size)(hb:b<w.heap.size){w3:World}(h1:Sc w3 b s j2)(h2:w.grownBy w3 (some b))(h3:OwnB w3 w.heap.size (.slice ao n cap) (B.map (·.1)))(hS:ScanAt s j1 j2 (B++[x]))(hj2:j+1≤j2):
  ∃ao' cap' w4,(Builtin.append_ #[131,131] 131 #[.slice ao n cap,.slice (some ⟨w3.heap.size,0,none⟩) 1 1]).run Tryz.prog (w3.alloc (.cells #[.int .u8 (x.1.toNat:Int)] 5))= .ok (.slice ao' (n+1) cap') w4∧n+1≤cap'∧posOf w4 b=j2∧
   ValRel w w4 b s j1 j2 (B++[x]) ao' (n+1) cap' (if blankS x=true then K else n+1):=by
 obtain⟨_,_,_,k4,k5,k6,_,k8⟩:=h;obtain⟨v',w4,hap,hO4,hB4⟩:=ownB_app x.1 h3 (by rw[List.length_map];omega) h2.size;obtain⟨ao',cap',rfl,hc'⟩:=ownB_form hO4;have hl:(B.map (·.1)++[x.1]).length=n+1:=by simp[k4]
 rw[hl]at hap hc' hO4;have hS4:Sc w4 b s j2:=(hB4.block b hb).trans h1;refine⟨ao',cap',w4,hap,hc',posOf_sc hS4,hS4,⟨hB4.os.trans h2.os,hB4.tape.trans h2.tape,hB4.output.trans h2.output,Nat.le_trans h2.size hB4.size,fun k hk hne=>(hB4.block k hk).trans (h2.block k hk hne)⟩,?_,by simp[k4],hc',?_,hS,by simp;omega⟩
 ·have e:(B++[x]).map (·.1)=B.map (·.1)++[x.1]:=by simp
  rw[e];exact hO4
 ·rw[trimR_snoc];split
  ·exact k6
  ·simp[k4]
theorem value_any (b:Nat)(s:ByteArray)(i:Nat)(w:World)(hS:Hid (Sc w b s i))(hi:i≤s.size)(hs:s.size≤10000):
  Calls Tryz.prog 157 #[.pointer (some ⟨b,0,none⟩)] w fun e w'=>ValE b s i w e w':=by
 have CB:=Lib.hid (blanks_any b s i w hS hi (by omega));have hbw:b<w.heap.size:=(sc_cells hS.out).2.2.2;go_enter Tryz.func157,Tryz.ntmps157;go_wp2_with fail;refine CB.out.mono ?_;rintro e w1 ⟨rfl,j1,hij1,hj1,hD1,hS1,hG1⟩;obtain⟨c0,c1,f1,hb1⟩:=sc_cells hS1;have HS1:=Lib.hid hS1;have HD1:=Lib.hid hD1;have HG1:=Lib.hid hG1;obtain⟨U,hU⟩: ∃U:ByteArray,s.extract j1 s.size=U:=⟨_,rfl⟩;have hUd:U.data.toList=s.data.toList.drop j1:=by rw[←hU,Lib.extract_to_end]
 have CP: ∀W:World,Calls Tryz.prog 108 #[.string U,.string ⟨#[35]⟩] W fun e w'=>e= .returned (.bool (Lib.hasPrefix U.data.toList [35]))∧w'=W:=fun W=>Tryz.strings_HasPrefix U ⟨#[35]⟩ W;have hpx:Lib.hasPrefix U.data.toList [35]=true↔(s.data.toList.drop j1).head?=some 35:=by
  rw[hUd];unfold Lib.hasPrefix;cases s.data.toList.drop j1 with
  | nil=>simp[List.isPrefixOf]
  | cons c t=>simp[List.isPrefixOf];exact eq_comm
 have hj1':(j1:Int)≤(s.size:Int):=by omega
 have hj10:(0:Int)≤(j1:Int):=by omega
 clear hS1 hD1 hG1 CB hUd;by_cases h35:(s.data.toList.drop j1).head?=some 35
 ·have hp:=hpx.2 h35;rw[hp]at CP;have HCP:=Lib.hid CP;have HN:Hid (valueP (s.data.toList.drop i)=none):=by show _=_;rw[valueP_at HD1.out,if_pos h35]
  clear hpx h35 CP hp;go_wp2_with fail;go_quiet ((go_at_call 108;exact Calls.quiet_of_same (HCP.out _)));go_wp2_with fail;go_ret2;exact valE_none (gr_drewN HG1.out _) (sc_drewN HS1.out _) HN.out
 ·have hp:Lib.hasPrefix U.data.toList [35]=false:=by rw[Bool.eq_false_iff];exact fun e=>h35 (hpx.1 e)
  rw[hp]at CP;have HCP:=Lib.hid CP;have H35:=Lib.hid h35;clear hpx h35 CP hp;go_wp2_with fail;go_quiet ((go_at_call 108;exact Calls.quiet_of_same (HCP.out _)));go_wp2_with fail;have HS1':=Lib.hid (sc_drewN HS1.out nq);have HG1':=Lib.hid (gr_drewN HG1.out nq);clear c0 c1 f1 HS1 HG1 hU HCP;generalize w1.drewN nq=w2 at HS1' HG1' ⊢;go_loopw [4,5,6,7,8] (fun bv kv _ _ _ wr=> ∃ (j n cap K:Nat) (B:List Sg) (ao:Option Addr),j1≤j∧j≤s.size∧bv= .slice ao n cap∧kv= .int .i64 (K:Int)∧K≤n∧n≤cap∧Hid (ValRel w wr b s j1 j B ao n cap K)) (fun _ _ _ _ _ wr=>s.size-posOf wr b);case atStart=>exact⟨j1,0,0,0,[],none,Nat.le_refl _,hj1,rfl,rfl,Nat.le_refl _,Nat.le_refl _,HS1'.out,HG1'.out,ownB_nil _ _,rfl,Nat.le_refl _,rfl,by unfold ScanAt;simp,Nat.zero_le _⟩
  case round=>
   obtain⟨j,n,cap,K,B,ao,hj1j,hj,rfl,rfl,hKn,hnc,hV⟩:=hrel;obtain⟨c0,c1,f1,hb⟩:=sc_cells hV.out.1;by_cases hlt:j<s.size
   ·have hlt':(j:Int)<(s.size:Int):=(by omega);have hp2:=posOf_sc hV.out.1;have HP2:=Lib.hid hp2;clear hp2;go_wp2_with fail;go_quiet (fail);go_wp2_with fail;have HV2:=Lib.hid (valRel_drewN hV.out nq);clear c0 c1 f1 hb hV;generalize wr.drewN nq=wr2 at HV2 ⊢;obtain⟨c0,c1,f1,hb⟩:=sc_cells HV2.out.1;go_quiet (fail);have HV3:=Lib.hid (valRel_drewN HV2.out nq);clear c0 c1 f1 hb HV2;generalize wr2.drewN nq=wr3 at HV3 ⊢;obtain⟨c0,c1,f1,hb⟩:=sc_cells HV3.out.1;have g256:((s[j]'hlt).toNat:Int)<256:=(by have:=(s[j]'hlt).toNat_lt;omega);by_cases hsep:isSep (s[j]'hlt)=true
    ·have hst:=valRel_str HV3.out;have hcn:=(u8_sep _).1 hsep;have HR:Hid (valueP (s.data.toList.drop i)=some ((trimR B).map (·.1),s.data.toList.drop j)):=valueP_some HD1.out H35.out (scanAt_sep HV3.out.2.2.2.2.2.2.1 hlt hsep);clear hsep;have hK2:(K:Int)≤(cap:Int):=(by omega);go_wp2_with fail;all_goals first
      | (go_ret2;exact valE_some HV3.out.2.1 HV3.out.1 HR.out (by omega) hj rfl)
      | (exfalso;simp only[beq_eq_false_iff_ne,ne_eq]at*;omega)
    ·have hsep':isSep (s[j]'hlt)=false:=(by simpa using hsep);have hn3: ¬ (((s[j]'hlt).toNat:Int)=44∨((s[j]'hlt).toNat:Int)=59∨((s[j]'hlt).toNat:Int)=43):=fun e=>hsep ((u8_sep _).2 e);have q44a:(((s[j]'hlt).toNat:Int)==44)=false:=(by rw[beq_eq_false_iff_ne];omega);have q59a:(((s[j]'hlt).toNat:Int)==59)=false:=(by rw[beq_eq_false_iff_ne];omega);have q43a:(((s[j]'hlt).toNat:Int)==43)=false:=(by rw[beq_eq_false_iff_ne];omega);clear hn3 hsep;by_cases hbad:bad (s[j]'hlt)=true
     ·have HR:Hid (valueP (s.data.toList.drop i)=none):=valueP_none HD1.out (scanAt_bad HV3.out.2.2.2.2.2.2.1 hlt hsep' hbad);have hcn:=(u8_bad _).1 hbad;clear hbad hsep';go_wp2_with fail;all_goals first
       | (go_ret2;exact valE_none HV3.out.2.1 HV3.out.1 HR.out)
       | (exfalso;simp only[beq_eq_false_iff_ne,ne_eq]at*;omega)
     ·have hbad':bad (s[j]'hlt)=false:=(by simpa using hbad);have hn3: ¬ (((s[j]'hlt).toNat:Int)=34∨((s[j]'hlt).toNat:Int)=60∨((s[j]'hlt).toNat:Int)=62):=fun e=>hbad ((u8_bad _).2 e);have q34a:(((s[j]'hlt).toNat:Int)==34)=false:=(by rw[beq_eq_false_iff_ne];omega);have q60a:(((s[j]'hlt).toNat:Int)==60)=false:=(by rw[beq_eq_false_iff_ne];omega);have q62a:(((s[j]'hlt).toNat:Int)==62)=false:=(by rw[beq_eq_false_iff_ne];omega);clear hn3 hbad;obtain⟨m1,m2,m3⟩:=valRel_move HV3.out hbw;have M1:=Lib.hid m1;have M2:=Lib.hid m2;have M3:=Lib.hid m3;clear m1 m2 m3;by_cases h92:((s[j]'hlt).toNat:Int)=92
      ·have q92:(((s[j]'hlt).toNat:Int)==92)=true:=(by rw[beq_iff_eq];exact h92);have h92':=Lib.hid (u8_eq (n:=92) (by omega) h92);clear h92;have CE:=escaped_any b s (j+1) (wr3.setCell ⟨b,1,none⟩ (.int .i64 ((j:Int)+1))) M1 (by omega) hs;cases he:esc (s.data.toList.drop (j+1))with
       | none=>have HR:Hid (valueP (s.data.toList.drop i)=none):=valueP_none HD1.out (scanAt_none HV3.out.2.2.2.2.2.2.1 hlt h92'.out he);have HCE:Hid (Calls Tryz.prog 205 #[.pointer (some ⟨b,0,none⟩)] (wr3.setCell ⟨b,1,none⟩ (.int .i64 ((j:Int)+1))) fun e w'=>(wr3.setCell ⟨b,1,none⟩ (.int .i64 ((j:Int)+1))).grownBy w' (some b)∧ ∃j',e= .returned (.tuple #[.int .u8 0,.bool false])∧Sc w' b s j'):=(by refine CE.mono fun e w' h=> ?_;unfold EscE at h;rw[he]at h;exact h);clear CE he hbad' hsep';go_wp2_with fail;refine HCE.out.mono ?_;rintro e w5 ⟨hg5,j',rfl,hS5⟩;go_wp2_with fail;go_ret2;exact valE_none (gr_trans M2.out hg5) hS5 HR.out
       | some p=>
        obtain⟨d,n'⟩:=p;obtain⟨hn1,hn2,hn3⟩:=esc_two he;have hjn:j+1+n'≤s.size:=(by rw[List.length_drop,kt.size_len]at hn3;omega);have HSA:=Lib.hid (scanAt_esc HV3.out.2.2.2.2.2.2.1 hlt h92'.out he);have HCE:Hid (Calls Tryz.prog 205 #[.pointer (some ⟨b,0,none⟩)] (wr3.setCell ⟨b,1,none⟩ (.int .i64 ((j:Int)+1))) fun e w'=>(wr3.setCell ⟨b,1,none⟩ (.int .i64 ((j:Int)+1))).grownBy w' (some b)∧e= .returned (.tuple #[.int .u8 (d.toNat:Int),.bool true])∧Sc w' b s (j+1+n')):=(by refine CE.mono fun e w' h=> ?_;unfold EscE at h;rw[he]at h;exact h);clear CE he hbad' hsep' hn3;go_wp2_with fail;refine HCE.out.mono ?_;rintro e w5 ⟨hg5,rfl,hS5⟩;have HO5:=Lib.hid (ownB_gr M3.out hbw hg5);have HG5:=Lib.hid (gr_trans M2.out hg5);obtain⟨ao',cap',w6,hap,hc6,hpos,hV6⟩:=valRel_app (x:=(d,false)) HV3.out hs hj hbw hS5 HG5.out HO5.out HSA.out (by omega);dsimp only at hap;rw[if_neg (show¬blankS (d,false)=true from by simp[blankS])]at hV6;have HV6:=Lib.hid hV6;have HPOS:=Lib.hid hpos;clear hV6 hpos hg5 hS5 HCE c0 c1 f1;go_wp2_with (at_builtin;refine Lib.wpList_append_run _ rfl _ _ _ _ rfl _ _ rfl rfl _ _ hap ?_);go_roundw;case rel=>exact⟨j+1+n',n+1,cap',n+1,_,ao',by omega,hjn,rfl,by go_num,Nat.le_refl _,hc6,HV6⟩
        case measure=>rw[HPOS.out,HP2.out];omega
      ·have q92:(((s[j]'hlt).toNat:Int)==92)=false:=(by rw[beq_eq_false_iff_ne];exact h92);have h92':s[j]≠92:=u8_ne (n:=92) (by omega) h92;have hSA:=scanAt_bare HV3.out.2.2.2.2.2.2.1 hlt hsep' hbad' h92';obtain⟨ao',cap',w4,hap,hc4,hpos,hV4⟩:=valRel_app (x:=(s[j],true)) HV3.out hs hj hbw M1.out M2.out M3.out hSA (Nat.le_refl _);simp only[World.size_setCell]at hap;have HPOS:=Lib.hid hpos;have hbl:=blankS_bare (s[j]'hlt);by_cases h32:((s[j]'hlt).toNat:Int)=32
       ·have q32a:(((s[j]'hlt).toNat:Int)==32)=true:=(by rw[beq_iff_eq];exact h32);have q32b:(((s[j]'hlt).toNat:Int) !=32)=false:=(by rw[bne_eq_false_iff_eq];exact h32);have hb32:blankS (s[j],true)=true:=(by rw[hbl,decide_eq_true_iff];exact u8_eq (n:=32) (by omega) h32);rw[if_pos hb32]at hV4;have HV4:=Lib.hid hV4;clear hb32 hbl hV4 hSA h92 h92' h32 hsep' hbad' hpos;go_wp2_with (at_builtin;refine Lib.wpList_append_run _ rfl _ _ _ _ rfl _ _ rfl rfl _ _ hap ?_);go_roundw;case rel=>exact⟨j+1,n+1,cap',K,_,ao',by omega,by omega,rfl,rfl,by omega,hc4,HV4⟩
        case measure=>rw[HPOS.out,HP2.out];omega
       ·have q32a:(((s[j]'hlt).toNat:Int)==32)=false:=(by rw[beq_eq_false_iff_ne];exact h32);have q32b:(((s[j]'hlt).toNat:Int) !=32)=true:=(by rw[bne_iff_ne];exact h32);have hb32:blankS (s[j],true)=false:=(by rw[hbl,decide_eq_false_iff_not];exact u8_ne (n:=32) (by omega) h32);rw[if_neg (by rw[hb32];simp)]at hV4;have HV4:=Lib.hid hV4;clear hb32 hbl hV4 hSA h92 h92' h32 hsep' hbad' hpos;go_wp2_with (at_builtin;refine Lib.wpList_append_run _ rfl _ _ _ _ rfl _ _ rfl rfl _ _ hap ?_);go_roundw;case rel=>exact⟨j+1,n+1,cap',n+1,_,ao',by omega,by omega,rfl,by go_num,Nat.le_refl _,hc4,HV4⟩
        case measure=>rw[HPOS.out,HP2.out];omega
   ·obtain rfl:j=s.size:=(by omega);have HR:Hid (valueP (s.data.toList.drop i)=some ((trimR B).map (·.1),[])):=valueP_some HD1.out H35.out (scanAt_end hV.out.2.2.2.2.2.2.1);have hK2:(K:Int)≤(cap:Int):=(by omega);go_wp2_with fail;go_quiet (fail);have HV2:=Lib.hid (valRel_drewN hV.out nq);clear c0 c1 f1 hb hV;generalize wr.drewN nq=wr2 at HV2 ⊢;have hst:=valRel_str HV2.out;go_wp2_with fail;go_ret2;exact valE_some HV2.out.2.1 HV2.out.1 HR.out (by omega) (Nat.le_refl _) (drop_end s)
end dnw
end Go.Proofs.YtmnpfkbjpeaemaaGreatDoor
