/- One text out of several: FtN, FtM, FtA, FtD, FtB, FtE, FtF, TakW. -/
import Derived.Test.YtmnpfkbjpeaemaaGreatDoorT2
import Derived.Test.YtmnpfkbjpeaemaaGreatDoorT6
import Derived.Test.YtmnpfkbjpeaemaaGreatDoorT7
import Derived.WalkLawsBesides
import Derived.BigQuiet
import Derived.Lib.SmallJoins
import Derived.Maps.OwnSet
import Derived.OrdersHeld
import Derived.WalkKit
import Derived.Test.YtmnpfkbjpeaemaaGreatDoorT1
set_option linter.unusedVariables false
set_option linter.unusedSimpArgs false
set_option maxRecDepth 20000
set_option maxHeartbeats 4000000
namespace Go.Proofs.YtmnpfkbjpeaemaaGreatDoor
open Go.RowKit
namespace ftw
open ftp
def NameP (c:UInt8)(b:Bool):Prop:=(65≤(c.toNat:Int)∧(c.toNat:Int)≤90)∨(97≤(c.toNat:Int)∧(c.toNat:Int)≤122)∨(b=false∧((48≤(c.toNat:Int)∧(c.toNat:Int)≤57)∨(c.toNat:Int)=45∨(c.toNat:Int)=46))
theorem nat_eq (c:UInt8)(n:Nat)(hn:n<256):c=UInt8.ofNat n↔c.toNat=n:=by
 constructor
 ·intro h;rw[h];simp;omega
 ·intro h;exact UInt8.toNat_inj.1 (by rw[h];simp;omega)
theorem nameCh_iff (c:UInt8)(b:Bool):nameCh c b=true↔NameP c b:=by
 have h1:=nat_eq c 45 (by decide);have h2:=nat_eq c 46 (by decide);unfold nameCh NameP;simp only[Bool.or_eq_true,Bool.and_eq_true,decide_eq_true_eq,Bool.not_eq_true'];have e1:(c=45)=(c.toNat=45):=propext h1;have e2:(c=46)=(c.toNat=46):=propext h2;rw[e1,e2];constructor
 ·rintro((h | h) | ⟨h,(h3 | h3) | h3⟩)
  ·exact Or.inl (by omega)
  ·exact Or.inr (Or.inl (by omega))
  ·exact Or.inr (Or.inr ⟨h,by omega⟩)
  ·exact Or.inr (Or.inr ⟨h,by omega⟩)
  ·exact Or.inr (Or.inr ⟨h,by omega⟩)
 ·rintro(h | h | ⟨h,h3 | h3 | h3⟩)
  ·exact Or.inl (Or.inl (by omega))
  ·exact Or.inl (Or.inr (by omega))
  ·exact Or.inr ⟨h,Or.inl (Or.inl (by omega))⟩
  ·exact Or.inr ⟨h,Or.inl (Or.inr (by omega))⟩
  ·exact Or.inr ⟨h,Or.inr (by omega)⟩
theorem nameCh_of {c:UInt8}{b x:Bool}(h:x=true↔NameP c b):x=nameCh c b:=by rw[Bool.eq_iff_iff,nameCh_iff,h]
theorem nameByte_any (c:UInt8)(b:Bool)(w:World):Calls Tryz.prog 251 #[.int .u8 (c.toNat:Int),.bool b] w fun e w'=>e= .returned (.bool (nameCh c b))∧w=w':=by
 have HO:Hid (∀x:Bool,(x=true↔NameP c b)→x=nameCh c b):=fun x h=>nameCh_of h;have hcn:=c.toNat_lt;cases b with
 | true=>
  go_enter Tryz.func251,Tryz.ntmps251;go_wp2_with fail;all_goals first
   | (go_ret;refine⟨kt.ret_bool (HO.out _ ?_),rfl⟩;unfold NameP;simp only[Bool.not_eq_true',Bool.not_eq_false',Bool.or_eq_true,Bool.and_eq_true,Bool.or_eq_false_iff,Bool.and_eq_false_iff,decide_eq_true_eq,decide_eq_false_iff_not,beq_iff_eq,bne_iff_ne,bne_eq_false_iff_eq,beq_eq_false_iff_ne,ne_eq,Classical.not_not,Bool.true_eq_false,Bool.false_eq_true,false_and,or_false,true_and,true_iff,false_iff]at*;omega)
   | (exfalso;simp only[Bool.not_eq_true',Bool.not_eq_false',Bool.or_eq_true,Bool.and_eq_true,Bool.or_eq_false_iff,Bool.and_eq_false_iff,decide_eq_true_eq,decide_eq_false_iff_not,beq_iff_eq,bne_iff_ne,bne_eq_false_iff_eq,beq_eq_false_iff_ne,ne_eq,Classical.not_not]at*;omega)
 | false=>
  go_enter Tryz.func251,Tryz.ntmps251;go_wp2_with fail;all_goals first
   | (go_ret;refine⟨kt.ret_bool (HO.out _ ?_),rfl⟩;unfold NameP;simp only[Bool.not_eq_true',Bool.not_eq_false',Bool.or_eq_true,Bool.and_eq_true,Bool.or_eq_false_iff,Bool.and_eq_false_iff,decide_eq_true_eq,decide_eq_false_iff_not,beq_iff_eq,bne_iff_ne,bne_eq_false_iff_eq,beq_eq_false_iff_ne,ne_eq,Classical.not_not,Bool.true_eq_false,Bool.false_eq_true,false_and,or_false,true_and,true_iff,false_iff]at*;omega)
   | (exfalso;simp only[Bool.not_eq_true',Bool.not_eq_false',Bool.or_eq_true,Bool.and_eq_true,Bool.or_eq_false_iff,Bool.and_eq_false_iff,decide_eq_true_eq,decide_eq_false_iff_not,beq_iff_eq,bne_iff_ne,bne_eq_false_iff_eq,beq_eq_false_iff_ne,ne_eq,Classical.not_not]at*;omega)
theorem nameL_iff (l:T):nameL l=true↔l≠[]∧ ∀j (h:j<l.length),nameCh l[j] (decide (j=0))=true:=by
 cases l with
 | nil=>simp[nameL]
 | cons c r=>
  unfold nameL;rw[Bool.and_eq_true,List.all_eq_true];constructor
  ·rintro⟨h1,h2⟩;refine⟨by simp,fun j hj=> ?_⟩;cases j with
   | zero=>exact h1
   | succ j=>exact h2 _ (List.getElem_mem (by simpa using hj))
  ·rintro⟨_,h⟩;refine⟨h 0 (by simp),fun x hx=> ?_⟩;obtain⟨j,hj,rfl⟩:=List.getElem_of_mem hx;exact h (j+1) (by simpa using hj)
theorem nameL_no {s:ByteArray}{k:Nat}(hk:k<s.size)(h:nameCh s[k] (decide (k=0))=false):false=nameL s.data.toList:=by symm;rw[Bool.eq_false_iff];intro h2;have:=((nameL_iff _).1 h2).2 k (by rw[kt.size_len];exact hk);rw[show s.data.toList[k]'(by rw[kt.size_len];exact hk)=s[k]from rfl,h]at this;cases this
theorem nameL_end {s:ByteArray}(h: ∀j (hj:j<s.size),nameCh s[j] (decide (j=0))=true)(hs: ¬s.size=0):true=nameL s.data.toList:=by symm;rw[nameL_iff];refine⟨fun e=>hs (by rw[←kt.size_len,e];rfl),fun j hj=>h j (by rw[kt.size_len]at hj;exact hj)⟩
theorem ix_signs (d:UInt8):0≤Lib.indexByte [40,41,42,92] d↔(d=40∨d=41∨d=42∨d=92):=by
 have all: ∀m:Fin 256,(decide (0≤Lib.indexByte [40,41,42,92] (UInt8.ofNat m.val)))=decide (UInt8.ofNat m.val=40∨UInt8.ofNat m.val=41∨UInt8.ofNat m.val=42∨UInt8.ofNat m.val=92):=by decide+kernel
 have h:=all ⟨d.toNat,d.toNat_lt⟩;simp only[UInt8.ofNat_toNat]at h;rw[←decide_eq_true_iff (p:=0≤_),h,decide_eq_true_iff]
theorem signs_any (c:UInt8)(W:World): ∃r:Int,(0≤r↔(c=40∨c=41∨c=42∨c=92))∧Calls Tryz.prog 175 #[.string ⟨#[40,41,42,92]⟩,.int .u8 (c.toNat:Int)] W fun e w'=>e= .returned (.int .i64 r)∧W=w':=by have C:=Tryz.strings_IndexByte {data:=#[40,41,42,92]} (c.toNat:Int) W;refine⟨_,?_,C.mono fun e w' h=>⟨h.1,by first | exact h.2 | exact h.2.symm⟩⟩;rw[show((c.toNat:Int)).toNat.toUInt8=c from by simp];exact ix_signs c
theorem hexed_cases (c:UInt8):hexed c=true↔(c.toNat<32∨126<c.toNat∨(c=40∨c=41∨c=42∨c=92)):=by unfold hexed;simp only[Bool.or_eq_true,decide_eq_true_eq,or_assoc]
theorem valL_take {s:ByteArray}{k:Nat}(hk:k<s.size):valL (s.data.toList.take (k+1))=valL (s.data.toList.take k)++valB s[k]:=by unfold valL;rw[List.take_succ_eq_append_getElem (by rw[kt.size_len];exact hk),List.flatMap_append];simp;rfl
theorem valB_len (c:UInt8):(valB c).length≤3:=by
 unfold valB;split
 ·rw[List.length_cons,b64p.hex_length];simp
 ·simp
theorem valL_len: ∀l:T,(valL l).length≤3*l.length
 | []=>by simp[valL]
 | c::r=>by have ih:=valL_len r;have h:=valB_len c;unfold valL at ih ⊢;rw[List.flatMap_cons,List.length_append,List.length_cons];omega
def valBy (s:ByteArray):ByteArray:=⟨(valL s.data.toList).toArray⟩
theorem value_any (s:ByteArray)(w:World)(hs:s.size≤1000000):Calls Tryz.prog 250 #[.string s] w fun e w'=>e= .returned (.string (valBy s))∧Below w.heap.size w w':=by
 go_enter Tryz.func250,Tryz.ntmps250;go_wp2_with fail;go_loopw [8] (fun iv wr=> ∃k:Nat,k≤s.size∧iv= .int .i64 (k:Int)∧Hid (bld.Is w.heap.size w.heap.size (valL (s.data.toList.take k)) wr)∧Below w.heap.size w wr) (fun iv _=>s.size- (intOf iv).toNat);case atStart=>exact⟨0,Nat.zero_le _,rfl,bld.fresh w,(Below.refl _ _).alloc (Nat.le_refl _) _⟩
 case round=>
  obtain⟨k,hk,rfl,HI,hB⟩:=hrel;have hsz:=hB.size;have hlen:(valL (s.data.toList.take k)).length≤3000000:=by have:=valL_len (s.data.toList.take k);rw[List.length_take,kt.size_len]at this;omega
  by_cases hlt:k<s.size
  ·have hlt':(k:Int)<(s.size:Int):=(by omega);have hlt2:(k:Int)+1≤(s.size:Int):=(by omega);have HT:=Lib.hid (valL_take hlt);obtain⟨r,hr,CX⟩:=signs_any (s[k]'hlt) wr;have HC:=Lib.hid CX;have hcn:=(s[k]'hlt).toNat_lt;have hxc:=hexed_cases (s[k]'hlt);have HXe:Hid ((s.extract k (k+1)).data.toList=[s[k]'hlt]):=(by show _=_;rw[Lib.extract_data];have e:s.data.toList[k]'(by rw[kt.size_len];exact hlt)=s[k]'hlt:=rfl;rw[←e,show k+1-k=1 from by omega];rw[List.drop_eq_getElem_cons (by rw[kt.size_len];exact hlt)];rfl);clear CX;by_cases hx:hexed (s[k]'hlt)=true
   ·have HV:Hid (valB (s[k]'hlt)=92::b64p.hex [s[k]'hlt]):=if_pos hx;obtain⟨X,hX⟩: ∃X:ByteArray,Hid (X=⟨(b64p.hex [s[k]'hlt]).toArray⟩):=⟨_,rfl⟩;have CH:Hid (Calls Tryz.prog 211 #[.string (s.extract k (k+1))] wr fun e w'=>e= .returned (.string X)∧Below wr.heap.size wr w'):=(by have h:=hex_any (s.extract k (k+1)) wr (by rw[←kt.size_len,HXe.out];simp);rw[HXe.out]at h;rw[hX.out];exact h);obtain⟨Y,hY⟩: ∃Y:ByteArray,Y=(⟨#[92]⟩:ByteArray)++X:=⟨_,rfl⟩;have hXs:X.size=2:=(by rw[hX.out,←kt.size_len];exact b64p.hex_length _);have hYs:Y.size=3:=(by rw[hY,ByteArray.size_append,hXs];rfl);have HYd:Hid (Y.data.toList=valB (s[k]'hlt)):=(by show _=_;rw[HV.out,hY,hX.out];simp);have hadd: ∀W,(Op.stringOp .add ⟨#[92]⟩ X).run Tryz.prog W= .ok (.string Y) W:=fun W=>by rw[hY];exact run_string_add_sum W _ _ (by rw[hXs];decide)
    have hx3:=hxc.1 hx;have hx4:(((s[k]'hlt).toNat:Int)<32)∨(¬ ((s[k]'hlt).toNat:Int)<32∧126<((s[k]'hlt).toNat:Int))∨(¬ ((s[k]'hlt).toNat:Int)<32∧ ¬126<((s[k]'hlt).toNat:Int)∧0≤r):=by
     rcases hx3 with h | h | h
     ·exact Or.inl (by omega)
     ·exact Or.inr (Or.inl ⟨by omega,by omega⟩)
     ·refine Or.inr (Or.inr ⟨?_,?_,hr.2 h⟩)
      ·rcases h with h | h | h | h<;>rw[h]<;>decide
      ·rcases h with h | h | h | h<;>rw[h]<;>decide
    rw[←HYd.out]at HT;clear hr hxc hx hx3 HV hY hX hXs HYd;rcases hx4 with h1 | ⟨h1,h2⟩ | ⟨h1,h2,h3⟩
    ·clear HC;go_wp2_with fail;refine CH.out.mono ?_;rintro e w1 ⟨rfl,hB1⟩;have HW:=Lib.hid (bld.writeString_any w.heap.size w.heap.size _ Y w1 (tupw.is_below HI.out hB1) (by omega) (Nat.le_trans hsz hB1.size));go_wp2_with fail;refine HW.out.mono ?_;rintro e w2 ⟨rfl,hI2,hB2⟩;go_wp2_with fail;go_roundw;case rel=>exact⟨k+1,by omega,by go_num,by show bld.Is _ _ _ _;rw[HT.out];exact hI2,(hB.trans (hB1.mono hsz)).trans hB2⟩
     case measure=>simp[intOf];omega
    ·clear HC;go_wp2_with fail;refine CH.out.mono ?_;rintro e w1 ⟨rfl,hB1⟩;have HW:=Lib.hid (bld.writeString_any w.heap.size w.heap.size _ Y w1 (tupw.is_below HI.out hB1) (by omega) (Nat.le_trans hsz hB1.size));go_wp2_with fail;refine HW.out.mono ?_;rintro e w2 ⟨rfl,hI2,hB2⟩;go_wp2_with fail;go_roundw;case rel=>exact⟨k+1,by omega,by go_num,by show bld.Is _ _ _ _;rw[HT.out];exact hI2,(hB.trans (hB1.mono hsz)).trans hB2⟩
     case measure=>simp[intOf];omega
    ·go_wp2_with fail;refine HC.out.mono ?_;rintro e w0 ⟨rfl,hw⟩;subst hw;go_wp2_with fail;refine CH.out.mono ?_;rintro e w1 ⟨rfl,hB1⟩;have HW:=Lib.hid (bld.writeString_any w.heap.size w.heap.size _ Y w1 (tupw.is_below HI.out hB1) (by omega) (Nat.le_trans hsz hB1.size));go_wp2_with fail;refine HW.out.mono ?_;rintro e w2 ⟨rfl,hI2,hB2⟩;go_wp2_with fail;go_roundw;case rel=>exact⟨k+1,by omega,by go_num,by show bld.Is _ _ _ _;rw[HT.out];exact hI2,(hB.trans (hB1.mono hsz)).trans hB2⟩
     case measure=>simp[intOf];omega
   ·have HV:Hid (valB (s[k]'hlt)=[s[k]'hlt]):=if_neg hx;have hxn: ¬ (((s[k]'hlt).toNat<32)∨126<(s[k]'hlt).toNat∨((s[k]'hlt)=40∨(s[k]'hlt)=41∨(s[k]'hlt)=42∨(s[k]'hlt)=92)):=fun h=>hx (hxc.2 h);have h1: ¬ ((s[k]'hlt).toNat:Int)<32:=fun h=>hxn (Or.inl (by omega));have h2: ¬126<((s[k]'hlt).toNat:Int):=fun h=>hxn (Or.inr (Or.inl (by omega)));have h3: ¬0≤r:=fun h=>hxn (Or.inr (Or.inr (hr.1 h)));have HW:=Lib.hid (bld.writeByte_cell w.heap.size w.heap.size _ (s[k]'hlt) wr HI.out (by omega) hsz);rw[HV.out]at HT;clear hr hxc hx hxn HV;go_wp2_with fail;refine HC.out.mono ?_;rintro e w0 ⟨rfl,hw⟩;subst hw;go_wp2_with fail;refine HW.out.mono ?_;rintro e w2 ⟨rfl,hI2,hB2⟩;go_wp2_with fail;go_roundw;case rel=>exact⟨k+1,by omega,by go_num,by show bld.Is _ _ _ _;rw[HT.out];exact hI2,hB.trans hB2⟩
    case measure=>simp[intOf];omega
  ·obtain rfl:k=s.size:=(by omega);have hI5:=HI.out;rw[List.take_of_length_le (by rw[kt.size_len];exact Nat.le_refl _)]at hI5;have HX:=Lib.hid (Tryz.Builder_String_any _ _ _ wr hI5 hsz);go_wp2_with fail;refine HX.out.mono ?_;rintro e w5 ⟨rfl,hB5⟩;go_wp2_with fail;go_ret;exact⟨rfl,hB.trans hB5⟩
end ftw
open Go.RowKit
namespace ftw
open ftp
theorem named_any (s:ByteArray)(w:World)(hs:s.size≤1000000):Calls Tryz.prog 189 #[.string s] w fun e w'=>e= .returned (.bool (nameL s.data.toList))∧w=w':=by
 go_enter Tryz.func189,Tryz.ntmps189;go_wp2_with fail;go_loop [6] (fun iv=> ∃k:Nat,k≤s.size∧iv= .int .i64 (k:Int)∧Hid (∀j (hj:j<s.size),j<k→nameCh s[j] (decide (j=0))=true)) (fun iv=>s.size- (intOf iv).toNat);case atStart=>exact⟨0,Nat.zero_le _,rfl,fun j hj h=>by omega⟩
 case round=>
  obtain⟨k,hk,rfl,hA⟩:=hrel;by_cases hlt:k<s.size
  ·have hlt':(k:Int)<(s.size:Int):=(by omega);have HA:Hid (nameCh (s[k]'hlt) (decide (k=0))=true→ ∀j (hj:j<s.size),j<k+1→nameCh s[j] (decide (j=0))=true):=by
    intro ht j hj h;by_cases e:j=k
    ·subst e;exact ht
    ·exact hA.out j hj (by omega)
   have HN:Hid (nameCh (s[k]'hlt) (decide (k=0))=false→false=nameL s.data.toList):=fun h=>nameL_no hlt h;have HC:Hid (Calls Tryz.prog 251 #[.int .u8 ((s[k]'hlt).toNat:Int),.bool (decide ((k:Int)=0))] w fun e w'=>e= .returned (.bool (nameCh (s[k]'hlt) (decide (k=0))))∧w=w'):=(by rw[show decide ((k:Int)=0)=decide (k=0)from by rw[Bool.eq_iff_iff,decide_eq_true_iff,decide_eq_true_iff];omega];exact nameByte_any _ _ w);have hcn:=(s[k]'hlt).toNat_lt;have hb0:((k:Int)==0)=decide ((k:Int)=0):=rfl;generalize nameCh (s[k]'hlt) (decide (k=0))=r at HA HN HC;clear hb0;go_wp2_with fail;refine HC.out.mono ?_;rintro e wa ⟨rfl,hw⟩;subst hw;cases r with
   | true=>
    have HA1:=Lib.hid (HA.out rfl);clear HA HN;go_wp2_with fail;go_round;case rel=>exact⟨k+1,by omega,by go_num,HA1.out⟩
    case measure=>simp[intOf];omega
   | false=>have HN1:=Lib.hid (HN.out rfl);clear HA HN;go_wp2_with fail;go_ret;exact⟨kt.ret_bool HN1.out,rfl⟩
  ·obtain rfl:k=s.size:=(by omega);by_cases h0:s.size=0
   ·have hem:s=ByteArray.empty:=kt.str_eq (List.eq_nil_of_length_eq_zero (by rw[kt.size_len];exact h0));subst hem;go_wp2_with fail;go_ret;exact⟨rfl,rfl⟩
   ·have HE:Hid (true=nameL s.data.toList):=nameL_end (fun j hj=>hA.out j hj hj) h0;have hne:s.toList.isEmpty=false:=by
     rw[Lib.toList_data];cases h:s.data.toList with
     | nil=>exact absurd (by rw[←kt.size_len,h];rfl) h0
     | cons a l=>rfl
    clear hA;go_wp2_with fail;go_ret;exact⟨kt.ret_bool HE.out,rfl⟩
end ftw
open Go.RowKit
namespace ftw
open ftp
def ScB (w:World)(p:Nat)(s:ByteArray)(k:Nat):Prop:=w.heap[p]? =some (.cells #[.string s,.int .i64 (k:Int)] 156 (0,0))
structure Off (p:Nat)(w w':World):Prop where
 os:w'.os=w.os
 tape:w'.tape=w.tape
 output:w'.output=w.output
 size:w.heap.size≤w'.heap.size
 block: ∀k,k<w.heap.size→k≠p→w'.heap[k]? =w.heap[k]?
theorem off_refl (p:Nat)(w:World):Off p w w:=⟨rfl,rfl,rfl,Nat.le_refl _,fun _ _ _=>rfl⟩
theorem off_trans {p:Nat}{a b c:World}(h:Off p a b)(k:Off p b c):Off p a c:=⟨k.os.trans h.os,k.tape.trans h.tape,k.output.trans h.output,Nat.le_trans h.size k.size,fun i hi hp=>(k.block i (Nat.lt_of_lt_of_le hi h.size) hp).trans (h.block i hi hp)⟩
theorem off_below {p:Nat}{w w':World}(h:Below w.heap.size w w'):Off p w w':=⟨h.os,h.tape,h.output,h.size,fun k hk _=>h.block k hk⟩
theorem off_set (p i:Nat)(w:World)(v:Value):Off p w (w.setCell ⟨p,i,none⟩ v):=⟨rfl,rfl,rfl,by simp[World.setCell],fun k hk hp=>Below.heap_setCell _ _ _ _ hp⟩
theorem off_Below {p B:Nat}{w w':World}(h:Off p w w')(hB:B≤w.heap.size)(hp:B≤p):Below B w w':=⟨h.os,h.tape,h.output,h.size,fun k hk=>h.block k (by omega) (by omega)⟩
theorem off_old {p:Nat}{w w1 w':World}(h:Off p w w1)(h2:Below w.heap.size w1 w')(hp:p<w.heap.size):Off p w w':=⟨h2.os.trans h.os,h2.tape.trans h.tape,h2.output.trans h.output,Nat.le_trans h.size h2.size,fun k hk hne=>(h2.block k hk).trans (h.block k hk hne)⟩
theorem sc_lt {w:World}{p k:Nat}{s:ByteArray}(h:ScB w p s k):p<w.heap.size:=kt.bld_lt h
theorem sc_cells {w:World}{p k:Nat}{s:ByteArray}(h:ScB w p s k):w.cell? ⟨p,0,none⟩=some (.string s)∧w.cell? ⟨p,1,none⟩=some (.int .i64 (k:Int))∧w.frozen? ⟨p,1,none⟩=false:=⟨(Lib.cell_of_heap h 0).trans rfl,(Lib.cell_of_heap h 1).trans rfl,Lib.frozen_of_heap h 1⟩
theorem sc_below {w w':World}{p k:Nat}{s:ByteArray}(h:ScB w p s k)(hb:Below w.heap.size w w'):ScB w' p s k:=(hb.block p (sc_lt h)).trans h
theorem sc_drew {w:World}{p k:Nat}{s:ByteArray}(h:ScB w p s k):ScB w.drew p s k:=h
theorem sc_set {w:World}{p k:Nat}{s:ByteArray}(h:ScB w p s k)(m:Nat):ScB (w.setCell ⟨p,1,none⟩ (.int .i64 (m:Int))) p s m:=by unfold ScB at h ⊢;have:=Joins.block_setCell h (i:=1) (v:= .int .i64 (m:Int));simpa using this
theorem sc_new (w:World)(s:ByteArray)(k:Nat):ScB (w.alloc (.cells #[.string s,.int .i64 (k:Int)] 156)) w.heap.size s k:=heap_alloc_new w _
def atOf (w:World)(p:Nat):Nat:=match w.cell? ⟨p,1,none⟩with
 | some (.int _ k)=>k.toNat
 | _=>0
theorem atOf_sc {w:World}{p k:Nat}{s:ByteArray}(h:ScB w p s k):atOf w p=k:=by unfold atOf;rw[(sc_cells h).2.1];simp
def PanicE (e:Ending):Prop:= ∃j:Nat,j≤1000000∧e= .panicked [{v:= .iface 153 (.int .i64 (j:Int)),recovered:=false}]
def nextI (s:ByteArray)(k:Nat):Int:=if h:k<s.size then((s[k]'h).toNat:Int)else 0
theorem next_any (p:Nat)(s:ByteArray)(k:Nat)(w:World)(h:Hid (ScB w p s k))(hk:k≤s.size):
  Calls Tryz.prog 186 #[.pointer (some ⟨p,0,none⟩)] w fun e w'=>e= .returned (.int .u8 (nextI s k))∧Below w.heap.size w w':=by
 obtain⟨c0,c1,f1⟩:=sc_cells h.out;by_cases hlt:k<s.size
 ·have hI:Hid (nextI s k=((s[k]'hlt).toNat:Int)):=dif_pos hlt;have hlt':(k:Int)<(s.size:Int):=by omega
  have hcn:=(s[k]'hlt).toNat_lt;go_enter Tryz.func186,Tryz.ntmps186;go_wp2_with fail;go_quiet (fail);generalize hw2:w.drewN nq=w2;have HB:Hid (Below w.heap.size w w2):=by rw[←hw2];exact hx_drewN (Below.refl _ _) _
  have c0':w2.cell? ⟨p,0,none⟩=some (.string s):=by rw[←hw2];exact c0
  have c1':w2.cell? ⟨p,1,none⟩=some (.int .i64 (k:Int)):=by rw[←hw2];exact c1
  clear c0 c1 hw2;go_wp2_with fail;go_quiet (fail);go_wp2_with fail;go_ret;exact⟨kt.ret_int hI.out.symm,hx_drewN HB.out _⟩
 ·obtain rfl:k=s.size:=by omega
  have hI:Hid (nextI s s.size=0):=dif_neg hlt;clear hlt;go_enter Tryz.func186,Tryz.ntmps186;go_wp2_with fail;go_quiet (fail);go_wp2_with fail;go_ret;exact⟨kt.ret_int hI.out.symm,hx_drewN (Below.refl _ _) _⟩
theorem take_ok (p:Nat)(s:ByteArray)(k:Nat)(c:UInt8)(w:World)(h:Hid (ScB w p s k))(hlt:k<s.size)(hc:s[k]'hlt=c)(hs:s.size≤1000000):
  Calls Tryz.prog 185 #[.pointer (some ⟨p,0,none⟩),.int .u8 (c.toNat:Int)] w fun e w'=>e= .returned (.tuple #[])∧Off p w w'∧ScB w' p s (k+1):=by
 obtain⟨c0,c1,f1⟩:=sc_cells h.out;have hlt':(k:Int)<(s.size:Int):=by omega
 have hge:decide (s.size≤k)=false:=decide_eq_false (by omega);have hcn:=(s[k]'hlt).toNat_lt;have hone:(k:Int)+1≤9223372036854775807:=by omega
 subst hc;go_enter Tryz.func185,Tryz.ntmps185;go_wp2_with fail;go_quiet (fail);generalize hw2:w.drewN nq=w2;have HB:Hid (Below w.heap.size w w2):=by rw[←hw2];exact hx_drewN (Below.refl _ _) _
 have HS:=Lib.hid (sc_below h.out HB.out);clear c0 c1 f1 hw2 h;obtain⟨c0,c1,f1⟩:=sc_cells HS.out;go_wp2_with fail;go_end0;exact⟨rfl,off_trans (off_below HB.out) (off_set _ _ _ _),by have:=sc_set HS.out (k+1);simpa using this⟩
theorem take_no (p:Nat)(s:ByteArray)(k:Nat)(c:UInt8)(w:World)(h:Hid (ScB w p s k))(hk:k≤s.size)(hc: ∀hlt:k<s.size,s[k]'hlt≠c)(hs:s.size≤1000000):
  Calls Tryz.prog 185 #[.pointer (some ⟨p,0,none⟩),.int .u8 (c.toNat:Int)] w fun e w'=>PanicE e∧Below w.heap.size w w':=by
 obtain⟨c0,c1,f1⟩:=sc_cells h.out;by_cases hlt:k<s.size
 ·have hlt':(k:Int)<(s.size:Int):=by omega
  have hge:decide (s.size≤k)=false:=decide_eq_false (by omega);have hcn:=(s[k]'hlt).toNat_lt;have hne:=hc hlt;have hne2:(((s[k]'hlt).toNat:Int) != (c.toNat:Int))=true:=by rw[bne_iff_ne];intro e;exact hne (UInt8.toNat_inj.1 (by omega))
  clear hne hc;go_enter Tryz.func185,Tryz.ntmps185;go_wp2_with fail;go_quiet (fail);generalize hw2:w.drewN nq=w2;have HB:Hid (Below w.heap.size w w2):=by rw[←hw2];exact hx_drewN (Below.refl _ _) _
  have HS:=Lib.hid (sc_below h.out HB.out);clear c0 c1 f1 hw2 h;obtain⟨c0,c1,f1⟩:=sc_cells HS.out;go_wp2_with fail;exact⟨rfl,⟨k,by omega,rfl⟩,HB.out⟩
 ·obtain rfl:k=s.size:=by omega
  have hge:(s.size:Int)≤(s.size:Int):=by omega
  clear hlt hc;go_enter Tryz.func185,Tryz.ntmps185;go_wp2_with fail;go_quiet (fail);generalize hw2:w.drewN nq=w2;have HB:Hid (Below w.heap.size w w2):=by rw[←hw2];exact hx_drewN (Below.refl _ _) _
  have HS:=Lib.hid (sc_below h.out HB.out);clear c0 c1 f1 hw2 h;obtain⟨c0,c1,f1⟩:=sc_cells HS.out;go_wp2_with fail;exact⟨rfl,⟨s.size,by omega,rfl⟩,HB.out⟩
end ftw
open Go.RowKit
namespace ftw
open ftp
theorem tw_at (q:UInt8→Bool): ∀ (n:Nat) (r:T),n≤r.length→(∀j (hj:j<r.length),j<n→q r[j]=true)→(∀h:n<r.length,q r[n]=false)→r.takeWhile q=r.take n
 | 0,[],_,_,_=>rfl
 | 0,c::r,_,_,h2=>by have e:q c=false:=h2 (by simp);rw[List.takeWhile_cons_of_neg (by rw[e];decide)];rfl
 | n+1,[],h,_,_=>by simp at h
 | n+1,c::r,h,h1,h2=>by have e:q c=true:=h1 0 (by simp) (by omega);rw[List.takeWhile_cons_of_pos e,List.take_succ_cons];rw[tw_at q n r (by simpa using h) (fun j hj hjn=>by have:=h1 (j+1) (by simpa using hj) (by omega);simpa using this) (fun h=>by have:=h2 (by simpa using h);simpa using this)]
theorem span_at {l:T}{n:Nat}(hn:n≤l.length)(h1: ∀j (hj:j<l.length),j<n→nameCh l[j] (decide (j=0))=true)(h2: ∀h:n<l.length,nameCh l[n] (decide (n=0))=false):spanN l=l.take n:=by
 cases l with
 | nil=>simp[spanN]
 | cons c r=>
  rw[span_cons];cases n with
  | zero=>have:=h2 (by simp);rw[if_neg (by have e:nameCh c true=false:=this;rw[e];decide)];rfl
  | succ n=>have h0:nameCh c true=true:=h1 0 (by simp) (by omega);rw[if_pos h0,List.take_succ_cons];rw[tw_at (fun c=>nameCh c false) n r (by simpa using hn) (fun j hj hjn=>by have:=h1 (j+1) (by simpa using hj) (by omega);simpa using this) (fun h=>by have:=h2 (by simpa using h);simpa using this)]
def rest (s:ByteArray)(k:Nat):T:=(tx s).drop k
theorem rest_len (s:ByteArray)(k:Nat):(rest s k).length=s.size-k:=by unfold rest;rw[List.length_drop];have:(tx s).length=s.size:=kt.size_len s;omega
theorem rest_at {s:ByteArray}{k:Nat}(j:Nat)(hj:j<(rest s k).length):(rest s k)[j]=s[k+j]'(by rw[rest_len]at hj;omega):=by have h: ∀ (l:T) (hj:j<(l.drop k).length),(l.drop k)[j]=l[k+j]'(by rw[List.length_drop]at hj;omega):=fun l hj=>List.getElem_drop;exact h (tx s) hj
theorem rest_cons {s:ByteArray}{k:Nat}(h:k<s.size):rest s k=s[k]::rest s (k+1):=by unfold rest;rw[List.drop_eq_getElem_cons (by show k<(tx s).length;rw[show(tx s).length=s.size from kt.size_len s];exact h)];rfl
theorem rest_end (s:ByteArray):rest s s.size=[]:=List.eq_nil_of_length_eq_zero (by rw[rest_len];omega)
theorem rest_drop (s:ByteArray)(k n:Nat):(rest s k).drop n=rest s (k+n):=by unfold rest;rw[List.drop_drop]
theorem rest_take {s:ByteArray}{k m:Nat}(hk:k≤m):bb ((rest s k).take (m-k))=s.extract k m:=by refine kt.str_eq ?_;rw[Lib.extract_data];unfold bb rest tx;simp
theorem sc_inc {w:World}{p k:Nat}{s:ByteArray}(h:ScB w p s k):ScB (w.setCell ⟨p,1,none⟩ (.int .i64 ((k:Int)+1))) p s (k+1):=by have:=sc_set h (k+1);simpa using this
def NameE (w:World)(p:Nat)(s:ByteArray)(k:Nat)(e:Ending)(w':World):Prop:=Off p w w'∧if spanN (rest s k)=[]then PanicE e else e= .returned (.string (bb (spanN (rest s k))))∧ScB w' p s (k+(spanN (rest s k)).length)
theorem nameE_no {w w':World}{p k:Nat}{s:ByteArray}{e:Ending}(h:spanN (rest s k)=[])(ho:Off p w w')(he:PanicE e):NameE w p s k e w':=⟨ho,by rw[if_pos h];exact he⟩
theorem nameE_yes {w w':World}{p k m:Nat}{s:ByteArray}{e:Ending}(hk:k<m)(hm:m≤s.size)(h:spanN (rest s k)=(rest s k).take (m-k))(ho:Off p w w')(he:e= .returned (.string (s.extract k m)))(hs:ScB w' p s m):NameE w p s k e w':=by
 have hl:(spanN (rest s k)).length=m-k:=by rw[h,List.length_take,rest_len];omega
 refine⟨ho,?_⟩;rw[if_neg (fun e=>by rw[e]at hl;simp at hl;omega)];refine⟨?_,by rw[hl,show k+(m-k)=m by omega];exact hs⟩;rw[he,h,rest_take (by omega)]
theorem name_any (p:Nat)(s:ByteArray)(k:Nat)(w:World)(h:Hid (ScB w p s k))(hk:k≤s.size)(hs:s.size≤1000000):
  Calls Tryz.prog 247 #[.pointer (some ⟨p,0,none⟩)] w (NameE w p s k):=by
 obtain⟨c0,c1,f1⟩:=sc_cells h.out;go_enter Tryz.func247,Tryz.ntmps247;go_wp2_with fail;clear c0 c1 f1;go_loopw [40] (fun _ wr=> ∃m:Nat,k≤m∧m≤s.size∧Hid (∀j (hj:j<(rest s k).length),j<m-k→nameCh (rest s k)[j] (decide (j=0))=true)∧Hid (ScB wr p s m)∧Hid (Off p w wr)) (fun _ wr=>s.size-atOf wr p);case atStart=>exact⟨k,Nat.le_refl _,hk,fun j hj h=>by omega,h.out,off_refl _ _⟩
 case round=>
  obtain⟨m,hkm,hm,hA,hS,hO⟩:=hrel;obtain⟨c0,c1,f1⟩:=sc_cells hS.out;by_cases hlt:m<s.size
  ·have hlt':(m:Int)<(s.size:Int):=(by omega);have hcn:=(s[m]'hlt).toNat_lt;have hj:m-k<(rest s k).length:=(by rw[rest_len];omega);have hat:(rest s k)[m-k]=s[m]'hlt:=(by rw[rest_at];congr 1;omega);have hd:decide (m-k=0)=decide ((m:Int)=(k:Int)):=(by rw[Bool.eq_iff_iff,decide_eq_true_iff,decide_eq_true_iff];omega);have HN:Hid (∀W,Calls Tryz.prog 251 #[.int .u8 ((s[m]'hlt).toNat:Int),.bool (decide ((m:Int)=(k:Int)))] W fun e w'=>e= .returned (.bool (nameCh (rest s k)[m-k] (decide (m-k=0))))∧w'=W):=(by intro W;rw[hat,hd];exact kt.flip (nameByte_any _ _ W));have HY:Hid (nameCh (rest s k)[m-k] (decide (m-k=0))=true→ ∀j (hj:j<(rest s k).length),j<m+1-k→nameCh (rest s k)[j] (decide (j=0))=true):=by
    intro ht j hj2 hjm;by_cases e:j=m-k
    ·subst e;exact ht
    ·exact hA.out j hj2 (by omega)
   have HZ:Hid (nameCh (rest s k)[m-k] (decide (m-k=0))=false→spanN (rest s k)=(rest s k).take (m-k)):=(by intro hf;exact span_at (by omega) (fun j hj2 hjm=>hA.out j hj2 hjm) (fun _=>hf));generalize nameCh (rest s k)[m-k] (decide (m-k=0))=r at HN HY HZ;clear hat hd hj;go_wp2_with fail;go_quiet ((go_at_call 251;exact Calls.quiet_of_same (HN.out _)));generalize hw2:wr.drewN nq=w2;have HB:Hid (Below wr.heap.size wr w2):=(by rw[←hw2];exact hx_drewN (Below.refl _ _) _);have HS:=Lib.hid (sc_below hS.out HB.out);have HO:=Lib.hid (off_trans hO.out (off_below HB.out));clear c0 c1 f1 hw2 HN;obtain⟨c0,c1,f1⟩:=sc_cells HS.out;cases r with
   | true=>
    have HY1:=Lib.hid (HY.out rfl);clear HY HZ;have hone:(m:Int)+1≤9223372036854775807:=(by omega);go_wp2_with fail;go_roundw;case rel=>exact⟨m+1,by omega,by omega,HY1.out,sc_inc HS.out,off_trans HO.out (off_set _ _ _ _)⟩
    case measure=>rw[atOf_sc hS.out,atOf_sc (sc_inc HS.out)];omega
   | false=>
    have HZ1:=Lib.hid (HZ.out rfl);clear HY HZ;by_cases he:m=k
    ·have hmk:((m:Int)==(k:Int))=true:=(by rw[beq_iff_eq];omega);have hem:=Lib.hid he;clear he;go_wp2_with fail;exact⟨rfl,nameE_no (by rw[HZ1.out,hem.out];simp) HO.out ⟨m,by omega,rfl⟩⟩
    ·have hmk:((m:Int)==(k:Int))=false:=(by rw[beq_eq_false_iff_ne];omega);have hlt2:k<m:=(by omega);have g1:(k:Int)≤(m:Int):=(by omega);clear he;go_wp2_with fail;go_quiet (fail);go_wp2_with fail;go_ret;have HB2:Below w2.heap.size w2 (w2.drewN nq):=hx_drewN (Below.refl _ _) _;exact nameE_yes hlt2 hm HZ1.out (off_trans HO.out (off_below HB2)) rfl (sc_below HS.out HB2)
  ·obtain rfl:m=s.size:=(by omega);have hdd:decide ((s.size:Int)<(s.size:Int))=false:=decide_eq_false (by omega);have hd2:decide (s.size<s.size)=false:=decide_eq_false (by omega);have HZ:Hid (spanN (rest s k)=(rest s k).take (s.size-k)):=span_at (by rw[rest_len];exact Nat.le_refl _) (fun j hj2 hjm=>hA.out j hj2 hjm) (fun h=>by rw[rest_len]at h;omega);clear hlt;go_wp2_with fail;go_quiet (fail);generalize hw2:wr.drewN nq=w2;have HB:Hid (Below wr.heap.size wr w2):=(by rw[←hw2];exact hx_drewN (Below.refl _ _) _);have HS:=Lib.hid (sc_below hS.out HB.out);have HO:=Lib.hid (off_trans hO.out (off_below HB.out));clear c0 c1 f1 hw2;obtain⟨c0,c1,f1⟩:=sc_cells HS.out;by_cases he:s.size=k
   ·have hmk:((s.size:Int)==(k:Int))=true:=(by rw[beq_iff_eq];omega);have hem:=Lib.hid he;clear he;go_wp2_with fail;exact⟨rfl,nameE_no (by rw[HZ.out,hem.out];simp) HO.out ⟨s.size,by omega,rfl⟩⟩
   ·have hmk:((s.size:Int)==(k:Int))=false:=(by rw[beq_eq_false_iff_ne];omega);have hlt2:k<s.size:=(by omega);have g1:(k:Int)≤(s.size:Int):=(by omega);clear he;go_wp2_with fail;go_quiet (fail);go_wp2_with fail;go_ret;have HB2:Below w2.heap.size w2 (w2.drewN nq):=hx_drewN (Below.refl _ _) _;exact nameE_yes hlt2 hm HZ.out (off_trans HO.out (off_below HB2)) rfl (sc_below HS.out HB2)
end ftw
namespace ftp
open flp atp
open b64p (valI)
def glue (ps:List T)(z:T)(qs:List T):List T:=ps++z.foldr consB qs
theorem glue_star (ps:List T)(z:T)(qs:List T):glue ps z ([]::qs)=glue (ps++[z]) [] qs:=by unfold glue;rw[fold_cons];simp
theorem glue_byte (ps:List T)(z:T)(b:UInt8)(qs:List T):glue ps z (consB b qs)=glue ps (z++[b]) qs:=by unfold glue;rw[List.foldr_append];rfl
theorem glue_end (ps:List T)(z:T):glue ps z [[]]=ps++[z]:=by unfold glue;rw[fold_cons];simp
def goP (st:Bool)(ps:List T)(z:T)(r:T):Option (List T × T):=(piecesP st r).map fun q=>(glue ps z q.1,q.2)
theorem goP_start (st:Bool)(r:T):goP st [] [] r=piecesP st r:=by unfold goP glue;cases piecesP st r<;>rfl
theorem goP_bad (st:Bool)(ps:List T)(z:T)(c:UInt8)(r:T)(h:c=40∨c=0):goP st ps z (c::r)=none:=by
 unfold goP;conv=>lhs;unfold piecesP
 rw[if_pos h];rfl
theorem goP_end (st:Bool)(ps:List T)(z r:T):goP st ps z (41::r)=some (ps++[z],41::r):=by
 unfold goP;conv=>lhs;unfold piecesP
 rw[if_neg (by decide),if_pos rfl];show some (glue ps z [[]],_)=_;rw[glue_end]
theorem goP_starno (ps:List T)(z r:T):goP false ps z (42::r)=none:=by
 unfold goP;conv=>lhs;unfold piecesP
 rw[if_neg (by decide),if_neg (by decide),if_pos rfl,if_neg (by decide)];rfl
theorem goP_star (ps:List T)(z r:T):goP true ps z (42::r)=goP true (ps++[z]) [] r:=by
 unfold goP;conv=>lhs;unfold piecesP
 rw[if_neg (by decide),if_neg (by decide),if_pos rfl,if_pos rfl,Option.map_map];congr 1;funext q;show(glue ps z ([]::q.1),q.2)=_;rw[glue_star]
def hexB (h l:UInt8):UInt8:=UInt8.ofNat (16*valI h+valI l).toNat
theorem goP_hex (st:Bool)(ps:List T)(z:T)(h l:UInt8)(r:T)(h1:0≤valI h)(h2:0≤valI l):goP st ps z (92::h::l::r)=goP st ps (z++[hexB h l]) r:=by
 unfold goP;conv=>lhs;unfold piecesP
 rw[if_neg (by decide),if_neg (by decide),if_neg (by decide),if_pos rfl];simp only;rw[if_neg (by omega),Option.map_map];congr 1;funext q;show(glue ps z (consB (hexB h l) q.1),q.2)=_;rw[glue_byte]
theorem goP_hexno (st:Bool)(ps:List T)(z:T)(r:T)(h: ∀a b u,r=a::b::u→valI a<0∨valI b<0):goP st ps z (92::r)=none:=by
 unfold goP;conv=>lhs;unfold piecesP
 rw[if_neg (by decide),if_neg (by decide),if_neg (by decide),if_pos rfl];split
 ·rename_i a b u;rw[if_pos (h a b u rfl)];rfl
 ·rfl
theorem goP_byte (st:Bool)(ps:List T)(z:T)(c:UInt8)(r:T)(h0:c≠0)(h1:c≠40)(h2:c≠41)(h3:c≠42)(h4:c≠92):goP st ps z (c::r)=goP st ps (z++[c]) r:=by
 unfold goP;conv=>lhs;unfold piecesP
 rw[if_neg (by simp[h0,h1]),if_neg h2,if_neg h3,if_neg h4,Option.map_map];congr 1;funext q;show(glue ps z (consB c q.1),q.2)=_;rw[glue_byte]
def goK (P:T→Option (Fl × T))(m:Nat)(Ks:List Fl)(r:T):Option (List Fl × T):=(kidsG P m r).map fun q=>(Ks++q.1,q.2)
theorem goK_start (P:T→Option (Fl × T))(m:Nat)(r:T):goK P m [] r=kidsG P m r:=by unfold goK;cases kidsG P m r<;>rfl
theorem goK_stop (P:T→Option (Fl × T))(m:Nat)(Ks:List Fl)(r:T)(h:r.head?≠some 40):goK P (m+1) Ks r=some (Ks,r):=by unfold goK kidsG;rw[if_neg h];simp
theorem goK_none (P:T→Option (Fl × T))(m:Nat)(Ks:List Fl)(r:T)(h:r.head?=some 40)(hp:P r=none):goK P (m+1) Ks r=none:=by unfold goK kidsG;rw[if_pos h,hp];rfl
theorem goK_some (P:T→Option (Fl × T))(m:Nat)(Ks:List Fl)(r:T)(h:r.head?=some 40)(k:Fl)(u:T)(hp:P r=some (k,u)):goK P (m+1) Ks r=goK P m (Ks++[k]) u:=by
 unfold goK;conv=>lhs;unfold kidsG
 rw[if_pos h,hp];simp only;rw[Option.map_map];congr 1;funext q;simp
end ftp
open Go.RowKit
namespace ftw
open ftp
open b64p (valI)
theorem sc_two {w:World}{p k:Nat}{s:ByteArray}(h:ScB w p s k):w.cell? ⟨p,0,none⟩=some (.string s)∧w.cell? ⟨p,1,none⟩=some (.int .i64 (k:Int)):=⟨(sc_cells h).1,(sc_cells h).2.1⟩
def ByteE (w:World)(p:Nat)(s:ByteArray)(k:Nat)(e:Ending)(w':World):Prop:=
 Off p w w'∧((∃h l u,rest s (k+1)=h::l::u∧0≤valI h∧0≤valI l∧e= .returned (.string (bb [hexB h l]))∧ScB w' p s (k+3))∨
  ((∀a b u,rest s (k+1)=a::b::u→valI a<0∨valI b<0)∧PanicE e))
theorem byteE_end {w w':World}{p k K i:Nat}{s:ByteArray}{e:Ending}(hK:K=k+1)(hi:i<2)(hl: ¬K+i<s.size)(ho:Off p w w')(he:PanicE e):ByteE w p s k e w':=by refine⟨ho,Or.inr ⟨fun a b u h=> ?_,he⟩⟩;have:=congrArg List.length h;rw[rest_len]at this;simp only[List.length_cons]at this;omega
theorem rest2 {s:ByteArray}{K:Nat}(h:K+1<s.size):rest s K=s[K]'(by omega)::s[K+1]::rest s (K+2):=by rw[rest_cons (show K<s.size by omega),rest_cons h]
theorem byteE_bad {w w':World}{p k K i:Nat}{s:ByteArray}{e:Ending}(hK:K=k+1)(hi:i<2)(hl:K+i<s.size)(hv:valI (s[K+i]'hl)<0)(ho:Off p w w')(he:PanicE e):ByteE w p s k e w':=by
 refine⟨ho,Or.inr ⟨fun a b u h=> ?_,he⟩⟩;subst hK;have hlen:=congrArg List.length h;rw[rest_len]at hlen;simp only[List.length_cons]at hlen;rw[rest2 (by omega)]at h;simp only[List.cons.injEq]at h;obtain⟨rfl,rfl,_⟩:=h;rcases(show i=0∨i=1 by omega)with rfl | rfl
 ·exact Or.inl hv
 ·exact Or.inr hv
theorem byteE_ok {w w':World}{p k K:Nat}{s:ByteArray}{e:Ending}(hK:K=k+1)(hl:K+1<s.size)(h1:0≤valI (s[K]'(by omega)))(h2:0≤valI (s[K+1]'hl))(ho:Off p w w')(he:e= .returned (.string (bb [hexB (s[K]'(by omega)) (s[K+1]'hl)])))(hs:ScB w' p s (K+2)):ByteE w p s k e w':=by subst hK;exact⟨ho,Or.inl ⟨_,_,_,rest2 hl,h1,h2,he,hs⟩⟩
theorem un_one (c:UInt8):b64p.unhex [48,c]=if valI c<0 then none else some [UInt8.ofNat (valI c).toNat]:=by
 have e:valI 48=0:=rfl;unfold b64p.unhex;rw[e];by_cases h:valI c<0
 ·rw[if_pos (Or.inr h),if_pos h]
 ·rw[if_neg (by omega),if_neg h];unfold b64p.unhex;simp
theorem un_two (a b:UInt8)(h1:0≤valI a)(h2:0≤valI b):b64p.unhex [a,b]=some [hexB a b]:=by unfold b64p.unhex;rw[if_neg (by omega)];unfold b64p.unhex;rfl
theorem ext1 {s:ByteArray}{m:Nat}(h:m<s.size):(s.extract m (m+1)).data.toList=[s[m]'h]:=by rw[Lib.extract_data];have e:s.data.toList[m]'(by rw[kt.size_len];exact h)=s[m]'h:=rfl;rw[←e,show m+1-m=1 from by omega];rw[List.drop_eq_getElem_cons (by rw[kt.size_len];exact h)];rfl
theorem ext2 {s:ByteArray}{m:Nat}(h:m+1<s.size):(s.extract m (m+2)).data.toList=[s[m]'(by omega),s[m+1]'h]:=by rw[Lib.extract_data];have e:s.data.toList[m]'(by rw[kt.size_len];omega)=s[m]'(by omega):=rfl;have e2:s.data.toList[m+1]'(by rw[kt.size_len];exact h)=s[m+1]'h:=rfl;rw[←e,←e2,show m+2-m=2 from by omega];rw[List.drop_eq_getElem_cons (by rw[kt.size_len];omega),List.drop_eq_getElem_cons (by rw[kt.size_len];exact h)];rfl
theorem digit_one (s:ByteArray)(m:Nat)(h:m<s.size)(X:ByteArray)(hX:X=(⟨#[48]⟩:ByteArray)++s.extract m (m+1))(W:World):
  Calls Tryz.prog 264 #[.string X] W fun e w'=>(∃y:ByteArray,e= .returned (.tuple #[.string y,.int .i64 (if valI (s[m]'h)<0 then 4 else 0)]))∧Below W.heap.size W w':=by
 have hd:X.data.toList=[48,s[m]'h]:=by
  rw[hX];have:((⟨#[48]⟩:ByteArray)++s.extract m (m+1)).data.toList=[48]++(s.extract m (m+1)).data.toList:=by simp
  rw[this,ext1 h];rfl
 refine(unhex_any X W (by rw[←kt.size_len,hd];simp)).mono ?_;rintro e w' ⟨he,hb⟩;refine⟨?_,hb⟩;rw[hd,un_one]at he;split at he
 ·rename_i hn;rw[if_pos hn];exact⟨_,he⟩
 ·rename_i hn;rw[if_neg hn];exact⟨_,he⟩
theorem digit_two (s:ByteArray)(m:Nat)(h:m+1<s.size)(h1:0≤valI (s[m]'(by omega)))(h2:0≤valI (s[m+1]'h))(W:World):
  Calls Tryz.prog 264 #[.string (s.extract m (m+2))] W fun e w'=>e= .returned (.tuple #[.string (bb [hexB (s[m]'(by omega)) (s[m+1]'h)]),.int .i64 0])∧Below W.heap.size W w':=by
 have hd:=ext2 h;refine(unhex_any _ W (by rw[←kt.size_len,hd];simp)).mono ?_;rintro e w' ⟨he,hb⟩;refine⟨?_,hb⟩;rw[hd,un_two _ _ h1 h2]at he;exact he
theorem byte_any (p:Nat)(s:ByteArray)(k:Nat)(w:World)(h:Hid (ScB w p s k))(hk:k<s.size)(hs:s.size≤1000000):
  Calls Tryz.prog 283 #[.pointer (some ⟨p,0,none⟩)] w (ByteE w p s k):=by
 obtain⟨c0,c1,f1⟩:=sc_cells h.out;have hone:(k:Int)+1≤9223372036854775807:=by omega
 have HS0:=Lib.hid (sc_inc h.out);have HO0:Hid (Off p w (w.setCell ⟨p,1,none⟩ (.int .i64 ((k:Int)+1)))):=off_set _ _ _ _;go_enter Tryz.func283,Tryz.ntmps283;go_wp2_with fail;generalize hw1:w.setCell ⟨p,1,none⟩ (.int .i64 ((k:Int)+1))=w1 at HS0 HO0 ⊢;obtain⟨K,hK⟩: ∃K,K=k+1:=⟨_,rfl⟩;have HS1:Hid (ScB w1 p s K):=by rw[hK];exact HS0.out
 have HK:=Lib.hid hK;have hKs:K≤s.size:=by omega
 clear HS0 hK hw1 c0 c1 f1 h hone;go_loopw [15] (fun iv wr=> ∃i:Nat,i≤2∧iv= .int .i64 (i:Int)∧Hid (∀j (hj:K+j<s.size),j<i→0≤valI (s[K+j]'hj))∧K+i≤s.size∧Hid (ScB wr p s K)∧Hid (Off p w wr)) (fun iv _=>2- (intOf iv).toNat);case atStart=>exact⟨0,by omega,rfl,fun j hj h=>by omega,by omega,HS1.out,HO0.out⟩
 case round=>
  obtain⟨i,hi,rfl,hA,hKi,hS,hO⟩:=hrel;obtain⟨c0,c1,f1⟩:=sc_cells hS.out;by_cases hlt:i<2
  ·have hlt':(i:Int)<2:=(by omega);by_cases hl:K+i<s.size
   ·have hl':(K:Int)+(i:Int)<(s.size:Int):=(by omega);obtain⟨X,hX⟩: ∃X:ByteArray,X=(⟨#[48]⟩:ByteArray)++s.extract (K+i) (K+i+1):=⟨_,rfl⟩;have hadd: ∀W,(Op.stringOp .add ⟨#[48]⟩ (s.extract (K+i) (K+i+1))).run Tryz.prog W= .ok (.string X) W:=fun W=>by rw[hX];exact run_string_add_sum W _ _ (by rw[ByteArray.size_extract];show 1+_≤9223372036854775807;omega)
    have HU:=Lib.hid (digit_one s (K+i) hl X hX);clear hX;obtain⟨n,hn⟩: ∃n:Int,n=(if valI (s[K+i]'hl)<0 then 4 else 0):=⟨_,rfl⟩;rw[←hn]at HU;have HV:Hid (n=(if valI (s[K+i]'hl)<0 then 4 else 0)):=hn;clear hn;go_wp2_with fail;go_quiet (fail);generalize hw2:wr.drewN nq=w2;have HB:Hid (Below wr.heap.size wr w2):=(by rw[←hw2];exact hx_drewN (Below.refl _ _) _);have HS:=Lib.hid (sc_below hS.out HB.out);have HO:=Lib.hid (off_trans hO.out (off_below HB.out));clear c0 c1 f1 hw2;obtain⟨c0,c1,f1⟩:=sc_cells HS.out;have f1:(0:Int)≤(K:Int)+(i:Int):=(by omega);have f2:(K:Int)+(i:Int)+1≤(s.size:Int):=(by omega);have f3:IntKind.i64.wrap ((K:Int)+(i:Int))=(K:Int)+(i:Int):=IntWalk.i64_in _ (by omega);have f4:IntKind.i64.wrap ((K:Int)+(i:Int)+1)=(K:Int)+(i:Int)+1:=IntWalk.i64_in _ (by omega);have f5:((K:Int)+(i:Int)).toNat=K+i:=(by omega);have f6:((K:Int)+(i:Int)+1).toNat=K+i+1:=(by omega);have f7:(K:Int)+(i:Int)≤(K:Int)+(i:Int)+1:=(by omega);have f8:(0:Int)≤(K:Int)+(i:Int)+1:=(by omega);go_wp2_with fail;go_region_held3 (fun W=>W.cell? ⟨p,0,none⟩=some (.string s)∧W.cell? ⟨p,1,none⟩=some (.int .i64 (K:Int))) (first
      | exact⟨c0,c1⟩
      | exact sc_two (sc_below (sc_drew HS.out) hB3))
     (first
      | (go_at_call 264;refine(HU.out _).mono ?_;rintro e w3 ⟨⟨y,rfl⟩,hB3⟩))
    have HS3:Hid (ScB w3 p s K):=sc_below (sc_drew HS.out) hB3;have HO3:Hid (Off p w w3):=off_trans HO.out (off_trans (off_below ((Below.refl _ _).drew)) (off_below hB3));clear hB3 c0 c1 f3 f4 f5 f6 f7 f8 f1 f2;obtain⟨c0,c1,f1⟩:=sc_cells HS3.out;by_cases hv:valI (s[K+i]'hl)<0
    ·have hn4:n=4:=(by rw[HV.out,if_pos hv]);subst hn4;have HVV:=Lib.hid hv;clear hv;have f3:IntKind.i64.wrap ((K:Int)+(i:Int))=(K:Int)+(i:Int):=IntWalk.i64_in _ (by omega);go_wp2_with fail;exact⟨rfl,byteE_bad HK.out hlt hl HVV.out HO3.out ⟨K+i,by omega,by simp⟩⟩
    ·have hn0:n=0:=(by rw[HV.out,if_neg hv]);subst hn0;have HVV:Hid (0≤valI (s[K+i]'hl)):=show 0≤valI (s[K+i]'hl)by omega
     clear hv;have HA:Hid (∀j (hj:K+j<s.size),j<i+1→0≤valI (s[K+j]'hj)):=by
      intro j hj hji;by_cases e:j=i
      ·subst e;exact HVV.out
      ·exact hA.out j hj (by omega)
     go_wp2_with fail;go_roundw;case rel=>exact⟨i+1,by omega,by go_num,HA.out,by omega,HS3.out,HO3.out⟩
     case measure=>simp[intOf];omega
   ·have hl': ¬ (K:Int)+(i:Int)<(s.size:Int):=(by omega);have HL:=Lib.hid hl;clear hl;go_wp2_with fail;go_quiet (fail);generalize hw2:wr.drewN nq=w2;have HB:Hid (Below wr.heap.size wr w2):=(by rw[←hw2];exact hx_drewN (Below.refl _ _) _);have HS:=Lib.hid (sc_below hS.out HB.out);have HO:=Lib.hid (off_trans hO.out (off_below HB.out));clear c0 c1 f1 hw2;obtain⟨c0,c1,f1⟩:=sc_cells HS.out;go_wp2_with fail;exact⟨rfl,byteE_end HK.out hlt HL.out HO.out ⟨s.size,by omega,rfl⟩⟩
  ·obtain rfl:i=2:=(by omega);have hl1:K+1<s.size:=(by omega);have h1:=hA.out 0 (by omega) (by omega);have h2:=hA.out 1 hl1 (by omega);have HD:=Lib.hid (digit_two s K hl1 h1 h2);have HF:Hid (∀e w',Off p w w'→e= .returned (.string (bb [hexB (s[K]'(by omega)) (s[K+1]'hl1)]))→ScB w' p s (K+2)→ByteE w p s k e w'):=fun e w' a b c=>byteE_ok HK.out hl1 h1 h2 a b c;generalize bb [hexB (s[K]'(by omega)) (s[K+1]'hl1)]=Y at HD HF;clear h1 h2 hA;have hl2:(K:Int)+2≤(s.size:Int):=(by omega);have f3:IntKind.i64.wrap ((K:Int)+2)=(K:Int)+2:=IntWalk.i64_in _ (by omega);have f5:((K:Int)+2).toNat=K+2:=(by omega);have f7:(K:Int)≤(K:Int)+2:=(by omega);go_wp2_with fail;go_region_held3 (fun W=>W.cell? ⟨p,0,none⟩=some (.string s)∧W.cell? ⟨p,1,none⟩=some (.int .i64 (K:Int))) (first
     | exact⟨c0,c1⟩
     | exact sc_two (sc_below (sc_drew hS.out) hB3))
    (first
     | (go_at_call 264;refine(HD.out _).mono ?_;rintro e w3 ⟨rfl,hB3⟩))
   have HS3:Hid (ScB w3 p s K):=sc_below (sc_drew hS.out) hB3;have HO3:Hid (Off p w w3):=off_trans hO.out (off_trans (off_below ((Below.refl _ _).drew)) (off_below hB3));clear hB3 c0 c1 f1;obtain⟨c0,c1,f1⟩:=sc_cells HS3.out;go_wp2_with fail;go_ret;exact HF.out _ _ (off_trans HO3.out (off_set _ _ _ _)) rfl (by have:=sc_set HS3.out (K+2);simpa using this)
end ftw
open Go.RowKit
namespace ftw
open ftp
open Go.Maps
theorem kindsK:Keyed Tryz.prog 5:=int_keyed Tryz.underlying5
theorem kindsZ (w:World):(zeroValue 3).run Tryz.prog w= .ok (.int .i64 0) w:=by kernel_rfl
abbrev ki (n:Int):DataW Unit:= .lit (.int .i64 n)
def kindsD:DataW Unit:=(((DataW.map []).put (.int .u8 62) (ki 5)).put (.int .u8 60) (ki 6)).put (.int .u8 126) (ki 8)
theorem kindsD_eq:kindsD= .map [(.int .u8 60,ki 6),(.int .u8 62,ki 5),(.int .u8 126,ki 8)]:=by rfl
theorem ownsMap_block {w w':World}{P:Program}{k:TypeId}{R:Value→Option (DataW Unit × List MemPlace)}{b n:Nat}{D:DataW Unit}(h:w.ownsMap P k R b n D)(hb:w'.heap[b]? =w.heap[b]?):w'.ownsMap P k R b n D:=by obtain⟨es,clock,h1,h2⟩:=h;exact⟨es,clock,hb.trans h1,h2⟩
theorem ownsMap_lt {w:World}{P:Program}{k:TypeId}{R:Value→Option (DataW Unit × List MemPlace)}{b n:Nat}{D:DataW Unit}(h:w.ownsMap P k R b n D):b<w.heap.size:=by obtain⟨es,clock,h1,h2⟩:=h;exact kt.bld_lt h1
theorem kinds_made (w:World): ∃w1 w2 w3,(Instr.mapUpdate 274 (.map (some w.heap.size)) (.int .u8 62) (.int .i64 5)).run Tryz.prog (w.alloc (.map #[] 0))= .ok () w1∧
  (Instr.mapUpdate 274 (.map (some w.heap.size)) (.int .u8 60) (.int .i64 6)).run Tryz.prog w1= .ok () w2∧
  (Instr.mapUpdate 274 (.map (some w.heap.size)) (.int .u8 126) (.int .i64 8)).run Tryz.prog w2= .ok () w3∧
  w3.ownsMap Tryz.prog 5 (plainElem Tryz.prog 3) w.heap.size 3 kindsD∧Below w.heap.size w w3:=by
 have h0:(w.alloc (.map #[] 0)).ownsMap Tryz.prog 5 (plainElem (H:=Unit) Tryz.prog 3) w.heap.size 0 (.map []):=World.ownsMap_made _ _ _ _;obtain⟨w1,r1,h1,g1⟩:=h0.update kindsK Tryz.underlying274 (by unfold maxLen;omega) (keyOf_int_mk Tryz.underlying5 (q:= .u8) (a:=62) (by decide)) (plainElem_int Tryz.underlying3 (q:= .i64) (a:=5) (by decide));obtain⟨w2,r2,h2,g2⟩:=h1.update kindsK Tryz.underlying274 (by unfold maxLen;omega) (keyOf_int_mk Tryz.underlying5 (q:= .u8) (a:=60) (by decide)) (plainElem_int Tryz.underlying3 (q:= .i64) (a:=6) (by decide));obtain⟨w3,r3,h3,g3⟩:=h2.update kindsK Tryz.underlying274 (by unfold maxLen;omega) (keyOf_int_mk Tryz.underlying5 (q:= .u8) (a:=126) (by decide)) (plainElem_int Tryz.underlying3 (q:= .i64) (a:=8) (by decide));have hB:Below w.heap.size w (w.alloc (.map #[] 0)):=(Below.refl _ _).alloc (Nat.le_refl _) _;have hr: ∀k,some w.heap.size=some k→w.heap.size≤k:=fun k hk=>by cases hk;exact Nat.le_refl _
 have hB1:=hB.grown g1 hB.size hr;have hB2:=hB1.grown g2 hB1.size hr;have hB3:=hB2.grown g3 hB2.size hr;exact⟨w1,w2,w3,r1,r2,r3,h3,hB3⟩
def isSign (c:Int):Bool:=decide (c=62)||decide (c=60)||decide (c=126)
def signK (c:Int):Int:=if c=62 then 5 else if c=60 then 6 else if c=126 then 8 else 0
theorem kinds_has (c:Int)(h0:0≤c)(h1:c<256):Maps.has kindsD (.int .u8 c)=isSign c:=by
 rw[kindsD_eq];obtain⟨n,rfl⟩:=Int.eq_ofNat_of_zero_le h0;have all: ∀m:Fin 256,Maps.has (DataW.map [(.int .u8 60,ki 6),(.int .u8 62,ki 5),(.int .u8 126,ki 8)]) (.int .u8 (m.val:Int))=isSign (m.val:Int):=by decide+kernel
 exact all ⟨n,by omega⟩
theorem kinds_at (c v:Int)(h0:0≤c)(h1:c<256)(h:kindsD.atKey (.int .u8 c) (ki 0)=ki v):v=signK c:=by
 rw[kindsD_eq]at h;obtain⟨n,rfl⟩:=Int.eq_ofNat_of_zero_le h0;have all: ∀m:Fin 256,(match(DataW.map [(.int .u8 60,ki 6),(.int .u8 62,ki 5),(.int .u8 126,ki 8)]).atKey (.int .u8 (m.val:Int)) (ki 0)with | .lit (.int .i64 x)=>decide (x=signK (m.val:Int)) | _=>false)=true:=by decide+kernel
 have:=all ⟨n,by omega⟩;simp only at this;rw[h]at this;exact of_decide_eq_true this
theorem kindP_62 {s:ByteArray}{k:Nat}(h:k<s.size)(hc:s[k]=62):kindP (rest s k)=(5,rest s (k+1)):=by rw[rest_cons h,hc];rfl
theorem kindP_60 {s:ByteArray}{k:Nat}(h:k<s.size)(hc:s[k]=60):kindP (rest s k)=(6,rest s (k+1)):=by rw[rest_cons h,hc];rfl
theorem kindP_126 {s:ByteArray}{k:Nat}(h:k<s.size)(hc:s[k]=126):kindP (rest s k)=(8,rest s (k+1)):=by rw[rest_cons h,hc];rfl
theorem kindP_no {s:ByteArray}{k:Nat}(h:isSign (nextI s k)=false):kindP (rest s k)=(3,rest s k):=by
 unfold nextI at h;unfold kindP;split
 ·rename_i r hr;exfalso;have hk:k<s.size:=by have:=congrArg List.length hr;rw[rest_len]at this;simp only[List.length_cons]at this;omega
  rw[rest_cons hk]at hr;simp only[List.cons.injEq]at hr;rw[dif_pos hk,hr.1]at h;exact absurd h (by decide)
 ·rename_i r hr;exfalso;have hk:k<s.size:=by have:=congrArg List.length hr;rw[rest_len]at this;simp only[List.length_cons]at this;omega
  rw[rest_cons hk]at hr;simp only[List.cons.injEq]at hr;rw[dif_pos hk,hr.1]at h;exact absurd h (by decide)
 ·rename_i r hr;exfalso;have hk:k<s.size:=by have:=congrArg List.length hr;rw[rest_len]at this;simp only[List.length_cons]at this;omega
  rw[rest_cons hk]at hr;simp only[List.cons.injEq]at hr;rw[dif_pos hk,hr.1]at h;exact absurd h (by decide)
 ·rfl
theorem kindP_yes {s:ByteArray}{k:Nat}(h:isSign (nextI s k)=true):k<s.size∧kindP (rest s k)=(signK (nextI s k),rest s (k+1)):=by
 unfold nextI at h ⊢;by_cases hk:k<s.size
 ·rw[dif_pos hk]at h ⊢;refine⟨hk,?_⟩;unfold isSign at h;simp only[Bool.or_eq_true,decide_eq_true_iff]at h;have e: ∀n:UInt8,((s[k]'hk).toNat:Int)=(n.toNat:Int)→s[k]'hk=n:=fun n h=>UInt8.toNat_inj.1 (by omega);rcases h with(h | h) | h
  ·rw[h];exact kindP_62 hk (e 62 h)
  ·rw[h];exact kindP_60 hk (e 60 h)
  ·rw[h];exact kindP_126 hk (e 126 h)
 ·rw[dif_neg hk]at h;exact absurd h (by decide)
theorem nextI_le (s:ByteArray)(k:Nat):0≤nextI s k∧nextI s k<256:=by
 unfold nextI;split
 ·rename_i h;have:=(s[k]'h).toNat_lt;omega
 ·omega
def KindE (w:World)(p:Nat)(s:ByteArray)(k:Nat)(e:Ending)(w':World):Prop:=
 Off p w w'∧ ∃ (kd:Int) (K:Nat),K≤s.size∧kindP (rest s k)=(kd,rest s K)∧
  ((∃h:K<s.size,s[K]=61∧e= .returned (.int .i64 kd)∧ScB w' p s (K+1))∨((∀h:K<s.size,s[K]≠61)∧PanicE e))
def TakeE (w:World)(p:Nat)(s:ByteArray)(k:Nat)(c:UInt8)(e:Ending)(w':World):Prop:=Off p w w'∧((∃h:k<s.size,s[k]=c∧e= .returned (.tuple #[])∧ScB w' p s (k+1))∨((∀h:k<s.size,s[k]≠c)∧PanicE e))
theorem take_any (p:Nat)(s:ByteArray)(k:Nat)(c:UInt8)(w:World)(h:Hid (ScB w p s k))(hk:k≤s.size)(hs:s.size≤1000000):
  Calls Tryz.prog 185 #[.pointer (some ⟨p,0,none⟩),.int .u8 (c.toNat:Int)] w (TakeE w p s k c):=by
 by_cases hc: ∃h:k<s.size,s[k]=c
 ·obtain⟨hlt,he⟩:=hc;refine(take_ok p s k c w h hlt he hs).mono ?_;rintro e w' ⟨h1,h2,h3⟩;exact⟨h2,Or.inl ⟨hlt,he,h1,h3⟩⟩
 ·refine(take_no p s k c w h hk (fun hlt he=>hc ⟨hlt,he⟩) hs).mono ?_;rintro e w' ⟨h1,h2⟩;exact⟨off_below h2,Or.inr ⟨fun hlt he=>hc ⟨hlt,he⟩,h1⟩⟩
theorem kind_any (p:Nat)(s:ByteArray)(k:Nat)(w:World)(h:Hid (ScB w p s k))(hk:k≤s.size)(hs:s.size≤1000000):
  Calls Tryz.prog 248 #[.pointer (some ⟨p,0,none⟩)] w (KindE w p s k):=by
 have hmm:= @run_makeMap Tryz.prog;obtain⟨w1,w2,w3,r1,r2,r3,hown,hB⟩:=kinds_made w;have HOW:=Lib.hid hown;have HB:=Lib.hid hB;have HN:=Lib.hid (next_any p s k w3 (Lib.hid (sc_below h.out hB)) hk);have hcn:=nextI_le s k;have HY:=Lib.hid (fun h=> @kindP_yes s k h);have HZ:=Lib.hid (fun h=> @kindP_no s k h);obtain⟨c,hc⟩: ∃c,nextI s k=c:=⟨_,rfl⟩;rw[hc]at HN hcn HY HZ;have hkey:=keyOf_int_mk Tryz.underlying5 (q:= .u8) (a:=c) (by simp[Lit.wf,IntKind.min,IntKind.max,IntKind.bits,IntKind.signed];omega);have HH:=Lib.hid (kinds_has c hcn.1 hcn.2);have HA:=Lib.hid (fun v=>kinds_at c v hcn.1 hcn.2);clear hown hB hc hcn;go_enter Tryz.func248,Tryz.ntmps248;go_wp2_with fail;refine HN.out.mono ?_;rintro e w4 ⟨rfl,hB4⟩;have HS4:Hid (ScB w4 p s k):=sc_below (sc_below h.out HB.out) hB4;have HO4:Hid (Off p w w4):=off_below (HB.out.trans (hB4.mono HB.out.size));have hown4:=ownsMap_block HOW.out (hB4.block _ (ownsMap_lt HOW.out));clear hmm r1 r2 r3 hB4;obtain⟨c0,c1,f1⟩:=sc_cells HS4.out;go_wp2_with (at_lookup;refine wpList_lookup_own_ok_int _ rfl _ _ 274 rfl 5 3 .i64 kindsK Tryz.underlying274 Tryz.underlying3 (kindsZ _) _ _ _ rfl hown4 _ _ rfl hkey ?_;intro v hat hwv)
 ·have hh:Maps.has kindsD (.int .u8 c)=true:=by assumption
  have hs1:isSign c=true:=by rw[←HH.out];exact hh
  obtain⟨hks,hkp⟩:=HY.out hs1;have hv:=HA.out v hat;have HP:Hid (kindP (rest s k)=(v,rest s (k+1))):=by rw[hv];exact hkp
  have HK:Hid (k+1≤s.size):=hks;clear hv hkp hs1 hat hks;refine(take_any p s (k+1) 61 _ (Lib.hid (sc_inc HS4.out)) HK.out hs).mono ?_;rintro e w5 ⟨hO5,hE⟩;rcases hE with⟨hl,he,rfl,hS5⟩ | ⟨hno,hP⟩
  ·go_wp2_with fail;go_ret;exact⟨off_trans (off_trans HO4.out (off_set _ _ _ _)) hO5,v,(k+1),HK.out,HP.out,Or.inl ⟨hl,he,rfl,hS5⟩⟩
  ·obtain⟨j,hj,rfl⟩:=hP;exact⟨rfl,off_trans (off_trans HO4.out (off_set _ _ _ _)) hO5,v,(k+1),HK.out,HP.out,Or.inr ⟨hno,j,hj,rfl⟩⟩
 ·have hh:Maps.has kindsD (.int .u8 c)=false:=by assumption
  have HP:Hid (kindP (rest s k)=(3,rest s k)):=HZ.out (by rw[←HH.out];exact hh);have HK:=Lib.hid hk;clear hat;refine(take_any p s k 61 _ (Lib.hid HS4.out) HK.out hs).mono ?_;rintro e w5 ⟨hO5,hE⟩;rcases hE with⟨hl,he,rfl,hS5⟩ | ⟨hno,hP⟩
  ·go_wp2_with fail;go_ret;exact⟨off_trans HO4.out hO5,3,k,HK.out,HP.out,Or.inl ⟨hl,he,rfl,hS5⟩⟩
  ·obtain⟨j,hj,rfl⟩:=hP;exact⟨rfl,off_trans HO4.out hO5,3,k,HK.out,HP.out,Or.inr ⟨hno,j,hj,rfl⟩⟩
end ftw
open Go.RowKit
namespace etw
theorem tk {P:Program}{ops:Array Oper}{Q:Exit→Act→World→Prop}{md:Region.Mode}{S:World→Prop}(i:Nat)(oi:Oper){v:Value}{fuel:Nat}{listed:Array Bool}{a a2:Act}{w:World}(hi:ops[i]? =some oi)
  (h:wpAnyH P md ops Q S fuel (listed.setIfInBounds i true) a2 w)
  (hs:Region.noSelect ops=true:=by kernel_rfl) (hf:Region.free md ops listed i=true:=by kernel_rfl) (hr:(Region.ready md ops listed).contains i=true:=by kernel_rfl)
  (hQ: ∀c a w,Q (.panic c) (a.put oi.dst v) w→Q (.panic c) a w:=by exact fun _ _ _ h=>h) (hw:Region.wanted oi (yielded ops a.tmps)=true:=by rfl)
  (hy: ∀w,S w→(execOp a.eval oi).run P w= .ok (.value v) w:=by intro w hSw;(try dsimp only at hSw);go_simp;all_goals with_reducible rfl)
  (hS:S w:=by assumption) (ha:a.put oi.dst v=a2:=by first | (simp only[Act.put,List.setIfInBounds_toArray,List.set_cons_zero,List.set_cons_succ];rfl) | rfl):wpAnyH P md ops Q S (fuel+1) listed a w:=by
 subst ha;exact wpAnyH_take hi hs hf hr hQ (Or.inl ⟨hw,hy⟩) hS h
theorem tu {P:Program}{ops:Array Oper}{Q:Exit→Act→World→Prop}{md:Region.Mode}{S:World→Prop}(i:Nat)(oi:Oper){fuel:Nat}{listed:Array Bool}{a a2:Act}{w:World}(hi:ops[i]? =some oi)
  (h:wpAnyH P md ops Q S fuel (listed.setIfInBounds i true) a2 w)
  (hs:Region.noSelect ops=true:=by kernel_rfl) (hf:Region.free md ops listed i=true:=by kernel_rfl) (hr:(Region.ready md ops listed).contains i=true:=by kernel_rfl)
  (hQ: ∀c a w,Q (.panic c) (a.put oi.dst undef) w→Q (.panic c) a w:=by exact fun _ _ _ h=>h) (hw:Region.wanted oi (yielded ops a.tmps)=false:=by rfl)
  (hS:S w:=by assumption) (ha:a.put oi.dst undef=a2:=by first | (simp only[Act.put,List.setIfInBounds_toArray,List.set_cons_zero,List.set_cons_succ];rfl) | rfl):wpAnyH P md ops Q S (fuel+1) listed a w:=by
 subst ha;exact wpAnyH_take hi hs hf hr hQ (Or.inr ⟨hw,rfl⟩) hS h
theorem tc {P:Program}{ops:Array Oper}{Q:Exit→Act→World→Prop}{md:Region.Mode}{S:World→Prop}(i:Nat)(oi:Oper){fuel:Nat}{listed:Array Bool}{a:Act}{w:World}(ho:ops[i]? =some oi)
  (h: ∀K':Act→World→Prop,Shut (∀a w,S w→(S w→wpAnyH P md ops Q S fuel (listed.setIfInBounds i true) a w)→K' a w)→if Region.wanted oi (yielded ops a.tmps)=true then Oper.wp P oi a w K' Q else K' (a.put oi.dst undef) w)
  (hr:Region.ready md ops listed=[i]:=by kernel_rfl):wpAnyH P md ops Q S (fuel+1) listed a w:=
 wpAnyH_ready hr (by simp) (AllReadyH.cons ho h AllReadyH.nil)
end etw
end Go.Proofs.YtmnpfkbjpeaemaaGreatDoor
