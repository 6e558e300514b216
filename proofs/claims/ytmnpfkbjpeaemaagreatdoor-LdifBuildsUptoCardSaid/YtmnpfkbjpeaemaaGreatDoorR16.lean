/- One text out of several: DValW, DPriW, LbR, SegU, LdRowM, LdTyR, LdNameW, LdTyW, LdEnc, LdRef, LdDec. -/
import Derived.Test.YtmnpfkbjpeaemaaGreatDoorR5
import Derived.Test.YtmnpfkbjpeaemaaGreatDoorR15
import Derived.Test.YtmnpfkbjpeaemaaGreatDoorR6
import Derived.Test.YtmnpfkbjpeaemaaGreatDoorR13
import Derived.Laws.OwnMore
import Derived.Test.YtmnpfkbjpeaemaaGreatDoorR2
import Derived.Test.YtmnpfkbjpeaemaaGreatDoorRows
import Derived.Test.YtmnpfkbjpeaemaaGreatDoorR9
import Derived.WalkSmall
import Derived.Test.YtmnpfkbjpeaemaaGreatDoorR1
set_option linter.unusedVariables false
set_option linter.unusedSimpArgs false
set_option maxRecDepth 20000
set_option maxHeartbeats 8000000
namespace Go.Proofs.YtmnpfkbjpeaemaaGreatDoor
open Go.RowKit
namespace dnw
open dnp
theorem ix_special (d:UInt8):0≤Lib.indexByte [34,43,44,59,60,61,62,92] d↔special d=true:=by
 have all: ∀m:Fin 256,(decide (0≤Lib.indexByte [34,43,44,59,60,61,62,92] (UInt8.ofNat m.val)))=special (UInt8.ofNat m.val):=by decide+kernel
 have h:=all ⟨d.toNat,d.toNat_lt⟩;simp only[UInt8.ofNat_toNat]at h;rw[←h,decide_eq_true_iff]
theorem signsIx (c:UInt8)(W:World): ∃r:Int,(0≤r↔special c=true)∧Calls Tryz.prog 175 #[.string ⟨#[34,43,44,59,60,61,62,92]⟩,.int .u8 (c.toNat:Int)] W fun e w'=>e= .returned (.int .i64 r)∧W=w':=by have C:=Tryz.strings_IndexByte {data:=#[34,43,44,59,60,61,62,92]} (c.toNat:Int) W;refine⟨_,?_,C.mono fun e w' h=>⟨h.1,by first | exact h.2 | exact h.2.symm⟩⟩;rw[show((c.toNat:Int)).toNat.toUInt8=c from by simp];exact ix_special c
def TxAt (s:ByteArray)(i:Nat)(acc:List UInt8):Prop:=acc++textF (decide (i=0)) (s.data.toList.drop i)=textL s.data.toList
theorem txAt_step {s:ByteArray}{i:Nat}{acc:List UInt8}(h:TxAt s i acc)(hi:i<s.size):TxAt s (i+1) (acc++textB (decide (i=0)) (decide (i+1=s.size)) s[i]):=by
 unfold TxAt at*;rw[drop_cons s i hi,textF]at h;rw[←h,List.append_assoc];have e:(s.data.toList.drop (i+1)).isEmpty=decide (i+1=s.size):=by
  by_cases h:i+1=s.size
  ·rw[decide_eq_true h,List.isEmpty_iff,List.drop_eq_nil_iff,kt.size_len];omega
  ·rw[decide_eq_false h,Bool.eq_false_iff];intro h2;rw[List.isEmpty_iff,List.drop_eq_nil_iff,kt.size_len]at h2;omega
 rw[e,decide_eq_false (by omega: ¬i+1=0)]
theorem txAt_end {s:ByteArray}{acc:List UInt8}(h:TxAt s s.size acc):acc=textL s.data.toList:=by unfold TxAt at h;rw[drop_end]at h;simpa[textF]using h
theorem textB_hex {f l:Bool}{c:UInt8}(h:hexed c=true):textB f l c=[92]++b64p.hex [c]:=if_pos h
theorem textB_esc {f l:Bool}{c:UInt8}(h:hexed c=false)(h2:fenced f l c=true):textB f l c=[92]++[c]:=(if_neg (by rw[h];simp)).trans (if_pos h2)
theorem textB_bare {f l:Bool}{c:UInt8}(h:hexed c=false)(h2:fenced f l c=false):textB f l c=[c]:=(if_neg (by rw[h];simp)).trans (if_neg (by rw[h2];simp))
theorem hexed_iff (c:UInt8):hexed c=true↔(c.toNat:Int)<32∨(c.toNat:Int)=127:=by
 unfold hexed;rw[decide_eq_true_iff];constructor
 ·rintro(h | h)
  ·left;have:c.toNat<32:=h;omega
  ·right;rw[h];rfl
 ·rintro(h | h)
  ·left;show c.toNat<32;omega
  ·right;exact u8_eq (n:=127) (by omega) h
theorem is_below {B b:Nat}{l:List UInt8}{w w':World}(h:bld.Is B b l w)(hb:Below w.heap.size w w'):bld.Is B b l w':=by
 rcases h with⟨hB,v,hbk,hown,hne⟩ | ⟨hB,v,hbk,hown,hne⟩
 ·exact Or.inl ⟨hB,v,(hb.block b (bld.lt_of_heap hbk)).trans hbk,kt.row_below hown hb,hne⟩
 ·exact Or.inr ⟨hB,v,(hb.block b (bld.lt_of_heap hbk)).trans hbk,kt.row_below hown hb,hne⟩
theorem dval_any (s:ByteArray)(w:World)(hs:s.size≤1100000):Calls Tryz.prog 164 #[.string s] w fun e w'=>e= .returned (.string ⟨(textL s.data.toList).toArray⟩)∧Below w.heap.size w w':=by
 go_enter Tryz.func164,Tryz.ntmps164;go_wp2_with fail;go_loopw [4,5,6,9] (fun _ _ _ iv wr=> ∃ (i:Nat) (acc:List UInt8),i≤s.size∧iv= .int .i64 (i:Int)∧Hid (bld.Is w.heap.size w.heap.size acc wr)∧acc.length≤3*i∧Hid (TxAt s i acc)∧Below w.heap.size w wr) (fun _ _ _ iv _=>s.size- (intOf iv).toNat);case atStart=>exact⟨0,[],Nat.zero_le _,rfl,bld.fresh w,Nat.zero_le _,rfl,(Below.refl _ _).alloc (Nat.le_refl _) _⟩
 case round=>
  obtain⟨i,acc,hi,rfl,HI,hal,hT,hB⟩:=hrel;have hsz:=hB.size;by_cases hlt:i<s.size
  ·have hlt':(i:Int)<(s.size:Int):=(by omega);have HT:=txAt_step hT.out hlt;obtain⟨r,hr,CX⟩:=signsIx (s[i]'hlt) wr;have HC:=Lib.hid CX;have HX0:=hexed_iff (s[i]'hlt);have hlen:acc.length≤3400000:=(by omega);have hc:=(s[i]'hlt).toNat_lt;have HT:=Lib.hid HT;clear CX;by_cases hx:hexed (s[i]'hlt)=true
   ·have HTX:Hid (TxAt s (i+1) (acc++[92]++b64p.hex [(s[i]'hlt)])):=(by have h:=HT.out;rw[textB_hex hx,←List.append_assoc]at h;exact h);have y1: ¬ ((s[i]'hlt).toNat:Int)=32:=(by have:=HX0.1 hx;omega);have y2: ¬ ((s[i]'hlt).toNat:Int)=35:=(by have:=HX0.1 hx;omega);have q32:(((s[i]'hlt).toNat:Int)==32)=false:=(by rw[beq_eq_false_iff_ne];exact y1);have q35:(((s[i]'hlt).toNat:Int)==35)=false:=(by rw[beq_eq_false_iff_ne];exact y2);have hst:(convert 131 9 (.slice (some ⟨wr.heap.size,0,none⟩) 1 1)).run Tryz.prog (wr.alloc (.cells #[.int .u8 ((s[i]'hlt).toNat:Int)] 5))= .ok (.string ⟨[(s[i]'hlt)].toArray⟩) (wr.alloc (.cells #[.int .u8 ((s[i]'hlt).toNat:Int)] 5)):=
     run_convert_bytes_back _ _ _ 5 ⟨wr.heap.size,0,none⟩ 1 [(s[i]'hlt)] Tryz.underlying131 Tryz.underlying5 Tryz.underlying9 (fun j hj=>by have h0:j=0:=(by simpa using hj);subst h0;rw[kt.addr_add,World.cell?_alloc_new];rfl)
    have CH:=Lib.hid (hex_any ⟨[(s[i]'hlt)].toArray⟩ (wr.alloc (.cells #[.int .u8 ((s[i]'hlt).toNat:Int)] 5)) (by show([(s[i]'hlt)].toArray:Array UInt8).size≤3000;simp));have HBA:Hid (Below wr.heap.size wr (wr.alloc (.cells #[.int .u8 ((s[i]'hlt).toNat:Int)] 5))):=(Below.refl _ _).alloc (Nat.le_refl _) _;have hx3:((s[i]'hlt).toNat:Int)<32∨(¬ ((s[i]'hlt).toNat:Int)<32∧(((s[i]'hlt).toNat:Int)==127)=true):=by
     rcases HX0.1 hx with h | h
     ·exact Or.inl h
     ·exact Or.inr ⟨by omega,by rw[beq_iff_eq];exact h⟩
    have HTd:Hid (((⟨#[92]⟩:ByteArray)++⟨(b64p.hex [(s[i]'hlt)]).toArray⟩).data.toList=[92]++b64p.hex [(s[i]'hlt)]):=(by show _=_;rw[ByteArray.data_append];simp);clear hr HC HX0 hx y1 y2 HT;rcases hx3 with x1 | ⟨x1,x2⟩
    all_goals
     go_wp2_with fail;refine CH.out.mono ?_;rintro e w1 ⟨rfl,hB1⟩;have HB1:Hid (Below wr.heap.size wr w1):=HBA.out.trans (hB1.mono (by simp));have HI1:=Lib.hid (is_below HI.out HB1.out);have hsz1:=Nat.le_trans hsz HB1.out.size;have hhl:=b64p.hex_length [(s[i]'hlt)];clear hB1 hst;go_wp2_with fail;refine(bld.writeString_any _ _ _ _ _ HI1.out (by have h:=congrArg List.length HTd.out;rw[kt.size_len]at h;rw[h,List.length_append,hhl];simp;omega) hsz1).mono ?_;rintro e w2 ⟨rfl,hI2,hB2⟩;have HI2:=Lib.hid hI2;clear hI2;go_wp2_with fail;go_roundw;case rel=>exact⟨i+1,_,by omega,by go_num,HI2,by rw[HTd.out,List.length_append,List.length_append,hhl];simp;omega,by rw[HTd.out,←List.append_assoc];exact HTX,(hB.trans (HB1.out.mono hsz)).trans hB2⟩
     case measure=>simp[intOf];omega
   ·have hx':hexed (s[i]'hlt)=false:=(by simpa using hx);have x1: ¬ ((s[i]'hlt).toNat:Int)<32:=fun h=>hx (HX0.2 (Or.inl h));have x2:(((s[i]'hlt).toNat:Int)==127)=false:=(by rw[beq_eq_false_iff_ne];exact fun h=>hx (HX0.2 (Or.inr h)));have HTE:Hid (∀x:Unit,fenced (decide (i=0)) (decide (i+1=s.size)) (s[i]'hlt)=true→TxAt s (i+1) (acc++[92]++[(s[i]'hlt)])):=(by intro _ hf;have h:=HT.out;rw[textB_esc hx' hf,←List.append_assoc]at h;exact h);have HTB:Hid (∀x:Unit,fenced (decide (i=0)) (decide (i+1=s.size)) (s[i]'hlt)=false→TxAt s (i+1) (acc++[(s[i]'hlt)])):=(by intro _ hf;have h:=HT.out;rw[textB_bare hx' hf]at h;exact h);have HF0:fenced (decide (i=0)) (decide (i+1=s.size)) (s[i]'hlt)=(special (s[i]'hlt)||(decide ((s[i]'hlt)=32)&&(decide (i=0)||decide (i+1=s.size)))||(decide ((s[i]'hlt)=35)&&decide (i=0))):=rfl;clear hx hx' HX0 HT;by_cases h32:((s[i]'hlt).toNat:Int)=32
    ·have e32:(s[i]'hlt)=32:=u8_eq (n:=32) (by omega) h32;have e35:(s[i]'hlt)≠35:=(by rw[e32];decide);have hs:special (s[i]'hlt)=false:=(by rw[e32];decide);have q32:((((s[i]'hlt).toNat:Int)==32))=true:=(by rw[beq_iff_eq];omega);have q35:((((s[i]'hlt).toNat:Int)==35))=false:=(by rw[beq_eq_false_iff_ne];omega);clear h32;by_cases h0:i=0
     ·have q0:((i:Int)==0)=true:=(by rw[beq_iff_eq];omega);have HF:Hid (fenced (decide (i=0)) (decide (i+1=s.size)) (s[i]'hlt)=true):=(by show _=_;rw[HF0,e32,decide_eq_true h0];rfl);clear HF0 hr e32 e35 h0;go_wp2_with fail;refine(bld.writeByte_cell _ _ _ (92:UInt8) _ HI.out (by omega) hsz).mono ?_;rintro e w1 ⟨rfl,hI1,hB1⟩;have HI1:=Lib.hid hI1;have hsz1:=Nat.le_trans hsz hB1.size;clear hI1;go_wp2_with fail;refine(bld.writeByte_cell _ _ _ (s[i]'hlt) _ HI1.out (by simp;omega) hsz1).mono ?_;rintro e w2 ⟨rfl,hI2,hB2⟩;have HI2:=Lib.hid hI2;clear hI2;go_wp2_with fail;go_roundw;case rel=>exact⟨i+1,_,by omega,by go_num,HI2,by simp;omega,Lib.hid (HTE.out () HF.out),(hB.trans hB1).trans hB2⟩
      case measure=>simp[intOf];omega
     ·have q0:((i:Int)==0)=false:=(by rw[beq_eq_false_iff_ne];omega);by_cases hl:i+1=s.size
      ·have ql:((i:Int)==(s.size:Int)-1)=true:=(by rw[beq_iff_eq];omega);have HF:Hid (fenced (decide (i=0)) (decide (i+1=s.size)) (s[i]'hlt)=true):=(by show _=_;rw[HF0,e32,decide_eq_false h0,decide_eq_true hl];rfl);clear HF0 hr e32 e35 hl;go_wp2_with fail;refine(bld.writeByte_cell _ _ _ (92:UInt8) _ HI.out (by omega) hsz).mono ?_;rintro e w1 ⟨rfl,hI1,hB1⟩;have HI1:=Lib.hid hI1;have hsz1:=Nat.le_trans hsz hB1.size;clear hI1;go_wp2_with fail;refine(bld.writeByte_cell _ _ _ (s[i]'hlt) _ HI1.out (by simp;omega) hsz1).mono ?_;rintro e w2 ⟨rfl,hI2,hB2⟩;have HI2:=Lib.hid hI2;clear hI2;go_wp2_with fail;go_roundw;case rel=>exact⟨i+1,_,by omega,by go_num,HI2,by simp;omega,Lib.hid (HTE.out () HF.out),(hB.trans hB1).trans hB2⟩
       case measure=>simp[intOf];omega
      ·have ql:((i:Int)==(s.size:Int)-1)=false:=(by rw[beq_eq_false_iff_ne];omega);have HF:Hid (fenced (decide (i=0)) (decide (i+1=s.size)) (s[i]'hlt)=false):=(by show _=_;rw[HF0,e32,decide_eq_false h0,decide_eq_false hl];rfl);have hr': ¬0≤r:=fun h=>absurd (hr.1 h) (by rw[hs];simp);clear HF0 hr hs e32 e35;go_wp2_with fail;refine HC.out.mono ?_;rintro e w0 ⟨rfl,rfl⟩;go_wp2_with fail;refine(bld.writeByte_cell _ _ _ (s[i]'hlt) _ HI.out (by omega) hsz).mono ?_;rintro e w1 ⟨rfl,hI1,hB1⟩;have HI1:=Lib.hid hI1;clear hI1;go_wp2_with fail;go_roundw;case rel=>exact⟨i+1,_,by omega,by go_num,HI1,by simp;omega,Lib.hid (HTB.out () HF.out),hB.trans hB1⟩
       case measure=>simp[intOf];omega
    ·have e32:(s[i]'hlt)≠32:=fun h=>h32 (by rw[h];rfl);have q32:((((s[i]'hlt).toNat:Int)==32))=false:=(by rw[beq_eq_false_iff_ne];omega);by_cases h35:((s[i]'hlt).toNat:Int)=35
     ·have e35:(s[i]'hlt)=35:=u8_eq (n:=35) (by omega) h35;have hs:special (s[i]'hlt)=false:=(by rw[e35];decide);have q35:((((s[i]'hlt).toNat:Int)==35))=true:=(by rw[beq_iff_eq];omega);clear h35;by_cases h0:i=0
      ·have q0:((i:Int)==0)=true:=(by rw[beq_iff_eq];omega);have HF:Hid (fenced (decide (i=0)) (decide (i+1=s.size)) (s[i]'hlt)=true):=(by show _=_;rw[HF0,e35,decide_eq_true h0];rfl);clear HF0 hr e32 e35 h0;go_wp2_with fail;refine(bld.writeByte_cell _ _ _ (92:UInt8) _ HI.out (by omega) hsz).mono ?_;rintro e w1 ⟨rfl,hI1,hB1⟩;have HI1:=Lib.hid hI1;have hsz1:=Nat.le_trans hsz hB1.size;clear hI1;go_wp2_with fail;refine(bld.writeByte_cell _ _ _ (s[i]'hlt) _ HI1.out (by simp;omega) hsz1).mono ?_;rintro e w2 ⟨rfl,hI2,hB2⟩;have HI2:=Lib.hid hI2;clear hI2;go_wp2_with fail;go_roundw;case rel=>exact⟨i+1,_,by omega,by go_num,HI2,by simp;omega,Lib.hid (HTE.out () HF.out),(hB.trans hB1).trans hB2⟩
       case measure=>simp[intOf];omega
      ·have q0:((i:Int)==0)=false:=(by rw[beq_eq_false_iff_ne];omega);have HF:Hid (fenced (decide (i=0)) (decide (i+1=s.size)) (s[i]'hlt)=false):=(by show _=_;rw[HF0,e35,decide_eq_false h0];rfl);have hr': ¬0≤r:=fun h=>absurd (hr.1 h) (by rw[hs];simp);clear HF0 hr hs e32 e35;go_wp2_with fail;refine HC.out.mono ?_;rintro e w0 ⟨rfl,rfl⟩;go_wp2_with fail;refine(bld.writeByte_cell _ _ _ (s[i]'hlt) _ HI.out (by omega) hsz).mono ?_;rintro e w1 ⟨rfl,hI1,hB1⟩;have HI1:=Lib.hid hI1;clear hI1;go_wp2_with fail;go_roundw;case rel=>exact⟨i+1,_,by omega,by go_num,HI1,by simp;omega,Lib.hid (HTB.out () HF.out),hB.trans hB1⟩
       case measure=>simp[intOf];omega
     ·have e35:(s[i]'hlt)≠35:=fun h=>h35 (by rw[h];rfl);have q35:((((s[i]'hlt).toNat:Int)==35))=false:=(by rw[beq_eq_false_iff_ne];omega);cases hs:special (s[i]'hlt)with
      | true=>
       have HF:Hid (fenced (decide (i=0)) (decide (i+1=s.size)) (s[i]'hlt)=true):=(by show _=_;rw[HF0,hs];rfl);have hr':0≤r:=hr.2 hs;clear HF0 hr hs e32 e35;go_wp2_with fail;refine HC.out.mono ?_;rintro e w0 ⟨rfl,rfl⟩;go_wp2_with fail;refine(bld.writeByte_cell _ _ _ (92:UInt8) _ HI.out (by omega) hsz).mono ?_;rintro e w1 ⟨rfl,hI1,hB1⟩;have HI1:=Lib.hid hI1;have hsz1:=Nat.le_trans hsz hB1.size;clear hI1;go_wp2_with fail;refine(bld.writeByte_cell _ _ _ (s[i]'hlt) _ HI1.out (by simp;omega) hsz1).mono ?_;rintro e w2 ⟨rfl,hI2,hB2⟩;have HI2:=Lib.hid hI2;clear hI2;go_wp2_with fail;go_roundw;case rel=>exact⟨i+1,_,by omega,by go_num,HI2,by simp;omega,Lib.hid (HTE.out () HF.out),(hB.trans hB1).trans hB2⟩
       case measure=>simp[intOf];omega
      | false=>
       have HF:Hid (fenced (decide (i=0)) (decide (i+1=s.size)) (s[i]'hlt)=false):=(by show _=_;rw[HF0,hs,decide_eq_false e32,decide_eq_false e35];rfl);have hr': ¬0≤r:=fun h=>absurd (hr.1 h) (by rw[hs];simp);clear HF0 hr hs e32 e35;go_wp2_with fail;refine HC.out.mono ?_;rintro e w0 ⟨rfl,rfl⟩;go_wp2_with fail;refine(bld.writeByte_cell _ _ _ (s[i]'hlt) _ HI.out (by omega) hsz).mono ?_;rintro e w1 ⟨rfl,hI1,hB1⟩;have HI1:=Lib.hid hI1;clear hI1;go_wp2_with fail;go_roundw;case rel=>exact⟨i+1,_,by omega,by go_num,HI1,by simp;omega,Lib.hid (HTB.out () HF.out),hB.trans hB1⟩
       case measure=>simp[intOf];omega
  ·obtain rfl:i=s.size:=(by omega);have HT:=Lib.hid (txAt_end hT.out);go_wp2_with fail;refine(Tryz.Builder_String_any _ _ _ _ HI.out hsz).mono ?_;rintro e w1 ⟨rfl,hB1⟩;go_wp2;go_ret;exact⟨kt.ret_str (by rw[HT.out]),hB.trans hB1⟩
end dnw
open Go.RowKit
namespace dnw
open dnp
theorem print_any (ao:Option Addr)(cap:Nat)(n:List (List Av))(w:World)(hA:Hid (Rdns w ao n))(hE:Hid (prw.Env w))(hS:Hid (∀l∈n,l.length≤4→Smalls l)):
  Calls Tryz.prog 98 #[.slice ao n.length cap] w fun e w'=>PrintE n e∧Below w.heap.size w w':=by
 have CR:=right_any ao cap n w hA hE hS;obtain⟨m,hm⟩: ∃m,m=n.length:=⟨_,rfl⟩;have HM:=Lib.hid hm;rw[←hm]at CR ⊢;clear hm;cases hok:nameOK n with
 | false=>rw[hok]at CR;have HC:=Lib.hid CR;have HN:=Lib.hid (printE_no hok);clear CR hok;go_enter Tryz.func98,Tryz.ntmps98;go_wp2_with fail;refine HC.out.mono ?_;rintro e w1 ⟨rfl,hB1⟩;go_wp2_with fail;go_ret2;exact⟨HN.out,hB1⟩
 | true=>
  rw[hok]at CR;have HC:=Lib.hid CR;have HOK:=Lib.hid hok;have hf:=nameOK_facts hok;have hm12:m≤12:=by rw[HM.out];exact hf.1
  have HL:=Lib.hid hf.2;clear CR hok hf;go_enter Tryz.func98,Tryz.ntmps98;go_wp2_with fail;refine HC.out.mono ?_;rintro e w1 ⟨rfl,hB1⟩;have HB1:=Lib.hid hB1;have hsz1:=hB1.size;clear hB1 HC;go_wp2_with fail;go_loopw [4,6,7,9,16] (fun rv _ _ _ iv wr=> ∃ (i:Nat),i≤m∧iv= .int .i64 (i:Int)∧Hid (prw.OwnT wr w1.heap.size rv ((n.take i).map fun l=>bytes (rdnX l)))∧Below w1.heap.size w1 wr) (fun _ _ _ _ iv _=>m- (intOf iv).toNat);case atStart=>exact⟨0,Nat.zero_le _,rfl,World.ownsRow_nil _ _ _ _,Below.refl _ _⟩
  case round=>
   obtain⟨i,hi,rfl,hO,hB⟩:=hrel;have hsz:=hB.size;obtain⟨aoR,mR,capR,rfl,hmR⟩:=ownT_form hO.out;by_cases hlt:i<m
   ·have hlt':(i:Int)<(m:Int):=(by omega);have hil:i<n.length:=(by rw[←HM.out];exact hlt);have HBT:=Lib.hid (HB1.out.trans (hB.mono hsz1));obtain⟨b,o,ao',cap',hao,hc0,hcc,hAv⟩:=(rdns_below hA.out HBT.out) i hil;subst hao;have HST:=takeMap_step (fun l=>bytes (rdnX l)) n i hil;have hro:=HL.out n[i] (List.getElem_mem hil);generalize n[i]=l at hc0 hcc hAv HST hro;have h4:=(rdnOK_facts hro).2.1;have HX:=Lib.hid (rdnOK_av hro);have hxl:=rdnX_len hro;have HST:=Lib.hid HST;have HAv:=Lib.hid hAv;obtain⟨p,hp⟩: ∃p,p=l.length:=⟨_,rfl⟩;have HP:=Lib.hid hp;rw[←hp]at hc0 hcc h4;clear hp hAv hro;obtain⟨wo,rfl⟩: ∃x,x=wr:=⟨_,rfl⟩;go_wp2_with fail;go_loopw [7,9,22] (fun pv _ kv wq=> ∃k:Nat,k≤p∧kv= .int .i64 (k:Int)∧Hid (prw.OwnT wq wo.heap.size pv ((l.take k).map fun a=>bytes (ptx a)))∧Below wo.heap.size wo wq) (fun _ _ kv _=>p- (intOf kv).toNat);case atStart=>exact⟨0,Nat.zero_le _,rfl,World.ownsRow_nil _ _ _ _,Below.refl _ _⟩
    case round=>
     obtain⟨k,hk,rfl,hO2,hBk⟩:=hrel;have hszk:=hBk.size;obtain⟨aoP,mP,capP,rfl,hmP⟩:=ownT_form hO2.out;by_cases hkp:k<p
     ·have hkp':(k:Int)<(p:Int):=(by omega);have hkl:k<l.length:=(by rw[←HP.out];exact hkp);obtain⟨b2,o2,hao2,d0,d1⟩:=(avas_below HAv.out hBk) k hkl;subst hao2;have HSK:=takeMap_step (fun a=>bytes (ptx a)) l k hkl;have hxx:=HX.out l[k] (List.getElem_mem hkl);generalize l[k]=x at d0 d1 HSK hxx;have HV:=Lib.hid (fun W=>dval_any x.v W (by have:=valOK_le hxx.2;rw[kt.size_len]at this;omega));have hq0:(wr.alloc (.cells #[.string x.t,.string x.v] 51)).cell? ⟨wr.heap.size,0,none⟩=some (.string x.t):=(by rw[World.cell?_alloc_new];rfl);have hq1:(wr.alloc (.cells #[.string x.t,.string x.v] 51)).cell? ⟨wr.heap.size,1,none⟩=some (.string x.v):=(by rw[World.cell?_alloc_new];rfl);have HO5:Hid (prw.OwnT (wr.alloc (.cells #[.string x.t,.string x.v] 51)) wo.heap.size (.slice aoP mP capP) ((l.take k).map fun a=>bytes (ptx a))):=ownT_below hO2.out ((Below.refl _ _).alloc (Nat.le_refl _) _);have HB5:Hid (Below wo.heap.size wo (wr.alloc (.cells #[.string x.t,.string x.v] 51))):=hBk.alloc hszk _;have hlt5:wr.heap.size<(wr.alloc (.cells #[.string x.t,.string x.v] 51)).heap.size:=(by simp);have HNE:Hid (∀k',(Value.slice aoP mP capP).ownBlock=some k'→k'<wr.heap.size):=fun k' h=>(hO2.out.lt k' h).2;have hkl':((l.take k).map fun a=>bytes (ptx a)).length≤4:=(by rw[List.length_map,List.length_take];omega);obtain⟨Y,hY⟩: ∃Y,Y=(⟨(textL x.v.data.toList).toArray⟩:ByteArray):=⟨_,rfl⟩;obtain⟨T1,hT1⟩: ∃T1,T1=x.t++(⟨#[61]⟩:ByteArray):=⟨_,rfl⟩;obtain⟨T2,hT2⟩: ∃T2,T2=T1++Y:=⟨_,rfl⟩;have hcat:=cat_ptx x;rw[←hY,←hT1,←hT2]at hcat;have hts:=typeOK_le hxx.1;rw[kt.size_len]at hts;have hys:Y.size≤765:=(by have h1:=textF_len true x.v.data.toList;have h2:=valOK_le hxx.2;rw[hY,←kt.size_len];show(textF true _).length≤_;omega);have h1s:T1.size=x.t.size+1:=(by rw[hT1,ByteArray.size_append];rfl);have hadd1: ∀W,(Op.stringOp .add x.t ⟨#[61]⟩).run Tryz.prog W= .ok (.string T1) W:=fun W=>by rw[hT1];exact run_string_add_sum W _ _ (by show x.t.size+1≤9223372036854775807;omega)
      have hadd2: ∀W,(Op.stringOp .add T1 Y).run Tryz.prog W= .ok (.string T2) W:=fun W=>by rw[hT2];exact run_string_add_sum W _ _ (by omega)
      have HCAT:=Lib.hid hcat;rw[←hY]at HV;have HSK:=Lib.hid HSK;clear hcat hT1 hT2 hY h1s hys hts;clear hO2 hxx;go_wp2_with fail;generalize wr.alloc (.cells #[.string x.t,.string x.v] 51)=w5 at hq0 hq1 HO5 HB5 hlt5 ⊢;go_region_held3 (fun W=>W.cell? ⟨wr.heap.size,0,none⟩=some (.string x.t)∧W.cell? ⟨wr.heap.size,1,none⟩=some (.string x.v)) (first
        | exact⟨hq0,hq1⟩
        | exact⟨(hB6.cell (p:=⟨wr.heap.size,0,none⟩) hlt5).trans hq0,(hB6.cell (p:=⟨wr.heap.size,1,none⟩) hlt5).trans hq1⟩
        | exact⟨(((Below.refl _ _).alloc (Nat.le_refl _) _).cell (p:=⟨wr.heap.size,0,none⟩) (Nat.lt_of_lt_of_le hlt5 hB6.size)).trans ((hB6.cell (p:=⟨wr.heap.size,0,none⟩) hlt5).trans hq0),(((Below.refl _ _).alloc (Nat.le_refl _) _).cell (p:=⟨wr.heap.size,1,none⟩) (Nat.lt_of_lt_of_le hlt5 hB6.size)).trans ((hB6.cell (p:=⟨wr.heap.size,1,none⟩) hlt5).trans hq1)⟩
        | exact⟨(World.cell?_of_block (hg7.block wr.heap.size (Nat.lt_of_lt_of_le hlt5 hB6.size) hne7)).trans ((hB6.cell (p:=⟨wr.heap.size,0,none⟩) hlt5).trans hq0),(World.cell?_of_block (hg7.block wr.heap.size (Nat.lt_of_lt_of_le hlt5 hB6.size) hne7)).trans ((hB6.cell (p:=⟨wr.heap.size,1,none⟩) hlt5).trans hq1)⟩)
       (first
        | (go_at_call 164;refine(HV.out _).mono ?_;rintro e w6 ⟨rfl,hB6⟩;obtain⟨ao7,m7,cap7,w7,hap,hO7,hg7,hB7⟩:=ownT_appG T2 (ownT_below HO5.out ((Below.refl w5.heap.size w5).drew.trans hB6)) (by omega) (Nat.le_trans HB5.out.size hB6.size);have hne7:some wr.heap.size≠(Value.slice aoP mP capP).ownBlock:=fun h=>absurd (HNE.out _ h.symm) (Nat.lt_irrefl _);have hO7:=Lib.hid hO7)
        | (refine kt.step_append_run rfl _ _ _ _ rfl _ _ rfl rfl _ _ hap ?_))
      all_goals
       go_wp2_with fail;go_roundw;case rel=>
        refine⟨k+1,by omega,by go_num,?_,HB5.out.trans ((((Below.refl w5.heap.size w5).drew.trans hB6).mono HB5.out.size).trans hB7)⟩;show prw.OwnT _ _ _ _;rw[HSK.out,←HCAT.out];exact hO7.out
       case measure=>simp[intOf];omega
     ·obtain rfl:k=p:=(by omega);have hO3:=hO2.out;rw[HP.out,List.take_length]at hO3;have e1:((l.map fun a=>bytes (ptx a)).map (·.data.toList))=l.map ptx:=(by rw[List.map_map];rfl);have CJ:=joinT hO3 ⟨#[43]⟩ (by rw[List.length_map,←HP.out];omega) (by rw[e1];show(rdnX l).length≤_;omega);rw[e1]at CJ;have CJ':Calls Tryz.prog 165 #[.slice aoP mP capP,.string ⟨#[43]⟩] wr fun e w'=>e= .returned (.string (bytes (rdnX l)))∧Below wr.heap.size wr w':=CJ;have HJ:=Lib.hid CJ';obtain⟨T,hT⟩: ∃T,T=bytes (rdnX l):=⟨_,rfl⟩;rw[←hT]at HJ;have HT:=Lib.hid hT;clear CJ CJ' e1 hO3 hT;go_wp2_with fail;refine HJ.out.mono ?_;rintro e w2 ⟨rfl,hB2⟩;have HB2:Hid (Below wo.heap.size wo w2):=hBk.trans (hB2.mono hszk);have hsz2:=Nat.le_trans hsz HB2.out.size;obtain⟨ao7,m7,cap7,w7,hap,hO7,hg7,hB7⟩:=ownT_appG T (ownT_below hO.out HB2.out) (by rw[List.length_map,List.length_take];omega) hsz2;have HO7:=Lib.hid hO7;have HB7:=Lib.hid ((hB.trans (HB2.out.mono hsz)).trans hB7);have HST:=Lib.hid HST;clear hO7 hg7 hB7 hB2;go_wp2_with (at_builtin;refine Lib.wpList_append_run _ rfl _ _ _ _ rfl _ _ rfl rfl _ _ hap ?_);go_roundw;case rel=>
       refine⟨i+1,by omega,by go_num,?_,HB7.out⟩;show prw.OwnT _ _ _ _;rw[HST.out.out,←HT.out];exact HO7.out
      case measure=>simp[intOf];omega
   ·obtain rfl:i=m:=(by omega);have hO1:=hO.out;rw[HM.out,List.take_length]at hO1;have e1:((n.map fun l=>bytes (rdnX l)).map (·.data.toList))=n.map rdnX:=(by rw[List.map_map];rfl);have hnx:=nameX_len HOK.out;have CJ:=joinT hO1 ⟨#[44]⟩ (by rw[List.length_map,←HM.out];omega) (by rw[e1];show(nameX n).length≤_;omega);rw[e1]at CJ;have CJ':Calls Tryz.prog 165 #[.slice aoR mR capR,.string ⟨#[44]⟩] wr fun e w'=>e= .returned (.string (bytes (nameX n)))∧Below wr.heap.size wr w':=CJ;have HJ:=Lib.hid CJ';obtain⟨t,ht⟩: ∃t,t=bytes (nameX n):=⟨_,rfl⟩;have hts:t.size=(nameX n).length:=(by rw[ht,←kt.size_len];rfl);rw[←ht]at HJ;have HT:=Lib.hid ht;clear CJ CJ' e1 hO1 ht;by_cases hlong:1000<t.size
    ·have hlong':1000<(t.size:Int):=(by omega);have HN:=Lib.hid (printE_long HOK.out (by omega));clear hts hnx;go_wp2_with fail;refine HJ.out.mono ?_;rintro e w2 ⟨rfl,hB2⟩;go_wp2_with fail;go_ret2;exact⟨HN.out,HB1.out.trans ((hB.trans (hB2.mono hsz)).mono hsz1)⟩
    ·have hlong': ¬1000<(t.size:Int):=(by omega);have HN:=Lib.hid (printE_ok HOK.out (by omega));rw[←HT.out]at HN;clear hts hnx;go_wp2_with fail;refine HJ.out.mono ?_;rintro e w2 ⟨rfl,hB2⟩;go_wp2_with fail;go_ret2;exact⟨HN.out,HB1.out.trans ((hB.trans (hB2.mono hsz)).mono hsz1)⟩
end dnw
open Go.RowKit
namespace lbw
open lbp atw etp etw
open dnw (Av Avas Rdns parseV nameOK printR)
open tupw (Strs strs_below)
theorem recB_set0 {w:World}{p:Nat}{nm:ByteArray}{v:Value}(h:RecB w p nm v)(u:ByteArray):RecB (w.setCell ⟨p,0,none⟩ (.string u)) p u v:=Joins.block_setCell h _
theorem recB_set1 {w:World}{p:Nat}{nm:ByteArray}{v:Value}(h:RecB w p nm v)(u:Value):RecB (w.setCell ⟨p,1,none⟩ u) p nm u:=Joins.block_setCell h u
theorem ownP_app {w:World}{B:Nat}{v:Value}{l:List Av}(x:Av)(h:dnw.OwnA w B v l)(hl:l.length≤1100000)(hB:B≤w.heap.size):
  ∃ao n cap w1,(Builtin.append_ #[23,23] 23 #[v,.slice (some ⟨w.heap.size,0,none⟩) 1 1]).run Tryz.prog (w.alloc (.cells #[.string x.t,.string x.v] 51))= .ok (.slice ao n cap) w1∧dnw.OwnA w1 B (.slice ao n cap) (l++[x])∧Below B w w1∧Hid (n=l.length+1)∧n≤cap∧(∀k,k<w.heap.size→v.ownBlock≠some k→w1.heap[k]? =w.heap[k]? ∧(Value.slice ao n cap).ownBlock≠some k):=by
 have hn:dnw.OwnA (w.alloc (.cells #[.string x.t,.string x.v] 51)) B v l:=kt.segX_below h ((Below.refl _ _).alloc (Nat.le_refl _) _);obtain⟨v',w1,h1,h2,h3,h4⟩:=kt.segX_append (P:=Tryz.prog) (t:=23) (ty:=23) Tryz.underlying23 dnw.infoAva rfl (by omega) ⟨w.heap.size,0,none⟩ 1 1 (dnw.acell x) rfl (fun j u hj=>by rw[kt.addr_add,World.cell?_alloc_new];simpa[dnw.acell]using hj) (by intro u hu;simp[dnw.acell]at hu;rcases hu with rfl | rfl<;>rfl) hn (by unfold maxLen;omega) (by omega) (by simp;omega);obtain⟨ao,cap,rfl,hc⟩:=kt.segX_slice h2;refine⟨ao,_,cap,w1,h1,?_,((Below.refl B w).alloc hB _).trans (dnw.below_of_gr h3 (by simp;omega) (fun k hk=>(dnw.ownA_lt hn k hk).1)),rfl,hc,fun k hk hne=>⟨?_,fun e=> ?_⟩⟩
 rotate_left 1
 ·exact(h3.block k (by simp;omega) (fun e=>hne e.symm)).trans (((Below.refl w.heap.size w).alloc (Nat.le_refl _) _).block k hk)
 ·rcases h4 k e with e4 | e4
  ·exact hne e4
  ·simp at e4;omega
 unfold dnw.OwnA;rw[List.length_append,dnw.acells_append];have e:dnw.acells [x]=dnw.acell x:=by simp[dnw.acells]
 rw[e];exact h2
theorem ownP_set {w:World}{B g:Nat}{v u:Value}{l:List Av}{j:Nat}(h:dnw.OwnA w B v l)(hg:g<B):dnw.OwnA (w.setCell ⟨g,j,none⟩ u) B v l:=dnw.ownA_same h fun k hk=>Below.heap_setCell _ _ _ _ (by have:=(dnw.ownA_lt h k hk).1;show k≠g;omega)
def RecR (r:Except Int (ByteArray × List Av))(w:World)(e:Ending)(w':World):Prop:=Below w.heap.size w w'∧match r with
 | .ok x=> ∃po pc,e= .returned (.tuple #[.agg #[.string x.1,.slice po x.2.length pc],.int .i64 0])∧Avas w' po x.2∧x.2.length≤pc
 | .error f=>e= .returned (.tuple #[.agg #[.string ⟨#[]⟩,.slice none 0 0],.int .i64 f])
theorem pairsV_snoc {L:List At}{i:Nat}(hi:i<L.length):pairsV (L.take (i+1))=pairsV (L.take i)++(L[i].vs.map fun v=>⟨L[i].t,v⟩):=by unfold pairsV;rw[List.take_succ_eq_append_getElem hi,List.flatMap_append];simp
theorem pairsV_take_le (L:List At)(i:Nat):(pairsV (L.take i)).length≤(pairsV L).length:=by
 conv=>rhs;rw[←List.take_append_drop i L]
 unfold pairsV;rw[List.flatMap_append,List.length_append];omega
theorem avas_rec {w:World}{B q g:Nat}{v u u':Value}{ao:Option Addr}{l:List Av}{c:Nat}(h:dnw.OwnA w B (.slice ao l.length c) l)(hq:q<B):Avas ((w.setCell ⟨q,0,none⟩ u).setCell ⟨q,1,none⟩ u') ao l:=dnw.ownA_avas (ownP_set (ownP_set h hq) hq)
theorem record_any (no:Option Addr)(nc:Nat)(n:List (List Av))(v:Value)(E:En)(w:World)(hN:Hid (Rdns w no n))(hn:n.length≤1000)(hS:Hid (∀l∈n,l.length≤4→dnw.Smalls l))(hv:Hid (EntV w v E))(hb:Hid (Bd E))(hvs:Hid ((pairsV E.ats).length≤1000000))(hE:Hid (EnvE w)):
  Calls Tryz.prog 39 #[.slice no n.length nc,v] w fun e w'=>RecR (recE n E) w e w':=by
 have HRN0:Hid (∀W,Below w.heap.size w W→Calls Tryz.prog 97 #[.slice no n.length nc] W fun e w'=>e= .returned (.bool (nameOK n))∧Below W.heap.size W w'):=fun W h=>dnw.right_any no nc n W (Lib.hid (dnw.rdns_below hN.out h)) (Lib.hid (envE_below hE.out h).e) hS;have HRE0:Hid (∀W,Below w.heap.size w W→Calls Tryz.prog 71 #[v] W fun e w'=>e= .returned (.bool (rightE E))∧Below W.heap.size W w'):=fun W h=>right_any v E W (Lib.hid (entV_below hv.out h)) hb (Lib.hid (envE_below hE.out h));have HPR0:Hid (∀W,Below w.heap.size w W→Calls Tryz.prog 98 #[.slice no n.length nc] W fun e w'=>e= .returned (.tuple #[.string (dnw.bytes (printR n).1),.int .i64 (printR n).2])∧Below W.heap.size W w'):=fun W h=>dnw.print_any no nc n W (Lib.hid (dnw.rdns_below hN.out h)) (Lib.hid (envE_below hE.out h).e) hS;have HRES:Hid (recE n E=if n=[]then .error 18 else if nameOK n=false∨rightE E=false then .error 4 else if(printR n).2≠0 then .error ((printR n).2:Int)else .ok (dnw.bytes (printR n).1,pairsV E.ats)):=rfl;obtain⟨RR,hRR⟩: ∃r,recE n E=r:=⟨_,rfl⟩;rw[hRR]at HRES ⊢;have HN0:Hid (n=[]↔n.length=0):=List.length_eq_zero_iff.symm;generalize nameOK n=nok at HRN0 HRES;generalize rightE E=rok at HRE0 HRES;generalize(printR n).2=pc at HPR0 HRES;generalize dnw.bytes (printR n).1=nm at HPR0 HRES;obtain⟨M,hM⟩: ∃m,n.length=m:=⟨_,rfl⟩;rw[hM]at HRN0 HPR0 HN0 hn ⊢;clear hRR hM;obtain⟨ro,rc,ao,ac,Nr,N,rfl,HN,HA,hac,HNr,HAv,hrc⟩:=ent_form hv.out;have hNb:N≤100000:=by rw[←HN.out];exact hb.out.al
 obtain⟨W1,hW1⟩: ∃W,w.alloc (.cells #[.slice ro Nr rc,.slice ao N ac] 26)=W:=⟨_,rfl⟩;have hB1:Below w.heap.size w W1:=by rw[←hW1];exact(Below.refl _ _).alloc (Nat.le_refl _) _
 obtain⟨p,hp⟩: ∃p,w.heap.size=p:=⟨_,rfl⟩;have hT1:EntB W1 p (.slice ro Nr rc) (.slice ao N ac):=by rw[←hW1,←hp];exact entB_new _ _ _
 obtain⟨W2,hW2⟩: ∃W,W1.alloc (.cells #[.string ⟨#[]⟩,.slice none 0 0] 54)=W:=⟨_,rfl⟩;have hB2:Below W1.heap.size W1 W2:=by rw[←hW2];exact(Below.refl _ _).alloc (Nat.le_refl _) _
 obtain⟨q,hqq⟩: ∃q,W1.heap.size=q:=⟨_,rfl⟩;have hqw:w.heap.size≤q:=by rw[←hqq];exact hB1.size
 have HQ2:Hid (RecB W2 q ⟨#[]⟩ (.slice none 0 0)):=by rw[←hW2,←hqq];exact recB_new _ _ _
 have HB2:=Lib.hid (hB1.trans (hB2.mono hB1.size));have HT2:=Lib.hid (entB_below hT1 hB2);clear hB1 hB2 hT1 hv;by_cases hM0:M=0
 ·have HR:Hid (.error 18=RR):=by show _=_;rw[HRES.out,if_pos (HN0.out.2 hM0)]
  subst hM0;clear HRES;have HQ:=HQ2;have HBX:=HB2;go_enter Tryz.func39,Tryz.ntmps39;obtain⟨v0,v1⟩:=recB_cells HQ.out;have f0:=Lib.frozen_of_heap HQ.out 0;have f1:=Lib.frozen_of_heap HQ.out 1;have hq1:=recB_set0 HQ.out ⟨#[]⟩;have hq2:=recB_set1 hq1 (.slice none 0 0);have HQC:=Lib.hid (recB_cells hq2);have HBF:=Lib.hid ((HBX.out.setCell (p:=⟨q,0,none⟩) hqw (.string ⟨#[]⟩)).setCell (p:=⟨q,1,none⟩) hqw (.slice none 0 0));clear hq1 hq2;go_wp2_with fail;obtain⟨r0,r1⟩:=HQC.out;refine bodyPost_ret (v:= .tuple #[.agg #[.string ⟨#[]⟩,.slice none 0 0],.int .i64 18]) (by rw[results_cell_tmp rfl];go_simp) rfl ?_;exact⟨HBF.out,by rw[←HR.out]⟩
 ·have HRES2:Hid (RR=if nok=false∨rok=false then .error 4 else if pc≠0 then .error (pc:Int)else .ok (nm,pairsV E.ats)):=by show _=_;rw[HRES.out,if_neg fun h=>hM0 (HN0.out.1 h)]
  clear HRES;have hM1:((M:Int)==0)=false:=by rw[beq_eq_false_iff_ne];omega
  have HRN:=Lib.hid (HRN0.out W2 HB2.out);clear HRN0;go_enter Tryz.func39,Tryz.ntmps39;go_wp2_with fail;clear hW1 hW2 hqq hp;refine HRN.out.mono ?_;rintro e w3 ⟨rfl,hB3⟩;have HB3:=Lib.hid (HB2.out.trans (hB3.mono HB2.out.size));have HT3:=Lib.hid (entB_below HT2.out hB3);have HQ3:=Lib.hid (recB_below HQ2.out hB3);clear hB3 HRN;cases nok with
  | false=>have HR:Hid (.error 4=RR):=(by show _=_;rw[HRES2.out,if_pos (Or.inl rfl)]);have HQ:=HQ3;have HBX:=HB3;obtain⟨v0,v1⟩:=recB_cells HQ.out;have f0:=Lib.frozen_of_heap HQ.out 0;have f1:=Lib.frozen_of_heap HQ.out 1;have hq1:=recB_set0 HQ.out ⟨#[]⟩;have hq2:=recB_set1 hq1 (.slice none 0 0);have HQC:=Lib.hid (recB_cells hq2);have HBF:=Lib.hid ((HBX.out.setCell (p:=⟨q,0,none⟩) hqw (.string ⟨#[]⟩)).setCell (p:=⟨q,1,none⟩) hqw (.slice none 0 0));clear hq1 hq2;go_wp2_with fail;obtain⟨r0,r1⟩:=HQC.out;refine bodyPost_ret (v:= .tuple #[.agg #[.string ⟨#[]⟩,.slice none 0 0],.int .i64 4]) (by rw[results_cell_tmp rfl];go_simp) rfl ?_;exact⟨HBF.out,by rw[←HR.out]⟩
  | true=>
   have HRE:=Lib.hid (HRE0.out w3 HB3.out);clear HRE0;obtain⟨k0,k1⟩:=entB_cells HT3.out;go_wp2_with fail;refine HRE.out.mono ?_;rintro e w4 ⟨rfl,hB4⟩;have HB4:=Lib.hid (HB3.out.trans (hB4.mono HB3.out.size));have HT4:=Lib.hid (entB_below HT3.out hB4);have HQ4:=Lib.hid (recB_below HQ3.out hB4);clear hB4 HRE k0 k1;cases rok with
   | false=>have HR:Hid (.error 4=RR):=(by show _=_;rw[HRES2.out,if_pos (Or.inr rfl)]);have HQ:=HQ4;have HBX:=HB4;obtain⟨v0,v1⟩:=recB_cells HQ.out;have f0:=Lib.frozen_of_heap HQ.out 0;have f1:=Lib.frozen_of_heap HQ.out 1;have hq1:=recB_set0 HQ.out ⟨#[]⟩;have hq2:=recB_set1 hq1 (.slice none 0 0);have HQC:=Lib.hid (recB_cells hq2);have HBF:=Lib.hid ((HBX.out.setCell (p:=⟨q,0,none⟩) hqw (.string ⟨#[]⟩)).setCell (p:=⟨q,1,none⟩) hqw (.slice none 0 0));clear hq1 hq2;go_wp2_with fail;obtain⟨r0,r1⟩:=HQC.out;refine bodyPost_ret (v:= .tuple #[.agg #[.string ⟨#[]⟩,.slice none 0 0],.int .i64 4]) (by rw[results_cell_tmp rfl];go_simp) rfl ?_;exact⟨HBF.out,by rw[←HR.out]⟩
   | true=>
    have HRES3:Hid (RR=if pc≠0 then .error (pc:Int)else .ok (nm,pairsV E.ats)):=(by show _=_;rw[HRES2.out,if_neg (by simp)]);have HPR:=Lib.hid (HPR0.out w4 HB4.out);clear HRES2 HPR0;go_wp2_with fail;refine HPR.out.mono ?_;rintro e w5 ⟨rfl,hB5⟩;have HB5:=Lib.hid (HB4.out.trans (hB5.mono HB4.out.size));have HT5:=Lib.hid (entB_below HT4.out hB5);have HQ5:=Lib.hid (recB_below HQ4.out hB5);clear hB5 HPR HQ2 HQ3 HQ4 HT2 HT3 HT4 HB2 HB3 HB4;by_cases hpc:pc=0
    ·subst hpc;have HR0:Hid (.ok (nm,pairsV E.ats)=RR):=(by show _=_;rw[HRES3.out,if_neg (by simp)]);clear HRES3;have hB6:Below w5.heap.size w5 (w5.alloc (.cells #[.string nm,.slice none 0 0] 54)):=(Below.refl _ _).alloc (Nat.le_refl _) _;have HG6:Hid (RecB (w5.alloc (.cells #[.string nm,.slice none 0 0] 54)) w5.heap.size nm (.slice none 0 0)):=recB_new _ _ _;have HT6:=Lib.hid (entB_below HT5.out hB6);have HB56:=Lib.hid hB6;obtain⟨k0,k1⟩:=entB_cells HT6.out;have hN0:0≤N:=Nat.zero_le _;clear hB6;go_wp2_with fail;clear k0 k1;obtain⟨W6,hW6⟩: ∃W,w5.alloc (.cells #[.string nm,.slice none 0 0] 54)=W:=⟨_,rfl⟩;obtain⟨g,hg⟩: ∃g,w5.heap.size=g:=⟨_,rfl⟩;have HG5:Hid (w5.heap.size=g):=hg;rw[hW6]at HG6 HB56 HT6 ⊢;rw[hg]at HG6 ⊢;have HQG:Hid (q<g):=(by show q<g;rw[←hg];exact kt.bld_lt HQ5.out);have hgs:g+1≤W6.heap.size:=kt.bld_lt HG6.out;have HOW6:Hid (dnw.OwnA W6 (g+1) (.slice none 0 0) []):=dnw.ownA_nil _ _;clear hW6 hg;go_loopw [42] (fun iv wr=> ∃ (i:Nat) (P:List Av) (po:Option Addr) (pn pcap:Nat),i≤N∧iv= .int .i64 (i:Int)∧Hid (P=pairsV (E.ats.take i))∧Hid (RecB wr g nm (.slice po pn pcap))∧Hid (dnw.OwnA wr (g+1) (.slice po pn pcap) P)∧Hid (pn=P.length)∧pn≤pcap∧Hid (Below w5.heap.size w5 wr)) (fun iv _=>N- (intOf iv).toNat);case atStart=>exact⟨0,[],none,0,0,Nat.zero_le _,rfl,rfl,HG6.out,HOW6.out,rfl,Nat.le_refl _,HB56.out⟩
     case round=>
      clear HG6 HOW6 HB56 HT6;obtain⟨i,P,po,pn,pcap,hi,rfl,hP,hG,hO,hpn,hpcap,hB⟩:=hrel;have HGr:=hG;have HOr:=hO;have hgsz:g<wr.heap.size:=kt.bld_lt hG.out;have HBr:=Lib.hid (HB5.out.trans (hB.out.mono HB5.out.size));have HQr:=Lib.hid (recB_below HQ5.out hB.out);clear hG hO;by_cases hlt:i<N
      ·have hltI:(i:Int)<(N:Int):=(by omega);have hil:i<E.ats.length:=(by rw[HN.out];exact hlt);obtain⟨b,o,ca,cc,hao,hc0',hc1',hcc,hSV⟩:=HA.out i hil;subst hao;have hc0:=(HBr.out.cell (World.block_lt_of_cell? w _ hc0')).trans hc0';have hc1:=(HBr.out.cell (World.block_lt_of_cell? w _ hc1')).trans hc1';clear hc0' hc1';have HPS:=Lib.hid (pairsV_snoc hil);have HPL:Hid ((pairsV (E.ats.take i)).length+E.ats[i].vs.length≤(pairsV E.ats).length):=(by show _≤_;have h1:=pairsV_snoc hil;have h2:=congrArg List.length h1;rw[List.length_append,List.length_map]at h2;have h3:=pairsV_take_le E.ats (i+1);omega);obtain⟨a,ha⟩: ∃a,E.ats[i]=a:=⟨_,rfl⟩;rw[ha]at hc0 hc1 hSV HPS HPL;have HSV:=Lib.hid hSV;obtain⟨m,hm⟩: ∃m,a.vs.length=m:=⟨_,rfl⟩;have HMV:=Lib.hid hm;rw[hm]at hc1 HPL;have hmb:m≤1000000:=(by have:=HPL.out;have:=hvs.out;omega);obtain⟨W7,hW7⟩: ∃W,wr.alloc (.cells #[.string a.t,.slice ca m cc] 43)=W:=⟨_,rfl⟩;have hB7:Below wr.heap.size wr W7:=(by rw[←hW7];exact(Below.refl _ _).alloc (Nat.le_refl _) _);obtain⟨z,hz⟩: ∃z,wr.heap.size=z:=⟨_,rfl⟩;have HA7:Hid (AttrB W7 z a.t (.slice ca m cc)):=(by rw[←hW7,←hz];exact attrB_new _ _ _);have HZ:Hid (wr.heap.size=z):=hz;obtain⟨y0,y1⟩:=attrB_cells HA7.out;have HG7:=Lib.hid (recB_below HGr.out hB7);have HO7:=Lib.hid (dnw.ownA_same HOr.out (w':=W7) fun k hk=>hB7.block k (dnw.ownA_lt HOr.out k hk).2);have HB57:=Lib.hid (hB.out.trans (hB7.mono hB.out.size));have hm0:0≤m:=Nat.zero_le _;have HGz:Hid (g<wr.heap.size):=hgsz;have HOZ:Hid ((Value.slice po pn pcap).ownBlock≠some z):=(by intro e;have h1:=(dnw.ownA_lt HOr.out z e).2;have h2:=HZ.out;omega);clear ha hm hB7 hSV hcc;go_wp2_with fail;clear hc0 hc1 y0 y1 hW7 hz;go_loopw [49] (fun jv wi=> ∃ (j:Nat) (P2:List Av) (po:Option Addr) (pn pcap:Nat),j≤m∧jv= .int .i64 (j:Int)∧Hid (P2=P++(a.vs.take j).map fun v=>⟨a.t,v⟩)∧Hid (RecB wi g nm (.slice po pn pcap))∧Hid (dnw.OwnA wi (g+1) (.slice po pn pcap) P2)∧Hid (pn=P2.length)∧pn≤pcap∧Hid (AttrB wi z a.t (.slice ca m cc))∧Hid ((Value.slice po pn pcap).ownBlock≠some z)∧Hid (Below w5.heap.size w5 wi)) (fun jv _=>m- (intOf jv).toNat);case atStart=>exact⟨0,P,po,pn,pcap,Nat.zero_le _,rfl,(by show _=_;simp),HG7.out,HO7.out,hpn.out,hpcap,HA7.out,HOZ.out,HB57.out⟩
       case round=>
        clear HG7 HO7 HA7 HOZ HB57 hpn hpcap;obtain⟨j,P2,po,pn,pcap,hj,rfl,hP2,hG,hO,hpn,hpcap,hAB,hOZ,hB⟩:=hrel;have HBi:=Lib.hid (HB5.out.trans (hB.out.mono HB5.out.size));have hgsz:g<wr.heap.size:=kt.bld_lt hG.out;by_cases hjt:j<m
        ·have hjt':(j:Int)<(m:Int):=(by omega);have hjl:j<a.vs.length:=(by rw[HMV.out];exact hjt);obtain⟨b3,o3,hca,c0⟩:=(strs_below HSV.out HBi.out) j hjl;subst hca;have HTJ:Hid (a.vs.take (j+1)=a.vs.take j++[a.vs[j]]):=(by show _=_;rw[List.take_succ_eq_append_getElem hjl]);obtain⟨x,hx⟩: ∃x,a.vs[j]=x:=⟨_,rfl⟩;rw[hx]at c0 HTJ;have hPl:P2.length≤1100000:=(by rw[hP2.out,List.length_append,List.length_map,List.length_take,hP.out];have h1:=HPL.out;have h2:=hvs.out;omega);obtain⟨po',pn',pc',w8,hap,hO8,hB8,hpn8,hpc8,hk8⟩:=ownP_app ⟨a.t,x⟩ hO.out hPl (by omega);have hap:=dnw.ApR.mk hap;have hg8:RecB w8 g nm (.slice po pn pcap):=(hB8.block g (Nat.lt_succ_self g)).trans hG.out;have hz8:=hk8 z (kt.bld_lt hAB.out) hOZ.out;obtain⟨g0,g1⟩:=recB_cells hG.out;obtain⟨s0,s1⟩:=recB_cells hg8;have sf1:=Lib.frozen_of_heap hg8 1;obtain⟨y0,y1⟩:=attrB_cells hAB.out;have HG9:=Lib.hid (recB_set1 hg8 (.slice po' pn' pc'));have HO9:=Lib.hid (ownP_set (g:=g) (j:=1) (u:= .slice po' pn' pc') hO8 (Nat.lt_succ_self g));have hzg:z≠g:=(by have:=HZ.out;have:=HGz.out;omega);have HA9:Hid (AttrB (w8.setCell ⟨g,1,none⟩ (.slice po' pn' pc')) z a.t (.slice (some ⟨b3,o3,none⟩) m cc)):=attrB_set (hz8.1.trans hAB.out) hzg _;have HZ9:=Lib.hid hz8.2;have HP9:Hid (P2++[⟨a.t,x⟩]=P++(a.vs.take (j+1)).map fun v=>⟨a.t,v⟩):=(by show _=_;rw[hP2.out,HTJ.out,List.map_append,List.append_assoc];rfl);have HL9:Hid (pn'=(P2++[(⟨a.t,x⟩:Av)]).length):=(by show _=_;rw[hpn8.out,List.length_append];rfl);have HB9:Hid (Below w5.heap.size w5 (w8.setCell ⟨g,1,none⟩ (.slice po' pn' pc'))):=(by have h1:Below w5.heap.size wr w8:=hB8.mono (by have:=HG5.out;omega);exact(hB.out.trans h1).setCell (by show _≤g;have:=HG5.out;omega) _);clear hx hO8 hB8 hpn8 hk8 hg8 hz8 hzg hPl;go_wp2_with (at_builtin;refine dnw.wp_apR rfl _ _ _ _ rfl _ _ hap ?_);clear c0 y0 y1 g0 g1 s0 s1 sf1;go_roundw;case rel=>exact⟨j+1,_,po',pn',pc',by omega,by go_num,HP9.out,HG9.out,HO9.out,HL9.out,hpc8,HA9.out,HZ9.out,HB9.out⟩
         case measure=>simp[intOf];omega
        ·obtain rfl:m=j:=(by omega);have HP3:Hid (P2=pairsV (E.ats.take (i+1))):=(by show _=_;rw[hP2.out,←HMV.out,List.take_length,HPS.out,hP.out]);go_wp2_with fail;go_roundw;case rel=>exact⟨i+1,P2,po,pn,pcap,by omega,by go_num,HP3.out,hG.out,hO.out,hpn.out,hpcap,hB.out⟩
         case measure=>simp[intOf];omega
      ·obtain rfl:N=i:=(by omega);have HPF:Hid (P=pairsV E.ats):=(by show _=_;rw[hP.out,←HN.out,List.take_length]);have HRF:Hid (.ok (nm,P)=RR):=(by show _=_;rw[←HR0.out,HPF.out]);obtain⟨n0,n1⟩:=recB_cells HQr.out;have qf0:=Lib.frozen_of_heap HQr.out 0;have qf1:=Lib.frozen_of_heap HQr.out 1;obtain⟨e0,e1⟩:=recB_cells HGr.out;have hq1:=recB_set0 HQr.out nm;have HQF:=Lib.hid (recB_set1 hq1 (.slice po pn pcap));have hqB:q<g+1:=(by have:=HQG.out;omega);have HPA:Hid (pn=P.length):=hpn.out;have HAF:Hid (Avas ((wr.setCell ⟨q,0,none⟩ (.string nm)).setCell ⟨q,1,none⟩ (.slice po pn pcap)) po P):=(by have h:=HOr.out;rw[HPA.out]at h ⊢;exact avas_rec (g:=g) (v:= .slice none 0 0) h hqB);have HBF:=Lib.hid ((HBr.out.setCell (p:=⟨q,0,none⟩) hqw (.string nm)).setCell (p:=⟨q,1,none⟩) hqw (.slice po pn pcap));clear hq1;go_wp2_with fail;obtain⟨r0,r1⟩:=recB_cells HQF.out;refine bodyPost_ret (v:= .tuple #[.agg #[.string nm,.slice po pn pcap],.int .i64 0]) (by rw[results_cell_tmp rfl];go_simp) rfl ?_;refine⟨HBF.out,?_⟩;rw[←HRF.out];exact⟨po,pcap,by rw[HPA.out],HAF.out,by rw[←HPA.out];exact hpcap⟩
    ·have hpc2:((pc:Int) !=0)=true:=(by rw[bne_iff_ne];omega);have HR:Hid (.error (pc:Int)=RR):=(by show _=_;rw[HRES3.out,if_pos hpc]);have HQ:=HQ5;have HBX:=HB5;clear hpc HRES3;obtain⟨v0,v1⟩:=recB_cells HQ.out;have f0:=Lib.frozen_of_heap HQ.out 0;have f1:=Lib.frozen_of_heap HQ.out 1;have hq1:=recB_set0 HQ.out ⟨#[]⟩;have hq2:=recB_set1 hq1 (.slice none 0 0);have HQC:=Lib.hid (recB_cells hq2);have HBF:=Lib.hid ((HBX.out.setCell (p:=⟨q,0,none⟩) hqw (.string ⟨#[]⟩)).setCell (p:=⟨q,1,none⟩) hqw (.slice none 0 0));clear hq1 hq2;go_wp2_with fail;obtain⟨r0,r1⟩:=HQC.out;refine bodyPost_ret (v:= .tuple #[.agg #[.string ⟨#[]⟩,.slice none 0 0],.int .i64 (pc:Int)]) (by rw[results_cell_tmp rfl];go_simp) rfl ?_;exact⟨HBF.out,by rw[←HR.out]⟩
end lbw
open Go.RowKit
namespace kt
theorem segX_set {w:World}{B n:Nat}{e:TypeId}{sz g o cap:Nat}{xs:List Value}(h:SegX w B e sz (.slice (some ⟨g,o,none⟩) n cap) n xs)(j:Nat)(hj:j<xs.length)(u:Value):
  SegX (w.setCell ⟨g,o+j,none⟩ u) B e sz (.slice (some ⟨g,o,none⟩) n cap) n (xs.set j u)∧w.grownBy (w.setCell ⟨g,o+j,none⟩ u) (some g):=by
 rcases h.2 with⟨h',_⟩ | ⟨g',o',cap',pre,post,hv,hB,hg,hp,hr⟩
 ·simp at h'
 ·simp only[Value.slice.injEq,Option.some.injEq,Addr.mk.injEq,and_true,true_and]at hv;obtain⟨⟨rfl,rfl⟩,rfl⟩:=hv;refine⟨⟨by simpa using h.1,Or.inr ⟨g,o,cap,pre,post,rfl,hB,?_,hp,hr⟩⟩,⟨rfl,rfl,rfl,by simp,fun k _ hk=>heap_setCell_other w ⟨g,o+j,none⟩ k u (fun e=>hk (by simp[e]))⟩⟩;rw[heap_setCell_same w g (o+j) _ e u hg];congr 3;simp only[List.setIfInBounds_toArray];congr 1;rw[List.append_assoc,List.set_append_right _ _ (by omega),show o+j-pre.length=j by omega,List.set_append_left _ _ hj,List.append_assoc]
theorem segX_at {w:World}{B n:Nat}{e:TypeId}{sz g o cap:Nat}{xs:List Value}(h:SegX w B e sz (.slice (some ⟨g,o,none⟩) n cap) n xs):B≤g∧g<w.heap.size∧(∀ (j:Nat) (x:Value),xs[j]? =some x→w.cell? ⟨g,o+j,none⟩=some x)∧(∀j,w.frozen? ⟨g,j,none⟩=false):=by
 rcases h.2 with⟨h',_⟩ | ⟨g',o',cap',pre,post,hv,hB,hg,hp,hr⟩
 ·simp at h'
 ·simp only[Value.slice.injEq,Option.some.injEq,Addr.mk.injEq,and_true,true_and]at hv;obtain⟨⟨rfl,rfl⟩,rfl⟩:=hv;refine⟨hB,bld_lt hg,fun j x hx=> ?_,fun j=>Lib.frozen_of_heap hg j⟩;have hj:=(List.getElem?_eq_some_iff.1 hx).1;rw[Lib.cell_of_heap hg];simp only[List.getElem?_toArray];rw[List.append_assoc,List.getElem?_append_right (by omega),show o+j-pre.length=j by omega,List.getElem?_append_left hj];exact hx
theorem segX_addr {w:World}{B n:Nat}{e:TypeId}{sz cap:Nat}{ao:Option Addr}{xs:List Value}(h:SegX w B e sz (.slice ao n cap) n xs)(hn:0<n): ∃g o,ao=some ⟨g,o,none⟩:=by obtain⟨g,o,cap',hv,_⟩:=segX_cell h hn;simp only[Value.slice.injEq]at hv;exact⟨g,o,hv.1⟩
end kt
open Go.RowKit
namespace ldw
open ldp
def bs (l:List UInt8):ByteArray:=⟨l.toArray⟩
theorem bs_data (l:List UInt8):(bs l).data.toList=l:=rfl
theorem bs_of (s:ByteArray):bs s.data.toList=s:=kt.str_eq rfl
def wcell (r:Row):List Value:=[.string (bs r.text),.int .i64 (r.no:Int)]
theorem infoW:(Tryz.prog.info? 144).map (fun i=>(i.zero,i.size,i.bytes))=some (some (.agg #[.string ByteArray.empty,.int .i64 0]),2,24):=by kernel_rfl
def WRow (w:World)(B:Nat)(v:Value)(l:List Row):Prop:=kt.SegX w B 144 2 v l.length (l.flatMap wcell)
theorem wrow_below {w w':World}{B:Nat}{v:Value}{l:List Row}(h:WRow w B v l)(hb:Below w.heap.size w w'):WRow w' B v l:=kt.segX_below h hb
theorem wrow_form {w:World}{B:Nat}{v:Value}{l:List Row}(h:WRow w B v l): ∃ao n cap,v= .slice ao n cap∧Hid (n=l.length)∧n≤cap:=by obtain⟨ao,cap,hv,hc⟩:=kt.segX_slice h;exact⟨ao,_,cap,hv,rfl,hc⟩
theorem wrow_app {w:World}{B:Nat}{v:Value}{l:List Row}(x:Row)(t:ByteArray)(ht:bs x.text=t)(h:WRow w B v l)(hl:l.length≤1000000)(hB:B≤w.heap.size):
  ∃ao n cap w1,(Builtin.append_ #[139,139] 139 #[v,.slice (some ⟨w.heap.size,0,none⟩) 1 1]).run Tryz.prog (w.alloc (.cells #[.string t,.int .i64 (x.no:Int)] 144))= .ok (.slice ao n cap) w1∧WRow w1 B (.slice ao n cap) (l++[x])∧Below B w w1:=by
 subst ht;have hn:=kt.segX_below h (w':=w.alloc (.cells #[.string (bs x.text),.int .i64 (x.no:Int)] 144)) ((Below.refl _ _).alloc (Nat.le_refl _) _);obtain⟨v',w1,h1,h2,h3,h4⟩:=kt.segX_append (P:=Tryz.prog) (t:=139) (ty:=139) Tryz.underlying139 infoW rfl (by omega) ⟨w.heap.size,0,none⟩ 1 1 (wcell x) rfl (fun j u hj=>by rw[kt.addr_add,World.cell?_alloc_new];simpa[wcell]using hj) (by intro u hu;simp[wcell]at hu;rcases hu with rfl | rfl<;>rfl) hn (by unfold maxLen;omega) (by omega) (by simp;omega);obtain⟨ao,cap,rfl,_⟩:=kt.segX_slice h2;refine⟨ao,_,cap,w1,h1,?_,((Below.refl B w).alloc hB _).trans ((Below.refl B _).grown h3 (by simp;omega) (fun k hk=>(kt.segX_lt hn k hk).1))⟩;unfold WRow;rw[List.length_append,List.flatMap_append];simpa using h2
theorem wrow_last {w:World}{B n cap:Nat}{ao:Option Addr}{l:List Row}{x:Row}(h:WRow w B (.slice ao n cap) (l++[x]))(hn:n=l.length+1):
  ∃g o,ao=some ⟨g,o,none⟩∧B≤g∧w.cell? ⟨g,o+l.length*2,none⟩=some (.string (bs x.text))∧w.frozen? ⟨g,o+l.length*2,none⟩=false∧
   ∀t (b:Bool),WRow (w.setCell ⟨g,o+l.length*2,none⟩ (.string (bs t))) B (.slice ao n cap) (l++[⟨t,x.no,b⟩]):=by
 subst hn;have h0:=h;unfold WRow at h0;rw[List.length_append]at h0;have h1:kt.SegX w B 144 2 (.slice ao (l.length+1) cap) (l.length+1) ((l++[x]).flatMap wcell):=h0;obtain⟨g,o,rfl⟩:=kt.segX_addr h1 (by omega);obtain⟨hB,hlt,hc,hf⟩:=kt.segX_at h1;have hlen:(l.flatMap wcell).length=l.length*2:=kt.flat_len wcell 2 (fun _=>rfl) l;have hx:((l++[x]).flatMap wcell)[l.length*2]? =some (.string (bs x.text)):=by rw[List.flatMap_append,List.getElem?_append_right (by omega),hlen];simp[wcell]
 refine⟨g,o,rfl,hB,hc _ _ hx,hf _,fun t b=> ?_⟩;have h2:=(kt.segX_set h1 (l.length*2) (by rw[kt.flat_len wcell 2 (fun _=>rfl)];simp) (.string (bs t))).1;unfold WRow;rw[List.length_append];have e:((l++[x]).flatMap wcell).set (l.length*2) (.string (bs t))=(l++[(⟨t,x.no,b⟩:Row)]).flatMap wcell:=by rw[List.flatMap_append,List.flatMap_append,List.set_append_right _ _ (by omega),hlen];simp[wcell]
 rw[←e];exact h2
theorem wrow_at {w:World}{B n cap:Nat}{ao:Option Addr}{l:List Row}(h:WRow w B (.slice ao n cap) l)(i:Nat)(hi:i<l.length):
  ∃g o,ao=some ⟨g,o,none⟩∧g<w.heap.size∧w.cell? ⟨g,o+i*2,none⟩=some (.string (bs l[i].text))∧w.cell? ⟨g,o+i*2+1,none⟩=some (.int .i64 (l[i].no:Int)):=by
 have h1:=h;unfold WRow at h1;obtain⟨ao',cap',hv,_⟩:=kt.segX_slice h1;simp only[Value.slice.injEq]at hv;obtain⟨rfl,rfl,rfl⟩:=hv;obtain⟨g,o,rfl⟩:=kt.segX_addr h1 (by omega);obtain⟨hB,hlt,hc,hf⟩:=kt.segX_at h1;have f0:=kt.flat_get wcell 2 (fun _=>rfl) l i 0 hi (by omega);have f1:=kt.flat_get wcell 2 (fun _=>rfl) l i 1 hi (by omega);exact⟨g,o,rfl,hlt,hc _ _ f0,by rw[Nat.add_assoc];exact hc _ _ f1⟩
end ldw
open Go.RowKit
namespace ldw
open ldp
theorem zero_s {s:ByteArray}(h0:s.size=0):s=ByteArray.empty:=by
 apply kt.str_eq;have:s.data.toList.length=0:=by simpa using h0
 rw[List.eq_nil_of_length_eq_zero this];rfl
theorem isDn_len {s:ByteArray}(h: ¬s.size=2):false=isDn s.data.toList:=by
 symm;rw[Bool.eq_false_iff];intro e;unfold isDn at e;simp only[Bool.or_eq_true,beq_iff_eq]at e;have hl:s.data.toList.length=s.size:=by simp
 rcases e with((e | e) | e) | e<;>(rw[e]at hl;simp at hl;omega)
theorem isDn_two {s:ByteArray}(h:s.size=2)(b:Bool)(hb:b=true↔(((s[0]'(by omega)).toNat:Int)=100∨((s[0]'(by omega)).toNat:Int)=68)∧(((s[1]'(by omega)).toNat:Int)=110∨((s[1]'(by omega)).toNat:Int)=78)):b=isDn s.data.toList:=by
 have hs:s.data.toList=[s[0]'(by omega),s[1]'(by omega)]:=by
  apply List.ext_getElem
  ·simp[h]
  ·intro i h1 h2;have:i=0∨i=1:=(by simp at h2;omega);rcases this with rfl | rfl<;>rfl
 rw[Bool.eq_iff_iff,hb,hs];generalize s[0]'(by omega)=c;generalize s[1]'(by omega)=d;unfold isDn;simp only[Bool.or_eq_true,beq_iff_eq,List.cons.injEq,and_true,←UInt8.toNat_inj];show _↔(((c.toNat=100∧d.toNat=110)∨(c.toNat=68∧d.toNat=110))∨(c.toNat=100∧d.toNat=78))∨(c.toNat=68∧d.toNat=78);omega
theorem isName_any (s:ByteArray)(w:World)(hs:s.size≤1000000):Calls Tryz.prog 104 #[.string s] w fun e w'=>e= .returned (.bool (isDn s.data.toList))∧w=w':=by
 by_cases h:s.size=2
 ·have HT:=Lib.hid (isDn_two h);have e2:((s.size:Int)==2)=true:=by rw[beq_iff_eq];omega
  have hz:0<s.size:=by omega
  have hz1:1<s.size:=by omega
  have hz2:(0:Int)<(s.size:Int):=by omega
  have hz3:(1:Int)<(s.size:Int):=by omega
  obtain⟨c,hc⟩: ∃c,s[0]'hz=c:=⟨_,rfl⟩;obtain⟨d,hd⟩: ∃c,s[1]'hz1=c:=⟨_,rfl⟩;rw[hc,hd]at HT;clear h;have cc:(((c.toNat:Int)==100)=true∨(((c.toNat:Int)==100)=false∧((c.toNat:Int)==68)=true))∨(((c.toNat:Int)==100)=false∧((c.toNat:Int)==68)=false):=by
   by_cases e1:((c.toNat:Int)==100)=true
   ·exact Or.inl (Or.inl e1)
   ·have e1:((c.toNat:Int)==100)=false:=(by simpa using e1);by_cases e2:((c.toNat:Int)==68)=true
    ·exact Or.inl (Or.inr ⟨e1,e2⟩)
    ·exact Or.inr ⟨e1,by simpa using e2⟩
  have dd:(((d.toNat:Int)==110)=true∨(((d.toNat:Int)==110)=false∧((d.toNat:Int)==78)=true))∨(((d.toNat:Int)==110)=false∧((d.toNat:Int)==78)=false):=by
   by_cases e1:((d.toNat:Int)==110)=true
   ·exact Or.inl (Or.inl e1)
   ·have e1:((d.toNat:Int)==110)=false:=(by simpa using e1);by_cases e2:((d.toNat:Int)==78)=true
    ·exact Or.inl (Or.inr ⟨e1,e2⟩)
    ·exact Or.inr ⟨e1,by simpa using e2⟩
  rcases cc with(c1 | ⟨c1,c2⟩) | ⟨c1,c2⟩<;>rcases dd with(d1 | ⟨d1,d2⟩) | ⟨d1,d2⟩
  all_goals go_enter Tryz.func104,Tryz.ntmps104;go_wp2_with fail;go_ret;refine⟨kt.ret_bool (HT.out _ ?_),rfl⟩;simp only[beq_iff_eq,beq_eq_false_iff_ne]at*;first | (simp only[true_iff];omega) | (simp only[false_iff,Bool.false_eq_true];omega)
 ·have HT:=Lib.hid (isDn_len h);have e2:((s.size:Int)==2)=false:=by rw[beq_eq_false_iff_ne];omega
  clear h;go_enter Tryz.func104,Tryz.ntmps104;go_wp2_with fail;go_ret;exact⟨kt.ret_bool HT.out,rfl⟩
end ldw
open Go.RowKit
namespace ldw
open ldp
theorem nm_drewN {B:Nat}{a b:World}(h:Below B a b)(n:Nat):Below B a (b.drewN n):=⟨h.os,h.tape,h.output,h.size,h.block⟩
theorem ix_hit {A R:List UInt8}{c:UInt8}(h:c∉A):Lib.indexByte (A++c::R) c=A.length:=by
 refine b64p.indexByte_hit _ _ A.length (fun m hm=> ?_) (by simp) (by simp[List.getD]);intro e;have e2:(A++c::R).getD m 0=A[m]:=by rw[List.getD_eq_getElem?_getD,List.getElem?_append_left hm];simp[hm]
 rw[e2]at e;exact h (e▸List.getElem_mem hm)
theorem ix_miss {A:List UInt8}{c:UInt8}(h:c∉A):Lib.indexByte A c= -1:=by
 refine b64p.indexByte_miss _ _ (fun m hm=> ?_);intro e;have e2:A.getD m 0=A[m]:=by simp[List.getD,hm]
 rw[e2]at e;exact h (e▸List.getElem_mem hm)
theorem cut_hit (s:ByteArray)(c:UInt8)(A R:List UInt8)(w:World)(hs:s.size≤100000000)(h:s.data.toList=A++c::R)(hA:c∉A):Calls Tryz.prog 172 #[.string s,.string ⟨#[c]⟩] w fun e w'=>e= .returned (.tuple #[.string ⟨A.toArray⟩,.string ⟨R.toArray⟩,.bool true])∧Below w.heap.size w w':=by
 have hl:s.size=A.length+R.length+1:=by rw[←kt.size_len,h];simp;omega
 obtain⟨i,hi⟩: ∃i,Hid (i=A.length):=⟨_,rfl⟩;have hi1:i+1≤s.size:=by rw[hi.out];omega
 have e1:s.extract 0 i=⟨A.toArray⟩:=by apply kt.str_eq;rw[Lib.extract_data,h,hi.out];simp
 have e2:s.extract (i+1) s.size=⟨R.toArray⟩:=by apply kt.str_eq;rw[Lib.extract_to_end,h,hi.out];simp
 have HC:Hid (Calls Tryz.prog 267 #[.string s,.string ⟨#[c]⟩] w fun e w'=>e= .returned (.int .i64 (i:Int))∧w=w'):=by refine(Tryz.stringslite_Index_one s c w).mono ?_;rintro e w' ⟨rfl,rfl⟩;refine⟨?_,rfl⟩;rw[h,ix_hit hA,hi.out]
 obtain⟨a,ha⟩: ∃a:ByteArray,Hid (a=⟨A.toArray⟩):=⟨_,rfl⟩;obtain⟨r,hr⟩: ∃a:ByteArray,Hid (a=⟨R.toArray⟩):=⟨_,rfl⟩;rw[←ha.out]at e1 ⊢;rw[←hr.out]at e2 ⊢;have i1:((i:Int)+1).toNat=i+1:=by omega
 have i2:(i:Int)+1≤(s.size:Int):=by omega
 have i3:(i:Int)≤(s.size:Int):=by omega
 have i4:IntKind.i64.wrap ((i:Int)+1)=(i:Int)+1:=IntWalk.i64_in _ (by omega);clear hl h hA;go_enter Tryz.func172,Tryz.ntmps172;go_wp2_with fail;have C:Calls Tryz.prog 216 #[.string s,.string ⟨#[c]⟩] w fun e w'=>e= .returned (.tuple #[.string a,.string r,.bool true])∧Below w.heap.size w w':=by go_enter Tryz.func216,Tryz.ntmps216;go_wp2_with fail;refine HC.out.mono ?_;rintro e w' ⟨rfl,rfl⟩;go_wp2_with fail;go_quiet (fail);go_wp2_with fail;go_ret3;exact⟨rfl,nm_drewN (Below.refl _ _) _⟩
 refine C.mono ?_;rintro e w' ⟨rfl,hB⟩;go_wp2_with fail;go_ret3;exact⟨rfl,hB⟩
theorem cut_miss (s:ByteArray)(c:UInt8)(w:World)(hA:c∉s.data.toList):Calls Tryz.prog 172 #[.string s,.string ⟨#[c]⟩] w fun e w'=>e= .returned (.tuple #[.string s,.string ⟨#[]⟩,.bool false])∧Below w.heap.size w w':=by
 have HC:Hid (Calls Tryz.prog 267 #[.string s,.string ⟨#[c]⟩] w fun e w'=>e= .returned (.int .i64 (-1))∧w=w'):=by refine(Tryz.stringslite_Index_one s c w).mono ?_;rintro e w' ⟨rfl,rfl⟩;refine⟨?_,rfl⟩;rw[ix_miss hA]
 clear hA;go_enter Tryz.func172,Tryz.ntmps172;go_wp2_with fail;have C:Calls Tryz.prog 216 #[.string s,.string ⟨#[c]⟩] w fun e w'=>e= .returned (.tuple #[.string s,.string ⟨#[]⟩,.bool false])∧Below w.heap.size w w':=by go_enter Tryz.func216,Tryz.ntmps216;go_wp2_with fail;refine HC.out.mono ?_;rintro e w' ⟨rfl,rfl⟩;go_wp2_with fail;go_ret3;exact⟨rfl,Below.refl _ _⟩
 refine C.mono ?_;rintro e w' ⟨rfl,hB⟩;go_wp2_with fail;go_ret3;exact⟨rfl,hB⟩
end ldw
open Go.RowKit
namespace ldw
open ldp
theorem rightType_any (s:ByteArray)(w:World)(hs:s.size≤1000000):Calls Tryz.prog 103 #[.string s] w fun e w'=>e= .returned (.bool (typeOK s.data.toList))∧w=w':=by
  go_enter Tryz.func103,Tryz.ntmps103;go_wp2_with fail;go_loop [3,4,5,8] (fun _ _ _ iv=> ∃k:Nat,k≤s.size∧iv= .int .i64 (k:Int)∧Hid (∀j (hj:j<s.size),j<k→tyAt j s[j])) (fun _ _ _ iv=>s.size- (intOf iv).toNat);case atStart=>exact⟨0,Nat.zero_le _,rfl,fun j hj h=>by omega⟩
  case round=>
    obtain⟨k,hk,rfl,hA⟩:=hrel;by_cases hlt:k<s.size
    · have hlt':(k:Int)<(s.size:Int):=(by omega);have HA:Hid (tyAt k (s[k]'hlt)→ ∀j (hj:j<s.size),j<k+1→tyAt j s[j]):=by
        intro ht j hj h;by_cases e:j=k
        · subst e;exact ht
        · exact hA.out j hj (by omega)
      have HN:Hid (¬tyAt k (s[k]'hlt)→false=typeOK s.data.toList):=fun h=>typeOK_no hlt h;obtain⟨c,hc⟩: ∃c,s[k]'hlt=c:=⟨_,rfl⟩;rw[hc]at HA HN;have hcn:=c.toNat_lt;go_wp2_with fail;all_goals first
        | (go_ret;exact⟨kt.ret_bool (HN.out (by unfold tyAt;omega)),rfl⟩)
        | (go_ret;exact⟨kt.ret_bool (HN.out (by unfold tyAt;simp only[Bool.not_eq_true',Bool.not_eq_false',Bool.or_eq_true,Bool.and_eq_true,Bool.or_eq_false_iff,Bool.and_eq_false_iff,decide_eq_true_eq,decide_eq_false_iff_not,beq_iff_eq,bne_iff_ne,bne_eq_false_iff_eq,beq_eq_false_iff_ne,ne_eq,Classical.not_not]at*;omega)),rfl⟩)
        | (go_round
           case rel=>exact⟨k+1,by omega,by go_num,HA.out (by unfold tyAt;first | omega | (simp only[Bool.not_eq_true',Bool.not_eq_false',Bool.or_eq_true,Bool.and_eq_true,Bool.or_eq_false_iff,Bool.and_eq_false_iff,decide_eq_true_eq,decide_eq_false_iff_not,beq_iff_eq,bne_iff_ne,bne_eq_false_iff_eq,beq_eq_false_iff_ne,ne_eq,Classical.not_not]at*;omega))⟩
           case measure=>simp[intOf];omega)
        | (exfalso;simp only[Bool.not_eq_true',Bool.not_eq_false',Bool.or_eq_true,Bool.and_eq_true,Bool.or_eq_false_iff,Bool.and_eq_false_iff,decide_eq_true_eq,decide_eq_false_iff_not,beq_iff_eq,bne_iff_ne,bne_eq_false_iff_eq,beq_eq_false_iff_ne,ne_eq,Classical.not_not]at*;omega)
    · obtain rfl:k=s.size:=(by omega);have HE:Hid (s.size≠0→s.size≤64→true=typeOK s.data.toList):=fun h0 h1=>typeOK_end (fun j hj=>hA.out j hj hj) h0 h1;have HL:Hid (s.size=0∨64<s.size→false=typeOK s.data.toList):=typeOK_len;clear hA;by_cases h0:s.size=0
      · obtain rfl:s=ByteArray.empty:=(by apply kt.str_eq;have:s.data.toList.length=0:=(by simpa using h0);rw[List.eq_nil_of_length_eq_zero this];rfl);clear h0;go_wp2_with fail;go_ret;exact⟨kt.ret_bool (HL.out (Or.inl rfl)),rfl⟩
      · have hne:s.data.toList≠[]:=(by intro e;have:=kt.size_len s;rw[e]at this;exact h0 this.symm);have hne2:s.toList.isEmpty=false:=by
          rw[Lib.toList_data];cases h:s.data.toList with
          | nil=>exact absurd h hne
          | cons a t=>rfl
        have hne3: ¬s.toList=[]:=(by rw[Lib.toList_data];exact hne);by_cases h1:s.size≤64
        · have h2:(s.size:Int)≤64:=(by omega);go_wp2_with fail;go_ret;exact⟨kt.ret_bool (HE.out h0 h1),rfl⟩
        · have h2:decide ((s.size:Int)≤64)=false:=(by rw[decide_eq_false_iff_not];omega);have h3:64<(s.size:Int):=(by omega);go_wp2_with fail;go_ret;exact⟨kt.ret_bool (HL.out (Or.inr (by omega))),rfl⟩
theorem plain_any (s:ByteArray)(w:World)(hs:s.size≤1000000):Calls Tryz.prog 168 #[.string s] w fun e w'=>e= .returned (.bool (plainOK s.data.toList))∧w=w':=by
  go_enter Tryz.func168,Tryz.ntmps168;go_wp2_with fail;go_loop [3,4,7] (fun _ _ iv=> ∃k:Nat,k≤s.size∧iv= .int .i64 (k:Int)∧Hid (∀j (hj:j<s.size),j<k→plAt j s[j])) (fun _ _ iv=>s.size- (intOf iv).toNat);case atStart=>exact⟨0,Nat.zero_le _,rfl,fun j hj h=>by omega⟩
  case round=>
    obtain⟨k,hk,rfl,hA⟩:=hrel;by_cases hlt:k<s.size
    · have hlt':(k:Int)<(s.size:Int):=(by omega);have HA:Hid (plAt k (s[k]'hlt)→ ∀j (hj:j<s.size),j<k+1→plAt j s[j]):=by
        intro ht j hj h;by_cases e:j=k
        · subst e;exact ht
        · exact hA.out j hj (by omega)
      have HN:Hid (¬plAt k (s[k]'hlt)→false=plainOK s.data.toList):=fun h=>plainOK_no hlt h;obtain⟨c,hc⟩: ∃c,s[k]'hlt=c:=⟨_,rfl⟩;rw[hc]at HA HN;have hcn:=c.toNat_lt;go_wp2_with fail;all_goals first
        | (go_ret;exact⟨kt.ret_bool (HN.out (by unfold plAt;omega)),rfl⟩)
        | (go_ret;exact⟨kt.ret_bool (HN.out (by unfold plAt;simp only[Bool.not_eq_true',Bool.not_eq_false',Bool.or_eq_true,Bool.and_eq_true,Bool.or_eq_false_iff,Bool.and_eq_false_iff,decide_eq_true_eq,decide_eq_false_iff_not,beq_iff_eq,bne_iff_ne,bne_eq_false_iff_eq,beq_eq_false_iff_ne,ne_eq,Classical.not_not]at*;omega)),rfl⟩)
        | (go_round
           case rel=>exact⟨k+1,by omega,by go_num,HA.out (by unfold plAt;first | omega | (simp only[Bool.not_eq_true',Bool.not_eq_false',Bool.or_eq_true,Bool.and_eq_true,Bool.or_eq_false_iff,Bool.and_eq_false_iff,decide_eq_true_eq,decide_eq_false_iff_not,beq_iff_eq,bne_iff_ne,bne_eq_false_iff_eq,beq_eq_false_iff_ne,ne_eq,Classical.not_not]at*;omega))⟩
           case measure=>simp[intOf];omega)
        | (exfalso;simp only[Bool.not_eq_true',Bool.not_eq_false',Bool.or_eq_true,Bool.and_eq_true,Bool.or_eq_false_iff,Bool.and_eq_false_iff,decide_eq_true_eq,decide_eq_false_iff_not,beq_iff_eq,bne_iff_ne,bne_eq_false_iff_eq,beq_eq_false_iff_ne,ne_eq,Classical.not_not]at*;omega)
    · obtain rfl:k=s.size:=(by omega);have HE:Hid (true=plainOK s.data.toList):=plainOK_end (fun j hj=>hA.out j hj hj);clear hA;go_wp2_with fail;go_ret;exact⟨kt.ret_bool HE.out,rfl⟩
end ldw
open Go.RowKit
def strLen:Value→Nat
 | .string s=>s.size
 | _=>0
theorem letter_at (n:Nat)(h:n<(ByteArray.mk #[65,66,67,68,69,70,71,72,73,74,75,76,77,78,79,80,81,82,83,84,85,86,87,88,89,90,97,98,99,100,101,102,103,104,105,106,107,108,109,110,111,112,113,114,115,116,117,118,119,120,121,122,48,49,50,51,52,53,54,55,56,57,43,47]).size):
  (ByteArray.mk #[65,66,67,68,69,70,71,72,73,74,75,76,77,78,79,80,81,82,83,84,85,86,87,88,89,90,97,98,99,100,101,102,103,104,105,106,107,108,109,110,111,112,113,114,115,116,117,118,119,120,121,122,48,49,50,51,52,53,54,55,56,57,43,47])[n]=b64p.letters.getD n 0:=by
 have h64:n<64:=h;have all: ∀m:Fin 64,(ByteArray.mk #[65,66,67,68,69,70,71,72,73,74,75,76,77,78,79,80,81,82,83,84,85,86,87,88,89,90,97,98,99,100,101,102,103,104,105,106,107,108,109,110,111,112,113,114,115,116,117,118,119,120,121,122,48,49,50,51,52,53,54,55,56,57,43,47])[m.val]'(m.isLt)=b64p.letters.getD m.val 0:=by decide
 exact all ⟨n,h64⟩
theorem nonempty (t:ByteArray)(h0: ¬t.size=0):t.data.toList≠[]:=by intro h;exact h0 (by rw[←kt.size_len,h];rfl)
theorem rest_data (t:ByteArray):(t.extract (min 3 (t.size:Int)).toNat t.size).data.toList=t.data.toList.drop 3:=by
 rw[Lib.extract_to_end];by_cases h:t.size<3
 ·rw[List.drop_eq_nil_of_le (by simp;omega),List.drop_eq_nil_of_le (by simp;omega)]
 ·rw[show(min 3 (t.size:Int)).toNat=3 from by omega]
theorem rest_size (t:ByteArray):(t.extract (min 3 (t.size:Int)).toNat t.size).size=t.size-3:=by rw[←kt.size_len,rest_data];simp
theorem getD_at (t:ByteArray)(j:Nat)(h:j<t.size):t.data.toList.getD j 0=t[j]:=by rw[List.getD,List.getElem?_eq_getElem (by simpa using h)];rfl
theorem getD_out (t:ByteArray)(j:Nat)(h: ¬j<t.size):t.data.toList.getD j 0=0:=by rw[List.getD,List.getElem?_eq_none (by simp;omega)];rfl
theorem encode_any (s:ByteArray)(w:World)(hs:s.size≤130000):
  Calls Tryz.prog 170 #[.string s] w fun e w'=>e= .returned (.string ⟨(b64p.enc s.data.toList).toArray⟩)∧Below w.heap.size w w':=by
 go_enter Tryz.func170,Tryz.ntmps170;go_wp2_with fail;go_loopw [0] (fun sv wr=> ∃ (t:ByteArray) (d:List UInt8),t.size≤130000∧sv= .string t∧Hid (d++b64p.enc t.data.toList=b64p.enc s.data.toList)∧bld.Is w.heap.size w.heap.size d wr∧Below w.heap.size w wr) (fun sv _=>strLen sv);case atStart=>exact⟨s,[],hs,rfl,rfl,bld.fresh w,(Below.refl _ _).alloc (Nat.le_refl _) _⟩
 case round=>
  obtain⟨t,d,ht,rfl,hE,hI,hB⟩:=hrel;by_cases h0:t.size=0
  ·have hem:t=ByteArray.empty:=kt.str_eq (List.eq_nil_of_length_eq_zero (by rw[kt.size_len];exact h0));subst hem;have hsz:=hB.size;have hI':=Lib.hid hI;clear hI;go_wp2_with fail;refine(Tryz.Builder_String_any _ _ _ _ hI'.out hsz).mono ?_;rintro e w1 ⟨rfl,hB1⟩;go_wp2;go_ret;have hh:=hE.out;rw[show ByteArray.empty.data.toList=[]from rfl,b64p.enc_nil,List.append_nil]at hh;exact⟨kt.ret_str (by rw[hh]),hB.trans hB1⟩
  ·have hne:t.toList.isEmpty=false:=by
    rw[Lib.toList_data];cases h:t.data.toList with
    | nil=>exact absurd (by rw[←kt.size_len,h];rfl) h0
    | cons a l=>rfl
   have hI':=Lib.hid hI;clear hI;have hd:d.length≤260002:=(by have h1:=(b64p.enc_length _ s.data.toList (Nat.le_refl _)).1;have h2:=congrArg List.length hE.out;rw[List.length_append]at h2;rw[kt.size_len]at h1;omega);go_wp2_with fail;go_loop [4,5,14] (fun n _ i=> ∃ (j N:Nat),j≤3∧i= .int .i64 j∧n= .int .i64 N∧N<16777216∧Hid (N=b64p.numAt t.data.toList j)) (fun _ _ i=>3- (intOf i).toNat);case atStart=>exact⟨0,0,by omega,rfl,rfl,by omega,rfl⟩
   case round=>
    obtain⟨j,N,hj,rfl,rfl,hN,hNe⟩:=hrel;by_cases hj3:j<3
    ·have hNj:N<65536:=(by have h1:=b64p.numAt_lt t.data.toList j;rw[←hNe.out]at h1;have h2:256 ^ j≤256 ^ 2:=Nat.pow_le_pow_right (by omega) (by omega);have h3:(256:Nat) ^ 2=65536:=(by decide);omega);by_cases hjs:j<t.size
     ·have hb:=t[j].toNat_lt;have e1:bits .or .i64 ((N:Int)*256) (t[j].toNat:Int)=((256*N+t[j].toNat:Nat):Int):=(by have h:=kt.i64_or_low 8 N t[j].toNat (by omega) (by omega);have p8:(2:Nat) ^ 8=256:=(by decide);rw[p8]at h;rw[←h,Int.mul_comm];rfl);go_wp2_with fail;go_round;case rel=>exact⟨j+1,256*N+t[j].toNat,by omega,by go_num,rfl,by omega,by show 256*N+t[j].toNat=_;rw[b64p.numAt,←hNe.out,getD_at t j hjs]⟩
      case measure=>simp[intOf];omega
     ·go_wp2_with fail;go_round;case rel=>exact⟨j+1,256*N,by omega,by go_num,by go_num,by omega,by show 256*N=_;rw[b64p.numAt,←hNe.out,getD_out t j hjs];rfl⟩
      case measure=>simp[intOf];omega
    ·obtain rfl:j=3:=(by omega);have hN3:=Lib.hid hNe.out;have hfl:=b64p.four_length t.data.toList;go_wp2_with fail;go_loopw [30] (fun i wq=> ∃ (j:Nat),j≤4∧i= .int .i64 j∧Hid (bld.Is w.heap.size w.heap.size (d++(b64p.four t.data.toList).take j) wq)∧Below w.heap.size w wq) (fun i _=>4- (intOf i).toNat);case atStart=>exact⟨0,by omega,rfl,by simpa using hI',hB⟩
     case round=>
      obtain⟨j,hj,rfl,hJ,hBq⟩:=hrel;have hszq:=hBq.size;have htk:((b64p.four t.data.toList).take j).length≤4:=(by rw[List.length_take];omega);by_cases hj4:j<4
      ·have hft:=b64p.four_take t.data.toList j hj4;have hft':=Lib.hid hft;clear hft;by_cases hjs:t.size<j
       ·go_wp2_with fail;refine(bld.writeByte_cell _ _ _ 61 _ hJ.out (by rw[List.length_append];omega) hszq).mono ?_;rintro e w1 ⟨rfl,hI1,hB1⟩;have hI1':=Lib.hid hI1;clear hI1;go_wp2_with fail;go_roundw;case rel=>
         refine⟨j+1,by omega,by go_num,?_,hBq.trans hB1⟩;have h:=hI1'.out;show bld.Is _ _ _ _;rw[hft'.out,b64p.sign,if_pos (by rw[kt.size_len];exact hjs),←List.append_assoc];exact h
        case measure=>simp[intOf];omega
       ·obtain⟨x,hx⟩: ∃x:Nat,Hid (x=N / 2 ^ (18-6*j) % 64):=⟨N / 2 ^ (18-6*j) % 64,rfl⟩;have hx64:x<64:=(by rw[hx.out];exact Nat.mod_lt _ (by omega));have e5:bits .and .i64 ((N:Int) / 2 ^ (18-6*j)) 63=(x:Int):=(by have h:=kt.i64_low 6 (N / 2 ^ (18-6*j)) (by decide) (Nat.lt_of_le_of_lt (Nat.div_le_self _ _) (by omega));rw[hx.out,show(64:Nat)=2 ^ 6 from rfl,←h,Int.natCast_ediv,Int.natCast_pow];rfl);go_wp2_with fail;refine(bld.writeByte_cell _ _ _ _ _ hJ.out (by rw[List.length_append];omega) hszq).mono ?_;rintro e w1 ⟨rfl,hI1,hB1⟩;have hI1':=Lib.hid hI1;clear hI1;go_wp2_with fail;go_roundw;case rel=>
         refine⟨j+1,by omega,by go_num,?_,hBq.trans hB1⟩;have h:=hI1'.out;rw[letter_at]at h;show bld.Is _ _ _ _;rw[hft'.out,b64p.sign,if_neg (by rw[kt.size_len];exact hjs),←List.append_assoc,b64p.lt,←hN3.out,←hx.out];exact h
        case measure=>simp[intOf];omega
      ·obtain rfl:j=4:=(by omega);go_wp2_with fail;go_roundw;case rel=>
        refine⟨_,d++b64p.four t.data.toList,?_,rfl,?_,?_,hBq⟩
        ·rw[rest_size];omega
        ·show(_:List UInt8)=_;rw[←hE.out,rest_data,b64p.enc_cons (nonempty t h0),List.append_assoc]
        ·have h:=hJ.out;rw[List.take_of_length_le (by rw[hfl];omega)]at h;exact h
       case measure=>show(t.extract _ _).size<t.size;rw[rest_size];omega
open Go.RowKit
theorem emptyRow (w:World)(e:TypeId):(w.alloc (.cells #[] e)).ownsRow w.heap.size e 1 (.slice (some ⟨w.heap.size,0,none⟩) 0 0) ([]:List Value).length []:=World.ownsRow_made w #[] 0 (Nat.le_refl _) (by unfold maxLen;omega) rfl
open Go.RowKit
def FourRes (o:Option (List UInt8))(B:Nat)(d:List UInt8)(w:World)(e:Ending)(w':World):Prop:=
 match o with
 | none=>e= .returned (.tuple #[.slice none 0 0,.bool false])∧Below w.heap.size w w'
 | some r=> ∃v,e= .returned (.tuple #[v,.bool true])∧w'.ownsRow B 5 1 v (Lib.byteCells (d++r)).length (Lib.byteCells (d++r))∧Below B w w'
theorem ix_any (c:UInt8)(w:World):Calls Tryz.prog 175 #[.string {data:=#[65,66,67,68,69,70,71,72,73,74,75,76,77,78,79,80,81,82,83,84,85,86,87,88,89,90,97,98,99,100,101,102,103,104,105,106,107,108,109,110,111,112,113,114,115,116,117,118,119,120,121,122,48,49,50,51,52,53,54,55,56,57,43,47]},.int .u8 (c.toNat:Int)] w fun e w'=>e= .returned (.int .i64 (b64p.idx c))∧w=w':=by refine(Tryz.strings_IndexByte _ (c.toNat:Int) w).mono ?_;rintro e w' ⟨rfl,rfl⟩;refine⟨kt.ret_int ?_,rfl⟩;unfold b64p.idx b64p.letters;rw[show(c.toNat:Int).toNat.toUInt8=c from by simp]
theorem four_any (t:ByteArray)(ht:t.size=4)(B:Nat)(v:Value)(d:List UInt8)(hd:d.length≤130000)(w:World)(hO:Hid (w.ownsRow B 5 1 v (Lib.byteCells d).length (Lib.byteCells d)))(hBw:B≤w.heap.size):
  Calls Tryz.prog 220 #[.string t,v] w (FourRes (b64p.fourD t.data.toList) B d w):=by
 go_enter Tryz.func220,Tryz.ntmps220;go_wp2_with fail;go_loop [6,7,11] (fun nv pv iv=> ∃ (i N p:Nat),i≤4∧iv= .int .i64 i∧nv= .int .i64 N∧pv= .int .i64 p∧p≤i∧Hid (N<64 ^ i)∧Hid (b64p.fRun (t.data.toList.drop i) N p=b64p.fRun t.data.toList 0 0)) (fun _ _ iv=>4- (intOf iv).toNat);case atStart=>exact⟨0,0,0,by omega,rfl,rfl,rfl,by omega,by show _<_;simp,rfl⟩
 case round=>
  obtain⟨i,N,p,hi,rfl,rfl,rfl,hp,hN,hR⟩:=hrel;by_cases hi4:i<4
  ·have hlt:i<t.size:=(by omega);have hN3:N<262144:=(by have h2:64 ^ i≤64 ^ 3:=Nat.pow_le_pow_right (by omega) (by omega);have h3:(64:Nat) ^ 3=262144:=(by decide);have:=hN.out;omega);have hdrop:t.data.toList.drop i=t[i]::t.data.toList.drop (i+1):=List.drop_eq_getElem_cons (by simpa using hlt);have hR2:=hR.out;rw[hdrop]at hR2;have HR:=Lib.hid hR2;clear hR2 hdrop;obtain⟨c,hc⟩: ∃c:UInt8,Hid (c=t[i]):=⟨t[i],rfl⟩;rw[←hc.out]at HR;obtain⟨x,hx⟩: ∃x:Int,Hid (x=b64p.idx c):=⟨_,rfl⟩;have hxb: -1≤x∧x≤63:=(by rw[hx.out];exact b64p.idx_le c);obtain⟨hx1,hx2⟩:=hxb;have C:Hid (∀W:World,Calls Tryz.prog 175 #[.string {data:=#[65,66,67,68,69,70,71,72,73,74,75,76,77,78,79,80,81,82,83,84,85,86,87,88,89,90,97,98,99,100,101,102,103,104,105,106,107,108,109,110,111,112,113,114,115,116,117,118,119,120,121,122,48,49,50,51,52,53,54,55,56,57,43,47]},.int .u8 (c.toNat:Int)] W fun e w'=>e= .returned (.int .i64 x)∧W=w'):=(by intro W;rw[hx.out];exact ix_any c W);have hce:t[i]=c:=hc.out.symm;by_cases hpad:c=61
   ·have q1:((c.toNat:Int)==61)=true:=(by rw[hpad];rfl);have q2:((c.toNat:Int) !=61)=false:=(by rw[hpad];rfl);have e1:bits .or .i64 ((N:Int)*64) 0=((64*N:Nat):Int):=(by have h:=kt.i64_or_low 6 N 0 (by omega) (by omega);rw[show(N:Int)*64=((2 ^ 6*N:Nat):Int)from by omega];exact h);have HP:=Lib.hid hpad;clear hpad;go_wp2_with fail;refine(C.out _).mono ?_;rintro e w' ⟨rfl,rfl⟩;go_wp2_with fail;go_round;case rel=>exact⟨i+1,64*N,p+1,by omega,by go_num,rfl,by go_num,by omega,by show _<_;have:=hN.out;rw[Nat.pow_succ];omega,by show _=_;rw[←HR.out,HP.out];simp only[b64p.fRun,if_true];rw[Nat.mul_comm]⟩
    case measure=>simp[intOf];omega
   ·have q1:((c.toNat:Int)==61)=false:=(by rw[beq_eq_false_iff_ne];intro h;apply hpad;apply UInt8.toNat_inj.1;show c.toNat=61;omega);have q2:((c.toNat:Int) !=61)=true:=(by rw[bne_iff_ne];intro h;apply hpad;apply UInt8.toNat_inj.1;show c.toNat=61;omega);have HP:=Lib.hid hpad;clear hpad;by_cases hbad:x<0∨0<p
    ·have hnone:b64p.fourD t.data.toList=none:=(by unfold b64p.fourD;rw[←HR.out];simp only[b64p.fRun];rw[if_neg HP.out,if_pos (by rw[←hx.out];exact hbad)]);have HN:=Lib.hid hnone;clear hnone;by_cases hx0:x<0
     ·clear hbad;go_wp2_with fail;refine(C.out _).mono ?_;rintro e w' ⟨rfl,rfl⟩;go_wp2_with fail;go_ret2;unfold FourRes;rw[HN.out];exact⟨rfl,Below.refl _ _⟩
     ·have hp0:0<p:=(by omega);clear hbad;go_wp2_with fail;refine(C.out _).mono ?_;rintro e w' ⟨rfl,rfl⟩;go_wp2_with fail;go_ret2;unfold FourRes;rw[HN.out];exact⟨rfl,Below.refl _ _⟩
    ·have hx0:0≤x:=(by omega);have hp0:p=0:=(by omega);have HB:=Lib.hid hbad;clear hbad;subst hp0;obtain⟨X,rfl⟩:=Int.eq_ofNat_of_zero_le hx0;have e1:bits .or .i64 ((N:Int)*64) (X:Int)=((64*N+X:Nat):Int):=(by have h:=kt.i64_or_low 6 N X (by omega) (by omega);rw[show(N:Int)*64=((2 ^ 6*N:Nat):Int)from by omega];exact h);go_wp2_with fail;refine(C.out _).mono ?_;rintro e w' ⟨rfl,rfl⟩;go_wp2_with fail;go_round;case rel=>exact⟨i+1,64*N+X,0,by omega,by go_num,rfl,rfl,by omega,by show _<_;have:=hN.out;rw[Nat.pow_succ];omega,by show _=_;rw[←HR.out];simp only[b64p.fRun];rw[if_neg HP.out,if_neg (by rw[←hx.out];exact HB.out),←hx.out,Nat.mul_comm];rfl⟩
     case measure=>simp[intOf];omega
  ·obtain rfl:i=4:=(by omega);have hfin:b64p.fRun t.data.toList 0 0=some (N,p):=(by rw[←hR.out,List.drop_of_length_le (by rw[kt.size_len];omega)];rfl);have hN4:N<16777216:=(by have h3:(64:Nat) ^ 4=16777216:=(by decide);have:=hN.out;omega);by_cases hp2:2<p
   ·have hnone:b64p.fourD t.data.toList=none:=(by unfold b64p.fourD;rw[hfin];simp only[];rw[if_pos hp2]);have HN:=Lib.hid hnone;clear hnone hfin;go_wp2_with fail;go_ret2;unfold FourRes;rw[HN.out];exact⟨rfl,Below.refl _ _⟩
   ·have hsome:b64p.fourD t.data.toList=some ((b64p.three N).take (3-p)):=(by unfold b64p.fourD;rw[hfin];simp only[];rw[if_neg hp2]);have HS:=Lib.hid hsome;clear hsome hfin;have q0:((UInt8.ofNat (N / 65536)).toNat:Int)=(N:Int) / 65536:=(by rw[UInt8.toNat_ofNat'];omega);have q1:((UInt8.ofNat (N / 256)).toNat:Int)=(N:Int) / 256 % 256:=(by rw[UInt8.toNat_ofNat'];omega);have q2:((UInt8.ofNat N).toNat:Int)=(N:Int) % 256:=(by rw[UInt8.toNat_ofNat'];omega);obtain⟨m,hm⟩: ∃m:Nat,Hid (m=3-p):=⟨3-p,rfl⟩;have hm3:m≤3:=(by have:=hm.out;omega);have em:(3:Int)- (p:Int)=(m:Int):=(by have:=hm.out;omega);obtain⟨v',w1,hap,hO1,hg1,hB1⟩:=kt.appN (P:=Tryz.prog) (ty:=131) (w:=w.alloc (.cells #[.int .u8 ((N:Int) / 65536),.int .u8 ((N:Int) / 256 % 256),.int .u8 ((N:Int) % 256)] 5)) Tryz.underlying131 bld.infoByte rfl ⟨w.heap.size,0,none⟩ m 3 (Lib.byteCells ((b64p.three N).take m))
     (by rw[Lib.byteCells_length,List.length_take];simp[b64p.three];omega)
     (fun j u hj=>by
      have e:(⟨w.heap.size,0,none⟩:Addr).add j=⟨w.heap.size,j,none⟩:=by
       unfold Addr.add;split
       ·rename_i hj0;rw[hj0]
       ·simp
      rw[e,World.cell?_alloc_new,←q0,←q1,←q2];have hjm:j<m:=(by have:=(List.getElem?_eq_some_iff.1 hj).1;rw[Lib.byteCells_length,List.length_take]at this;omega);have h3:(Lib.byteCells (b64p.three N))[j]? =some u:=(by rw[←hj];unfold Lib.byteCells;rw[List.getElem?_map,List.getElem?_map,List.getElem?_take,if_pos hjm]);rw[←h3]
      match j,hjm,hm3 with
      | 0,_,_=>rfl
      | 1,_,_=>rfl
      | 2,_,_=>rfl
      | j+3,h,_=>omega)
     (fun u hu=>by simp only[Lib.byteCells,List.mem_map]at hu;obtain⟨x,_,rfl⟩:=hu;rfl)
     (hO.out.alloc _) (by rw[Lib.byteCells_length];unfold maxLen;omega) (by rw[Lib.byteCells_length];omega) (by simp;omega)
    have HO1:=Lib.hid hO1;have HG1:=Lib.hid hg1;clear hO1 hg1 q0 q1 q2;go_wp2_with (at_builtin;refine Lib.wpList_append_run _ rfl _ _ _ _ rfl _ _ rfl rfl _ _ hap ?_);go_ret2;unfold FourRes;rw[HS.out];refine⟨_,rfl,?_,((Below.refl _ _).alloc hBw _).trans hB1⟩;rw[Lib.byteCells_append,←hm.out];exact HO1.out
end Go.Proofs.YtmnpfkbjpeaemaaGreatDoor
