/- One text out of several: NumV, FindW, PhoneW, Trim, TupW, DPrintW, KeyW, KeysW, FormW, RPhoneW, PartR. -/
import Derived.Test.YtmnpfkbjpeaemaaGreatDoorR2
import Derived.Test.YtmnpfkbjpeaemaaGreatDoorR5
import Derived.Deep.MidRow
import Derived.Test.YtmnpfkbjpeaemaaGreatDoorR1
import Derived.Test.YtmnpfkbjpeaemaaGreatDoorR4
import Derived.Test.YtmnpfkbjpeaemaaGreatDoorR3
import Derived.Sort.OwnSorted
set_option linter.unusedVariables false
set_option linter.unusedSimpArgs false
set_option maxRecDepth 20000
set_option maxHeartbeats 8000000
namespace Go.Proofs.YtmnpfkbjpeaemaaGreatDoor
open Go.RowKit
namespace atw
open atp
theorem str_ne {s:ByteArray}(h:0<s.size):s.toList.isEmpty=false∧ ¬s.toList=[]:=by rw[Lib.toList_data];obtain⟨t,ht⟩:=ne_s h;rw[ht];exact⟨rfl,by simp⟩
theorem pre_one (l:List UInt8)(c:UInt8):Lib.hasPrefix l [c]=decide (l.head?=some c):=by
 unfold Lib.hasPrefix;cases l with
 | nil=>simp[List.isPrefixOf]
 | cons d t=>simp only[List.isPrefixOf,Bool.and_true,List.head?_cons,Option.some.injEq];rw[Bool.eq_iff_iff,beq_iff_eq,decide_eq_true_iff];exact eq_comm
theorem trim_45 (l:List UInt8):Lib.trimPrefix l [45]=bare l:=by
 unfold Lib.trimPrefix bare;rw[pre_one];by_cases h:l.head?=some 45
 ·rw[if_pos (by simpa using h),if_pos h];simp
 ·rw[if_neg (by simpa using h),if_neg h]
theorem number_any (s:ByteArray)(w:World)(hs:s.size≤1100000):Calls Tryz.prog 291 #[.string s] w fun e w'=>e= .returned (.bool (numOK s.data.toList))∧w=w':=by
  obtain⟨x,hx⟩: ∃x,x=bs (bare s.data.toList):=⟨_,rfl⟩;have HBX:Hid (bare s.data.toList=x.data.toList):=by rw[hx];rfl
  have hxs:x.size≤1100000:=by
    rw[hx,bs_size];unfold bare;split
    · rw[List.length_tail,kt.size_len];omega
    · rw[kt.size_len];exact hs
  have HTP:Hid (∀w,Calls Tryz.prog 315 #[.string s,.string ⟨#[45]⟩] w fun e w'=>e= .returned (.string x)∧w=w'):=by intro w;refine(Tryz.strings_TrimPrefix s ⟨#[45]⟩ w).mono ?_;rintro e w' ⟨rfl,rfl⟩;refine⟨?_,rfl⟩;rw[hx];show Ending.returned (.string (bs (Lib.trimPrefix s.data.toList [45])))=_;rw[trim_45]
  clear hx;by_cases h0:s.data.toList=[48]
  · have hne:=trivial;have hbx:bare s.data.toList=x.data.toList:=HBX.out;have hxs1:x.data.toList=[48]:=(by rw[←hbx,h0];rfl);have hx1s:x.size=1:=(by rw[←kt.size_len,hxs1];rfl);have hxp:0<x.size:=(by omega);obtain⟨xe1,xe2⟩:=str_ne hxp;have hxpI:(0:Int)<(x.size:Int):=(by omega);have hx1:decide ((18:Int)<(x.size:Int))=false:=(by rw[decide_eq_false_iff_not];omega);obtain⟨c0,hc0⟩: ∃c,x[0]'hxp=c:=⟨_,rfl⟩;have hc48:c0=48:=(by have:=head_s hxp;rw[hxs1,hc0]at this;simpa using this.symm);have q:((c0.toNat:Int)==48)=true:=(by rw[hc48];rfl);have q0:(s.toList==[48])=true:=(by rw[Lib.toList_data,h0];rfl);have HNY:Hid (true=numOK s.data.toList):=(by rw[h0];exact(by decide:true=numOK [48]));have HB:Hid (∀k (hk:k<x.size),¬ (48≤(x[k].toNat:Int)∧(x[k].toNat:Int)≤57)→false=numOK s.data.toList):=(by intro k hk h;exfalso;obtain rfl:k=0:=(by omega);rw[hc0,hc48]at h;exact h (by decide));have HY:Hid ((∀k (hk:k<x.size),48≤(x[k].toNat:Int)∧(x[k].toNat:Int)≤57)→true=numOK s.data.toList):=fun _=>HNY.out;have hxs9:=Lib.hid hx1s;clear h0 hxs1 hx1s hc48 hbx hne;go_enter Tryz.func291,Tryz.ntmps291;go_wp2_with fail;refine(HTP.out _).mono ?_;rintro e w1 ⟨rfl,rfl⟩;go_wp2_with fail;go_loop [4,25] (fun _ iv=> ∃k:Nat,k≤x.size∧iv= .int .i64 (k:Int)∧Hid (∀j (hj:j<x.size),j<k→48≤(x[j].toNat:Int)∧(x[j].toNat:Int)≤57)) (fun _ iv=>x.size- (intOf iv).toNat);case atStart=>exact⟨0,Nat.zero_le _,rfl,fun j hj h=>by omega⟩
    case round=>
      obtain⟨k,hk,rfl,hA⟩:=hrel;by_cases hlt:k<x.size
      · have hlt':(k:Int)<(x.size:Int):=(by omega);have HA:Hid (48≤((x[k]'hlt).toNat:Int)∧((x[k]'hlt).toNat:Int)≤57→ ∀j (hj:j<x.size),j<k+1→48≤(x[j].toNat:Int)∧(x[j].toNat:Int)≤57):=by
          intro ht j hj h;by_cases e:j=k
          · subst e;exact ht
          · exact hA.out j hj (by omega)
        have HN:=Lib.hid (HB.out k hlt);clear hc0;obtain⟨c,hc⟩: ∃c,x[k]'hlt=c:=⟨_,rfl⟩;rw[hc]at HA HN;have hcn:=c.toNat_lt;go_wp2_with fail;all_goals first
          | (go_ret;exact⟨kt.ret_bool (HN.out (by omega)),rfl⟩)
          | (go_round
             case rel=>exact⟨k+1,by omega,by go_num,HA.out (by omega)⟩
             case measure=>simp[intOf];omega)
          | (exfalso;simp only[Bool.not_eq_true',Bool.not_eq_false',Bool.or_eq_true,Bool.and_eq_true,Bool.or_eq_false_iff,Bool.and_eq_false_iff,decide_eq_true_eq,decide_eq_false_iff_not,beq_iff_eq,bne_iff_ne,bne_eq_false_iff_eq,beq_eq_false_iff_ne,ne_eq,Classical.not_not]at*;omega)
      · obtain rfl:k=x.size:=(by omega);have HE:=Lib.hid (HY.out (fun j hj=>hA.out j hj hj));clear hc0;go_wp2_with fail;go_ret;exact⟨kt.ret_bool HE.out,rfl⟩
  · have hne:=h0;have hbx:bare s.data.toList=x.data.toList:=HBX.out;have q0:(s.toList==[48])=false:=(by rw[Lib.toList_data];simpa using h0);clear h0;by_cases hx0:x.size=0
    · have HF:=Lib.hid (num_len hne (Or.inl (by rw[hbx,kt.size_len];exact hx0)));have hx1:x.toList=[]:=(by rw[zero_s hx0,Lib.toList_data];rfl);clear hx0 hbx hne;go_enter Tryz.func291,Tryz.ntmps291;go_wp2_with fail;refine(HTP.out _).mono ?_;rintro e w1 ⟨rfl,rfl⟩;go_wp2_with fail;go_ret;exact⟨kt.ret_bool HF.out,rfl⟩
    by_cases hx18:18<x.size
    · have HF:=Lib.hid (num_len hne (Or.inr (by rw[hbx,kt.size_len];exact hx18)));have hx1:(18:Int)<(x.size:Int):=(by omega);obtain⟨xe1,xe2⟩:=str_ne (s:=x) (by omega);clear hx0 hx18 hbx hne;go_enter Tryz.func291,Tryz.ntmps291;go_wp2_with fail;refine(HTP.out _).mono ?_;rintro e w1 ⟨rfl,rfl⟩;go_wp2_with fail;go_ret;exact⟨kt.ret_bool HF.out,rfl⟩
    have hxp:0<x.size:=(by omega);obtain⟨xe1,xe2⟩:=str_ne hxp;have hxpI:(0:Int)<(x.size:Int):=(by omega);have hx1:decide ((18:Int)<(x.size:Int))=false:=(by rw[decide_eq_false_iff_not];omega);have hx2:decide ((x.size:Int)<1)=false:=(by rw[decide_eq_false_iff_not];omega);obtain⟨c0,hc0⟩: ∃c,x[0]'hxp=c:=⟨_,rfl⟩;by_cases h48:(c0.toNat:Int)=48
    · have HF:=Lib.hid (num_zero hne (by rw[hbx,head_s hxp,hc0,u8_of (n:=48) (by omega) h48];rfl));have q:((c0.toNat:Int)==48)=true:=(by rw[beq_iff_eq];exact h48);clear hx0 hx18 hbx hne h48;go_enter Tryz.func291,Tryz.ntmps291;go_wp2_with fail;refine(HTP.out _).mono ?_;rintro e w1 ⟨rfl,rfl⟩;go_wp2_with fail;go_ret;exact⟨kt.ret_bool HF.out,rfl⟩
    have q:((c0.toNat:Int)==48)=false:=(by rw[beq_eq_false_iff_ne];exact h48);have HB:Hid (∀k (hk:k<x.size),¬ (48≤(x[k].toNat:Int)∧(x[k].toNat:Int)≤57)→false=numOK s.data.toList):=fun k hk h=>num_bad hne (by rw[hbx];exact mem_s hk) h;have HY:Hid ((∀k (hk:k<x.size),48≤(x[k].toNat:Int)∧(x[k].toNat:Int)≤57)→true=numOK s.data.toList):=(by intro h;refine num_yes hne (by rw[hbx,kt.size_len];omega) (by rw[hbx,kt.size_len];omega) (by rw[hbx,head_s hxp,hc0];intro e;apply h48;rw[Option.some.injEq]at e;rw[e];rfl) ?_;intro c hc;rw[hbx]at hc;obtain⟨k,hk,rfl⟩:=List.mem_iff_getElem.1 hc;exact h k (by simpa using hk));clear hx0 hx18 hbx hne h48;go_enter Tryz.func291,Tryz.ntmps291;go_wp2_with fail;refine(HTP.out _).mono ?_;rintro e w1 ⟨rfl,rfl⟩;go_wp2_with fail;go_loop [4,25] (fun _ iv=> ∃k:Nat,k≤x.size∧iv= .int .i64 (k:Int)∧Hid (∀j (hj:j<x.size),j<k→48≤(x[j].toNat:Int)∧(x[j].toNat:Int)≤57)) (fun _ iv=>x.size- (intOf iv).toNat);case atStart=>exact⟨0,Nat.zero_le _,rfl,fun j hj h=>by omega⟩
    case round=>
      obtain⟨k,hk,rfl,hA⟩:=hrel;by_cases hlt:k<x.size
      · have hlt':(k:Int)<(x.size:Int):=(by omega);have HA:Hid (48≤((x[k]'hlt).toNat:Int)∧((x[k]'hlt).toNat:Int)≤57→ ∀j (hj:j<x.size),j<k+1→48≤(x[j].toNat:Int)∧(x[j].toNat:Int)≤57):=by
          intro ht j hj h;by_cases e:j=k
          · subst e;exact ht
          · exact hA.out j hj (by omega)
        have HN:=Lib.hid (HB.out k hlt);clear hc0;obtain⟨c,hc⟩: ∃c,x[k]'hlt=c:=⟨_,rfl⟩;rw[hc]at HA HN;have hcn:=c.toNat_lt;go_wp2_with fail;all_goals first
          | (go_ret;exact⟨kt.ret_bool (HN.out (by omega)),rfl⟩)
          | (go_round
             case rel=>exact⟨k+1,by omega,by go_num,HA.out (by omega)⟩
             case measure=>simp[intOf];omega)
          | (exfalso;simp only[Bool.not_eq_true',Bool.not_eq_false',Bool.or_eq_true,Bool.and_eq_true,Bool.or_eq_false_iff,Bool.and_eq_false_iff,decide_eq_true_eq,decide_eq_false_iff_not,beq_iff_eq,bne_iff_ne,bne_eq_false_iff_eq,beq_eq_false_iff_ne,ne_eq,Classical.not_not]at*;omega)
      · obtain rfl:k=x.size:=(by omega);have HE:=Lib.hid (HY.out (fun j hj=>hA.out j hj hj));clear hc0;go_wp2_with fail;go_ret;exact⟨kt.ret_bool HE.out,rfl⟩
end atw
open Go.RowKit
namespace atw
open atp
def tval (t:Ty):List Value:=[.string (bs t.name),.int .i64 t.syn,.bool t.single]
def tcells:List Value:=tys.flatMap tval
def TyEnv (w:World):Prop:=w.rangeAt 0 0 tcells
theorem tyEnv_below {w w':World}(h:TyEnv w)(hb:Below w.heap.size w w'):TyEnv w':=fun j u hj=>(hb.cell (World.block_lt_of_cell? w _ (h j u hj))).trans (h j u hj)
theorem tinfo:(Tryz.prog.info? 169).map (·.size)=some tcells.length:=by kernel_rfl
theorem tix0 (w:World):(Instr.index 169 (.agg tcells.toArray) (.int .i64 (0:Nat))).run Tryz.prog w= .ok (.agg (tval (tys[0]'(by decide))).toArray) w:=by kernel_rfl
theorem tix1 (w:World):(Instr.index 169 (.agg tcells.toArray) (.int .i64 (1:Nat))).run Tryz.prog w= .ok (.agg (tval (tys[1]'(by decide))).toArray) w:=by kernel_rfl
theorem tix2 (w:World):(Instr.index 169 (.agg tcells.toArray) (.int .i64 (2:Nat))).run Tryz.prog w= .ok (.agg (tval (tys[2]'(by decide))).toArray) w:=by kernel_rfl
theorem tix3 (w:World):(Instr.index 169 (.agg tcells.toArray) (.int .i64 (3:Nat))).run Tryz.prog w= .ok (.agg (tval (tys[3]'(by decide))).toArray) w:=by kernel_rfl
theorem tix4 (w:World):(Instr.index 169 (.agg tcells.toArray) (.int .i64 (4:Nat))).run Tryz.prog w= .ok (.agg (tval (tys[4]'(by decide))).toArray) w:=by kernel_rfl
theorem tix5 (w:World):(Instr.index 169 (.agg tcells.toArray) (.int .i64 (5:Nat))).run Tryz.prog w= .ok (.agg (tval (tys[5]'(by decide))).toArray) w:=by kernel_rfl
theorem tix6 (w:World):(Instr.index 169 (.agg tcells.toArray) (.int .i64 (6:Nat))).run Tryz.prog w= .ok (.agg (tval (tys[6]'(by decide))).toArray) w:=by kernel_rfl
theorem tix7 (w:World):(Instr.index 169 (.agg tcells.toArray) (.int .i64 (7:Nat))).run Tryz.prog w= .ok (.agg (tval (tys[7]'(by decide))).toArray) w:=by kernel_rfl
theorem tix8 (w:World):(Instr.index 169 (.agg tcells.toArray) (.int .i64 (8:Nat))).run Tryz.prog w= .ok (.agg (tval (tys[8]'(by decide))).toArray) w:=by kernel_rfl
theorem tix9 (w:World):(Instr.index 169 (.agg tcells.toArray) (.int .i64 (9:Nat))).run Tryz.prog w= .ok (.agg (tval (tys[9]'(by decide))).toArray) w:=by kernel_rfl
theorem tix10 (w:World):(Instr.index 169 (.agg tcells.toArray) (.int .i64 (10:Nat))).run Tryz.prog w= .ok (.agg (tval (tys[10]'(by decide))).toArray) w:=by kernel_rfl
theorem tix11 (w:World):(Instr.index 169 (.agg tcells.toArray) (.int .i64 (11:Nat))).run Tryz.prog w= .ok (.agg (tval (tys[11]'(by decide))).toArray) w:=by kernel_rfl
theorem tix12 (w:World):(Instr.index 169 (.agg tcells.toArray) (.int .i64 (12:Nat))).run Tryz.prog w= .ok (.agg (tval (tys[12]'(by decide))).toArray) w:=by kernel_rfl
theorem tix13 (w:World):(Instr.index 169 (.agg tcells.toArray) (.int .i64 (13:Nat))).run Tryz.prog w= .ok (.agg (tval (tys[13]'(by decide))).toArray) w:=by kernel_rfl
theorem tix14 (w:World):(Instr.index 169 (.agg tcells.toArray) (.int .i64 (14:Nat))).run Tryz.prog w= .ok (.agg (tval (tys[14]'(by decide))).toArray) w:=by kernel_rfl
theorem tix15 (w:World):(Instr.index 169 (.agg tcells.toArray) (.int .i64 (15:Nat))).run Tryz.prog w= .ok (.agg (tval (tys[15]'(by decide))).toArray) w:=by kernel_rfl
theorem tix16 (w:World):(Instr.index 169 (.agg tcells.toArray) (.int .i64 (16:Nat))).run Tryz.prog w= .ok (.agg (tval (tys[16]'(by decide))).toArray) w:=by kernel_rfl
theorem tix17 (w:World):(Instr.index 169 (.agg tcells.toArray) (.int .i64 (17:Nat))).run Tryz.prog w= .ok (.agg (tval (tys[17]'(by decide))).toArray) w:=by kernel_rfl
theorem tix18 (w:World):(Instr.index 169 (.agg tcells.toArray) (.int .i64 (18:Nat))).run Tryz.prog w= .ok (.agg (tval (tys[18]'(by decide))).toArray) w:=by kernel_rfl
theorem tix19 (w:World):(Instr.index 169 (.agg tcells.toArray) (.int .i64 (19:Nat))).run Tryz.prog w= .ok (.agg (tval (tys[19]'(by decide))).toArray) w:=by kernel_rfl
theorem tix (i:Nat)(hi:i<20)(w:World):(Instr.index 169 (.agg tcells.toArray) (.int .i64 (i:Int))).run Tryz.prog w= .ok (.agg (tval (tys[i]'hi)).toArray) w:=by
 match i,hi with
 | 0,_=>exact tix0 w
 | 1,_=>exact tix1 w
 | 2,_=>exact tix2 w
 | 3,_=>exact tix3 w
 | 4,_=>exact tix4 w
 | 5,_=>exact tix5 w
 | 6,_=>exact tix6 w
 | 7,_=>exact tix7 w
 | 8,_=>exact tix8 w
 | 9,_=>exact tix9 w
 | 10,_=>exact tix10 w
 | 11,_=>exact tix11 w
 | 12,_=>exact tix12 w
 | 13,_=>exact tix13 w
 | 14,_=>exact tix14 w
 | 15,_=>exact tix15 w
 | 16,_=>exact tix16 w
 | 17,_=>exact tix17 w
 | 18,_=>exact tix18 w
 | 19,_=>exact tix19 w
 | n+20,h=>exact absurd h (by omega)
def resT:Option Ty→Value
 | some t=> .tuple #[.agg #[.string (bs t.name),.int .i64 t.syn,.bool t.single],.bool true]
 | none=> .tuple #[.agg #[.string ⟨#[]⟩,.int .i64 0,.bool false],.bool false]
def AC (w:World)(p:Nat):Prop:= ∃x i b,w.heap[p]? =some (.cells #[.string x,.int .i64 i,.bool b] 108 (0,0))
theorem ac_lt {w:World}{p:Nat}(h:AC w p):p<w.heap.size:=by obtain⟨x,i,b,h⟩:=h;exact kt.bld_lt h
theorem ac_below {w w':World}{p:Nat}(h:AC w p)(hb:Below w.heap.size w w'):AC w' p:=by have hlt:=ac_lt h;obtain⟨x,i,b,h⟩:=h;exact⟨x,i,b,(hb.block p hlt).trans h⟩
theorem ac_cells {w:World}{p:Nat}(h:AC w p):(∃x,w.cell? ⟨p,0,none⟩=some (.string x))∧(∃i,w.cell? ⟨p,1,none⟩=some (.int .i64 i))∧(∃b,w.cell? ⟨p,2,none⟩=some (.bool b))∧w.frozen? ⟨p,0,none⟩=false∧w.frozen? ⟨p,1,none⟩=false∧w.frozen? ⟨p,2,none⟩=false:=by obtain⟨x,i,b,h⟩:=h;exact⟨⟨x,by rw[Lib.cell_of_heap h];rfl⟩,⟨i,by rw[Lib.cell_of_heap h];rfl⟩,⟨b,by rw[Lib.cell_of_heap h];rfl⟩,Lib.frozen_of_heap h 0,Lib.frozen_of_heap h 1,Lib.frozen_of_heap h 2⟩
theorem ac_new (w:World)(x:ByteArray)(i:Int)(b:Bool):AC (w.alloc (.cells #[.string x,.int .i64 i,.bool b] 108)) w.heap.size:=⟨x,i,b,heap_alloc_new w _⟩
theorem ac_store {w:World}{p:Nat}(h:AC w p)(a b c:Value):(((w.setCell ⟨p,0,none⟩ a).setCell ⟨p,1,none⟩ b).setCell ⟨p,2,none⟩ c).cell? ⟨p,0,none⟩=some a∧(((w.setCell ⟨p,0,none⟩ a).setCell ⟨p,1,none⟩ b).setCell ⟨p,2,none⟩ c).cell? ⟨p,1,none⟩=some b∧(((w.setCell ⟨p,0,none⟩ a).setCell ⟨p,1,none⟩ b).setCell ⟨p,2,none⟩ c).cell? ⟨p,2,none⟩=some c:=by
 obtain⟨⟨x,h0⟩,⟨y,h1⟩,⟨z,h2⟩,_⟩:=ac_cells h;have n01:(⟨p,0,none⟩:Addr)≠⟨p,1,none⟩:=by intro hh;injection hh with _ h _;cases h
 have n02:(⟨p,0,none⟩:Addr)≠⟨p,2,none⟩:=by intro hh;injection hh with _ h _;cases h
 have n12:(⟨p,1,none⟩:Addr)≠⟨p,2,none⟩:=by intro hh;injection hh with _ h _;cases h
 have k0:=World.cell?_setCell_same w ⟨p,0,none⟩ a h0;have k1:(w.setCell ⟨p,0,none⟩ a).cell? ⟨p,1,none⟩=some (.int .i64 y):=by rw[World.cell?_setCell_other _ _ _ _ n01,h1]
 have k2:(w.setCell ⟨p,0,none⟩ a).cell? ⟨p,2,none⟩=some (.bool z):=by rw[World.cell?_setCell_other _ _ _ _ n02,h2]
 have m1:=World.cell?_setCell_same _ ⟨p,1,none⟩ b k1;have m0:((w.setCell ⟨p,0,none⟩ a).setCell ⟨p,1,none⟩ b).cell? ⟨p,0,none⟩=some a:=by rw[World.cell?_setCell_other _ _ _ _ n01.symm,k0]
 have m2:((w.setCell ⟨p,0,none⟩ a).setCell ⟨p,1,none⟩ b).cell? ⟨p,2,none⟩=some (.bool z):=by rw[World.cell?_setCell_other _ _ _ _ n12,k2]
 refine⟨?_,?_,World.cell?_setCell_same _ _ _ m2⟩
 ·rw[World.cell?_setCell_other _ _ _ _ n02.symm,m0]
 ·rw[World.cell?_setCell_other _ _ _ _ n12.symm,m1]
theorem below_put3 {B:Nat}{w w':World}(h:Below B w w'){p:Nat}(hp:B≤p)(a b c:Value):Below B w (((w'.setCell ⟨p,0,none⟩ a).setCell ⟨p,1,none⟩ b).setCell ⟨p,2,none⟩ c):=((h.setCell (p:=⟨p,0,none⟩) hp a).setCell (p:=⟨p,1,none⟩) hp b).setCell (p:=⟨p,2,none⟩) hp c
theorem bs_beq (a b:List UInt8):((bs a).toList==(bs b).toList)=decide (a=b):=by rw[Lib.toList_data,Lib.toList_data,bs_data,bs_data,Bool.eq_iff_iff,beq_iff_eq,decide_eq_true_iff]
theorem find_any (s:ByteArray)(w:World)(hs:s.size≤10000000)(hE:Hid (TyEnv w)):
  Calls Tryz.prog 74 #[.string s] w fun e w'=>e= .returned (resT (findS (sml.lowL s.data.toList)))∧Below w.heap.size w w':=by
 obtain⟨n,hn⟩: ∃n,n=sml.lowL s.data.toList:=⟨_,rfl⟩;have HL:Hid (∀w,Calls Tryz.prog 135 #[.string s] w fun e w'=>e= .returned (.string (bs n))∧Below w.heap.size w w'):=fun w=>by rw[hn];exact lower_any s w hs
 rw[←hn];clear hn;obtain⟨cs,hcs⟩: ∃cs:List Value,Hid (cs=tcells):=⟨_,rfl⟩;have HIX:Hid (∀ (i:Nat) (hi:i<20) w,(Instr.index 169 (.agg cs.toArray) (.int .i64 (i:Int))).run Tryz.prog w= .ok (.agg #[.string (bs (tys[i]'hi).name),.int .i64 (tys[i]'hi).syn,.bool (tys[i]'hi).single]) w):=by rw[hcs.out];exact tix
 have HPC0:=Lib.hid (ac_new w ByteArray.empty 0 false);have HTI:Hid ((Tryz.prog.info? 169).map (·.size)=some cs.length):=by rw[hcs.out];exact tinfo
 have HTE:Hid (∀w',Below w.heap.size w w'→w'.rangeAt 0 0 cs):=by rw[hcs.out];exact fun w' h=>tyEnv_below hE.out h
 clear hcs;go_enter Tryz.func74,Tryz.ntmps74;go_wp2_with fail;refine(HL.out _).mono ?_;rintro e w1 ⟨rfl,hB1⟩;have HPC1:=Lib.hid (ac_below HPC0.out hB1);have HB1:Hid (Below w.heap.size w w1):=((Below.refl _ w).alloc (Nat.le_refl _) _).trans (hB1.mono (by simp));have hw1:w.heap.size<w1.heap.size:=ac_lt HPC1.out;have hr:=HTE.out w1 HB1.out;clear hB1;go_wp2_with (refine wpList_load_mid rfl 169 _ rfl 0 0 rfl cs _ hr Tryz.underlying169 rfl HTI.out ?_);clear hr;go_loopw [9] (fun iv wr=> ∃i:Nat,i≤20∧iv= .int .i64 (i:Int)∧Hid (∀j (hj:j<tys.length),j<i→tys[j].name≠n)∧Hid (AC wr w.heap.size)∧Hid (Below w.heap.size w wr)) (fun iv _=>20- (intOf iv).toNat);case atStart=>exact⟨0,by omega,rfl,fun j hj h=>by omega,HPC1,HB1⟩
 case round=>
  obtain⟨i,hi,rfl,hN,hA,hB⟩:=hrel;have hwr:w.heap.size<wr.heap.size:=ac_lt hA.out;by_cases hlt:i<20
  ·have hlt':(i:Int)<20:=(by omega);have hix:=HIX.out i hlt;have HS:=Lib.hid (findS_at i hlt);have HNX:Hid ((tys[i]'hlt).name≠n→ ∀j (hj:j<tys.length),j<i+1→tys[j].name≠n):=by
    intro h j hj hji;by_cases e:j=i
    ·subst e;exact h
    ·exact hN.out j hj (by omega)
   generalize(tys[i]'hlt)=t at hix HS HNX;have hbeq:=bs_beq t.name n;have HAX:Hid (AC (wr.alloc (.cells #[.string (bs t.name),.int .i64 t.syn,.bool t.single] 108)) w.heap.size):=ac_below hA.out ((Below.refl _ _).alloc (Nat.le_refl _) _);have HBX:Hid (Below w.heap.size w (wr.alloc (.cells #[.string (bs t.name),.int .i64 t.syn,.bool t.single] 108))):=hB.out.alloc (by omega) _;by_cases htn:t.name=n
   ·have hbeq2:((bs t.name).toList==(bs n).toList)=true:=(by rw[hbeq];exact decide_eq_true htn);have HF:Hid (findS n=some t):=(by rw[←htn];exact HS.out);obtain⟨W,hW⟩: ∃W,wr.alloc (.cells #[.string (bs t.name),.int .i64 t.syn,.bool t.single] 108)=W:=⟨_,rfl⟩;rw[hW]at HAX HBX;have k0:W.cell? ⟨wr.heap.size,0,none⟩=some (.string (bs t.name)):=(by rw[←hW,World.cell?_alloc_new];rfl);have k1:W.cell? ⟨wr.heap.size,1,none⟩=some (.int .i64 t.syn):=(by rw[←hW,World.cell?_alloc_new];rfl);have k2:W.cell? ⟨wr.heap.size,2,none⟩=some (.bool t.single):=(by rw[←hW,World.cell?_alloc_new];rfl);obtain⟨⟨x0,c0⟩,⟨y0,c1⟩,⟨z0,c2⟩,f0,f1,f2⟩:=ac_cells HAX.out;obtain⟨e0,e1,e2⟩:=ac_store HAX.out (.string (bs t.name)) (.int .i64 t.syn) (.bool t.single);clear hbeq htn;go_wp2_with fail
    (try simp only[Exit.inBlock,Exit.then])
    refine bodyPost_ret (v:= .tuple #[.agg #[.string (bs t.name),.int .i64 t.syn,.bool t.single],.bool true]) (by rw[results_cell_tmp rfl];go_simp) rfl ?_;exact⟨by rw[HF.out];rfl,below_put3 HBX.out (Nat.le_refl _) _ _ _⟩
   ·have hbeq2:((bs t.name).toList==(bs n).toList)=false:=(by rw[hbeq];exact decide_eq_false htn);have HN2:=Lib.hid (HNX.out htn);clear hbeq htn;go_wp2_with fail;go_roundw;case rel=>exact⟨i+1,by omega,by go_num,HN2,HAX,HBX⟩
    case measure=>simp[intOf];omega
  ·obtain rfl:i=20:=(by omega);have HF:Hid (findS n=none):=findS_not (fun j hj=>hN.out j hj hj);obtain⟨⟨x0,c0⟩,⟨y0,c1⟩,⟨z0,c2⟩,f0,f1,f2⟩:=ac_cells hA.out;obtain⟨e0,e1,e2⟩:=ac_store hA.out (.string ⟨#[]⟩) (.int .i64 0) (.bool false);go_wp2_with fail
   (try simp only[Exit.inBlock,Exit.then])
   refine bodyPost_ret (v:= .tuple #[.agg #[.string ⟨#[]⟩,.int .i64 0,.bool false],.bool false]) (by rw[results_cell_tmp rfl];go_simp) rfl ?_;exact⟨by rw[HF.out];rfl,below_put3 hB.out (Nat.le_refl _) _ _ _⟩
end atw
open Go.RowKit
namespace prw
open run prp
theorem replaceAll_len (c:UInt8)(l:List UInt8):(Lib.replaceAll l [c] []).length≤l.length:=by rw[replaceAll_filter];exact List.length_filter_le _ _
theorem phone_any (s:ByteArray)(w:World)(hs:s.size≤1100000)(hE:Hid (Env w)):Calls Tryz.prog 290 #[.string s] w fun e w'=>e= .returned (pairV (phoneO s.data.toList))∧Below w.heap.size w w':=by
 have CR:=ready_any s true w hs hE;have HM:=Lib.hid (phoneO_of_ready s.data.toList);cases hrs:readyO s.data.toList true with
 | none=>rw[hrs]at CR HM;have CH:=Lib.hid CR;clear hrs CR;go_enter Tryz.func290,Tryz.ntmps290;go_wp2_with fail;refine CH.out.mono ?_;rintro e w1 ⟨rfl,hB1⟩;unfold pairV;go_wp2_with fail;go_ret2;refine⟨?_,hB1⟩;rw[HM.out];rfl
 | some t=>
  have htl:=readyO_len hrs;rw[kt.size_len]at htl;rw[hrs]at CR HM;obtain⟨ta,hta⟩: ∃ta:ByteArray,ta=⟨t.toArray⟩:=⟨_,rfl⟩;have htd:ta.data.toList=t:=by rw[hta]
  rw[pairV_some,←hta]at CR;have CH:=Lib.hid CR;have hl1:=replaceAll_len 32 t;have hts:ta.size≤1100000:=by rw[←kt.size_len,htd];omega
  have CS1:Hid (∀ (W:World) (m:Int),W.cell? ⟨1,0,none⟩=some (.int .i64 m)→Calls Tryz.prog 284 #[.string ta,.string ⟨#[32]⟩,.string ⟨#[]⟩] W fun e w'=>e= .returned (.string ⟨(Lib.replaceAll t [32] []).toArray⟩)∧Below W.heap.size W w'):=by intro W m hm;have:=Tryz.strings_ReplaceAll ta ⟨#[32]⟩ ⟨#[]⟩ m W (by omega) hm (by decide) (by show ta.size+_*0≤_;omega);rw[htd]at this;exact this
  have CS2:Hid (∀ (W:World) (m:Int),W.cell? ⟨1,0,none⟩=some (.int .i64 m)→Calls Tryz.prog 284 #[.string ⟨(Lib.replaceAll t [32] []).toArray⟩,.string ⟨#[45]⟩,.string ⟨#[]⟩] W fun e w'=>e= .returned (.string ⟨(Lib.replaceAll (Lib.replaceAll t [32] []) [45] []).toArray⟩)∧Below W.heap.size W w'):=by intro W m hm;have hz:(⟨(Lib.replaceAll t [32] []).toArray⟩:ByteArray).size≤1100000:=(by rw[←kt.size_len];show(Lib.replaceAll t [32] []).length≤_;omega);exact Tryz.strings_ReplaceAll ⟨(Lib.replaceAll t [32] []).toArray⟩ ⟨#[45]⟩ ⟨#[]⟩ m W (by omega) hm (by decide) (by show _+_*0≤_;omega)
  clear hrs CR htd hl1 hts htl hta;generalize(⟨(Lib.replaceAll t [32] []).toArray⟩:ByteArray)=t1 at CS1 CS2;go_enter Tryz.func290,Tryz.ntmps290;go_wp2_with fail;refine CH.out.mono ?_;rintro e w1 ⟨rfl,hB1⟩;have hE1:=env_below hE.out hB1;obtain⟨m1,hm1⟩:=hE1;have C1:=Lib.hid (CS1.out w1 m1 hm1);clear hm1;go_wp2_with fail;refine C1.out.mono ?_;rintro e w2 ⟨rfl,hB2⟩;have hB12:=hB1.trans (hB2.mono hB1.size);have hE2:=env_below hE.out hB12;obtain⟨m2,hm2⟩:=hE2;have C2:=Lib.hid (CS2.out w2 m2 hm2);clear hm2;go_wp2_with fail;refine C2.out.mono ?_;rintro e w3 ⟨rfl,hB3⟩;go_wp2_with fail;go_ret2;refine⟨?_,hB12.trans (hB3.mono hB12.size)⟩;rw[HM.out];rfl
end prw
open Go.RowKit
namespace trm
def Env (w:World):Prop:=(∃m:Int,w.cell? ⟨1,0,none⟩=some (.int .i64 m))∧Lib.Utf8Tabs 2 3 w
theorem env_below {w w':World}(h:Env w)(hb:Below w.heap.size w w'):Env w':=by obtain⟨⟨m,hm⟩,ht⟩:=h;exact⟨⟨m,(hb.cell (World.block_lt_of_cell? w _ hm)).trans hm⟩,Utf8Tabs_below ht hb⟩
end trm
open Go.RowKit
namespace tupw
def Strs (w:World)(ao:Option Addr)(l:List ByteArray):Prop:= ∀ (i:Nat) (h:i<l.length),∃b o,ao=some ⟨b,o,none⟩∧w.cell? ⟨b,o+i,none⟩=some (.string l[i])
theorem strs_below {w w':World}{ao:Option Addr}{l:List ByteArray}(h:Strs w ao l)(hb:Below w.heap.size w w'):Strs w' ao l:=by intro i hi;obtain⟨b,o,e,hc⟩:=h i hi;exact⟨b,o,e,(hb.cell (World.block_lt_of_cell? w _ hc)).trans hc⟩
theorem is_below {B b:Nat}{l:List UInt8}{w w':World}(h:bld.Is B b l w)(hb:Below w.heap.size w w'):bld.Is B b l w':=by
 rcases h with h | h
 ·obtain⟨hB,v,hk,ho,hn⟩:=h;exact Or.inl ⟨hB,v,(hb.block b (bld.lt_of_heap hk)).trans hk,kt.row_below ho hb,hn⟩
 ·obtain⟨hB,v,hk,ho,hn⟩:=h;exact Or.inr ⟨hB,v,(hb.block b (bld.lt_of_heap hk)).trans hk,kt.row_below ho hb,hn⟩
def tupV (r:ByteArray × Int):Value:= .tuple #[.string r.1,.int .i64 r.2]
theorem tuple_any (ao:Option Addr)(cap:Nat)(l:List ByteArray)(w:World)(hE:Hid (trm.Env w))(hl:Hid (Strs w ao l)):
  Calls Tryz.prog 252 #[.slice ao l.length cap] w fun e w'=>e= .returned (tupV (tup.out l))∧Below w.heap.size w w':=by
 by_cases c16:16<l.length
 ·have hp:tup.out l=(⟨#[]⟩,1):=by unfold tup.out;rw[if_pos c16]
  have HP:=Lib.hid hp;clear hp;have c16':16<(l.length:Int):=by omega
  go_enter Tryz.func252,Tryz.ntmps252;go_wp2_with fail;go_ret2;exact⟨by rw[HP.out];rfl,Below.refl _ _⟩
 ·have c16': ¬16<(l.length:Int):=by omega
  go_enter Tryz.func252,Tryz.ntmps252;go_wp2_with fail;go_loopw [12] (fun iv wr=> ∃i:Nat,i≤l.length∧iv= .int .i64 i∧Hid (∀p∈l.take i,p.size≤4096)∧Hid (bld.Is w.heap.size w.heap.size (tup.bytes (l.take i)) wr)∧Below w.heap.size w wr) (fun iv _=>l.length- (intOf iv).toNat);case atStart=>exact⟨0,Nat.zero_le _,rfl,fun p hp=>by simp at hp,bld.fresh w,(Below.refl _ _).alloc (Nat.le_refl _) _⟩
  case round=>
   obtain⟨i,hi,rfl,hsm,hI,hB⟩:=hrel;have hsz:=hB.size;by_cases hil:i<l.length
   ·obtain⟨b,o,hao,hc0⟩:=hl.out i hil;have hc:=(hB.cell (World.block_lt_of_cell? w _ hc0)).trans hc0;clear hc0;obtain⟨p,hp⟩: ∃p:ByteArray,Hid (p=l[i]):=⟨l[i],rfl⟩;rw[←hp.out]at hc;subst hao;by_cases cp:4096<p.size
    ·have hbig:tup.out l=(⟨#[]⟩,5):=(by have:=tup.bytes_mem (l:=l) (p:=l[i]) (List.getElem_mem hil);rw[←hp.out]at this;unfold tup.out;rw[if_neg c16,if_pos (by omega)]);have HP:=Lib.hid hbig;clear hbig;have cp':4096<(p.size:Int):=(by omega);go_wp2_with fail;go_ret2;exact⟨by rw[HP.out];rfl,hB⟩
    ·have cp': ¬4096<(p.size:Int):=(by omega);obtain⟨⟨m,hm⟩,_⟩:=trm.env_below hE.out hB;have hcl:=Lib.count_le p.data.toList [0];have C:=Tryz.strings_ReplaceAll p ⟨#[0]⟩ ⟨#[0,255]⟩ m wr (by omega) hm (by decide) (by have:Lib.countB p ⟨#[0]⟩≤p.size+1:=(by simpa[Lib.countB]using hcl);show p.size+Lib.countB p ⟨#[0]⟩*2≤_;omega);rw[show(Lib.replaceAll p.data.toList (ByteArray.mk #[0]).data.toList (ByteArray.mk #[0,255]).data.toList)=tup.esc p.data.toList from tup.replace_esc _]at C;obtain⟨q,hq⟩: ∃q:ByteArray,Hid (q=⟨(tup.esc p.data.toList).toArray⟩):=⟨_,rfl⟩;rw[←hq.out]at C;have hqs:q.size≤8192:=(by have:=(tup.esc_length p.data.toList).2;rw[kt.size_len]at this;have h2:q.size=(tup.esc p.data.toList).length:=(by rw[hq.out];rfl);omega);have HC:=Lib.hid C;clear C hcl hm;have hbl:(tup.bytes (l.take i)).length≤131104:=(by have:=tup.bytes_small hsm.out;rw[List.length_take]at this;omega);go_wp2_with fail;refine HC.out.mono ?_;rintro e w1 ⟨rfl,hB1⟩;have hI1:=is_below hI.out hB1;have W1:=Lib.hid (bld.writeString_any _ _ _ q w1 hI1 (by omega) (Nat.le_trans hsz hB1.size));clear hI1;go_wp2_with fail;refine W1.out.mono ?_;rintro e w2 ⟨rfl,hI2,hB2⟩;have hs2:w.heap.size≤w2.heap.size:=Nat.le_trans (Nat.le_trans hsz hB1.size) hB2.size;have hqd:q.data.toList=tup.esc p.data.toList:=(by rw[hq.out]);have W2:=Lib.hid (bld.writeString_any _ _ _ ⟨#[0,1]⟩ w2 hI2 (by rw[List.length_append,kt.size_len];show _+2≤_;omega) hs2);clear hI2;go_wp2_with fail;refine W2.out.mono ?_;rintro e w3 ⟨rfl,hI3,hB3⟩;have hI3':=Lib.hid hI3;clear hI3;have ht:tup.bytes (l.take (i+1))=tup.bytes (l.take i)++q.data.toList++[0,1]:=(by rw[List.take_succ_eq_append_getElem hil,tup.bytes_append,hqd,←hp.out];simp[tup.bytes]);have HT:=Lib.hid ht;have HS:Hid (∀p∈l.take (i+1),p.size≤4096):=by
      rw[List.take_succ_eq_append_getElem hil];intro r hr;rcases List.mem_append.1 hr with h | h
      ·exact hsm.out r h
      ·rw[List.mem_singleton.1 h,←hp.out];omega
     clear ht hqd;go_wp2_with fail;go_roundw;case rel=>exact⟨i+1,by omega,by go_num,HS,by rw[HT.out];exact hI3'.out,((hB.trans (hB1.mono hsz)).trans hB2).trans hB3⟩
     case measure=>simp[intOf];omega
   ·obtain rfl:i=l.length:=(by omega);have hI':=hI;have hsm':=hsm.out;rw[List.take_of_length_le (Nat.le_refl _)]at hI' hsm';have hbl:=tup.bytes_small hsm';clear hsm hsm' hI;have hL:=(Tryz.Builder_Len _ _ _ wr hI'.out);rw[Lib.byteCells_length]at hL;have HL:=Lib.hid hL;clear hL;have hil': ¬ (l.length:Int)<(l.length:Int):=(by omega);go_wp2_with fail;refine HL.out.mono ?_;rintro e w1 ⟨rfl,rfl⟩;by_cases hb:4096<(tup.bytes l).length
    ·have hp:tup.out l=(⟨#[]⟩,5):=(by unfold tup.out;rw[if_neg c16,if_pos hb]);have HP:=Lib.hid hp;have hb':4096<((tup.bytes l).length:Int):=(by omega);clear hp hb;go_wp2_with fail;go_ret2;exact⟨by rw[HP.out];rfl,hB⟩
    ·have hp:tup.out l=(⟨(tup.bytes l).toArray⟩,0):=(by unfold tup.out;rw[if_neg c16,if_neg hb]);have HP:=Lib.hid hp;have hb': ¬4096<((tup.bytes l).length:Int):=(by omega);clear hp hb;have HSt:=Lib.hid (Tryz.Builder_String_any _ _ _ w1 hI'.out hsz);go_wp2_with fail;refine HSt.out.mono ?_;rintro e w2 ⟨rfl,hB2⟩;go_wp2_with fail;go_ret2;exact⟨by rw[HP.out];rfl,hB.trans hB2⟩
end tupw
open Go.RowKit
namespace dnw
open dnp
theorem joinT {w:World}{B:Nat}{v:Value}{l:List ByteArray}(h:prw.OwnT w B v l)(sep:ByteArray)(hl:l.length≤100000000)(hlen:(Lib.join (l.map (·.data.toList)) sep.data.toList).length≤140737488355328):
  Calls Tryz.prog 165 #[v,.string sep] w fun e w'=>e= .returned (.string ⟨(Lib.join (l.map (·.data.toList)) sep.data.toList).toArray⟩)∧Below w.heap.size w w':=by
 obtain⟨ao,cap,rfl,hcap,hcs⟩:=prw.ownT_cells h;by_cases hne:l=[]
 ·subst hne;refine(Tryz.strings_Join_none ao cap sep w).mono ?_;rintro e w' ⟨rfl,h2⟩;refine⟨rfl,?_⟩;first
   | (rw[h2];exact Below.refl _ _)
   | (rw[←h2];exact Below.refl _ _)
 ·obtain⟨g,rfl,hg,hcc⟩:=hcs hne;exact Tryz.strings_Join g 0 cap l sep w hcc hg (by omega) hcap hlen
def bytes (l:List UInt8):ByteArray:=⟨l.toArray⟩
theorem bytes_data (l:List UInt8):(bytes l).data.toList=l:=rfl
def PrintE (n:List (List Av))(e:Ending):Prop:=e= .returned (.tuple #[.string (bytes (printR n).1),.int .i64 (printR n).2])
theorem printE_no {n:List (List Av)}(h:nameOK n=false):PrintE n (.returned (.tuple #[.string ⟨#[]⟩,.int .i64 4])):=by unfold PrintE printR;rw[h];rfl
theorem printE_long {n:List (List Av)}(h:nameOK n=true)(h2:1000<(nameX n).length):PrintE n (.returned (.tuple #[.string ⟨#[]⟩,.int .i64 5])):=by unfold PrintE printR;rw[if_pos h,if_pos h2];rfl
theorem printE_ok {n:List (List Av)}(h:nameOK n=true)(h2: ¬1000<(nameX n).length):PrintE n (.returned (.tuple #[.string (bytes (nameX n)),.int .i64 0])):=by unfold PrintE printR;rw[if_pos h,if_neg h2];rfl
theorem ownT_below {w w':World}{B:Nat}{v:Value}{l:List ByteArray}(h:prw.OwnT w B v l)(hb:Below w.heap.size w w'):prw.OwnT w' B v l:=kt.row_below h hb
theorem ownT_appG {w:World}{B:Nat}{v:Value}{l:List ByteArray}(x:ByteArray)(hown:prw.OwnT w B v l)(hl:l.length≤100000000)(hbase:B≤w.heap.size):
  ∃ao m cap w1,(Builtin.append_ #[35,35] 35 #[v,.slice (some ⟨w.heap.size,0,none⟩) 1 1]).run Tryz.prog (w.alloc (.cells #[.string x] 9))= .ok (.slice ao m cap) w1∧prw.OwnT w1 B (.slice ao m cap) (l++[x])∧w.grownBy w1 v.ownBlock∧Below B w w1:=by
 obtain⟨v',w1,h1,h2,h4,h3⟩:=kt.app1 (P:=Tryz.prog) (t:=35) (ty:=35) Tryz.underlying35 prw.infoStr rfl (.string x) rfl hown (by rw[prw.scells_length];unfold maxLen;omega) (by rw[prw.scells_length];omega) hbase;have h2':prw.OwnT w1 B v' (l++[x]):=by
  unfold prw.OwnT;have e:prw.scells (l++[x])=prw.scells l++[.string x]:=by simp[prw.scells]
  rw[e];exact h2
 obtain⟨ao,cap,rfl,_,_⟩:=prw.ownT_cells h2';exact⟨ao,_,cap,w1,h1,h2',h4,h3⟩
theorem cat_ptx (x:Av):(x.t++(⟨#[61]⟩:ByteArray))++(⟨(textL x.v.data.toList).toArray⟩:ByteArray)=bytes (ptx x):=by apply kt.str_eq;rw[ByteArray.data_append,ByteArray.data_append,bytes_data];simp[ptx]
theorem ownT_form {w:World}{B:Nat}{v:Value}{l:List ByteArray}(h:prw.OwnT w B v l): ∃ (ao:Option Addr) (m cap:Nat),v= .slice ao m cap∧Hid (m=l.length):=by obtain⟨ao,cap,rfl,_,_⟩:=prw.ownT_cells h;exact⟨ao,_,cap,rfl,rfl⟩
theorem takeMap_step {α:Type}(f:α→ByteArray)(l:List α)(i:Nat)(hi:i<l.length):(l.take (i+1)).map f=(l.take i).map f++[f l[i]]:=by rw[List.take_succ_eq_append_getElem hi,List.map_append];rfl
end dnw
open Go.RowKit
namespace dnw
open dnp
theorem trmEnv {w:World}(hE:prw.Env w)(hT:Tabs w):trm.Env w:=⟨hE,hT⟩
theorem scells_enc (l:List ByteArray):prw.scells l=(l.map (·.data.toList)).map encStr:=by unfold prw.scells;rw[List.map_map];rfl
theorem sortT {w:World}{B:Nat}{ao:Option Addr}{m cap:Nat}{l:List ByteArray}(h:prw.OwnT w B (.slice ao m cap) l)(hl:l.length≤1100000)(hB:B≤w.heap.size):
  Calls Tryz.prog 116 #[.slice ao m cap] w fun e w'=>e= .returned (.tuple #[])∧prw.OwnT w' B (.slice ao m cap) ((sortL (l.map (·.data.toList))).map bytes)∧Below B w w':=by
 obtain⟨ss,hss⟩: ∃ss,ss=l.map (·.data.toList):=⟨_,rfl⟩;have hsl:ss.length=l.length:=by rw[hss];simp
 have hm:m=l.length:=by obtain⟨ao',cap',hv,_,_⟩:=prw.ownT_cells h;simp only[Value.slice.injEq]at hv;exact hv.2.1
 subst hm;have hrow:w.ownsRow B 9 1 (.slice ao l.length cap) ss.length (ss.map encStr):=by have h1:w.ownsRow B 9 1 (.slice ao l.length cap) (prw.scells l).length (prw.scells l):=h;rw[scells_enc,←hss,List.length_map]at h1;exact h1
 have hsort:((sortL ss).map bytes).map (·.data.toList)=sortL ss:=by
  rw[List.map_map];conv=>rhs;rw[←List.map_id (sortL ss)]
  apply List.map_congr_left;intro x _;rfl
 have hsn:(sortL ss).length=ss.length:=by unfold sortL;simp
 rw[←hss];rcases hrow.2 with⟨hv,h0⟩ | ⟨g,cap',cur,hv,hBg,hg,h1,h2,h3,h4⟩
 ·simp only[Value.slice.injEq]at hv;obtain⟨rfl,hl0,rfl⟩:=hv;have hs0:ss=[]:=List.eq_nil_of_length_eq_zero h0;rw[hl0];refine(Tryz.slices_Sort_string_none none 0 w).mono ?_;rintro e w' ⟨rfl,h2⟩;have h2:w'=w:=by first | exact h2 | exact h2.symm
  subst h2;refine⟨rfl,?_,Below.refl _ _⟩;rw[hs0];have hn:sortL []=[]:=by unfold sortL;simp
  rw[hn];exact World.ownsRow_nil w' B _ _
 ·simp only[Value.slice.injEq]at hv;obtain⟨rfl,_,rfl⟩:=hv;rw[Nat.mul_one]at h4;have hH:=holds_of_block hg h4;have CS:=Tryz.slices_Sort_string g 0 cap ss w hH (bld.lt_of_heap hg) (by omega);rw[hsl]at CS;refine CS.mono ?_;rintro e w' ⟨rfl,n,os,rfl⟩;have ho:=ownsRow_sorted (n:=n) (os:=os) (ts:=sortL ss) hsn hBg hg h1 h2 h3;refine⟨rfl,?_,(Below.refl B w).grown (grownBy_sorted _) hB (fun k hk=>by cases hk;exact hBg)⟩;unfold prw.OwnT;rw[scells_enc,hsort,List.length_map,hsn];rw[hsl]at ho ⊢;exact ho
theorem part_any (x:Av)(R:ByteArray)(hR:R=⟨(rv x.v.data.toList).toArray⟩)(ao:Option Addr)(cap:Nat)(w:World)(hE:Hid (trm.Env w))(hS:Hid (tupw.Strs w ao [x.t,R])):
  Calls Tryz.prog 252 #[.slice ao 2 cap] w fun e w'=>(∃er:Int,e= .returned (.tuple #[.string (partB x),.int .i64 er]))∧Below w.heap.size w w':=by
 refine(tupw.tuple_any ao cap [x.t,R] w hE hS).mono ?_;rintro e w' ⟨rfl,hb⟩;exact⟨⟨(tup.out [x.t,R]).2,by unfold tupw.tupV partB;rw[hR]⟩,hb⟩
theorem key_any (ao:Option Addr)(cap:Nat)(l:List Av)(w:World)(hA:Hid (Avas w ao l))(hE:Hid (prw.Env w))(hT:Hid (Tabs w))(hok:rdnOK l=true):
  Calls Tryz.prog 191 #[.slice ao l.length cap] w fun e w'=>e= .returned (.string (bytes (keyL l)))∧Below w.heap.size w w':=by
 have h4:=(rdnOK_facts hok).2.1;have HX:=Lib.hid (rdnOK_av hok);obtain⟨m,hm⟩: ∃m,m=l.length:=⟨_,rfl⟩;have HM:=Lib.hid hm;rw[←hm]at h4 ⊢;clear hm hok;go_enter Tryz.func191,Tryz.ntmps191;go_wp2_with fail;go_loopw [3,5,6,7,8,9,12] (fun pv _ _ _ _ _ iv wr=> ∃ (i:Nat),i≤m∧iv= .int .i64 (i:Int)∧Hid (prw.OwnT wr w.heap.size pv ((l.take i).map partB))∧Below w.heap.size w wr) (fun _ _ _ _ _ _ iv _=>m- (intOf iv).toNat);case atStart=>exact⟨0,Nat.zero_le _,rfl,World.ownsRow_nil _ _ _ _,Below.refl _ _⟩
 case round=>
  obtain⟨i,hi,rfl,hO,hB⟩:=hrel;have hsz:=hB.size;obtain⟨aoR,mR,capR,rfl,hmR⟩:=ownT_form hO.out;by_cases hlt:i<m
  ·have hlt':(i:Int)<(m:Int):=(by omega);have hil:i<l.length:=(by rw[←HM.out];exact hlt);obtain⟨b,o,hao,c0,c1⟩:=(avas_below hA.out hB) i hil;subst hao;have HST:=takeMap_step partB l i hil;have hxx:=HX.out l[i] (List.getElem_mem hil);generalize l[i]=x at c0 c1 HST hxx;obtain⟨R,hR⟩: ∃R:ByteArray,R=⟨(rv x.v.data.toList).toArray⟩:=⟨_,rfl⟩;have hvs:x.v.size≤1100000:=(by have:=valOK_le hxx.2;rw[kt.size_len]at this;omega);have HRD:Hid (∀W,Below w.heap.size w W→Calls Tryz.prog 134 #[.string x.v,.bool true] W fun e w'=>e= .returned (.tuple #[.string R,.int .i64 0])∧Below W.heap.size W w'):=(by intro W hb;have:=prw.ready_any x.v true W hvs (Lib.hid (prw.env_below hE.out hb));rw[rv_ok hxx.2]at this;rw[hR];exact this);have HST:=Lib.hid HST;have HRe:=Lib.hid hR;obtain⟨w5,hw5⟩: ∃w5,w5=wr.alloc (.cells #[.string x.t,.string x.v] 51):=⟨_,rfl⟩;have e0:w5.cell? ⟨wr.heap.size,0,none⟩=some (.string x.t):=(by rw[hw5,World.cell?_alloc_new];rfl);have HB5:Hid (Below w.heap.size w w5):=(by show Below _ _ _;rw[hw5];exact hB.alloc hsz _);have HO5:Hid (prw.OwnT w5 w.heap.size (.slice aoR mR capR) ((l.take i).map partB)):=(by show prw.OwnT _ _ _ _;rw[hw5];exact ownT_below hO.out ((Below.refl _ _).alloc (Nat.le_refl _) _));have HE0:=Lib.hid e0;have hRD:=HRD.out w5 HB5.out;rw[hw5]at hRD;have HW5:=Lib.hid hw5;have HRD2:=Lib.hid hRD;clear hR hvs hxx hw5 e0 hRD;go_wp2_with fail;refine HRD2.out.mono ?_;rintro e w6 ⟨rfl,hB6⟩;rw[←HW5.out]at hB6;have hlt5:=World.block_lt_of_cell? w5 _ HE0.out;have e6:=(hB6.cell hlt5).trans HE0.out;have HB6:=Lib.hid (HB5.out.trans (hB6.mono HB5.out.size));have HO6:=Lib.hid (ownT_below HO5.out hB6);have HP:=Lib.hid (part_any x R HRe.out (some ⟨w6.heap.size,0,none⟩) 2 (w6.alloc (.cells #[.string x.t,.string R] 9)) (Lib.hid (trmEnv (prw.env_below hE.out (HB6.out.alloc HB6.out.size _)) (tabs_below hT.out (HB6.out.alloc HB6.out.size _)))) (Lib.hid (by
    intro j hj;refine⟨_,0,rfl,?_⟩;rw[World.cell?_alloc_new]
    match j,hj with
    | 0,_=>rfl
    | 1,_=>rfl)))
   clear hB6 HRD2;go_wp2_with fail;refine HP.out.mono ?_;rintro e w7 ⟨⟨er,rfl⟩,hB7⟩;have hB67:Below w6.heap.size w6 w7:=((Below.refl w6.heap.size w6).alloc (Nat.le_refl _) _).trans (hB7.mono (by simp));have HB7:=Lib.hid (HB6.out.trans (hB67.mono HB6.out.size));obtain⟨ao7,m7,cap7,w8,hap,hO8,_,hB8⟩:=ownT_appG (partB x) (ownT_below HO6.out hB67) (by rw[List.length_map,List.length_take];omega) HB7.out.size;have HO8:Hid (prw.OwnT w8 w.heap.size (.slice ao7 m7 cap7) ((l.take (i+1)).map partB)):=(by show prw.OwnT _ _ _ _;rw[HST.out];exact hO8);have HB8:=Lib.hid (HB7.out.trans hB8);clear hB7 hB67 hO8 hB8 HP e6;go_wp2_with (at_builtin;refine Lib.wpList_append_run _ rfl _ _ _ _ rfl _ _ rfl rfl _ _ hap ?_);go_roundw;case rel=>exact⟨i+1,by omega,by go_num,HO8,HB8.out⟩
   case measure=>simp[intOf]<;>omega
  ·obtain rfl:i=m:=(by omega);have hO1:=hO.out;rw[HM.out,List.take_length]at hO1;have hll:(l.map partB).length≤1100000:=(by rw[List.length_map,←HM.out];omega);have CS:=Lib.hid (sortT hO1 hll hsz);have e1:((l.map partB).map (·.data.toList))=partsL l:=(by rw[List.map_map];rfl);have hkl:=keyL_len l;clear hO1 hll;go_wp2_with fail;refine CS.out.mono ?_;rintro e w2 ⟨rfl,hO2,hB2⟩;rw[e1]at hO2;have e2:((sortL (partsL l)).map bytes).map (·.data.toList)=sortL (partsL l):=by
    rw[List.map_map];conv=>rhs;rw[←List.map_id (sortL (partsL l))]
    apply List.map_congr_left;intro x _;rfl
   have CJ:=joinT hO2 ⟨#[]⟩ (by rw[List.length_map];unfold sortL partsL;simp;rw[←HM.out];omega) (by rw[e2];show(Lib.join _ []).length≤_;rw[join_flat];show(keyL l).length≤_;rw[←HM.out]at hkl;omega);rw[e2]at CJ;have CJ':Calls Tryz.prog 165 #[.slice aoR mR capR,.string ⟨#[]⟩] w2 fun e w'=>e= .returned (.string (bytes (keyL l)))∧Below w2.heap.size w2 w':=(by refine CJ.mono fun e w' h=>⟨?_,h.2⟩;rw[h.1];show _=Ending.returned (.string ⟨(keyL l).toArray⟩);have:Lib.join (sortL (partsL l)) (⟨#[]⟩:ByteArray).data.toList=keyL l:=join_flat _;rw[this]);have HJ:=Lib.hid CJ';have HB2:=Lib.hid (hB.trans hB2);clear CJ CJ' e1 e2 hkl CS hB2 hO2;go_wp2_with fail;refine HJ.out.mono ?_;rintro e w3 ⟨rfl,hB3⟩;go_wp2_with fail;go_ret;exact⟨rfl,HB2.out.trans (hB3.mono HB2.out.size)⟩
end dnw
open Go.RowKit
namespace dnw
open dnp
def KeysE (n:List (List Av))(w:World)(e:Ending)(w':World):Prop:=Below w.heap.size w w'∧if nameOK n=true then∃ao cap,e= .returned (.tuple #[.slice ao n.length cap,.int .i64 0])∧n.length≤cap∧tupw.Strs w' ao (keysB n)else e= .returned (.tuple #[.slice none 0 0,.int .i64 4])
theorem ownT_strs {w:World}{B:Nat}{ao:Option Addr}{m cap:Nat}{l:List ByteArray}(h:prw.OwnT w B (.slice ao m cap) l):tupw.Strs w ao l∧m=l.length∧m≤cap:=by obtain⟨ao',cap',hv,hc,hcs⟩:=prw.ownT_cells h;simp only[Value.slice.injEq]at hv;obtain⟨rfl,rfl,rfl⟩:=hv;refine⟨fun i hi=> ?_,rfl,hc⟩;obtain⟨g,hg,_,hcell⟩:=hcs (by intro e;rw[e]at hi;simp at hi);exact⟨g,0,hg,hcell i _ (List.getElem?_eq_getElem hi)⟩
theorem revTake_step (n:List (List Av))(i:Nat)(hi:i<n.length):(n.reverse.take (i+1)).map (fun l=>bytes (keyL l))=(n.reverse.take i).map (fun l=>bytes (keyL l))++[bytes (keyL (n[n.length-1-i]'(by omega)))]:=by rw[List.take_succ_eq_append_getElem (by simpa using hi),List.map_append];simp only[List.getElem_reverse];rfl
theorem keys_any (ao:Option Addr)(cap:Nat)(n:List (List Av))(w:World)(hA:Hid (Rdns w ao n))(hE:Hid (prw.Env w))(hT:Hid (Tabs w))(hS:Hid (∀l∈n,l.length≤4→Smalls l)):
  Calls Tryz.prog 292 #[.slice ao n.length cap] w fun e w'=>KeysE n w e w':=by
 have CR:=right_any ao cap n w hA hE hS;obtain⟨m,hm⟩: ∃m,m=n.length:=⟨_,rfl⟩;have HM:=Lib.hid hm;rw[←hm]at CR ⊢;clear hm;cases hok:nameOK n with
 | false=>rw[hok]at CR;have HC:=Lib.hid CR;have HOK:=Lib.hid hok;clear CR hok;go_enter Tryz.func292,Tryz.ntmps292;go_wp2_with fail;refine HC.out.mono ?_;rintro e w1 ⟨rfl,hB1⟩;go_wp2_with fail;go_ret2;refine⟨hB1,?_⟩;rw[if_neg (by rw[HOK.out];simp)];rfl
 | true=>
  rw[hok]at CR;have HC:=Lib.hid CR;have HOK:=Lib.hid hok;have hf:=nameOK_facts hok;have hm12:m≤12:=by rw[HM.out];exact hf.1
  have HL:=Lib.hid hf.2;clear CR hok hf;go_enter Tryz.func292,Tryz.ntmps292;go_wp2_with fail;refine HC.out.mono ?_;rintro e w1 ⟨rfl,hB1⟩;have HB1:=Lib.hid hB1;have hsz1:=hB1.size;clear hB1 HC;go_wp2_with fail;go_loopw [4,5,11] (fun rv _ iv wr=> ∃ (i:Nat),i≤m∧iv= .int .i64 (i:Int)∧Hid (prw.OwnT wr w1.heap.size rv ((n.reverse.take i).map fun l=>bytes (keyL l)))∧Below w1.heap.size w1 wr) (fun _ _ iv _=>m- (intOf iv).toNat);case atStart=>exact⟨0,Nat.zero_le _,rfl,World.ownsRow_nil _ _ _ _,Below.refl _ _⟩
  case round=>
   obtain⟨i,hi,rfl,hO,hB⟩:=hrel;have hsz:=hB.size;obtain⟨aoR,mR,capR,rfl,hmR⟩:=ownT_form hO.out;by_cases hlt:i<m
   ·have hlt':(i:Int)<(m:Int):=(by omega);have hil:i<n.length:=(by rw[←HM.out];exact hlt);have HBT:=Lib.hid (HB1.out.trans (hB.mono hsz1));obtain⟨j,hj⟩: ∃j,j=m-1-i:=⟨_,rfl⟩;have hjl:j<n.length:=(by rw[←HM.out];omega);have hjm:(j:Int)<(m:Int):=(by omega);have hj0:(0:Int)≤(j:Int):=(by omega);have ej:(m:Int)-1- (i:Int)=(j:Int):=(by omega);have w1e:IntKind.i64.wrap ((m:Int)-1)=(m:Int)-1:=IntWalk.i64_in _ (by omega);have w2e:IntKind.i64.wrap ((m:Int)-1- (i:Int))=(j:Int):=(by rw[ej];exact IntWalk.i64_in _ (by omega));have HST:=revTake_step n i hil;have hje:n.length-1-i=j:=(by rw[←HM.out];exact hj.symm);have HST2:(n.reverse.take (i+1)).map (fun l=>bytes (keyL l))=(n.reverse.take i).map (fun l=>bytes (keyL l))++[bytes (keyL n[j])]:=(by rw[HST];congr 4;simp only[hje]);obtain⟨b,o,ao',cap',hao,hc0,hcc,hAv⟩:=(rdns_below hA.out HBT.out) j hjl;subst hao;have hro:=HL.out n[j] (List.getElem_mem hjl);have CK:=key_any ao' cap' n[j] wr (Lib.hid hAv) (Lib.hid (prw.env_below hE.out HBT.out)) (Lib.hid (tabs_below hT.out HBT.out)) hro;have hst:=Lib.hid HST2;generalize n[j]=l at hc0 CK hst;obtain⟨p,hp⟩: ∃p,p=l.length:=⟨_,rfl⟩;rw[←hp]at hc0 CK;have HCK:=Lib.hid CK;clear CK HST HST2 hje hro hAv hcc hp hj;go_wp2_with fail;refine HCK.out.mono ?_;rintro e w2 ⟨rfl,hB2⟩;obtain⟨ao7,m7,cap7,w8,hap,hO8,_,hB8⟩:=ownT_appG (bytes (keyL l)) (ownT_below hO.out hB2) (by rw[List.length_map,List.length_take,List.length_reverse];omega) (Nat.le_trans hsz hB2.size);have HO8:Hid (prw.OwnT w8 w1.heap.size (.slice ao7 m7 cap7) ((n.reverse.take (i+1)).map fun l=>bytes (keyL l))):=(by show prw.OwnT _ _ _ _;rw[hst.out];exact hO8);have HB8:=Lib.hid ((hB.trans (hB2.mono hsz)).trans hB8);clear hO8 hB8 hB2 HCK hst;generalize bytes (keyL l)=KB at hap ⊢;go_wp2_with (at_builtin;refine Lib.wpList_append_run _ rfl _ _ _ _ rfl _ _ rfl rfl _ _ hap ?_);go_roundw;case rel=>exact⟨i+1,by omega,by go_num,HO8,HB8.out⟩
    case measure=>simp[intOf]<;>omega
   ·obtain rfl:i=m:=(by omega);have hO1:=hO.out;rw[HM.out,List.take_of_length_le (by rw[List.length_reverse];exact Nat.le_refl _)]at hO1;obtain⟨hst,hml,hmc⟩:=ownT_strs hO1;rw[List.length_map,List.length_reverse]at hml;have HST:=Lib.hid hst;have HML:=Lib.hid hml;clear hO1 hst hml;go_wp2_with fail;go_ret2;refine⟨HB1.out.trans (hB.mono hsz1),?_⟩;rw[if_pos HOK.out];have h1:=HML.out;subst h1;exact⟨aoR,capR,rfl,hmc,HST.out⟩
end dnw
open Go.RowKit
namespace atw
open atp
theorem bs_ne {l:List UInt8}(h:l≠[]):(bs l).toList.isEmpty=false∧ ¬ (bs l).toList=[]:=by
 rw[Lib.toList_data,bs_data];refine⟨?_,h⟩;cases l with
 | nil=>exact absurd rfl h
 | cons a t=>rfl
def FormE (o:Option (List UInt8))(w:World)(e:Ending)(w':World):Prop:=Below w.heap.size w w'∧match o with
 | none=> ∃u,e= .returned (.tuple #[.string u,.bool false])
 | some u=>e= .returned (.tuple #[.string (bs u),.bool true])
theorem formE_none {o:Option (List UInt8)}{w w':World}{u:ByteArray}(h:o=none)(hb:Below w.heap.size w w'):FormE o w (.returned (.tuple #[.string u,.bool false])) w':=by subst h;exact⟨hb,u,rfl⟩
theorem formE_some {o:Option (List UInt8)}{w w':World}{u:List UInt8}(h:o=some u)(hb:Below w.heap.size w w'):FormE o w (.returned (.tuple #[.string (bs u),.bool true])) w':=by subst h;exact⟨hb,rfl⟩
theorem formE_is {o:Option (List UInt8)}{w w':World}{s:ByteArray}(h:o=some s.data.toList)(hb:Below w.heap.size w w'):FormE o w (.returned (.tuple #[.string s,.bool true])) w':=by subst h;refine⟨hb,?_⟩;show _=Ending.returned (.tuple #[.string (bs s.data.toList),.bool true]);rw[bs_of]
theorem join_flat (l:List (List UInt8)):Lib.join l []=l.flatten:=by
 cases l with
 | nil=>rfl
 | cons x r=>rw[Lib.join_cons];unfold Lib.joinTail;simp
theorem join_any (ao:Option Addr)(c:Nat)(l:List ByteArray)(w:World)(hS:Hid (tupw.Strs w ao l))(hc:l.length≤c)(hlen:l.length≤1000)(hb:(joinK l).length≤1100000):
  Calls Tryz.prog 165 #[.slice ao l.length c,.string ⟨#[]⟩] w fun e w'=>e= .returned (.string (bs (joinK l)))∧Below w.heap.size w w':=by
 by_cases h0:l=[]
 ·subst h0;refine(Tryz.strings_Join_none ao c ⟨#[]⟩ w).mono ?_;rintro e w' ⟨rfl,rfl⟩;exact⟨rfl,Below.refl _ _⟩
 ·have hl:0<l.length:=List.length_pos_iff.2 h0;obtain⟨b,o,rfl,hc0⟩:=hS.out 0 hl;have hlt:=World.block_lt_of_cell? w _ hc0;refine(Tryz.strings_Join b o c l ⟨#[]⟩ w (fun j x hj=> ?_) hlt (by omega) hc ?_).mono ?_
  ·obtain⟨hjl,rfl⟩:=List.getElem?_eq_some_iff.1 hj;obtain⟨b',o',e',h'⟩:=hS.out j hjl;simp only[Option.some.injEq,Addr.mk.injEq,and_true]at e';obtain⟨rfl,rfl⟩:=e';exact h'
  ·show(Lib.join (l.map (·.data.toList)) []).length≤_;rw[join_flat];unfold joinK at hb;omega
  ·rintro e w' ⟨rfl,hB⟩;refine⟨?_,hB⟩;show Ending.returned (.string (bs (Lib.join (l.map (·.data.toList)) [])))=_;rw[join_flat];rfl
theorem form_any (nm:ByteArray)(syn:Int)(sg:Bool)(s:ByteArray)(w:World)(hs:s.size≤1000)(h1:1≤syn)(h7:syn≤7)(hE:Hid (prw.Env w))(hT:Hid (dnw.Tabs w)):
  Calls Tryz.prog 261 #[.agg #[.string nm,.int .i64 syn,.bool sg],.string s] w (FormE (formO syn s.data.toList) w):=by
 obtain⟨W0,hW0⟩: ∃W,w.alloc (.cells #[.string nm,.int .i64 syn,.bool sg] 108)=W:=⟨_,rfl⟩;have hB0:Below w.heap.size w W0:=by rw[←hW0];exact(Below.refl _ _).alloc (Nat.le_refl _) _
 have HB0:=Lib.hid hB0;have hw0:w.heap.size≤W0.heap.size:=hB0.size;have HE0:=Lib.hid (prw.env_below hE.out hB0);have HT0:=Lib.hid (dnw.tabs_below hT.out hB0);have k1:W0.cell? ⟨w.heap.size,1,none⟩=some (.int .i64 syn):=by rw[←hW0,World.cell?_alloc_new];rfl
 clear hB0;have hcs:syn=1∨syn=2∨syn=3∨syn=4∨syn=5∨syn=6∨syn=7:=by omega
 clear h1 h7;rcases hcs with rfl | rfl | rfl | rfl | rfl | rfl | rfl
 ·have HF:formO 1 s.data.toList=ne0 (prp.readyO s.data.toList true):=rfl;rw[HF];have HC:Hid (Calls Tryz.prog 134 #[.string s,.bool true] W0 fun e w'=>e= .returned (prw.pairV (prp.readyO s.data.toList true))∧Below W0.heap.size W0 w'):=prw.ready_any s true W0 (by omega) HE0;clear HF;cases ho:prp.readyO s.data.toList true with
  | none=>rw[ho]at HC;rw[show prw.pairV none= .tuple #[.string ⟨#[]⟩,.int .i64 19]from rfl]at HC;clear ho;go_enter Tryz.func261,Tryz.ntmps261;go_wp2_with fail;refine HC.out.mono ?_;rintro e w1 ⟨rfl,hB1⟩;have HB1:=Lib.hid (HB0.out.trans (hB1.mono hw0));clear hB1;go_wp2_with fail;go_ret2;exact formE_none rfl HB1.out
  | some u=>
   rw[ho]at HC;have HC2:Hid (Calls Tryz.prog 134 #[.string s,.bool true] W0 fun e w'=>e= .returned (.tuple #[.string (bs u),.int .i64 0])∧Below W0.heap.size W0 w'):=HC;clear HC ho;by_cases hu:u=[]
   ·have hue:(bs u).toList=[]:=(by rw[hu,Lib.toList_data];rfl);have HN:Hid (ne0 (some u)=none):=(by show _=_;rw[hu];rfl);clear hu;go_enter Tryz.func261,Tryz.ntmps261;go_wp2_with fail;refine HC2.out.mono ?_;rintro e w1 ⟨rfl,hB1⟩;have HB1:=Lib.hid (HB0.out.trans (hB1.mono hw0));clear hB1;go_wp2_with fail;go_ret2;exact formE_none HN.out HB1.out
   ·have HN:Hid (ne0 (some u)=some u):=ne0_some hu;obtain⟨hu1,hu2⟩:=bs_ne hu;clear hu;go_enter Tryz.func261,Tryz.ntmps261;go_wp2_with fail;refine HC2.out.mono ?_;rintro e w1 ⟨rfl,hB1⟩;have HB1:=Lib.hid (HB0.out.trans (hB1.mono hw0));clear hB1;go_wp2_with fail;go_ret2;exact formE_some HN.out HB1.out
 ·have HF:formO 2 s.data.toList=ne0 (prp.readyO s.data.toList false):=rfl;rw[HF];have HC:Hid (Calls Tryz.prog 134 #[.string s,.bool false] W0 fun e w'=>e= .returned (prw.pairV (prp.readyO s.data.toList false))∧Below W0.heap.size W0 w'):=prw.ready_any s false W0 (by omega) HE0;clear HF;cases ho:prp.readyO s.data.toList false with
  | none=>rw[ho]at HC;rw[show prw.pairV none= .tuple #[.string ⟨#[]⟩,.int .i64 19]from rfl]at HC;clear ho;go_enter Tryz.func261,Tryz.ntmps261;go_wp2_with fail;refine HC.out.mono ?_;rintro e w1 ⟨rfl,hB1⟩;have HB1:=Lib.hid (HB0.out.trans (hB1.mono hw0));clear hB1;go_wp2_with fail;go_ret2;exact formE_none rfl HB1.out
  | some u=>
   rw[ho]at HC;have HC2:Hid (Calls Tryz.prog 134 #[.string s,.bool false] W0 fun e w'=>e= .returned (.tuple #[.string (bs u),.int .i64 0])∧Below W0.heap.size W0 w'):=HC;clear HC ho;by_cases hu:u=[]
   ·have hue:(bs u).toList=[]:=(by rw[hu,Lib.toList_data];rfl);have HN:Hid (ne0 (some u)=none):=(by show _=_;rw[hu];rfl);clear hu;go_enter Tryz.func261,Tryz.ntmps261;go_wp2_with fail;refine HC2.out.mono ?_;rintro e w1 ⟨rfl,hB1⟩;have HB1:=Lib.hid (HB0.out.trans (hB1.mono hw0));clear hB1;go_wp2_with fail;go_ret2;exact formE_none HN.out HB1.out
   ·have HN:Hid (ne0 (some u)=some u):=ne0_some hu;obtain⟨hu1,hu2⟩:=bs_ne hu;clear hu;go_enter Tryz.func261,Tryz.ntmps261;go_wp2_with fail;refine HC2.out.mono ?_;rintro e w1 ⟨rfl,hB1⟩;have HB1:=Lib.hid (HB0.out.trans (hB1.mono hw0));clear hB1;go_wp2_with fail;go_ret2;exact formE_some HN.out HB1.out
 ·go_enter Tryz.func261,Tryz.ntmps261;go_wp2_with fail;go_ret2;exact formE_is rfl HB0.out
 ·have HC:Hid (∀w,Calls Tryz.prog 291 #[.string s] w fun e w'=>e= .returned (.bool (numOK s.data.toList))∧w=w'):=fun w=>number_any s w (by omega);have HF:formO 4 s.data.toList=if numOK s.data.toList=true then some s.data.toList else none:=rfl;rw[HF];clear HF;cases hn:numOK s.data.toList with
  | true=>rw[hn]at HC;clear hn;go_enter Tryz.func261,Tryz.ntmps261;go_wp2_with fail;refine(HC.out _).mono ?_;rintro e w1 ⟨rfl,rfl⟩;go_wp2_with fail;go_ret2;exact formE_is rfl HB0.out
  | false=>rw[hn]at HC;clear hn;go_enter Tryz.func261,Tryz.ntmps261;go_wp2_with fail;refine(HC.out _).mono ?_;rintro e w1 ⟨rfl,rfl⟩;go_wp2_with fail;go_ret2;exact formE_none rfl HB0.out
 ·have HF:formO 5 s.data.toList=if s.data.toList=tT∨s.data.toList=tF then some s.data.toList else none:=rfl;rw[HF];clear HF;by_cases e1:s.data.toList=tT
  ·have q1:(s.toList==[84,82,85,69])=true:=(by rw[Lib.toList_data,e1];rfl);rw[if_pos (Or.inl e1)];clear e1;go_enter Tryz.func261,Tryz.ntmps261;go_wp2_with fail;go_ret2;exact formE_is rfl HB0.out
  ·have q1:(s.toList==[84,82,85,69])=false:=(by rw[Lib.toList_data];simpa[tT]using e1);by_cases e2:s.data.toList=tF
   ·have q2:(s.toList==[70,65,76,83,69])=true:=(by rw[Lib.toList_data,e2];rfl);rw[if_pos (Or.inr e2)];clear e1 e2;go_enter Tryz.func261,Tryz.ntmps261;go_wp2_with fail;go_ret2;exact formE_is rfl HB0.out
   ·have q2:(s.toList==[70,65,76,83,69])=false:=(by rw[Lib.toList_data];simpa[tF]using e2);rw[if_neg (by rintro(h | h);exact e1 h;exact e2 h)];clear e1 e2;go_enter Tryz.func261,Tryz.ntmps261;go_wp2_with fail;go_ret2;exact formE_none rfl HB0.out
 ·have HF:formO 6 s.data.toList=nameK s.data.toList:=rfl;rw[HF];clear HF;have HP:Hid (Calls Tryz.prog 94 #[.string s] W0 fun e w'=>Below W0.heap.size W0 w'∧ ∃ao cap,e= .returned (.tuple #[.slice ao (dnw.parseV s).1.length cap,.int .i64 (dnw.parseV s).2])∧dnw.Rdns w' ao (dnw.parseV s).1):=
   (dnw.parse_any s W0 (by omega) HE0 HT0).mono fun e w' h=>dnw.parseE_V h
  have hV:dnw.parseV s=match dnw.parseR s.data.toList with
    | none=>([],4)
    | some n=>(n,0):=by unfold dnw.parseV;rw[if_neg (by omega)]<;>cases dnw.parseR s.data.toList<;>rfl
  unfold nameK;cases hp:dnw.parseR s.data.toList with
  | none=>rw[hp]at hV;simp only at hV;rw[hV]at HP;simp only[List.length_nil]at HP;have HOKN:dnw.nameOK []=true:=(by decide);clear hV hp;go_enter Tryz.func261,Tryz.ntmps261;go_wp2_with fail;refine HP.out.mono ?_;rintro e w1 ⟨hB1,ao,cap,rfl,hR⟩;have HR:=Lib.hid hR;have HB1:=Lib.hid (HB0.out.trans (hB1.mono hw0));have HE1:=Lib.hid (prw.env_below HE0.out hB1);have HT1:=Lib.hid (dnw.tabs_below HT0.out hB1);clear hR hB1;go_wp2_with fail;refine(dnw.keys_any ao cap [] w1 HR HE1 HT1 (fun l hl=>by cases hl)).mono ?_;intro e w2 hK;obtain⟨hB2,hK2⟩:=hK;rw[if_pos HOKN]at hK2;obtain⟨ao2,cap2,rfl,_,hS⟩:=hK2;have HB2:=Lib.hid (HB1.out.trans (hB2.mono HB1.out.size));clear hB2 hS HOKN;go_wp2_with fail;refine(Tryz.strings_Join_none ao2 cap2 ⟨#[]⟩ w2).mono ?_;rintro e w3 ⟨rfl,hw3⟩;have HB3:Hid (Below w.heap.size w w3):=(by rw[hw3];exact HB2.out);clear hw3;go_wp2_with fail;go_ret2;exact formE_none rfl HB3.out
  | some n=>rw[hp]at hV;simp only at hV;rw[hV]at HP;simp only at HP;have hok:=parseR_ok hp;have HSM:Hid (∀l∈n,l.length≤4→dnw.Smalls l):=fun l hl _=>name_smalls hok l hl;have HJL:=Lib.hid (joinK_len n hok);have HNL:Hid (n.length≤12):=(by show _≤_;unfold dnw.nameOK at hok;rw[Bool.and_eq_true,decide_eq_true_eq]at hok;exact hok.1);have HOKN:=Lib.hid hok;obtain⟨m,hm⟩: ∃m,m=n.length:=⟨_,rfl⟩;have HM:=Lib.hid hm;rw[←hm]at HP;have HKA:Hid (∀ao cap w,dnw.Rdns w ao n→prw.Env w→dnw.Tabs w→Calls Tryz.prog 292 #[.slice ao m cap] w fun e w'=>Below w.heap.size w w'∧ ∃ao2 cap2,e= .returned (.tuple #[.slice ao2 m cap2,.int .i64 0])∧m≤cap2∧tupw.Strs w' ao2 (dnw.keysB n)):=(by intro ao cap w h1 h2 h3;rw[hm];refine(dnw.keys_any ao cap n w (Lib.hid h1) (Lib.hid h2) (Lib.hid h3) HSM).mono fun e w' h=> ?_;obtain⟨k1,k2⟩:=h;rw[if_pos HOKN.out]at k2;exact⟨k1,k2⟩);have HJ:Hid (∀ao cap w,tupw.Strs w ao (dnw.keysB n)→m≤cap→Calls Tryz.prog 165 #[.slice ao m cap,.string ⟨#[]⟩] w fun e w'=>e= .returned (.string (bs (joinK (dnw.keysB n))))∧Below w.heap.size w w'):=(by intro ao cap w h1 h2;have hl:(dnw.keysB n).length=m:=(by rw[dnw.keysB_len,hm]);have:=join_any ao cap (dnw.keysB n) w (Lib.hid h1) (by rw[hl];exact h2) (by have:=HNL.out;omega) (by have:=HJL.out;omega);rw[hl]at this;exact this);clear hV hp hok hm;go_enter Tryz.func261,Tryz.ntmps261;go_wp2_with fail;refine HP.out.mono ?_;rintro e w1 ⟨hB1,ao,cap,rfl,hR⟩;have HR:=Lib.hid hR;have HB1:=Lib.hid (HB0.out.trans (hB1.mono hw0));have HE1:=Lib.hid (prw.env_below HE0.out hB1);have HT1:=Lib.hid (dnw.tabs_below HT0.out hB1);clear hR hB1;go_wp2_with fail;refine(HKA.out _ _ _ HR.out HE1.out HT1.out).mono ?_;rintro e w2 ⟨hB2,ao2,cap2,rfl,hc2,hS⟩;have HS:=Lib.hid hS;have HB2:=Lib.hid (HB1.out.trans (hB2.mono HB1.out.size));clear hB2 hS;go_wp2_with fail;refine(HJ.out _ _ _ HS.out hc2).mono ?_;rintro e w3 ⟨rfl,hB3⟩;have HB3:=Lib.hid (HB2.out.trans (hB3.mono HB2.out.size));clear hB3;go_wp2_with fail;go_ret2;exact formE_some rfl HB3.out
 ·have HF:formO 7 s.data.toList=ne0 (prp.phoneO s.data.toList):=rfl;rw[HF];have HC:Hid (Calls Tryz.prog 290 #[.string s] W0 fun e w'=>e= .returned (prw.pairV (prp.phoneO s.data.toList))∧Below W0.heap.size W0 w'):=prw.phone_any s W0 (by omega) HE0;clear HF;cases ho:prp.phoneO s.data.toList with
  | none=>rw[ho]at HC;rw[show prw.pairV none= .tuple #[.string ⟨#[]⟩,.int .i64 19]from rfl]at HC;clear ho;go_enter Tryz.func261,Tryz.ntmps261;go_wp2_with fail;refine HC.out.mono ?_;rintro e w1 ⟨rfl,hB1⟩;have HB1:=Lib.hid (HB0.out.trans (hB1.mono hw0));clear hB1;go_wp2_with fail;go_ret2;exact formE_none rfl HB1.out
  | some u=>
   rw[ho]at HC;have HC2:Hid (Calls Tryz.prog 290 #[.string s] W0 fun e w'=>e= .returned (.tuple #[.string (bs u),.int .i64 0])∧Below W0.heap.size W0 w'):=HC;clear HC ho;by_cases hu:u=[]
   ·have hue:(bs u).toList=[]:=(by rw[hu,Lib.toList_data];rfl);have HN:Hid (ne0 (some u)=none):=(by show _=_;rw[hu];rfl);clear hu;go_enter Tryz.func261,Tryz.ntmps261;go_wp2_with fail;refine HC2.out.mono ?_;rintro e w1 ⟨rfl,hB1⟩;have HB1:=Lib.hid (HB0.out.trans (hB1.mono hw0));clear hB1;go_wp2_with fail;go_ret2;exact formE_none HN.out HB1.out
   ·have HN:Hid (ne0 (some u)=some u):=ne0_some hu;obtain⟨hu1,hu2⟩:=bs_ne hu;clear hu;go_enter Tryz.func261,Tryz.ntmps261;go_wp2_with fail;refine HC2.out.mono ?_;rintro e w1 ⟨rfl,hB1⟩;have HB1:=Lib.hid (HB0.out.trans (hB1.mono hw0));clear hB1;go_wp2_with fail;go_ret2;exact formE_some HN.out HB1.out
def normV (o:List UInt8 × Int):Value:= .tuple #[.string (bs o.1),.int .i64 o.2]
theorem known_any (nm:ByteArray)(syn:Int)(sg:Bool)(w:World):Calls Tryz.prog 260 #[.agg #[.string nm,.int .i64 syn,.bool sg]] w fun e w'=>e= .returned (.bool (decide (1≤syn∧syn≤7)))∧Below w.heap.size w w':=by
 obtain⟨W0,hW0⟩: ∃W,w.alloc (.cells #[.string nm,.int .i64 syn,.bool sg] 108)=W:=⟨_,rfl⟩;have HB0:Hid (Below w.heap.size w W0):=by rw[←hW0];exact(Below.refl _ _).alloc (Nat.le_refl _) _
 have k1:W0.cell? ⟨w.heap.size,1,none⟩=some (.int .i64 syn):=by rw[←hW0,World.cell?_alloc_new];rfl
 by_cases h1:1≤syn
 ·by_cases h7:syn≤7
  ·have HD:Hid (decide (1≤syn∧syn≤7)=true):=decide_eq_true ⟨h1,h7⟩;go_enter Tryz.func260,Tryz.ntmps260;go_wp2_with fail;go_ret;first | exact⟨by rw[HD.out];rfl,HB0.out⟩ | exact⟨rfl,HB0.out⟩
  ·have HD:Hid (decide (1≤syn∧syn≤7)=false):=decide_eq_false (fun h=>h7 h.2);have q:decide (syn≤7)=false:=decide_eq_false h7;clear h7;go_enter Tryz.func260,Tryz.ntmps260;go_wp2_with fail;go_ret;first | exact⟨by rw[HD.out];rfl,HB0.out⟩ | exact⟨rfl,HB0.out⟩
 ·have HD:Hid (decide (1≤syn∧syn≤7)=false):=decide_eq_false (fun h=>h1 h.1);have q:decide (1≤syn)=false:=decide_eq_false h1;go_enter Tryz.func260,Tryz.ntmps260;go_wp2_with fail;go_ret;first | exact⟨by rw[HD.out];rfl,HB0.out⟩ | exact⟨rfl,HB0.out⟩
theorem normal_any (nm:ByteArray)(syn:Int)(sg:Bool)(s:ByteArray)(w:World)(hs:s.size≤140737488351232)(hE:Hid (prw.Env w))(hT:Hid (dnw.Tabs w)):
  Calls Tryz.prog 200 #[.agg #[.string nm,.int .i64 syn,.bool sg],.string s] w fun e w'=>e= .returned (normV (normL syn s.data.toList))∧Below w.heap.size w w':=by
 obtain⟨W0,hW0⟩: ∃W,w.alloc (.cells #[.string nm,.int .i64 syn,.bool sg] 108)=W:=⟨_,rfl⟩;have hB0:Below w.heap.size w W0:=by rw[←hW0];exact(Below.refl _ _).alloc (Nat.le_refl _) _
 have HB0:=Lib.hid hB0;have hw0:w.heap.size<W0.heap.size:=by rw[←hW0];simp
 have HE0:=Lib.hid (prw.env_below hE.out hB0);have HT0:=Lib.hid (dnw.tabs_below hT.out hB0);have k0:W0.cell? ⟨w.heap.size,0,none⟩=some (.string nm):=by rw[←hW0,World.cell?_alloc_new];rfl
 have k1:W0.cell? ⟨w.heap.size,1,none⟩=some (.int .i64 syn):=by rw[←hW0,World.cell?_alloc_new];rfl
 have k2:W0.cell? ⟨w.heap.size,2,none⟩=some (.bool sg):=by rw[←hW0,World.cell?_alloc_new];rfl
 have HK:Hid (∀w,Calls Tryz.prog 260 #[.agg #[.string nm,.int .i64 syn,.bool sg]] w fun e w'=>e= .returned (.bool (decide (1≤syn∧syn≤7)))∧Below w.heap.size w w'):=fun w=>known_any nm syn sg w;clear hB0;by_cases hsy:1≤syn∧syn≤7
 ·rw[decide_eq_true hsy]at HK;by_cases hlong:1000<s.size
  ·rw[normL_long hsy (by rw[kt.size_len];exact hlong)];have hlI:(1000:Int)<(s.size:Int):=(by omega);clear hlong hsy;go_enter Tryz.func200,Tryz.ntmps200;go_wp2_with fail;refine(HK.out _).mono ?_;rintro e w1 ⟨rfl,hB1⟩;have HB1:=Lib.hid (HB0.out.trans (hB1.mono (Nat.le_of_lt hw0)));clear hB1 hW0;go_wp2_with fail;go_ret2;exact⟨rfl,HB1.out⟩
  ·have hlI: ¬ (1000:Int)<(s.size:Int):=(by omega);by_cases h0:s.data.toList=[]
   ·rw[normL_nil hsy h0];have hz:s.toList=[]:=(by rw[Lib.toList_data];exact h0);clear hsy hlong h0;go_enter Tryz.func200,Tryz.ntmps200;go_wp2_with fail;refine(HK.out _).mono ?_;rintro e w1 ⟨rfl,hB1⟩;have HB1:=Lib.hid (HB0.out.trans (hB1.mono (Nat.le_of_lt hw0)));clear hB1 hW0;go_wp2_with fail;go_ret2;exact⟨rfl,HB1.out⟩
   ·have HNF:=Lib.hid (normL_form hsy (by rw[kt.size_len];omega) h0);have HFM:Hid (∀w,prw.Env w→dnw.Tabs w→Calls Tryz.prog 261 #[.agg #[.string nm,.int .i64 syn,.bool sg],.string s] w (FormE (formO syn s.data.toList) w)):=fun w h1 h2=>form_any nm syn sg s w (by omega) hsy.1 hsy.2 (Lib.hid h1) (Lib.hid h2);obtain⟨z1,z2⟩:=str_ne (s:=s) (by
     rcases Nat.eq_zero_or_pos s.size with h | h
     ·exact absurd (by rw[zero_s h];rfl) h0
     ·exact h)
    clear hsy hlong h0;go_enter Tryz.func200,Tryz.ntmps200;go_wp2_with fail;refine(HK.out _).mono ?_;rintro e w1 ⟨rfl,hB1⟩;have HB1:=Lib.hid (HB0.out.trans (hB1.mono (Nat.le_of_lt hw0)));have HE1:=Lib.hid (prw.env_below HE0.out hB1);have HT1:=Lib.hid (dnw.tabs_below HT0.out hB1);have m0:=(hB1.cell (p:=⟨w.heap.size,0,none⟩) hw0).trans k0;have m1:=(hB1.cell (p:=⟨w.heap.size,1,none⟩) hw0).trans k1;have m2:=(hB1.cell (p:=⟨w.heap.size,2,none⟩) hw0).trans k2;clear hB1 hW0 k0 k1 k2;go_wp2_with fail;refine(HFM.out _ HE1.out HT1.out).mono ?_;intro e w2 hF;cases ho:formO syn s.data.toList with
    | none=>rw[ho]at hF;obtain⟨hB2,u,rfl⟩:=hF;have HB2:=Lib.hid (HB1.out.trans (hB2.mono HB1.out.size));have HO:=Lib.hid ho;clear hB2 ho;go_wp2_with fail;go_ret2;exact⟨by rw[HNF.out,HO.out];rfl,HB2.out⟩
    | some u=>rw[ho]at hF;obtain⟨hB2,rfl⟩:=hF;have HB2:=Lib.hid (HB1.out.trans (hB2.mono HB1.out.size));have HO:=Lib.hid ho;clear hB2 ho;go_wp2_with fail;go_ret2;exact⟨by rw[HNF.out,HO.out];rfl,HB2.out⟩
 ·rw[normL_bad hsy];rw[decide_eq_false hsy]at HK;clear hsy;go_enter Tryz.func200,Tryz.ntmps200;go_wp2_with fail;refine(HK.out _).mono ?_;rintro e w1 ⟨rfl,hB1⟩;have HB1:=Lib.hid (HB0.out.trans (hB1.mono (Nat.le_of_lt hw0)));clear hB1 hW0;go_wp2_with fail;go_ret2;exact⟨rfl,HB1.out⟩
theorem check_any (nm:ByteArray)(syn:Int)(sg:Bool)(s:ByteArray)(w:World)(hs:s.size≤140737488351232)(hE:Hid (prw.Env w))(hT:Hid (dnw.Tabs w)):
  Calls Tryz.prog 145 #[.agg #[.string nm,.int .i64 syn,.bool sg],.string s] w fun e w'=>e= .returned (.int .i64 (normL syn s.data.toList).2)∧Below w.heap.size w w':=by
 obtain⟨W0,hW0⟩: ∃W,w.alloc (.cells #[.string nm,.int .i64 syn,.bool sg] 108)=W:=⟨_,rfl⟩;have hB0:Below w.heap.size w W0:=by rw[←hW0];exact(Below.refl _ _).alloc (Nat.le_refl _) _
 have HB0:=Lib.hid hB0;have hw0:w.heap.size<W0.heap.size:=by rw[←hW0];simp
 have HE0:=Lib.hid (prw.env_below hE.out hB0);have HT0:=Lib.hid (dnw.tabs_below hT.out hB0);have k0:W0.cell? ⟨w.heap.size,0,none⟩=some (.string nm):=by rw[←hW0,World.cell?_alloc_new];rfl
 have k1:W0.cell? ⟨w.heap.size,1,none⟩=some (.int .i64 syn):=by rw[←hW0,World.cell?_alloc_new];rfl
 have k2:W0.cell? ⟨w.heap.size,2,none⟩=some (.bool sg):=by rw[←hW0,World.cell?_alloc_new];rfl
 have HN:Hid (∀w,prw.Env w→dnw.Tabs w→Calls Tryz.prog 200 #[.agg #[.string nm,.int .i64 syn,.bool sg],.string s] w fun e w'=>e= .returned (normV (normL syn s.data.toList))∧Below w.heap.size w w'):=fun w h1 h2=>normal_any nm syn sg s w hs (Lib.hid h1) (Lib.hid h2);obtain⟨uo,huo⟩: ∃u,normL syn s.data.toList=u:=⟨_,rfl⟩;rw[huo]at HN ⊢;clear huo;obtain⟨u,er⟩:=uo;obtain⟨ub,hub⟩: ∃ub,bs u=ub:=⟨_,rfl⟩;have HN2:Hid (∀w,prw.Env w→dnw.Tabs w→Calls Tryz.prog 200 #[.agg #[.string nm,.int .i64 syn,.bool sg],.string s] w fun e w'=>e= .returned (.tuple #[.string ub,.int .i64 er])∧Below w.heap.size w w'):=by rw[←hub];exact HN
 clear HN hub hB0;go_enter Tryz.func145,Tryz.ntmps145;go_wp2_with fail;refine(HN2.out _ HE0.out HT0.out).mono ?_;rintro e w1 ⟨rfl,hB1⟩;have HB1:=Lib.hid (HB0.out.trans (hB1.mono (Nat.le_of_lt hw0)));clear hB1;go_wp2_with fail;go_ret;exact⟨rfl,HB1.out⟩
end atw
open Go.RowKit
namespace prw
open run prp
def phP (v:Int):Bool:=decide (v≠32)&&decide (v≠45)
theorem ph_keep {m:List Int}{i:Nat}(hi:i<m.length)(h:phP m[i]=true):(m.take (i+1)).filter phP=(m.take i).filter phP++[m[i]]:=by rw[List.take_succ_eq_append_getElem hi,List.filter_append];simp[h]
theorem ph_drop {m:List Int}{i:Nat}(hi:i<m.length)(h:phP m[i]=false):(m.take (i+1)).filter phP=(m.take i).filter phP:=by rw[List.take_succ_eq_append_getElem hi,List.filter_append];simp[h]
theorem ph_len (m:List Int)(i:Nat):((m.take i).filter phP).length≤i:=by refine Nat.le_trans (List.length_filter_le _ _) ?_;rw[List.length_take];omega
theorem phoneO_ph (l:List UInt8):phoneO l=(mapO' l true).map fun m=>text (m.filter phP):=phoneO_eq l
theorem rphone_any (s:ByteArray)(w:World)(hs:s.size≤1100000):Calls Tryz.prog 198 #[.string s] w fun e w'=>e= .returned (pairV (phoneO s.data.toList))∧Below w.heap.size w w':=by
 rw[phoneO_ph];have CR:=mapped_any s true w hs;cases hrs:mapO' s.data.toList true with
 | none=>rw[hrs]at CR;have CH:=Lib.hid CR;clear hrs CR;go_enter Tryz.func198,Tryz.ntmps198;go_wp2_with fail;refine CH.out.mono ?_;rintro e w1 ⟨hB1,v,rfl⟩;go_wp2_with fail;go_ret2;exact⟨rfl,hB1⟩
 | some m=>
  rw[hrs]at CR;obtain⟨hml,hok⟩:=mapO'_facts hrs;have CH:=Lib.hid CR;have HK:Hid (∀v∈m.filter phP,okR v):=fun v hv=>hok v (List.mem_filter.1 hv).1;have hml2:m.length≤1100000:=by omega
  clear hrs CR hok hml;go_enter Tryz.func198,Tryz.ntmps198;go_wp2_with fail;refine CH.out.mono ?_;rintro e w1 ⟨hB1,v,rfl,hO⟩;obtain⟨ao,cap,rfl,hS⟩:=runs_of hO;have HS:=Lib.hid hS;clear hO hS;have hsz1:=hB1.size;go_wp2_with fail;go_loopw [6,7] (fun lv iv wr=> ∃ (i:Nat),i≤m.length∧iv= .int .i64 (i:Int)∧Hid (OwnR wr w1.heap.size lv ((m.take i).filter phP))∧Below w1.heap.size w1 wr) (fun _ iv _=>m.length- (intOf iv).toNat);case atStart=>
   refine⟨0,Nat.zero_le _,rfl,?_,(Below.refl _ _).alloc (Nat.le_refl _) _⟩;exact World.ownsRow_made _ #[] 0 (by simp) (by unfold maxLen;omega) rfl
  case round=>
   obtain⟨i,hi,rfl,hO,hB⟩:=hrel;have hsz:=hB.size;by_cases hlt:i<m.length
   ·have hlt':(i:Int)<(m.length:Int):=(by omega);obtain⟨b,o,hao,hc⟩:=runs_below HS.out hB i hlt;have q1:=ph_keep hlt;have q2:=ph_drop hlt;have q3:=ph_len m i;subst hao;generalize m[i]=x at hc q1 q2;by_cases hx:x=32
    ·subst hx;have hO1:=hO.out;rw[←q2 rfl]at hO1;have HO1:=Lib.hid hO1;clear q1 q2 q3 hO1;go_wp2_with fail;go_roundw;case rel=>exact⟨i+1,by omega,by go_num,HO1,hB⟩
     case measure=>simp[intOf];omega
    ·by_cases hy:x=45
     ·subst hy;have hO1:=hO.out;rw[←q2 rfl]at hO1;have HO1:=Lib.hid hO1;clear q1 q2 q3 hO1;go_wp2_with fail;go_roundw;case rel=>exact⟨i+1,by omega,by go_num,HO1,hB⟩
      case measure=>simp[intOf];omega
     ·have hx1:(x==32)=false:=(by rw[beq_eq_false_iff_ne];exact hx);have hx2:(x !=32)=true:=(by rw[bne_iff_ne];exact hx);have hy1:(x==45)=false:=(by rw[beq_eq_false_iff_ne];exact hy);have hy2:(x !=45)=true:=(by rw[bne_iff_ne];exact hy);obtain⟨v',w2,hap,hO1,hB2⟩:=ownR_app x hO.out (by omega) hsz;rw[←q1 (by unfold phP;simp[hx,hy])]at hO1;have HO1:=Lib.hid hO1;clear q1 q2 q3 hx hy hO1;go_wp2_with (at_builtin;refine Lib.wpList_append_run _ rfl _ _ _ _ rfl _ _ rfl rfl _ _ hap ?_);go_roundw;case rel=>exact⟨i+1,by omega,by go_num,HO1,hB.trans hB2⟩
      case measure=>simp[intOf];omega
   ·obtain rfl:i=m.length:=(by omega);have hO1:=hO.out;rw[List.take_length]at hO1;have hl:=ph_len m m.length;rw[List.take_length]at hl;obtain⟨ao2,cap2,rfl,hS2⟩:=runs_of hO1;have HS2:=Lib.hid hS2;have CT:=Lib.hid (text_any ao2 cap2 (m.filter phP) wr (by omega) HS2 HK);clear hO1 hS2 hl;go_wp2_with fail;refine CT.out.mono ?_;rintro e w2 ⟨rfl,hB2⟩;go_wp2_with fail;go_ret2;exact⟨rfl,hB1.trans ((hB.trans (hB2.mono hsz)).mono hsz1)⟩
end prw
open Go.RowKit
namespace tup
theorem esc_append (a b:List UInt8):esc (a++b)=esc a++esc b:=by
 induction a with
 | nil=>rfl
 | cons c a ih=>show esc (c::(a++b))=_;simp only[esc,ih];split<;>simp
end tup
namespace prt
open tupw
def OwnB (w:World)(B:Nat)(v:Value)(l:List UInt8):Prop:=w.ownsRow B 5 1 v (Lib.byteCells l).length (Lib.byteCells l)
theorem ownb_app {w:World}{B:Nat}{v:Value}{l:List UInt8}(h:OwnB w B v l)(x:UInt8)(hl:l.length≤1100000)(hB:B≤w.heap.size):
  ∃v' w1,(Builtin.append_ #[131,131] 131 #[v,.slice (some ⟨w.heap.size,0,none⟩) 1 1]).run Tryz.prog (w.alloc (.cells #[.int .u8 (x.toNat:Int)] 5))= .ok v' w1∧OwnB w1 B v' (l++[x])∧w.grownBy w1 v.ownBlock∧Below B w w1:=by
 obtain⟨v',w1,h1,h2,h3,h4⟩:=kt.app1 (P:=Tryz.prog) (ty:=131) (w:=w) Tryz.underlying131 bld.infoByte rfl (.int .u8 (x.toNat:Int)) rfl h (by rw[Lib.byteCells_length];unfold maxLen;omega) (by rw[Lib.byteCells_length];omega) hB;refine⟨v',w1,h1,?_,h3,h4⟩;unfold OwnB;rw[Lib.byteCells_append];exact h2
theorem ownb_new (w:World)(B:Nat)(hB:B≤w.heap.size):OwnB (w.alloc (.cells #[] 5)) B (.slice (some ⟨w.heap.size,0,none⟩) 0 0) []:=World.ownsRow_made w #[] 0 hB (by unfold maxLen;omega) rfl
end prt
namespace fldw
theorem infoByte:(Tryz.prog.info? 5).map (fun i=>(i.zero,i.size,i.bytes))=some (some (.int .u8 0),1,1):=bld.infoByte
end fldw
end Go.Proofs.YtmnpfkbjpeaemaaGreatDoor
