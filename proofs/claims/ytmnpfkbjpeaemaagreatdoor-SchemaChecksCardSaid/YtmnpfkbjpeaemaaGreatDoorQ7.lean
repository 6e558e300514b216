/- One text out of several: NormP, NumW, NumV, PhoneW, KeysW, FormW, RPhoneW, PartR, TupR, CmpP, LessW. -/
import Derived.Lib.AtoiAll
import Derived.Test.YtmnpfkbjpeaemaaGreatDoorQ1
import Derived.Test.YtmnpfkbjpeaemaaGreatDoorQ6
import Derived.Test.YtmnpfkbjpeaemaaGreatDoorRows
import Derived.Test.YtmnpfkbjpeaemaaGreatDoorQ2
import Derived.Test.YtmnpfkbjpeaemaaGreatDoorQ5
import Derived.Lib.Bytealg
import Derived.Deep.QuietTactic
import Derived.BigQuiet
set_option linter.unusedVariables false
set_option linter.unusedSimpArgs false
set_option maxRecDepth 20000
set_option maxHeartbeats 8000000
namespace Go.Proofs.YtmnpfkbjpeaemaaGreatDoor
namespace atp
open atw (bs)
def tT:List UInt8:=[84,82,85,69]
def tF:List UInt8:=[70,65,76,83,69]
def ne0 (o:Option (List UInt8)):Option (List UInt8):=match o with
 | none=>none
 | some u=>if u=[]then none else some u
theorem ne0_some {u:List UInt8}(h:u≠[]):ne0 (some u)=some u:=by unfold ne0;exact if_neg h
def joinK (l:List ByteArray):List UInt8:=(l.map (·.data.toList)).flatten
def nameK (l:List UInt8):Option (List UInt8):=match dnw.parseR l with
 | none=>none
 | some n=>some (joinK (dnw.keysB n))
def formO (syn:Int)(l:List UInt8):Option (List UInt8):=
 if syn=1 then ne0 (prp.readyO l true)else if syn=2 then ne0 (prp.readyO l false)else if syn=7 then ne0 (prp.phoneO l)
 else if syn=4 then(if numOK l=true then some l else none)
 else if syn=5 then(if l=tT∨l=tF then some l else none)
 else if syn=6 then nameK l
 else some l
def normL (syn:Int)(l:List UInt8):List UInt8 × Int:=
 if¬ (1≤syn∧syn≤7)then([],14)else if 1000<l.length then([],5)else if l=[]then([],4)else match formO syn l with
  | none=>([],4)
  | some u=>(u,0)
theorem normL_bad {syn:Int}{l:List UInt8}(h: ¬ (1≤syn∧syn≤7)):normL syn l=([],14):=by unfold normL;rw[if_pos h]
theorem normL_long {syn:Int}{l:List UInt8}(h:1≤syn∧syn≤7)(h1:1000<l.length):normL syn l=([],5):=by unfold normL;rw[if_neg (not_not_intro h),if_pos h1]
theorem normL_nil {syn:Int}{l:List UInt8}(h:1≤syn∧syn≤7)(h1:l=[]):normL syn l=([],4):=by unfold normL;rw[if_neg (not_not_intro h),if_neg (by rw[h1];simp),if_pos h1]
theorem normL_form {syn:Int}{l:List UInt8}(h:1≤syn∧syn≤7)(h1:l.length≤1000)(h2:l≠[]):normL syn l=match formO syn l with
  | none=>([],4)
  | some u=>(u,0):=by unfold normL;rw[if_neg (not_not_intro h),if_neg (by omega),if_neg h2]
theorem name_smalls {n:List (List dnw.Av)}(h:dnw.nameOK n=true): ∀l∈n,dnw.Smalls l:=by intro l hl x hx;unfold dnw.nameOK at h;rw[Bool.and_eq_true]at h;have h1:=List.all_eq_true.1 h.2 l hl;unfold dnw.rdnOK at h1;simp only[Bool.and_eq_true]at h1;obtain⟨i,hi,rfl⟩:=List.mem_iff_getElem.1 hx;have h2:=List.all_eq_true.1 h1.2 i (List.mem_range.2 hi);rw[List.getElem?_eq_getElem hi]at h2;simp only at h2;unfold dnw.pairB at h2;simp only[Bool.and_eq_true]at h2;have h3:=(dnw.typeOK_iff _).1 h2.1.2;have h4:=h2.2;unfold dnw.valOK at h4;rw[Bool.and_eq_true,decide_eq_true_eq]at h4;have e1:=h3.2.1;have e2:=h4.1;rw[kt.size_len]at e1 e2;exact⟨by omega,by omega⟩
theorem parseR_ok {l:List UInt8}{n:List (List dnw.Av)}(h:dnw.parseR l=some n):dnw.nameOK n=true:=by
 unfold dnw.parseR at h;split at h
 ·cases h;decide
 ·split at h
  ·cases h
  ·split at h
   ·cases h;assumption
   ·cases h
theorem joinK_len (n:List (List dnw.Av))(h:dnw.nameOK n=true):(joinK (dnw.keysB n)).length≤200000:=by
 have hn:n.length≤12:=by unfold dnw.nameOK at h;rw[Bool.and_eq_true,decide_eq_true_eq]at h;exact h.1
 have hl: ∀l∈n,l.length≤4:=by intro l hl;unfold dnw.nameOK at h;rw[Bool.and_eq_true]at h;have h1:=List.all_eq_true.1 h.2 l hl;unfold dnw.rdnOK at h1;simp only[Bool.and_eq_true,decide_eq_true_eq]at h1;exact h1.1.2
 have h2:=dnw.flatten_len_le 16384 ((dnw.keysB n).map (·.data.toList)) (by intro x hx;unfold dnw.keysB at hx;rw[List.map_map]at hx;obtain⟨l,hl2,rfl⟩:=List.mem_map.1 hx;have:=dnw.keyL_len l;have:=hl l (List.mem_reverse.1 hl2);show(dnw.keyL l).length≤_;omega);unfold joinK;rw[List.length_map,dnw.keysB_len]at h2;omega
end atp
open Go.RowKit
namespace atw
open atp
theorem num_eq {l:List UInt8}(h:l≠[48]):numOK l=(decide (1≤(bare l).length)&&decide ((bare l).length≤18)&&decide ((bare l).head?≠some 48)&&(bare l).all digit):=by unfold numOK;rw[decide_eq_false h,Bool.false_or]
theorem num_len {l:List UInt8}(h:l≠[48])(h1:(bare l).length=0∨18<(bare l).length):false=numOK l:=by
 rw[num_eq h];rcases h1 with h1 | h1
 ·rw[h1];rfl
 ·rw[decide_eq_false (p:=(bare l).length≤18) (by omega)];simp
theorem num_zero {l:List UInt8}(h:l≠[48])(h1:(bare l).head?=some 48):false=numOK l:=by rw[num_eq h,h1];simp
theorem num_bad {l:List UInt8}{c:UInt8}(h:l≠[48])(hc:c∈bare l)(hd: ¬ (48≤(c.toNat:Int)∧(c.toNat:Int)≤57)):false=numOK l:=by
 rw[num_eq h];have:(bare l).all digit=false:=by rw[Bool.eq_false_iff];intro e;have:=List.all_eq_true.1 e c hc;unfold digit at this;rw[decide_eq_true_iff]at this;omega
 rw[this];simp
theorem num_yes {l:List UInt8}(h:l≠[48])(h1:1≤(bare l).length)(h2:(bare l).length≤18)(h3:(bare l).head?≠some 48)(h4: ∀c∈bare l,48≤(c.toNat:Int)∧(c.toNat:Int)≤57):true=numOK l:=by rw[num_eq h,decide_eq_true h1,decide_eq_true h2,decide_eq_true h3];symm;simp only[Bool.true_and];rw[List.all_eq_true];intro c hc;have:=h4 c hc;unfold digit;rw[decide_eq_true_iff];omega
theorem ne_s {s:ByteArray}(h:0<s.size): ∃t,s.data.toList=s[0]::t:=by refine⟨s.data.toList.drop 1,?_⟩;have:=List.drop_eq_getElem_cons (l:=s.data.toList) (i:=0) (by simpa using h);rw[List.drop_zero]at this;exact this
theorem head_s {s:ByteArray}(h:0<s.size):s.data.toList.head?=some s[0]:=by obtain⟨t,ht⟩:=ne_s h;rw[ht];rfl
theorem tail_s {s t:ByteArray}(h:s.extract 1 s.size=t):t.data.toList=s.data.toList.tail:=by rw[←h,Lib.extract_to_end];simp
theorem mem_s {s:ByteArray}{k:Nat}(h:k<s.size):s[k]∈s.data.toList:=by have:s.data.toList[k]'(by simpa using h)∈s.data.toList:=List.getElem_mem _;exact this
theorem zero_s {s:ByteArray}(h0:s.size=0):s=ByteArray.empty:=by
 apply kt.str_eq;have:s.data.toList.length=0:=by simpa using h0
 rw[List.eq_nil_of_length_eq_zero this];rfl
theorem u8_of {c:UInt8}{n:Nat}(hn:n<256)(h:(c.toNat:Int)=n):c=UInt8.ofNat n:=by apply UInt8.toNat_inj.1;rw[UInt8.toNat_ofNat'];omega
theorem rnumber_any (s:ByteArray)(w:World)(hs:s.size≤1100000):Calls Tryz.prog 196 #[.string s] w fun e w'=>e= .returned (.bool (numOK s.data.toList))∧w=w':=by
  by_cases h0:s.data.toList=[48]
  · have HF:Hid (true=numOK s.data.toList):=(by rw[h0];exact(by decide:true=numOK [48]));have q0:(s.toList==[48])=true:=(by rw[Lib.toList_data,h0];rfl);clear h0;go_enter Tryz.func196,Tryz.ntmps196;go_wp2_with fail;go_ret;exact⟨kt.ret_bool HF.out,rfl⟩
  · have hne:=h0;have q0:(s.toList==[48])=false:=(by rw[Lib.toList_data];simpa using h0);clear h0;by_cases hz:s.size=0
    · obtain rfl:=zero_s hz;have HF:=Lib.hid (num_len hne (Or.inl rfl));clear hz hne;go_enter Tryz.func196,Tryz.ntmps196;go_wp2_with fail;go_ret;exact⟨kt.ret_bool HF.out,rfl⟩
    · have hsp:0<s.size:=(by omega);have hspI:(0:Int)<(s.size:Int):=(by omega);have hs1I:(1:Int)≤(s.size:Int):=(by omega);have hs1:1≤s.size:=hsp;have hhd:=head_s hsp;by_cases h45:((s[0]'hsp).toNat:Int)=45
      · obtain⟨x,hx⟩: ∃x,s.extract 1 s.size=x:=⟨_,rfl⟩;have hbx:bare s.data.toList=x.data.toList:=(by rw[tail_s hx];unfold bare;rw[if_pos (by rw[hhd,u8_of (n:=45) (by omega) h45];rfl)]);have hxs:x.size≤1100000:=(by rw[←kt.size_len,tail_s hx,List.length_tail,kt.size_len];omega);obtain⟨d0,hd0⟩: ∃c,s[0]'hsp=c:=⟨_,rfl⟩;rw[hd0]at h45;have q1:((d0.toNat:Int)==45)=true:=(by rw[beq_iff_eq];exact h45);clear h45 hz hhd;by_cases hx0:x.size=0
        · have HF:=Lib.hid (num_len hne (Or.inl (by rw[hbx,kt.size_len];exact hx0)));have hx1:(x.size:Int)=0:=(by omega);clear hx0 hbx hne;go_enter Tryz.func196,Tryz.ntmps196;go_wp2_with fail;go_ret;exact⟨kt.ret_bool HF.out,rfl⟩
        by_cases hx18:18<x.size
        · have HF:=Lib.hid (num_len hne (Or.inr (by rw[hbx,kt.size_len];exact hx18)));have hx1:(18:Int)<(x.size:Int):=(by omega);have hx2:decide ((x.size:Int)<1)=false:=(by rw[decide_eq_false_iff_not];omega);clear hx0 hx18 hbx hne;go_enter Tryz.func196,Tryz.ntmps196;go_wp2_with fail;go_ret;exact⟨kt.ret_bool HF.out,rfl⟩
        have hxp:0<x.size:=(by omega);have hxpI:(0:Int)<(x.size:Int):=(by omega);have hx1:decide ((18:Int)<(x.size:Int))=false:=(by rw[decide_eq_false_iff_not];omega);have hx2:decide ((x.size:Int)<1)=false:=(by rw[decide_eq_false_iff_not];omega);obtain⟨c0,hc0⟩: ∃c,x[0]'hxp=c:=⟨_,rfl⟩;by_cases h48:(c0.toNat:Int)=48
        · have HF:=Lib.hid (num_zero hne (by rw[hbx,head_s hxp,hc0,u8_of (n:=48) (by omega) h48];rfl));have q:((c0.toNat:Int)==48)=true:=(by rw[beq_iff_eq];exact h48);clear hx0 hx18 hbx hne h48;go_enter Tryz.func196,Tryz.ntmps196;go_wp2_with fail;go_ret;exact⟨kt.ret_bool HF.out,rfl⟩
        have q:((c0.toNat:Int)==48)=false:=(by rw[beq_eq_false_iff_ne];exact h48);have HB:Hid (∀k (hk:k<x.size),¬ (48≤(x[k].toNat:Int)∧(x[k].toNat:Int)≤57)→false=numOK s.data.toList):=fun k hk h=>num_bad hne (by rw[hbx];exact mem_s hk) h;have HY:Hid ((∀k (hk:k<x.size),48≤(x[k].toNat:Int)∧(x[k].toNat:Int)≤57)→true=numOK s.data.toList):=(by intro h;refine num_yes hne (by rw[hbx,kt.size_len];omega) (by rw[hbx,kt.size_len];omega) (by rw[hbx,head_s hxp,hc0];intro e;apply h48;rw[Option.some.injEq]at e;rw[e];rfl) ?_;intro c hc;rw[hbx]at hc;obtain⟨k,hk,rfl⟩:=List.mem_iff_getElem.1 hc;exact h k (by simpa using hk));clear hx0 hx18 hbx hne h48;go_enter Tryz.func196,Tryz.ntmps196;go_wp2_with fail;go_loop [3] (fun iv=> ∃k:Nat,k≤x.size∧iv= .int .i64 (k:Int)∧Hid (∀j (hj:j<x.size),j<k→48≤(x[j].toNat:Int)∧(x[j].toNat:Int)≤57)) (fun iv=>x.size- (intOf iv).toNat);case atStart=>exact⟨0,Nat.zero_le _,rfl,fun j hj h=>by omega⟩
        case round=>
          obtain⟨k,hk,rfl,hA⟩:=hrel;by_cases hlt:k<x.size
          · have hlt':(k:Int)<(x.size:Int):=(by omega);have HA:Hid (48≤((x[k]'hlt).toNat:Int)∧((x[k]'hlt).toNat:Int)≤57→ ∀j (hj:j<x.size),j<k+1→48≤(x[j].toNat:Int)∧(x[j].toNat:Int)≤57):=by
              intro ht j hj h;by_cases e:j=k
              · subst e;exact ht
              · exact hA.out j hj (by omega)
            have HN:=Lib.hid (HB.out k hlt);clear hc0;obtain⟨c,hc⟩: ∃c,x[k]'hlt=c:=⟨_,rfl⟩;rw[hc]at HA HN;have hcn:=c.toNat_lt;go_wp2_with fail;all_goals first
              | (go_ret;exact⟨kt.ret_bool (HN.out (by omega)),rfl⟩)
              | (go_round
                 case rel=>exact⟨k+1,by omega,by go_num,HA.out (by omega)⟩
                 case measure=>simp[intOf];omega)
              | (exfalso;simp only[Bool.not_eq_true',Bool.not_eq_false',Bool.or_eq_true,Bool.and_eq_true,Bool.or_eq_false_iff,Bool.and_eq_false_iff,decide_eq_true_eq,decide_eq_false_iff_not,beq_iff_eq,bne_iff_ne,bne_eq_false_iff_eq,beq_eq_false_iff_ne,ne_eq,Classical.not_not]at*;omega)
          · obtain rfl:k=x.size:=(by omega);have HE:=Lib.hid (HY.out (fun j hj=>hA.out j hj hj));clear hc0;go_wp2_with fail;go_ret;exact⟨kt.ret_bool HE.out,rfl⟩
      · obtain⟨x,rfl⟩: ∃x,x=s:=⟨_,rfl⟩;have s:=x;have hbx:bare x.data.toList=x.data.toList:=(by unfold bare;rw[if_neg];rw[hhd];intro e;apply h45;rw[Option.some.injEq]at e;rw[e];rfl);obtain⟨d0,hd0⟩: ∃c,x[0]'hsp=c:=⟨_,rfl⟩;rw[hd0]at h45;have q1:((d0.toNat:Int)==45)=false:=(by rw[beq_eq_false_iff_ne];exact h45);clear h45 hz hhd;by_cases hx0:x.size=0
        · have HF:=Lib.hid (num_len hne (Or.inl (by rw[hbx,kt.size_len];exact hx0)));have hx1:(x.size:Int)=0:=(by omega);clear hx0 hbx hne;go_enter Tryz.func196,Tryz.ntmps196;go_wp2_with fail;go_ret;exact⟨kt.ret_bool HF.out,rfl⟩
        by_cases hx18:18<x.size
        · have HF:=Lib.hid (num_len hne (Or.inr (by rw[hbx,kt.size_len];exact hx18)));have hx1:(18:Int)<(x.size:Int):=(by omega);have hx2:decide ((x.size:Int)<1)=false:=(by rw[decide_eq_false_iff_not];omega);clear hx0 hx18 hbx hne;go_enter Tryz.func196,Tryz.ntmps196;go_wp2_with fail;go_ret;exact⟨kt.ret_bool HF.out,rfl⟩
        have hxp:0<x.size:=(by omega);have hxpI:(0:Int)<(x.size:Int):=(by omega);have hx1:decide ((18:Int)<(x.size:Int))=false:=(by rw[decide_eq_false_iff_not];omega);have hx2:decide ((x.size:Int)<1)=false:=(by rw[decide_eq_false_iff_not];omega);obtain⟨c0,rfl⟩: ∃c,c=d0:=⟨_,rfl⟩;have hc0:x[0]'hxp=c0:=hd0;by_cases h48:(c0.toNat:Int)=48
        · have HF:=Lib.hid (num_zero hne (by rw[hbx,head_s hxp,hc0,u8_of (n:=48) (by omega) h48];rfl));have q:((c0.toNat:Int)==48)=true:=(by rw[beq_iff_eq];exact h48);clear hx0 hx18 hbx hne h48;go_enter Tryz.func196,Tryz.ntmps196;go_wp2_with fail;go_ret;exact⟨kt.ret_bool HF.out,rfl⟩
        have q:((c0.toNat:Int)==48)=false:=(by rw[beq_eq_false_iff_ne];exact h48);have HB:Hid (∀k (hk:k<x.size),¬ (48≤(x[k].toNat:Int)∧(x[k].toNat:Int)≤57)→false=numOK x.data.toList):=fun k hk h=>num_bad hne (by rw[hbx];exact mem_s hk) h;have HY:Hid ((∀k (hk:k<x.size),48≤(x[k].toNat:Int)∧(x[k].toNat:Int)≤57)→true=numOK x.data.toList):=(by intro h;refine num_yes hne (by rw[hbx,kt.size_len];omega) (by rw[hbx,kt.size_len];omega) (by rw[hbx,head_s hxp,hc0];intro e;apply h48;rw[Option.some.injEq]at e;rw[e];rfl) ?_;intro c hc;rw[hbx]at hc;obtain⟨k,hk,rfl⟩:=List.mem_iff_getElem.1 hc;exact h k (by simpa using hk));clear hx0 hx18 hbx hne h48;go_enter Tryz.func196,Tryz.ntmps196;go_wp2_with fail;go_loop [3] (fun iv=> ∃k:Nat,k≤x.size∧iv= .int .i64 (k:Int)∧Hid (∀j (hj:j<x.size),j<k→48≤(x[j].toNat:Int)∧(x[j].toNat:Int)≤57)) (fun iv=>x.size- (intOf iv).toNat);case atStart=>exact⟨0,Nat.zero_le _,rfl,fun j hj h=>by omega⟩
        case round=>
          obtain⟨k,hk,rfl,hA⟩:=hrel;by_cases hlt:k<x.size
          · have hlt':(k:Int)<(x.size:Int):=(by omega);have HA:Hid (48≤((x[k]'hlt).toNat:Int)∧((x[k]'hlt).toNat:Int)≤57→ ∀j (hj:j<x.size),j<k+1→48≤(x[j].toNat:Int)∧(x[j].toNat:Int)≤57):=by
              intro ht j hj h;by_cases e:j=k
              · subst e;exact ht
              · exact hA.out j hj (by omega)
            have HN:=Lib.hid (HB.out k hlt);clear hc0 hd0;obtain⟨c,hc⟩: ∃c,x[k]'hlt=c:=⟨_,rfl⟩;rw[hc]at HA HN;have hcn:=c.toNat_lt;go_wp2_with fail;all_goals first
              | (go_ret;exact⟨kt.ret_bool (HN.out (by omega)),rfl⟩)
              | (go_round
                 case rel=>exact⟨k+1,by omega,by go_num,HA.out (by omega)⟩
                 case measure=>simp[intOf];omega)
              | (exfalso;simp only[Bool.not_eq_true',Bool.not_eq_false',Bool.or_eq_true,Bool.and_eq_true,Bool.or_eq_false_iff,Bool.and_eq_false_iff,decide_eq_true_eq,decide_eq_false_iff_not,beq_iff_eq,bne_iff_ne,bne_eq_false_iff_eq,beq_eq_false_iff_ne,ne_eq,Classical.not_not]at*;omega)
          · obtain rfl:k=x.size:=(by omega);have HE:=Lib.hid (HY.out (fun j hj=>hA.out j hj hj));clear hc0 hd0;go_wp2_with fail;go_ret;exact⟨kt.ret_bool HE.out,rfl⟩
end atw
open Go.RowKit
namespace atw
open atp
theorem str_ne {s:ByteArray}(h:0<s.size):s.toList.isEmpty=false∧ ¬s.toList=[]:=by rw[Lib.toList_data];obtain⟨t,ht⟩:=ne_s h;rw[ht];exact⟨rfl,by simp⟩
theorem pre_one (l:List UInt8)(c:UInt8):Lib.hasPrefix l [c]=decide (l.head?=some c):=by
 unfold Lib.hasPrefix;cases l with
 | nil=>simp[List.isPrefixOf]
 | cons d t=>simp only[List.isPrefixOf,Bool.and_true,List.head?_cons,Option.some.injEq];rw[Bool.eq_iff_iff,beq_iff_eq,decide_eq_true_iff];exact eq_comm
theorem trim_45 (l:List UInt8):Lib.trimPrefix l [45]=bare l:=by
 unfold Lib.trimPrefix bare;rw[pre_one];by_cases h:l.head?=some 45
 ·rw[if_pos (by simpa using h),if_pos h];simp
 ·rw[if_neg (by simpa using h),if_neg h]
theorem number_any (s:ByteArray)(w:World)(hs:s.size≤1100000):Calls Tryz.prog 291 #[.string s] w fun e w'=>e= .returned (.bool (numOK s.data.toList))∧w=w':=by
  obtain⟨x,hx⟩: ∃x,x=bs (bare s.data.toList):=⟨_,rfl⟩;have HBX:Hid (bare s.data.toList=x.data.toList):=by rw[hx];rfl
  have hxs:x.size≤1100000:=by
    rw[hx,bs_size];unfold bare;split
    · rw[List.length_tail,kt.size_len];omega
    · rw[kt.size_len];exact hs
  have HTP:Hid (∀w,Calls Tryz.prog 315 #[.string s,.string ⟨#[45]⟩] w fun e w'=>e= .returned (.string x)∧w=w'):=by intro w;refine(Tryz.strings_TrimPrefix s ⟨#[45]⟩ w).mono ?_;rintro e w' ⟨rfl,rfl⟩;refine⟨?_,rfl⟩;rw[hx];show Ending.returned (.string (bs (Lib.trimPrefix s.data.toList [45])))=_;rw[trim_45]
  clear hx;by_cases h0:s.data.toList=[48]
  · have hne:=trivial;have hbx:bare s.data.toList=x.data.toList:=HBX.out;have hxs1:x.data.toList=[48]:=(by rw[←hbx,h0];rfl);have hx1s:x.size=1:=(by rw[←kt.size_len,hxs1];rfl);have hxp:0<x.size:=(by omega);obtain⟨xe1,xe2⟩:=str_ne hxp;have hxpI:(0:Int)<(x.size:Int):=(by omega);have hx1:decide ((18:Int)<(x.size:Int))=false:=(by rw[decide_eq_false_iff_not];omega);obtain⟨c0,hc0⟩: ∃c,x[0]'hxp=c:=⟨_,rfl⟩;have hc48:c0=48:=(by have:=head_s hxp;rw[hxs1,hc0]at this;simpa using this.symm);have q:((c0.toNat:Int)==48)=true:=(by rw[hc48];rfl);have q0:(s.toList==[48])=true:=(by rw[Lib.toList_data,h0];rfl);have HNY:Hid (true=numOK s.data.toList):=(by rw[h0];exact(by decide:true=numOK [48]));have HB:Hid (∀k (hk:k<x.size),¬ (48≤(x[k].toNat:Int)∧(x[k].toNat:Int)≤57)→false=numOK s.data.toList):=(by intro k hk h;exfalso;obtain rfl:k=0:=(by omega);rw[hc0,hc48]at h;exact h (by decide));have HY:Hid ((∀k (hk:k<x.size),48≤(x[k].toNat:Int)∧(x[k].toNat:Int)≤57)→true=numOK s.data.toList):=fun _=>HNY.out;have hxs9:=Lib.hid hx1s;clear h0 hxs1 hx1s hc48 hbx hne;go_enter Tryz.func291,Tryz.ntmps291;go_wp2_with fail;refine(HTP.out _).mono ?_;rintro e w1 ⟨rfl,rfl⟩;go_wp2_with fail;go_loop [4,25] (fun _ iv=> ∃k:Nat,k≤x.size∧iv= .int .i64 (k:Int)∧Hid (∀j (hj:j<x.size),j<k→48≤(x[j].toNat:Int)∧(x[j].toNat:Int)≤57)) (fun _ iv=>x.size- (intOf iv).toNat);case atStart=>exact⟨0,Nat.zero_le _,rfl,fun j hj h=>by omega⟩
    case round=>
      obtain⟨k,hk,rfl,hA⟩:=hrel;by_cases hlt:k<x.size
      · have hlt':(k:Int)<(x.size:Int):=(by omega);have HA:Hid (48≤((x[k]'hlt).toNat:Int)∧((x[k]'hlt).toNat:Int)≤57→ ∀j (hj:j<x.size),j<k+1→48≤(x[j].toNat:Int)∧(x[j].toNat:Int)≤57):=by
          intro ht j hj h;by_cases e:j=k
          · subst e;exact ht
          · exact hA.out j hj (by omega)
        have HN:=Lib.hid (HB.out k hlt);clear hc0;obtain⟨c,hc⟩: ∃c,x[k]'hlt=c:=⟨_,rfl⟩;rw[hc]at HA HN;have hcn:=c.toNat_lt;go_wp2_with fail;all_goals first
          | (go_ret;exact⟨kt.ret_bool (HN.out (by omega)),rfl⟩)
          | (go_round
             case rel=>exact⟨k+1,by omega,by go_num,HA.out (by omega)⟩
             case measure=>simp[intOf];omega)
          | (exfalso;simp only[Bool.not_eq_true',Bool.not_eq_false',Bool.or_eq_true,Bool.and_eq_true,Bool.or_eq_false_iff,Bool.and_eq_false_iff,decide_eq_true_eq,decide_eq_false_iff_not,beq_iff_eq,bne_iff_ne,bne_eq_false_iff_eq,beq_eq_false_iff_ne,ne_eq,Classical.not_not]at*;omega)
      · obtain rfl:k=x.size:=(by omega);have HE:=Lib.hid (HY.out (fun j hj=>hA.out j hj hj));clear hc0;go_wp2_with fail;go_ret;exact⟨kt.ret_bool HE.out,rfl⟩
  · have hne:=h0;have hbx:bare s.data.toList=x.data.toList:=HBX.out;have q0:(s.toList==[48])=false:=(by rw[Lib.toList_data];simpa using h0);clear h0;by_cases hx0:x.size=0
    · have HF:=Lib.hid (num_len hne (Or.inl (by rw[hbx,kt.size_len];exact hx0)));have hx1:x.toList=[]:=(by rw[zero_s hx0,Lib.toList_data];rfl);clear hx0 hbx hne;go_enter Tryz.func291,Tryz.ntmps291;go_wp2_with fail;refine(HTP.out _).mono ?_;rintro e w1 ⟨rfl,rfl⟩;go_wp2_with fail;go_ret;exact⟨kt.ret_bool HF.out,rfl⟩
    by_cases hx18:18<x.size
    · have HF:=Lib.hid (num_len hne (Or.inr (by rw[hbx,kt.size_len];exact hx18)));have hx1:(18:Int)<(x.size:Int):=(by omega);obtain⟨xe1,xe2⟩:=str_ne (s:=x) (by omega);clear hx0 hx18 hbx hne;go_enter Tryz.func291,Tryz.ntmps291;go_wp2_with fail;refine(HTP.out _).mono ?_;rintro e w1 ⟨rfl,rfl⟩;go_wp2_with fail;go_ret;exact⟨kt.ret_bool HF.out,rfl⟩
    have hxp:0<x.size:=(by omega);obtain⟨xe1,xe2⟩:=str_ne hxp;have hxpI:(0:Int)<(x.size:Int):=(by omega);have hx1:decide ((18:Int)<(x.size:Int))=false:=(by rw[decide_eq_false_iff_not];omega);have hx2:decide ((x.size:Int)<1)=false:=(by rw[decide_eq_false_iff_not];omega);obtain⟨c0,hc0⟩: ∃c,x[0]'hxp=c:=⟨_,rfl⟩;by_cases h48:(c0.toNat:Int)=48
    · have HF:=Lib.hid (num_zero hne (by rw[hbx,head_s hxp,hc0,u8_of (n:=48) (by omega) h48];rfl));have q:((c0.toNat:Int)==48)=true:=(by rw[beq_iff_eq];exact h48);clear hx0 hx18 hbx hne h48;go_enter Tryz.func291,Tryz.ntmps291;go_wp2_with fail;refine(HTP.out _).mono ?_;rintro e w1 ⟨rfl,rfl⟩;go_wp2_with fail;go_ret;exact⟨kt.ret_bool HF.out,rfl⟩
    have q:((c0.toNat:Int)==48)=false:=(by rw[beq_eq_false_iff_ne];exact h48);have HB:Hid (∀k (hk:k<x.size),¬ (48≤(x[k].toNat:Int)∧(x[k].toNat:Int)≤57)→false=numOK s.data.toList):=fun k hk h=>num_bad hne (by rw[hbx];exact mem_s hk) h;have HY:Hid ((∀k (hk:k<x.size),48≤(x[k].toNat:Int)∧(x[k].toNat:Int)≤57)→true=numOK s.data.toList):=(by intro h;refine num_yes hne (by rw[hbx,kt.size_len];omega) (by rw[hbx,kt.size_len];omega) (by rw[hbx,head_s hxp,hc0];intro e;apply h48;rw[Option.some.injEq]at e;rw[e];rfl) ?_;intro c hc;rw[hbx]at hc;obtain⟨k,hk,rfl⟩:=List.mem_iff_getElem.1 hc;exact h k (by simpa using hk));clear hx0 hx18 hbx hne h48;go_enter Tryz.func291,Tryz.ntmps291;go_wp2_with fail;refine(HTP.out _).mono ?_;rintro e w1 ⟨rfl,rfl⟩;go_wp2_with fail;go_loop [4,25] (fun _ iv=> ∃k:Nat,k≤x.size∧iv= .int .i64 (k:Int)∧Hid (∀j (hj:j<x.size),j<k→48≤(x[j].toNat:Int)∧(x[j].toNat:Int)≤57)) (fun _ iv=>x.size- (intOf iv).toNat);case atStart=>exact⟨0,Nat.zero_le _,rfl,fun j hj h=>by omega⟩
    case round=>
      obtain⟨k,hk,rfl,hA⟩:=hrel;by_cases hlt:k<x.size
      · have hlt':(k:Int)<(x.size:Int):=(by omega);have HA:Hid (48≤((x[k]'hlt).toNat:Int)∧((x[k]'hlt).toNat:Int)≤57→ ∀j (hj:j<x.size),j<k+1→48≤(x[j].toNat:Int)∧(x[j].toNat:Int)≤57):=by
          intro ht j hj h;by_cases e:j=k
          · subst e;exact ht
          · exact hA.out j hj (by omega)
        have HN:=Lib.hid (HB.out k hlt);clear hc0;obtain⟨c,hc⟩: ∃c,x[k]'hlt=c:=⟨_,rfl⟩;rw[hc]at HA HN;have hcn:=c.toNat_lt;go_wp2_with fail;all_goals first
          | (go_ret;exact⟨kt.ret_bool (HN.out (by omega)),rfl⟩)
          | (go_round
             case rel=>exact⟨k+1,by omega,by go_num,HA.out (by omega)⟩
             case measure=>simp[intOf];omega)
          | (exfalso;simp only[Bool.not_eq_true',Bool.not_eq_false',Bool.or_eq_true,Bool.and_eq_true,Bool.or_eq_false_iff,Bool.and_eq_false_iff,decide_eq_true_eq,decide_eq_false_iff_not,beq_iff_eq,bne_iff_ne,bne_eq_false_iff_eq,beq_eq_false_iff_ne,ne_eq,Classical.not_not]at*;omega)
      · obtain rfl:k=x.size:=(by omega);have HE:=Lib.hid (HY.out (fun j hj=>hA.out j hj hj));clear hc0;go_wp2_with fail;go_ret;exact⟨kt.ret_bool HE.out,rfl⟩
end atw
open Go.RowKit
namespace prw
open run prp
theorem replaceAll_len (c:UInt8)(l:List UInt8):(Lib.replaceAll l [c] []).length≤l.length:=by rw[replaceAll_filter];exact List.length_filter_le _ _
theorem phone_any (s:ByteArray)(w:World)(hs:s.size≤1100000)(hE:Hid (Env w)):Calls Tryz.prog 290 #[.string s] w fun e w'=>e= .returned (pairV (phoneO s.data.toList))∧Below w.heap.size w w':=by
 have CR:=ready_any s true w hs hE;have HM:=Lib.hid (phoneO_of_ready s.data.toList);cases hrs:readyO s.data.toList true with
 | none=>rw[hrs]at CR HM;have CH:=Lib.hid CR;clear hrs CR;go_enter Tryz.func290,Tryz.ntmps290;go_wp2_with fail;refine CH.out.mono ?_;rintro e w1 ⟨rfl,hB1⟩;unfold pairV;go_wp2_with fail;go_ret2;refine⟨?_,hB1⟩;rw[HM.out];rfl
 | some t=>
  have htl:=readyO_len hrs;rw[kt.size_len]at htl;rw[hrs]at CR HM;obtain⟨ta,hta⟩: ∃ta:ByteArray,ta=⟨t.toArray⟩:=⟨_,rfl⟩;have htd:ta.data.toList=t:=by rw[hta]
  rw[pairV_some,←hta]at CR;have CH:=Lib.hid CR;have hl1:=replaceAll_len 32 t;have hts:ta.size≤1100000:=by rw[←kt.size_len,htd];omega
  have CS1:Hid (∀ (W:World) (m:Int),W.cell? ⟨1,0,none⟩=some (.int .i64 m)→Calls Tryz.prog 284 #[.string ta,.string ⟨#[32]⟩,.string ⟨#[]⟩] W fun e w'=>e= .returned (.string ⟨(Lib.replaceAll t [32] []).toArray⟩)∧Below W.heap.size W w'):=by intro W m hm;have:=Tryz.strings_ReplaceAll ta ⟨#[32]⟩ ⟨#[]⟩ m W (by omega) hm (by decide) (by show ta.size+_*0≤_;omega);rw[htd]at this;exact this
  have CS2:Hid (∀ (W:World) (m:Int),W.cell? ⟨1,0,none⟩=some (.int .i64 m)→Calls Tryz.prog 284 #[.string ⟨(Lib.replaceAll t [32] []).toArray⟩,.string ⟨#[45]⟩,.string ⟨#[]⟩] W fun e w'=>e= .returned (.string ⟨(Lib.replaceAll (Lib.replaceAll t [32] []) [45] []).toArray⟩)∧Below W.heap.size W w'):=by intro W m hm;have hz:(⟨(Lib.replaceAll t [32] []).toArray⟩:ByteArray).size≤1100000:=(by rw[←kt.size_len];show(Lib.replaceAll t [32] []).length≤_;omega);exact Tryz.strings_ReplaceAll ⟨(Lib.replaceAll t [32] []).toArray⟩ ⟨#[45]⟩ ⟨#[]⟩ m W (by omega) hm (by decide) (by show _+_*0≤_;omega)
  clear hrs CR htd hl1 hts htl hta;generalize(⟨(Lib.replaceAll t [32] []).toArray⟩:ByteArray)=t1 at CS1 CS2;go_enter Tryz.func290,Tryz.ntmps290;go_wp2_with fail;refine CH.out.mono ?_;rintro e w1 ⟨rfl,hB1⟩;have hE1:=env_below hE.out hB1;obtain⟨m1,hm1⟩:=hE1;have C1:=Lib.hid (CS1.out w1 m1 hm1);clear hm1;go_wp2_with fail;refine C1.out.mono ?_;rintro e w2 ⟨rfl,hB2⟩;have hB12:=hB1.trans (hB2.mono hB1.size);have hE2:=env_below hE.out hB12;obtain⟨m2,hm2⟩:=hE2;have C2:=Lib.hid (CS2.out w2 m2 hm2);clear hm2;go_wp2_with fail;refine C2.out.mono ?_;rintro e w3 ⟨rfl,hB3⟩;go_wp2_with fail;go_ret2;refine⟨?_,hB12.trans (hB3.mono hB12.size)⟩;rw[HM.out];rfl
end prw
open Go.RowKit
namespace dnw
open dnp
def KeysE (n:List (List Av))(w:World)(e:Ending)(w':World):Prop:=Below w.heap.size w w'∧if nameOK n=true then∃ao cap,e= .returned (.tuple #[.slice ao n.length cap,.int .i64 0])∧n.length≤cap∧tupw.Strs w' ao (keysB n)else e= .returned (.tuple #[.slice none 0 0,.int .i64 4])
theorem ownT_strs {w:World}{B:Nat}{ao:Option Addr}{m cap:Nat}{l:List ByteArray}(h:prw.OwnT w B (.slice ao m cap) l):tupw.Strs w ao l∧m=l.length∧m≤cap:=by obtain⟨ao',cap',hv,hc,hcs⟩:=prw.ownT_cells h;simp only[Value.slice.injEq]at hv;obtain⟨rfl,rfl,rfl⟩:=hv;refine⟨fun i hi=> ?_,rfl,hc⟩;obtain⟨g,hg,_,hcell⟩:=hcs (by intro e;rw[e]at hi;simp at hi);exact⟨g,0,hg,hcell i _ (List.getElem?_eq_getElem hi)⟩
theorem revTake_step (n:List (List Av))(i:Nat)(hi:i<n.length):(n.reverse.take (i+1)).map (fun l=>bytes (keyL l))=(n.reverse.take i).map (fun l=>bytes (keyL l))++[bytes (keyL (n[n.length-1-i]'(by omega)))]:=by rw[List.take_succ_eq_append_getElem (by simpa using hi),List.map_append];simp only[List.getElem_reverse];rfl
theorem keys_any (ao:Option Addr)(cap:Nat)(n:List (List Av))(w:World)(hA:Hid (Rdns w ao n))(hE:Hid (prw.Env w))(hT:Hid (Tabs w))(hS:Hid (∀l∈n,l.length≤4→Smalls l)):
  Calls Tryz.prog 292 #[.slice ao n.length cap] w fun e w'=>KeysE n w e w':=by
 have CR:=right_any ao cap n w hA hE hS;obtain⟨m,hm⟩: ∃m,m=n.length:=⟨_,rfl⟩;have HM:=Lib.hid hm;rw[←hm]at CR ⊢;clear hm;cases hok:nameOK n with
 | false=>rw[hok]at CR;have HC:=Lib.hid CR;have HOK:=Lib.hid hok;clear CR hok;go_enter Tryz.func292,Tryz.ntmps292;go_wp2_with fail;refine HC.out.mono ?_;rintro e w1 ⟨rfl,hB1⟩;go_wp2_with fail;go_ret2;refine⟨hB1,?_⟩;rw[if_neg (by rw[HOK.out];simp)];rfl
 | true=>
  rw[hok]at CR;have HC:=Lib.hid CR;have HOK:=Lib.hid hok;have hf:=nameOK_facts hok;have hm12:m≤12:=by rw[HM.out];exact hf.1
  have HL:=Lib.hid hf.2;clear CR hok hf;go_enter Tryz.func292,Tryz.ntmps292;go_wp2_with fail;refine HC.out.mono ?_;rintro e w1 ⟨rfl,hB1⟩;have HB1:=Lib.hid hB1;have hsz1:=hB1.size;clear hB1 HC;go_wp2_with fail;go_loopw [4,5,11] (fun rv _ iv wr=> ∃ (i:Nat),i≤m∧iv= .int .i64 (i:Int)∧Hid (prw.OwnT wr w1.heap.size rv ((n.reverse.take i).map fun l=>bytes (keyL l)))∧Below w1.heap.size w1 wr) (fun _ _ iv _=>m- (intOf iv).toNat);case atStart=>exact⟨0,Nat.zero_le _,rfl,World.ownsRow_nil _ _ _ _,Below.refl _ _⟩
  case round=>
   obtain⟨i,hi,rfl,hO,hB⟩:=hrel;have hsz:=hB.size;obtain⟨aoR,mR,capR,rfl,hmR⟩:=ownT_form hO.out;by_cases hlt:i<m
   ·have hlt':(i:Int)<(m:Int):=(by omega);have hil:i<n.length:=(by rw[←HM.out];exact hlt);have HBT:=Lib.hid (HB1.out.trans (hB.mono hsz1));obtain⟨j,hj⟩: ∃j,j=m-1-i:=⟨_,rfl⟩;have hjl:j<n.length:=(by rw[←HM.out];omega);have hjm:(j:Int)<(m:Int):=(by omega);have hj0:(0:Int)≤(j:Int):=(by omega);have ej:(m:Int)-1- (i:Int)=(j:Int):=(by omega);have w1e:IntKind.i64.wrap ((m:Int)-1)=(m:Int)-1:=IntWalk.i64_in _ (by omega);have w2e:IntKind.i64.wrap ((m:Int)-1- (i:Int))=(j:Int):=(by rw[ej];exact IntWalk.i64_in _ (by omega));have HST:=revTake_step n i hil;have hje:n.length-1-i=j:=(by rw[←HM.out];exact hj.symm);have HST2:(n.reverse.take (i+1)).map (fun l=>bytes (keyL l))=(n.reverse.take i).map (fun l=>bytes (keyL l))++[bytes (keyL n[j])]:=(by rw[HST];congr 4;simp only[hje]);obtain⟨b,o,ao',cap',hao,hc0,hcc,hAv⟩:=(rdns_below hA.out HBT.out) j hjl;subst hao;have hro:=HL.out n[j] (List.getElem_mem hjl);have CK:=key_any ao' cap' n[j] wr (Lib.hid hAv) (Lib.hid (prw.env_below hE.out HBT.out)) (Lib.hid (tabs_below hT.out HBT.out)) hro;have hst:=Lib.hid HST2;generalize n[j]=l at hc0 CK hst;obtain⟨p,hp⟩: ∃p,p=l.length:=⟨_,rfl⟩;rw[←hp]at hc0 CK;have HCK:=Lib.hid CK;clear CK HST HST2 hje hro hAv hcc hp hj;go_wp2_with fail;refine HCK.out.mono ?_;rintro e w2 ⟨rfl,hB2⟩;obtain⟨ao7,m7,cap7,w8,hap,hO8,_,hB8⟩:=ownT_appG (bytes (keyL l)) (ownT_below hO.out hB2) (by rw[List.length_map,List.length_take,List.length_reverse];omega) (Nat.le_trans hsz hB2.size);have HO8:Hid (prw.OwnT w8 w1.heap.size (.slice ao7 m7 cap7) ((n.reverse.take (i+1)).map fun l=>bytes (keyL l))):=(by show prw.OwnT _ _ _ _;rw[hst.out];exact hO8);have HB8:=Lib.hid ((hB.trans (hB2.mono hsz)).trans hB8);clear hO8 hB8 hB2 HCK hst;generalize bytes (keyL l)=KB at hap ⊢;go_wp2_with (at_builtin;refine Lib.wpList_append_run _ rfl _ _ _ _ rfl _ _ rfl rfl _ _ hap ?_);go_roundw;case rel=>exact⟨i+1,by omega,by go_num,HO8,HB8.out⟩
    case measure=>simp[intOf]<;>omega
   ·obtain rfl:i=m:=(by omega);have hO1:=hO.out;rw[HM.out,List.take_of_length_le (by rw[List.length_reverse];exact Nat.le_refl _)]at hO1;obtain⟨hst,hml,hmc⟩:=ownT_strs hO1;rw[List.length_map,List.length_reverse]at hml;have HST:=Lib.hid hst;have HML:=Lib.hid hml;clear hO1 hst hml;go_wp2_with fail;go_ret2;refine⟨HB1.out.trans (hB.mono hsz1),?_⟩;rw[if_pos HOK.out];have h1:=HML.out;subst h1;exact⟨aoR,capR,rfl,hmc,HST.out⟩
end dnw
open Go.RowKit
namespace atw
open atp
theorem bs_ne {l:List UInt8}(h:l≠[]):(bs l).toList.isEmpty=false∧ ¬ (bs l).toList=[]:=by
 rw[Lib.toList_data,bs_data];refine⟨?_,h⟩;cases l with
 | nil=>exact absurd rfl h
 | cons a t=>rfl
def FormE (o:Option (List UInt8))(w:World)(e:Ending)(w':World):Prop:=Below w.heap.size w w'∧match o with
 | none=> ∃u,e= .returned (.tuple #[.string u,.bool false])
 | some u=>e= .returned (.tuple #[.string (bs u),.bool true])
theorem formE_none {o:Option (List UInt8)}{w w':World}{u:ByteArray}(h:o=none)(hb:Below w.heap.size w w'):FormE o w (.returned (.tuple #[.string u,.bool false])) w':=by subst h;exact⟨hb,u,rfl⟩
theorem formE_some {o:Option (List UInt8)}{w w':World}{u:List UInt8}(h:o=some u)(hb:Below w.heap.size w w'):FormE o w (.returned (.tuple #[.string (bs u),.bool true])) w':=by subst h;exact⟨hb,rfl⟩
theorem formE_is {o:Option (List UInt8)}{w w':World}{s:ByteArray}(h:o=some s.data.toList)(hb:Below w.heap.size w w'):FormE o w (.returned (.tuple #[.string s,.bool true])) w':=by subst h;refine⟨hb,?_⟩;show _=Ending.returned (.tuple #[.string (bs s.data.toList),.bool true]);rw[bs_of]
theorem join_flat (l:List (List UInt8)):Lib.join l []=l.flatten:=by
 cases l with
 | nil=>rfl
 | cons x r=>rw[Lib.join_cons];unfold Lib.joinTail;simp
theorem join_any (ao:Option Addr)(c:Nat)(l:List ByteArray)(w:World)(hS:Hid (tupw.Strs w ao l))(hc:l.length≤c)(hlen:l.length≤1000)(hb:(joinK l).length≤1100000):
  Calls Tryz.prog 165 #[.slice ao l.length c,.string ⟨#[]⟩] w fun e w'=>e= .returned (.string (bs (joinK l)))∧Below w.heap.size w w':=by
 by_cases h0:l=[]
 ·subst h0;refine(Tryz.strings_Join_none ao c ⟨#[]⟩ w).mono ?_;rintro e w' ⟨rfl,rfl⟩;exact⟨rfl,Below.refl _ _⟩
 ·have hl:0<l.length:=List.length_pos_iff.2 h0;obtain⟨b,o,rfl,hc0⟩:=hS.out 0 hl;have hlt:=World.block_lt_of_cell? w _ hc0;refine(Tryz.strings_Join b o c l ⟨#[]⟩ w (fun j x hj=> ?_) hlt (by omega) hc ?_).mono ?_
  ·obtain⟨hjl,rfl⟩:=List.getElem?_eq_some_iff.1 hj;obtain⟨b',o',e',h'⟩:=hS.out j hjl;simp only[Option.some.injEq,Addr.mk.injEq,and_true]at e';obtain⟨rfl,rfl⟩:=e';exact h'
  ·show(Lib.join (l.map (·.data.toList)) []).length≤_;rw[join_flat];unfold joinK at hb;omega
  ·rintro e w' ⟨rfl,hB⟩;refine⟨?_,hB⟩;show Ending.returned (.string (bs (Lib.join (l.map (·.data.toList)) [])))=_;rw[join_flat];rfl
theorem form_any (nm:ByteArray)(syn:Int)(sg:Bool)(s:ByteArray)(w:World)(hs:s.size≤1000)(h1:1≤syn)(h7:syn≤7)(hE:Hid (prw.Env w))(hT:Hid (dnw.Tabs w)):
  Calls Tryz.prog 261 #[.agg #[.string nm,.int .i64 syn,.bool sg],.string s] w (FormE (formO syn s.data.toList) w):=by
 obtain⟨W0,hW0⟩: ∃W,w.alloc (.cells #[.string nm,.int .i64 syn,.bool sg] 108)=W:=⟨_,rfl⟩;have hB0:Below w.heap.size w W0:=by rw[←hW0];exact(Below.refl _ _).alloc (Nat.le_refl _) _
 have HB0:=Lib.hid hB0;have hw0:w.heap.size≤W0.heap.size:=hB0.size;have HE0:=Lib.hid (prw.env_below hE.out hB0);have HT0:=Lib.hid (dnw.tabs_below hT.out hB0);have k1:W0.cell? ⟨w.heap.size,1,none⟩=some (.int .i64 syn):=by rw[←hW0,World.cell?_alloc_new];rfl
 clear hB0;have hcs:syn=1∨syn=2∨syn=3∨syn=4∨syn=5∨syn=6∨syn=7:=by omega
 clear h1 h7;rcases hcs with rfl | rfl | rfl | rfl | rfl | rfl | rfl
 ·have HF:formO 1 s.data.toList=ne0 (prp.readyO s.data.toList true):=rfl;rw[HF];have HC:Hid (Calls Tryz.prog 134 #[.string s,.bool true] W0 fun e w'=>e= .returned (prw.pairV (prp.readyO s.data.toList true))∧Below W0.heap.size W0 w'):=prw.ready_any s true W0 (by omega) HE0;clear HF;cases ho:prp.readyO s.data.toList true with
  | none=>rw[ho]at HC;rw[show prw.pairV none= .tuple #[.string ⟨#[]⟩,.int .i64 19]from rfl]at HC;clear ho;go_enter Tryz.func261,Tryz.ntmps261;go_wp2_with fail;refine HC.out.mono ?_;rintro e w1 ⟨rfl,hB1⟩;have HB1:=Lib.hid (HB0.out.trans (hB1.mono hw0));clear hB1;go_wp2_with fail;go_ret2;exact formE_none rfl HB1.out
  | some u=>
   rw[ho]at HC;have HC2:Hid (Calls Tryz.prog 134 #[.string s,.bool true] W0 fun e w'=>e= .returned (.tuple #[.string (bs u),.int .i64 0])∧Below W0.heap.size W0 w'):=HC;clear HC ho;by_cases hu:u=[]
   ·have hue:(bs u).toList=[]:=(by rw[hu,Lib.toList_data];rfl);have HN:Hid (ne0 (some u)=none):=(by show _=_;rw[hu];rfl);clear hu;go_enter Tryz.func261,Tryz.ntmps261;go_wp2_with fail;refine HC2.out.mono ?_;rintro e w1 ⟨rfl,hB1⟩;have HB1:=Lib.hid (HB0.out.trans (hB1.mono hw0));clear hB1;go_wp2_with fail;go_ret2;exact formE_none HN.out HB1.out
   ·have HN:Hid (ne0 (some u)=some u):=ne0_some hu;obtain⟨hu1,hu2⟩:=bs_ne hu;clear hu;go_enter Tryz.func261,Tryz.ntmps261;go_wp2_with fail;refine HC2.out.mono ?_;rintro e w1 ⟨rfl,hB1⟩;have HB1:=Lib.hid (HB0.out.trans (hB1.mono hw0));clear hB1;go_wp2_with fail;go_ret2;exact formE_some HN.out HB1.out
 ·have HF:formO 2 s.data.toList=ne0 (prp.readyO s.data.toList false):=rfl;rw[HF];have HC:Hid (Calls Tryz.prog 134 #[.string s,.bool false] W0 fun e w'=>e= .returned (prw.pairV (prp.readyO s.data.toList false))∧Below W0.heap.size W0 w'):=prw.ready_any s false W0 (by omega) HE0;clear HF;cases ho:prp.readyO s.data.toList false with
  | none=>rw[ho]at HC;rw[show prw.pairV none= .tuple #[.string ⟨#[]⟩,.int .i64 19]from rfl]at HC;clear ho;go_enter Tryz.func261,Tryz.ntmps261;go_wp2_with fail;refine HC.out.mono ?_;rintro e w1 ⟨rfl,hB1⟩;have HB1:=Lib.hid (HB0.out.trans (hB1.mono hw0));clear hB1;go_wp2_with fail;go_ret2;exact formE_none rfl HB1.out
  | some u=>
   rw[ho]at HC;have HC2:Hid (Calls Tryz.prog 134 #[.string s,.bool false] W0 fun e w'=>e= .returned (.tuple #[.string (bs u),.int .i64 0])∧Below W0.heap.size W0 w'):=HC;clear HC ho;by_cases hu:u=[]
   ·have hue:(bs u).toList=[]:=(by rw[hu,Lib.toList_data];rfl);have HN:Hid (ne0 (some u)=none):=(by show _=_;rw[hu];rfl);clear hu;go_enter Tryz.func261,Tryz.ntmps261;go_wp2_with fail;refine HC2.out.mono ?_;rintro e w1 ⟨rfl,hB1⟩;have HB1:=Lib.hid (HB0.out.trans (hB1.mono hw0));clear hB1;go_wp2_with fail;go_ret2;exact formE_none HN.out HB1.out
   ·have HN:Hid (ne0 (some u)=some u):=ne0_some hu;obtain⟨hu1,hu2⟩:=bs_ne hu;clear hu;go_enter Tryz.func261,Tryz.ntmps261;go_wp2_with fail;refine HC2.out.mono ?_;rintro e w1 ⟨rfl,hB1⟩;have HB1:=Lib.hid (HB0.out.trans (hB1.mono hw0));clear hB1;go_wp2_with fail;go_ret2;exact formE_some HN.out HB1.out
 ·go_enter Tryz.func261,Tryz.ntmps261;go_wp2_with fail;go_ret2;exact formE_is rfl HB0.out
 ·have HC:Hid (∀w,Calls Tryz.prog 291 #[.string s] w fun e w'=>e= .returned (.bool (numOK s.data.toList))∧w=w'):=fun w=>number_any s w (by omega);have HF:formO 4 s.data.toList=if numOK s.data.toList=true then some s.data.toList else none:=rfl;rw[HF];clear HF;cases hn:numOK s.data.toList with
  | true=>rw[hn]at HC;clear hn;go_enter Tryz.func261,Tryz.ntmps261;go_wp2_with fail;refine(HC.out _).mono ?_;rintro e w1 ⟨rfl,rfl⟩;go_wp2_with fail;go_ret2;exact formE_is rfl HB0.out
  | false=>rw[hn]at HC;clear hn;go_enter Tryz.func261,Tryz.ntmps261;go_wp2_with fail;refine(HC.out _).mono ?_;rintro e w1 ⟨rfl,rfl⟩;go_wp2_with fail;go_ret2;exact formE_none rfl HB0.out
 ·have HF:formO 5 s.data.toList=if s.data.toList=tT∨s.data.toList=tF then some s.data.toList else none:=rfl;rw[HF];clear HF;by_cases e1:s.data.toList=tT
  ·have q1:(s.toList==[84,82,85,69])=true:=(by rw[Lib.toList_data,e1];rfl);rw[if_pos (Or.inl e1)];clear e1;go_enter Tryz.func261,Tryz.ntmps261;go_wp2_with fail;go_ret2;exact formE_is rfl HB0.out
  ·have q1:(s.toList==[84,82,85,69])=false:=(by rw[Lib.toList_data];simpa[tT]using e1);by_cases e2:s.data.toList=tF
   ·have q2:(s.toList==[70,65,76,83,69])=true:=(by rw[Lib.toList_data,e2];rfl);rw[if_pos (Or.inr e2)];clear e1 e2;go_enter Tryz.func261,Tryz.ntmps261;go_wp2_with fail;go_ret2;exact formE_is rfl HB0.out
   ·have q2:(s.toList==[70,65,76,83,69])=false:=(by rw[Lib.toList_data];simpa[tF]using e2);rw[if_neg (by rintro(h | h);exact e1 h;exact e2 h)];clear e1 e2;go_enter Tryz.func261,Tryz.ntmps261;go_wp2_with fail;go_ret2;exact formE_none rfl HB0.out
 ·have HF:formO 6 s.data.toList=nameK s.data.toList:=rfl;rw[HF];clear HF;have HP:Hid (Calls Tryz.prog 94 #[.string s] W0 fun e w'=>Below W0.heap.size W0 w'∧ ∃ao cap,e= .returned (.tuple #[.slice ao (dnw.parseV s).1.length cap,.int .i64 (dnw.parseV s).2])∧dnw.Rdns w' ao (dnw.parseV s).1):=
   (dnw.parse_any s W0 (by omega) HE0 HT0).mono fun e w' h=>dnw.parseE_V h
  have hV:dnw.parseV s=match dnw.parseR s.data.toList with
    | none=>([],4)
    | some n=>(n,0):=by unfold dnw.parseV;rw[if_neg (by omega)]<;>cases dnw.parseR s.data.toList<;>rfl
  unfold nameK;cases hp:dnw.parseR s.data.toList with
  | none=>rw[hp]at hV;simp only at hV;rw[hV]at HP;simp only[List.length_nil]at HP;have HOKN:dnw.nameOK []=true:=(by decide);clear hV hp;go_enter Tryz.func261,Tryz.ntmps261;go_wp2_with fail;refine HP.out.mono ?_;rintro e w1 ⟨hB1,ao,cap,rfl,hR⟩;have HR:=Lib.hid hR;have HB1:=Lib.hid (HB0.out.trans (hB1.mono hw0));have HE1:=Lib.hid (prw.env_below HE0.out hB1);have HT1:=Lib.hid (dnw.tabs_below HT0.out hB1);clear hR hB1;go_wp2_with fail;refine(dnw.keys_any ao cap [] w1 HR HE1 HT1 (fun l hl=>by cases hl)).mono ?_;intro e w2 hK;obtain⟨hB2,hK2⟩:=hK;rw[if_pos HOKN]at hK2;obtain⟨ao2,cap2,rfl,_,hS⟩:=hK2;have HB2:=Lib.hid (HB1.out.trans (hB2.mono HB1.out.size));clear hB2 hS HOKN;go_wp2_with fail;refine(Tryz.strings_Join_none ao2 cap2 ⟨#[]⟩ w2).mono ?_;rintro e w3 ⟨rfl,hw3⟩;have HB3:Hid (Below w.heap.size w w3):=(by rw[hw3];exact HB2.out);clear hw3;go_wp2_with fail;go_ret2;exact formE_none rfl HB3.out
  | some n=>rw[hp]at hV;simp only at hV;rw[hV]at HP;simp only at HP;have hok:=parseR_ok hp;have HSM:Hid (∀l∈n,l.length≤4→dnw.Smalls l):=fun l hl _=>name_smalls hok l hl;have HJL:=Lib.hid (joinK_len n hok);have HNL:Hid (n.length≤12):=(by show _≤_;unfold dnw.nameOK at hok;rw[Bool.and_eq_true,decide_eq_true_eq]at hok;exact hok.1);have HOKN:=Lib.hid hok;obtain⟨m,hm⟩: ∃m,m=n.length:=⟨_,rfl⟩;have HM:=Lib.hid hm;rw[←hm]at HP;have HKA:Hid (∀ao cap w,dnw.Rdns w ao n→prw.Env w→dnw.Tabs w→Calls Tryz.prog 292 #[.slice ao m cap] w fun e w'=>Below w.heap.size w w'∧ ∃ao2 cap2,e= .returned (.tuple #[.slice ao2 m cap2,.int .i64 0])∧m≤cap2∧tupw.Strs w' ao2 (dnw.keysB n)):=(by intro ao cap w h1 h2 h3;rw[hm];refine(dnw.keys_any ao cap n w (Lib.hid h1) (Lib.hid h2) (Lib.hid h3) HSM).mono fun e w' h=> ?_;obtain⟨k1,k2⟩:=h;rw[if_pos HOKN.out]at k2;exact⟨k1,k2⟩);have HJ:Hid (∀ao cap w,tupw.Strs w ao (dnw.keysB n)→m≤cap→Calls Tryz.prog 165 #[.slice ao m cap,.string ⟨#[]⟩] w fun e w'=>e= .returned (.string (bs (joinK (dnw.keysB n))))∧Below w.heap.size w w'):=(by intro ao cap w h1 h2;have hl:(dnw.keysB n).length=m:=(by rw[dnw.keysB_len,hm]);have:=join_any ao cap (dnw.keysB n) w (Lib.hid h1) (by rw[hl];exact h2) (by have:=HNL.out;omega) (by have:=HJL.out;omega);rw[hl]at this;exact this);clear hV hp hok hm;go_enter Tryz.func261,Tryz.ntmps261;go_wp2_with fail;refine HP.out.mono ?_;rintro e w1 ⟨hB1,ao,cap,rfl,hR⟩;have HR:=Lib.hid hR;have HB1:=Lib.hid (HB0.out.trans (hB1.mono hw0));have HE1:=Lib.hid (prw.env_below HE0.out hB1);have HT1:=Lib.hid (dnw.tabs_below HT0.out hB1);clear hR hB1;go_wp2_with fail;refine(HKA.out _ _ _ HR.out HE1.out HT1.out).mono ?_;rintro e w2 ⟨hB2,ao2,cap2,rfl,hc2,hS⟩;have HS:=Lib.hid hS;have HB2:=Lib.hid (HB1.out.trans (hB2.mono HB1.out.size));clear hB2 hS;go_wp2_with fail;refine(HJ.out _ _ _ HS.out hc2).mono ?_;rintro e w3 ⟨rfl,hB3⟩;have HB3:=Lib.hid (HB2.out.trans (hB3.mono HB2.out.size));clear hB3;go_wp2_with fail;go_ret2;exact formE_some rfl HB3.out
 ·have HF:formO 7 s.data.toList=ne0 (prp.phoneO s.data.toList):=rfl;rw[HF];have HC:Hid (Calls Tryz.prog 290 #[.string s] W0 fun e w'=>e= .returned (prw.pairV (prp.phoneO s.data.toList))∧Below W0.heap.size W0 w'):=prw.phone_any s W0 (by omega) HE0;clear HF;cases ho:prp.phoneO s.data.toList with
  | none=>rw[ho]at HC;rw[show prw.pairV none= .tuple #[.string ⟨#[]⟩,.int .i64 19]from rfl]at HC;clear ho;go_enter Tryz.func261,Tryz.ntmps261;go_wp2_with fail;refine HC.out.mono ?_;rintro e w1 ⟨rfl,hB1⟩;have HB1:=Lib.hid (HB0.out.trans (hB1.mono hw0));clear hB1;go_wp2_with fail;go_ret2;exact formE_none rfl HB1.out
  | some u=>
   rw[ho]at HC;have HC2:Hid (Calls Tryz.prog 290 #[.string s] W0 fun e w'=>e= .returned (.tuple #[.string (bs u),.int .i64 0])∧Below W0.heap.size W0 w'):=HC;clear HC ho;by_cases hu:u=[]
   ·have hue:(bs u).toList=[]:=(by rw[hu,Lib.toList_data];rfl);have HN:Hid (ne0 (some u)=none):=(by show _=_;rw[hu];rfl);clear hu;go_enter Tryz.func261,Tryz.ntmps261;go_wp2_with fail;refine HC2.out.mono ?_;rintro e w1 ⟨rfl,hB1⟩;have HB1:=Lib.hid (HB0.out.trans (hB1.mono hw0));clear hB1;go_wp2_with fail;go_ret2;exact formE_none HN.out HB1.out
   ·have HN:Hid (ne0 (some u)=some u):=ne0_some hu;obtain⟨hu1,hu2⟩:=bs_ne hu;clear hu;go_enter Tryz.func261,Tryz.ntmps261;go_wp2_with fail;refine HC2.out.mono ?_;rintro e w1 ⟨rfl,hB1⟩;have HB1:=Lib.hid (HB0.out.trans (hB1.mono hw0));clear hB1;go_wp2_with fail;go_ret2;exact formE_some HN.out HB1.out
def normV (o:List UInt8 × Int):Value:= .tuple #[.string (bs o.1),.int .i64 o.2]
theorem known_any (nm:ByteArray)(syn:Int)(sg:Bool)(w:World):Calls Tryz.prog 260 #[.agg #[.string nm,.int .i64 syn,.bool sg]] w fun e w'=>e= .returned (.bool (decide (1≤syn∧syn≤7)))∧Below w.heap.size w w':=by
 obtain⟨W0,hW0⟩: ∃W,w.alloc (.cells #[.string nm,.int .i64 syn,.bool sg] 108)=W:=⟨_,rfl⟩;have HB0:Hid (Below w.heap.size w W0):=by rw[←hW0];exact(Below.refl _ _).alloc (Nat.le_refl _) _
 have k1:W0.cell? ⟨w.heap.size,1,none⟩=some (.int .i64 syn):=by rw[←hW0,World.cell?_alloc_new];rfl
 by_cases h1:1≤syn
 ·by_cases h7:syn≤7
  ·have HD:Hid (decide (1≤syn∧syn≤7)=true):=decide_eq_true ⟨h1,h7⟩;go_enter Tryz.func260,Tryz.ntmps260;go_wp2_with fail;go_ret;first | exact⟨by rw[HD.out];rfl,HB0.out⟩ | exact⟨rfl,HB0.out⟩
  ·have HD:Hid (decide (1≤syn∧syn≤7)=false):=decide_eq_false (fun h=>h7 h.2);have q:decide (syn≤7)=false:=decide_eq_false h7;clear h7;go_enter Tryz.func260,Tryz.ntmps260;go_wp2_with fail;go_ret;first | exact⟨by rw[HD.out];rfl,HB0.out⟩ | exact⟨rfl,HB0.out⟩
 ·have HD:Hid (decide (1≤syn∧syn≤7)=false):=decide_eq_false (fun h=>h1 h.1);have q:decide (1≤syn)=false:=decide_eq_false h1;go_enter Tryz.func260,Tryz.ntmps260;go_wp2_with fail;go_ret;first | exact⟨by rw[HD.out];rfl,HB0.out⟩ | exact⟨rfl,HB0.out⟩
theorem normal_any (nm:ByteArray)(syn:Int)(sg:Bool)(s:ByteArray)(w:World)(hs:s.size≤140737488351232)(hE:Hid (prw.Env w))(hT:Hid (dnw.Tabs w)):
  Calls Tryz.prog 200 #[.agg #[.string nm,.int .i64 syn,.bool sg],.string s] w fun e w'=>e= .returned (normV (normL syn s.data.toList))∧Below w.heap.size w w':=by
 obtain⟨W0,hW0⟩: ∃W,w.alloc (.cells #[.string nm,.int .i64 syn,.bool sg] 108)=W:=⟨_,rfl⟩;have hB0:Below w.heap.size w W0:=by rw[←hW0];exact(Below.refl _ _).alloc (Nat.le_refl _) _
 have HB0:=Lib.hid hB0;have hw0:w.heap.size<W0.heap.size:=by rw[←hW0];simp
 have HE0:=Lib.hid (prw.env_below hE.out hB0);have HT0:=Lib.hid (dnw.tabs_below hT.out hB0);have k0:W0.cell? ⟨w.heap.size,0,none⟩=some (.string nm):=by rw[←hW0,World.cell?_alloc_new];rfl
 have k1:W0.cell? ⟨w.heap.size,1,none⟩=some (.int .i64 syn):=by rw[←hW0,World.cell?_alloc_new];rfl
 have k2:W0.cell? ⟨w.heap.size,2,none⟩=some (.bool sg):=by rw[←hW0,World.cell?_alloc_new];rfl
 have HK:Hid (∀w,Calls Tryz.prog 260 #[.agg #[.string nm,.int .i64 syn,.bool sg]] w fun e w'=>e= .returned (.bool (decide (1≤syn∧syn≤7)))∧Below w.heap.size w w'):=fun w=>known_any nm syn sg w;clear hB0;by_cases hsy:1≤syn∧syn≤7
 ·rw[decide_eq_true hsy]at HK;by_cases hlong:1000<s.size
  ·rw[normL_long hsy (by rw[kt.size_len];exact hlong)];have hlI:(1000:Int)<(s.size:Int):=(by omega);clear hlong hsy;go_enter Tryz.func200,Tryz.ntmps200;go_wp2_with fail;refine(HK.out _).mono ?_;rintro e w1 ⟨rfl,hB1⟩;have HB1:=Lib.hid (HB0.out.trans (hB1.mono (Nat.le_of_lt hw0)));clear hB1 hW0;go_wp2_with fail;go_ret2;exact⟨rfl,HB1.out⟩
  ·have hlI: ¬ (1000:Int)<(s.size:Int):=(by omega);by_cases h0:s.data.toList=[]
   ·rw[normL_nil hsy h0];have hz:s.toList=[]:=(by rw[Lib.toList_data];exact h0);clear hsy hlong h0;go_enter Tryz.func200,Tryz.ntmps200;go_wp2_with fail;refine(HK.out _).mono ?_;rintro e w1 ⟨rfl,hB1⟩;have HB1:=Lib.hid (HB0.out.trans (hB1.mono (Nat.le_of_lt hw0)));clear hB1 hW0;go_wp2_with fail;go_ret2;exact⟨rfl,HB1.out⟩
   ·have HNF:=Lib.hid (normL_form hsy (by rw[kt.size_len];omega) h0);have HFM:Hid (∀w,prw.Env w→dnw.Tabs w→Calls Tryz.prog 261 #[.agg #[.string nm,.int .i64 syn,.bool sg],.string s] w (FormE (formO syn s.data.toList) w)):=fun w h1 h2=>form_any nm syn sg s w (by omega) hsy.1 hsy.2 (Lib.hid h1) (Lib.hid h2);obtain⟨z1,z2⟩:=str_ne (s:=s) (by
     rcases Nat.eq_zero_or_pos s.size with h | h
     ·exact absurd (by rw[zero_s h];rfl) h0
     ·exact h)
    clear hsy hlong h0;go_enter Tryz.func200,Tryz.ntmps200;go_wp2_with fail;refine(HK.out _).mono ?_;rintro e w1 ⟨rfl,hB1⟩;have HB1:=Lib.hid (HB0.out.trans (hB1.mono (Nat.le_of_lt hw0)));have HE1:=Lib.hid (prw.env_below HE0.out hB1);have HT1:=Lib.hid (dnw.tabs_below HT0.out hB1);have m0:=(hB1.cell (p:=⟨w.heap.size,0,none⟩) hw0).trans k0;have m1:=(hB1.cell (p:=⟨w.heap.size,1,none⟩) hw0).trans k1;have m2:=(hB1.cell (p:=⟨w.heap.size,2,none⟩) hw0).trans k2;clear hB1 hW0 k0 k1 k2;go_wp2_with fail;refine(HFM.out _ HE1.out HT1.out).mono ?_;intro e w2 hF;cases ho:formO syn s.data.toList with
    | none=>rw[ho]at hF;obtain⟨hB2,u,rfl⟩:=hF;have HB2:=Lib.hid (HB1.out.trans (hB2.mono HB1.out.size));have HO:=Lib.hid ho;clear hB2 ho;go_wp2_with fail;go_ret2;exact⟨by rw[HNF.out,HO.out];rfl,HB2.out⟩
    | some u=>rw[ho]at hF;obtain⟨hB2,rfl⟩:=hF;have HB2:=Lib.hid (HB1.out.trans (hB2.mono HB1.out.size));have HO:=Lib.hid ho;clear hB2 ho;go_wp2_with fail;go_ret2;exact⟨by rw[HNF.out,HO.out];rfl,HB2.out⟩
 ·rw[normL_bad hsy];rw[decide_eq_false hsy]at HK;clear hsy;go_enter Tryz.func200,Tryz.ntmps200;go_wp2_with fail;refine(HK.out _).mono ?_;rintro e w1 ⟨rfl,hB1⟩;have HB1:=Lib.hid (HB0.out.trans (hB1.mono (Nat.le_of_lt hw0)));clear hB1 hW0;go_wp2_with fail;go_ret2;exact⟨rfl,HB1.out⟩
theorem check_any (nm:ByteArray)(syn:Int)(sg:Bool)(s:ByteArray)(w:World)(hs:s.size≤140737488351232)(hE:Hid (prw.Env w))(hT:Hid (dnw.Tabs w)):
  Calls Tryz.prog 145 #[.agg #[.string nm,.int .i64 syn,.bool sg],.string s] w fun e w'=>e= .returned (.int .i64 (normL syn s.data.toList).2)∧Below w.heap.size w w':=by
 obtain⟨W0,hW0⟩: ∃W,w.alloc (.cells #[.string nm,.int .i64 syn,.bool sg] 108)=W:=⟨_,rfl⟩;have hB0:Below w.heap.size w W0:=by rw[←hW0];exact(Below.refl _ _).alloc (Nat.le_refl _) _
 have HB0:=Lib.hid hB0;have hw0:w.heap.size<W0.heap.size:=by rw[←hW0];simp
 have HE0:=Lib.hid (prw.env_below hE.out hB0);have HT0:=Lib.hid (dnw.tabs_below hT.out hB0);have k0:W0.cell? ⟨w.heap.size,0,none⟩=some (.string nm):=by rw[←hW0,World.cell?_alloc_new];rfl
 have k1:W0.cell? ⟨w.heap.size,1,none⟩=some (.int .i64 syn):=by rw[←hW0,World.cell?_alloc_new];rfl
 have k2:W0.cell? ⟨w.heap.size,2,none⟩=some (.bool sg):=by rw[←hW0,World.cell?_alloc_new];rfl
 have HN:Hid (∀w,prw.Env w→dnw.Tabs w→Calls Tryz.prog 200 #[.agg #[.string nm,.int .i64 syn,.bool sg],.string s] w fun e w'=>e= .returned (normV (normL syn s.data.toList))∧Below w.heap.size w w'):=fun w h1 h2=>normal_any nm syn sg s w hs (Lib.hid h1) (Lib.hid h2);obtain⟨uo,huo⟩: ∃u,normL syn s.data.toList=u:=⟨_,rfl⟩;rw[huo]at HN ⊢;clear huo;obtain⟨u,er⟩:=uo;obtain⟨ub,hub⟩: ∃ub,bs u=ub:=⟨_,rfl⟩;have HN2:Hid (∀w,prw.Env w→dnw.Tabs w→Calls Tryz.prog 200 #[.agg #[.string nm,.int .i64 syn,.bool sg],.string s] w fun e w'=>e= .returned (.tuple #[.string ub,.int .i64 er])∧Below w.heap.size w w'):=by rw[←hub];exact HN
 clear HN hub hB0;go_enter Tryz.func145,Tryz.ntmps145;go_wp2_with fail;refine(HN2.out _ HE0.out HT0.out).mono ?_;rintro e w1 ⟨rfl,hB1⟩;have HB1:=Lib.hid (HB0.out.trans (hB1.mono (Nat.le_of_lt hw0)));clear hB1;go_wp2_with fail;go_ret;exact⟨rfl,HB1.out⟩
end atw
open Go.RowKit
namespace prw
open run prp
def phP (v:Int):Bool:=decide (v≠32)&&decide (v≠45)
theorem ph_keep {m:List Int}{i:Nat}(hi:i<m.length)(h:phP m[i]=true):(m.take (i+1)).filter phP=(m.take i).filter phP++[m[i]]:=by rw[List.take_succ_eq_append_getElem hi,List.filter_append];simp[h]
theorem ph_drop {m:List Int}{i:Nat}(hi:i<m.length)(h:phP m[i]=false):(m.take (i+1)).filter phP=(m.take i).filter phP:=by rw[List.take_succ_eq_append_getElem hi,List.filter_append];simp[h]
theorem ph_len (m:List Int)(i:Nat):((m.take i).filter phP).length≤i:=by refine Nat.le_trans (List.length_filter_le _ _) ?_;rw[List.length_take];omega
theorem phoneO_ph (l:List UInt8):phoneO l=(mapO' l true).map fun m=>text (m.filter phP):=phoneO_eq l
theorem rphone_any (s:ByteArray)(w:World)(hs:s.size≤1100000):Calls Tryz.prog 198 #[.string s] w fun e w'=>e= .returned (pairV (phoneO s.data.toList))∧Below w.heap.size w w':=by
 rw[phoneO_ph];have CR:=mapped_any s true w hs;cases hrs:mapO' s.data.toList true with
 | none=>rw[hrs]at CR;have CH:=Lib.hid CR;clear hrs CR;go_enter Tryz.func198,Tryz.ntmps198;go_wp2_with fail;refine CH.out.mono ?_;rintro e w1 ⟨hB1,v,rfl⟩;go_wp2_with fail;go_ret2;exact⟨rfl,hB1⟩
 | some m=>
  rw[hrs]at CR;obtain⟨hml,hok⟩:=mapO'_facts hrs;have CH:=Lib.hid CR;have HK:Hid (∀v∈m.filter phP,okR v):=fun v hv=>hok v (List.mem_filter.1 hv).1;have hml2:m.length≤1100000:=by omega
  clear hrs CR hok hml;go_enter Tryz.func198,Tryz.ntmps198;go_wp2_with fail;refine CH.out.mono ?_;rintro e w1 ⟨hB1,v,rfl,hO⟩;obtain⟨ao,cap,rfl,hS⟩:=runs_of hO;have HS:=Lib.hid hS;clear hO hS;have hsz1:=hB1.size;go_wp2_with fail;go_loopw [6,7] (fun lv iv wr=> ∃ (i:Nat),i≤m.length∧iv= .int .i64 (i:Int)∧Hid (OwnR wr w1.heap.size lv ((m.take i).filter phP))∧Below w1.heap.size w1 wr) (fun _ iv _=>m.length- (intOf iv).toNat);case atStart=>
   refine⟨0,Nat.zero_le _,rfl,?_,(Below.refl _ _).alloc (Nat.le_refl _) _⟩;exact World.ownsRow_made _ #[] 0 (by simp) (by unfold maxLen;omega) rfl
  case round=>
   obtain⟨i,hi,rfl,hO,hB⟩:=hrel;have hsz:=hB.size;by_cases hlt:i<m.length
   ·have hlt':(i:Int)<(m.length:Int):=(by omega);obtain⟨b,o,hao,hc⟩:=runs_below HS.out hB i hlt;have q1:=ph_keep hlt;have q2:=ph_drop hlt;have q3:=ph_len m i;subst hao;generalize m[i]=x at hc q1 q2;by_cases hx:x=32
    ·subst hx;have hO1:=hO.out;rw[←q2 rfl]at hO1;have HO1:=Lib.hid hO1;clear q1 q2 q3 hO1;go_wp2_with fail;go_roundw;case rel=>exact⟨i+1,by omega,by go_num,HO1,hB⟩
     case measure=>simp[intOf];omega
    ·by_cases hy:x=45
     ·subst hy;have hO1:=hO.out;rw[←q2 rfl]at hO1;have HO1:=Lib.hid hO1;clear q1 q2 q3 hO1;go_wp2_with fail;go_roundw;case rel=>exact⟨i+1,by omega,by go_num,HO1,hB⟩
      case measure=>simp[intOf];omega
     ·have hx1:(x==32)=false:=(by rw[beq_eq_false_iff_ne];exact hx);have hx2:(x !=32)=true:=(by rw[bne_iff_ne];exact hx);have hy1:(x==45)=false:=(by rw[beq_eq_false_iff_ne];exact hy);have hy2:(x !=45)=true:=(by rw[bne_iff_ne];exact hy);obtain⟨v',w2,hap,hO1,hB2⟩:=ownR_app x hO.out (by omega) hsz;rw[←q1 (by unfold phP;simp[hx,hy])]at hO1;have HO1:=Lib.hid hO1;clear q1 q2 q3 hx hy hO1;go_wp2_with (at_builtin;refine Lib.wpList_append_run _ rfl _ _ _ _ rfl _ _ rfl rfl _ _ hap ?_);go_roundw;case rel=>exact⟨i+1,by omega,by go_num,HO1,hB.trans hB2⟩
      case measure=>simp[intOf];omega
   ·obtain rfl:i=m.length:=(by omega);have hO1:=hO.out;rw[List.take_length]at hO1;have hl:=ph_len m m.length;rw[List.take_length]at hl;obtain⟨ao2,cap2,rfl,hS2⟩:=runs_of hO1;have HS2:=Lib.hid hS2;have CT:=Lib.hid (text_any ao2 cap2 (m.filter phP) wr (by omega) HS2 HK);clear hO1 hS2 hl;go_wp2_with fail;refine CT.out.mono ?_;rintro e w2 ⟨rfl,hB2⟩;go_wp2_with fail;go_ret2;exact⟨rfl,hB1.trans ((hB.trans (hB2.mono hsz)).mono hsz1)⟩
end prw
open Go.RowKit
namespace tup
theorem esc_append (a b:List UInt8):esc (a++b)=esc a++esc b:=by
 induction a with
 | nil=>rfl
 | cons c a ih=>show esc (c::(a++b))=_;simp only[esc,ih];split<;>simp
end tup
namespace prt
open tupw
def OwnB (w:World)(B:Nat)(v:Value)(l:List UInt8):Prop:=w.ownsRow B 5 1 v (Lib.byteCells l).length (Lib.byteCells l)
theorem ownb_app {w:World}{B:Nat}{v:Value}{l:List UInt8}(h:OwnB w B v l)(x:UInt8)(hl:l.length≤1100000)(hB:B≤w.heap.size):
  ∃v' w1,(Builtin.append_ #[131,131] 131 #[v,.slice (some ⟨w.heap.size,0,none⟩) 1 1]).run Tryz.prog (w.alloc (.cells #[.int .u8 (x.toNat:Int)] 5))= .ok v' w1∧OwnB w1 B v' (l++[x])∧w.grownBy w1 v.ownBlock∧Below B w w1:=by
 obtain⟨v',w1,h1,h2,h3,h4⟩:=kt.app1 (P:=Tryz.prog) (ty:=131) (w:=w) Tryz.underlying131 bld.infoByte rfl (.int .u8 (x.toNat:Int)) rfl h (by rw[Lib.byteCells_length];unfold maxLen;omega) (by rw[Lib.byteCells_length];omega) hB;refine⟨v',w1,h1,?_,h3,h4⟩;unfold OwnB;rw[Lib.byteCells_append];exact h2
theorem ownb_new (w:World)(B:Nat)(hB:B≤w.heap.size):OwnB (w.alloc (.cells #[] 5)) B (.slice (some ⟨w.heap.size,0,none⟩) 0 0) []:=World.ownsRow_made w #[] 0 hB (by unfold maxLen;omega) rfl
end prt
namespace fldw
theorem infoByte:(Tryz.prog.info? 5).map (fun i=>(i.zero,i.size,i.bytes))=some (some (.int .u8 0),1,1):=bld.infoByte
end fldw
open Go.RowKit
namespace tupr
open tupw prt
def Inv (l:List ByteArray)(i:Nat)(done:List UInt8)(b:List UInt8):Prop:=b=tup.bytes (l.take i)++tup.esc done∨(4096<b.length∧4096<(tup.bytes l).length)
theorem bytes_at (l:List ByteArray)(i:Nat)(h:i<l.length):tup.bytes l=tup.bytes (l.take i)++(tup.esc l[i].data.toList++[0,1]++tup.bytes (l.drop (i+1))):=by
 have e:l=l.take i++(l[i]::l.drop (i+1)):=by rw[←List.drop_eq_getElem_cons h,List.take_append_drop]
 conv=>lhs;rw[e]
 rw[tup.bytes_append,tup.bytes]
theorem esc_take (p:List UInt8)(k:Nat):(tup.esc (p.take k)).length≤(tup.esc p).length:=by
 conv=>rhs;rw[←List.take_append_drop k p,tup.esc_append]
 simp
theorem inv_step {l:List ByteArray}{i k:Nat}{b:List UInt8}(h:i<l.length)(hk:k<l[i].size)(hI:Inv l i (l[i].data.toList.take k) b)(hb:b.length≤4096):
  Inv l i (l[i].data.toList.take (k+1)) (b++(if l[i][k]=0 then[0,255]else[l[i][k]])):=by
 rcases hI with rfl | ⟨h1,_⟩
 ·left;rw[kt.take_snoc _ k hk,tup.esc_append,List.append_assoc];simp[tup.esc]
 ·omega
theorem inv_done {l:List ByteArray}{i k:Nat}{b:List UInt8}(h:i<l.length)(hI:Inv l i (l[i].data.toList.take k) b)(hb: ¬ (k<l[i].size∧b.length≤4096)):Inv l (i+1) [] (b++[0,1]):=by
 have hat:=bytes_at l i h;rcases hI with rfl | ⟨h1,h2⟩
 ·by_cases hk:k<l[i].size
  ·right;have hlen: ¬ (tup.bytes (l.take i)++tup.esc (l[i].data.toList.take k)).length≤4096:=fun hh=>hb ⟨hk,hh⟩;have he:=esc_take l[i].data.toList k;rw[hat];simp only[List.length_append]at hlen ⊢;omega
  ·left;rw[show l[i].data.toList.take k=l[i].data.toList from List.take_of_length_le (by rw[kt.size_len];omega),List.take_succ_eq_append_getElem h,tup.bytes_append];simp[tup.bytes,tup.esc]
 ·right;simp only[List.length_append];omega
theorem inv_end {l:List ByteArray}{b:List UInt8}(hI:Inv l l.length [] b)(h16: ¬16<l.length):tup.out l=if 4096<b.length then(⟨#[]⟩,5)else(⟨b.toArray⟩,0):=by
 unfold tup.out;rw[if_neg h16];rcases hI with rfl | ⟨h1,h2⟩
 ·rw[List.take_of_length_le (Nat.le_refl _)];simp[tup.esc]
 ·rw[if_pos h2,if_pos h1]
theorem ownb_app2 {w:World}{B:Nat}{v:Value}{l:List UInt8}(h:OwnB w B v l)(x y:UInt8)(hl:l.length≤1100000)(hB:B≤w.heap.size):
  ∃v' w1,(Builtin.append_ #[131,131] 131 #[v,.slice (some ⟨w.heap.size,0,none⟩) 2 2]).run Tryz.prog (w.alloc (.cells #[.int .u8 (x.toNat:Int),.int .u8 (y.toNat:Int)] 5))= .ok v' w1∧OwnB w1 B v' (l++[x,y])∧w.grownBy w1 v.ownBlock∧Below B w w1:=by
 obtain⟨v',w1,h1,h2,h3,h4⟩:=kt.app2 (P:=Tryz.prog) (ty:=131) (w:=w) Tryz.underlying131 fldw.infoByte rfl (.int .u8 (x.toNat:Int)) (.int .u8 (y.toNat:Int)) rfl rfl h (by rw[Lib.byteCells_length];unfold maxLen;omega) (by rw[Lib.byteCells_length];omega) hB;refine⟨v',w1,h1,?_,h3,h4⟩;unfold OwnB;rw[Lib.byteCells_append];exact h2
theorem ownb_len {w:World}{B:Nat}{v:Value}{l:List UInt8}(h:OwnB w B v l): ∃ao cap,v= .slice ao l.length cap:=by obtain⟨ao,cap,hv,_⟩:=kt.row_slice h;rw[Lib.byteCells_length]at hv;exact⟨ao,cap,hv⟩
theorem rtuple_any (ao:Option Addr)(cap:Nat)(l:List ByteArray)(w:World)(hl:Hid (Strs w ao l))(hsm:Hid (∀p∈l,p.size≤1100000)):
  Calls Tryz.prog 289 #[.slice ao l.length cap] w fun e w'=>e= .returned (tupV (tup.out l))∧Below w.heap.size w w':=by
 by_cases c16:16<l.length
 ·have hp:tup.out l=(⟨#[]⟩,1):=by unfold tup.out;rw[if_pos c16]
  have HP:=Lib.hid hp;clear hp;have c16':16<(l.length:Int):=by omega
  go_enter Tryz.func289,Tryz.ntmps289;go_wp2_with fail;go_ret2;exact⟨by rw[HP.out];rfl,Below.refl _ _⟩
 ·have c16': ¬16<(l.length:Int):=by omega
  go_enter Tryz.func289,Tryz.ntmps289;go_wp2_with fail;go_loopw [4,5] (fun bv iv wr=> ∃ (i:Nat) (b:List UInt8),i≤l.length∧iv= .int .i64 i∧Hid (Inv l i [] b)∧b.length≤4098+2*i∧Hid (OwnB wr w.heap.size bv b)∧Below w.heap.size w wr) (fun _ iv _=>l.length- (intOf iv).toNat);case atStart=>exact⟨0,[],Nat.zero_le _,rfl,Or.inl rfl,by simp,ownb_new w _ (Nat.le_refl _),(Below.refl _ _).alloc (Nat.le_refl _) _⟩
  case round=>
   obtain⟨i,b,hi,rfl,hI,hbl,hOB,hB⟩:=hrel;have hsz:=hB.size;by_cases hil:i<l.length
   ·have hil':(i:Int)<(l.length:Int):=(by omega);obtain⟨p,hp⟩: ∃p:ByteArray,Hid (p=l[i]'hil):=⟨l[i]'hil,rfl⟩;have hps:p.size≤1100000:=(by rw[hp.out];exact hsm.out _ (List.getElem_mem hil));obtain⟨bl,of,hao,hc0⟩:=hl.out i hil;rw[←hp.out]at hc0;subst hao;have hI0:Hid (Inv l i (p.data.toList.take 0) b):=hI;clear hI;go_wp2_with fail;go_loopw [4,6] (fun bv kv wr=> ∃ (k:Nat) (b:List UInt8),k≤p.size∧kv= .int .i64 k∧Hid (Inv l i (p.data.toList.take k) b)∧b.length≤4098+2*i∧Hid (OwnB wr w.heap.size bv b)∧Below w.heap.size w wr) (fun _ kv _=>p.size- (intOf kv).toNat);case atStart=>exact⟨0,b,Nat.zero_le _,rfl,hI0,hbl,hOB,hB⟩
    case round=>
     clear hI0 hOB hB hbl hsz;obtain⟨k,b,hk,rfl,hI,hbl,hOB,hB⟩:=hrel;have hsz:=hB.size;have hc:=(hB.cell (World.block_lt_of_cell? w _ hc0)).trans hc0;obtain⟨ao2,cap2,rfl⟩:=ownb_len hOB.out;by_cases hgo:k<p.size∧b.length≤4096
     ·obtain⟨hkp,hb4⟩:=hgo;have hkp':(k:Int)<(p.size:Int):=(by omega);have hb4':(b.length:Int)≤4096:=(by omega);obtain⟨c,hcc⟩: ∃c:UInt8,Hid (c=p[k]'hkp):=⟨p[k]'hkp,rfl⟩;have ec:(p[k]'hkp).toNat=c.toNat:=(by rw[hcc.out]);have hst:Inv l i (p.data.toList.take (k+1)) (b++(if c=0 then[0,255]else[c])):=(by have hpe:=hp.out;subst hpe;have hce:=hcc.out;subst hce;exact inv_step hil hkp hI.out hb4);obtain⟨v1,w1,hap,hO1,hgr,hB1⟩:=ownb_app hOB.out c (by omega) hsz;have hs1:=hB1.size;have hc1:=(hB1.cell (p:=⟨bl,of+i,none⟩) (World.block_lt_of_cell? w _ hc0)).trans hc;by_cases c0:c=0
      ·subst c0;rw[if_pos rfl]at hst;have HI2:=Lib.hid hst;have ec':(p[k]'hkp).toNat=0:=ec;clear hst ec hI;obtain⟨v2,w2,hap2,hO2,hgr2,hB2⟩:=ownb_app hO1 255 (by simp;omega) (Nat.le_trans hsz hs1);rw[List.append_assoc]at hO2;have HO2:=Lib.hid hO2;clear hO2 hgr hgr2 hO1;change (Builtin.append_ _ _ #[_,.slice (some ⟨wr.heap.size,0,none⟩) 1 1]).run _ (wr.alloc (.cells #[.int .u8 0] 5))= .ok v1 w1 at hap;change (Builtin.append_ _ _ #[_,.slice (some ⟨w1.heap.size,0,none⟩) 1 1]).run _ (w1.alloc (.cells #[.int .u8 255] 5))= .ok v2 w2 at hap2;go_wp2_with (at_builtin;first | refine Lib.wpList_append_run _ rfl _ _ _ _ rfl _ _ rfl rfl _ _ hap ?_ | refine Lib.wpList_append_run _ rfl _ _ _ _ rfl _ _ rfl rfl _ _ hap2 ?_);go_roundw;case rel=>exact⟨k+1,b++[0,255],by omega,by go_num,HI2,by simp;omega,HO2,(hB.trans hB1).trans hB2⟩
       case measure=>simp[intOf];omega
      ·have n0:((c.toNat:Int)==0)=false:=(by rw[beq_eq_false_iff_ne];intro h;exact c0 (UInt8.toNat_inj.1 (by simpa using h)));rw[if_neg c0]at hst;have HI2:=Lib.hid hst;have HO1:=Lib.hid hO1;clear hst hI hO1 hgr;go_wp2_with (at_builtin;refine Lib.wpList_append_run _ rfl _ _ _ _ rfl _ _ rfl rfl _ _ hap ?_);go_roundw;case rel=>exact⟨k+1,b++[c],by omega,by go_num,HI2,by simp;omega,HO1,hB.trans hB1⟩
       case measure=>simp[intOf];omega
     ·have hdn:Inv l (i+1) [] (b++[0,1]):=(by have hpe:=hp.out;subst hpe;exact inv_done hil hI.out hgo);have HI2:=Lib.hid hdn;obtain⟨v1,w1,hap,hO1,hgr,hB1⟩:=ownb_app2 hOB.out 0 1 (by omega) hsz;have HO1:=Lib.hid hO1;clear hdn hI hO1 hgr;change (Builtin.append_ _ _ #[_,.slice (some ⟨wr.heap.size,0,none⟩) 2 2]).run _ (wr.alloc (.cells #[.int .u8 0,.int .u8 1] 5))= .ok v1 w1 at hap;by_cases hkp:k<p.size
      ·have hkp':(k:Int)<(p.size:Int):=(by omega);have hb4': ¬ (b.length:Int)≤4096:=(by omega);go_wp2_with (at_builtin;refine Lib.wpList_append_run _ rfl _ _ _ _ rfl _ _ rfl rfl _ _ hap ?_);go_roundw;case rel=>exact⟨i+1,b++[0,1],by omega,by go_num,HI2,by simp;omega,HO1,hB.trans hB1⟩
       case measure=>simp[intOf];omega
      ·have hkp': ¬ (k:Int)<(p.size:Int):=(by omega);go_wp2_with (at_builtin;refine Lib.wpList_append_run _ rfl _ _ _ _ rfl _ _ rfl rfl _ _ hap ?_);go_roundw;case rel=>exact⟨i+1,b++[0,1],by omega,by go_num,HI2,by simp;omega,HO1,hB.trans hB1⟩
       case measure=>simp[intOf];omega
   ·obtain rfl:i=l.length:=(by omega);have hil': ¬ (l.length:Int)<(l.length:Int):=(by omega);obtain⟨ao2,cap2,rfl⟩:=ownb_len hOB.out;have ho:=inv_end hI.out c16;by_cases hb4:4096<b.length
    ·have hb4':4096<(b.length:Int):=(by omega);rw[if_pos hb4]at ho;have HO:=Lib.hid ho;clear ho hI;go_wp2_with fail;go_ret2;exact⟨by rw[HO.out];rfl,hB⟩
    ·have hb4': ¬4096<(b.length:Int):=(by omega);rw[if_neg hb4]at ho;obtain⟨q,hq⟩: ∃q:ByteArray,Hid (q=⟨b.toArray⟩):=⟨_,rfl⟩;have hst:=kt.str_of_row (P:=Tryz.prog) (dst:=9) Tryz.underlying131 Tryz.underlying5 Tryz.underlying9 hOB.out;rw[←hq.out]at ho hst;have HO:=Lib.hid ho;clear ho hI;go_wp2_with fail;go_ret2;exact⟨by rw[HO.out];rfl,hB⟩
end tupr
namespace ord
open Go.Lib
theorem cmp_nil_cons (a:UInt8)(s:List UInt8):compareBytes [] (a::s)= -1:=rfl
theorem cmp_cons_nil (a:UInt8)(s:List UInt8):compareBytes (a::s) []=1:=rfl
theorem cmp_cons (a b:UInt8)(s t:List UInt8):compareBytes (a::s) (b::t)=if a<b then-1 else if b<a then 1 else compareBytes s t:=rfl
theorem cmp_same (a:UInt8)(s t:List UInt8):compareBytes (a::s) (a::t)=compareBytes s t:=by rw[cmp_cons];simp
theorem cmp_lt {a b:UInt8}(h:a<b)(s t:List UInt8):compareBytes (a::s) (b::t)= -1:=by rw[cmp_cons,if_pos h]
theorem cmp_gt {a b:UInt8}(h:b<a)(s t:List UInt8):compareBytes (a::s) (b::t)=1:=by rw[cmp_cons,if_neg (fun h'=>absurd h (by have h1:=UInt8.lt_iff_toNat_lt.1 h';intro h2;have h3:=UInt8.lt_iff_toNat_lt.1 h2;omega)),if_pos h]
theorem cmp_cases (a b:UInt8):a<b∨b<a∨a=b:=by
 rcases Nat.lt_trichotomy a.toNat b.toNat with h | h | h
 ·exact Or.inl (UInt8.lt_iff_toNat_lt.2 h)
 ·exact Or.inr (Or.inr (UInt8.toNat_inj.1 h))
 ·exact Or.inr (Or.inl (UInt8.lt_iff_toNat_lt.2 h))
theorem cmp_three: ∀a b:List UInt8,compareBytes a b= -1∨compareBytes a b=0∨compareBytes a b=1
 | [],[]=>Or.inr (Or.inl rfl)
 | [],_::_=>Or.inl rfl
 | _::_,[]=>Or.inr (Or.inr rfl)
 | a::s,b::t=>by
  rcases cmp_cases a b with h | h | rfl
  ·exact Or.inl (cmp_lt h s t)
  ·exact Or.inr (Or.inr (cmp_gt h s t))
  ·rw[cmp_same];exact cmp_three s t
theorem cmp_neg: ∀a b:List UInt8,compareBytes b a= -compareBytes a b
 | [],[]=>rfl
 | [],_::_=>rfl
 | _::_,[]=>rfl
 | a::s,b::t=>by
  rcases cmp_cases a b with h | h | rfl
  ·rw[cmp_lt h,cmp_gt h];rfl
  ·rw[cmp_gt h,cmp_lt h]
  ·rw[cmp_same,cmp_same];exact cmp_neg s t
theorem cmp_end (a b:List UInt8)(i:Nat)(hi:i≤a.length)(hb:i≤b.length)(h:a.length≤i∨b.length≤i):compareBytes (a.drop i) (b.drop i)=if a.length<b.length then-1 else if b.length<a.length then 1 else 0:=by
 by_cases h1:a.length≤i
 ·rw[List.drop_eq_nil_of_le h1];by_cases h2:b.length≤i
  ·rw[List.drop_eq_nil_of_le h2,if_neg (by omega),if_neg (by omega)];rfl
  ·rw[List.drop_eq_getElem_cons (by omega),if_pos (by omega)];rfl
 ·rw[List.drop_eq_nil_of_le (show b.length≤i by omega),List.drop_eq_getElem_cons (by omega),if_neg (by omega),if_pos (by omega)];rfl
end ord
open Go.RowKit
namespace ordw
open ord
theorem dr (s:ByteArray)(k:Nat)(h:k<s.size):s.data.toList.drop k=s[k]::s.data.toList.drop (k+1):=by rw[List.drop_eq_getElem_cons (by rw[kt.size_len];exact h)];rfl
theorem less_any (a b:ByteArray)(w:World)(ha:a.size≤1100000):
  Calls Tryz.prog 139 #[.string a,.string b] w fun e w'=>e= .returned (.int .i64 (Lib.compareBytes a.data.toList b.data.toList))∧ ∃n,w'=w.drewN n:=by
 go_enter Tryz.func139,Tryz.ntmps139;go_wp2_with fail;go_loopw [5] (fun iv wr=> ∃ (i:Nat),i≤a.size∧i≤b.size∧iv= .int .i64 i∧Hid (Lib.compareBytes a.data.toList b.data.toList=Lib.compareBytes (a.data.toList.drop i) (b.data.toList.drop i))∧ ∃n,wr=w.drewN n) (fun iv _=>a.size- (intOf iv).toNat);case atStart=>exact⟨0,Nat.zero_le _,Nat.zero_le _,rfl,rfl,0,rfl⟩
 case round=>
  obtain⟨i,hia,hib,rfl,hE,n,rfl⟩:=hrel;by_cases h:i<a.size∧i<b.size
  ·obtain⟨h1,h2⟩:=h;have h1':(i:Int)<(a.size:Int):=(by omega);have h2':(i:Int)<(b.size:Int):=(by omega);obtain⟨x,hx⟩: ∃x:UInt8,Hid (x=a[i]'h1):=⟨a[i]'h1,rfl⟩;obtain⟨y,hy⟩: ∃y:UInt8,Hid (y=b[i]'h2):=⟨b[i]'h2,rfl⟩;have ex:(a[i]'h1).toNat=x.toNat:=(by rw[hx.out]);have ey:(b[i]'h2).toNat=y.toNat:=(by rw[hy.out]);have he:=hE.out;rw[dr a i h1,dr b i h2,←hx.out,←hy.out]at he;rcases cmp_cases x y with c | c | c
   ·rw[cmp_lt c]at he;have HE:=Lib.hid he;have c':(x.toNat:Int)<(y.toNat:Int):=(by have:=UInt8.lt_iff_toNat_lt.1 c;omega);clear he c;go_wp2_with fail;go_quiet (fail);go_wp2_with fail;go_ret;exact⟨by rw[HE.out];rfl,_,World.drewN_drewN _ _ _⟩
   ·rw[cmp_gt c]at he;have HE:=Lib.hid he;have c': ¬ (x.toNat:Int)<(y.toNat:Int):=(by have:=UInt8.lt_iff_toNat_lt.1 c;omega);have c'':(y.toNat:Int)<(x.toNat:Int):=(by have:=UInt8.lt_iff_toNat_lt.1 c;omega);clear he c;go_wp2_with fail;go_quiet (fail);go_wp2_with fail;go_quiet (fail);go_wp2_with fail;go_ret;exact⟨by rw[HE.out];rfl,_,by rw[World.drewN_drewN,World.drewN_drewN]⟩
   ·subst c;rw[cmp_same]at he;have HE:=Lib.hid he;have c': ¬ (x.toNat:Int)<(x.toNat:Int):=(by omega);have hh1:=Lib.hid h1;have hh2:=Lib.hid h2;clear he;go_wp2_with fail;go_quiet (fail);go_wp2_with fail;go_quiet (fail);go_wp2_with fail;go_roundw;case rel=>exact⟨i+1,hh1.out,hh2.out,by go_num,HE,_,rfl⟩
    case measure=>have:=hh1.out;simp[intOf];omega
  ·have he:=hE.out;rw[cmp_end _ _ i (by rw[kt.size_len];exact hia) (by rw[kt.size_len];exact hib) (by rw[kt.size_len,kt.size_len];omega),kt.size_len,kt.size_len]at he;have hq:(decide ((i:Int)<(a.size:Int))&&decide ((i:Int)<(b.size:Int)))=false:=(by rw[Bool.and_eq_false_iff,decide_eq_false_iff_not,decide_eq_false_iff_not];omega);by_cases l1:a.size<b.size
   ·rw[if_pos l1]at he;have HE:=Lib.hid he;have l1':(a.size:Int)<(b.size:Int):=(by omega);have i1: ¬ (i:Int)<(a.size:Int):=(by omega);clear he h;go_wp2_with fail;go_ret;exact⟨by rw[HE.out];rfl,_,rfl⟩
   ·rw[if_neg l1]at he;have l1': ¬ (a.size:Int)<(b.size:Int):=(by omega);by_cases l2:b.size<a.size
    ·rw[if_pos l2]at he;have HE:=Lib.hid he;have l2':(b.size:Int)<(a.size:Int):=(by omega);have i1:(i:Int)<(a.size:Int):=(by omega);have i2: ¬ (i:Int)<(b.size:Int):=(by omega);clear he h;go_wp2_with fail;go_ret;exact⟨by rw[HE.out];rfl,_,rfl⟩
    ·rw[if_neg l2]at he;have HE:=Lib.hid he;have l2': ¬ (b.size:Int)<(a.size:Int):=(by omega);have i1: ¬ (i:Int)<(a.size:Int):=(by omega);clear he h;go_wp2_with fail;go_ret;exact⟨by rw[HE.out];rfl,_,rfl⟩
end ordw
end Go.Proofs.YtmnpfkbjpeaemaaGreatDoor
