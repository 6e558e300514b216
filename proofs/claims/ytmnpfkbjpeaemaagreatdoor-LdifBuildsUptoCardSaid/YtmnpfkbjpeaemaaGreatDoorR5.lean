/- One text out of several: RdnW, RightW, Nest, ParseP, ParseW, RefP, PrintP, PrintQ, TupP, KeyP, ParseV, NormP, NumW. -/
import Derived.Test.YtmnpfkbjpeaemaaGreatDoorR4
import Derived.Test.YtmnpfkbjpeaemaaGreatDoorR2
import Derived.Lib.Replace
import Derived.Lib.CountLaws
import Derived.Lib.AtoiAll
import Derived.Test.YtmnpfkbjpeaemaaGreatDoorR1
import Derived.Test.YtmnpfkbjpeaemaaGreatDoorRows
set_option linter.unusedVariables false
set_option linter.unusedSimpArgs false
set_option maxRecDepth 100000
set_option maxHeartbeats 8000000
namespace Go.Proofs.YtmnpfkbjpeaemaaGreatDoor
open Go.RowKit
namespace dnw
open dnp
theorem str_beq (a b:ByteArray):(a.toList==b.toList)=decide (a.data.toList=b.data.toList):=by
 rw[Lib.toList_data,Lib.toList_data];by_cases h:a.data.toList=b.data.toList
 ·rw[h];simp
 ·rw[decide_eq_false h,beq_eq_false_iff_ne];exact h
theorem clo_any (x:Av)(p:Nat)(t:ByteArray)(W:World)(hc:W.cell? ⟨p,0,none⟩=some (.string t)):Calls Tryz.prog 209 #[.agg #[.string x.t,.string x.v],.pointer (some ⟨p,0,none⟩)] W fun e w'=>e= .returned (.bool (decide (x.t.data.toList=t.data.toList)))∧Below W.heap.size W w':=by have hlt:p<W.heap.size:=World.block_lt_of_cell? W _ hc;have hc1:(W.alloc (.cells #[.string x.t,.string x.v] 51)).cell? ⟨p,0,none⟩=some (.string t):=(((Below.refl _ W).alloc (Nat.le_refl _) _).cell (p:=⟨p,0,none⟩) hlt).trans hc;have hb:=str_beq x.t t;go_enter Tryz.func209,Tryz.ntmps209;go_wp2_with fail;go_ret;exact⟨kt.ret_bool (by simp only[Array.toList_inj]),(Below.refl _ _).alloc (Nat.le_refl _) _⟩
def Has (l:List Av)(k:Nat)(t:ByteArray):Prop:= ∃i,∃hi:i<l.length,i<k∧l[i].t.data.toList=t.data.toList
def IxE (l:List Av)(k:Nat)(t:ByteArray)(w:World)(e:Ending)(w':World):Prop:= ∃r:Int,e= .returned (.int .i64 r)∧(0≤r↔Has l k t)∧Below w.heap.size w w'
theorem index_any (ao:Option Addr)(k cap p:Nat)(l:List Av)(t:ByteArray)(w:World)(hA:Hid (Avas w ao l))(hk:k≤l.length)(hkb:k≤1000)(hp:w.cell? ⟨p,0,none⟩=some (.string t)):
  Calls Tryz.prog 265 #[.slice ao k cap,.func (.func 209) #[] #[.pointer (some ⟨p,0,none⟩)]] w fun e w'=>IxE l k t w e w':=by
 have HP:=Lib.hid hp;have hlt:p<w.heap.size:=World.block_lt_of_cell? w _ hp;clear hp;go_enter Tryz.func265,Tryz.ntmps265;go_wp2_with fail;go_loopw [5,8] (fun _ iv wr=> ∃i:Nat,i≤k∧iv= .int .i64 (i:Int)∧Hid (¬Has l i t)∧Below w.heap.size w wr) (fun _ iv _=>k- (intOf iv).toNat);case atStart=>exact⟨0,Nat.zero_le _,rfl,fun⟨_,_,h,_⟩=>by omega,Below.refl _ _⟩
 case round=>
  obtain⟨i,hi,rfl,hN,hB⟩:=hrel;have hsz:=hB.size;by_cases hlt2:i<k
  ·have hlt':(i:Int)<(k:Int):=(by omega);have hil:i<l.length:=(by omega);obtain⟨b,o,hao,hc0,hc1⟩:=(avas_below hA.out hB) i hil;subst hao;have hpc:=(hB.cell (p:=⟨p,0,none⟩) hlt).trans HP.out;have CC:=clo_any l[i] p t wr hpc;by_cases he:l[i].t.data.toList=t.data.toList
   ·have HH:Hid (0≤(i:Int)↔Has l k t):=⟨fun _=>⟨i,hil,hlt2,he⟩,fun _=>by omega⟩;rw[decide_eq_true he]at CC;have HC:=Lib.hid CC;generalize l[i]=x at hc0 hc1 HC;clear CC he hpc;go_wp2_with fail;refine HC.out.mono ?_;rintro e w2 ⟨rfl,hB2⟩;go_wp2_with fail;go_ret;exact⟨(i:Int),rfl,HH.out,hB.trans (hB2.mono hsz)⟩
   ·have HN2:Hid (¬Has l (i+1) t):=by
     rintro⟨j,hj,h1,h2⟩;by_cases e:j=i
     ·subst e;exact he h2
     ·exact hN.out ⟨j,hj,by omega,h2⟩
    rw[decide_eq_false he]at CC;have HC:=Lib.hid CC;generalize l[i]=x at hc0 hc1 HC;clear CC he hpc;go_wp2_with fail;refine HC.out.mono ?_;rintro e w2 ⟨rfl,hB2⟩;go_wp2_with fail;go_roundw;case rel=>exact⟨i+1,by omega,by go_num,HN2,hB.trans (hB2.mono hsz)⟩
    case measure=>simp[intOf];omega
  ·obtain rfl:i=k:=(by omega);go_wp2_with fail;go_ret;exact⟨-1,rfl,⟨fun h=>by omega,fun h=>absurd h hN.out⟩,hB⟩
def hasB (l:List Av)(k:Nat)(t:ByteArray):Bool:=(l.take k).any fun x=>decide (x.t.data.toList=t.data.toList)
theorem hasB_iff (l:List Av)(k:Nat)(t:ByteArray):hasB l k t=true↔Has l k t:=by
 unfold hasB Has;rw[List.any_eq_true];constructor
 ·rintro⟨x,hx,h⟩;obtain⟨i,hi,rfl⟩:=List.mem_iff_getElem.1 hx;rw[List.length_take]at hi;rw[List.getElem_take]at h;exact⟨i,by omega,by omega,by simpa using h⟩
 ·rintro⟨i,hi,h1,h2⟩;refine⟨l[i],?_,by simpa using h2⟩;rw[List.mem_iff_getElem];exact⟨i,by rw[List.length_take];omega,by rw[List.getElem_take]⟩
theorem contains_any (ao:Option Addr)(k cap p:Nat)(l:List Av)(t:ByteArray)(w:World)(hA:Hid (Avas w ao l))(hk:k≤l.length)(hkb:k≤1000)(hp:w.cell? ⟨p,0,none⟩=some (.string t)):
  Calls Tryz.prog 208 #[.slice ao k cap,.func (.func 209) #[] #[.pointer (some ⟨p,0,none⟩)]] w fun e w'=>e= .returned (.bool (hasB l k t))∧Below w.heap.size w w':=by
 have CI:=Lib.hid (index_any ao k cap p l t w hA hk hkb hp);have hI:=hasB_iff l k t;clear hp;by_cases hH:hasB l k t=true
 ·have HH:=Lib.hid (hI.1 hH);rw[hH];clear hI hH;go_enter Tryz.func208,Tryz.ntmps208;go_wp2_with fail;refine CI.out.mono ?_;rintro e w1 ⟨r,rfl,h1,hB1⟩;have h2:0≤r:=h1.2 HH.out;clear h1;go_wp2_with fail;go_ret;exact⟨kt.ret_bool (by first | rfl | exact decide_eq_true h2),hB1⟩
 ·have HH:=Lib.hid (fun h=>hH (hI.2 h));have hH':hasB l k t=false:=by simpa using hH
  rw[hH'];clear hI hH hH';go_enter Tryz.func208,Tryz.ntmps208;go_wp2_with fail;refine CI.out.mono ?_;rintro e w1 ⟨r,rfl,h1,hB1⟩;have h2: ¬0≤r:=fun h=>HH.out (h1.1 h);clear h1;go_wp2_with fail;go_ret;exact⟨kt.ret_bool (by simpa using h2),hB1⟩
def pairB (l:List Av)(i:Nat)(x:Av):Bool:= !hasB l i x.t&&typeOK x.t.data.toList&&valOK x.v.data.toList
def rdnOK (l:List Av):Bool:=decide (1≤l.length)&&decide (l.length≤4)&&(List.range l.length).all fun i=>match l[i]? with
 | none=>false
 | some x=>pairB l i x
theorem rdnOK_len {l:List Av}(h:l.length<1∨4<l.length):false=rdnOK l:=by
 unfold rdnOK;rcases h with h | h
 ·rw[decide_eq_false (by omega: ¬1≤l.length)];rfl
 ·rw[decide_eq_false (by omega: ¬l.length≤4)];simp
theorem rdnOK_no {l:List Av}{i:Nat}(hi:i<l.length)(h:pairB l i l[i]=false):false=rdnOK l:=by symm;unfold rdnOK;rw[Bool.and_eq_false_iff];right;rw[Bool.eq_false_iff];intro e;have:=List.all_eq_true.1 e i (List.mem_range.2 hi);rw[List.getElem?_eq_getElem hi]at this;simp only[]at this;rw[h]at this;cases this
theorem rdnOK_yes {l:List Av}(h1:1≤l.length)(h4:l.length≤4)(h: ∀i (hi:i<l.length),pairB l i l[i]=true):true=rdnOK l:=by symm;unfold rdnOK;rw[decide_eq_true h1,decide_eq_true h4];simp only[Bool.true_and];rw[List.all_eq_true];intro i hi;have hi':=List.mem_range.1 hi;rw[List.getElem?_eq_getElem hi'];exact h i hi'
def Smalls (l:List Av):Prop:= ∀x∈l,x.t.size≤100000∧x.v.size≤1100000
theorem rightRdn_any (ao:Option Addr)(cap:Nat)(l:List Av)(w:World)(hA:Hid (Avas w ao l))(hE:Hid (prw.Env w))(hS:Hid (l.length≤4→Smalls l))(hlc:l.length≤cap):
  Calls Tryz.prog 163 #[.slice ao l.length cap] w fun e w'=>e= .returned (.bool (rdnOK l))∧Below w.heap.size w w':=by
 by_cases h1:l.length<1
 ·have h1':(l.length:Int)<1:=by omega
  have HN:=Lib.hid (rdnOK_len (l:=l) (Or.inl h1));go_enter Tryz.func163,Tryz.ntmps163;go_wp2_with fail;go_ret;exact⟨kt.ret_bool HN.out,Below.refl _ _⟩
 ·have h1': ¬ (l.length:Int)<1:=by omega
  by_cases h4:4<l.length
  ·have h4':4<(l.length:Int):=(by omega);have HN:=Lib.hid (rdnOK_len (l:=l) (Or.inr h4));go_enter Tryz.func163,Tryz.ntmps163;go_wp2_with fail;go_ret;exact⟨kt.ret_bool HN.out,Below.refl _ _⟩
  ·have h4': ¬4<(l.length:Int):=(by omega);have HSm:=Lib.hid (hS.out (by omega));have h1n:1≤l.length:=(by omega);have h4n:l.length≤4:=(by omega);go_enter Tryz.func163,Tryz.ntmps163;go_wp2_with fail;go_loopw [3,4,5,16] (fun _ _ _ iv wr=> ∃i:Nat,i≤l.length∧iv= .int .i64 (i:Int)∧Hid (∀j (hj:j<l.length),j<i→pairB l j l[j]=true)∧Below w.heap.size w wr) (fun _ _ _ iv _=>l.length- (intOf iv).toNat);case atStart=>exact⟨0,Nat.zero_le _,rfl,fun j _ h=>by omega,Below.refl _ _⟩
   case round=>
    obtain⟨i,hi,rfl,hP,hB⟩:=hrel;have hsz:=hB.size;by_cases hlt:i<l.length
    ·have hlt':(i:Int)<(l.length:Int):=(by omega);obtain⟨b,o,hao,hc0,hc1⟩:=(avas_below hA.out hB) i hlt;obtain⟨hts,hvs⟩:=HSm.out l[i] (by simp);have hpn:=fun h=>rdnOK_no (l:=l) hlt h;have hpy:pairB l i l[i]=true→ ∀j (hj:j<l.length),j<i+1→pairB l j l[j]=true:=by
      intro h j hj hji;by_cases e:j=i
      ·subst e;exact h
      ·exact hP.out j hj (by omega)
     have hBA: ∀x:Av,Below w.heap.size w (wr.alloc (.cells #[.string x.t,.string x.v] 51)):=fun x=>hB.alloc hsz _;have CC: ∀x:Av,Calls Tryz.prog 208 #[.slice ao i cap,.func (.func 209) #[] #[.pointer (some ⟨wr.heap.size,0,none⟩)]] (wr.alloc (.cells #[.string x.t,.string x.v] 51)) fun e w'=>e= .returned (.bool (hasB l i x.t))∧Below (wr.alloc (.cells #[.string x.t,.string x.v] 51)).heap.size (wr.alloc (.cells #[.string x.t,.string x.v] 51)) w':=
      fun x=>contains_any ao i cap wr.heap.size l x.t _ (Lib.hid (avas_below hA.out (hBA x))) hi (by omega) (by rw[World.cell?_alloc_new];rfl)
     subst hao;have hx:pairB l i l[i]=(!hasB l i l[i].t&&typeOK l[i].t.data.toList&&valOK l[i].v.data.toList):=rfl;have CC1:=CC l[i];have hBA1:=Lib.hid (hBA l[i]);generalize l[i]=x at hc0 hc1 hts hvs hpn hpy CC1 hx hBA1;have HTy:Hid (∀W,Calls Tryz.prog 204 #[.string x.t] W fun e w'=>e= .returned (.bool (typeOK x.t.data.toList))∧W=w'):=fun W=>rightType_any x.t W hts;have HVa:Hid (∀W,Hid (prw.Env W)→Calls Tryz.prog 210 #[.string x.v] W fun e w'=>e= .returned (.bool (valOK x.v.data.toList))∧Below W.heap.size W w'):=fun W h=>rightValue_any x.v W hvs h;generalize hasB l i x.t=b1 at CC1 hx;generalize typeOK x.t.data.toList=b2 at HTy hx;generalize valOK x.v.data.toList=b3 at HVa hx;have HC:=Lib.hid CC1;clear CC CC1 hBA;go_wp2_with fail;refine HC.out.mono ?_;rintro e w2 ⟨rfl,hC2⟩;have hnb:wr.heap.size<(wr.alloc (.cells #[.string x.t,.string x.v] 51)).heap.size:=(by simp);have y0:w2.cell? ⟨wr.heap.size,0,none⟩=some (.string x.t):=(hC2.cell (p:=⟨wr.heap.size,0,none⟩) hnb).trans (by rw[World.cell?_alloc_new];rfl);have y1:w2.cell? ⟨wr.heap.size,1,none⟩=some (.string x.v):=(hC2.cell (p:=⟨wr.heap.size,1,none⟩) hnb).trans (by rw[World.cell?_alloc_new];rfl);have hB2:=hBA1.out.trans (hC2.mono hBA1.out.size);have HE2:=Lib.hid (prw.env_below hE.out hB2);have hsz2:=hB2.size;clear hc0 hc1 hC2 hnb HC;cases b1 with
     | true=>have HN:=Lib.hid (hpn (by rw[hx];rfl));clear hpn hpy hx;go_wp2_with fail;go_ret;exact⟨kt.ret_bool HN.out,hB2⟩
     | false=>
      cases b2 with
      | false=>have HN:=Lib.hid (hpn (by rw[hx];rfl));clear hpn hpy hx;go_wp2_with fail;refine(HTy.out _).mono ?_;rintro e w3 ⟨rfl,rfl⟩;go_wp2_with fail;go_ret;exact⟨kt.ret_bool HN.out,hB2⟩
      | true=>
       have HV2:=Lib.hid (HVa.out w2 HE2);cases b3 with
       | false=>have HN:=Lib.hid (hpn (by rw[hx];rfl));clear hpn hpy hx;go_wp2_with fail;refine(HTy.out _).mono ?_;rintro e w3 ⟨rfl,rfl⟩;go_wp2_with fail;refine HV2.out.mono ?_;rintro e w4 ⟨rfl,hB4⟩;go_wp2_with fail;go_ret;exact⟨kt.ret_bool HN.out,hB2.trans (hB4.mono hsz2)⟩
       | true=>
        have HY:=Lib.hid (hpy (by rw[hx];rfl));clear hpn hpy hx;go_wp2_with fail;refine(HTy.out _).mono ?_;rintro e w3 ⟨rfl,rfl⟩;go_wp2_with fail;refine HV2.out.mono ?_;rintro e w4 ⟨rfl,hB4⟩;go_wp2_with fail;go_roundw;case rel=>exact⟨i+1,by omega,by go_num,HY,hB2.trans (hB4.mono hsz2)⟩
        case measure=>simp[intOf];omega
    ·obtain rfl:i=l.length:=(by omega);have HN:=Lib.hid (rdnOK_yes (l:=l) (by omega) (by omega) (fun j hj=>hP.out j hj hj));go_wp2_with fail;go_ret;exact⟨kt.ret_bool HN.out,hB⟩
end dnw
open Go.RowKit
namespace dnw
open dnp
def nameOK (n:List (List Av)):Bool:=decide (n.length≤12)&&n.all rdnOK
theorem nameOK_len {n:List (List Av)}(h:12<n.length):false=nameOK n:=by unfold nameOK;rw[decide_eq_false (by omega: ¬n.length≤12)];rfl
theorem nameOK_no {n:List (List Av)}{i:Nat}(hi:i<n.length)(h:rdnOK n[i]=false):false=nameOK n:=by symm;unfold nameOK;rw[Bool.and_eq_false_iff];right;rw[Bool.eq_false_iff];intro e;have:=List.all_eq_true.1 e n[i] (List.getElem_mem hi);rw[h]at this;cases this
theorem nameOK_all {n:List (List Av)}(h: ∀i (hi:i<n.length),rdnOK n[i]=true):decide (n.length≤12)=nameOK n:=by
 unfold nameOK;have:n.all rdnOK=true:=by rw[List.all_eq_true];intro l hl;obtain⟨i,hi,rfl⟩:=List.mem_iff_getElem.1 hl;exact h i hi
 rw[this,Bool.and_true]
theorem right_any (ao:Option Addr)(cap:Nat)(n:List (List Av))(w:World)(hA:Hid (Rdns w ao n))(hE:Hid (prw.Env w))(hS:Hid (∀l∈n,l.length≤4→Smalls l)):
  Calls Tryz.prog 97 #[.slice ao n.length cap] w fun e w'=>e= .returned (.bool (nameOK n))∧Below w.heap.size w w':=by
 by_cases h12:12<n.length
 ·have h12':12<(n.length:Int):=by omega
  have HN:=Lib.hid (nameOK_len h12);go_enter Tryz.func97,Tryz.ntmps97;go_wp2_with fail;go_ret;exact⟨kt.ret_bool HN.out,Below.refl _ _⟩
 ·have h12': ¬12<(n.length:Int):=by omega
  have hn12:n.length≤12:=by omega
  go_enter Tryz.func97,Tryz.ntmps97;go_wp2_with fail;go_loopw [4,10] (fun _ iv wr=> ∃i:Nat,i≤n.length∧iv= .int .i64 (i:Int)∧Hid (∀j (hj:j<n.length),j<i→rdnOK n[j]=true)∧Below w.heap.size w wr) (fun _ iv _=>n.length- (intOf iv).toNat);case atStart=>exact⟨0,Nat.zero_le _,rfl,fun j _ h=>by omega,Below.refl _ _⟩
  case round=>
   obtain⟨i,hi,rfl,hP,hB⟩:=hrel;have hsz:=hB.size;by_cases hlt:i<n.length
   ·have hlt':(i:Int)<(n.length:Int):=(by omega);obtain⟨b,o,ao',cap',hao,hc0,hcc,hAv⟩:=(rdns_below hA.out hB) i hlt;subst hao;have hSm:=hS.out n[i] (List.getElem_mem hlt);have hpn:=fun h=>nameOK_no (n:=n) hlt h;have hpy:rdnOK n[i]=true→ ∀j (hj:j<n.length),j<i+1→rdnOK n[j]=true:=by
     intro h j hj hji;by_cases e:j=i
     ·subst e;exact h
     ·exact hP.out j hj (by omega)
    have CR:=rightRdn_any ao' cap' n[i] wr (Lib.hid hAv) (Lib.hid (prw.env_below hE.out hB)) (Lib.hid hSm) hcc;generalize n[i]=l at hc0 hpn hpy CR;generalize hm:l.length=m at hc0 CR;cases hr:rdnOK l with
    | false=>rw[hr]at CR;have HN:=Lib.hid (hpn hr);have HC:=Lib.hid CR;clear CR hpn hpy hr hm hAv hSm hcc;go_wp2_with fail;refine HC.out.mono ?_;rintro e w2 ⟨rfl,hB2⟩;go_wp2_with fail;go_ret;exact⟨kt.ret_bool HN.out,hB.trans (hB2.mono hsz)⟩
    | true=>
     rw[hr]at CR;have HY:=Lib.hid (hpy hr);have HC:=Lib.hid CR;clear CR hpn hpy hr hm hAv hSm hcc;go_wp2_with fail;refine HC.out.mono ?_;rintro e w2 ⟨rfl,hB2⟩;go_wp2_with fail;go_roundw;case rel=>exact⟨i+1,by omega,by go_num,HY,hB.trans (hB2.mono hsz)⟩
     case measure=>simp[intOf];omega
   ·obtain rfl:i=n.length:=(by omega);have HN:=Lib.hid ((decide_eq_true hn12).symm.trans (nameOK_all (n:=n) (fun j hj=>hP.out j hj hj)));go_wp2_with fail;go_ret;exact⟨kt.ret_bool HN.out,hB⟩
end dnw
open Go.RowKit
namespace dnw
def acell (x:Av):List Value:=[.string x.t,.string x.v]
def acells (l:List Av):List Value:=l.flatMap acell
theorem acells_append (a b:List Av):acells (a++b)=acells a++acells b:=List.flatMap_append ..
theorem infoAva:(Tryz.prog.info? 51).map (fun i=>(i.zero,i.size,i.bytes))=some (some (.agg #[.string ByteArray.empty,.string ByteArray.empty]),2,32):=by kernel_rfl
theorem infoRow:(Tryz.prog.info? 23).map (fun i=>(i.zero,i.size,i.bytes))=some (some (.slice none 0 0),1,24):=by kernel_rfl
def OwnA (w:World)(B:Nat)(v:Value)(l:List Av):Prop:=kt.SegX w B 51 2 v l.length (acells l)
theorem ownA_nil (w:World)(B:Nat):OwnA w B (.slice none 0 0) []:=kt.segX_nil _ _ _ _
theorem ownA_same {w w':World}{B:Nat}{v:Value}{l:List Av}(h:OwnA w B v l)(hb: ∀k,v.ownBlock=some k→w'.heap[k]? =w.heap[k]?):OwnA w' B v l:=kt.segX_same h hb
theorem ownA_lt {w:World}{B:Nat}{v:Value}{l:List Av}(h:OwnA w B v l): ∀k,v.ownBlock=some k→B≤k∧k<w.heap.size:=kt.segX_lt h
theorem ownA_form {w:World}{B:Nat}{v:Value}{l:List Av}(h:OwnA w B v l): ∃ao cap,v= .slice ao l.length cap∧l.length≤cap:=kt.segX_slice h
theorem ownA_avas {w:World}{B cap:Nat}{ao:Option Addr}{l:List Av}(h:OwnA w B (.slice ao l.length cap) l):Avas w ao l:=by
 intro i hi;obtain⟨g,o,cap',hv,_,_,hc⟩:=kt.segX_cell h (by omega);simp only[Value.slice.injEq]at hv;obtain⟨rfl,_,_⟩:=hv;have h0:=kt.flat_get acell 2 (fun _=>rfl) l i 0 hi (by omega);have h1:=kt.flat_get acell 2 (fun _=>rfl) l i 1 hi (by omega);refine⟨g,o,rfl,?_,?_⟩
 ·exact hc _ _ h0
 ·rw[Nat.add_assoc];exact hc _ _ h1
structure Nest (w:World)(B:Nat)(vn vl:Value)(ns:List (List Av))(cur:List Av)(vals:List Value):Prop where
 outer:kt.SegX w B 23 1 vn vals.length vals
 len:vals.length=ns.length
 inner: ∀j (h:j<vals.length) (h':j<ns.length),OwnA w B vals[j] ns[j]∧ ∀k,vals[j].ownBlock=some k→vn.ownBlock≠some k∧vl.ownBlock≠some k
 cur:OwnA w B vl cur
 apart: ∀k,vl.ownBlock=some k→vn.ownBlock≠some k
theorem nest_nil (w:World)(B:Nat):Nest w B (.slice none 0 0) (.slice none 0 0) [] [] []:=⟨kt.segX_nil _ _ _ _,rfl,fun j h _=>by simp at h,ownA_nil _ _,fun k h=>by simp[Value.ownBlock]at h⟩
theorem nest_same {w w':World}{B:Nat}{vn vl:Value}{ns:List (List Av)}{cur:List Av}{vals:List Value}(h:Nest w B vn vl ns cur vals)(hb: ∀k,B≤k→k<w.heap.size→w'.heap[k]? =w.heap[k]?):Nest w' B vn vl ns cur vals:=by
 refine⟨kt.segX_same h.outer fun k hk=> ?_,h.len,fun j h1 h2=>⟨ownA_same (h.inner j h1 h2).1 fun k hk=> ?_,(h.inner j h1 h2).2⟩,ownA_same h.cur fun k hk=> ?_,h.apart⟩
 ·have:=kt.segX_lt h.outer k hk;exact hb k this.1 this.2
 ·have:=ownA_lt (h.inner j h1 h2).1 k hk;exact hb k this.1 this.2
 ·have:=ownA_lt h.cur k hk;exact hb k this.1 this.2
theorem nest_gr {w w':World}{B b:Nat}{vn vl:Value}{ns:List (List Av)}{cur:List Av}{vals:List Value}(h:Nest w B vn vl ns cur vals)(hb:b<B)(hg:w.grownBy w' (some b)):Nest w' B vn vl ns cur vals:=nest_same h fun k hk hlt=>hg.block k hlt (by intro e;cases e;omega)
theorem nest_below {w w':World}{B:Nat}{vn vl:Value}{ns:List (List Av)}{cur:List Av}{vals:List Value}(h:Nest w B vn vl ns cur vals)(hb:Below w.heap.size w w'):Nest w' B vn vl ns cur vals:=nest_same h fun k _ hlt=>hb.block k hlt
theorem below_of_gr {w w1:World}{B:Nat}{v:Value}(hg:w.grownBy w1 v.ownBlock)(hB:B≤w.heap.size)(hv: ∀k,v.ownBlock=some k→B≤k):Below B w w1:=(Below.refl B w).grown hg hB hv
theorem nest_app {w:World}{B:Nat}{vn vl:Value}{ns:List (List Av)}{cur:List Av}{vals:List Value}(x:Av)(h:Nest w B vn vl ns cur vals)(hl:cur.length≤1100000)(hB:B≤w.heap.size):
  ∃vl' w1,(Builtin.append_ #[23,23] 23 #[vl,.slice (some ⟨w.heap.size,0,none⟩) 1 1]).run Tryz.prog (w.alloc (.cells #[.string x.t,.string x.v] 51))= .ok vl' w1∧Nest w1 B vn vl' ns (cur++[x]) vals∧Below B w w1:=by
 have hn:=nest_below h (w':=w.alloc (.cells #[.string x.t,.string x.v] 51)) ((Below.refl _ _).alloc (Nat.le_refl _) _);obtain⟨vl',w1,h1,h2,h3,h4⟩:=kt.segX_append (P:=Tryz.prog) (t:=23) (ty:=23) Tryz.underlying23 infoAva rfl (by omega) ⟨w.heap.size,0,none⟩ 1 1 (acell x) rfl (fun j u hj=>by rw[kt.addr_add,World.cell?_alloc_new];simpa[acell]using hj) (by intro u hu;simp[acell]at hu;rcases hu with rfl | rfl<;>rfl) hn.cur (by unfold maxLen;omega) (by omega) (by simp;omega);have hne: ∀ (v:Value),(∀k,v.ownBlock=some k→vl.ownBlock≠some k)→ ∀k,v.ownBlock=some k→k<(w.alloc (.cells #[.string x.t,.string x.v] 51)).heap.size→w1.heap[k]? =(w.alloc (.cells #[.string x.t,.string x.v] 51)).heap[k]? :=by intro v hv k hk hlt;exact h3.block k hlt (fun e=>hv k hk e.symm)
 have hnew: ∀k,k<(w.alloc (.cells #[.string x.t,.string x.v] 51)).heap.size→vl.ownBlock≠some k→vl'.ownBlock≠some k:=by
  intro k hlt hk e;rcases h4 k e with e2 | e2
  ·exact hk e2
  ·omega
 refine⟨vl',w1,h1,⟨kt.segX_same hn.outer fun k hk=> ?_,hn.len,fun j a b=> ?_,?_,?_⟩,?_⟩
 ·have hlt:=(kt.segX_lt hn.outer k hk).2;exact hne vn (fun k hk e=>hn.apart k e hk) k hk hlt
 ·obtain⟨i1,i2⟩:=hn.inner j a b;refine⟨ownA_same i1 fun k hk=>hne _ (fun k hk=>(i2 k hk).2) k hk (ownA_lt i1 k hk).2,fun k hk=>⟨(i2 k hk).1,hnew k (ownA_lt i1 k hk).2 (i2 k hk).2⟩⟩
 ·unfold OwnA;rw[List.length_append,acells_append];have e:acells [x]=acell x:=by simp[acells]
  rw[e];exact h2
 ·intro k hk e;have hlt:=(kt.segX_lt hn.outer k e).2;exact hnew k hlt (fun e2=>hn.apart k e2 e) hk
 ·refine((Below.refl B w).alloc hB _).trans (below_of_gr h3 (by simp;omega) (fun k hk=>(ownA_lt hn.cur k hk).1))
theorem nest_push {w:World}{B:Nat}{vn vl:Value}{ns:List (List Av)}{cur:List Av}{vals:List Value}(h:Nest w B vn vl ns cur vals)(hl:vals.length≤1100000)(hB:B≤w.heap.size):
  ∃vn' w1,(Builtin.append_ #[55,55] 55 #[vn,.slice (some ⟨w.heap.size,0,none⟩) 1 1]).run Tryz.prog (w.alloc (.cells #[vl] 23))= .ok vn' w1∧Nest w1 B vn' (.slice none 0 0) (ns++[cur]) [] (vals++[vl])∧Below B w w1:=by
 have hn:=nest_below h (w':=w.alloc (.cells #[vl] 23)) ((Below.refl _ _).alloc (Nat.le_refl _) _);obtain⟨ao,cap,hvl,_⟩:=ownA_form h.cur;obtain⟨vn',w1,h1,h2,h3,h4⟩:=kt.segX_append (P:=Tryz.prog) (t:=55) (ty:=55) Tryz.underlying55 infoRow rfl (by omega) ⟨w.heap.size,0,none⟩ 1 1 [vl] rfl (fun j u hj=>by rw[kt.addr_add,World.cell?_alloc_new];simpa using hj) (by intro u hu;simp at hu;subst hu;rw[hvl];rfl) hn.outer (by unfold maxLen;omega) (by omega) (by simp;omega);have hne: ∀ (v:Value),(∀k,v.ownBlock=some k→vn.ownBlock≠some k)→ ∀k,v.ownBlock=some k→k<(w.alloc (.cells #[vl] 23)).heap.size→w1.heap[k]? =(w.alloc (.cells #[vl] 23)).heap[k]? :=by intro v hv k hk hlt;exact h3.block k hlt (fun e=>hv k hk e.symm)
 have hnew: ∀k,k<(w.alloc (.cells #[vl] 23)).heap.size→vn.ownBlock≠some k→vn'.ownBlock≠some k:=by
  intro k hlt hk e;rcases h4 k e with e2 | e2
  ·exact hk e2
  ·omega
 have hnil: ∀k,(Value.slice none 0 0).ownBlock≠some k:=fun k e=>by simp[Value.ownBlock]at e
 refine⟨vn',w1,h1,⟨?_,by simp[h.len],fun j a b=> ?_,ownA_nil _ _,fun k hk=>absurd hk (hnil k)⟩,?_⟩
 ·rw[List.length_append];exact h2
 ·by_cases e:j<vals.length
  ·rw[List.getElem_append_left e,List.getElem_append_left (by rw[←h.len];exact e)];obtain⟨i1,i2⟩:=hn.inner j e (by rw[←h.len];exact e);exact⟨ownA_same i1 fun k hk=>hne _ (fun k hk=>(i2 k hk).1) k hk (ownA_lt i1 k hk).2,fun k hk=>⟨hnew k (ownA_lt i1 k hk).2 (i2 k hk).1,hnil k⟩⟩
  ·have ej:j=vals.length:=(by simp at a;omega);subst ej;rw[List.getElem_append_right (Nat.le_refl _),List.getElem_append_right (by rw[h.len];exact Nat.le_refl _)];simp only[Nat.sub_self,h.len,List.getElem_cons_zero];exact⟨ownA_same hn.cur fun k hk=>hne _ hn.apart k hk (ownA_lt hn.cur k hk).2,fun k hk=>⟨hnew k (ownA_lt hn.cur k hk).2 (hn.apart k hk),hnil k⟩⟩
 ·refine((Below.refl B w).alloc hB _).trans (below_of_gr h3 (by simp;omega) (fun k hk=>(kt.segX_lt hn.outer k hk).1))
theorem nest_form {w:World}{B:Nat}{vn vl:Value}{ns:List (List Av)}{cur:List Av}{vals:List Value}(h:Nest w B vn vl ns cur vals):(∃ao cap,vn= .slice ao ns.length cap∧ns.length≤cap)∧(∃ao cap,vl= .slice ao cur.length cap∧cur.length≤cap):=by refine⟨?_,ownA_form h.cur⟩;have:=kt.segX_slice h.outer;rw[h.len]at this;exact this
theorem nest_rdns {w:World}{B cap:Nat}{ao:Option Addr}{vl:Value}{ns:List (List Av)}{cur:List Av}{vals:List Value}(h:Nest w B (.slice ao ns.length cap) vl ns cur vals):Rdns w ao ns:=by
 intro i hi;have hi':i<vals.length:=by rw[h.len];exact hi
 obtain⟨g,o,cap',hv,_,_,hc⟩:=kt.segX_cell h.outer (by omega);simp only[Value.slice.injEq]at hv;obtain⟨rfl,_,_⟩:=hv;obtain⟨i1,_⟩:=h.inner i hi' hi;obtain⟨ao',cap2,hf,hcap⟩:=ownA_form i1;rw[hf]at i1;refine⟨g,o,ao',cap2,rfl,?_,hcap,ownA_avas i1⟩;rw[←hf];exact hc i vals[i] (List.getElem?_eq_getElem hi')
end dnw
namespace dnw
open dnp
def av (p:Pr):Av:=⟨⟨p.1.toArray⟩,⟨p.2.toArray⟩⟩
def grpA (cur:List Av):List (UInt8 × Pr)→List (List Av)
 | []=>[cur]
 | (c,p)::r=>if c=43 then grpA (cur++[av p]) r else cur::grpA [av p] r
def P (l:List UInt8):Option (Pr × List (UInt8 × Pr)):=PF (l.length+1) l
theorem P_R (l:List UInt8):P l=R l:=P_eq_R _ l (Nat.lt_succ_self _)
theorem P_step (l:List UInt8):P l=(kindP l).bind fun k=>(valueP k.2).bind fun v=>match v.2 with
  | []=>some ((k.1,v.1),[])
  | c::r=>(P r).map fun p=>((k.1,v.1),(c,p.1)::p.2):=by
 unfold P;rw[PF];cases hk:kindP l with
 | none=>rfl
 | some k=>
  simp only[Option.bind_some];cases hv:valueP k.2 with
  | none=>rfl
  | some v=>
   simp only[Option.bind_some];cases hr:v.2 with
   | nil=>rfl
   | cons c r=>
    simp only[]
    -- the rest is shorter
    have hlen:r.length<l.length:=by
     obtain⟨t,rr⟩:=k;obtain⟨x,T,y,rfl,_,_,_,_⟩:=kindP_some hk;have h1:(c::r).length≤rr.length:=by
      unfold valueP at hv;split at hv
      ·cases hv
      ·obtain⟨q,hq,hq2⟩:=Option.map_eq_some_iff.1 hv;rw[←hq2]at hr;simp only at hr;obtain⟨a,ha,_⟩:=dropW_split (fun c:UInt8=>decide (c=32)) rr;have h2:(rr.dropWhile fun c=>decide (c=32)).length≤rr.length:=(by have:=congrArg List.length ha;rw[List.length_append]at this;omega);rcases scan_signs _ (rr.dropWhile fun c=>decide (c=32)) (Nat.le_refl _)with⟨e1,_⟩ | ⟨B,e1,_⟩ | ⟨B,c',r',e1,_,e3,_⟩
       ·rw[e1]at hq;cases hq
       ·rw[e1]at hq;cases hq;cases hr
       ·rw[e1]at hq;cases hq;cases hr;simp only[List.length_cons];omega
     simp only[List.length_append,List.length_cons]at h1 ⊢;omega
    rw[P_eq_R _ r (by omega),P_eq_R _ r (by omega)]
def GP (ns:List (List Av))(cur:List Av)(l:List UInt8):Option (List (List Av)):=(P l).map fun q=>ns++grpA (cur++[av q.1]) q.2
theorem GP_kind {ns:List (List Av)}{cur:List Av}{l:List UInt8}(h:kindP l=none):GP ns cur l=none:=by unfold GP;rw[P_step,h];rfl
theorem GP_value {ns:List (List Av)}{cur:List Av}{l t r:List UInt8}(h:kindP l=some (t,r))(h2:valueP r=none):GP ns cur l=none:=by unfold GP;rw[P_step,h];simp only[Option.bind_some];rw[h2];rfl
theorem GP_end {ns:List (List Av)}{cur:List Av}{l t r v:List UInt8}(h:kindP l=some (t,r))(h2:valueP r=some (v,[])):GP ns cur l=some (ns++[cur++[av (t,v)]]):=by unfold GP;rw[P_step,h];simp only[Option.bind_some];rw[h2];rfl
theorem GP_plus {ns:List (List Av)}{cur:List Av}{l t r v u:List UInt8}(h:kindP l=some (t,r))(h2:valueP r=some (v,43::u)):GP ns cur l=GP ns (cur++[av (t,v)]) u:=by unfold GP;rw[P_step,h];simp only[Option.bind_some];rw[h2];simp only[Option.bind_some,Option.map_map];congr 1
theorem GP_next {ns:List (List Av)}{cur:List Av}{l t r v u:List UInt8}{c:UInt8}(h:kindP l=some (t,r))(h2:valueP r=some (v,c::u))(hc:c≠43):GP ns cur l=GP (ns++[cur++[av (t,v)]]) [] u:=by unfold GP;rw[P_step,h];simp only[Option.bind_some];rw[h2];simp only[Option.bind_some,Option.map_map];congr 1;funext q;simp only[Function.comp];rw[grpA,if_neg hc];first | done | simp
theorem scan_len: ∀ (n:Nat) (l:List UInt8) (B:List Sg) (r:List UInt8),l.length≤n→scan l=some (B,r)→B.length≤l.length
 | n,[],B,r,_,h=>by rw[scan_nil]at h;cases h;exact Nat.le_refl _
 | 0,_::_,_,_,h,_=>by simp at h
 | n+1,c::t,B,r,hn,h=>by
  simp only[List.length_cons]at hn;by_cases hs:isSep c=true
  ·rw[scan_sep c t hs]at h;cases h;exact Nat.zero_le _
  ·have hs':isSep c=false:=(by simpa using hs);by_cases hb:bad c=true
   ·rw[scan_bad c t hs' hb]at h;cases h
   ·have hb':bad c=false:=(by simpa using hb);by_cases h92:c=92
    ·subst h92;cases he:esc t with
     | none=>rw[scan_none t he]at h;cases h
     | some p=>obtain⟨d,k⟩:=p;rw[scan_esc t d k he]at h;obtain⟨q,hq,hq2⟩:=Option.map_eq_some_iff.1 h;cases hq2;have:=scan_len n (t.drop k) q.1 q.2 (by rw[List.length_drop];omega) hq;rw[List.length_drop]at this;simp only[List.length_cons];omega
    ·rw[scan_bare c t hs' hb' h92]at h;obtain⟨q,hq,hq2⟩:=Option.map_eq_some_iff.1 h;cases hq2;have:=scan_len n t q.1 q.2 (by omega) hq;simp only[List.length_cons];omega
theorem value_len {r v u:List UInt8}(h:valueP r=some (v,u)):v.length≤r.length:=by
 unfold valueP at h;split at h
 ·cases h
 ·obtain⟨q,hq,hq2⟩:=Option.map_eq_some_iff.1 h;cases hq2;have h1:=scan_len _ _ q.1 q.2 (Nat.le_refl _) hq;have h2:=trimR_len q.1;obtain⟨a,ha,_⟩:=dropW_split (fun c:UInt8=>decide (c=32)) r;have h3:=congrArg List.length ha;rw[List.length_append]at h3;rw[List.length_map];omega
theorem kind_len {l t r:List UInt8}(h:kindP l=some (t,r)):t.length≤32:=by obtain⟨x,T,y,_,_,_,hT,rfl⟩:=kindP_some h;unfold typeOK at hT;simp only[Bool.and_eq_true,decide_eq_true_eq]at hT;exact hT.1.2
theorem av_small {t v:List UInt8}(ht:t.length≤32)(hv:v.length≤10000):(av (t,v)).t.size≤100000∧(av (t,v)).v.size≤1100000:=by
 unfold av;refine⟨?_,?_⟩
 ·rw[←kt.size_len];show t.length≤_;omega
 ·rw[←kt.size_len];show v.length≤_;omega
def parseR (l:List UInt8):Option (List (List Av)):=
 if l.dropWhile (· =32)=[]then some []else match GP [] [] (l.dropWhile (· =32))with
  | none=>none
  | some n=>if nameOK n=true then some n else none
end dnw
open Go.RowKit
namespace dnw
open dnp
def ParseE (s:ByteArray)(w:World)(e:Ending)(w':World):Prop:=
 Below w.heap.size w w'∧if 1000<s.size then e= .returned (.tuple #[.slice none 0 0,.int .i64 5])else match parseR s.data.toList with
  | none=>e= .returned (.tuple #[.slice none 0 0,.int .i64 4])
  | some n=> ∃ao cap,e= .returned (.tuple #[.slice ao n.length cap,.int .i64 0])∧n.length≤cap∧Rdns w' ao n∧ ∀l∈n,Smalls l
structure PRel (w wr:World)(s:ByteArray)(j0 j:Nat)(vn vl:Value)(ns:List (List Av))(cur:List Av)(vals:List Value):Prop where
 nest:Nest wr (w.heap.size+1) vn vl ns cur vals
 sc:Sc wr w.heap.size s j
 below:Below w.heap.size w wr
 gp:GP [] [] (s.data.toList.drop j0)=GP ns cur (s.data.toList.drop j)
 len:ns.length+cur.length≤j
 small:(∀l∈ns,Smalls l)∧Smalls cur
theorem below_gr {w wr w2:World}(h:Below w.heap.size w wr)(hg:wr.grownBy w2 (some w.heap.size)):Below w.heap.size w w2:=⟨hg.os.trans h.os,hg.tape.trans h.tape,hg.output.trans h.output,Nat.le_trans h.size hg.size,fun k hk=>(hg.block k (Nat.lt_of_lt_of_le hk h.size) (by intro e;cases e;omega)).trans (h.block k hk)⟩
theorem prel_gr {w wr w2:World}{s:ByteArray}{j0 j:Nat}{vn vl:Value}{ns:List (List Av)}{cur:List Av}{vals:List Value}(h:PRel w wr s j0 j vn vl ns cur vals)(hg:wr.grownBy w2 (some w.heap.size)):Nest w2 (w.heap.size+1) vn vl ns cur vals∧Below w.heap.size w w2:=⟨nest_gr h.nest (by omega) hg,below_gr h.below hg⟩
theorem tabs_gr {w wr w2:World}(hT:Tabs w)(hb:Below w.heap.size w wr)(hg:wr.grownBy w2 (some w.heap.size)):Tabs w2:=tabs_below hT (below_gr hb hg)
theorem nest_letters {w:World}{B:Nat}{vn vl:Value}{ns:List (List Av)}{cur:List Av}{vals:List Value}(h:Nest w B vn vl ns cur vals):(∃ (ao:Option Addr) (m cap:Nat),vn= .slice ao m cap∧Hid (m=ns.length)∧m≤cap)∧(∃ (ao:Option Addr) (m cap:Nat),vl= .slice ao m cap∧Hid (m=cur.length)∧m≤cap):=by obtain⟨⟨a,c,h1,h2⟩,⟨a',c',h3,h4⟩⟩:=nest_form h;exact⟨⟨a,_,c,h1,rfl,h2⟩,⟨a',_,c',h3,rfl,h4⟩⟩
theorem prel_move {w w4:World}{s:ByteArray}{j0 j2:Nat}{vn vl:Value}{ns:List (List Av)}{cur:List Av}{vals:List Value}(hN:Nest w4 (w.heap.size+1) vn vl ns cur vals)(hS:Sc w4 w.heap.size s j2)(hB:Below w.heap.size w w4)
  (hg:GP [] [] (s.data.toList.drop j0)=GP ns cur (s.data.toList.drop (j2+1))) (hl:ns.length+cur.length≤j2+1) (hs:(∀l∈ns,Smalls l)∧Smalls cur):
  PRel w (w4.setCell ⟨w.heap.size,1,none⟩ (.int .i64 ((j2:Int)+1))) s j0 (j2+1) vn vl ns cur vals:=by
 have hgr:w4.grownBy (w4.setCell ⟨w.heap.size,1,none⟩ (.int .i64 ((j2:Int)+1))) (some w.heap.size):=gr_set0 (gr_refl _ _) _;exact⟨nest_gr hN (by omega) hgr,sc_inc0 hS,below_gr hB hgr,hg,hl,hs⟩
theorem parse_any (s:ByteArray)(w:World)(hs:s.size≤140737488351232)(hE:Hid (prw.Env w))(hT:Hid (Tabs w)):
  Calls Tryz.prog 94 #[.string s] w fun e w'=>ParseE s w e w':=by
 by_cases h1000:1000<s.size
 ·have h':1000<(s.size:Int):=by omega
  have H1:=Lib.hid h1000;go_enter Tryz.func94,Tryz.ntmps94;go_wp2_with fail;go_ret2;refine⟨Below.refl _ _,?_⟩;rw[if_pos H1.out];rfl
 ·have h': ¬1000<(s.size:Int):=by omega
  have H1:=Lib.hid h1000;have hs1:s.size≤1000:=by omega
  have HW1:Hid (Sc (w.alloc (.cells #[.string s,.int .i64 0] 187)) w.heap.size s 0):=heap_alloc_new w _;have CB:=Lib.hid (blanks_any w.heap.size s 0 _ HW1 (Nat.zero_le _) (by omega));have HB1:Hid (Below w.heap.size w (w.alloc (.cells #[.string s,.int .i64 0] 187))):=(Below.refl _ _).alloc (Nat.le_refl _) _;go_enter Tryz.func94,Tryz.ntmps94;go_wp2_with fail;refine CB.out.mono ?_;rintro e w1 ⟨rfl,j0,_,hj0,hD0,hS1,hG1⟩;have HD0:=Lib.hid hD0;have HS1:=Lib.hid hS1;have HBw:=Lib.hid (below_gr HB1.out hG1);obtain⟨c0,c1,f1,hb1⟩:=sc_cells hS1;clear hD0 hS1 hG1 CB HB1 HW1;by_cases hend:j0=s.size
  ·subst hend;go_wp2_with fail;go_ret2;refine⟨HBw.out,?_⟩;rw[if_neg H1.out];have e0:parseR s.data.toList=some []:=(by unfold parseR;rw[if_pos];have:=HD0.out;rw[drop_end]at this;exact this.symm);rw[e0];exact⟨none,0,rfl,Nat.le_refl _,fun i hi=>by simp at hi,fun l hl=>by simp at hl⟩
  ·have hne:((j0:Int)==(s.size:Int))=false:=(by rw[beq_eq_false_iff_ne];omega);have hj0l:j0<s.size:=(by omega);have HNO:Hid (∀w',Below w.heap.size w w'→GP [] [] (s.data.toList.drop j0)=none→ParseE s w (.returned (.tuple #[.slice none 0 0,.int .i64 4])) w'):=(by intro w' hb hg;refine⟨hb,?_⟩;rw[if_neg H1.out];have e0:parseR s.data.toList=none:=(by unfold parseR;have:=HD0.out;rw[List.drop_zero]at this;rw[←this,if_neg (prw.drop_ne hj0l),hg]);rw[e0]);have HYES:Hid (∀n,GP [] [] (s.data.toList.drop j0)=some n→parseR s.data.toList=if nameOK n=true then some n else none):=(by intro n hg;unfold parseR;have:=HD0.out;rw[List.drop_zero]at this;rw[←this,if_neg (prw.drop_ne hj0l),hg]);clear hend;have HR0:Hid (PRel w w1 s j0 j0 (.slice none 0 0) (.slice none 0 0) [] [] []):=⟨nest_nil _ _,HS1.out,HBw.out,rfl,Nat.zero_le _,fun l hl=>by simp at hl,fun x hx=>by simp at hx⟩;go_wp2_with fail;clear c0 c1 f1 hb1;go_loopw [5,6,7,8,9,10] (fun nv lv _ _ _ _ wr=> ∃ (j:Nat) (ns:List (List Av)) (cur:List Av) (vals:List Value),j0≤j∧j≤s.size∧Hid (PRel w wr s j0 j nv lv ns cur vals)) (fun _ _ _ _ _ _ wr=>s.size+1-posOf wr w.heap.size);case atStart=>exact⟨j0,[],[],[],Nat.le_refl _,hj0,HR0⟩
   case round=>
    obtain⟨j,ns,cur,vals,hj0j,hj,hR⟩:=hrel;obtain⟨⟨aoN,mN,capN,rfl,hmN,hcN⟩,⟨aoL,mL,capL,rfl,hmL,hcL⟩⟩:=nest_letters hR.out.nest;have HPOS:=Lib.hid (posOf_sc hR.out.sc);have CK:=kind_any w.heap.size s j wr (Lib.hid hR.out.sc) hj (by omega) (Lib.hid (tabs_below hT.out hR.out.below)) (Lib.hid (fun w' hg=>tabs_gr hT.out hR.out.below hg));cases hk:kindP (s.data.toList.drop j)with
    | none=>have HC:Hid (Calls Tryz.prog 156 #[.pointer (some ⟨w.heap.size,0,none⟩)] wr fun e w'=>wr.grownBy w' (some w.heap.size)∧ ∃j',e= .returned (.tuple #[.string ⟨#[]⟩,.bool false])∧Sc w' w.heap.size s j'):=(by refine CK.mono fun e w' h=> ?_;unfold KindE at h;rw[hk]at h;exact h);have HG:Hid (GP [] [] (s.data.toList.drop j0)=none):=hR.out.gp.trans (GP_kind hk);clear CK hk;go_wp2_with fail;refine HC.out.mono ?_;rintro e w2 ⟨hg2,j',rfl,_⟩;go_wp2_with fail;go_ret2;exact HNO.out _ (below_gr hR.out.below hg2) HG.out
    | some kr=>
     obtain⟨t,r⟩:=kr;have HC:Hid (Calls Tryz.prog 156 #[.pointer (some ⟨w.heap.size,0,none⟩)] wr fun e w'=>wr.grownBy w' (some w.heap.size)∧ ∃j',e= .returned (.tuple #[.string ⟨t.toArray⟩,.bool true])∧j<j'∧j'≤s.size∧s.data.toList.drop j'=r∧Sc w' w.heap.size s j'):=(by refine CK.mono fun e w' h=> ?_;unfold KindE at h;rw[hk]at h;exact h);have HK:=Lib.hid hk;clear CK hk;go_wp2_with fail;refine HC.out.mono ?_;rintro e w2 ⟨hg2,j1,rfl,hjj1,hj1,hdr,hS2⟩;have HDR:=Lib.hid hdr;have HG2:=Lib.hid hg2;have CV:=value_any w.heap.size s j1 w2 (Lib.hid hS2) hj1 (by omega);clear hdr hg2 hS2 HC;cases hv:valueP (s.data.toList.drop j1)with
     | none=>have HC:Hid (Calls Tryz.prog 157 #[.pointer (some ⟨w.heap.size,0,none⟩)] w2 fun e w'=>w2.grownBy w' (some w.heap.size)∧ ∃j',e= .returned (.tuple #[.string ⟨#[]⟩,.bool false])∧Sc w' w.heap.size s j'):=(by refine CV.mono fun e w' h=> ?_;unfold ValE at h;rw[hv]at h;exact h);rw[HDR.out]at hv;have HG:Hid (GP [] [] (s.data.toList.drop j0)=none):=hR.out.gp.trans (GP_value HK.out hv);clear CV hv;go_wp2_with fail;refine HC.out.mono ?_;rintro e w3 ⟨hg3,j',rfl,_⟩;go_wp2_with fail;go_ret2;exact HNO.out _ (below_gr hR.out.below (gr_trans HG2.out hg3)) HG.out
     | some vr=>
      obtain⟨v,u⟩:=vr;have HC:Hid (Calls Tryz.prog 157 #[.pointer (some ⟨w.heap.size,0,none⟩)] w2 fun e w'=>w2.grownBy w' (some w.heap.size)∧ ∃j',e= .returned (.tuple #[.string ⟨v.toArray⟩,.bool true])∧j1≤j'∧j'≤s.size∧s.data.toList.drop j'=u∧Sc w' w.heap.size s j'):=(by refine CV.mono fun e w' h=> ?_;unfold ValE at h;rw[hv]at h;exact h);rw[HDR.out]at hv;have HV:=Lib.hid hv;clear CV hv;go_wp2_with fail;refine HC.out.mono ?_;rintro e w3 ⟨hg3,j2,rfl,hj12,hj2,hdu,hS3⟩;have HG3:=Lib.hid (gr_trans HG2.out hg3);obtain⟨hn3,hB3⟩:=prel_gr hR.out HG3.out;have hcl:cur.length≤1000:=(by have:=hR.out.len;omega);have hnl:ns.length≤1000:=(by have:=hR.out.len;omega);obtain⟨vl',w4,hap,hN4,hB4⟩:=nest_app (av (t,v)) hn3 (by omega) (by have:=kt.bld_lt hS3;omega);have hS4:Sc w4 w.heap.size s j2:=(hB4.block _ (by omega)).trans hS3;have hB4':Below w.heap.size w w4:=hB3.trans (hB4.mono (by omega));have hsm:Smalls (cur++[av (t,v)]):=by
       intro x hx;rcases List.mem_append.1 hx with hx | hx
       ·exact hR.out.small.2 x hx
       ·simp only[List.mem_singleton]at hx;subst hx;refine av_small (kind_len HK.out) ?_;have:=value_len HV.out;have h2:=congrArg List.length HDR.out;rw[List.length_drop,kt.size_len]at h2;omega
      obtain⟨_,⟨aoL4,mL4,capL4,rfl,hmL4,hcL4⟩⟩:=nest_letters hN4;have HN4:=Lib.hid hN4;have HS4:=Lib.hid hS4;have HB4:=Lib.hid hB4';have HSM:=Lib.hid hsm;have HDU:=Lib.hid hdu;obtain⟨d0,d1,g1,hb4⟩:=sc_cells hS4;have hap':(Builtin.append_ #[23,23] 23 #[_,.slice (some ⟨w3.heap.size,0,none⟩) 1 1]).run Tryz.prog (w3.alloc (.cells #[.string ⟨t.toArray⟩,.string ⟨v.toArray⟩] 51))= .ok (.slice aoL4 mL4 capL4) w4:=hap;clear hn3 hB3 hN4 hS4 hB4 hB4' hsm hdu hg3 hS3 HC hap;obtain⟨vn',w5,hap2,hN5,hB5⟩:=nest_push HN4.out (by rw[HN4.out.len];omega) (by have:=kt.bld_lt HS4.out;omega);have HN5:=Lib.hid hN5;have HB5:=Lib.hid (HB4.out.trans (hB5.mono (by omega)));have HS5:Hid (Sc w5 w.heap.size s j2):=(hB5.block _ (by omega)).trans HS4.out;have HSM5:Hid (∀l∈ns++[cur++[av (t,v)]],Smalls l):=by
       intro l hl;rcases List.mem_append.1 hl with hl | hl
       ·exact hR.out.small.1 l hl
       ·simp only[List.mem_singleton]at hl;subst hl;exact HSM.out
      have HLEN:Hid (ns.length+cur.length≤j):=hR.out.len;clear hN5 hB5;by_cases hend:j2=s.size
      ·have hq:((j2:Int)==(s.size:Int))=true:=(by rw[beq_iff_eq];omega);have HG:Hid (GP [] [] (s.data.toList.drop j0)=some (ns++[cur++[av (t,v)]])):=(by have hu:u=[]:=(by rw[←HDU.out,hend,drop_end]);have hv:=HV.out;rw[hu]at hv;exact hR.out.gp.trans (GP_end HK.out hv));obtain⟨⟨ao5,m5,cap5,hvn,hm5,hcap5⟩,_⟩:=nest_letters HN5.out;subst hvn;have hn5:=HN5.out;rw[hm5.out]at hn5 hcap5;have HRD:=Lib.hid (nest_rdns hn5);have CR:=right_any ao5 cap5 (ns++[cur++[av (t,v)]]) w5 HRD (Lib.hid (prw.env_below hE.out HB5.out)) (Lib.hid (fun l hl _=>HSM5.out l hl));have hy:=HYES.out _ HG.out;have HCAP:=Lib.hid hcap5;rw[←hm5.out]at CR;generalize hnn:ns++[cur++[av (t,v)]]=nn at HRD CR hy HCAP HSM5 hm5;clear hend hcap5 HG HV HN5 hnn hn5;cases hok:nameOK nn with
       | false=>rw[hok]at CR hy;have HCR:=Lib.hid CR;have HY:=Lib.hid hy;clear CR hy hok;go_wp2_with (first | (at_builtin;refine Lib.wpList_append_run _ rfl _ _ _ _ rfl _ _ rfl rfl _ _ hap' ?_) | (at_builtin;refine Lib.wpList_append_run _ rfl _ _ _ _ rfl _ _ rfl rfl _ _ hap2 ?_));refine HCR.out.mono ?_;rintro e w6 ⟨rfl,hB6⟩;go_wp2_with fail;go_ret2;refine⟨HB5.out.trans (hB6.mono HB5.out.size),?_⟩;rw[if_neg H1.out,HY.out];rfl
       | true=>rw[hok]at CR hy;have HCR:=Lib.hid CR;have HY:=Lib.hid hy;clear CR hy hok;go_wp2_with (first | (at_builtin;refine Lib.wpList_append_run _ rfl _ _ _ _ rfl _ _ rfl rfl _ _ hap' ?_) | (at_builtin;refine Lib.wpList_append_run _ rfl _ _ _ _ rfl _ _ rfl rfl _ _ hap2 ?_));refine HCR.out.mono ?_;rintro e w6 ⟨rfl,hB6⟩;go_wp2_with fail;go_ret2;refine⟨HB5.out.trans (hB6.mono HB5.out.size),?_⟩;rw[if_neg H1.out,HY.out];exact⟨ao5,cap5,by rw[←hm5.out];rfl,HCAP.out,rdns_below HRD.out hB6,HSM5.out⟩
      ·have hlt:j2<s.size:=(by omega);have hlt':(j2:Int)<(s.size:Int):=(by omega);have hq:((j2:Int)==(s.size:Int))=false:=(by rw[beq_eq_false_iff_ne];omega);have hu:u=s[j2]::s.data.toList.drop (j2+1):=(by rw[←HDU.out,drop_cons s j2 hlt]);have hv:=HV.out;rw[hu]at hv;by_cases h43:((s[j2]'hlt).toNat:Int)=43
       ·have q43a:(((s[j2]'hlt).toNat:Int)==43)=true:=(by rw[beq_iff_eq];exact h43);have q43b:(((s[j2]'hlt).toNat:Int) !=43)=false:=(by rw[bne_eq_false_iff_eq];exact h43);have h43':s[j2]=43:=u8_eq (n:=43) (by omega) h43;rw[h43']at hv;have hg:=hR.out.gp.trans (GP_plus HK.out hv);have HPR:=Lib.hid (prel_move HN4.out HS4.out HB4.out hg (by have:=HLEN.out;simp;omega) ⟨hR.out.small.1,HSM.out⟩);have HPOS2:=Lib.hid (posOf_sc HPR.out.sc);clear hend hu hv h43 h43' hg hap2 HV HN5 HB5 HS5 HSM5;go_wp2_with (first | (at_builtin;refine Lib.wpList_append_run _ rfl _ _ _ _ rfl _ _ rfl rfl _ _ hap' ?_));go_roundw;case rel=>exact⟨j2+1,ns,_,vals,by omega,by omega,HPR⟩
        case measure=>rw[HPOS.out,HPOS2.out];omega
       ·have q43a:(((s[j2]'hlt).toNat:Int)==43)=false:=(by rw[beq_eq_false_iff_ne];exact h43);have q43b:(((s[j2]'hlt).toNat:Int) !=43)=true:=(by rw[bne_iff_ne];exact h43);have hg:=hR.out.gp.trans (GP_next HK.out hv (u8_ne (n:=43) (by omega) h43));have HPR:=Lib.hid (prel_move HN5.out HS5.out HB5.out hg (by have:=HLEN.out;simp;omega) ⟨HSM5.out,fun x hx=>by simp at hx⟩);have HPOS2:=Lib.hid (posOf_sc HPR.out.sc);obtain⟨e0,e1,k1,hb5⟩:=sc_cells HS5.out;obtain⟨⟨ao5,m5,cap5,hvn,hm5,hcap5⟩,_⟩:=nest_letters HN5.out;subst hvn;clear hend hu hv h43 hg HV;go_wp2_with (first | (at_builtin;refine Lib.wpList_append_run _ rfl _ _ _ _ rfl _ _ rfl rfl _ _ hap' ?_) | (at_builtin;refine Lib.wpList_append_run _ rfl _ _ _ _ rfl _ _ rfl rfl _ _ hap2 ?_));go_roundw;case rel=>exact⟨j2+1,_,[],_,by omega,by omega,HPR⟩
        case measure=>rw[HPOS.out,HPOS2.out];omega
end dnw
namespace dnw
open dnp
def GR (ns:List (List Av))(cur:List Av)(L:List Sg):Option (List (List Av)):=(refL (segs L)).map fun q=>ns++grpA (cur++[av q.1]) q.2
theorem GR_bad_end {ns:List (List Av)}{cur:List Av}{B:List Sg}(h: ∀x∈B,sepS x=false)(hp:pairS B=none):GR ns cur B=none:=by unfold GR;rw[segs_none B h];unfold refL;simp only[];rw[hp];rfl
theorem GR_bad {ns:List (List Av)}{cur:List Av}{B L:List Sg}{c:UInt8}(h: ∀x∈B,sepS x=false)(hc:isSep c=true)(hp:pairS B=none):GR ns cur (B++(c,true)::L)=none:=by unfold GR;rw[segs_at B c L h hc];unfold refL;simp only[];rw[hp];rfl
theorem GR_end {ns:List (List Av)}{cur:List Av}{B:List Sg}{p:Pr}(h: ∀x∈B,sepS x=false)(hp:pairS B=some p):GR ns cur B=some (ns++[cur++[av p]]):=by unfold GR;rw[segs_none B h];unfold refL;simp only[];rw[hp];rfl
theorem GR_plus {ns:List (List Av)}{cur:List Av}{B L:List Sg}{p:Pr}(h: ∀x∈B,sepS x=false)(hp:pairS B=some p):GR ns cur (B++(43,true)::L)=GR ns (cur++[av p]) L:=by unfold GR;rw[segs_at B 43 L h (by decide),refL_cons,hp];simp only[Option.bind_some,Option.map_map];congr 1
theorem GR_next {ns:List (List Av)}{cur:List Av}{B L:List Sg}{p:Pr}{c:UInt8}(h: ∀x∈B,sepS x=false)(hs:isSep c=true)(hc:c≠43)(hp:pairS B=some p):GR ns cur (B++(c,true)::L)=GR (ns++[cur++[av p]]) [] L:=by unfold GR;rw[segs_at B c L h hs,refL_cons,hp];simp only[Option.bind_some,Option.map_map];congr 1;funext q;simp only[Function.comp];rw[grpA,if_neg hc];first | done | simp
theorem dropW_idem (l:List UInt8):(l.dropWhile (· =32)).dropWhile (· =32)=l.dropWhile (· =32):=by rw[dropW_id];intro x t h;exact dropW_head (fun c:UInt8=>decide (c=32)) _ _ _ h
theorem kindP_drop (l:List UInt8):kindP (l.dropWhile (· =32))=kindP l:=by unfold kindP;simp only[dropW_idem]
theorem P_drop (l:List UInt8):P (l.dropWhile (· =32))=P l:=by rw[P_step,P_step,kindP_drop]
theorem trim_blank {L:List Sg}(h:trim L=[]): ∀x∈L,blankS x=true:=by
 intro x hx;cases hb:blankS x with
 | true=>rfl
 | false=>have:=trim_keep L x hx hb;rw[h]at this;simp at this
theorem trim_of_blank {L:List Sg}(h: ∀x∈L,blankS x=true):trim L=[]:=by
 cases hL:trim L with
 | nil=>rfl
 | cons x t=>
  exfalso;have h0:L.dropWhile blankS=[]:=by have:=dropW_app blankS L [] h;rw[List.append_nil]at this;rw[this];rfl
  unfold trim at hL;rw[h0]at hL;cases hL
theorem parseR_signs (l:List UInt8):parseR l=match signs l with
  | none=>none
  | some L=>if trim L=[]then some []else match GR [] [] L with
   | none=>none
   | some n=>if nameOK n=true then some n else none:=by
 unfold parseR;obtain⟨a,ha,hab⟩:=dropW_split (fun c:UInt8=>decide (c=32)) l;have hab': ∀c∈a,c=32:=fun c hc=>by simpa using hab c hc
 by_cases h0:l.dropWhile (· =32)=[]
 ·rw[if_pos h0];rw[h0,List.append_nil]at ha;have hs:signs l=some (l.map (·,true)):=by have:=signs_app l [] (fun h=>by rw[ha]at h;have:=hab' 92 h;revert this;decide);rw[List.append_nil,signs_nil]at this;simpa using this
  rw[hs];have:trim (l.map fun c=>((c,true):Sg))=[]:=trim_of_blank (by intro x hx;obtain⟨c,hc,rfl⟩:=List.mem_map.1 hx;rw[ha]at hc;rw[hab' c hc];decide);simp only[this,if_true]
 ·rw[if_neg h0];have hg:GP [] [] (l.dropWhile (· =32))=(signs l).bind fun L=>GR [] [] L:=by
   unfold GP GR;rw[P_drop,P_R];unfold R;cases signs l with
   | none=>rfl
   | some L=>rfl
  rw[hg];cases hs:signs l with
  | none=>rfl
  | some L=>
   have ht: ¬trim L=[]:=by
    intro ht;apply h0;have hb:=trim_blank ht;have hL:L=(L.map (·.1)).map (·,true):=by
     rw[List.map_map];conv=>lhs;rw[←List.map_id L]
     apply List.map_congr_left;intro x hx;have:=hb x hx;obtain⟨c,b⟩:=x;unfold blankS at this;simp only[Bool.and_eq_true]at this;obtain⟨rfl,_⟩:=this;rfl
    rw[hL]at hs;rw[←List.append_nil (List.map _ _)]at hs;obtain⟨r,h1,_,h3⟩:=signs_of_bares _ _ _ hs;have hr:r=[]:=by
     cases r with
     | nil=>rfl
     | cons c r=>
      exfalso;by_cases e:c=92
      ·subst e;cases he:esc r with
       | none=>rw[signs_bad r he]at h3;cases h3
       | some p=>rw[signs_esc r p.1 p.2 he]at h3;obtain⟨M,_,hM⟩:=Option.map_eq_some_iff.1 h3;cases hM
      ·rw[signs_bare c r e]at h3;obtain⟨M,_,hM⟩:=Option.map_eq_some_iff.1 h3;cases hM
    rw[h1,hr,List.append_nil];have:=dropW_app (fun c:UInt8=>decide (c=32)) (L.map (·.1)) [] (by intro c hc;obtain⟨x,hx,rfl⟩:=List.mem_map.1 hc;have:=hb x hx;unfold blankS at this;simp only[Bool.and_eq_true]at this;exact this.2);rw[List.append_nil]at this;rw[this];rfl
   simp only[Option.bind_some];rw[if_neg ht];all_goals(cases GR [] [] L<;>rfl)
end dnw
namespace dnw
open dnp
def hexed (c:UInt8):Bool:=decide (c<32∨c=127)
def fenced (first last:Bool)(c:UInt8):Bool:=special c||(decide (c=32)&&(first||last))||(decide (c=35)&&first)
def textB (first last:Bool)(c:UInt8):List UInt8:=if hexed c=true then 92::b64p.hex [c]else if fenced first last c=true then[92,c]else[c]
def textF:Bool→List UInt8→List UInt8
 | _,[]=>[]
 | f,c::t=>textB f t.isEmpty c++textF false t
def textL (v:List UInt8):List UInt8:=textF true v
theorem textB_len (f l:Bool)(c:UInt8):(textB f l c).length≤3:=by
 unfold textB;split
 ·simp[b64p.hex]
 ·split<;>simp
theorem textF_len: ∀ (f:Bool) (v:List UInt8),(textF f v).length≤3*v.length
 | _,[]=>by simp[textF]
 | f,c::t=>by have:=textB_len f t.isEmpty c;have:=textF_len false t;simp only[textF,List.length_append,List.length_cons];omega
section
variable (U : List UInt8 → List UInt8) (b : List UInt8) (s2 : UInt8)
end
end dnw
namespace dnw
open dnp
theorem rdnOK_facts {l:List Av}(h:rdnOK l=true):1≤l.length∧l.length≤4∧ ∀i (hi:i<l.length),pairB l i l[i]=true:=by unfold rdnOK at h;simp only[Bool.and_eq_true,decide_eq_true_eq]at h;refine⟨h.1.1,h.1.2,fun i hi=> ?_⟩;have:=List.all_eq_true.1 h.2 i (List.mem_range.2 hi);rw[List.getElem?_eq_getElem hi]at this;exact this
theorem rdnOK_av {l:List Av}(h:rdnOK l=true): ∀x∈l,typeOK x.t.data.toList=true∧valOK x.v.data.toList=true:=by intro x hx;obtain⟨i,hi,rfl⟩:=List.mem_iff_getElem.1 hx;have:=(rdnOK_facts h).2.2 i hi;unfold pairB at this;simp only[Bool.and_eq_true]at this;exact⟨this.1.2,this.2⟩
theorem nameOK_facts {n:List (List Av)}(h:nameOK n=true):n.length≤12∧ ∀l∈n,rdnOK l=true:=by unfold nameOK at h;simp only[Bool.and_eq_true,decide_eq_true_eq]at h;exact⟨h.1,fun l hl=>List.all_eq_true.1 h.2 l hl⟩
theorem valOK_le {v:List UInt8}(h:valOK v=true):v.length≤255:=by unfold valOK at h;simp only[Bool.and_eq_true,decide_eq_true_eq]at h;exact h.1
theorem typeOK_le {t:List UInt8}(h:typeOK t=true):t.length≤32:=by unfold typeOK at h;simp only[Bool.and_eq_true,decide_eq_true_eq]at h;exact h.1.2
theorem low_type: ∀c:UInt8,typeCh c=true→low c=c:=by
 have all: ∀m:Fin 256,(!typeCh (UInt8.ofNat m.val)||decide (low (UInt8.ofNat m.val)=UInt8.ofNat m.val))=true:=by decide+kernel
 intro c h;have:=all ⟨c.toNat,c.toNat_lt⟩;simp only[UInt8.ofNat_toNat,h,Bool.not_true,Bool.false_or,decide_eq_true_eq]at this;exact this
def ptx (a:Av):List UInt8:=a.t.data.toList++61::textL a.v.data.toList
def rdnX (l:List Av):List UInt8:=Lib.join (l.map ptx) [43]
def nameX (n:List (List Av)):List UInt8:=Lib.join (n.map rdnX) [44]
theorem rdnX_cons (a:Av)(r:List Av):rdnX (a::r)=ptx a++r.flatMap fun a=>43::ptx a:=by unfold rdnX;rw[List.map_cons,Lib.join_cons,Lib.joinTail,List.map_map,List.flatMap_def];rfl
theorem nameX_cons (l:List Av)(m:List (List Av)):nameX (l::m)=rdnX l++m.flatMap fun l=>44::rdnX l:=by unfold nameX;rw[List.map_cons,Lib.join_cons,Lib.joinTail,List.map_map,List.flatMap_def];rfl
def printR (n:List (List Av)):List UInt8 × Nat:=if nameOK n=true then(if 1000<(nameX n).length then([],5)else(nameX n,0))else([],4)
theorem ptx_len {a:Av}(h1:typeOK a.t.data.toList=true)(h2:valOK a.v.data.toList=true):(ptx a).length≤798:=by have:=typeOK_le h1;have:=valOK_le h2;have:=textF_len true a.v.data.toList;unfold ptx textL;rw[List.length_append,List.length_cons];omega
theorem flat_len_le {α:Type}(f:α→List UInt8)(k:Nat): ∀l:List α,(∀x∈l,(f x).length≤k)→(l.flatMap f).length≤l.length*k
 | [],_=>by simp
 | x::l,h=>by have h1:=h x (by simp);have h2:=flat_len_le f k l (fun y hy=>h y (by simp[hy]));rw[List.flatMap_cons,List.length_append,List.length_cons,Nat.add_mul];omega
theorem rdnX_len {l:List Av}(h:rdnOK l=true):(rdnX l).length≤4000:=by
 have hx:=rdnOK_av h;have h4:=(rdnOK_facts h).2.1;cases l with
 | nil=>simp[rdnX,Lib.join,List.intercalate]
 | cons a r=>rw[rdnX_cons,List.length_append];have h1:=ptx_len (hx a (by simp)).1 (hx a (by simp)).2;have h2:=flat_len_le (fun a=>43::ptx a) 799 r (fun x hx'=>by have:=ptx_len (hx x (by simp[hx'])).1 (hx x (by simp[hx'])).2;simp only[List.length_cons];omega);simp only[List.length_cons]at h4;have:r.length*799≤3*799:=Nat.mul_le_mul_right _ (by omega);omega
theorem nameX_len {n:List (List Av)}(h:nameOK n=true):(nameX n).length≤60000:=by
 obtain⟨h12,hx⟩:=nameOK_facts h;cases n with
 | nil=>simp[nameX,Lib.join,List.intercalate]
 | cons l m=>rw[nameX_cons,List.length_append];have h1:=rdnX_len (hx l (by simp));have h2:=flat_len_le (fun l=>44::rdnX l) 4001 m (fun x hx'=>by have:=rdnX_len (hx x (by simp[hx']));simp only[List.length_cons];omega);simp only[List.length_cons]at h12;have:m.length*4001≤12*4001:=Nat.mul_le_mul_right _ (by omega);omega
end dnw
namespace tup
open Go.Lib
def rep (old new s:List UInt8):List UInt8:=replaceK old new (count s old) s
theorem replaceAll_rep {old new:List UInt8}(h:(old==new)=false)(s:List UInt8):replaceAll s old new=rep old new s:=by unfold replaceAll replace rep replaceNum;rw[h];simp
theorem rep_nil {old new:List UInt8}(h:old≠[]):rep old new []=[]:=by
 have h1:index [] old= -1:=by
  unfold index;cases old with
  | nil=>exact absurd rfl h
  | cons a t=>rfl
 unfold rep;rw[count_miss h1];rfl
theorem rep_miss {old new:List UInt8}(ho:old≠[])(x:UInt8)(r:List UInt8)(h:old.isPrefixOf (x::r)=false):rep old new (x::r)=x::rep old new r:=by
 have hi:index (x::r) old=if index r old== -1 then-1 else index r old+1:=by rw[index,h];rfl
 by_cases hm:index r old= -1
 ·rw[hm]at hi;have hi':index (x::r) old= -1:=hi;unfold rep;rw[count_miss hi',count_miss hm];rfl
 ·have hge:=index_ge r old;obtain⟨i,hi0⟩: ∃i:Nat,index r old=i:=⟨(index r old).toNat,by omega⟩;have hi1:index (x::r) old=((i+1:Nat):Int):=by rw[hi,hi0,if_neg (by simp)];rfl
  unfold rep;rw[count_hit ho hi0,count_hit ho hi1,Nat.add_comm 1,Nat.add_comm 1,replaceK_hit _ _ _ _ _ hi0,replaceK_hit _ _ _ _ _ hi1];have e:i+1+old.length=(i+old.length)+1:=by omega
  rw[e];simp
theorem rep_hit {old new:List UInt8}(ho:old≠[])(r:List UInt8):rep old new (old++r)=new++rep old new r:=by have hi:index (old++r) old=((0:Nat):Int):=index_first (i:=0) (Nat.zero_le _) (by simp[occAt]) (fun _ h=>absurd h (Nat.not_lt_zero _));unfold rep;rw[count_hit ho hi,Nat.add_comm 1,replaceK_hit _ _ _ _ _ hi];simp
def esc:List UInt8→List UInt8
 | []=>[]
 | c::r=>(if c=0 then[0,255]else[c])++esc r
theorem replace_esc (s:List UInt8):replaceAll s [0] [0,255]=esc s:=by
 rw[replaceAll_rep (by decide)];induction s with
 | nil=>exact rep_nil (by simp)
 | cons c r ih=>
  by_cases hc:c=0
  ·subst hc;have:=rep_hit (old:=[0]) (new:=[0,255]) (by simp) r;rw[List.singleton_append]at this;rw[this,ih];rfl
  ·rw[rep_miss (by simp) c r (by rw[Bool.eq_false_iff];intro e;simp[List.isPrefixOf]at e;exact hc e.symm),ih];simp[esc,hc]
theorem esc_length (s:List UInt8):s.length≤(esc s).length∧(esc s).length≤2*s.length:=by
 induction s with
 | nil=>simp[esc]
 | cons c r ih=>simp only[esc,List.length_append,List.length_cons];split<;>simp<;>omega
def bytes:List ByteArray→List UInt8
 | []=>[]
 | p::r=>esc p.data.toList++[0,1]++bytes r
theorem bytes_append (a b:List ByteArray):bytes (a++b)=bytes a++bytes b:=by
 induction a with
 | nil=>rfl
 | cons p r ih=>simp[bytes,ih]
theorem bytes_mem {l:List ByteArray}{p:ByteArray}(h:p∈l):p.size≤(bytes l).length:=by
 induction l with
 | nil=>cases h
 | cons q r ih=>
  have he:=(esc_length q.data.toList).1;rcases List.mem_cons.1 h with rfl | h'
  ·simp only[bytes,List.length_append];simp at he;omega
  ·have:=ih h';simp only[bytes,List.length_append];omega
theorem bytes_small {l:List ByteArray}(h: ∀p∈l,p.size≤4096):(bytes l).length≤8194*l.length:=by
 induction l with
 | nil=>simp[bytes]
 | cons q r ih=>have he:=(esc_length q.data.toList).2;have h1:=h q (by simp);have h2:=ih (fun p hp=>h p (by simp[hp]));simp at he;simp only[bytes,List.length_append,List.length_cons];simp;omega
def out (l:List ByteArray):ByteArray × Int:=if 16<l.length then(⟨#[]⟩,1)else if 4096<(bytes l).length then(⟨#[]⟩,5)else(⟨(bytes l).toArray⟩,0)
end tup
namespace dnw
open dnp
def rv (v:List UInt8):List UInt8:=(prp.readyO v true).getD []
theorem rv_ok {v:List UInt8}(h:valOK v=true):prp.readyO v true=some (rv v):=by
 unfold valOK at h;unfold rv;cases hr:prp.readyO v true with
 | none=>rw[hr]at h;simp at h
 | some t=>rfl
def partB (a:Av):ByteArray:=(tup.out [a.t,⟨(rv a.v.data.toList).toArray⟩]).1
theorem partB_len (a:Av):(partB a).size≤4096:=by
 unfold partB tup.out;rw[if_neg (by simp)];split
 ·exact Nat.zero_le _
 ·rename_i h;rw[←kt.size_len];show(tup.bytes _).length≤_;omega
def sortL (l:List (List UInt8)):List (List UInt8):=l.mergeSort fun x y=>decide (x≤y)
theorem sortL_sorted (l:List (List UInt8)):(sortL l).Pairwise (fun x y=>x≤y):=by
 have h:=List.pairwise_mergeSort (le:=fun x y:List UInt8=>decide (x≤y)) (fun a b c h1 h2=>by
  simp only[decide_eq_true_eq]at h1 h2 ⊢;exact List.le_trans h1 h2) (fun a b=>by
  simp only[Bool.or_eq_true,decide_eq_true_eq];exact List.le_total a b) l
 exact h.imp (fun h=>by simpa using h)
theorem sorted_eq {a b:List (List UInt8)}(ha:a.Pairwise (fun x y=>x≤y))(hb:b.Pairwise (fun x y=>x≤y))(h:a.Perm b):a=b:=List.Perm.eq_of_pairwise (le:=fun x y=>x≤y) (fun x y _ _ h1 h2=>List.le_antisymm h1 h2) ha hb h
def partsL (l:List Av):List (List UInt8):=l.map fun a=>(partB a).data.toList
def keyL (l:List Av):List UInt8:=(sortL (partsL l)).flatten
theorem join_flat (xs:List (List UInt8)):Lib.join xs []=xs.flatten:=by
 cases xs with
 | nil=>rfl
 | cons x r=>rw[Lib.join_cons,Lib.joinTail,List.flatten_cons];congr 2;simp
theorem flatten_len_le (k:Nat): ∀l:List (List UInt8),(∀x∈l,x.length≤k)→l.flatten.length≤l.length*k
 | [],_=>by simp
 | x::l,h=>by have h1:=h x (by simp);have h2:=flatten_len_le k l (fun y hy=>h y (by simp[hy]));rw[List.flatten_cons,List.length_append,List.length_cons,Nat.add_mul];omega
theorem keyL_len (l:List Av):(keyL l).length≤l.length*4096:=by
 have h:=flatten_len_le 4096 (sortL (partsL l)) (fun x hx=>by have:=(List.mergeSort_perm (partsL l) _).mem_iff.1 hx;unfold partsL at this;obtain⟨a,_,rfl⟩:=List.mem_map.1 this;rw[kt.size_len];exact partB_len a);have h2:(sortL (partsL l)).length=l.length:=by unfold sortL partsL;simp
 rw[h2]at h;exact h
def keysB (n:List (List Av)):List ByteArray:=n.reverse.map fun l=>⟨(keyL l).toArray⟩
theorem keysB_len (n:List (List Av)):(keysB n).length=n.length:=by simp[keysB]
end dnw
open Go.RowKit
namespace dnw
open dnp
theorem parseR_ok {l:List UInt8}{n:List (List Av)}(h:parseR l=some n):nameOK n=true:=by
 unfold parseR at h;split at h
 ·cases h;rfl
 ·split at h
  ·cases h
  ·split at h
   ·cases h;assumption
   ·cases h
def parseV (s:ByteArray):List (List Av) × Int:=if 1000<s.size then([],5)else match parseR s.data.toList with
 | none=>([],4)
 | some n=>(n,0)
theorem parseV_small (s:ByteArray):(parseV s).1.length≤12∧ ∀l∈(parseV s).1,l.length≤4:=by
 unfold parseV;split
 ·simp
 ·cases h:parseR s.data.toList with
  | none=>simp
  | some n=>have hn:=nameOK_facts (parseR_ok h);exact⟨hn.1,fun l hl=>(rdnOK_facts (hn.2 l hl)).2.1⟩
theorem parseE_V {s:ByteArray}{w:World}{e:Ending}{w':World}(h:ParseE s w e w'):Below w.heap.size w w'∧ ∃ao cap,e= .returned (.tuple #[.slice ao (parseV s).1.length cap,.int .i64 (parseV s).2])∧Rdns w' ao (parseV s).1:=by
 obtain⟨h1,h2⟩:=h;refine⟨h1,?_⟩;unfold parseV;split at h2
 ·rename_i hl;rw[if_pos hl];exact⟨none,0,h2,fun i hi=>by simp at hi⟩
 ·rename_i hl;rw[if_neg hl];cases hp:parseR s.data.toList with
  | none=>rw[hp]at h2;exact⟨none,0,h2,fun i hi=>by simp at hi⟩
  | some n=>rw[hp]at h2;obtain⟨ao,cap,h3,_,h4,_⟩:=h2;exact⟨ao,cap,h3,h4⟩
end dnw
namespace atp
open atw (bs)
def tT:List UInt8:=[84,82,85,69]
def tF:List UInt8:=[70,65,76,83,69]
def ne0 (o:Option (List UInt8)):Option (List UInt8):=match o with
 | none=>none
 | some u=>if u=[]then none else some u
theorem ne0_some {u:List UInt8}(h:u≠[]):ne0 (some u)=some u:=by unfold ne0;exact if_neg h
def joinK (l:List ByteArray):List UInt8:=(l.map (·.data.toList)).flatten
def nameK (l:List UInt8):Option (List UInt8):=match dnw.parseR l with
 | none=>none
 | some n=>some (joinK (dnw.keysB n))
def formO (syn:Int)(l:List UInt8):Option (List UInt8):=
 if syn=1 then ne0 (prp.readyO l true)else if syn=2 then ne0 (prp.readyO l false)else if syn=7 then ne0 (prp.phoneO l)
 else if syn=4 then(if numOK l=true then some l else none)
 else if syn=5 then(if l=tT∨l=tF then some l else none)
 else if syn=6 then nameK l
 else some l
def normL (syn:Int)(l:List UInt8):List UInt8 × Int:=
 if¬ (1≤syn∧syn≤7)then([],14)else if 1000<l.length then([],5)else if l=[]then([],4)else match formO syn l with
  | none=>([],4)
  | some u=>(u,0)
theorem normL_bad {syn:Int}{l:List UInt8}(h: ¬ (1≤syn∧syn≤7)):normL syn l=([],14):=by unfold normL;rw[if_pos h]
theorem normL_long {syn:Int}{l:List UInt8}(h:1≤syn∧syn≤7)(h1:1000<l.length):normL syn l=([],5):=by unfold normL;rw[if_neg (not_not_intro h),if_pos h1]
theorem normL_nil {syn:Int}{l:List UInt8}(h:1≤syn∧syn≤7)(h1:l=[]):normL syn l=([],4):=by unfold normL;rw[if_neg (not_not_intro h),if_neg (by rw[h1];simp),if_pos h1]
theorem normL_form {syn:Int}{l:List UInt8}(h:1≤syn∧syn≤7)(h1:l.length≤1000)(h2:l≠[]):normL syn l=match formO syn l with
  | none=>([],4)
  | some u=>(u,0):=by unfold normL;rw[if_neg (not_not_intro h),if_neg (by omega),if_neg h2]
theorem name_smalls {n:List (List dnw.Av)}(h:dnw.nameOK n=true): ∀l∈n,dnw.Smalls l:=by intro l hl x hx;unfold dnw.nameOK at h;rw[Bool.and_eq_true]at h;have h1:=List.all_eq_true.1 h.2 l hl;unfold dnw.rdnOK at h1;simp only[Bool.and_eq_true]at h1;obtain⟨i,hi,rfl⟩:=List.mem_iff_getElem.1 hx;have h2:=List.all_eq_true.1 h1.2 i (List.mem_range.2 hi);rw[List.getElem?_eq_getElem hi]at h2;simp only at h2;unfold dnw.pairB at h2;simp only[Bool.and_eq_true]at h2;have h3:=(dnw.typeOK_iff _).1 h2.1.2;have h4:=h2.2;unfold dnw.valOK at h4;rw[Bool.and_eq_true,decide_eq_true_eq]at h4;have e1:=h3.2.1;have e2:=h4.1;rw[kt.size_len]at e1 e2;exact⟨by omega,by omega⟩
theorem parseR_ok {l:List UInt8}{n:List (List dnw.Av)}(h:dnw.parseR l=some n):dnw.nameOK n=true:=by
 unfold dnw.parseR at h;split at h
 ·cases h;decide
 ·split at h
  ·cases h
  ·split at h
   ·cases h;assumption
   ·cases h
theorem joinK_len (n:List (List dnw.Av))(h:dnw.nameOK n=true):(joinK (dnw.keysB n)).length≤200000:=by
 have hn:n.length≤12:=by unfold dnw.nameOK at h;rw[Bool.and_eq_true,decide_eq_true_eq]at h;exact h.1
 have hl: ∀l∈n,l.length≤4:=by intro l hl;unfold dnw.nameOK at h;rw[Bool.and_eq_true]at h;have h1:=List.all_eq_true.1 h.2 l hl;unfold dnw.rdnOK at h1;simp only[Bool.and_eq_true,decide_eq_true_eq]at h1;exact h1.1.2
 have h2:=dnw.flatten_len_le 16384 ((dnw.keysB n).map (·.data.toList)) (by intro x hx;unfold dnw.keysB at hx;rw[List.map_map]at hx;obtain⟨l,hl2,rfl⟩:=List.mem_map.1 hx;have:=dnw.keyL_len l;have:=hl l (List.mem_reverse.1 hl2);show(dnw.keyL l).length≤_;omega);unfold joinK;rw[List.length_map,dnw.keysB_len]at h2;omega
end atp
open Go.RowKit
namespace atw
open atp
theorem num_eq {l:List UInt8}(h:l≠[48]):numOK l=(decide (1≤(bare l).length)&&decide ((bare l).length≤18)&&decide ((bare l).head?≠some 48)&&(bare l).all digit):=by unfold numOK;rw[decide_eq_false h,Bool.false_or]
theorem num_len {l:List UInt8}(h:l≠[48])(h1:(bare l).length=0∨18<(bare l).length):false=numOK l:=by
 rw[num_eq h];rcases h1 with h1 | h1
 ·rw[h1];rfl
 ·rw[decide_eq_false (p:=(bare l).length≤18) (by omega)];simp
theorem num_zero {l:List UInt8}(h:l≠[48])(h1:(bare l).head?=some 48):false=numOK l:=by rw[num_eq h,h1];simp
theorem num_bad {l:List UInt8}{c:UInt8}(h:l≠[48])(hc:c∈bare l)(hd: ¬ (48≤(c.toNat:Int)∧(c.toNat:Int)≤57)):false=numOK l:=by
 rw[num_eq h];have:(bare l).all digit=false:=by rw[Bool.eq_false_iff];intro e;have:=List.all_eq_true.1 e c hc;unfold digit at this;rw[decide_eq_true_iff]at this;omega
 rw[this];simp
theorem num_yes {l:List UInt8}(h:l≠[48])(h1:1≤(bare l).length)(h2:(bare l).length≤18)(h3:(bare l).head?≠some 48)(h4: ∀c∈bare l,48≤(c.toNat:Int)∧(c.toNat:Int)≤57):true=numOK l:=by rw[num_eq h,decide_eq_true h1,decide_eq_true h2,decide_eq_true h3];symm;simp only[Bool.true_and];rw[List.all_eq_true];intro c hc;have:=h4 c hc;unfold digit;rw[decide_eq_true_iff];omega
theorem ne_s {s:ByteArray}(h:0<s.size): ∃t,s.data.toList=s[0]::t:=by refine⟨s.data.toList.drop 1,?_⟩;have:=List.drop_eq_getElem_cons (l:=s.data.toList) (i:=0) (by simpa using h);rw[List.drop_zero]at this;exact this
theorem head_s {s:ByteArray}(h:0<s.size):s.data.toList.head?=some s[0]:=by obtain⟨t,ht⟩:=ne_s h;rw[ht];rfl
theorem tail_s {s t:ByteArray}(h:s.extract 1 s.size=t):t.data.toList=s.data.toList.tail:=by rw[←h,Lib.extract_to_end];simp
theorem mem_s {s:ByteArray}{k:Nat}(h:k<s.size):s[k]∈s.data.toList:=by have:s.data.toList[k]'(by simpa using h)∈s.data.toList:=List.getElem_mem _;exact this
theorem zero_s {s:ByteArray}(h0:s.size=0):s=ByteArray.empty:=by
 apply kt.str_eq;have:s.data.toList.length=0:=by simpa using h0
 rw[List.eq_nil_of_length_eq_zero this];rfl
theorem u8_of {c:UInt8}{n:Nat}(hn:n<256)(h:(c.toNat:Int)=n):c=UInt8.ofNat n:=by apply UInt8.toNat_inj.1;rw[UInt8.toNat_ofNat'];omega
theorem rnumber_any (s:ByteArray)(w:World)(hs:s.size≤1100000):Calls Tryz.prog 196 #[.string s] w fun e w'=>e= .returned (.bool (numOK s.data.toList))∧w=w':=by
  by_cases h0:s.data.toList=[48]
  · have HF:Hid (true=numOK s.data.toList):=(by rw[h0];exact(by decide:true=numOK [48]));have q0:(s.toList==[48])=true:=(by rw[Lib.toList_data,h0];rfl);clear h0;go_enter Tryz.func196,Tryz.ntmps196;go_wp2_with fail;go_ret;exact⟨kt.ret_bool HF.out,rfl⟩
  · have hne:=h0;have q0:(s.toList==[48])=false:=(by rw[Lib.toList_data];simpa using h0);clear h0;by_cases hz:s.size=0
    · obtain rfl:=zero_s hz;have HF:=Lib.hid (num_len hne (Or.inl rfl));clear hz hne;go_enter Tryz.func196,Tryz.ntmps196;go_wp2_with fail;go_ret;exact⟨kt.ret_bool HF.out,rfl⟩
    · have hsp:0<s.size:=(by omega);have hspI:(0:Int)<(s.size:Int):=(by omega);have hs1I:(1:Int)≤(s.size:Int):=(by omega);have hs1:1≤s.size:=hsp;have hhd:=head_s hsp;by_cases h45:((s[0]'hsp).toNat:Int)=45
      · obtain⟨x,hx⟩: ∃x,s.extract 1 s.size=x:=⟨_,rfl⟩;have hbx:bare s.data.toList=x.data.toList:=(by rw[tail_s hx];unfold bare;rw[if_pos (by rw[hhd,u8_of (n:=45) (by omega) h45];rfl)]);have hxs:x.size≤1100000:=(by rw[←kt.size_len,tail_s hx,List.length_tail,kt.size_len];omega);obtain⟨d0,hd0⟩: ∃c,s[0]'hsp=c:=⟨_,rfl⟩;rw[hd0]at h45;have q1:((d0.toNat:Int)==45)=true:=(by rw[beq_iff_eq];exact h45);clear h45 hz hhd;by_cases hx0:x.size=0
        · have HF:=Lib.hid (num_len hne (Or.inl (by rw[hbx,kt.size_len];exact hx0)));have hx1:(x.size:Int)=0:=(by omega);clear hx0 hbx hne;go_enter Tryz.func196,Tryz.ntmps196;go_wp2_with fail;go_ret;exact⟨kt.ret_bool HF.out,rfl⟩
        by_cases hx18:18<x.size
        · have HF:=Lib.hid (num_len hne (Or.inr (by rw[hbx,kt.size_len];exact hx18)));have hx1:(18:Int)<(x.size:Int):=(by omega);have hx2:decide ((x.size:Int)<1)=false:=(by rw[decide_eq_false_iff_not];omega);clear hx0 hx18 hbx hne;go_enter Tryz.func196,Tryz.ntmps196;go_wp2_with fail;go_ret;exact⟨kt.ret_bool HF.out,rfl⟩
        have hxp:0<x.size:=(by omega);have hxpI:(0:Int)<(x.size:Int):=(by omega);have hx1:decide ((18:Int)<(x.size:Int))=false:=(by rw[decide_eq_false_iff_not];omega);have hx2:decide ((x.size:Int)<1)=false:=(by rw[decide_eq_false_iff_not];omega);obtain⟨c0,hc0⟩: ∃c,x[0]'hxp=c:=⟨_,rfl⟩;by_cases h48:(c0.toNat:Int)=48
        · have HF:=Lib.hid (num_zero hne (by rw[hbx,head_s hxp,hc0,u8_of (n:=48) (by omega) h48];rfl));have q:((c0.toNat:Int)==48)=true:=(by rw[beq_iff_eq];exact h48);clear hx0 hx18 hbx hne h48;go_enter Tryz.func196,Tryz.ntmps196;go_wp2_with fail;go_ret;exact⟨kt.ret_bool HF.out,rfl⟩
        have q:((c0.toNat:Int)==48)=false:=(by rw[beq_eq_false_iff_ne];exact h48);have HB:Hid (∀k (hk:k<x.size),¬ (48≤(x[k].toNat:Int)∧(x[k].toNat:Int)≤57)→false=numOK s.data.toList):=fun k hk h=>num_bad hne (by rw[hbx];exact mem_s hk) h;have HY:Hid ((∀k (hk:k<x.size),48≤(x[k].toNat:Int)∧(x[k].toNat:Int)≤57)→true=numOK s.data.toList):=(by intro h;refine num_yes hne (by rw[hbx,kt.size_len];omega) (by rw[hbx,kt.size_len];omega) (by rw[hbx,head_s hxp,hc0];intro e;apply h48;rw[Option.some.injEq]at e;rw[e];rfl) ?_;intro c hc;rw[hbx]at hc;obtain⟨k,hk,rfl⟩:=List.mem_iff_getElem.1 hc;exact h k (by simpa using hk));clear hx0 hx18 hbx hne h48;go_enter Tryz.func196,Tryz.ntmps196;go_wp2_with fail;go_loop [3] (fun iv=> ∃k:Nat,k≤x.size∧iv= .int .i64 (k:Int)∧Hid (∀j (hj:j<x.size),j<k→48≤(x[j].toNat:Int)∧(x[j].toNat:Int)≤57)) (fun iv=>x.size- (intOf iv).toNat);case atStart=>exact⟨0,Nat.zero_le _,rfl,fun j hj h=>by omega⟩
        case round=>
          obtain⟨k,hk,rfl,hA⟩:=hrel;by_cases hlt:k<x.size
          · have hlt':(k:Int)<(x.size:Int):=(by omega);have HA:Hid (48≤((x[k]'hlt).toNat:Int)∧((x[k]'hlt).toNat:Int)≤57→ ∀j (hj:j<x.size),j<k+1→48≤(x[j].toNat:Int)∧(x[j].toNat:Int)≤57):=by
              intro ht j hj h;by_cases e:j=k
              · subst e;exact ht
              · exact hA.out j hj (by omega)
            have HN:=Lib.hid (HB.out k hlt);clear hc0;obtain⟨c,hc⟩: ∃c,x[k]'hlt=c:=⟨_,rfl⟩;rw[hc]at HA HN;have hcn:=c.toNat_lt;go_wp2_with fail;all_goals first
              | (go_ret;exact⟨kt.ret_bool (HN.out (by omega)),rfl⟩)
              | (go_round
                 case rel=>exact⟨k+1,by omega,by go_num,HA.out (by omega)⟩
                 case measure=>simp[intOf];omega)
              | (exfalso;simp only[Bool.not_eq_true',Bool.not_eq_false',Bool.or_eq_true,Bool.and_eq_true,Bool.or_eq_false_iff,Bool.and_eq_false_iff,decide_eq_true_eq,decide_eq_false_iff_not,beq_iff_eq,bne_iff_ne,bne_eq_false_iff_eq,beq_eq_false_iff_ne,ne_eq,Classical.not_not]at*;omega)
          · obtain rfl:k=x.size:=(by omega);have HE:=Lib.hid (HY.out (fun j hj=>hA.out j hj hj));clear hc0;go_wp2_with fail;go_ret;exact⟨kt.ret_bool HE.out,rfl⟩
      · obtain⟨x,rfl⟩: ∃x,x=s:=⟨_,rfl⟩;have s:=x;have hbx:bare x.data.toList=x.data.toList:=(by unfold bare;rw[if_neg];rw[hhd];intro e;apply h45;rw[Option.some.injEq]at e;rw[e];rfl);obtain⟨d0,hd0⟩: ∃c,x[0]'hsp=c:=⟨_,rfl⟩;rw[hd0]at h45;have q1:((d0.toNat:Int)==45)=false:=(by rw[beq_eq_false_iff_ne];exact h45);clear h45 hz hhd;by_cases hx0:x.size=0
        · have HF:=Lib.hid (num_len hne (Or.inl (by rw[hbx,kt.size_len];exact hx0)));have hx1:(x.size:Int)=0:=(by omega);clear hx0 hbx hne;go_enter Tryz.func196,Tryz.ntmps196;go_wp2_with fail;go_ret;exact⟨kt.ret_bool HF.out,rfl⟩
        by_cases hx18:18<x.size
        · have HF:=Lib.hid (num_len hne (Or.inr (by rw[hbx,kt.size_len];exact hx18)));have hx1:(18:Int)<(x.size:Int):=(by omega);have hx2:decide ((x.size:Int)<1)=false:=(by rw[decide_eq_false_iff_not];omega);clear hx0 hx18 hbx hne;go_enter Tryz.func196,Tryz.ntmps196;go_wp2_with fail;go_ret;exact⟨kt.ret_bool HF.out,rfl⟩
        have hxp:0<x.size:=(by omega);have hxpI:(0:Int)<(x.size:Int):=(by omega);have hx1:decide ((18:Int)<(x.size:Int))=false:=(by rw[decide_eq_false_iff_not];omega);have hx2:decide ((x.size:Int)<1)=false:=(by rw[decide_eq_false_iff_not];omega);obtain⟨c0,rfl⟩: ∃c,c=d0:=⟨_,rfl⟩;have hc0:x[0]'hxp=c0:=hd0;by_cases h48:(c0.toNat:Int)=48
        · have HF:=Lib.hid (num_zero hne (by rw[hbx,head_s hxp,hc0,u8_of (n:=48) (by omega) h48];rfl));have q:((c0.toNat:Int)==48)=true:=(by rw[beq_iff_eq];exact h48);clear hx0 hx18 hbx hne h48;go_enter Tryz.func196,Tryz.ntmps196;go_wp2_with fail;go_ret;exact⟨kt.ret_bool HF.out,rfl⟩
        have q:((c0.toNat:Int)==48)=false:=(by rw[beq_eq_false_iff_ne];exact h48);have HB:Hid (∀k (hk:k<x.size),¬ (48≤(x[k].toNat:Int)∧(x[k].toNat:Int)≤57)→false=numOK x.data.toList):=fun k hk h=>num_bad hne (by rw[hbx];exact mem_s hk) h;have HY:Hid ((∀k (hk:k<x.size),48≤(x[k].toNat:Int)∧(x[k].toNat:Int)≤57)→true=numOK x.data.toList):=(by intro h;refine num_yes hne (by rw[hbx,kt.size_len];omega) (by rw[hbx,kt.size_len];omega) (by rw[hbx,head_s hxp,hc0];intro e;apply h48;rw[Option.some.injEq]at e;rw[e];rfl) ?_;intro c hc;rw[hbx]at hc;obtain⟨k,hk,rfl⟩:=List.mem_iff_getElem.1 hc;exact h k (by simpa using hk));clear hx0 hx18 hbx hne h48;go_enter Tryz.func196,Tryz.ntmps196;go_wp2_with fail;go_loop [3] (fun iv=> ∃k:Nat,k≤x.size∧iv= .int .i64 (k:Int)∧Hid (∀j (hj:j<x.size),j<k→48≤(x[j].toNat:Int)∧(x[j].toNat:Int)≤57)) (fun iv=>x.size- (intOf iv).toNat);case atStart=>exact⟨0,Nat.zero_le _,rfl,fun j hj h=>by omega⟩
        case round=>
          obtain⟨k,hk,rfl,hA⟩:=hrel;by_cases hlt:k<x.size
          · have hlt':(k:Int)<(x.size:Int):=(by omega);have HA:Hid (48≤((x[k]'hlt).toNat:Int)∧((x[k]'hlt).toNat:Int)≤57→ ∀j (hj:j<x.size),j<k+1→48≤(x[j].toNat:Int)∧(x[j].toNat:Int)≤57):=by
              intro ht j hj h;by_cases e:j=k
              · subst e;exact ht
              · exact hA.out j hj (by omega)
            have HN:=Lib.hid (HB.out k hlt);clear hc0 hd0;obtain⟨c,hc⟩: ∃c,x[k]'hlt=c:=⟨_,rfl⟩;rw[hc]at HA HN;have hcn:=c.toNat_lt;go_wp2_with fail;all_goals first
              | (go_ret;exact⟨kt.ret_bool (HN.out (by omega)),rfl⟩)
              | (go_round
                 case rel=>exact⟨k+1,by omega,by go_num,HA.out (by omega)⟩
                 case measure=>simp[intOf];omega)
              | (exfalso;simp only[Bool.not_eq_true',Bool.not_eq_false',Bool.or_eq_true,Bool.and_eq_true,Bool.or_eq_false_iff,Bool.and_eq_false_iff,decide_eq_true_eq,decide_eq_false_iff_not,beq_iff_eq,bne_iff_ne,bne_eq_false_iff_eq,beq_eq_false_iff_ne,ne_eq,Classical.not_not]at*;omega)
          · obtain rfl:k=x.size:=(by omega);have HE:=Lib.hid (HY.out (fun j hj=>hA.out j hj hj));clear hc0 hd0;go_wp2_with fail;go_ret;exact⟨kt.ret_bool HE.out,rfl⟩
end atw
end Go.Proofs.YtmnpfkbjpeaemaaGreatDoor
