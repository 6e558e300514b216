/- One text out of several: FormW, PartR, CmpP, RRdnW, RKeyW, RKeyX, RKeysW, RParseP, SpecW, CutW, TrimW, BRowW, PairW, HoldW, CmpT, CmpB, OrdQ. -/
import Derived.Test.YtmnpfkbjpeaemaaGreatDoorS5
import Derived.Test.YtmnpfkbjpeaemaaGreatDoorS6
import Derived.Lib.Bytealg
import Derived.Test.YtmnpfkbjpeaemaaGreatDoorS4
import Derived.Test.YtmnpfkbjpeaemaaGreatDoorRows
import Derived.Deep.QuietTactic
import Derived.BigQuiet
import Derived.Test.YtmnpfkbjpeaemaaGreatDoorS1
import Derived.ChangeKeysEq
import Derived.WalkKit
import Derived.Lib.Walk
set_option linter.unusedVariables false
set_option linter.unusedSimpArgs false
set_option maxRecDepth 20000
set_option maxHeartbeats 8000000
namespace Go.Proofs.YtmnpfkbjpeaemaaGreatDoor
open Go.RowKit
namespace atw
open atp
theorem bs_ne {l:List UInt8}(h:l≠[]):(bs l).toList.isEmpty=false∧ ¬ (bs l).toList=[]:=by
 rw[Lib.toList_data,bs_data];refine⟨?_,h⟩;cases l with
 | nil=>exact absurd rfl h
 | cons a t=>rfl
def FormE (o:Option (List UInt8))(w:World)(e:Ending)(w':World):Prop:=Below w.heap.size w w'∧match o with
 | none=> ∃u,e= .returned (.tuple #[.string u,.bool false])
 | some u=>e= .returned (.tuple #[.string (bs u),.bool true])
theorem formE_none {o:Option (List UInt8)}{w w':World}{u:ByteArray}(h:o=none)(hb:Below w.heap.size w w'):FormE o w (.returned (.tuple #[.string u,.bool false])) w':=by subst h;exact⟨hb,u,rfl⟩
theorem formE_some {o:Option (List UInt8)}{w w':World}{u:List UInt8}(h:o=some u)(hb:Below w.heap.size w w'):FormE o w (.returned (.tuple #[.string (bs u),.bool true])) w':=by subst h;exact⟨hb,rfl⟩
theorem formE_is {o:Option (List UInt8)}{w w':World}{s:ByteArray}(h:o=some s.data.toList)(hb:Below w.heap.size w w'):FormE o w (.returned (.tuple #[.string s,.bool true])) w':=by subst h;refine⟨hb,?_⟩;show _=Ending.returned (.tuple #[.string (bs s.data.toList),.bool true]);rw[bs_of]
theorem join_flat (l:List (List UInt8)):Lib.join l []=l.flatten:=by
 cases l with
 | nil=>rfl
 | cons x r=>rw[Lib.join_cons];unfold Lib.joinTail;simp
theorem join_any (ao:Option Addr)(c:Nat)(l:List ByteArray)(w:World)(hS:Hid (tupw.Strs w ao l))(hc:l.length≤c)(hlen:l.length≤1000)(hb:(joinK l).length≤1100000):
  Calls Tryz.prog 165 #[.slice ao l.length c,.string ⟨#[]⟩] w fun e w'=>e= .returned (.string (bs (joinK l)))∧Below w.heap.size w w':=by
 by_cases h0:l=[]
 ·subst h0;refine(Tryz.strings_Join_none ao c ⟨#[]⟩ w).mono ?_;rintro e w' ⟨rfl,rfl⟩;exact⟨rfl,Below.refl _ _⟩
 ·have hl:0<l.length:=List.length_pos_iff.2 h0;obtain⟨b,o,rfl,hc0⟩:=hS.out 0 hl;have hlt:=World.block_lt_of_cell? w _ hc0;refine(Tryz.strings_Join b o c l ⟨#[]⟩ w (fun j x hj=> ?_) hlt (by omega) hc ?_).mono ?_
  ·obtain⟨hjl,rfl⟩:=List.getElem?_eq_some_iff.1 hj;obtain⟨b',o',e',h'⟩:=hS.out j hjl;simp only[Option.some.injEq,Addr.mk.injEq,and_true]at e';obtain⟨rfl,rfl⟩:=e';exact h'
  ·show(Lib.join (l.map (·.data.toList)) []).length≤_;rw[join_flat];unfold joinK at hb;omega
  ·rintro e w' ⟨rfl,hB⟩;refine⟨?_,hB⟩;show Ending.returned (.string (bs (Lib.join (l.map (·.data.toList)) [])))=_;rw[join_flat];rfl
theorem form_any (nm:ByteArray)(syn:Int)(sg:Bool)(s:ByteArray)(w:World)(hs:s.size≤1000)(h1:1≤syn)(h7:syn≤7)(hE:Hid (prw.Env w))(hT:Hid (dnw.Tabs w)):
  Calls Tryz.prog 261 #[.agg #[.string nm,.int .i64 syn,.bool sg],.string s] w (FormE (formO syn s.data.toList) w):=by
 obtain⟨W0,hW0⟩: ∃W,w.alloc (.cells #[.string nm,.int .i64 syn,.bool sg] 108)=W:=⟨_,rfl⟩;have hB0:Below w.heap.size w W0:=by rw[←hW0];exact(Below.refl _ _).alloc (Nat.le_refl _) _
 have HB0:=Lib.hid hB0;have hw0:w.heap.size≤W0.heap.size:=hB0.size;have HE0:=Lib.hid (prw.env_below hE.out hB0);have HT0:=Lib.hid (dnw.tabs_below hT.out hB0);have k1:W0.cell? ⟨w.heap.size,1,none⟩=some (.int .i64 syn):=by rw[←hW0,World.cell?_alloc_new];rfl
 clear hB0;have hcs:syn=1∨syn=2∨syn=3∨syn=4∨syn=5∨syn=6∨syn=7:=by omega
 clear h1 h7;rcases hcs with rfl | rfl | rfl | rfl | rfl | rfl | rfl
 ·have HF:formO 1 s.data.toList=ne0 (prp.readyO s.data.toList true):=rfl;rw[HF];have HC:Hid (Calls Tryz.prog 134 #[.string s,.bool true] W0 fun e w'=>e= .returned (prw.pairV (prp.readyO s.data.toList true))∧Below W0.heap.size W0 w'):=prw.ready_any s true W0 (by omega) HE0;clear HF;cases ho:prp.readyO s.data.toList true with
  | none=>rw[ho]at HC;rw[show prw.pairV none= .tuple #[.string ⟨#[]⟩,.int .i64 19]from rfl]at HC;clear ho;go_enter Tryz.func261,Tryz.ntmps261;go_wp2_with fail;refine HC.out.mono ?_;rintro e w1 ⟨rfl,hB1⟩;have HB1:=Lib.hid (HB0.out.trans (hB1.mono hw0));clear hB1;go_wp2_with fail;go_ret2;exact formE_none rfl HB1.out
  | some u=>
   rw[ho]at HC;have HC2:Hid (Calls Tryz.prog 134 #[.string s,.bool true] W0 fun e w'=>e= .returned (.tuple #[.string (bs u),.int .i64 0])∧Below W0.heap.size W0 w'):=HC;clear HC ho;by_cases hu:u=[]
   ·have hue:(bs u).toList=[]:=(by rw[hu,Lib.toList_data];rfl);have HN:Hid (ne0 (some u)=none):=(by show _=_;rw[hu];rfl);clear hu;go_enter Tryz.func261,Tryz.ntmps261;go_wp2_with fail;refine HC2.out.mono ?_;rintro e w1 ⟨rfl,hB1⟩;have HB1:=Lib.hid (HB0.out.trans (hB1.mono hw0));clear hB1;go_wp2_with fail;go_ret2;exact formE_none HN.out HB1.out
   ·have HN:Hid (ne0 (some u)=some u):=ne0_some hu;obtain⟨hu1,hu2⟩:=bs_ne hu;clear hu;go_enter Tryz.func261,Tryz.ntmps261;go_wp2_with fail;refine HC2.out.mono ?_;rintro e w1 ⟨rfl,hB1⟩;have HB1:=Lib.hid (HB0.out.trans (hB1.mono hw0));clear hB1;go_wp2_with fail;go_ret2;exact formE_some HN.out HB1.out
 ·have HF:formO 2 s.data.toList=ne0 (prp.readyO s.data.toList false):=rfl;rw[HF];have HC:Hid (Calls Tryz.prog 134 #[.string s,.bool false] W0 fun e w'=>e= .returned (prw.pairV (prp.readyO s.data.toList false))∧Below W0.heap.size W0 w'):=prw.ready_any s false W0 (by omega) HE0;clear HF;cases ho:prp.readyO s.data.toList false with
  | none=>rw[ho]at HC;rw[show prw.pairV none= .tuple #[.string ⟨#[]⟩,.int .i64 19]from rfl]at HC;clear ho;go_enter Tryz.func261,Tryz.ntmps261;go_wp2_with fail;refine HC.out.mono ?_;rintro e w1 ⟨rfl,hB1⟩;have HB1:=Lib.hid (HB0.out.trans (hB1.mono hw0));clear hB1;go_wp2_with fail;go_ret2;exact formE_none rfl HB1.out
  | some u=>
   rw[ho]at HC;have HC2:Hid (Calls Tryz.prog 134 #[.string s,.bool false] W0 fun e w'=>e= .returned (.tuple #[.string (bs u),.int .i64 0])∧Below W0.heap.size W0 w'):=HC;clear HC ho;by_cases hu:u=[]
   ·have hue:(bs u).toList=[]:=(by rw[hu,Lib.toList_data];rfl);have HN:Hid (ne0 (some u)=none):=(by show _=_;rw[hu];rfl);clear hu;go_enter Tryz.func261,Tryz.ntmps261;go_wp2_with fail;refine HC2.out.mono ?_;rintro e w1 ⟨rfl,hB1⟩;have HB1:=Lib.hid (HB0.out.trans (hB1.mono hw0));clear hB1;go_wp2_with fail;go_ret2;exact formE_none HN.out HB1.out
   ·have HN:Hid (ne0 (some u)=some u):=ne0_some hu;obtain⟨hu1,hu2⟩:=bs_ne hu;clear hu;go_enter Tryz.func261,Tryz.ntmps261;go_wp2_with fail;refine HC2.out.mono ?_;rintro e w1 ⟨rfl,hB1⟩;have HB1:=Lib.hid (HB0.out.trans (hB1.mono hw0));clear hB1;go_wp2_with fail;go_ret2;exact formE_some HN.out HB1.out
 ·go_enter Tryz.func261,Tryz.ntmps261;go_wp2_with fail;go_ret2;exact formE_is rfl HB0.out
 ·have HC:Hid (∀w,Calls Tryz.prog 291 #[.string s] w fun e w'=>e= .returned (.bool (numOK s.data.toList))∧w=w'):=fun w=>number_any s w (by omega);have HF:formO 4 s.data.toList=if numOK s.data.toList=true then some s.data.toList else none:=rfl;rw[HF];clear HF;cases hn:numOK s.data.toList with
  | true=>rw[hn]at HC;clear hn;go_enter Tryz.func261,Tryz.ntmps261;go_wp2_with fail;refine(HC.out _).mono ?_;rintro e w1 ⟨rfl,rfl⟩;go_wp2_with fail;go_ret2;exact formE_is rfl HB0.out
  | false=>rw[hn]at HC;clear hn;go_enter Tryz.func261,Tryz.ntmps261;go_wp2_with fail;refine(HC.out _).mono ?_;rintro e w1 ⟨rfl,rfl⟩;go_wp2_with fail;go_ret2;exact formE_none rfl HB0.out
 ·have HF:formO 5 s.data.toList=if s.data.toList=tT∨s.data.toList=tF then some s.data.toList else none:=rfl;rw[HF];clear HF;by_cases e1:s.data.toList=tT
  ·have q1:(s.toList==[84,82,85,69])=true:=(by rw[Lib.toList_data,e1];rfl);rw[if_pos (Or.inl e1)];clear e1;go_enter Tryz.func261,Tryz.ntmps261;go_wp2_with fail;go_ret2;exact formE_is rfl HB0.out
  ·have q1:(s.toList==[84,82,85,69])=false:=(by rw[Lib.toList_data];simpa[tT]using e1);by_cases e2:s.data.toList=tF
   ·have q2:(s.toList==[70,65,76,83,69])=true:=(by rw[Lib.toList_data,e2];rfl);rw[if_pos (Or.inr e2)];clear e1 e2;go_enter Tryz.func261,Tryz.ntmps261;go_wp2_with fail;go_ret2;exact formE_is rfl HB0.out
   ·have q2:(s.toList==[70,65,76,83,69])=false:=(by rw[Lib.toList_data];simpa[tF]using e2);rw[if_neg (by rintro(h | h);exact e1 h;exact e2 h)];clear e1 e2;go_enter Tryz.func261,Tryz.ntmps261;go_wp2_with fail;go_ret2;exact formE_none rfl HB0.out
 ·have HF:formO 6 s.data.toList=nameK s.data.toList:=rfl;rw[HF];clear HF;have HP:Hid (Calls Tryz.prog 94 #[.string s] W0 fun e w'=>Below W0.heap.size W0 w'∧ ∃ao cap,e= .returned (.tuple #[.slice ao (dnw.parseV s).1.length cap,.int .i64 (dnw.parseV s).2])∧dnw.Rdns w' ao (dnw.parseV s).1):=
   (dnw.parse_any s W0 (by omega) HE0 HT0).mono fun e w' h=>dnw.parseE_V h
  have hV:dnw.parseV s=match dnw.parseR s.data.toList with
    | none=>([],4)
    | some n=>(n,0):=by unfold dnw.parseV;rw[if_neg (by omega)]<;>cases dnw.parseR s.data.toList<;>rfl
  unfold nameK;cases hp:dnw.parseR s.data.toList with
  | none=>rw[hp]at hV;simp only at hV;rw[hV]at HP;simp only[List.length_nil]at HP;have HOKN:dnw.nameOK []=true:=(by decide);clear hV hp;go_enter Tryz.func261,Tryz.ntmps261;go_wp2_with fail;refine HP.out.mono ?_;rintro e w1 ⟨hB1,ao,cap,rfl,hR⟩;have HR:=Lib.hid hR;have HB1:=Lib.hid (HB0.out.trans (hB1.mono hw0));have HE1:=Lib.hid (prw.env_below HE0.out hB1);have HT1:=Lib.hid (dnw.tabs_below HT0.out hB1);clear hR hB1;go_wp2_with fail;refine(dnw.keys_any ao cap [] w1 HR HE1 HT1 (fun l hl=>by cases hl)).mono ?_;intro e w2 hK;obtain⟨hB2,hK2⟩:=hK;rw[if_pos HOKN]at hK2;obtain⟨ao2,cap2,rfl,_,hS⟩:=hK2;have HB2:=Lib.hid (HB1.out.trans (hB2.mono HB1.out.size));clear hB2 hS HOKN;go_wp2_with fail;refine(Tryz.strings_Join_none ao2 cap2 ⟨#[]⟩ w2).mono ?_;rintro e w3 ⟨rfl,hw3⟩;have HB3:Hid (Below w.heap.size w w3):=(by rw[hw3];exact HB2.out);clear hw3;go_wp2_with fail;go_ret2;exact formE_none rfl HB3.out
  | some n=>rw[hp]at hV;simp only at hV;rw[hV]at HP;simp only at HP;have hok:=parseR_ok hp;have HSM:Hid (∀l∈n,l.length≤4→dnw.Smalls l):=fun l hl _=>name_smalls hok l hl;have HJL:=Lib.hid (joinK_len n hok);have HNL:Hid (n.length≤12):=(by show _≤_;unfold dnw.nameOK at hok;rw[Bool.and_eq_true,decide_eq_true_eq]at hok;exact hok.1);have HOKN:=Lib.hid hok;obtain⟨m,hm⟩: ∃m,m=n.length:=⟨_,rfl⟩;have HM:=Lib.hid hm;rw[←hm]at HP;have HKA:Hid (∀ao cap w,dnw.Rdns w ao n→prw.Env w→dnw.Tabs w→Calls Tryz.prog 292 #[.slice ao m cap] w fun e w'=>Below w.heap.size w w'∧ ∃ao2 cap2,e= .returned (.tuple #[.slice ao2 m cap2,.int .i64 0])∧m≤cap2∧tupw.Strs w' ao2 (dnw.keysB n)):=(by intro ao cap w h1 h2 h3;rw[hm];refine(dnw.keys_any ao cap n w (Lib.hid h1) (Lib.hid h2) (Lib.hid h3) HSM).mono fun e w' h=> ?_;obtain⟨k1,k2⟩:=h;rw[if_pos HOKN.out]at k2;exact⟨k1,k2⟩);have HJ:Hid (∀ao cap w,tupw.Strs w ao (dnw.keysB n)→m≤cap→Calls Tryz.prog 165 #[.slice ao m cap,.string ⟨#[]⟩] w fun e w'=>e= .returned (.string (bs (joinK (dnw.keysB n))))∧Below w.heap.size w w'):=(by intro ao cap w h1 h2;have hl:(dnw.keysB n).length=m:=(by rw[dnw.keysB_len,hm]);have:=join_any ao cap (dnw.keysB n) w (Lib.hid h1) (by rw[hl];exact h2) (by have:=HNL.out;omega) (by have:=HJL.out;omega);rw[hl]at this;exact this);clear hV hp hok hm;go_enter Tryz.func261,Tryz.ntmps261;go_wp2_with fail;refine HP.out.mono ?_;rintro e w1 ⟨hB1,ao,cap,rfl,hR⟩;have HR:=Lib.hid hR;have HB1:=Lib.hid (HB0.out.trans (hB1.mono hw0));have HE1:=Lib.hid (prw.env_below HE0.out hB1);have HT1:=Lib.hid (dnw.tabs_below HT0.out hB1);clear hR hB1;go_wp2_with fail;refine(HKA.out _ _ _ HR.out HE1.out HT1.out).mono ?_;rintro e w2 ⟨hB2,ao2,cap2,rfl,hc2,hS⟩;have HS:=Lib.hid hS;have HB2:=Lib.hid (HB1.out.trans (hB2.mono HB1.out.size));clear hB2 hS;go_wp2_with fail;refine(HJ.out _ _ _ HS.out hc2).mono ?_;rintro e w3 ⟨rfl,hB3⟩;have HB3:=Lib.hid (HB2.out.trans (hB3.mono HB2.out.size));clear hB3;go_wp2_with fail;go_ret2;exact formE_some rfl HB3.out
 ·have HF:formO 7 s.data.toList=ne0 (prp.phoneO s.data.toList):=rfl;rw[HF];have HC:Hid (Calls Tryz.prog 290 #[.string s] W0 fun e w'=>e= .returned (prw.pairV (prp.phoneO s.data.toList))∧Below W0.heap.size W0 w'):=prw.phone_any s W0 (by omega) HE0;clear HF;cases ho:prp.phoneO s.data.toList with
  | none=>rw[ho]at HC;rw[show prw.pairV none= .tuple #[.string ⟨#[]⟩,.int .i64 19]from rfl]at HC;clear ho;go_enter Tryz.func261,Tryz.ntmps261;go_wp2_with fail;refine HC.out.mono ?_;rintro e w1 ⟨rfl,hB1⟩;have HB1:=Lib.hid (HB0.out.trans (hB1.mono hw0));clear hB1;go_wp2_with fail;go_ret2;exact formE_none rfl HB1.out
  | some u=>
   rw[ho]at HC;have HC2:Hid (Calls Tryz.prog 290 #[.string s] W0 fun e w'=>e= .returned (.tuple #[.string (bs u),.int .i64 0])∧Below W0.heap.size W0 w'):=HC;clear HC ho;by_cases hu:u=[]
   ·have hue:(bs u).toList=[]:=(by rw[hu,Lib.toList_data];rfl);have HN:Hid (ne0 (some u)=none):=(by show _=_;rw[hu];rfl);clear hu;go_enter Tryz.func261,Tryz.ntmps261;go_wp2_with fail;refine HC2.out.mono ?_;rintro e w1 ⟨rfl,hB1⟩;have HB1:=Lib.hid (HB0.out.trans (hB1.mono hw0));clear hB1;go_wp2_with fail;go_ret2;exact formE_none HN.out HB1.out
   ·have HN:Hid (ne0 (some u)=some u):=ne0_some hu;obtain⟨hu1,hu2⟩:=bs_ne hu;clear hu;go_enter Tryz.func261,Tryz.ntmps261;go_wp2_with fail;refine HC2.out.mono ?_;rintro e w1 ⟨rfl,hB1⟩;have HB1:=Lib.hid (HB0.out.trans (hB1.mono hw0));clear hB1;go_wp2_with fail;go_ret2;exact formE_some HN.out HB1.out
def normV (o:List UInt8 × Int):Value:= .tuple #[.string (bs o.1),.int .i64 o.2]
theorem known_any (nm:ByteArray)(syn:Int)(sg:Bool)(w:World):Calls Tryz.prog 260 #[.agg #[.string nm,.int .i64 syn,.bool sg]] w fun e w'=>e= .returned (.bool (decide (1≤syn∧syn≤7)))∧Below w.heap.size w w':=by
 obtain⟨W0,hW0⟩: ∃W,w.alloc (.cells #[.string nm,.int .i64 syn,.bool sg] 108)=W:=⟨_,rfl⟩;have HB0:Hid (Below w.heap.size w W0):=by rw[←hW0];exact(Below.refl _ _).alloc (Nat.le_refl _) _
 have k1:W0.cell? ⟨w.heap.size,1,none⟩=some (.int .i64 syn):=by rw[←hW0,World.cell?_alloc_new];rfl
 by_cases h1:1≤syn
 ·by_cases h7:syn≤7
  ·have HD:Hid (decide (1≤syn∧syn≤7)=true):=decide_eq_true ⟨h1,h7⟩;go_enter Tryz.func260,Tryz.ntmps260;go_wp2_with fail;go_ret;first | exact⟨by rw[HD.out];rfl,HB0.out⟩ | exact⟨rfl,HB0.out⟩
  ·have HD:Hid (decide (1≤syn∧syn≤7)=false):=decide_eq_false (fun h=>h7 h.2);have q:decide (syn≤7)=false:=decide_eq_false h7;clear h7;go_enter Tryz.func260,Tryz.ntmps260;go_wp2_with fail;go_ret;first | exact⟨by rw[HD.out];rfl,HB0.out⟩ | exact⟨rfl,HB0.out⟩
 ·have HD:Hid (decide (1≤syn∧syn≤7)=false):=decide_eq_false (fun h=>h1 h.1);have q:decide (1≤syn)=false:=decide_eq_false h1;go_enter Tryz.func260,Tryz.ntmps260;go_wp2_with fail;go_ret;first | exact⟨by rw[HD.out];rfl,HB0.out⟩ | exact⟨rfl,HB0.out⟩
theorem normal_any (nm:ByteArray)(syn:Int)(sg:Bool)(s:ByteArray)(w:World)(hs:s.size≤140737488351232)(hE:Hid (prw.Env w))(hT:Hid (dnw.Tabs w)):
  Calls Tryz.prog 200 #[.agg #[.string nm,.int .i64 syn,.bool sg],.string s] w fun e w'=>e= .returned (normV (normL syn s.data.toList))∧Below w.heap.size w w':=by
 obtain⟨W0,hW0⟩: ∃W,w.alloc (.cells #[.string nm,.int .i64 syn,.bool sg] 108)=W:=⟨_,rfl⟩;have hB0:Below w.heap.size w W0:=by rw[←hW0];exact(Below.refl _ _).alloc (Nat.le_refl _) _
 have HB0:=Lib.hid hB0;have hw0:w.heap.size<W0.heap.size:=by rw[←hW0];simp
 have HE0:=Lib.hid (prw.env_below hE.out hB0);have HT0:=Lib.hid (dnw.tabs_below hT.out hB0);have k0:W0.cell? ⟨w.heap.size,0,none⟩=some (.string nm):=by rw[←hW0,World.cell?_alloc_new];rfl
 have k1:W0.cell? ⟨w.heap.size,1,none⟩=some (.int .i64 syn):=by rw[←hW0,World.cell?_alloc_new];rfl
 have k2:W0.cell? ⟨w.heap.size,2,none⟩=some (.bool sg):=by rw[←hW0,World.cell?_alloc_new];rfl
 have HK:Hid (∀w,Calls Tryz.prog 260 #[.agg #[.string nm,.int .i64 syn,.bool sg]] w fun e w'=>e= .returned (.bool (decide (1≤syn∧syn≤7)))∧Below w.heap.size w w'):=fun w=>known_any nm syn sg w;clear hB0;by_cases hsy:1≤syn∧syn≤7
 ·rw[decide_eq_true hsy]at HK;by_cases hlong:1000<s.size
  ·rw[normL_long hsy (by rw[kt.size_len];exact hlong)];have hlI:(1000:Int)<(s.size:Int):=(by omega);clear hlong hsy;go_enter Tryz.func200,Tryz.ntmps200;go_wp2_with fail;refine(HK.out _).mono ?_;rintro e w1 ⟨rfl,hB1⟩;have HB1:=Lib.hid (HB0.out.trans (hB1.mono (Nat.le_of_lt hw0)));clear hB1 hW0;go_wp2_with fail;go_ret2;exact⟨rfl,HB1.out⟩
  ·have hlI: ¬ (1000:Int)<(s.size:Int):=(by omega);by_cases h0:s.data.toList=[]
   ·rw[normL_nil hsy h0];have hz:s.toList=[]:=(by rw[Lib.toList_data];exact h0);clear hsy hlong h0;go_enter Tryz.func200,Tryz.ntmps200;go_wp2_with fail;refine(HK.out _).mono ?_;rintro e w1 ⟨rfl,hB1⟩;have HB1:=Lib.hid (HB0.out.trans (hB1.mono (Nat.le_of_lt hw0)));clear hB1 hW0;go_wp2_with fail;go_ret2;exact⟨rfl,HB1.out⟩
   ·have HNF:=Lib.hid (normL_form hsy (by rw[kt.size_len];omega) h0);have HFM:Hid (∀w,prw.Env w→dnw.Tabs w→Calls Tryz.prog 261 #[.agg #[.string nm,.int .i64 syn,.bool sg],.string s] w (FormE (formO syn s.data.toList) w)):=fun w h1 h2=>form_any nm syn sg s w (by omega) hsy.1 hsy.2 (Lib.hid h1) (Lib.hid h2);obtain⟨z1,z2⟩:=str_ne (s:=s) (by
     rcases Nat.eq_zero_or_pos s.size with h | h
     ·exact absurd (by rw[zero_s h];rfl) h0
     ·exact h)
    clear hsy hlong h0;go_enter Tryz.func200,Tryz.ntmps200;go_wp2_with fail;refine(HK.out _).mono ?_;rintro e w1 ⟨rfl,hB1⟩;have HB1:=Lib.hid (HB0.out.trans (hB1.mono (Nat.le_of_lt hw0)));have HE1:=Lib.hid (prw.env_below HE0.out hB1);have HT1:=Lib.hid (dnw.tabs_below HT0.out hB1);have m0:=(hB1.cell (p:=⟨w.heap.size,0,none⟩) hw0).trans k0;have m1:=(hB1.cell (p:=⟨w.heap.size,1,none⟩) hw0).trans k1;have m2:=(hB1.cell (p:=⟨w.heap.size,2,none⟩) hw0).trans k2;clear hB1 hW0 k0 k1 k2;go_wp2_with fail;refine(HFM.out _ HE1.out HT1.out).mono ?_;intro e w2 hF;cases ho:formO syn s.data.toList with
    | none=>rw[ho]at hF;obtain⟨hB2,u,rfl⟩:=hF;have HB2:=Lib.hid (HB1.out.trans (hB2.mono HB1.out.size));have HO:=Lib.hid ho;clear hB2 ho;go_wp2_with fail;go_ret2;exact⟨by rw[HNF.out,HO.out];rfl,HB2.out⟩
    | some u=>rw[ho]at hF;obtain⟨hB2,rfl⟩:=hF;have HB2:=Lib.hid (HB1.out.trans (hB2.mono HB1.out.size));have HO:=Lib.hid ho;clear hB2 ho;go_wp2_with fail;go_ret2;exact⟨by rw[HNF.out,HO.out];rfl,HB2.out⟩
 ·rw[normL_bad hsy];rw[decide_eq_false hsy]at HK;clear hsy;go_enter Tryz.func200,Tryz.ntmps200;go_wp2_with fail;refine(HK.out _).mono ?_;rintro e w1 ⟨rfl,hB1⟩;have HB1:=Lib.hid (HB0.out.trans (hB1.mono (Nat.le_of_lt hw0)));clear hB1 hW0;go_wp2_with fail;go_ret2;exact⟨rfl,HB1.out⟩
theorem check_any (nm:ByteArray)(syn:Int)(sg:Bool)(s:ByteArray)(w:World)(hs:s.size≤140737488351232)(hE:Hid (prw.Env w))(hT:Hid (dnw.Tabs w)):
  Calls Tryz.prog 145 #[.agg #[.string nm,.int .i64 syn,.bool sg],.string s] w fun e w'=>e= .returned (.int .i64 (normL syn s.data.toList).2)∧Below w.heap.size w w':=by
 obtain⟨W0,hW0⟩: ∃W,w.alloc (.cells #[.string nm,.int .i64 syn,.bool sg] 108)=W:=⟨_,rfl⟩;have hB0:Below w.heap.size w W0:=by rw[←hW0];exact(Below.refl _ _).alloc (Nat.le_refl _) _
 have HB0:=Lib.hid hB0;have hw0:w.heap.size<W0.heap.size:=by rw[←hW0];simp
 have HE0:=Lib.hid (prw.env_below hE.out hB0);have HT0:=Lib.hid (dnw.tabs_below hT.out hB0);have k0:W0.cell? ⟨w.heap.size,0,none⟩=some (.string nm):=by rw[←hW0,World.cell?_alloc_new];rfl
 have k1:W0.cell? ⟨w.heap.size,1,none⟩=some (.int .i64 syn):=by rw[←hW0,World.cell?_alloc_new];rfl
 have k2:W0.cell? ⟨w.heap.size,2,none⟩=some (.bool sg):=by rw[←hW0,World.cell?_alloc_new];rfl
 have HN:Hid (∀w,prw.Env w→dnw.Tabs w→Calls Tryz.prog 200 #[.agg #[.string nm,.int .i64 syn,.bool sg],.string s] w fun e w'=>e= .returned (normV (normL syn s.data.toList))∧Below w.heap.size w w'):=fun w h1 h2=>normal_any nm syn sg s w hs (Lib.hid h1) (Lib.hid h2);obtain⟨uo,huo⟩: ∃u,normL syn s.data.toList=u:=⟨_,rfl⟩;rw[huo]at HN ⊢;clear huo;obtain⟨u,er⟩:=uo;obtain⟨ub,hub⟩: ∃ub,bs u=ub:=⟨_,rfl⟩;have HN2:Hid (∀w,prw.Env w→dnw.Tabs w→Calls Tryz.prog 200 #[.agg #[.string nm,.int .i64 syn,.bool sg],.string s] w fun e w'=>e= .returned (.tuple #[.string ub,.int .i64 er])∧Below w.heap.size w w'):=by rw[←hub];exact HN
 clear HN hub hB0;go_enter Tryz.func145,Tryz.ntmps145;go_wp2_with fail;refine(HN2.out _ HE0.out HT0.out).mono ?_;rintro e w1 ⟨rfl,hB1⟩;have HB1:=Lib.hid (HB0.out.trans (hB1.mono (Nat.le_of_lt hw0)));clear hB1;go_wp2_with fail;go_ret;exact⟨rfl,HB1.out⟩
end atw
open Go.RowKit
namespace tup
end tup
namespace prt
open tupw
def OwnB (w:World)(B:Nat)(v:Value)(l:List UInt8):Prop:=w.ownsRow B 5 1 v (Lib.byteCells l).length (Lib.byteCells l)
end prt
namespace fldw
theorem infoByte:(Tryz.prog.info? 5).map (fun i=>(i.zero,i.size,i.bytes))=some (some (.int .u8 0),1,1):=bld.infoByte
end fldw
namespace ord
open Go.Lib
theorem cmp_cons (a b:UInt8)(s t:List UInt8):compareBytes (a::s) (b::t)=if a<b then-1 else if b<a then 1 else compareBytes s t:=rfl
theorem cmp_same (a:UInt8)(s t:List UInt8):compareBytes (a::s) (a::t)=compareBytes s t:=by rw[cmp_cons];simp
theorem cmp_lt {a b:UInt8}(h:a<b)(s t:List UInt8):compareBytes (a::s) (b::t)= -1:=by rw[cmp_cons,if_pos h]
theorem cmp_gt {a b:UInt8}(h:b<a)(s t:List UInt8):compareBytes (a::s) (b::t)=1:=by rw[cmp_cons,if_neg (fun h'=>absurd h (by have h1:=UInt8.lt_iff_toNat_lt.1 h';intro h2;have h3:=UInt8.lt_iff_toNat_lt.1 h2;omega)),if_pos h]
theorem cmp_cases (a b:UInt8):a<b∨b<a∨a=b:=by
 rcases Nat.lt_trichotomy a.toNat b.toNat with h | h | h
 ·exact Or.inl (UInt8.lt_iff_toNat_lt.2 h)
 ·exact Or.inr (Or.inr (UInt8.toNat_inj.1 h))
 ·exact Or.inr (Or.inl (UInt8.lt_iff_toNat_lt.2 h))
theorem cmp_three: ∀a b:List UInt8,compareBytes a b= -1∨compareBytes a b=0∨compareBytes a b=1
 | [],[]=>Or.inr (Or.inl rfl)
 | [],_::_=>Or.inl rfl
 | _::_,[]=>Or.inr (Or.inr rfl)
 | a::s,b::t=>by
  rcases cmp_cases a b with h | h | rfl
  ·exact Or.inl (cmp_lt h s t)
  ·exact Or.inr (Or.inr (cmp_gt h s t))
  ·rw[cmp_same];exact cmp_three s t
theorem cmp_neg: ∀a b:List UInt8,compareBytes b a= -compareBytes a b
 | [],[]=>rfl
 | [],_::_=>rfl
 | _::_,[]=>rfl
 | a::s,b::t=>by
  rcases cmp_cases a b with h | h | rfl
  ·rw[cmp_lt h,cmp_gt h];rfl
  ·rw[cmp_gt h,cmp_lt h]
  ·rw[cmp_same,cmp_same];exact cmp_neg s t
end ord
open Go.RowKit
namespace dnw
open dnp
theorem dr_drewN {B:Nat}{a b:World}(h:Below B a b)(n:Nat):Below B a (b.drewN n):=⟨h.os,h.tape,h.output,h.size,h.block⟩
end dnw
open Go.RowKit
namespace dnw
open dnp
def KeyE (l:List Av)(e:Ending):Prop:=e=if rdnOK l=true then .returned (.tuple #[.string (bytes (keyL l)),.int .i64 0])else .returned (.tuple #[.string ⟨#[]⟩,.int .i64 4])
end dnw
open Go.RowKit
namespace dnw
open dnp
structure ApR (P:Program)(t tn ty:TypeId)(vs vx:Value)(w:World)(v':Value)(w':World):Prop where
 run:(Builtin.append_ #[t,tn] ty #[vs,vx]).run P w= .ok v' w'
theorem wp_apR {P:Program}{w:World}{ops:Array Oper}{rest:List Oper}{o:Oper}{a:Act}{Q:Exit→Act→World→Prop}(hgd:o.guard=none)(s x:Operand)(t tn:TypeId)
  (ho:o.op= .call {callee:= .builtin .append,args:=#[s,x],argTypes:=#[t,tn]}) (v':Value) (w':World) (hr:ApR P t tn o.type (a.eval s) (a.eval x) w v' w') (h:wpList P ops Q rest (a.put o.dst v') w'):wpList P ops Q (o::rest) a w:=
 Lib.wpList_append_run w hgd s x t tn ho _ _ rfl rfl v' w' hr.run h
end dnw
open Go.RowKit
namespace dnw
open dnp
theorem keyE_yes {l:List Av}(h:rdnOK l=true):KeyE l (.returned (.tuple #[.string (bytes (keyL l)),.int .i64 0])):=by unfold KeyE;rw[if_pos h]
theorem keyE_no {l:List Av}(h:rdnOK l=false):KeyE l (.returned (.tuple #[.string ⟨#[]⟩,.int .i64 4])):=by unfold KeyE;rw[if_neg (by rw[h];simp)]
end dnw
namespace dnw
open dnp
theorem dropW_len {α:Type}(p:α→Bool)(l:List α):(l.dropWhile p).length≤l.length:=by obtain⟨a,h,_⟩:=dropW_split p l;have:=congrArg List.length h;rw[List.length_append]at this;omega
theorem trim_len (L:List Sg):(trim L).length≤L.length:=by unfold trim;have h1:=trimR_len (L.dropWhile blankS);have h2:=dropW_len blankS L;omega
end dnw
open Go.RowKit
namespace dnw
open dnp
def scell (x:Sg):List Value:=[.int .u8 (x.1.toNat:Int),.bool x.2]
def scells (l:List Sg):List Value:=l.flatMap scell
def Sgs (w:World)(ao:Option Addr)(l:List Sg):Prop:= ∀i (hi:i<l.length),∃b o,ao=some ⟨b,o,none⟩∧w.cell? ⟨b,o+i*2,none⟩=some (.int .u8 (l[i].1.toNat:Int))∧w.cell? ⟨b,o+i*2+1,none⟩=some (.bool l[i].2)
theorem sgs_below {w w':World}{ao:Option Addr}{l:List Sg}(h:Sgs w ao l)(hb:Below w.heap.size w w'):Sgs w' ao l:=by intro i hi;obtain⟨b,o,h1,h2,h3⟩:=h i hi;exact⟨b,o,h1,(hb.cell (World.block_lt_of_cell? w _ h2)).trans h2,(hb.cell (World.block_lt_of_cell? w _ h3)).trans h3⟩
end dnw
open Go.RowKit
namespace dnw
open dnp
def cutA (ao:Option Addr)(cap lo:Nat):Option Addr:=if cap=lo then ao else ao.map (·.add (lo*2))
theorem cutA_some (b o cap lo:Nat):cutA (some ⟨b,o,none⟩) cap lo=if cap=lo then some ⟨b,o,none⟩else some ⟨b,o+lo*2,none⟩:=by
 unfold cutA;split
 ·rfl
 ·simp only[Option.map_some,Addr.add_mid]
theorem sgs_cut {w:World}{ao:Option Addr}{L:List Sg}{cap lo:Nat}(h:Sgs w ao L)(hc:L.length≤cap):Sgs w (cutA ao cap lo) (L.drop lo):=by
 intro i hi;rw[List.length_drop]at hi;obtain⟨b,o,e,h1,h2⟩:=h (lo+i) (by omega);subst e;rw[List.getElem_drop];unfold cutA;rw[if_neg (by omega)];refine⟨b,o+lo*2,by simp only[Option.map_some,Addr.add_mid],?_,?_⟩
 ·rw[show o+lo*2+i*2=o+(lo+i)*2 from by rw[Nat.add_mul];omega];exact h1
 ·rw[show o+lo*2+i*2+1=o+(lo+i)*2+1 from by rw[Nat.add_mul];omega];exact h2
theorem sgs_take {w:World}{ao:Option Addr}{M:List Sg}(h:Sgs w ao M)(k:Nat):Sgs w ao (M.take k):=by intro i hi;rw[List.length_take]at hi;rw[List.getElem_take];exact h i (by omega)
def slen:Value→Nat
 | .slice _ n _=>n
 | _=>0
end dnw
open Go.RowKit
namespace dnw
open dnp
theorem trimR_endblank {M:List Sg}{x:Sg}(h:blankS x=true):trimR (M++[x])=trimR M:=by unfold trimR;rw[List.reverse_append];show(List.dropWhile blankS (x::M.reverse)).reverse=_;rw[List.dropWhile_cons,if_pos h]
theorem trimR_endkeep {M:List Sg}{x:Sg}(h:blankS x=false):trimR (M++[x])=M++[x]:=by unfold trimR;rw[List.reverse_append];show(List.dropWhile blankS (x::M.reverse)).reverse=_;rw[List.dropWhile_cons,if_neg (by rw[h];simp)];simp
def TrimE (L:List Sg)(w:World)(e:Ending)(w':World):Prop:=w=w'∧ ∃ao cap,e= .returned (.slice ao (trim L).length cap)∧(trim L).length≤cap∧Sgs w ao (trim L)
theorem trimE_of {L:List Sg}{w:World}{ao:Option Addr}{cap:Nat}{M:List Sg}(h:trim L=M)(hc:M.length≤cap)(hs:Sgs w ao M):TrimE L w (.returned (.slice ao M.length cap)) w:=by subst h;exact⟨rfl,ao,cap,rfl,hc,hs⟩
theorem trim_drop {M:List Sg}{L:List Sg}{x:Sg}(h:L.dropWhile blankS=(x::M).dropWhile blankS)(hx:blankS x=true):L.dropWhile blankS=M.dropWhile blankS:=by rw[h,List.dropWhile_cons,if_pos hx]
theorem trim_head {M:List Sg}{L:List Sg}(h:L.dropWhile blankS=M.dropWhile blankS)(hx: ∀x t,M=x::t→blankS x=false):trim L=trimR M:=by unfold trim;rw[h,dropW_id _ M hx]
theorem trim_any (ao:Option Addr)(cap:Nat)(L:List Sg)(w:World)(hA:Hid (Sgs w ao L))(hc:L.length≤cap)(hl:L.length≤1100000):
    Calls Tryz.prog 159 #[.slice ao L.length cap] w fun e w'=>TrimE L w e w':=by
  go_enter Tryz.func159,Tryz.ntmps159;go_wp2_with fail;go_loopw [0] (fun lv wr=> ∃ (ao:Option Addr) (m cap:Nat) (M:List Sg),lv= .slice ao m cap∧Hid (m=M.length)∧m≤cap∧m≤1100000∧Hid (Sgs w ao M)∧Hid (L.dropWhile blankS=M.dropWhile blankS)∧w=wr) (fun lv _=>slen lv);case atStart=>exact⟨ao,_,cap,L,rfl,rfl,hc,hl,hA,rfl,rfl⟩
  case round=>
    clear hA hc hl;obtain⟨ao,m,cap,M,rfl,hm,hc,hl,hA,hD,rfl⟩:=hrel;by_cases hb: ∃x t,M=x::t∧blankS x=true
    · obtain⟨x,t,rfl,hx⟩:=hb;obtain⟨k,rfl⟩: ∃k,m=k+1:=⟨t.length,by rw[hm.out];rfl⟩;have HX:=Lib.hid (trim_drop hD.out hx);obtain⟨b,o,hao,c0,c1⟩:=hA.out 0 (by simp);have hS:=sgs_cut (lo:=1) hA.out (by rw[←hm.out];exact hc);obtain⟨c,bare⟩:=x;unfold blankS at hx;simp only[Bool.and_eq_true,decide_eq_true_eq]at hx;obtain⟨rfl,rfl⟩:=hx;simp only[Nat.zero_mul,Nat.add_zero,List.getElem_cons_zero]at c0 c1;subst hao;have HS:Hid (Sgs w (if cap=1 then some ⟨b,o,none⟩else some ⟨b,o+2,none⟩) t):=(by have h:cutA (some ⟨b,o,none⟩) cap 1=if cap=1 then some ⟨b,o,none⟩else some ⟨b,o+2,none⟩:=cutA_some b o cap 1;rw[h]at hS;exact hS);have HM:Hid (k=t.length):=(by have:=hm.out;simp only[List.length_cons]at this;show k=_;omega);clear hS hm hD hA;go_wp2_with fail;go_roundw;case rel=>exact⟨_,_,_,t,rfl,HM,by omega,by omega,HS,HX,trivial⟩
      case measure=>simp[slen]<;>omega
    · have HD:=Lib.hid (trim_head hD.out (fun x t h=>by
        cases hx:blankS x with
        | false=>rfl
        | true=>exact absurd ⟨x,t,h,hx⟩ hb))
      have hM:M=[]∧m=0∨ ∃c t,M=(c,false)::t∨(M=(c,true)::t∧ ¬ (c.toNat:Int)=32):=by
        cases M with
        | nil=>exact Or.inl ⟨rfl,by rw[hm.out];rfl⟩
        | cons x t=>
          obtain⟨c,bare⟩:=x;refine Or.inr ⟨c,t,?_⟩;cases bare with
          | false=>exact Or.inl rfl
          | true=>refine Or.inr ⟨rfl,fun h=>hb ⟨_,t,rfl,?_⟩⟩;show(true&&decide (c=32))=true;rw[u8_eq (n:=32) (by omega) h];rfl
      have hfacts:m=0∨(0<m∧ ∃b o,ao=some ⟨b,o,none⟩∧((w.cell? ⟨b,o+1,none⟩=some (.bool false))∨ ∃c:UInt8,w.cell? ⟨b,o+1,none⟩=some (.bool true)∧w.cell? ⟨b,o,none⟩=some (.int .u8 (c.toNat:Int))∧((c.toNat:Int)==32)=false)):=by
        rcases hM with⟨_,h⟩ | ⟨c,t,h | ⟨h,hc⟩⟩
        · exact Or.inl h
        · subst h;obtain⟨b,o,hao,c0,c1⟩:=hA.out 0 (by simp);simp only[Nat.zero_mul,Nat.add_zero,List.getElem_cons_zero]at c0 c1;exact Or.inr ⟨by rw[hm.out];simp,b,o,hao,Or.inl c1⟩
        · subst h;obtain⟨b,o,hao,c0,c1⟩:=hA.out 0 (by simp);simp only[Nat.zero_mul,Nat.add_zero,List.getElem_cons_zero]at c0 c1;exact Or.inr ⟨by rw[hm.out];simp,b,o,hao,Or.inr ⟨c,c1,c0,by rw[beq_eq_false_iff_ne];exact hc⟩⟩
      have HD:=Lib.hid HD;clear hb hM hD;rcases hfacts with rfl | ⟨hpos,b,o,rfl,c1 | ⟨c,c1,c0,q⟩⟩
      case' inr.inl=>have hpos':(0:Int)<(m:Int):=by omega
      case' inr.inr=>have hpos':(0:Int)<(m:Int):=by omega
      all_goals
        go_wp2_with fail;go_loopw [0] (fun lv wr=> ∃ (ao2:Option Addr) (m2 cap2:Nat) (M2:List Sg),lv= .slice ao2 m2 cap2∧Hid (m2=M2.length)∧m2≤cap2∧m2≤1100000∧Hid (Sgs w ao2 M2)∧Hid (trim L=trimR M2)∧w=wr) (fun lv _=>slen lv);case atStart=>exact⟨_,_,_,M,rfl,hm,hc,hl,hA,HD,rfl⟩
        case round=>
          clear hm hA HD hc hl;obtain⟨ao,m,cap,M,rfl,hm,hc,hl,hA,hD,rfl⟩:=hrel;by_cases hb: ∃A x,M=A++[x]∧blankS x=true
          · obtain⟨A,x,rfl,hx⟩:=hb;obtain⟨k,rfl⟩: ∃k,m=k+1:=⟨A.length,by rw[hm.out];simp⟩;have hk:k=A.length:=(by have:=hm.out;simp only[List.length_append,List.length_cons,List.length_nil]at this;omega);have HX:Hid (trim L=trimR A):=hD.out.trans (trimR_endblank hx);obtain⟨b,o,hao,c0,c1⟩:=hA.out k (by rw[hk];simp);have hxe:(A++[x])[k]'(by rw[hk];simp)=x:=(by subst hk;simp);rw[hxe]at c0 c1;have hS:=sgs_take hA.out k;rw[hk,List.take_left]at hS;obtain⟨c,bare⟩:=x;unfold blankS at hx;simp only[Bool.and_eq_true,decide_eq_true_eq]at hx;obtain⟨rfl,rfl⟩:=hx;subst hao;have HS:=Lib.hid hS;have HM:=Lib.hid hk;clear hS hm hD hA hk hxe;go_wp2_with fail;go_roundw;case rel=>exact⟨_,_,_,A,rfl,HM,by omega,by omega,HS,HX,trivial⟩
            case measure=>simp[slen]<;>omega
          · have hM:M=[]∧m=0∨ ∃A x,M=A++[x]:=by
              cases hMM:M.reverse with
              | nil=>have:M=[]:=(by simpa using hMM);subst this;exact Or.inl ⟨rfl,by rw[hm.out];rfl⟩
              | cons x t=>exact Or.inr ⟨t.reverse,x,by rw[←List.reverse_reverse M,hMM];simp⟩
            have HT:Hid (trim L=M):=by
              show trim L=M;rw[hD.out];rcases hM with⟨rfl,_⟩ | ⟨A,x,rfl⟩
              · rfl
              · refine trimR_endkeep ?_;cases hx:blankS x with
                | false=>rfl
                | true=>exact absurd ⟨A,x,rfl,hx⟩ hb
            have hfacts:m=0∨ ∃k,m=k+1∧ ∃b o,ao=some ⟨b,o,none⟩∧((w.cell? ⟨b,o+k*2+1,none⟩=some (.bool false))∨ ∃c:UInt8,w.cell? ⟨b,o+k*2+1,none⟩=some (.bool true)∧w.cell? ⟨b,o+k*2,none⟩=some (.int .u8 (c.toNat:Int))∧((c.toNat:Int)==32)=false):=by
              rcases hM with⟨_,h⟩ | ⟨A,x,rfl⟩
              · exact Or.inl h
              · refine Or.inr ⟨A.length,by rw[hm.out];simp,?_⟩;obtain⟨b,o,hao,c0,c1⟩:=hA.out A.length (by simp);have hxe:(A++[x])[A.length]'(by simp)=x:=(by simp);rw[hxe]at c0 c1;refine⟨b,o,hao,?_⟩;obtain⟨c,bare⟩:=x;cases bare with
                | false=>exact Or.inl c1
                | true=>refine Or.inr ⟨c,c1,c0,?_⟩;rw[beq_eq_false_iff_ne];intro h;apply hb;refine⟨A,_,rfl,?_⟩;show(true&&decide (c=32))=true;rw[u8_eq (n:=32) (by omega) h];rfl
            have FIN:Hid (∀v,v=Value.slice ao m cap→TrimE L w (.returned v) w):=(by intro v hv;subst hv;rw[hm.out];exact trimE_of HT.out (by rw[←hm.out];exact hc) hA.out);clear hb hM hD hm hA HT;rcases hfacts with rfl | ⟨k,rfl,b,o,rfl,c1 | ⟨c,c1,c0,q⟩⟩
            all_goals go_wp2_with fail;go_ret;exact FIN.out _ rfl
end dnw
open Go.RowKit
namespace dnw
def BRow (w:World)(B:Nat)(v:Value)(l:List UInt8):Prop:=w.ownsRow B 5 1 v (Lib.byteCells l).length (Lib.byteCells l)
theorem brow_made (w:World)(B:Nat)(hB:B≤w.heap.size):BRow (w.alloc (.cells #[] 5)) B (.slice (some ⟨w.heap.size,0,none⟩) 0 0) []:=World.ownsRow_made w #[] 0 hB (by unfold maxLen;omega) rfl
theorem brow_below {w w':World}{B:Nat}{v:Value}{l:List UInt8}(h:BRow w B v l)(hb:Below w.heap.size w w'):BRow w' B v l:=kt.row_below h hb
theorem brow_same {w w':World}{B:Nat}{v:Value}{l:List UInt8}(h:BRow w B v l)(hs: ∀k,B≤k→k<w.heap.size→w'.heap[k]? =w.heap[k]?):BRow w' B v l:=by
 refine⟨h.1,?_⟩;rcases h.2 with h0 | ⟨g,cap,cur,hv,hBg,hg,h1,h2,h3,h4⟩
 ·exact Or.inl h0
 ·refine Or.inr ⟨g,cap,cur,hv,hBg,?_,h1,h2,h3,h4⟩;rw[hs g hBg (bld.lt_of_heap hg)];exact hg
theorem brow_form {w:World}{B:Nat}{v:Value}{l:List UInt8}(h:BRow w B v l): ∃ (ao:Option Addr) (m cap:Nat),v= .slice ao m cap∧Hid (m=l.length):=by obtain⟨ao,n,cap,h1,h2⟩:=kt.row_form h;exact⟨ao,n,cap,h1,by show _=_;rw[h2.out,Lib.byteCells_length]⟩
theorem brow_app {w:World}{B:Nat}{v:Value}{l:List UInt8}(c:UInt8)(h:BRow w B v l)(hl:l.length≤100000000)(hB:B≤w.heap.size):
  ∃ao m cap w1,(Builtin.append_ #[131,131] 131 #[v,.slice (some ⟨w.heap.size,0,none⟩) 1 1]).run Tryz.prog (w.alloc (.cells #[.int .u8 (c.toNat:Int)] 5))= .ok (.slice ao m cap) w1∧BRow w1 B (.slice ao m cap) (l++[c])∧Below B w w1:=by
 have hlen:(Lib.byteCells l).length=l.length:=Lib.byteCells_length l;obtain⟨v',w1,h1,h2,_,h3⟩:=kt.app1 (P:=Tryz.prog) (ty:=131) Tryz.underlying131 bld.infoByte rfl (.int .u8 (c.toNat:Int)) rfl h (by rw[hlen];unfold maxLen;omega) (by rw[hlen];omega) hB;have h2':BRow w1 B v' (l++[c]):=by unfold BRow;rw[Lib.byteCells_append];exact h2
 obtain⟨ao,m,cap,rfl,_⟩:=brow_form h2';exact⟨ao,m,cap,w1,h1,h2',h3⟩
theorem brow_str {w:World}{B:Nat}{v:Value}{l:List UInt8}(h:BRow w B v l):(convert 131 9 v).run Tryz.prog w= .ok (.string ⟨l.toArray⟩) w:=kt.str_of_row Tryz.underlying131 Tryz.underlying5 Tryz.underlying9 h
end dnw
open Go.RowKit
namespace dnw
open dnp
def PairE (L:List Sg)(w:World)(e:Ending)(w':World):Prop:=
 Below w.heap.size w w'∧match pairS L with
  | none=> ∃t v:ByteArray,e= .returned (.tuple #[.agg #[.string t,.string v],.bool false])
  | some p=>e= .returned (.tuple #[.agg #[.string ⟨p.1.toArray⟩,.string ⟨p.2.toArray⟩],.bool true])
theorem pairE_none {L:List Sg}{w w':World}{t v:ByteArray}(h:pairS L=none)(hb:Below w.heap.size w w'):PairE L w (.returned (.tuple #[.agg #[.string t,.string v],.bool false])) w':=by refine⟨hb,?_⟩;rw[h];exact⟨t,v,rfl⟩
theorem pairS_no {L:List Sg}(h: ∀x∈L,eqS x=false):pairS L=none:=by
 cases hp:pairS L with
 | none=>rfl
 | some p=>obtain⟨A,V,h1,_⟩:=pairS_some hp;exact absurd (h (61,true) (by rw[h1];simp)) (by decide)
theorem split_at {L:List Sg}{i:Nat}(hi:i<L.length)(h:eqS L[i]=true):L=L.take i++(61,true)::L.drop (i+1):=by
 have e:L[i]=(61,true):=by rcases hx:L[i]with⟨c,b⟩;rw[hx]at h;unfold eqS at h;simp only[Bool.and_eq_true,decide_eq_true_eq]at h;obtain⟨rfl,rfl⟩:=h;rfl
 rw[←e];simp
def partV (A V:List Sg):Option Pr:=if(A.all (·.2))=true∧typeOK (lowL (A.map (·.1)))=true∧rightOK V=true then some (lowL (A.map (·.1)),V.map (·.1))else none
theorem partV_bare {A V:List Sg}{x:Sg}(h:x∈A)(hx:x.2=false):partV A V=none:=by unfold partV;rw[if_neg];rintro⟨h1,_⟩;have:=List.all_eq_true.1 h1 x h;rw[hx]at this;cases this
def badAt (i:Nat)(x:Sg):Bool:=x.2&&(bad x.1||decide (x.1=35)&&decide (i=0))
theorem partV_bad {A V:List Sg}{i:Nat}(hi:i<V.length)(h:badAt i V[i]=true):partV A V=none:=by
 unfold partV;rw[if_neg];rintro⟨_,_,h1⟩;unfold badAt at h;simp only[Bool.and_eq_true,Bool.or_eq_true,decide_eq_true_eq]at h;obtain⟨hb,h2 | ⟨h2,rfl⟩⟩:=h
 ·rw[rightOK_bad (List.getElem_mem hi) (by unfold badS;rw[hb,h2];rfl)]at h1;cases h1
 ·unfold rightOK at h1;cases V with
  | nil=>simp at hi
  | cons x t=>simp only[List.getElem_cons_zero]at hb h2;simp[hb,h2]at h1
theorem rightOK_of {V:List Sg}(h: ∀i (hi:i<V.length),badAt i V[i]=false):rightOK V=true:=by
 unfold rightOK;have h1:(V.any fun x=>x.2&&bad x.1)=false:=by rw[Bool.eq_false_iff];intro hh;obtain⟨x,hx,hx2⟩:=List.any_eq_true.1 hh;obtain⟨i,hi,rfl⟩:=List.mem_iff_getElem.1 hx;have:=h i hi;unfold badAt at this;simp only[Bool.and_eq_true]at hx2;rw[hx2.1,hx2.2]at this;cases this
 rw[h1];cases V with
 | nil=>rfl
 | cons x t=>
  have:=h 0 (by simp);unfold badAt at this;simp only[List.getElem_cons_zero,decide_true,Bool.and_true]at this;simp only[Bool.not_false,Bool.true_and];cases hx:(x.2&&decide (x.1=35))with
  | false=>rfl
  | true=>simp only[Bool.and_eq_true]at hx;rw[hx.1,hx.2]at this;simp at this
theorem partV_end {A V:List Sg}(h1: ∀x∈A,x.2=true)(h2: ∀i (hi:i<V.length),badAt i V[i]=false):partV A V=if typeOK (lowL (A.map (·.1)))=true then some (lowL (A.map (·.1)),V.map (·.1))else none:=by unfold partV;rw[rightOK_of h2,List.all_eq_true.2 (fun x hx=>h1 x hx)];simp
theorem pc_cells {w:World}{p:Nat}(h: ∃x y:ByteArray,w.heap[p]? =some (.cells #[.string x,.string y] 51 (0,0))):(∃x,w.cell? ⟨p,0,none⟩=some (.string x))∧(∃y,w.cell? ⟨p,1,none⟩=some (.string y))∧w.frozen? ⟨p,0,none⟩=false∧w.frozen? ⟨p,1,none⟩=false:=by obtain⟨x,y,h⟩:=h;exact⟨⟨x,by rw[Lib.cell_of_heap h];rfl⟩,⟨y,by rw[Lib.cell_of_heap h];rfl⟩,Lib.frozen_of_heap h 0,Lib.frozen_of_heap h 1⟩
def PC (w:World)(p:Nat):Prop:= ∃x y:ByteArray,w.heap[p]? =some (.cells #[.string x,.string y] 51 (0,0))
theorem pc_below {w w':World}{p:Nat}(h:PC w p)(hb:Below (p+1) w w'):PC w' p:=by obtain⟨x,y,h⟩:=h;exact⟨x,y,(hb.block p (by omega)).trans h⟩
theorem pc_below2 {wr wq:World}{p:Nat}(h:PC wr p)(hb:Below wr.heap.size wr wq):PC wq p:=by obtain⟨x,y,h⟩:=h;exact⟨x,y,(hb.block p (bld.lt_of_heap h)).trans h⟩
theorem pc_store {w:World}{p:Nat}(h:PC w p)(a b:ByteArray):((w.setCell ⟨p,0,none⟩ (.string a)).setCell ⟨p,1,none⟩ (.string b)).cell? ⟨p,0,none⟩=some (.string a)∧((w.setCell ⟨p,0,none⟩ (.string a)).setCell ⟨p,1,none⟩ (.string b)).cell? ⟨p,1,none⟩=some (.string b):=by
 obtain⟨⟨x,h0⟩,⟨y,h1⟩,_,_⟩:=pc_cells h;have k0:=World.cell?_setCell_same w ⟨p,0,none⟩ (.string a) h0;have k1:(w.setCell ⟨p,0,none⟩ (.string a)).cell? ⟨p,1,none⟩=some (.string y):=by rw[World.cell?_setCell_other _ _ _ _ (by intro hh;injection hh with _ h _;cases h),h1]
 refine⟨?_,World.cell?_setCell_same _ _ _ k1⟩;rw[World.cell?_setCell_other _ _ _ _ (by intro hh;injection hh with _ h _;cases h),k0]
theorem take_next (A:List Sg)(k:Nat)(h:k<A.length):A.take (k+1)=A.take k++[A[k]]:=List.take_succ_eq_append_getElem h
theorem low_nat (c:UInt8):((low c).toNat:Int)=if 65≤(c.toNat:Int)∧(c.toNat:Int)≤90 then(c.toNat:Int)+32 else(c.toNat:Int):=by
 have all: ∀m:Fin 256,((low (UInt8.ofNat m.val)).toNat:Int)=if 65≤(m.val:Int)∧(m.val:Int)≤90 then(m.val:Int)+32 else(m.val:Int):=by decide+kernel
 have h:=all ⟨c.toNat,c.toNat_lt⟩;simp only[UInt8.ofNat_toNat]at h;exact h
theorem pair_any (ao:Option Addr)(cap:Nat)(L:List Sg)(w:World)(hA:Hid (Sgs w ao L))(hc:L.length≤cap)(hl:L.length≤100000):
  Calls Tryz.prog 160 #[.slice ao L.length cap] w fun e w'=>PairE L w e w':=by
 obtain⟨m,hm⟩: ∃m,m=L.length:=⟨_,rfl⟩;have HM:=Lib.hid hm;rw[←hm]at hc hl ⊢;clear hm;go_enter Tryz.func160,Tryz.ntmps160;go_wp2_with fail;go_loopw [4] (fun iv wr=> ∃i:Nat,i≤m∧iv= .int .i64 (i:Int)∧Hid (∀j (h:j<L.length),j<i→eqS L[j]=false)∧Below w.heap.size w wr∧Hid (PC wr w.heap.size)) (fun iv _=>m- (intOf iv).toNat);case atStart=>exact⟨0,Nat.zero_le _,rfl,fun j _ h=>by omega,(Below.refl _ _).alloc (Nat.le_refl _) _,⟨_,_,heap_alloc_new w _⟩⟩
 case round=>
  obtain⟨i,hi,rfl,hP,hB,hC⟩:=hrel;have hsz:=hB.size;obtain⟨wo,rfl⟩: ∃x,x=wr:=⟨_,rfl⟩;have HPLT:Hid (w.heap.size<wo.heap.size):=by obtain⟨x,y,h⟩:=hC.out;exact bld.lt_of_heap h
  by_cases hlt:i<m
  ·have hlt':(i:Int)<(m:Int):=(by omega);have hil:i<L.length:=(by rw[←HM.out];exact hlt);obtain⟨b,o,hao,hc0,hc1⟩:=hA.out i hil;subst hao;have hcc0:=(hB.cell (World.block_lt_of_cell? w _ hc0)).trans hc0;have hcc1:=(hB.cell (World.block_lt_of_cell? w _ hc1)).trans hc1;have HNX:Hid (eqS L[i]=false→ ∀j (h:j<L.length),j<i+1→eqS L[j]=false):=by
    intro h j hj hji;by_cases e:j=i
    ·subst e;exact h
    ·exact hP.out j hj (by omega)
   have HSP:Hid (eqS L[i]=true→L=L.take i++(61,true)::L.drop (i+1)):=fun h=>split_at hil h;generalize L[i]=x at hcc0 hcc1 HNX HSP;obtain⟨c,bare⟩:=x;simp only at hcc0 hcc1;clear hc0 hc1;have hcn:=c.toNat_lt;cases bare with
   | false=>
    have HN:=Lib.hid (HNX.out rfl);clear HNX HSP;go_wp2_with fail;go_roundw;case rel=>exact⟨i+1,by omega,by go_num,HN,hB,hC⟩
    case measure=>simp[intOf];omega
   | true=>
    by_cases h61:(c.toNat:Int)=61
    ·have q:((c.toNat:Int)==61)=true:=(by rw[beq_iff_eq];exact h61);have hc61:=u8_eq (n:=61) (by omega) h61;subst hc61;have HS:=Lib.hid (HSP.out rfl);have q2:((i:Int)==(m:Int))=false:=(by rw[beq_eq_false_iff_ne];omega);have HPV:Hid (pairS L=partV (trim (L.take i)) (trim (L.drop (i+1)))):=(by have h:=HS.out;show pairS L=_;rw[h,pairS_at _ _ (fun x hx=>by obtain⟨j,hj,rfl⟩:=List.mem_iff_getElem.1 hx;rw[List.length_take]at hj;rw[List.getElem_take];exact hP.out j (by omega) (by omega))];rw[←h];rfl);clear HNX HSP HS h61;have hl1:(L.take i).length=i:=(by rw[List.length_take];omega);have hl2:(L.drop (i+1)).length=m- (i+1):=(by rw[List.length_drop,HM.out]);have CT1:=trim_any (some ⟨b,o,none⟩) cap (L.take i) wo (Lib.hid (sgs_take (sgs_below hA.out hB) i)) (by omega) (by omega);rw[hl1]at CT1;have CT2:Hid (∀ao' cap',Sgs wo ao' (L.drop (i+1))→(L.drop (i+1)).length≤cap'→Calls Tryz.prog 159 #[.slice ao' (m- (i+1)) cap'] wo fun e w'=>TrimE (L.drop (i+1)) wo e w'):=(by intro ao' cap' h1 h2;have:=trim_any ao' cap' (L.drop (i+1)) wo (Lib.hid h1) h2 (by omega);rw[hl2]at this;exact this);obtain⟨A,hAe⟩: ∃A,A=trim (L.take i):=⟨_,rfl⟩;obtain⟨V,hVe⟩: ∃V,V=trim (L.drop (i+1)):=⟨_,rfl⟩;obtain⟨n1,hn1⟩: ∃n,n=A.length:=⟨_,rfl⟩;obtain⟨n2,hn2⟩: ∃n,n=V.length:=⟨_,rfl⟩;have hAl:=trim_len (L.take i);have hVl:=trim_len (L.drop (i+1));rw[←hAe,hl1]at hAl;rw[←hVe,hl2]at hVl;have hn1l:n1≤100000:=(by omega);have hn2l:n2≤100000:=(by omega);have HT1:Hid (Calls Tryz.prog 159 #[.slice (some ⟨b,o,none⟩) i cap] wo fun e w'=>wo=w'∧ ∃ao cap,e= .returned (.slice ao n1 cap)∧Sgs wo ao A):=(by refine CT1.mono ?_;rintro e w' ⟨h1,ao,cap,h2,h3,h4⟩;rw[←hAe]at h2 h4;exact⟨h1,ao,cap,by rw[h2,hn1],h4⟩);have HT2:Hid (∀ao' cap',Sgs wo ao' (L.drop (i+1))→(L.drop (i+1)).length≤cap'→Calls Tryz.prog 159 #[.slice ao' (m- (i+1)) cap'] wo fun e w'=>wo=w'∧ ∃ao cap,e= .returned (.slice ao n2 cap)∧Sgs wo ao V):=(by intro ao' cap' h1 h2;refine(CT2.out ao' cap' h1 h2).mono ?_;rintro e w' ⟨h1,ao,cap,h2,h3,h4⟩;rw[←hVe]at h2 h4;exact⟨h1,ao,cap,by rw[h2,hn2],h4⟩);have HPV:Hid (pairS L=partV A V):=(by show pairS L=_;rw[HPV.out,hAe,hVe]);have HN1:=Lib.hid hn1;have HN2:=Lib.hid hn2;have hi1:i+1≤m:=(by omega);have hi1':(i:Int)+1≤(m:Int):=(by omega);have HSD:=Lib.hid (sgs_cut (lo:=i+1) (sgs_below hA.out hB) (by rw[←HM.out];exact hc));have HLM:Hid (L.length=m):=HM.out.symm;clear CT1 hl1 CT2 hAe hVe hn1 hn2 hAl hVl hP;go_wp2_with fail;refine HT1.out.mono ?_;rintro e w2 ⟨rfl,ao1,cap1,rfl,hS1⟩;have HS1:=Lib.hid hS1;clear hS1 hcc0 hcc1 HT1;go_wp2_with fail;case' inl=>refine(HT2.out _ _ (by have h0:L.drop (i+1)=[]:=List.drop_eq_nil_of_le (by rw[HLM.out];omega);rw[h0];intro j hj;simp at hj) (by rw[List.length_drop,HLM.out];omega)).mono ?_
     case' inr=>refine(HT2.out _ _ (by have h:=HSD.out;rw[cutA_some,if_neg (by assumption)]at h;exact h) (by rw[List.length_drop,HLM.out];omega)).mono ?_
     all_goals
      clear HT2 HSD hl2;rintro e w2 ⟨rfl,ao2,cap2,rfl,hS2⟩;have HS2:=Lib.hid hS2;clear hS2;go_wp2_with fail;go_loopw [7,8,9] (fun tv kv _ wq=> ∃k:Nat,k≤n1∧kv= .int .i64 (k:Int)∧Hid (BRow wq wo.heap.size tv (lowL ((A.take k).map (·.1))))∧Hid (∀x∈A.take k,x.2=true)∧Below wo.heap.size wo wq) (fun _ kv _ _=>n1- (intOf kv).toNat);case atStart=>exact⟨0,Nat.zero_le _,rfl,brow_made wo _ (Nat.le_refl _),fun x hx=>by simp at hx,(Below.refl _ _).alloc (Nat.le_refl _) _⟩
      case round=>
       obtain⟨k,hk,rfl,hR,hU,hBk⟩:=hrel;have hszk:=hBk.size;have HBW:=Lib.hid (hB.trans (hBk.mono hsz));have HPC:=Lib.hid (pc_below2 hC.out hBk);by_cases hkn:k<n1
       ·have hkn':(k:Int)<(n1:Int):=(by omega);have hkl:k<A.length:=(by rw[←HN1.out];exact hkn);obtain⟨b3,o3,hao,d0,d1⟩:=(sgs_below HS1.out hBk) k hkl;subst hao;have HTK:=take_next A k hkl;have HMEM:Hid (A[k].2=false→partV A V=none):=fun h=>partV_bare (List.getElem_mem hkl) h;generalize A[k]=x at d0 d1 HTK HMEM;obtain⟨c,bare⟩:=x;simp only at d0 d1;have hcn:=c.toNat_lt;cases bare with
        | false=>
         have HNO:=Lib.hid (HPV.out.trans (HMEM.out rfl));obtain⟨⟨x0,c0⟩,⟨y0,c1⟩,f0,f1⟩:=pc_cells HPC.out;clear HTK HMEM;obtain⟨e0,e1⟩:=pc_store HPC.out ⟨#[]⟩ ⟨#[]⟩;go_wp2_with fail
         (try simp only[Exit.inBlock,Exit.then])
         refine bodyPost_ret (v:= .tuple #[.agg #[.string ⟨#[]⟩,.string ⟨#[]⟩],.bool false]) (by rw[results_cell_tmp rfl];go_simp) rfl ?_;exact pairE_none HNO.out ((HBW.out.setCell (p:=⟨w.heap.size,0,none⟩) (Nat.le_refl _) _).setCell (p:=⟨w.heap.size,1,none⟩) (Nat.le_refl _) _)
        | true=>
         obtain⟨aoT,mT,capT,rfl,hmT⟩:=brow_form hR.out;obtain⟨aoT2,mT2,capT2,w3,hap,hR3,hB3⟩:=brow_app (low c) hR.out (by unfold lowL;rw[List.length_map,List.length_map,List.length_take];omega) hszk;have HR3:Hid (BRow w3 wo.heap.size (.slice aoT2 mT2 capT2) (lowL ((A.take (k+1)).map (·.1)))):=(by show BRow _ _ _ _;rw[HTK];unfold lowL at hR3 ⊢;rw[List.map_append,List.map_append];exact hR3);have HU3:Hid (∀x∈A.take (k+1),x.2=true):=by
          show∀x∈_,_;rw[HTK];intro x hx;rcases List.mem_append.1 hx with h | h
          ·exact hU.out x h
          ·simp only[List.mem_singleton]at h;rw[h]
         have HB3:=Lib.hid (hBk.trans (hB3));have hlow:((low c).toNat:Int)=if 65≤(c.toNat:Int)∧(c.toNat:Int)≤90 then(c.toNat:Int)+32 else(c.toNat:Int):=low_nat c;clear HTK HMEM hR3 hB3;by_cases h65:65≤(c.toNat:Int)
         ·by_cases h90:(c.toNat:Int)≤90
          ·rw[if_pos ⟨h65,h90⟩]at hlow;rw[hlow]at hap;have r1:IntKind.u8.wrap ((c.toNat:Int)+32)=(c.toNat:Int)+32:=IntWalk.u8_in _ (by omega);clear hlow;go_wp2_with (at_builtin;refine Lib.wpList_append_run _ rfl _ _ _ _ rfl _ _ rfl rfl _ _ hap ?_);go_roundw;case rel=>exact⟨k+1,by omega,by go_num,HR3,HU3,HB3.out⟩
           case measure=>simp[intOf];omega
          ·rw[if_neg (by omega)]at hlow;rw[hlow]at hap;clear hlow;go_wp2_with (at_builtin;refine Lib.wpList_append_run _ rfl _ _ _ _ rfl _ _ rfl rfl _ _ hap ?_);go_roundw;case rel=>exact⟨k+1,by omega,by go_num,HR3,HU3,HB3.out⟩
           case measure=>simp[intOf];omega
         ·rw[if_neg (by omega)]at hlow;rw[hlow]at hap;clear hlow;go_wp2_with (at_builtin;refine Lib.wpList_append_run _ rfl _ _ _ _ rfl _ _ rfl rfl _ _ hap ?_);go_roundw;case rel=>exact⟨k+1,by omega,by go_num,HR3,HU3,HB3.out⟩
          case measure=>simp[intOf];omega
       ·obtain rfl:k=n1:=(by omega);obtain⟨aoT,mT,capT,rfl,hmT⟩:=brow_form hR.out;have HRT:Hid (BRow wr wo.heap.size (.slice aoT mT capT) (lowL (A.map (·.1)))):=(by have h:=hR.out;rw[HN1.out,List.take_length]at h;exact h);have HUA:Hid (∀x∈A,x.2=true):=(by have h:=hU.out;rw[HN1.out,List.take_length]at h;exact h);obtain⟨wt,rfl⟩: ∃x,x=wr:=⟨_,rfl⟩;clear hR hU;go_wp2_with fail;go_loopw [10,11,12] (fun vv jv _ wq=> ∃j:Nat,j≤n2∧jv= .int .i64 (j:Int)∧Hid (BRow wq wt.heap.size vv ((V.take j).map (·.1)))∧Hid (∀i (h:i<V.length),i<j→badAt i V[i]=false)∧Below wt.heap.size wt wq) (fun _ jv _ _=>n2- (intOf jv).toNat);case atStart=>exact⟨0,Nat.zero_le _,rfl,brow_made wt _ (Nat.le_refl _),fun i _ h=>by omega,(Below.refl _ _).alloc (Nat.le_refl _) _⟩
        case round=>
         obtain⟨j,hj,rfl,hR,hU,hBj⟩:=hrel;have hszj:=hBj.size;have HBW2:=Lib.hid (hBk.trans (hBj.mono hszk));have HBW3:=Lib.hid (hB.trans (HBW2.out.mono hsz));have HPC2:=Lib.hid (pc_below2 HPC.out hBj);by_cases hjn:j<n2
         ·have hjn':(j:Int)<(n2:Int):=(by omega);have hjl:j<V.length:=(by rw[←HN2.out];exact hjn);obtain⟨b4,o4,hao,d0,d1⟩:=(sgs_below HS2.out HBW2.out) j hjl;subst hao;have HTK:=take_next V j hjl;have HBADN:Hid (badAt j V[j]=true→partV A V=none):=fun h=>partV_bad hjl h;have HBADY:Hid (badAt j V[j]=false→ ∀i (h:i<V.length),i<j+1→badAt i V[i]=false):=by
           intro h i hi hij;by_cases e:i=j
           ·subst e;exact h
           ·exact hU.out i hi (by omega)
          generalize V[j]=x at d0 d1 HTK HBADN HBADY;obtain⟨c,bare⟩:=x;simp only at d0 d1;have hcn:=c.toNat_lt;obtain⟨aoV,mV,capV,rfl,hmV⟩:=brow_form hR.out;obtain⟨aoV2,mV2,capV2,w3,hap,hR3,hB3⟩:=brow_app c hR.out (by rw[List.length_map,List.length_take];omega) hszj;have HR3:Hid (BRow w3 wt.heap.size (.slice aoV2 mV2 capV2) ((V.take (j+1)).map (·.1))):=(by show BRow _ _ _ _;rw[HTK,List.map_append];exact hR3);have HB3:=Lib.hid (hBj.trans hB3);clear HTK hR3 hB3;cases bare with
          | false=>
           have HB:=Lib.hid (HBADY.out rfl);clear HBADY HBADN;go_wp2_with (at_builtin;refine Lib.wpList_append_run _ rfl _ _ _ _ rfl _ _ rfl rfl _ _ hap ?_);go_roundw;case rel=>exact⟨j+1,by omega,by go_num,HR3,HB,HB3.out⟩
           case measure=>simp[intOf];omega
          | true=>
           by_cases hbad:bad c=true
           ·have HNO:=Lib.hid (HPV.out.trans (HBADN.out (by show(true&&(bad c||_))=true;rw[hbad];rfl)));have hb3:=(u8_bad c).1 hbad;clear HBADY HBADN hbad hap;rcases hb3 with h | h | h
            ·have q1:((c.toNat:Int)==34)=true:=(by rw[beq_iff_eq];exact h);clear h;obtain⟨⟨x0,c0⟩,⟨y0,c1⟩,f0,f1⟩:=pc_cells HPC2.out;obtain⟨e0,e1⟩:=pc_store HPC2.out ⟨#[]⟩ ⟨#[]⟩;go_wp2_with fail
             (try simp only[Exit.inBlock,Exit.then])
             refine bodyPost_ret (v:= .tuple #[.agg #[.string ⟨#[]⟩,.string ⟨#[]⟩],.bool false]) (by rw[results_cell_tmp rfl];go_simp) rfl ?_;exact pairE_none HNO.out ((HBW3.out.setCell (p:=⟨w.heap.size,0,none⟩) (Nat.le_refl _) _).setCell (p:=⟨w.heap.size,1,none⟩) (Nat.le_refl _) _)
            ·have q1:((c.toNat:Int)==34)=false:=(by rw[beq_eq_false_iff_ne];omega);have q2:((c.toNat:Int)==60)=true:=(by rw[beq_iff_eq];exact h);clear h;obtain⟨⟨x0,c0⟩,⟨y0,c1⟩,f0,f1⟩:=pc_cells HPC2.out;obtain⟨e0,e1⟩:=pc_store HPC2.out ⟨#[]⟩ ⟨#[]⟩;go_wp2_with fail
             (try simp only[Exit.inBlock,Exit.then])
             refine bodyPost_ret (v:= .tuple #[.agg #[.string ⟨#[]⟩,.string ⟨#[]⟩],.bool false]) (by rw[results_cell_tmp rfl];go_simp) rfl ?_;exact pairE_none HNO.out ((HBW3.out.setCell (p:=⟨w.heap.size,0,none⟩) (Nat.le_refl _) _).setCell (p:=⟨w.heap.size,1,none⟩) (Nat.le_refl _) _)
            ·have q1:((c.toNat:Int)==34)=false:=(by rw[beq_eq_false_iff_ne];omega);have q2:((c.toNat:Int)==60)=false:=(by rw[beq_eq_false_iff_ne];omega);have q3:((c.toNat:Int)==62)=true:=(by rw[beq_iff_eq];exact h);clear h;obtain⟨⟨x0,c0⟩,⟨y0,c1⟩,f0,f1⟩:=pc_cells HPC2.out;obtain⟨e0,e1⟩:=pc_store HPC2.out ⟨#[]⟩ ⟨#[]⟩;go_wp2_with fail
             (try simp only[Exit.inBlock,Exit.then])
             refine bodyPost_ret (v:= .tuple #[.agg #[.string ⟨#[]⟩,.string ⟨#[]⟩],.bool false]) (by rw[results_cell_tmp rfl];go_simp) rfl ?_;exact pairE_none HNO.out ((HBW3.out.setCell (p:=⟨w.heap.size,0,none⟩) (Nat.le_refl _) _).setCell (p:=⟨w.heap.size,1,none⟩) (Nat.le_refl _) _)
           ·have hb3: ¬ ((c.toNat:Int)=34∨(c.toNat:Int)=60∨(c.toNat:Int)=62):=fun h=>hbad ((u8_bad c).2 h);have hbad':bad c=false:=(by simpa using hbad);have q1:((c.toNat:Int)==34)=false:=(by rw[beq_eq_false_iff_ne];omega);have q2:((c.toNat:Int)==60)=false:=(by rw[beq_eq_false_iff_ne];omega);have q3:((c.toNat:Int)==62)=false:=(by rw[beq_eq_false_iff_ne];omega);clear hb3 hbad;by_cases h35:(c.toNat:Int)=35
            ·have q4:((c.toNat:Int)==35)=true:=(by rw[beq_iff_eq];exact h35);have hc35:c=35:=u8_eq (n:=35) (by omega) h35;clear h35;by_cases hj0:j=0
             ·have HNO:=Lib.hid (HPV.out.trans (HBADN.out (by show(true&&(bad c||(decide (c=35)&&decide (j=0))))=true;rw[hbad',hc35,hj0];rfl)));have q5:((j:Int)==0)=true:=(by rw[beq_iff_eq];omega);clear HBADY HBADN hap hj0 hc35 hbad';obtain⟨⟨x0,c0⟩,⟨y0,c1⟩,f0,f1⟩:=pc_cells HPC2.out;obtain⟨e0,e1⟩:=pc_store HPC2.out ⟨#[]⟩ ⟨#[]⟩;go_wp2_with fail
              (try simp only[Exit.inBlock,Exit.then])
              refine bodyPost_ret (v:= .tuple #[.agg #[.string ⟨#[]⟩,.string ⟨#[]⟩],.bool false]) (by rw[results_cell_tmp rfl];go_simp) rfl ?_;exact pairE_none HNO.out ((HBW3.out.setCell (p:=⟨w.heap.size,0,none⟩) (Nat.le_refl _) _).setCell (p:=⟨w.heap.size,1,none⟩) (Nat.le_refl _) _)
             ·have HB:=Lib.hid (HBADY.out (by show(true&&(bad c||(decide (c=35)&&decide (j=0))))=false;rw[hbad',decide_eq_false hj0];simp));have q5:((j:Int)==0)=false:=(by rw[beq_eq_false_iff_ne];omega);clear HBADY HBADN hc35 hbad';go_wp2_with (at_builtin;refine Lib.wpList_append_run _ rfl _ _ _ _ rfl _ _ rfl rfl _ _ hap ?_);go_roundw;case rel=>exact⟨j+1,by omega,by go_num,HR3,HB,HB3.out⟩
              case measure=>simp[intOf];omega
            ·have q4:((c.toNat:Int)==35)=false:=(by rw[beq_eq_false_iff_ne];exact h35);have hc35:c≠35:=u8_ne (n:=35) (by omega) h35;have HB:=Lib.hid (HBADY.out (by show(true&&(bad c||(decide (c=35)&&decide (j=0))))=false;rw[hbad',decide_eq_false hc35];rfl));clear HBADY HBADN hc35 hbad' h35;go_wp2_with (at_builtin;refine Lib.wpList_append_run _ rfl _ _ _ _ rfl _ _ rfl rfl _ _ hap ?_);go_roundw;case rel=>exact⟨j+1,by omega,by go_num,HR3,HB,HB3.out⟩
             case measure=>simp[intOf];omega
         ·obtain rfl:j=n2:=(by omega);obtain⟨aoV,mV,capV,rfl,hmV⟩:=brow_form hR.out;have HRV:Hid (BRow wr wt.heap.size (.slice aoV mV capV) (V.map (·.1))):=(by have h:=hR.out;rw[HN2.out,List.take_length]at h;exact h);have HEND:Hid (partV A V=if typeOK (lowL (A.map (·.1)))=true then some (lowL (A.map (·.1)),V.map (·.1))else none):=partV_end HUA.out (fun i hi=>hU.out i hi (by rw[HN2.out];exact hi));have HTT:=Lib.hid (brow_below HRT.out hBj);obtain⟨T,hT⟩: ∃T:ByteArray,(⟨(lowL (A.map (·.1))).toArray⟩:ByteArray)=T:=⟨_,rfl⟩;obtain⟨Q,hQ⟩: ∃Q:ByteArray,(⟨(V.map (·.1)).toArray⟩:ByteArray)=Q:=⟨_,rfl⟩;have hty:(convert 131 9 (.slice aoT mT capT)).run Tryz.prog wr.drew= .ok (.string T) wr.drew:=(by rw[←hT];exact brow_str (w:=wr.drew) (brow_same HTT.out (fun _ _ _=>rfl)));have hst:(convert 131 9 (.slice aoV mV capV)).run Tryz.prog wr.drew= .ok (.string Q) wr.drew:=(by rw[←hQ];exact brow_str (w:=wr.drew) (brow_same HRV.out (fun _ _ _=>rfl)));obtain⟨⟨x0,c0⟩,⟨y0,c1⟩,f0,f1⟩:=pc_cells HPC2.out;have HAF:Hid (∀a b:Value,(convert 131 9 (.slice aoT mT capT)).run Tryz.prog ((wr.drew.setCell ⟨w.heap.size,0,none⟩ a).setCell ⟨w.heap.size,1,none⟩ b)= .ok (.string T) ((wr.drew.setCell ⟨w.heap.size,0,none⟩ a).setCell ⟨w.heap.size,1,none⟩ b)∧(convert 131 9 (.slice aoV mV capV)).run Tryz.prog ((wr.drew.setCell ⟨w.heap.size,0,none⟩ a).setCell ⟨w.heap.size,1,none⟩ b)= .ok (.string Q) ((wr.drew.setCell ⟨w.heap.size,0,none⟩ a).setCell ⟨w.heap.size,1,none⟩ b)):=by
           intro a b';have hp:w.heap.size<wo.heap.size:=HPLT.out;have hq:=HBW.out.size;refine⟨?_,?_⟩
           ·rw[←hT];exact brow_str (brow_same HTT.out (fun k hk _=>by rw[Below.heap_setCell _ _ _ _ (by show k≠w.heap.size;omega),Below.heap_setCell _ _ _ _ (by show k≠w.heap.size;omega)];rfl))
           ·rw[←hQ];exact brow_str (brow_same HRV.out (fun k hk _=>by rw[Below.heap_setCell _ _ _ _ (by show k≠w.heap.size;omega),Below.heap_setCell _ _ _ _ (by show k≠w.heap.size;omega)];rfl))
          have HTY:Hid (∀W,Calls Tryz.prog 194 #[.string T] W fun e w'=>e= .returned (.bool (typeOK T.data.toList))∧W=w'):=fun W=>type_any T W (by rw[←kt.size_len,←hT];show(lowL (A.map _)).length≤_;unfold lowL;rw[List.length_map,List.length_map,←HN1.out];omega);obtain⟨e0,e1⟩:=pc_store (w:=wr.drew) HPC2.out T Q;have HTd:=Lib.hid hT;have HQd:=Lib.hid hQ;clear hT hQ;go_wp2_with fail;go_region_held3 (fun W=>(convert 131 9 (.slice aoT mT capT)).run Tryz.prog W= .ok (.string T) W∧(convert 131 9 (.slice aoV mV capV)).run Tryz.prog W= .ok (.string Q) W) (first | exact⟨hty,hst⟩ | exact HAF.out _ _)
           (first | (go_at_call 194;refine(HTY.out _).mono ?_;rintro e w' ⟨rfl,rfl⟩) | skip)
          all_goals
           go_wp2_with fail
           (try simp only[Exit.inBlock,Exit.then])
           refine bodyPost_ret (v:= .tuple #[.agg #[.string T,.string Q],.bool (typeOK T.data.toList)]) (by rw[results_cell_tmp rfl];go_simp) rfl ?_;refine⟨(HBW3.out.drew.setCell (p:=⟨w.heap.size,0,none⟩) (Nat.le_refl _) _).setCell (p:=⟨w.heap.size,1,none⟩) (Nat.le_refl _) _,?_⟩;rw[HPV.out,HEND.out];have eT:T.data.toList=lowL (A.map (·.1)):=(by rw[←HTd.out]);rw[eT];cases htyp:typeOK (lowL (A.map (·.1)))with
           | true=>rw[if_pos rfl];show _=Ending.returned (.tuple #[.agg #[.string ⟨(lowL (A.map (·.1))).toArray⟩,.string ⟨(V.map (·.1)).toArray⟩],.bool true]);rw[HTd.out,HQd.out]
           | false=>rw[if_neg (by simp)];exact⟨T,Q,rfl⟩
    ·have q:((c.toNat:Int)==61)=false:=(by rw[beq_eq_false_iff_ne];exact h61);have HN:=Lib.hid (HNX.out (by show(true&&decide (c=61))=false;have h:c≠61:=u8_ne (n:=61) (by omega) h61;rw[decide_eq_false h];rfl));clear HNX HSP h61;go_wp2_with fail;go_roundw;case rel=>exact⟨i+1,by omega,by go_num,HN,hB,hC⟩
     case measure=>simp[intOf];omega
  ·obtain rfl:i=m:=(by omega);have q2:((i:Int)==(i:Int))=true:=(by rw[beq_iff_eq]);have HN:Hid (pairS L=none):=pairS_no (fun x hx=>by obtain⟨j,hj,rfl⟩:=List.mem_iff_getElem.1 hx;exact hP.out j hj (by rw[HM.out];exact hj));obtain⟨⟨x0,c0⟩,⟨y0,c1⟩,f0,f1⟩:=pc_cells hC.out;obtain⟨e0,e1⟩:=pc_store hC.out ⟨#[]⟩ ⟨#[]⟩;go_wp2_with fail
   (try simp only[Exit.inBlock,Exit.then])
   refine bodyPost_ret (v:= .tuple #[.agg #[.string ⟨#[]⟩,.string ⟨#[]⟩],.bool false]) (by rw[results_cell_tmp rfl];go_simp) rfl ?_;exact pairE_none HN.out ((hB.setCell (p:=⟨w.heap.size,0,none⟩) (Nat.le_refl _) _).setCell (p:=⟨w.heap.size,1,none⟩) (Nat.le_refl _) _)
end dnw
open Go.RowKit
namespace atw
open atp
def TB (w:World)(p:Nat)(nm:ByteArray)(syn:Int)(sg:Bool):Prop:=w.heap[p]? =some (.cells #[.string nm,.int .i64 syn,.bool sg] 108 (0,0))
theorem tb_new (w:World)(nm:ByteArray)(syn:Int)(sg:Bool):TB (w.alloc (.cells #[.string nm,.int .i64 syn,.bool sg] 108)) w.heap.size nm syn sg:=heap_alloc_new w _
theorem tb_cells {w:World}{p:Nat}{nm:ByteArray}{syn:Int}{sg:Bool}(h:TB w p nm syn sg):w.cell? ⟨p,0,none⟩=some (.string nm)∧w.cell? ⟨p,1,none⟩=some (.int .i64 syn)∧w.cell? ⟨p,2,none⟩=some (.bool sg):=⟨by rw[Lib.cell_of_heap h];rfl,by rw[Lib.cell_of_heap h];rfl,by rw[Lib.cell_of_heap h];rfl⟩
theorem tb_below {w w':World}{p:Nat}{nm:ByteArray}{syn:Int}{sg:Bool}(h:TB w p nm syn sg)(hb:Below w.heap.size w w'):TB w' p nm syn sg:=(hb.block p (kt.bld_lt h)).trans h
def bothL (syn:Int)(a b:List UInt8):List UInt8 × List UInt8 × Int:=if(normL syn a).2≠0 then([],[],(normL syn a).2)else if(normL syn b).2≠0 then([],[],(normL syn b).2)else((normL syn a).1,(normL syn b).1,0)
def eqL (syn:Int)(a b:List UInt8):Bool × Int:=(decide ((bothL syn a b).2.2=0)&&decide ((bothL syn a b).1=(bothL syn a b).2.1),(bothL syn a b).2.2)
theorem both_any (nm:ByteArray)(syn:Int)(sg:Bool)(a b:ByteArray)(w:World)(ha:a.size≤140737488351232)(hb:b.size≤140737488351232)(hE:Hid (prw.Env w))(hT:Hid (dnw.Tabs w)):
  Calls Tryz.prog 201 #[.agg #[.string nm,.int .i64 syn,.bool sg],.string a,.string b] w fun e w'=>e= .returned (.tuple #[.string (bs (bothL syn a.data.toList b.data.toList).1),.string (bs (bothL syn a.data.toList b.data.toList).2.1),.int .i64 (bothL syn a.data.toList b.data.toList).2.2])∧Below w.heap.size w w':=by
 obtain⟨W0,hW0⟩: ∃W,w.alloc (.cells #[.string nm,.int .i64 syn,.bool sg] 108)=W:=⟨_,rfl⟩;have hB0:Below w.heap.size w W0:=by rw[←hW0];exact(Below.refl _ _).alloc (Nat.le_refl _) _
 have HB0:=Lib.hid hB0;have hw0:w.heap.size≤W0.heap.size:=hB0.size;have HTB0:Hid (TB W0 w.heap.size nm syn sg):=by rw[←hW0];exact tb_new w nm syn sg
 obtain⟨k0,k1,k2⟩:=tb_cells HTB0.out;have HE0:=Lib.hid (prw.env_below hE.out hB0);have HT0:=Lib.hid (dnw.tabs_below hT.out hB0);have HNA:Hid (∀w,prw.Env w→dnw.Tabs w→Calls Tryz.prog 200 #[.agg #[.string nm,.int .i64 syn,.bool sg],.string a] w fun e w'=>e= .returned (normV (normL syn a.data.toList))∧Below w.heap.size w w'):=fun w h1 h2=>normal_any nm syn sg a w ha (Lib.hid h1) (Lib.hid h2);have HNB:Hid (∀w,prw.Env w→dnw.Tabs w→Calls Tryz.prog 200 #[.agg #[.string nm,.int .i64 syn,.bool sg],.string b] w fun e w'=>e= .returned (normV (normL syn b.data.toList))∧Below w.heap.size w w'):=fun w h1 h2=>normal_any nm syn sg b w hb (Lib.hid h1) (Lib.hid h2);unfold bothL;obtain⟨na,hna⟩: ∃u,normL syn a.data.toList=u:=⟨_,rfl⟩;obtain⟨nb,hnb⟩: ∃u,normL syn b.data.toList=u:=⟨_,rfl⟩;rw[hna]at HNA ⊢;rw[hnb]at HNB ⊢;clear hna hnb hB0;obtain⟨u,ea⟩:=na;obtain⟨v,eb⟩:=nb;have HNA2:Hid (∀w,prw.Env w→dnw.Tabs w→Calls Tryz.prog 200 #[.agg #[.string nm,.int .i64 syn,.bool sg],.string a] w fun e w'=>e= .returned (.tuple #[.string (bs u),.int .i64 ea])∧Below w.heap.size w w'):=HNA;have HNB2:Hid (∀w,prw.Env w→dnw.Tabs w→Calls Tryz.prog 200 #[.agg #[.string nm,.int .i64 syn,.bool sg],.string b] w fun e w'=>e= .returned (.tuple #[.string (bs v),.int .i64 eb])∧Below w.heap.size w w'):=HNB;clear HNA HNB;by_cases hea:ea=0
 ·have q:(ea !=0)=false:=by rw[bne_eq_false_iff_eq];exact hea
  rw[if_neg (not_not_intro hea)];clear hea;by_cases heb:eb=0
  ·have q2:(eb !=0)=false:=(by rw[bne_eq_false_iff_eq];exact heb);rw[if_neg (not_not_intro heb)];clear heb;go_enter Tryz.func201,Tryz.ntmps201;go_wp2_with fail;refine(HNA2.out _ HE0.out HT0.out).mono ?_;rintro e w1 ⟨rfl,hB1⟩;have HB1:=Lib.hid (HB0.out.trans (hB1.mono hw0));have HE1:=Lib.hid (prw.env_below HE0.out hB1);have HT1:=Lib.hid (dnw.tabs_below HT0.out hB1);obtain⟨m0,m1,m2⟩:=tb_cells (tb_below HTB0.out hB1);clear hB1 hW0 k0 k1 k2;go_wp2_with fail;refine(HNB2.out _ HE1.out HT1.out).mono ?_;rintro e w2 ⟨rfl,hB2⟩;have HB2:=Lib.hid (HB1.out.trans (hB2.mono HB1.out.size));clear hB2;go_wp2_with fail;go_ret3;exact⟨rfl,HB2.out⟩
  ·have q2:(eb !=0)=true:=(by rw[bne_iff_ne];exact heb);rw[if_pos heb];clear heb;go_enter Tryz.func201,Tryz.ntmps201;go_wp2_with fail;refine(HNA2.out _ HE0.out HT0.out).mono ?_;rintro e w1 ⟨rfl,hB1⟩;have HB1:=Lib.hid (HB0.out.trans (hB1.mono hw0));have HE1:=Lib.hid (prw.env_below HE0.out hB1);have HT1:=Lib.hid (dnw.tabs_below HT0.out hB1);obtain⟨m0,m1,m2⟩:=tb_cells (tb_below HTB0.out hB1);clear hB1 hW0 k0 k1 k2;go_wp2_with fail;refine(HNB2.out _ HE1.out HT1.out).mono ?_;rintro e w2 ⟨rfl,hB2⟩;have HB2:=Lib.hid (HB1.out.trans (hB2.mono HB1.out.size));clear hB2;go_wp2_with fail;go_ret3;exact⟨rfl,HB2.out⟩
 ·have q:(ea !=0)=true:=by rw[bne_iff_ne];exact hea
  rw[if_pos hea];clear hea;go_enter Tryz.func201,Tryz.ntmps201;go_wp2_with fail;refine(HNA2.out _ HE0.out HT0.out).mono ?_;rintro e w1 ⟨rfl,hB1⟩;have HB1:=Lib.hid (HB0.out.trans (hB1.mono hw0));clear hB1 hW0;go_wp2_with fail;go_ret3;exact⟨rfl,HB1.out⟩
theorem equal_any (nm:ByteArray)(syn:Int)(sg:Bool)(a b:ByteArray)(w:World)(ha:a.size≤140737488351232)(hb:b.size≤140737488351232)(hE:Hid (prw.Env w))(hT:Hid (dnw.Tabs w)):
  Calls Tryz.prog 148 #[.agg #[.string nm,.int .i64 syn,.bool sg],.string a,.string b] w fun e w'=>e= .returned (.tuple #[.bool (eqL syn a.data.toList b.data.toList).1,.int .i64 (eqL syn a.data.toList b.data.toList).2])∧Below w.heap.size w w':=by
 obtain⟨W0,hW0⟩: ∃W,w.alloc (.cells #[.string nm,.int .i64 syn,.bool sg] 108)=W:=⟨_,rfl⟩;have hB0:Below w.heap.size w W0:=by rw[←hW0];exact(Below.refl _ _).alloc (Nat.le_refl _) _
 have HB0:=Lib.hid hB0;have hw0:w.heap.size≤W0.heap.size:=hB0.size;have HTB0:Hid (TB W0 w.heap.size nm syn sg):=by rw[←hW0];exact tb_new w nm syn sg
 obtain⟨k0,k1,k2⟩:=tb_cells HTB0.out;have HE0:=Lib.hid (prw.env_below hE.out hB0);have HT0:=Lib.hid (dnw.tabs_below hT.out hB0);have HBO:Hid (∀w,prw.Env w→dnw.Tabs w→Calls Tryz.prog 201 #[.agg #[.string nm,.int .i64 syn,.bool sg],.string a,.string b] w fun e w'=>e= .returned (.tuple #[.string (bs (bothL syn a.data.toList b.data.toList).1),.string (bs (bothL syn a.data.toList b.data.toList).2.1),.int .i64 (bothL syn a.data.toList b.data.toList).2.2])∧Below w.heap.size w w'):=fun w h1 h2=>both_any nm syn sg a b w ha hb (Lib.hid h1) (Lib.hid h2);unfold eqL;generalize bothL syn a.data.toList b.data.toList=bo at HBO ⊢;obtain⟨u,v,er⟩:=bo;simp only at HBO ⊢;have heq:=bs_beq u v;clear hB0;obtain⟨c,hc⟩: ∃c,decide (u=v)=c:=⟨_,rfl⟩;rw[hc]at heq ⊢;clear hc;by_cases her:er=0
 ·have q:(er==0)=true:=by rw[beq_iff_eq];exact her
  rw[decide_eq_true her];clear her;go_enter Tryz.func148,Tryz.ntmps148;go_wp2_with fail;refine(HBO.out _ HE0.out HT0.out).mono ?_;rintro e w1 ⟨rfl,hB1⟩;have HB1:=Lib.hid (HB0.out.trans (hB1.mono hw0));clear hB1 hW0;go_wp2_with fail;go_ret2;exact⟨rfl,HB1.out⟩
 ·have q:(er==0)=false:=by rw[beq_eq_false_iff_ne];exact her
  rw[decide_eq_false her];clear her;go_enter Tryz.func148,Tryz.ntmps148;go_wp2_with fail;refine(HBO.out _ HE0.out HT0.out).mono ?_;rintro e w1 ⟨rfl,hB1⟩;have HB1:=Lib.hid (HB0.out.trans (hB1.mono hw0));clear hB1 hW0;go_wp2_with fail;go_ret2;exact⟨rfl,HB1.out⟩
end atw
namespace ord
open Go.Lib
theorem u8_trans {a b c:UInt8}(h:a<b)(k:b<c):a<c:=by have h1:=UInt8.lt_iff_toNat_lt.1 h;have h2:=UInt8.lt_iff_toNat_lt.1 k;exact UInt8.lt_iff_toNat_lt.2 (by omega)
theorem cmp_trans: ∀ {a b c:List UInt8},compareBytes a b= -1→compareBytes b c= -1→compareBytes a c= -1
 | [],[],_,h,_=>by cases h
 | [],_::_,[],_,h=>by cases h
 | [],_::_,_::_,_,_=>rfl
 | _::_,[],_,h,_=>by cases h
 | _::_,_::_,[],_,h=>by cases h
 | a::s,b::t,c::u,h,k=>by
  rcases cmp_cases a b with h1 | h1 | rfl
  ·rcases cmp_cases b c with k1 | k1 | rfl
   ·exact cmp_lt (u8_trans h1 k1) _ _
   ·rw[cmp_gt k1]at k;cases k
   ·exact cmp_lt h1 _ _
  ·rw[cmp_gt h1]at h;cases h
  ·rcases cmp_cases a c with k1 | k1 | rfl
   ·exact cmp_lt k1 _ _
   ·rw[cmp_gt k1]at k;cases k
   ·rw[cmp_same]at h k ⊢;exact cmp_trans h k
end ord
namespace ord
open Go.Lib
theorem less_cmp: ∀a b:List UInt8,Op.bytesLess a b=decide (compareBytes a b= -1)
 | [],[]=>rfl
 | [],_::_=>rfl
 | _::_,[]=>rfl
 | a::s,b::t=>by
  rcases cmp_cases a b with h | h | rfl
  ·rw[cmp_lt h];simp[Op.bytesLess,h]
  ·rw[cmp_gt h];have hn: ¬a<b:=(by intro h';have h1:=UInt8.lt_iff_toNat_lt.1 h;have h2:=UInt8.lt_iff_toNat_lt.1 h';omega);have hne: ¬a=b:=(by rintro rfl;exact absurd (UInt8.lt_iff_toNat_lt.1 h) (by omega));simp[Op.bytesLess,hn,hne]
  ·rw[cmp_same,←less_cmp s t];simp[Op.bytesLess]
theorem cmp_zero: ∀a b:List UInt8,compareBytes a b=0↔a=b
 | [],[]=>by simp[compareBytes]
 | [],_::_=>by simp[compareBytes]
 | _::_,[]=>by simp[compareBytes]
 | a::s,b::t=>by
  rcases cmp_cases a b with h | h | rfl
  ·rw[cmp_lt h];have:a≠b:=(by rintro rfl;exact absurd (UInt8.lt_iff_toNat_lt.1 h) (by omega));simp[this]
  ·rw[cmp_gt h];have:a≠b:=(by rintro rfl;exact absurd (UInt8.lt_iff_toNat_lt.1 h) (by omega));simp[this]
  ·rw[cmp_same,cmp_zero s t];simp
theorem ways (a b:ByteArray):
  (compareBytes a.data.toList b.data.toList= -1∧Op.bytesLess a.toList b.toList=true∧(a.toList==b.toList)=false∧Op.bytesLess b.toList a.toList=false)∨
  (compareBytes a.data.toList b.data.toList=0∧a=b)∨
  (compareBytes a.data.toList b.data.toList=1∧Op.bytesLess a.toList b.toList=false∧(a.toList==b.toList)=false∧Op.bytesLess b.toList a.toList=true):=by
 rw[Lib.toList_data,Lib.toList_data,less_cmp,less_cmp,cmp_neg a.data.toList b.data.toList];rcases cmp_three a.data.toList b.data.toList with h | h | h
 ·left;refine⟨h,by rw[h];rfl,?_,by rw[h];rfl⟩;rw[beq_eq_false_iff_ne];intro e;have:=(cmp_zero _ _).2 e;omega
 ·right;left;refine⟨h,?_⟩;have e:=(cmp_zero _ _).1 h;cases a;cases b;simp at e;simp[e]
 ·right;right;refine⟨h,by rw[h];rfl,?_,by rw[h];rfl⟩;rw[beq_eq_false_iff_ne];intro e;have:=(cmp_zero _ _).2 e;omega
end ord
namespace atp
open atw
theorem both_ok {syn:Int}{a b:List UInt8}(ha:(normL syn a).2=0)(hb:(normL syn b).2=0):bothL syn a b=((normL syn a).1,(normL syn b).1,0):=by unfold bothL;rw[if_neg (not_not_intro ha),if_neg (not_not_intro hb)]
theorem both_err {syn:Int}{a b:List UInt8}:(bothL syn a b).2.2=0↔(normL syn a).2=0∧(normL syn b).2=0:=by
 unfold bothL;by_cases ha:(normL syn a).2=0
 ·by_cases hb:(normL syn b).2=0
  ·rw[if_neg (not_not_intro ha),if_neg (not_not_intro hb)];exact⟨fun _=>⟨ha,hb⟩,fun _=>rfl⟩
  ·rw[if_neg (not_not_intro ha),if_pos hb];exact⟨fun h=>absurd h hb,fun h=>absurd h.2 hb⟩
 ·rw[if_pos ha];exact⟨fun h=>absurd h ha,fun h=>absurd h.1 ha⟩
theorem eq_ok {syn:Int}{a b:List UInt8}(ha:(normL syn a).2=0)(hb:(normL syn b).2=0):eqL syn a b=(decide ((normL syn a).1=(normL syn b).1),0):=by unfold eqL;rw[both_ok ha hb];rfl
end atp
end Go.Proofs.YtmnpfkbjpeaemaaGreatDoor
