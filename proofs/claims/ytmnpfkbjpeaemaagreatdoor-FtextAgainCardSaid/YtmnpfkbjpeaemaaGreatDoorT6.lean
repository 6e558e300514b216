/- One text out of several: KeysW, FormW, PartR, CmpP, RKeyW, RKeysW, RParseP, SpecW, PairW, SignsW, HoldW, CmpT, CmpB, OrdQ, EntP, EntQ, EntR. -/
import Derived.Test.YtmnpfkbjpeaemaaGreatDoorT5
import Derived.Lib.Bytealg
import Derived.Test.YtmnpfkbjpeaemaaGreatDoorRows
import Derived.Deep.QuietTactic
import Derived.BigQuiet
import Derived.Test.YtmnpfkbjpeaemaaGreatDoorT1
import Derived.Test.YtmnpfkbjpeaemaaGreatDoorT4
import Derived.ChangeKeysEq
import Derived.WalkKit
import Derived.Lib.Walk
set_option linter.unusedVariables false
set_option linter.unusedSimpArgs false
set_option maxRecDepth 100000
set_option maxHeartbeats 8000000
namespace Go.Proofs.YtmnpfkbjpeaemaaGreatDoor
open Go.RowKit
namespace dnw
open dnp
def KeysE (n:List (List Av))(w:World)(e:Ending)(w':World):Prop:=Below w.heap.size w w'∧if nameOK n=true then∃ao cap,e= .returned (.tuple #[.slice ao n.length cap,.int .i64 0])∧n.length≤cap∧tupw.Strs w' ao (keysB n)else e= .returned (.tuple #[.slice none 0 0,.int .i64 4])
theorem ownT_strs {w:World}{B:Nat}{ao:Option Addr}{m cap:Nat}{l:List ByteArray}(h:prw.OwnT w B (.slice ao m cap) l):tupw.Strs w ao l∧m=l.length∧m≤cap:=by obtain⟨ao',cap',hv,hc,hcs⟩:=prw.ownT_cells h;simp only[Value.slice.injEq]at hv;obtain⟨rfl,rfl,rfl⟩:=hv;refine⟨fun i hi=> ?_,rfl,hc⟩;obtain⟨g,hg,_,hcell⟩:=hcs (by intro e;rw[e]at hi;simp at hi);exact⟨g,0,hg,hcell i _ (List.getElem?_eq_getElem hi)⟩
theorem revTake_step (n:List (List Av))(i:Nat)(hi:i<n.length):(n.reverse.take (i+1)).map (fun l=>bytes (keyL l))=(n.reverse.take i).map (fun l=>bytes (keyL l))++[bytes (keyL (n[n.length-1-i]'(by omega)))]:=by rw[List.take_succ_eq_append_getElem (by simpa using hi),List.map_append];simp only[List.getElem_reverse];rfl
theorem keys_any (ao:Option Addr)(cap:Nat)(n:List (List Av))(w:World)(hA:Hid (Rdns w ao n))(hE:Hid (prw.Env w))(hT:Hid (Tabs w))(hS:Hid (∀l∈n,l.length≤4→Smalls l)):
  Calls Tryz.prog 292 #[.slice ao n.length cap] w fun e w'=>KeysE n w e w':=by
 have CR:=right_any ao cap n w hA hE hS;obtain⟨m,hm⟩: ∃m,m=n.length:=⟨_,rfl⟩;have HM:=Lib.hid hm;rw[←hm]at CR ⊢;clear hm;cases hok:nameOK n with
 | false=>rw[hok]at CR;have HC:=Lib.hid CR;have HOK:=Lib.hid hok;clear CR hok;go_enter Tryz.func292,Tryz.ntmps292;go_wp2_with fail;refine HC.out.mono ?_;rintro e w1 ⟨rfl,hB1⟩;go_wp2_with fail;go_ret2;refine⟨hB1,?_⟩;rw[if_neg (by rw[HOK.out];simp)];rfl
 | true=>
  rw[hok]at CR;have HC:=Lib.hid CR;have HOK:=Lib.hid hok;have hf:=nameOK_facts hok;have hm12:m≤12:=by rw[HM.out];exact hf.1
  have HL:=Lib.hid hf.2;clear CR hok hf;go_enter Tryz.func292,Tryz.ntmps292;go_wp2_with fail;refine HC.out.mono ?_;rintro e w1 ⟨rfl,hB1⟩;have HB1:=Lib.hid hB1;have hsz1:=hB1.size;clear hB1 HC;go_wp2_with fail;go_loopw [4,5,11] (fun rv _ iv wr=> ∃ (i:Nat),i≤m∧iv= .int .i64 (i:Int)∧Hid (prw.OwnT wr w1.heap.size rv ((n.reverse.take i).map fun l=>bytes (keyL l)))∧Below w1.heap.size w1 wr) (fun _ _ iv _=>m- (intOf iv).toNat);case atStart=>exact⟨0,Nat.zero_le _,rfl,World.ownsRow_nil _ _ _ _,Below.refl _ _⟩
  case round=>
   obtain⟨i,hi,rfl,hO,hB⟩:=hrel;have hsz:=hB.size;obtain⟨aoR,mR,capR,rfl,hmR⟩:=ownT_form hO.out;by_cases hlt:i<m
   ·have hlt':(i:Int)<(m:Int):=(by omega);have hil:i<n.length:=(by rw[←HM.out];exact hlt);have HBT:=Lib.hid (HB1.out.trans (hB.mono hsz1));obtain⟨j,hj⟩: ∃j,j=m-1-i:=⟨_,rfl⟩;have hjl:j<n.length:=(by rw[←HM.out];omega);have hjm:(j:Int)<(m:Int):=(by omega);have hj0:(0:Int)≤(j:Int):=(by omega);have ej:(m:Int)-1- (i:Int)=(j:Int):=(by omega);have w1e:IntKind.i64.wrap ((m:Int)-1)=(m:Int)-1:=IntWalk.i64_in _ (by omega);have w2e:IntKind.i64.wrap ((m:Int)-1- (i:Int))=(j:Int):=(by rw[ej];exact IntWalk.i64_in _ (by omega));have HST:=revTake_step n i hil;have hje:n.length-1-i=j:=(by rw[←HM.out];exact hj.symm);have HST2:(n.reverse.take (i+1)).map (fun l=>bytes (keyL l))=(n.reverse.take i).map (fun l=>bytes (keyL l))++[bytes (keyL n[j])]:=(by rw[HST];congr 4;simp only[hje]);obtain⟨b,o,ao',cap',hao,hc0,hcc,hAv⟩:=(rdns_below hA.out HBT.out) j hjl;subst hao;have hro:=HL.out n[j] (List.getElem_mem hjl);have CK:=key_any ao' cap' n[j] wr (Lib.hid hAv) (Lib.hid (prw.env_below hE.out HBT.out)) (Lib.hid (tabs_below hT.out HBT.out)) hro;have hst:=Lib.hid HST2;generalize n[j]=l at hc0 CK hst;obtain⟨p,hp⟩: ∃p,p=l.length:=⟨_,rfl⟩;rw[←hp]at hc0 CK;have HCK:=Lib.hid CK;clear CK HST HST2 hje hro hAv hcc hp hj;go_wp2_with fail;refine HCK.out.mono ?_;rintro e w2 ⟨rfl,hB2⟩;obtain⟨ao7,m7,cap7,w8,hap,hO8,_,hB8⟩:=ownT_appG (bytes (keyL l)) (ownT_below hO.out hB2) (by rw[List.length_map,List.length_take,List.length_reverse];omega) (Nat.le_trans hsz hB2.size);have HO8:Hid (prw.OwnT w8 w1.heap.size (.slice ao7 m7 cap7) ((n.reverse.take (i+1)).map fun l=>bytes (keyL l))):=(by show prw.OwnT _ _ _ _;rw[hst.out];exact hO8);have HB8:=Lib.hid ((hB.trans (hB2.mono hsz)).trans hB8);clear hO8 hB8 hB2 HCK hst;generalize bytes (keyL l)=KB at hap ⊢;go_wp2_with (at_builtin;refine Lib.wpList_append_run _ rfl _ _ _ _ rfl _ _ rfl rfl _ _ hap ?_);go_roundw;case rel=>exact⟨i+1,by omega,by go_num,HO8,HB8.out⟩
    case measure=>simp[intOf]<;>omega
   ·obtain rfl:i=m:=(by omega);have hO1:=hO.out;rw[HM.out,List.take_of_length_le (by rw[List.length_reverse];exact Nat.le_refl _)]at hO1;obtain⟨hst,hml,hmc⟩:=ownT_strs hO1;rw[List.length_map,List.length_reverse]at hml;have HST:=Lib.hid hst;have HML:=Lib.hid hml;clear hO1 hst hml;go_wp2_with fail;go_ret2;refine⟨HB1.out.trans (hB.mono hsz1),?_⟩;rw[if_pos HOK.out];have h1:=HML.out;subst h1;exact⟨aoR,capR,rfl,hmc,HST.out⟩
end dnw
open Go.RowKit
namespace atw
open atp
theorem bs_ne {l:List UInt8}(h:l≠[]):(bs l).toList.isEmpty=false∧ ¬ (bs l).toList=[]:=by
 rw[Lib.toList_data,bs_data];refine⟨?_,h⟩;cases l with
 | nil=>exact absurd rfl h
 | cons a t=>rfl
def FormE (o:Option (List UInt8))(w:World)(e:Ending)(w':World):Prop:=Below w.heap.size w w'∧match o with
 | none=> ∃u,e= .returned (.tuple #[.string u,.bool false])
 | some u=>e= .returned (.tuple #[.string (bs u),.bool true])
theorem formE_none {o:Option (List UInt8)}{w w':World}{u:ByteArray}(h:o=none)(hb:Below w.heap.size w w'):FormE o w (.returned (.tuple #[.string u,.bool false])) w':=by subst h;exact⟨hb,u,rfl⟩
theorem formE_some {o:Option (List UInt8)}{w w':World}{u:List UInt8}(h:o=some u)(hb:Below w.heap.size w w'):FormE o w (.returned (.tuple #[.string (bs u),.bool true])) w':=by subst h;exact⟨hb,rfl⟩
theorem formE_is {o:Option (List UInt8)}{w w':World}{s:ByteArray}(h:o=some s.data.toList)(hb:Below w.heap.size w w'):FormE o w (.returned (.tuple #[.string s,.bool true])) w':=by subst h;refine⟨hb,?_⟩;show _=Ending.returned (.tuple #[.string (bs s.data.toList),.bool true]);rw[bs_of]
theorem join_flat (l:List (List UInt8)):Lib.join l []=l.flatten:=by
 cases l with
 | nil=>rfl
 | cons x r=>rw[Lib.join_cons];unfold Lib.joinTail;simp
theorem join_any (ao:Option Addr)(c:Nat)(l:List ByteArray)(w:World)(hS:Hid (tupw.Strs w ao l))(hc:l.length≤c)(hlen:l.length≤1000)(hb:(joinK l).length≤1100000):
  Calls Tryz.prog 165 #[.slice ao l.length c,.string ⟨#[]⟩] w fun e w'=>e= .returned (.string (bs (joinK l)))∧Below w.heap.size w w':=by
 by_cases h0:l=[]
 ·subst h0;refine(Tryz.strings_Join_none ao c ⟨#[]⟩ w).mono ?_;rintro e w' ⟨rfl,rfl⟩;exact⟨rfl,Below.refl _ _⟩
 ·have hl:0<l.length:=List.length_pos_iff.2 h0;obtain⟨b,o,rfl,hc0⟩:=hS.out 0 hl;have hlt:=World.block_lt_of_cell? w _ hc0;refine(Tryz.strings_Join b o c l ⟨#[]⟩ w (fun j x hj=> ?_) hlt (by omega) hc ?_).mono ?_
  ·obtain⟨hjl,rfl⟩:=List.getElem?_eq_some_iff.1 hj;obtain⟨b',o',e',h'⟩:=hS.out j hjl;simp only[Option.some.injEq,Addr.mk.injEq,and_true]at e';obtain⟨rfl,rfl⟩:=e';exact h'
  ·show(Lib.join (l.map (·.data.toList)) []).length≤_;rw[join_flat];unfold joinK at hb;omega
  ·rintro e w' ⟨rfl,hB⟩;refine⟨?_,hB⟩;show Ending.returned (.string (bs (Lib.join (l.map (·.data.toList)) [])))=_;rw[join_flat];rfl
theorem form_any (nm:ByteArray)(syn:Int)(sg:Bool)(s:ByteArray)(w:World)(hs:s.size≤1000)(h1:1≤syn)(h7:syn≤7)(hE:Hid (prw.Env w))(hT:Hid (dnw.Tabs w)):
  Calls Tryz.prog 261 #[.agg #[.string nm,.int .i64 syn,.bool sg],.string s] w (FormE (formO syn s.data.toList) w):=by
 obtain⟨W0,hW0⟩: ∃W,w.alloc (.cells #[.string nm,.int .i64 syn,.bool sg] 108)=W:=⟨_,rfl⟩;have hB0:Below w.heap.size w W0:=by rw[←hW0];exact(Below.refl _ _).alloc (Nat.le_refl _) _
 have HB0:=Lib.hid hB0;have hw0:w.heap.size≤W0.heap.size:=hB0.size;have HE0:=Lib.hid (prw.env_below hE.out hB0);have HT0:=Lib.hid (dnw.tabs_below hT.out hB0);have k1:W0.cell? ⟨w.heap.size,1,none⟩=some (.int .i64 syn):=by rw[←hW0,World.cell?_alloc_new];rfl
 clear hB0;have hcs:syn=1∨syn=2∨syn=3∨syn=4∨syn=5∨syn=6∨syn=7:=by omega
 clear h1 h7;rcases hcs with rfl | rfl | rfl | rfl | rfl | rfl | rfl
 ·have HF:formO 1 s.data.toList=ne0 (prp.readyO s.data.toList true):=rfl;rw[HF];have HC:Hid (Calls Tryz.prog 134 #[.string s,.bool true] W0 fun e w'=>e= .returned (prw.pairV (prp.readyO s.data.toList true))∧Below W0.heap.size W0 w'):=prw.ready_any s true W0 (by omega) HE0;clear HF;cases ho:prp.readyO s.data.toList true with
  | none=>rw[ho]at HC;rw[show prw.pairV none= .tuple #[.string ⟨#[]⟩,.int .i64 19]from rfl]at HC;clear ho;go_enter Tryz.func261,Tryz.ntmps261;go_wp2_with fail;refine HC.out.mono ?_;rintro e w1 ⟨rfl,hB1⟩;have HB1:=Lib.hid (HB0.out.trans (hB1.mono hw0));clear hB1;go_wp2_with fail;go_ret2;exact formE_none rfl HB1.out
  | some u=>
   rw[ho]at HC;have HC2:Hid (Calls Tryz.prog 134 #[.string s,.bool true] W0 fun e w'=>e= .returned (.tuple #[.string (bs u),.int .i64 0])∧Below W0.heap.size W0 w'):=HC;clear HC ho;by_cases hu:u=[]
   ·have hue:(bs u).toList=[]:=(by rw[hu,Lib.toList_data];rfl);have HN:Hid (ne0 (some u)=none):=(by show _=_;rw[hu];rfl);clear hu;go_enter Tryz.func261,Tryz.ntmps261;go_wp2_with fail;refine HC2.out.mono ?_;rintro e w1 ⟨rfl,hB1⟩;have HB1:=Lib.hid (HB0.out.trans (hB1.mono hw0));clear hB1;go_wp2_with fail;go_ret2;exact formE_none HN.out HB1.out
   ·have HN:Hid (ne0 (some u)=some u):=ne0_some hu;obtain⟨hu1,hu2⟩:=bs_ne hu;clear hu;go_enter Tryz.func261,Tryz.ntmps261;go_wp2_with fail;refine HC2.out.mono ?_;rintro e w1 ⟨rfl,hB1⟩;have HB1:=Lib.hid (HB0.out.trans (hB1.mono hw0));clear hB1;go_wp2_with fail;go_ret2;exact formE_some HN.out HB1.out
 ·have HF:formO 2 s.data.toList=ne0 (prp.readyO s.data.toList false):=rfl;rw[HF];have HC:Hid (Calls Tryz.prog 134 #[.string s,.bool false] W0 fun e w'=>e= .returned (prw.pairV (prp.readyO s.data.toList false))∧Below W0.heap.size W0 w'):=prw.ready_any s false W0 (by omega) HE0;clear HF;cases ho:prp.readyO s.data.toList false with
  | none=>rw[ho]at HC;rw[show prw.pairV none= .tuple #[.string ⟨#[]⟩,.int .i64 19]from rfl]at HC;clear ho;go_enter Tryz.func261,Tryz.ntmps261;go_wp2_with fail;refine HC.out.mono ?_;rintro e w1 ⟨rfl,hB1⟩;have HB1:=Lib.hid (HB0.out.trans (hB1.mono hw0));clear hB1;go_wp2_with fail;go_ret2;exact formE_none rfl HB1.out
  | some u=>
   rw[ho]at HC;have HC2:Hid (Calls Tryz.prog 134 #[.string s,.bool false] W0 fun e w'=>e= .returned (.tuple #[.string (bs u),.int .i64 0])∧Below W0.heap.size W0 w'):=HC;clear HC ho;by_cases hu:u=[]
   ·have hue:(bs u).toList=[]:=(by rw[hu,Lib.toList_data];rfl);have HN:Hid (ne0 (some u)=none):=(by show _=_;rw[hu];rfl);clear hu;go_enter Tryz.func261,Tryz.ntmps261;go_wp2_with fail;refine HC2.out.mono ?_;rintro e w1 ⟨rfl,hB1⟩;have HB1:=Lib.hid (HB0.out.trans (hB1.mono hw0));clear hB1;go_wp2_with fail;go_ret2;exact formE_none HN.out HB1.out
   ·have HN:Hid (ne0 (some u)=some u):=ne0_some hu;obtain⟨hu1,hu2⟩:=bs_ne hu;clear hu;go_enter Tryz.func261,Tryz.ntmps261;go_wp2_with fail;refine HC2.out.mono ?_;rintro e w1 ⟨rfl,hB1⟩;have HB1:=Lib.hid (HB0.out.trans (hB1.mono hw0));clear hB1;go_wp2_with fail;go_ret2;exact formE_some HN.out HB1.out
 ·go_enter Tryz.func261,Tryz.ntmps261;go_wp2_with fail;go_ret2;exact formE_is rfl HB0.out
 ·have HC:Hid (∀w,Calls Tryz.prog 291 #[.string s] w fun e w'=>e= .returned (.bool (numOK s.data.toList))∧w=w'):=fun w=>number_any s w (by omega);have HF:formO 4 s.data.toList=if numOK s.data.toList=true then some s.data.toList else none:=rfl;rw[HF];clear HF;cases hn:numOK s.data.toList with
  | true=>rw[hn]at HC;clear hn;go_enter Tryz.func261,Tryz.ntmps261;go_wp2_with fail;refine(HC.out _).mono ?_;rintro e w1 ⟨rfl,rfl⟩;go_wp2_with fail;go_ret2;exact formE_is rfl HB0.out
  | false=>rw[hn]at HC;clear hn;go_enter Tryz.func261,Tryz.ntmps261;go_wp2_with fail;refine(HC.out _).mono ?_;rintro e w1 ⟨rfl,rfl⟩;go_wp2_with fail;go_ret2;exact formE_none rfl HB0.out
 ·have HF:formO 5 s.data.toList=if s.data.toList=tT∨s.data.toList=tF then some s.data.toList else none:=rfl;rw[HF];clear HF;by_cases e1:s.data.toList=tT
  ·have q1:(s.toList==[84,82,85,69])=true:=(by rw[Lib.toList_data,e1];rfl);rw[if_pos (Or.inl e1)];clear e1;go_enter Tryz.func261,Tryz.ntmps261;go_wp2_with fail;go_ret2;exact formE_is rfl HB0.out
  ·have q1:(s.toList==[84,82,85,69])=false:=(by rw[Lib.toList_data];simpa[tT]using e1);by_cases e2:s.data.toList=tF
   ·have q2:(s.toList==[70,65,76,83,69])=true:=(by rw[Lib.toList_data,e2];rfl);rw[if_pos (Or.inr e2)];clear e1 e2;go_enter Tryz.func261,Tryz.ntmps261;go_wp2_with fail;go_ret2;exact formE_is rfl HB0.out
   ·have q2:(s.toList==[70,65,76,83,69])=false:=(by rw[Lib.toList_data];simpa[tF]using e2);rw[if_neg (by rintro(h | h);exact e1 h;exact e2 h)];clear e1 e2;go_enter Tryz.func261,Tryz.ntmps261;go_wp2_with fail;go_ret2;exact formE_none rfl HB0.out
 ·have HF:formO 6 s.data.toList=nameK s.data.toList:=rfl;rw[HF];clear HF;have HP:Hid (Calls Tryz.prog 94 #[.string s] W0 fun e w'=>Below W0.heap.size W0 w'∧ ∃ao cap,e= .returned (.tuple #[.slice ao (dnw.parseV s).1.length cap,.int .i64 (dnw.parseV s).2])∧dnw.Rdns w' ao (dnw.parseV s).1):=
   (dnw.parse_any s W0 (by omega) HE0 HT0).mono fun e w' h=>dnw.parseE_V h
  have hV:dnw.parseV s=match dnw.parseR s.data.toList with
    | none=>([],4)
    | some n=>(n,0):=by unfold dnw.parseV;rw[if_neg (by omega)]<;>cases dnw.parseR s.data.toList<;>rfl
  unfold nameK;cases hp:dnw.parseR s.data.toList with
  | none=>rw[hp]at hV;simp only at hV;rw[hV]at HP;simp only[List.length_nil]at HP;have HOKN:dnw.nameOK []=true:=(by decide);clear hV hp;go_enter Tryz.func261,Tryz.ntmps261;go_wp2_with fail;refine HP.out.mono ?_;rintro e w1 ⟨hB1,ao,cap,rfl,hR⟩;have HR:=Lib.hid hR;have HB1:=Lib.hid (HB0.out.trans (hB1.mono hw0));have HE1:=Lib.hid (prw.env_below HE0.out hB1);have HT1:=Lib.hid (dnw.tabs_below HT0.out hB1);clear hR hB1;go_wp2_with fail;refine(dnw.keys_any ao cap [] w1 HR HE1 HT1 (fun l hl=>by cases hl)).mono ?_;intro e w2 hK;obtain⟨hB2,hK2⟩:=hK;rw[if_pos HOKN]at hK2;obtain⟨ao2,cap2,rfl,_,hS⟩:=hK2;have HB2:=Lib.hid (HB1.out.trans (hB2.mono HB1.out.size));clear hB2 hS HOKN;go_wp2_with fail;refine(Tryz.strings_Join_none ao2 cap2 ⟨#[]⟩ w2).mono ?_;rintro e w3 ⟨rfl,hw3⟩;have HB3:Hid (Below w.heap.size w w3):=(by rw[hw3];exact HB2.out);clear hw3;go_wp2_with fail;go_ret2;exact formE_none rfl HB3.out
  | some n=>rw[hp]at hV;simp only at hV;rw[hV]at HP;simp only at HP;have hok:=parseR_ok hp;have HSM:Hid (∀l∈n,l.length≤4→dnw.Smalls l):=fun l hl _=>name_smalls hok l hl;have HJL:=Lib.hid (joinK_len n hok);have HNL:Hid (n.length≤12):=(by show _≤_;unfold dnw.nameOK at hok;rw[Bool.and_eq_true,decide_eq_true_eq]at hok;exact hok.1);have HOKN:=Lib.hid hok;obtain⟨m,hm⟩: ∃m,m=n.length:=⟨_,rfl⟩;have HM:=Lib.hid hm;rw[←hm]at HP;have HKA:Hid (∀ao cap w,dnw.Rdns w ao n→prw.Env w→dnw.Tabs w→Calls Tryz.prog 292 #[.slice ao m cap] w fun e w'=>Below w.heap.size w w'∧ ∃ao2 cap2,e= .returned (.tuple #[.slice ao2 m cap2,.int .i64 0])∧m≤cap2∧tupw.Strs w' ao2 (dnw.keysB n)):=(by intro ao cap w h1 h2 h3;rw[hm];refine(dnw.keys_any ao cap n w (Lib.hid h1) (Lib.hid h2) (Lib.hid h3) HSM).mono fun e w' h=> ?_;obtain⟨k1,k2⟩:=h;rw[if_pos HOKN.out]at k2;exact⟨k1,k2⟩);have HJ:Hid (∀ao cap w,tupw.Strs w ao (dnw.keysB n)→m≤cap→Calls Tryz.prog 165 #[.slice ao m cap,.string ⟨#[]⟩] w fun e w'=>e= .returned (.string (bs (joinK (dnw.keysB n))))∧Below w.heap.size w w'):=(by intro ao cap w h1 h2;have hl:(dnw.keysB n).length=m:=(by rw[dnw.keysB_len,hm]);have:=join_any ao cap (dnw.keysB n) w (Lib.hid h1) (by rw[hl];exact h2) (by have:=HNL.out;omega) (by have:=HJL.out;omega);rw[hl]at this;exact this);clear hV hp hok hm;go_enter Tryz.func261,Tryz.ntmps261;go_wp2_with fail;refine HP.out.mono ?_;rintro e w1 ⟨hB1,ao,cap,rfl,hR⟩;have HR:=Lib.hid hR;have HB1:=Lib.hid (HB0.out.trans (hB1.mono hw0));have HE1:=Lib.hid (prw.env_below HE0.out hB1);have HT1:=Lib.hid (dnw.tabs_below HT0.out hB1);clear hR hB1;go_wp2_with fail;refine(HKA.out _ _ _ HR.out HE1.out HT1.out).mono ?_;rintro e w2 ⟨hB2,ao2,cap2,rfl,hc2,hS⟩;have HS:=Lib.hid hS;have HB2:=Lib.hid (HB1.out.trans (hB2.mono HB1.out.size));clear hB2 hS;go_wp2_with fail;refine(HJ.out _ _ _ HS.out hc2).mono ?_;rintro e w3 ⟨rfl,hB3⟩;have HB3:=Lib.hid (HB2.out.trans (hB3.mono HB2.out.size));clear hB3;go_wp2_with fail;go_ret2;exact formE_some rfl HB3.out
 ·have HF:formO 7 s.data.toList=ne0 (prp.phoneO s.data.toList):=rfl;rw[HF];have HC:Hid (Calls Tryz.prog 290 #[.string s] W0 fun e w'=>e= .returned (prw.pairV (prp.phoneO s.data.toList))∧Below W0.heap.size W0 w'):=prw.phone_any s W0 (by omega) HE0;clear HF;cases ho:prp.phoneO s.data.toList with
  | none=>rw[ho]at HC;rw[show prw.pairV none= .tuple #[.string ⟨#[]⟩,.int .i64 19]from rfl]at HC;clear ho;go_enter Tryz.func261,Tryz.ntmps261;go_wp2_with fail;refine HC.out.mono ?_;rintro e w1 ⟨rfl,hB1⟩;have HB1:=Lib.hid (HB0.out.trans (hB1.mono hw0));clear hB1;go_wp2_with fail;go_ret2;exact formE_none rfl HB1.out
  | some u=>
   rw[ho]at HC;have HC2:Hid (Calls Tryz.prog 290 #[.string s] W0 fun e w'=>e= .returned (.tuple #[.string (bs u),.int .i64 0])∧Below W0.heap.size W0 w'):=HC;clear HC ho;by_cases hu:u=[]
   ·have hue:(bs u).toList=[]:=(by rw[hu,Lib.toList_data];rfl);have HN:Hid (ne0 (some u)=none):=(by show _=_;rw[hu];rfl);clear hu;go_enter Tryz.func261,Tryz.ntmps261;go_wp2_with fail;refine HC2.out.mono ?_;rintro e w1 ⟨rfl,hB1⟩;have HB1:=Lib.hid (HB0.out.trans (hB1.mono hw0));clear hB1;go_wp2_with fail;go_ret2;exact formE_none HN.out HB1.out
   ·have HN:Hid (ne0 (some u)=some u):=ne0_some hu;obtain⟨hu1,hu2⟩:=bs_ne hu;clear hu;go_enter Tryz.func261,Tryz.ntmps261;go_wp2_with fail;refine HC2.out.mono ?_;rintro e w1 ⟨rfl,hB1⟩;have HB1:=Lib.hid (HB0.out.trans (hB1.mono hw0));clear hB1;go_wp2_with fail;go_ret2;exact formE_some HN.out HB1.out
def normV (o:List UInt8 × Int):Value:= .tuple #[.string (bs o.1),.int .i64 o.2]
theorem known_any (nm:ByteArray)(syn:Int)(sg:Bool)(w:World):Calls Tryz.prog 260 #[.agg #[.string nm,.int .i64 syn,.bool sg]] w fun e w'=>e= .returned (.bool (decide (1≤syn∧syn≤7)))∧Below w.heap.size w w':=by
 obtain⟨W0,hW0⟩: ∃W,w.alloc (.cells #[.string nm,.int .i64 syn,.bool sg] 108)=W:=⟨_,rfl⟩;have HB0:Hid (Below w.heap.size w W0):=by rw[←hW0];exact(Below.refl _ _).alloc (Nat.le_refl _) _
 have k1:W0.cell? ⟨w.heap.size,1,none⟩=some (.int .i64 syn):=by rw[←hW0,World.cell?_alloc_new];rfl
 by_cases h1:1≤syn
 ·by_cases h7:syn≤7
  ·have HD:Hid (decide (1≤syn∧syn≤7)=true):=decide_eq_true ⟨h1,h7⟩;go_enter Tryz.func260,Tryz.ntmps260;go_wp2_with fail;go_ret;first | exact⟨by rw[HD.out];rfl,HB0.out⟩ | exact⟨rfl,HB0.out⟩
  ·have HD:Hid (decide (1≤syn∧syn≤7)=false):=decide_eq_false (fun h=>h7 h.2);have q:decide (syn≤7)=false:=decide_eq_false h7;clear h7;go_enter Tryz.func260,Tryz.ntmps260;go_wp2_with fail;go_ret;first | exact⟨by rw[HD.out];rfl,HB0.out⟩ | exact⟨rfl,HB0.out⟩
 ·have HD:Hid (decide (1≤syn∧syn≤7)=false):=decide_eq_false (fun h=>h1 h.1);have q:decide (1≤syn)=false:=decide_eq_false h1;go_enter Tryz.func260,Tryz.ntmps260;go_wp2_with fail;go_ret;first | exact⟨by rw[HD.out];rfl,HB0.out⟩ | exact⟨rfl,HB0.out⟩
theorem normal_any (nm:ByteArray)(syn:Int)(sg:Bool)(s:ByteArray)(w:World)(hs:s.size≤140737488351232)(hE:Hid (prw.Env w))(hT:Hid (dnw.Tabs w)):
  Calls Tryz.prog 200 #[.agg #[.string nm,.int .i64 syn,.bool sg],.string s] w fun e w'=>e= .returned (normV (normL syn s.data.toList))∧Below w.heap.size w w':=by
 obtain⟨W0,hW0⟩: ∃W,w.alloc (.cells #[.string nm,.int .i64 syn,.bool sg] 108)=W:=⟨_,rfl⟩;have hB0:Below w.heap.size w W0:=by rw[←hW0];exact(Below.refl _ _).alloc (Nat.le_refl _) _
 have HB0:=Lib.hid hB0;have hw0:w.heap.size<W0.heap.size:=by rw[←hW0];simp
 have HE0:=Lib.hid (prw.env_below hE.out hB0);have HT0:=Lib.hid (dnw.tabs_below hT.out hB0);have k0:W0.cell? ⟨w.heap.size,0,none⟩=some (.string nm):=by rw[←hW0,World.cell?_alloc_new];rfl
 have k1:W0.cell? ⟨w.heap.size,1,none⟩=some (.int .i64 syn):=by rw[←hW0,World.cell?_alloc_new];rfl
 have k2:W0.cell? ⟨w.heap.size,2,none⟩=some (.bool sg):=by rw[←hW0,World.cell?_alloc_new];rfl
 have HK:Hid (∀w,Calls Tryz.prog 260 #[.agg #[.string nm,.int .i64 syn,.bool sg]] w fun e w'=>e= .returned (.bool (decide (1≤syn∧syn≤7)))∧Below w.heap.size w w'):=fun w=>known_any nm syn sg w;clear hB0;by_cases hsy:1≤syn∧syn≤7
 ·rw[decide_eq_true hsy]at HK;by_cases hlong:1000<s.size
  ·rw[normL_long hsy (by rw[kt.size_len];exact hlong)];have hlI:(1000:Int)<(s.size:Int):=(by omega);clear hlong hsy;go_enter Tryz.func200,Tryz.ntmps200;go_wp2_with fail;refine(HK.out _).mono ?_;rintro e w1 ⟨rfl,hB1⟩;have HB1:=Lib.hid (HB0.out.trans (hB1.mono (Nat.le_of_lt hw0)));clear hB1 hW0;go_wp2_with fail;go_ret2;exact⟨rfl,HB1.out⟩
  ·have hlI: ¬ (1000:Int)<(s.size:Int):=(by omega);by_cases h0:s.data.toList=[]
   ·rw[normL_nil hsy h0];have hz:s.toList=[]:=(by rw[Lib.toList_data];exact h0);clear hsy hlong h0;go_enter Tryz.func200,Tryz.ntmps200;go_wp2_with fail;refine(HK.out _).mono ?_;rintro e w1 ⟨rfl,hB1⟩;have HB1:=Lib.hid (HB0.out.trans (hB1.mono (Nat.le_of_lt hw0)));clear hB1 hW0;go_wp2_with fail;go_ret2;exact⟨rfl,HB1.out⟩
   ·have HNF:=Lib.hid (normL_form hsy (by rw[kt.size_len];omega) h0);have HFM:Hid (∀w,prw.Env w→dnw.Tabs w→Calls Tryz.prog 261 #[.agg #[.string nm,.int .i64 syn,.bool sg],.string s] w (FormE (formO syn s.data.toList) w)):=fun w h1 h2=>form_any nm syn sg s w (by omega) hsy.1 hsy.2 (Lib.hid h1) (Lib.hid h2);obtain⟨z1,z2⟩:=str_ne (s:=s) (by
     rcases Nat.eq_zero_or_pos s.size with h | h
     ·exact absurd (by rw[zero_s h];rfl) h0
     ·exact h)
    clear hsy hlong h0;go_enter Tryz.func200,Tryz.ntmps200;go_wp2_with fail;refine(HK.out _).mono ?_;rintro e w1 ⟨rfl,hB1⟩;have HB1:=Lib.hid (HB0.out.trans (hB1.mono (Nat.le_of_lt hw0)));have HE1:=Lib.hid (prw.env_below HE0.out hB1);have HT1:=Lib.hid (dnw.tabs_below HT0.out hB1);have m0:=(hB1.cell (p:=⟨w.heap.size,0,none⟩) hw0).trans k0;have m1:=(hB1.cell (p:=⟨w.heap.size,1,none⟩) hw0).trans k1;have m2:=(hB1.cell (p:=⟨w.heap.size,2,none⟩) hw0).trans k2;clear hB1 hW0 k0 k1 k2;go_wp2_with fail;refine(HFM.out _ HE1.out HT1.out).mono ?_;intro e w2 hF;cases ho:formO syn s.data.toList with
    | none=>rw[ho]at hF;obtain⟨hB2,u,rfl⟩:=hF;have HB2:=Lib.hid (HB1.out.trans (hB2.mono HB1.out.size));have HO:=Lib.hid ho;clear hB2 ho;go_wp2_with fail;go_ret2;exact⟨by rw[HNF.out,HO.out];rfl,HB2.out⟩
    | some u=>rw[ho]at hF;obtain⟨hB2,rfl⟩:=hF;have HB2:=Lib.hid (HB1.out.trans (hB2.mono HB1.out.size));have HO:=Lib.hid ho;clear hB2 ho;go_wp2_with fail;go_ret2;exact⟨by rw[HNF.out,HO.out];rfl,HB2.out⟩
 ·rw[normL_bad hsy];rw[decide_eq_false hsy]at HK;clear hsy;go_enter Tryz.func200,Tryz.ntmps200;go_wp2_with fail;refine(HK.out _).mono ?_;rintro e w1 ⟨rfl,hB1⟩;have HB1:=Lib.hid (HB0.out.trans (hB1.mono (Nat.le_of_lt hw0)));clear hB1 hW0;go_wp2_with fail;go_ret2;exact⟨rfl,HB1.out⟩
theorem check_any (nm:ByteArray)(syn:Int)(sg:Bool)(s:ByteArray)(w:World)(hs:s.size≤140737488351232)(hE:Hid (prw.Env w))(hT:Hid (dnw.Tabs w)):
  Calls Tryz.prog 145 #[.agg #[.string nm,.int .i64 syn,.bool sg],.string s] w fun e w'=>e= .returned (.int .i64 (normL syn s.data.toList).2)∧Below w.heap.size w w':=by
 obtain⟨W0,hW0⟩: ∃W,w.alloc (.cells #[.string nm,.int .i64 syn,.bool sg] 108)=W:=⟨_,rfl⟩;have hB0:Below w.heap.size w W0:=by rw[←hW0];exact(Below.refl _ _).alloc (Nat.le_refl _) _
 have HB0:=Lib.hid hB0;have hw0:w.heap.size<W0.heap.size:=by rw[←hW0];simp
 have HE0:=Lib.hid (prw.env_below hE.out hB0);have HT0:=Lib.hid (dnw.tabs_below hT.out hB0);have k0:W0.cell? ⟨w.heap.size,0,none⟩=some (.string nm):=by rw[←hW0,World.cell?_alloc_new];rfl
 have k1:W0.cell? ⟨w.heap.size,1,none⟩=some (.int .i64 syn):=by rw[←hW0,World.cell?_alloc_new];rfl
 have k2:W0.cell? ⟨w.heap.size,2,none⟩=some (.bool sg):=by rw[←hW0,World.cell?_alloc_new];rfl
 have HN:Hid (∀w,prw.Env w→dnw.Tabs w→Calls Tryz.prog 200 #[.agg #[.string nm,.int .i64 syn,.bool sg],.string s] w fun e w'=>e= .returned (normV (normL syn s.data.toList))∧Below w.heap.size w w'):=fun w h1 h2=>normal_any nm syn sg s w hs (Lib.hid h1) (Lib.hid h2);obtain⟨uo,huo⟩: ∃u,normL syn s.data.toList=u:=⟨_,rfl⟩;rw[huo]at HN ⊢;clear huo;obtain⟨u,er⟩:=uo;obtain⟨ub,hub⟩: ∃ub,bs u=ub:=⟨_,rfl⟩;have HN2:Hid (∀w,prw.Env w→dnw.Tabs w→Calls Tryz.prog 200 #[.agg #[.string nm,.int .i64 syn,.bool sg],.string s] w fun e w'=>e= .returned (.tuple #[.string ub,.int .i64 er])∧Below w.heap.size w w'):=by rw[←hub];exact HN
 clear HN hub hB0;go_enter Tryz.func145,Tryz.ntmps145;go_wp2_with fail;refine(HN2.out _ HE0.out HT0.out).mono ?_;rintro e w1 ⟨rfl,hB1⟩;have HB1:=Lib.hid (HB0.out.trans (hB1.mono (Nat.le_of_lt hw0)));clear hB1;go_wp2_with fail;go_ret;exact⟨rfl,HB1.out⟩
end atw
open Go.RowKit
namespace tup
end tup
namespace prt
open tupw
def OwnB (w:World)(B:Nat)(v:Value)(l:List UInt8):Prop:=w.ownsRow B 5 1 v (Lib.byteCells l).length (Lib.byteCells l)
end prt
namespace fldw
theorem infoByte:(Tryz.prog.info? 5).map (fun i=>(i.zero,i.size,i.bytes))=some (some (.int .u8 0),1,1):=bld.infoByte
end fldw
namespace ord
open Go.Lib
theorem cmp_cons (a b:UInt8)(s t:List UInt8):compareBytes (a::s) (b::t)=if a<b then-1 else if b<a then 1 else compareBytes s t:=rfl
theorem cmp_same (a:UInt8)(s t:List UInt8):compareBytes (a::s) (a::t)=compareBytes s t:=by rw[cmp_cons];simp
theorem cmp_lt {a b:UInt8}(h:a<b)(s t:List UInt8):compareBytes (a::s) (b::t)= -1:=by rw[cmp_cons,if_pos h]
theorem cmp_gt {a b:UInt8}(h:b<a)(s t:List UInt8):compareBytes (a::s) (b::t)=1:=by rw[cmp_cons,if_neg (fun h'=>absurd h (by have h1:=UInt8.lt_iff_toNat_lt.1 h';intro h2;have h3:=UInt8.lt_iff_toNat_lt.1 h2;omega)),if_pos h]
theorem cmp_cases (a b:UInt8):a<b∨b<a∨a=b:=by
 rcases Nat.lt_trichotomy a.toNat b.toNat with h | h | h
 ·exact Or.inl (UInt8.lt_iff_toNat_lt.2 h)
 ·exact Or.inr (Or.inr (UInt8.toNat_inj.1 h))
 ·exact Or.inr (Or.inl (UInt8.lt_iff_toNat_lt.2 h))
theorem cmp_three: ∀a b:List UInt8,compareBytes a b= -1∨compareBytes a b=0∨compareBytes a b=1
 | [],[]=>Or.inr (Or.inl rfl)
 | [],_::_=>Or.inl rfl
 | _::_,[]=>Or.inr (Or.inr rfl)
 | a::s,b::t=>by
  rcases cmp_cases a b with h | h | rfl
  ·exact Or.inl (cmp_lt h s t)
  ·exact Or.inr (Or.inr (cmp_gt h s t))
  ·rw[cmp_same];exact cmp_three s t
theorem cmp_neg: ∀a b:List UInt8,compareBytes b a= -compareBytes a b
 | [],[]=>rfl
 | [],_::_=>rfl
 | _::_,[]=>rfl
 | a::s,b::t=>by
  rcases cmp_cases a b with h | h | rfl
  ·rw[cmp_lt h,cmp_gt h];rfl
  ·rw[cmp_gt h,cmp_lt h]
  ·rw[cmp_same,cmp_same];exact cmp_neg s t
end ord
open Go.RowKit
namespace dnw
open dnp
def KeyE (l:List Av)(e:Ending):Prop:=e=if rdnOK l=true then .returned (.tuple #[.string (bytes (keyL l)),.int .i64 0])else .returned (.tuple #[.string ⟨#[]⟩,.int .i64 4])
end dnw
open Go.RowKit
namespace dnw
open dnp
theorem keyE_yes {l:List Av}(h:rdnOK l=true):KeyE l (.returned (.tuple #[.string (bytes (keyL l)),.int .i64 0])):=by unfold KeyE;rw[if_pos h]
theorem keyE_no {l:List Av}(h:rdnOK l=false):KeyE l (.returned (.tuple #[.string ⟨#[]⟩,.int .i64 4])):=by unfold KeyE;rw[if_neg (by rw[h];simp)]
end dnw
namespace dnw
open dnp
theorem dropW_len {α:Type}(p:α→Bool)(l:List α):(l.dropWhile p).length≤l.length:=by obtain⟨a,h,_⟩:=dropW_split p l;have:=congrArg List.length h;rw[List.length_append]at this;omega
theorem trim_len (L:List Sg):(trim L).length≤L.length:=by unfold trim;have h1:=trimR_len (L.dropWhile blankS);have h2:=dropW_len blankS L;omega
end dnw
open Go.RowKit
namespace dnw
open dnp
theorem u8_special (c:UInt8):special c=decide ((c.toNat:Int)=34∨(c.toNat:Int)=43∨(c.toNat:Int)=44∨(c.toNat:Int)=59∨(c.toNat:Int)=60∨(c.toNat:Int)=61∨(c.toNat:Int)=62∨(c.toNat:Int)=92):=by
 have all: ∀m:Fin 256,special (UInt8.ofNat m.val)=decide ((m.val:Int)=34∨(m.val:Int)=43∨(m.val:Int)=44∨(m.val:Int)=59∨(m.val:Int)=60∨(m.val:Int)=61∨(m.val:Int)=62∨(m.val:Int)=92):=by decide+kernel
 have h:=all ⟨c.toNat,c.toNat_lt⟩;simp only[UInt8.ofNat_toNat]at h;exact h
theorem special_any (c:UInt8)(w:World):Calls Tryz.prog 206 #[.int .u8 (c.toNat:Int)] w fun e w'=>e= .returned (.bool (special c))∧w=w':=by
 rw[u8_special];generalize(c.toNat:Int)=r;go_enter Tryz.func206,Tryz.ntmps206;go_wp2;all_goals
  go_ret;refine⟨kt.ret_bool ?_,rfl⟩
  (try simp only[beq_iff_eq,beq_eq_false_iff_ne,ne_eq,bne_iff_ne]at*)
  first
   | exact(decide_eq_true (by omega)).symm
   | exact(decide_eq_false (by omega)).symm
   | (rw[Bool.eq_iff_iff];simp only[Bool.or_eq_true,decide_eq_true_eq,beq_iff_eq];omega)
def scell (x:Sg):List Value:=[.int .u8 (x.1.toNat:Int),.bool x.2]
def scells (l:List Sg):List Value:=l.flatMap scell
def OwnS (w:World)(B:Nat)(v:Value)(l:List Sg):Prop:=kt.SegX w B 194 2 v l.length (scells l)
theorem scells_append (a b:List Sg):scells (a++b)=scells a++scells b:=List.flatMap_append ..
theorem infoSign:(Tryz.prog.info? 194).map (fun i=>(i.zero,i.size,i.bytes))=some (some (.agg #[.int .u8 0,.bool false]),2,2):=by kernel_rfl
theorem ownS_below {w w':World}{B:Nat}{v:Value}{l:List Sg}(h:OwnS w B v l)(hb:Below w.heap.size w w'):OwnS w' B v l:=kt.segX_below h hb
theorem ownS_app {w:World}{B:Nat}{v:Value}{l:List Sg}(x:Sg)(h:OwnS w B v l)(hl:l.length≤1100000)(hB:B≤w.heap.size):
  ∃v' w1,(Builtin.append_ #[189,189] 189 #[v,.slice (some ⟨w.heap.size,0,none⟩) 1 1]).run Tryz.prog (w.alloc (.cells #[.int .u8 (x.1.toNat:Int),.bool x.2] 194))= .ok v' w1∧OwnS w1 B v' (l++[x])∧Below B w w1:=by
 have hn:=ownS_below h (w':=w.alloc (.cells #[.int .u8 (x.1.toNat:Int),.bool x.2] 194)) ((Below.refl _ _).alloc (Nat.le_refl _) _);obtain⟨v',w1,h1,h2,h3,_⟩:=kt.segX_append (P:=Tryz.prog) (t:=189) (ty:=189) Tryz.underlying189 infoSign rfl (by omega) ⟨w.heap.size,0,none⟩ 1 1 (scell x) rfl (fun j u hj=>by rw[kt.addr_add,World.cell?_alloc_new];simpa[scell]using hj) (by intro u hu;simp[scell]at hu;rcases hu with rfl | rfl<;>rfl) hn (by unfold maxLen;omega) (by omega) (by simp;omega);refine⟨v',w1,h1,?_,((Below.refl B w).alloc hB _).trans (below_of_gr h3 (by simp;omega) (fun k hk=>(kt.segX_lt hn k hk).1))⟩;unfold OwnS;rw[List.length_append,scells_append];have e:scells [x]=scell x:=by simp[scells]
 rw[e];exact h2
end dnw
open Go.RowKit
namespace dnw
open dnp
def partV (A V:List Sg):Option Pr:=if(A.all (·.2))=true∧typeOK (lowL (A.map (·.1)))=true∧rightOK V=true then some (lowL (A.map (·.1)),V.map (·.1))else none
theorem low_nat (c:UInt8):((low c).toNat:Int)=if 65≤(c.toNat:Int)∧(c.toNat:Int)≤90 then(c.toNat:Int)+32 else(c.toNat:Int):=by
 have all: ∀m:Fin 256,((low (UInt8.ofNat m.val)).toNat:Int)=if 65≤(m.val:Int)∧(m.val:Int)≤90 then(m.val:Int)+32 else(m.val:Int):=by decide+kernel
 have h:=all ⟨c.toNat,c.toNat_lt⟩;simp only[UInt8.ofNat_toNat]at h;exact h
end dnw
open Go.RowKit
namespace dnw
open dnp
def SignsE (s:ByteArray)(w:World)(e:Ending)(w':World):Prop:=
 Below w.heap.size w w'∧match signs s.data.toList with
  | none=>e= .returned (.tuple #[.slice none 0 0,.bool false])
  | some L=> ∃ao cap,e= .returned (.tuple #[.slice ao L.length cap,.bool true])∧L.length≤cap∧OwnS w' w.heap.size (.slice ao L.length cap) L
def SgAt (s:ByteArray)(i:Nat)(B:List Sg):Prop:=signs s.data.toList=(signs (s.data.toList.drop i)).map (B++ ·)
theorem sgAt_bare {s:ByteArray}{i:Nat}{B:List Sg}(h:SgAt s i B)(hi:i<s.size)(hc:s[i]≠92):SgAt s (i+1) (B++[(s[i],true)]):=by unfold SgAt at*;rw[drop_cons s i hi,signs_bare _ _ hc,Option.map_map]at h;rw[h];congr 1;funext p;simp
theorem sgAt_esc {s:ByteArray}{i n:Nat}{d:UInt8}{B:List Sg}(h:SgAt s i B)(hi:i<s.size)(hc:s[i]=92)(he:esc (s.data.toList.drop (i+1))=some (d,n)):SgAt s (i+1+n) (B++[(d,false)]):=by unfold SgAt at*;rw[drop_cons s i hi,hc,signs_esc _ _ _ he,Option.map_map,List.drop_drop]at h;rw[h];congr 1;funext p;simp
theorem sgAt_none {s:ByteArray}{i:Nat}{B:List Sg}(h:SgAt s i B)(hi:i<s.size)(hc:s[i]=92)(he:esc (s.data.toList.drop (i+1))=none):signs s.data.toList=none:=by unfold SgAt at h;rw[drop_cons s i hi,hc,signs_bad _ he]at h;rw[h];rfl
theorem sgAt_end {s:ByteArray}{B:List Sg}(h:SgAt s s.size B):signs s.data.toList=some B:=by unfold SgAt at h;rw[drop_end,signs_nil]at h;simpa using h
theorem ownS_letters {w:World}{B:Nat}{v:Value}{l:List Sg}(h:OwnS w B v l): ∃ (ao:Option Addr) (m cap:Nat),v= .slice ao m cap∧Hid (m=l.length)∧m≤cap:=by obtain⟨ao,cap,h1,h2⟩:=kt.segX_slice h;exact⟨ao,_,cap,h1,rfl,h2⟩
theorem signs_any (s:ByteArray)(w:World)(hs:s.size≤1000):Calls Tryz.prog 158 #[.string s] w fun e w'=>SignsE s w e w':=by
 go_enter Tryz.func158,Tryz.ntmps158;go_wp2_with fail;go_loopw [4,5] (fun lv iv wr=> ∃ (i:Nat) (B:List Sg),i≤s.size∧iv= .int .i64 (i:Int)∧Hid (OwnS wr w.heap.size lv B)∧B.length≤i∧Hid (SgAt s i B)∧Below w.heap.size w wr) (fun _ iv _=>s.size- (intOf iv).toNat);case atStart=>
  refine⟨0,[],Nat.zero_le _,rfl,?_,Nat.zero_le _,by show signs _=_;simp,(Below.refl _ _).alloc (Nat.le_refl _) _⟩;exact kt.segX_of_row (World.ownsRow_made _ #[] 0 (Nat.le_refl _) (by unfold maxLen;omega) rfl)
 case round=>
  obtain⟨i,B,hi,rfl,hO,hBl,hA,hB⟩:=hrel;obtain⟨ao,m,cap,rfl,hm,hmc⟩:=ownS_letters hO.out;have hsz:=hB.size;by_cases hlt:i<s.size
  ·have hlt':(i:Int)<(s.size:Int):=(by omega);by_cases h92:((s[i]'hlt).toNat:Int)=92
   ·have q1:(((s[i]'hlt).toNat:Int)==92)=true:=(by rw[beq_iff_eq];exact h92);have q2:(((s[i]'hlt).toNat:Int) !=92)=false:=(by rw[bne_eq_false_iff_eq];exact h92);have h92':=Lib.hid (u8_eq (n:=92) (by omega) h92);clear h92;by_cases h1:i+1<s.size
    ·have h1':(i:Int)+1<(s.size:Int):=(by omega);have hdc:=drop_cons s (i+1) h1;have CS:Hid (∀W,Calls Tryz.prog 206 #[.int .u8 ((s[i+1]'h1).toNat:Int)] W fun e w'=>e= .returned (.bool (special (s[i+1]'h1)))∧W=w'):=fun W=>special_any _ W;by_cases hp:plainEsc (s[i+1]'h1)
     ·have HA:Hid (SgAt s (i+1+1) (B++[(s[i+1]'h1,false)])):=sgAt_esc hA.out hlt h92'.out (by rw[hdc];exact esc_plain hp);obtain⟨v',w1,hap,hO1,hB1⟩:=ownS_app (s[i+1]'h1,false) hO.out (by omega) hsz;dsimp only at hap;have HO1:=Lib.hid hO1;have HB1:=Lib.hid (hB.trans hB1);have hp3:special (s[i+1]'h1)=true∨(special (s[i+1]'h1)=false∧((s[i+1]'h1).toNat:Int)=35)∨(special (s[i+1]'h1)=false∧((s[i+1]'h1).toNat:Int)=32):=by
       unfold plainEsc at hp;cases hsp:special (s[i+1]'h1)with
       | true=>exact Or.inl rfl
       | false=>
        rw[hsp]at hp;rcases hp with hp | hp | hp
        ·cases hp
        ·exact Or.inr (Or.inl ⟨rfl,by rw[hp];rfl⟩)
        ·exact Or.inr (Or.inr ⟨rfl,by rw[hp];rfl⟩)
      clear hO1 hB1 hp hdc;rcases hp3 with h | ⟨h,h35⟩ | ⟨h,h32⟩
      ·rw[h]at CS;clear h;go_wp2_with fail;refine(CS.out _).mono ?_;rintro e w2 ⟨rfl,rfl⟩;go_wp2_with (at_builtin;refine Lib.wpList_append_run _ rfl _ _ _ _ rfl _ _ rfl rfl _ _ hap ?_);go_roundw;case rel=>exact⟨i+1+1,_,by omega,by go_num,HO1,by simp;omega,HA,HB1.out⟩
       case measure=>simp[intOf];omega
      ·rw[h]at CS;have p1:(((s[i+1]'h1).toNat:Int)==35)=true:=(by rw[beq_iff_eq];exact h35);clear h h35;go_wp2_with fail;refine(CS.out _).mono ?_;rintro e w2 ⟨rfl,rfl⟩;go_wp2_with (at_builtin;refine Lib.wpList_append_run _ rfl _ _ _ _ rfl _ _ rfl rfl _ _ hap ?_);go_roundw;case rel=>exact⟨i+1+1,_,by omega,by go_num,HO1,by simp;omega,HA,HB1.out⟩
       case measure=>simp[intOf];omega
      ·rw[h]at CS;have p1:(((s[i+1]'h1).toNat:Int)==35)=false:=(by rw[beq_eq_false_iff_ne];omega);have p2:(((s[i+1]'h1).toNat:Int)==32)=true:=(by rw[beq_iff_eq];exact h32);clear h h32;go_wp2_with fail;refine(CS.out _).mono ?_;rintro e w2 ⟨rfl,rfl⟩;go_wp2_with (at_builtin;refine Lib.wpList_append_run _ rfl _ _ _ _ rfl _ _ rfl rfl _ _ hap ?_);go_roundw;case rel=>exact⟨i+1+1,_,by omega,by go_num,HO1,by simp;omega,HA,HB1.out⟩
       case measure=>simp[intOf];omega
     ·have hsp:special (s[i+1]'h1)=false:=by
       cases hsp:special (s[i+1]'h1)with
       | false=>rfl
       | true=>exact absurd (Or.inl hsp) hp
      have p1:(((s[i+1]'h1).toNat:Int)==35)=false:=(by rw[beq_eq_false_iff_ne];exact fun e=>hp (Or.inr (Or.inl (u8_eq (n:=35) (by omega) e))));have p2:(((s[i+1]'h1).toNat:Int)==32)=false:=(by rw[beq_eq_false_iff_ne];exact fun e=>hp (Or.inr (Or.inr (u8_eq (n:=32) (by omega) e))));rw[hsp]at CS;by_cases h2:i+2<s.size
      ·have h2': ¬ (s.size:Int)≤(i:Int)+2:=(by omega);have h2i:(i:Int)+2<(s.size:Int):=(by omega);have hdc2:=drop_cons s (i+2) h2;have CV1:Hid (∀W,Calls Tryz.prog 207 #[.int .u8 ((s[i+1]'h1).toNat:Int)] W fun e w'=>e= .returned (.int .i64 (b64p.valI (s[i+1]'h1)))∧W=w'):=fun W=>Go.Proofs.YtmnpfkbjpeaemaaGreatDoor.value_any _ W;have CV2:Hid (∀W,Calls Tryz.prog 207 #[.int .u8 ((s[i+2]'h2).toNat:Int)] W fun e w'=>e= .returned (.int .i64 (b64p.valI (s[i+2]'h2)))∧W=w'):=fun W=>Go.Proofs.YtmnpfkbjpeaemaaGreatDoor.value_any _ W;by_cases ha:b64p.valI (s[i+1]'h1)<0
       ·have HE:Hid (signs s.data.toList=none):=sgAt_none hA.out hlt h92'.out (by rw[hdc,hdc2];exact esc_nohex hp (Or.inl ha));generalize b64p.valI (s[i+1]'h1)=va at CV1 ha;clear hsp hp hdc hdc2;go_wp2_with fail;refine(CS.out _).mono ?_;rintro e w2 ⟨rfl,rfl⟩;go_wp2_with fail;refine(CV1.out _).mono ?_;rintro e w2 ⟨rfl,rfl⟩;go_wp2_with fail;go_ret2;refine⟨hB,?_⟩;rw[HE.out];rfl
       ·have hva:=b64p.valI_le (s[i+1]'h1);by_cases hb:b64p.valI (s[i+2]'h2)<0
        ·have HE:Hid (signs s.data.toList=none):=sgAt_none hA.out hlt h92'.out (by rw[hdc,hdc2];exact esc_nohex hp (Or.inr hb));generalize b64p.valI (s[i+1]'h1)=va at CV1 ha hva;generalize b64p.valI (s[i+2]'h2)=vb at CV2 hb;clear hsp hp hdc hdc2 hva;go_wp2_with fail;refine(CS.out _).mono ?_;rintro e w2 ⟨rfl,rfl⟩;go_wp2_with fail;refine(CV1.out _).mono ?_;rintro e w2 ⟨rfl,rfl⟩;go_wp2_with fail;refine(CV2.out _).mono ?_;rintro e w2 ⟨rfl,rfl⟩;go_wp2_with fail;go_ret2;refine⟨hB,?_⟩;rw[HE.out];rfl
        ·have hvb:=b64p.valI_le (s[i+2]'h2);have HA:=sgAt_esc hA.out hlt h92'.out (by rw[hdc,hdc2];exact esc_hex hp (by omega));generalize b64p.valI (s[i+1]'h1)=va at CV1 ha hva HA;generalize b64p.valI (s[i+2]'h2)=vb at CV2 hb hvb HA;obtain⟨A,rfl⟩:=Int.eq_ofNat_of_zero_le (show 0≤va by omega);obtain⟨C,rfl⟩:=Int.eq_ofNat_of_zero_le (show 0≤vb by omega);obtain⟨m,hm⟩: ∃m:UInt8,m=UInt8.ofNat (16*(A:Int)+(C:Int)).toNat:=⟨_,rfl⟩;rw[←hm]at HA;have em:(m.toNat:Int)=16*A+C:=(by rw[hm,UInt8.toNat_ofNat'];omega);have HA:=Lib.hid HA;obtain⟨v',w1,hap,hO1,hB1⟩:=ownS_app (w:=wr.drew) (m,false) (ownS_below hO.out (Below.refl _ _).drew) (by omega) hsz;obtain⟨ao9,m9,cap9,rfl,hm9,hc9⟩:=ownS_letters hO1;dsimp only at hap;rw[em]at hap;have HO1:=Lib.hid hO1;have HB1:=Lib.hid (hB.drew.trans hB1);clear hO1 hB1 hsp hp hdc hdc2 hm em;have k1:(0:Int)≤(A:Int):=(by omega);have z1:(0:Int)≤(i:Int)+1:=(by omega);have z2:(0:Int)≤(i:Int)+2:=(by omega);have y1:IntKind.i64.wrap ((i:Int)+1)=(i:Int)+1:=IntWalk.i64_in _ (by omega);have y2:IntKind.i64.wrap ((i:Int)+2)=(i:Int)+2:=IntWalk.i64_in _ (by omega);have y3:((i:Int)+1).toNat=i+1:=(by omega);have y4:((i:Int)+2).toNat=i+2:=(by omega);have k2:(0:Int)≤(C:Int):=(by omega);have k3:(A:Int)≤15:=(by omega);have k4:(C:Int)≤15:=(by omega);clear hva hvb ha hb;have r1:IntKind.i64.wrap (16*(A:Int))=16*(A:Int):=IntWalk.i64_in _ (by omega);have r2:IntKind.i64.wrap (16*(A:Int)+(C:Int))=16*(A:Int)+(C:Int):=IntWalk.i64_in _ (by omega);have r3:(16*(A:Int)+(C:Int)) % 256=16*(A:Int)+(C:Int):=(by omega);have r4:IntKind.u8.wrap (16*(A:Int)+(C:Int))=16*(A:Int)+(C:Int):=(by rw[IntKind.wrap_u8];omega);have m1: ¬ (A:Int)<0:=(by omega);have m2: ¬ (C:Int)<0:=(by omega);obtain⟨n1,en1⟩: ∃n:Nat,(s[i+1]'h1).toNat=n:=⟨_,rfl⟩;obtain⟨n2,en2⟩: ∃n:Nat,(s[i+2]'h2).toNat=n:=⟨_,rfl⟩;rw[en1]at CS CV1 p1 p2;rw[en2]at CV2;go_wp2_with fail;refine(CS.out _).mono ?_;rintro e w2 ⟨rfl,rfl⟩;go_wp2_with fail;refine(CV1.out _).mono ?_;rintro e w2 ⟨rfl,rfl⟩;go_wp2_with fail;refine(CV2.out _).mono ?_;rintro e w2 ⟨rfl,rfl⟩;go_wp2_with fail;go_region_held3 (fun _=>True) (trivial)
          (first | (go_at_call_of 207 (Value.int IntKind.u8 (n1:Int));refine(CV1.out _).mono ?_;rintro e w' ⟨rfl,rfl⟩) | (go_at_call_of 207 (Value.int IntKind.u8 (n2:Int));refine(CV2.out _).mono ?_;rintro e w' ⟨rfl,rfl⟩) | (refine kt.step_append_run rfl _ _ _ _ rfl _ _ rfl rfl _ _ hap ?_))
         all_goals
          go_wp2_with fail;go_roundw;case rel=>exact⟨i+1+2,_,by omega,by go_num,HO1,by simp;omega,HA,HB1.out⟩
          case measure=>simp[intOf];omega
      ·have h2':(s.size:Int)≤(i:Int)+2:=(by omega);have HE:Hid (signs s.data.toList=none):=sgAt_none hA.out hlt h92'.out (by rw[hdc,List.drop_of_length_le (by simp;omega)];exact esc_one hp);clear hsp hp hdc;go_wp2_with fail;refine(CS.out _).mono ?_;rintro e w2 ⟨rfl,rfl⟩;go_wp2_with fail;go_ret2;refine⟨hB,?_⟩;rw[HE.out];rfl
    ·have h1': ¬ (i:Int)+1<(s.size:Int):=(by omega);have h2':(s.size:Int)≤(i:Int)+2:=(by omega);have HE:Hid (signs s.data.toList=none):=sgAt_none hA.out hlt h92'.out (by rw[List.drop_of_length_le (by simp;omega)];rfl);go_wp2_with fail;go_ret2;refine⟨hB,?_⟩;rw[HE.out];rfl
   ·have q1:(((s[i]'hlt).toNat:Int)==92)=false:=(by rw[beq_eq_false_iff_ne];exact h92);have q2:(((s[i]'hlt).toNat:Int) !=92)=true:=(by rw[bne_iff_ne];exact h92);obtain⟨v',w1,hap,hO1,hB1⟩:=ownS_app (s[i]'hlt,true) hO.out (by omega) hsz;dsimp only at hap;have HA:=Lib.hid (sgAt_bare hA.out hlt (u8_ne (n:=92) (by omega) h92));have HO1:=Lib.hid hO1;have HB1:=Lib.hid (hB.trans hB1);clear h92 hO1 hB1;go_wp2_with (at_builtin;refine Lib.wpList_append_run _ rfl _ _ _ _ rfl _ _ rfl rfl _ _ hap ?_);go_roundw;case rel=>exact⟨i+1,_,by omega,by go_num,HO1,by simp;omega,HA,HB1.out⟩
    case measure=>simp[intOf];omega
  ·obtain rfl:i=s.size:=(by omega);have HE:=Lib.hid (sgAt_end hA.out);go_wp2_with fail;go_ret2;refine⟨hB,?_⟩;rw[HE.out];have hmm:=hm.out;subst hmm;exact⟨ao,cap,rfl,hmc,hO.out⟩
end dnw
open Go.RowKit
namespace atw
open atp
def TB (w:World)(p:Nat)(nm:ByteArray)(syn:Int)(sg:Bool):Prop:=w.heap[p]? =some (.cells #[.string nm,.int .i64 syn,.bool sg] 108 (0,0))
theorem tb_new (w:World)(nm:ByteArray)(syn:Int)(sg:Bool):TB (w.alloc (.cells #[.string nm,.int .i64 syn,.bool sg] 108)) w.heap.size nm syn sg:=heap_alloc_new w _
theorem tb_cells {w:World}{p:Nat}{nm:ByteArray}{syn:Int}{sg:Bool}(h:TB w p nm syn sg):w.cell? ⟨p,0,none⟩=some (.string nm)∧w.cell? ⟨p,1,none⟩=some (.int .i64 syn)∧w.cell? ⟨p,2,none⟩=some (.bool sg):=⟨by rw[Lib.cell_of_heap h];rfl,by rw[Lib.cell_of_heap h];rfl,by rw[Lib.cell_of_heap h];rfl⟩
theorem tb_below {w w':World}{p:Nat}{nm:ByteArray}{syn:Int}{sg:Bool}(h:TB w p nm syn sg)(hb:Below w.heap.size w w'):TB w' p nm syn sg:=(hb.block p (kt.bld_lt h)).trans h
def bothL (syn:Int)(a b:List UInt8):List UInt8 × List UInt8 × Int:=if(normL syn a).2≠0 then([],[],(normL syn a).2)else if(normL syn b).2≠0 then([],[],(normL syn b).2)else((normL syn a).1,(normL syn b).1,0)
def eqL (syn:Int)(a b:List UInt8):Bool × Int:=(decide ((bothL syn a b).2.2=0)&&decide ((bothL syn a b).1=(bothL syn a b).2.1),(bothL syn a b).2.2)
def ordS (syn:Int):Bool:=decide (syn=1)||decide (syn=2)||decide (syn=4)
def ordL (syn:Int)(a b:List UInt8):Int × Int:=
 if ordS syn=false then(0,20)else if(bothL syn a b).2.2≠0 then(0,(bothL syn a b).2.2)else
  if syn=4 then(Lib.compareInt (worth (bothL syn a b).1) (worth (bothL syn a b).2.1),0)else(Lib.compareBytes (bothL syn a b).1 (bothL syn a b).2.1,0)
theorem norm_num {a:List UInt8}(h:(normL 4 a).2=0):numOK (normL 4 a).1=true∧(normL 4 a).1.length≤19:=by
 have hle: ∀l,numOK l=true→l.length≤19:=by
  intro l hl;unfold numOK at hl;rw[Bool.or_eq_true]at hl;rcases hl with hl | hl
  ·rw[decide_eq_true_iff]at hl;subst hl;decide
  ·simp only[Bool.and_eq_true,decide_eq_true_eq]at hl;have h2:=hl.1.1.2;unfold bare at h2;split at h2
   ·rw[List.length_tail]at h2;omega
   ·omega
 unfold normL at h ⊢;rw[if_neg (by decide)]at h ⊢;split at h
 ·cases h
 ·split at h
  ·cases h
  ·rename_i h1 h2;rw[if_neg h1,if_neg h2];have hf:formO 4 a=if numOK a=true then some a else none:=rfl;rw[hf]at h ⊢;by_cases hn:numOK a=true
   ·rw[if_pos hn];exact⟨hn,hle a hn⟩
   ·rw[if_neg hn]at h;cases h
theorem both_any (nm:ByteArray)(syn:Int)(sg:Bool)(a b:ByteArray)(w:World)(ha:a.size≤140737488351232)(hb:b.size≤140737488351232)(hE:Hid (prw.Env w))(hT:Hid (dnw.Tabs w)):
  Calls Tryz.prog 201 #[.agg #[.string nm,.int .i64 syn,.bool sg],.string a,.string b] w fun e w'=>e= .returned (.tuple #[.string (bs (bothL syn a.data.toList b.data.toList).1),.string (bs (bothL syn a.data.toList b.data.toList).2.1),.int .i64 (bothL syn a.data.toList b.data.toList).2.2])∧Below w.heap.size w w':=by
 obtain⟨W0,hW0⟩: ∃W,w.alloc (.cells #[.string nm,.int .i64 syn,.bool sg] 108)=W:=⟨_,rfl⟩;have hB0:Below w.heap.size w W0:=by rw[←hW0];exact(Below.refl _ _).alloc (Nat.le_refl _) _
 have HB0:=Lib.hid hB0;have hw0:w.heap.size≤W0.heap.size:=hB0.size;have HTB0:Hid (TB W0 w.heap.size nm syn sg):=by rw[←hW0];exact tb_new w nm syn sg
 obtain⟨k0,k1,k2⟩:=tb_cells HTB0.out;have HE0:=Lib.hid (prw.env_below hE.out hB0);have HT0:=Lib.hid (dnw.tabs_below hT.out hB0);have HNA:Hid (∀w,prw.Env w→dnw.Tabs w→Calls Tryz.prog 200 #[.agg #[.string nm,.int .i64 syn,.bool sg],.string a] w fun e w'=>e= .returned (normV (normL syn a.data.toList))∧Below w.heap.size w w'):=fun w h1 h2=>normal_any nm syn sg a w ha (Lib.hid h1) (Lib.hid h2);have HNB:Hid (∀w,prw.Env w→dnw.Tabs w→Calls Tryz.prog 200 #[.agg #[.string nm,.int .i64 syn,.bool sg],.string b] w fun e w'=>e= .returned (normV (normL syn b.data.toList))∧Below w.heap.size w w'):=fun w h1 h2=>normal_any nm syn sg b w hb (Lib.hid h1) (Lib.hid h2);unfold bothL;obtain⟨na,hna⟩: ∃u,normL syn a.data.toList=u:=⟨_,rfl⟩;obtain⟨nb,hnb⟩: ∃u,normL syn b.data.toList=u:=⟨_,rfl⟩;rw[hna]at HNA ⊢;rw[hnb]at HNB ⊢;clear hna hnb hB0;obtain⟨u,ea⟩:=na;obtain⟨v,eb⟩:=nb;have HNA2:Hid (∀w,prw.Env w→dnw.Tabs w→Calls Tryz.prog 200 #[.agg #[.string nm,.int .i64 syn,.bool sg],.string a] w fun e w'=>e= .returned (.tuple #[.string (bs u),.int .i64 ea])∧Below w.heap.size w w'):=HNA;have HNB2:Hid (∀w,prw.Env w→dnw.Tabs w→Calls Tryz.prog 200 #[.agg #[.string nm,.int .i64 syn,.bool sg],.string b] w fun e w'=>e= .returned (.tuple #[.string (bs v),.int .i64 eb])∧Below w.heap.size w w'):=HNB;clear HNA HNB;by_cases hea:ea=0
 ·have q:(ea !=0)=false:=by rw[bne_eq_false_iff_eq];exact hea
  rw[if_neg (not_not_intro hea)];clear hea;by_cases heb:eb=0
  ·have q2:(eb !=0)=false:=(by rw[bne_eq_false_iff_eq];exact heb);rw[if_neg (not_not_intro heb)];clear heb;go_enter Tryz.func201,Tryz.ntmps201;go_wp2_with fail;refine(HNA2.out _ HE0.out HT0.out).mono ?_;rintro e w1 ⟨rfl,hB1⟩;have HB1:=Lib.hid (HB0.out.trans (hB1.mono hw0));have HE1:=Lib.hid (prw.env_below HE0.out hB1);have HT1:=Lib.hid (dnw.tabs_below HT0.out hB1);obtain⟨m0,m1,m2⟩:=tb_cells (tb_below HTB0.out hB1);clear hB1 hW0 k0 k1 k2;go_wp2_with fail;refine(HNB2.out _ HE1.out HT1.out).mono ?_;rintro e w2 ⟨rfl,hB2⟩;have HB2:=Lib.hid (HB1.out.trans (hB2.mono HB1.out.size));clear hB2;go_wp2_with fail;go_ret3;exact⟨rfl,HB2.out⟩
  ·have q2:(eb !=0)=true:=(by rw[bne_iff_ne];exact heb);rw[if_pos heb];clear heb;go_enter Tryz.func201,Tryz.ntmps201;go_wp2_with fail;refine(HNA2.out _ HE0.out HT0.out).mono ?_;rintro e w1 ⟨rfl,hB1⟩;have HB1:=Lib.hid (HB0.out.trans (hB1.mono hw0));have HE1:=Lib.hid (prw.env_below HE0.out hB1);have HT1:=Lib.hid (dnw.tabs_below HT0.out hB1);obtain⟨m0,m1,m2⟩:=tb_cells (tb_below HTB0.out hB1);clear hB1 hW0 k0 k1 k2;go_wp2_with fail;refine(HNB2.out _ HE1.out HT1.out).mono ?_;rintro e w2 ⟨rfl,hB2⟩;have HB2:=Lib.hid (HB1.out.trans (hB2.mono HB1.out.size));clear hB2;go_wp2_with fail;go_ret3;exact⟨rfl,HB2.out⟩
 ·have q:(ea !=0)=true:=by rw[bne_iff_ne];exact hea
  rw[if_pos hea];clear hea;go_enter Tryz.func201,Tryz.ntmps201;go_wp2_with fail;refine(HNA2.out _ HE0.out HT0.out).mono ?_;rintro e w1 ⟨rfl,hB1⟩;have HB1:=Lib.hid (HB0.out.trans (hB1.mono hw0));clear hB1 hW0;go_wp2_with fail;go_ret3;exact⟨rfl,HB1.out⟩
theorem equal_any (nm:ByteArray)(syn:Int)(sg:Bool)(a b:ByteArray)(w:World)(ha:a.size≤140737488351232)(hb:b.size≤140737488351232)(hE:Hid (prw.Env w))(hT:Hid (dnw.Tabs w)):
  Calls Tryz.prog 148 #[.agg #[.string nm,.int .i64 syn,.bool sg],.string a,.string b] w fun e w'=>e= .returned (.tuple #[.bool (eqL syn a.data.toList b.data.toList).1,.int .i64 (eqL syn a.data.toList b.data.toList).2])∧Below w.heap.size w w':=by
 obtain⟨W0,hW0⟩: ∃W,w.alloc (.cells #[.string nm,.int .i64 syn,.bool sg] 108)=W:=⟨_,rfl⟩;have hB0:Below w.heap.size w W0:=by rw[←hW0];exact(Below.refl _ _).alloc (Nat.le_refl _) _
 have HB0:=Lib.hid hB0;have hw0:w.heap.size≤W0.heap.size:=hB0.size;have HTB0:Hid (TB W0 w.heap.size nm syn sg):=by rw[←hW0];exact tb_new w nm syn sg
 obtain⟨k0,k1,k2⟩:=tb_cells HTB0.out;have HE0:=Lib.hid (prw.env_below hE.out hB0);have HT0:=Lib.hid (dnw.tabs_below hT.out hB0);have HBO:Hid (∀w,prw.Env w→dnw.Tabs w→Calls Tryz.prog 201 #[.agg #[.string nm,.int .i64 syn,.bool sg],.string a,.string b] w fun e w'=>e= .returned (.tuple #[.string (bs (bothL syn a.data.toList b.data.toList).1),.string (bs (bothL syn a.data.toList b.data.toList).2.1),.int .i64 (bothL syn a.data.toList b.data.toList).2.2])∧Below w.heap.size w w'):=fun w h1 h2=>both_any nm syn sg a b w ha hb (Lib.hid h1) (Lib.hid h2);unfold eqL;generalize bothL syn a.data.toList b.data.toList=bo at HBO ⊢;obtain⟨u,v,er⟩:=bo;simp only at HBO ⊢;have heq:=bs_beq u v;clear hB0;obtain⟨c,hc⟩: ∃c,decide (u=v)=c:=⟨_,rfl⟩;rw[hc]at heq ⊢;clear hc;by_cases her:er=0
 ·have q:(er==0)=true:=by rw[beq_iff_eq];exact her
  rw[decide_eq_true her];clear her;go_enter Tryz.func148,Tryz.ntmps148;go_wp2_with fail;refine(HBO.out _ HE0.out HT0.out).mono ?_;rintro e w1 ⟨rfl,hB1⟩;have HB1:=Lib.hid (HB0.out.trans (hB1.mono hw0));clear hB1 hW0;go_wp2_with fail;go_ret2;exact⟨rfl,HB1.out⟩
 ·have q:(er==0)=false:=by rw[beq_eq_false_iff_ne];exact her
  rw[decide_eq_false her];clear her;go_enter Tryz.func148,Tryz.ntmps148;go_wp2_with fail;refine(HBO.out _ HE0.out HT0.out).mono ?_;rintro e w1 ⟨rfl,hB1⟩;have HB1:=Lib.hid (HB0.out.trans (hB1.mono hw0));clear hB1 hW0;go_wp2_with fail;go_ret2;exact⟨rfl,HB1.out⟩
end atw
namespace ord
open Go.Lib
theorem u8_trans {a b c:UInt8}(h:a<b)(k:b<c):a<c:=by have h1:=UInt8.lt_iff_toNat_lt.1 h;have h2:=UInt8.lt_iff_toNat_lt.1 k;exact UInt8.lt_iff_toNat_lt.2 (by omega)
theorem cmp_trans: ∀ {a b c:List UInt8},compareBytes a b= -1→compareBytes b c= -1→compareBytes a c= -1
 | [],[],_,h,_=>by cases h
 | [],_::_,[],_,h=>by cases h
 | [],_::_,_::_,_,_=>rfl
 | _::_,[],_,h,_=>by cases h
 | _::_,_::_,[],_,h=>by cases h
 | a::s,b::t,c::u,h,k=>by
  rcases cmp_cases a b with h1 | h1 | rfl
  ·rcases cmp_cases b c with k1 | k1 | rfl
   ·exact cmp_lt (u8_trans h1 k1) _ _
   ·rw[cmp_gt k1]at k;cases k
   ·exact cmp_lt h1 _ _
  ·rw[cmp_gt h1]at h;cases h
  ·rcases cmp_cases a c with k1 | k1 | rfl
   ·exact cmp_lt k1 _ _
   ·rw[cmp_gt k1]at k;cases k
   ·rw[cmp_same]at h k ⊢;exact cmp_trans h k
end ord
namespace ord
open Go.Lib
theorem less_cmp: ∀a b:List UInt8,Op.bytesLess a b=decide (compareBytes a b= -1)
 | [],[]=>rfl
 | [],_::_=>rfl
 | _::_,[]=>rfl
 | a::s,b::t=>by
  rcases cmp_cases a b with h | h | rfl
  ·rw[cmp_lt h];simp[Op.bytesLess,h]
  ·rw[cmp_gt h];have hn: ¬a<b:=(by intro h';have h1:=UInt8.lt_iff_toNat_lt.1 h;have h2:=UInt8.lt_iff_toNat_lt.1 h';omega);have hne: ¬a=b:=(by rintro rfl;exact absurd (UInt8.lt_iff_toNat_lt.1 h) (by omega));simp[Op.bytesLess,hn,hne]
  ·rw[cmp_same,←less_cmp s t];simp[Op.bytesLess]
theorem cmp_zero: ∀a b:List UInt8,compareBytes a b=0↔a=b
 | [],[]=>by simp[compareBytes]
 | [],_::_=>by simp[compareBytes]
 | _::_,[]=>by simp[compareBytes]
 | a::s,b::t=>by
  rcases cmp_cases a b with h | h | rfl
  ·rw[cmp_lt h];have:a≠b:=(by rintro rfl;exact absurd (UInt8.lt_iff_toNat_lt.1 h) (by omega));simp[this]
  ·rw[cmp_gt h];have:a≠b:=(by rintro rfl;exact absurd (UInt8.lt_iff_toNat_lt.1 h) (by omega));simp[this]
  ·rw[cmp_same,cmp_zero s t];simp
end ord
namespace atp
open atw
theorem both_ok {syn:Int}{a b:List UInt8}(ha:(normL syn a).2=0)(hb:(normL syn b).2=0):bothL syn a b=((normL syn a).1,(normL syn b).1,0):=by unfold bothL;rw[if_neg (not_not_intro ha),if_neg (not_not_intro hb)]
theorem both_err {syn:Int}{a b:List UInt8}:(bothL syn a b).2.2=0↔(normL syn a).2=0∧(normL syn b).2=0:=by
 unfold bothL;by_cases ha:(normL syn a).2=0
 ·by_cases hb:(normL syn b).2=0
  ·rw[if_neg (not_not_intro ha),if_neg (not_not_intro hb)];exact⟨fun _=>⟨ha,hb⟩,fun _=>rfl⟩
  ·rw[if_neg (not_not_intro ha),if_pos hb];exact⟨fun h=>absurd h hb,fun h=>absurd h.2 hb⟩
 ·rw[if_pos ha];exact⟨fun h=>absurd h ha,fun h=>absurd h.1 ha⟩
theorem eq_ok {syn:Int}{a b:List UInt8}(ha:(normL syn a).2=0)(hb:(normL syn b).2=0):eqL syn a b=(decide ((normL syn a).1=(normL syn b).1),0):=by unfold eqL;rw[both_ok ha hb];rfl
end atp
namespace etp
open atp atw
structure At where
 t:ByteArray
 vs:List ByteArray
structure En where
 rdn:List dnw.Av
 ats:List At
def okV (syn:Int)(v:ByteArray):Bool:=decide ((normL syn v.data.toList).2=0)
def nv (syn:Int)(v:ByteArray):List UInt8:=(normL syn v.data.toList).1
def alike (syn:Int)(a b:ByteArray):Bool:=(eqL syn a.data.toList b.data.toList).1
theorem alike_iff {syn:Int}{a b:ByteArray}:alike syn a b=true↔okV syn a=true∧okV syn b=true∧nv syn a=nv syn b:=by
 unfold alike okV nv;rw[decide_eq_true_iff,decide_eq_true_iff];by_cases ha:(normL syn a.data.toList).2=0
 ·by_cases hb:(normL syn b.data.toList).2=0
  ·rw[eq_ok ha hb,decide_eq_true_iff];exact⟨fun h=>⟨ha,hb,h⟩,fun h=>h.2.2⟩
  ·refine⟨fun h=> ?_,fun h=>absurd h.2.1 hb⟩;unfold eqL at h;rw[Bool.and_eq_true,decide_eq_true_iff]at h;exact absurd (both_err.1 h.1).2 hb
 ·refine⟨fun h=> ?_,fun h=>absurd h.1 ha⟩;unfold eqL at h;rw[Bool.and_eq_true,decide_eq_true_iff]at h;exact absurd (both_err.1 h.1).1 ha
theorem alike_err {syn:Int}{a b:ByteArray}(h:alike syn a b=true):(eqL syn a.data.toList b.data.toList).2=0:=by unfold alike eqL at h;rw[Bool.and_eq_true,decide_eq_true_iff]at h;exact h.1
theorem alike_self {syn:Int}{a:ByteArray}(h:okV syn a=true):alike syn a a=true:=alike_iff.2 ⟨h,h,rfl⟩
def likeN (syn:Int)(l:List ByteArray)(v:ByteArray):Option Nat:=l.findIdx? fun x=>alike syn x v
def likeI (syn:Int)(l:List ByteArray)(v:ByteArray):Int:=match likeN syn l v with
 | some i=>(i:Int)
 | none=> -1
theorem likeI_neg {syn:Int}{l:List ByteArray}{v:ByteArray}:likeI syn l v<0↔likeN syn l v=none:=by
 unfold likeI;cases likeN syn l v with
 | none=>simp
 | some i=>simp
theorem likeN_none {syn:Int}{l:List ByteArray}{v:ByteArray}:likeN syn l v=none↔ ∀x∈l,alike syn x v=false:=by unfold likeN;rw[List.findIdx?_eq_none_iff]
theorem likeI_hit {syn:Int}{l:List ByteArray}{v:ByteArray}{i:Nat}(hi:i<l.length)(h1:alike syn l[i] v=true)(h2: ∀j (hj:j<l.length),j<i→alike syn l[j] v=false):likeI syn l v=(i:Int):=by
 have:likeN syn l v=some i:=by unfold likeN;rw[List.findIdx?_eq_some_iff_getElem];exact⟨hi,h1,fun j hj=>by simpa using h2 j (by omega) hj⟩
 unfold likeI;rw[this]
theorem likeI_none {syn:Int}{l:List ByteArray}{v:ByteArray}(h: ∀j (hj:j<l.length),alike syn l[j] v=false):likeI syn l v= -1:=by
 have:likeN syn l v=none:=by rw[likeN_none];intro x hx;obtain⟨j,hj,rfl⟩:=List.mem_iff_getElem.1 hx;exact h j hj
 unfold likeI;rw[this]
def fresh (syn:Int):List ByteArray→List ByteArray→Bool
 | _,[]=>true
 | p,v::r=>okV syn v&&decide (likeI syn p v<0)&&fresh syn (p++[v]) r
theorem fresh_iff {syn:Int}: ∀ (vs p:List ByteArray),(∀x∈p,okV syn x=true)→(p.map (nv syn)).Nodup→(fresh syn p vs=true↔(∀v∈vs,okV syn v=true)∧((p++vs).map (nv syn)).Nodup)
 | [],p,h1,h2=>by simp only[fresh,List.append_nil,true_iff];exact⟨fun v hv=>(by cases hv),h2⟩
 | v::r,p,h1,h2=>by
  rw[fresh,Bool.and_eq_true,Bool.and_eq_true,decide_eq_true_iff,likeI_neg,likeN_none];have key:okV syn v=true→((∀x∈p,alike syn x v=false)↔nv syn v∉p.map (nv syn)):=by
   intro hv;constructor
   ·intro h hm;obtain⟨x,hx,e⟩:=List.mem_map.1 hm;have:=h x hx;rw[alike_iff.2 ⟨h1 x hx,hv,e⟩]at this;cases this
   ·intro h x hx;rw[Bool.eq_false_iff];intro ha;exact h (List.mem_map.2 ⟨x,hx,(alike_iff.1 ha).2.2⟩)
  have ass:p++v::r=(p++[v])++r:=by simp
  constructor
  ·rintro⟨⟨hv,hl⟩,hf⟩;have hn:((p++[v]).map (nv syn)).Nodup:=(by rw[List.map_append,List.nodup_append];refine⟨h2,by simp,?_⟩;intro a ha b hb e;simp only[List.map_cons,List.map_nil,List.mem_singleton]at hb;subst hb;subst e;exact(key hv).1 hl ha);have ih:=(fresh_iff r (p++[v]) (by
    intro x hx;rcases List.mem_append.1 hx with h | h
    ·exact h1 x h
    ·rw[List.mem_singleton]at h;rw[h];exact hv) hn).1 hf
   refine⟨fun u hu=> ?_,by rw[ass];exact ih.2⟩;rcases List.mem_cons.1 hu with rfl | hu
   ·exact hv
   ·exact ih.1 u hu
  ·rintro⟨ho,hn⟩;have hv:=ho v (by simp);rw[ass,List.map_append,List.nodup_append]at hn;obtain⟨hn1,hn2,hn3⟩:=hn;have hn1':=hn1;rw[List.map_append,List.nodup_append]at hn1';refine⟨⟨hv,(key hv).2 fun hm=>hn1'.2.2 _ hm _ (by simp) rfl⟩,?_⟩;refine(fresh_iff r (p++[v]) ?_ hn1).2 ⟨fun u hu=>ho u (by simp[hu]),?_⟩
   ·intro x hx;rcases List.mem_append.1 hx with h | h
    ·exact h1 x h
    ·rw[List.mem_singleton]at h;rw[h];exact hv
   ·rw[List.map_append,List.nodup_append];exact⟨hn1,hn2,hn3⟩
def mostT (single:Bool):Nat:=if single then 1 else 20
def valsOK (t:Ty)(vs:List ByteArray):Bool:=decide (1≤vs.length)&&decide (vs.length≤mostT t.single)&&fresh t.syn [] vs
def faultI (syn:Int):List ByteArray→Int
 | []=>0
 | v::r=>if(normL syn v.data.toList).2≠0 then(normL syn v.data.toList).2 else faultI syn r
theorem fault_zero {syn:Int}: ∀l:List ByteArray,faultI syn l=0↔ ∀v∈l,okV syn v=true
 | []=>by simp[faultI]
 | v::r=>by
  unfold faultI;by_cases h:(normL syn v.data.toList).2=0
  ·rw[if_neg (not_not_intro h),fault_zero r];constructor
   ·intro h1 u hu;rcases List.mem_cons.1 hu with rfl | hu
    ·exact decide_eq_true h
    ·exact h1 u hu
   ·exact fun h1 u hu=>h1 u (by simp[hu])
  ·rw[if_pos h];exact⟨fun h1=>absurd h1 h,fun h1=>absurd (of_decide_eq_true (h1 v (by simp))) h⟩
def tyOf (t:ByteArray):Option Ty:=findS t.data.toList
theorem tys_low: ∀j:Fin 20,sml.lowL (tys[j.val]'(j.isLt)).name=(tys[j.val]'(j.isLt)).name:=by decide+kernel
theorem low_name {t:Ty}(h:t∈tys):sml.lowL t.name=t.name:=by obtain⟨i,hi,rfl⟩:=List.mem_iff_getElem.1 h;exact tys_low ⟨i,hi⟩
theorem find_low {n:List UInt8}{ty:Ty}:(findS (sml.lowL n)=some ty∧ty.name=n)↔findS n=some ty:=by
 constructor
 ·rintro⟨h,rfl⟩;have:=(findS_some h).1;rw[low_name this]at h;exact h
 ·intro h;obtain⟨h1,rfl⟩:=findS_some h;rw[low_name h1];exact⟨h,rfl⟩
def atOK (a:At):Bool:=match tyOf a.t with
 | none=>false
 | some ty=>valsOK ty a.vs
def ltB (a b:ByteArray):Bool:=decide (Lib.compareBytes a.data.toList b.data.toList= -1)
def atsF:Option ByteArray→List At→Bool
 | _,[]=>true
 | p,a::r=>atOK a&&(match p with
  | none=>true
  | some q=>ltB q a.t)&&atsF (some a.t) r
def rightE (e:En):Bool:=dnw.rdnOK e.rdn&&atsF none e.ats
def valsA (ats:List At)(n:ByteArray):List ByteArray:=match ats.find? fun a=>decide (a.t=n)with
 | some a=>a.vs
 | none=>[]
def withF (n:ByteArray)(l:List ByteArray):Bool→List At→List At
 | done,[]=>if done then[]else[⟨n,l⟩]
 | done,a::r=>
  let put:= !done&& !ltB a.t n
  let here:List At:=if put then[⟨n,l⟩]else[]
  let stays:List At:=if a.t=n then[]else[a]
  here++stays++withF n l (done||put) r
def withE (e:En)(n:ByteArray)(l:List ByteArray):En:=⟨e.rdn,withF n l (decide (l=[])) e.ats⟩
def joinF (syn:Int):List ByteArray→List ByteArray→Option (List ByteArray)
 | all,[]=>some all
 | all,v::r=>if likeI syn all v<0 then joinF syn (all++[v]) r else none
def dropF (syn:Int):List ByteArray→List ByteArray→Option (List ByteArray)
 | left,[]=>some left
 | left,v::r=>match likeN syn left v with
  | none=>none
  | some k=>dropF syn (left.take k++left.drop (k+1)) r
end etp
namespace etp
open atp atw
theorem bytes_inj {a b:ByteArray}(h:a.data.toList=b.data.toList):a=b:=kt.str_eq h
theorem ltB_trans {a b c:ByteArray}(h1:ltB a b=true)(h2:ltB b c=true):ltB a c=true:=by unfold ltB at*;rw[decide_eq_true_iff]at*;exact ord.cmp_trans h1 h2
theorem ltB_irr (a:ByteArray):ltB a a=false:=by unfold ltB;rw[decide_eq_false_iff_not,(ord.cmp_zero _ _).2 rfl];decide
theorem ltB_ne {a b:ByteArray}(h:ltB a b=true):a≠b:=by rintro rfl;rw[ltB_irr]at h;cases h
theorem ltB_asym {a b:ByteArray}(h:ltB a b=true):ltB b a=false:=by rw[Bool.eq_false_iff];intro h2;have:=ltB_trans h h2;rw[ltB_irr]at this;cases this
theorem ltB_three (a b:ByteArray):ltB a b=true∨a=b∨ltB b a=true:=by
 rcases ord.cmp_three a.data.toList b.data.toList with h | h | h
 ·exact Or.inl (decide_eq_true h)
 ·exact Or.inr (Or.inl (bytes_inj ((ord.cmp_zero _ _).1 h)))
 ·refine Or.inr (Or.inr (decide_eq_true ?_));rw[ord.cmp_neg,h]
theorem atsF_iff: ∀ (L:List At) (p:Option ByteArray),atsF p L=true↔(∀a∈L,atOK a=true)∧L.Pairwise (fun a b=>ltB a.t b.t=true)∧(∀q,p=some q→ ∀a∈L,ltB q a.t=true)
 | [],p=>by simp[atsF]
 | a::r,p=>by
  unfold atsF;rw[Bool.and_eq_true,Bool.and_eq_true,atsF_iff r (some a.t),List.pairwise_cons];constructor
  ·rintro⟨⟨h1,h2⟩,h3,h4,h5⟩;have hq: ∀q,p=some q→ltB q a.t=true:=(by rintro q rfl;exact h2);refine⟨fun b hb=> ?_,⟨fun b hb=>h5 _ rfl b hb,h4⟩,fun q hp b hb=> ?_⟩
   ·rcases List.mem_cons.1 hb with rfl | hb
    ·exact h1
    ·exact h3 b hb
   ·rcases List.mem_cons.1 hb with rfl | hb
    ·exact hq q hp
    ·exact ltB_trans (hq q hp) (h5 _ rfl b hb)
  ·rintro⟨h1,⟨h2,h3⟩,h4⟩;refine⟨⟨h1 a (by simp),?_⟩,fun b hb=>h1 b (by simp[hb]),h3,fun q hq b hb=> ?_⟩
   ·cases p with
    | none=>rfl
    | some q=>exact h4 q rfl a (by simp)
   ·cases hq;exact h2 b hb
structure Part (n:ByteArray)(L lo mid hi:List At):Prop where
 eq:L=lo++(mid++hi)
 lo: ∀a∈lo,ltB a.t n=true
 hi: ∀a∈hi,ltB n a.t=true
 mid:mid=[]∨ ∃v,mid=[⟨n,v⟩]
theorem part_of (n:ByteArray): ∀ (L:List At) (p:Option ByteArray),atsF p L=true→ ∃lo mid hi,Part n L lo mid hi
 | [],_,_=>⟨[],[],[],⟨rfl,by simp,by simp,Or.inl rfl⟩⟩
 | a::r,p,h=>by
  obtain⟨h1,h2,h3⟩:=(atsF_iff _ _).1 h;rw[List.pairwise_cons]at h2;rcases ltB_three a.t n with hl | he | hg
  ·have hr:atsF (some a.t) r=true:=(atsF_iff _ _).2 ⟨fun b hb=>h1 b (by simp[hb]),h2.2,fun q hq b hb=>by cases hq;exact h2.1 b hb⟩;obtain⟨lo,mid,hi,hp⟩:=part_of n r (some a.t) hr;refine⟨a::lo,mid,hi,⟨by rw[hp.eq];rfl,fun b hb=> ?_,hp.hi,hp.mid⟩⟩;rcases List.mem_cons.1 hb with rfl | hb
   ·exact hl
   ·exact hp.lo b hb
  ·refine⟨[],[a],r,⟨rfl,by simp,fun b hb=> ?_,Or.inr ⟨a.vs,?_⟩⟩⟩
   ·rw[←he];exact h2.1 b hb
   ·cases a;cases he;rfl
  ·refine⟨[],[],a::r,⟨rfl,by simp,fun b hb=> ?_,Or.inl rfl⟩⟩;rcases List.mem_cons.1 hb with rfl | hb
   ·exact hg
   ·exact ltB_trans hg (h2.1 b hb)
theorem withF_hi (n:ByteArray)(l:List ByteArray): ∀hi:List At,(∀a∈hi,ltB n a.t=true)→withF n l true hi=hi
 | [],_=>rfl
 | a::r,h=>by have ha:=h a (by simp);show(if(!true&& !ltB a.t n)=true then[⟨n,l⟩]else[])++(if a.t=n then[]else[a])++withF n l (true||(!true&& !ltB a.t n)) r=_;rw[if_neg (by simp),if_neg (fun e=>ltB_ne ha e.symm),Bool.true_or,withF_hi n l r (fun b hb=>h b (by simp[hb]))];rfl
theorem withF_put (n:ByteArray)(l:List ByteArray)(hi:List At)(h: ∀a∈hi,ltB n a.t=true):withF n l false hi=⟨n,l⟩::hi:=by
 cases hi with
 | nil=>rfl
 | cons a r=>have ha:=h a (by simp);have hf:ltB a.t n=false:=ltB_asym ha;show(if(!false&& !ltB a.t n)=true then[⟨n,l⟩]else[])++(if a.t=n then[]else[a])++withF n l (false||(!false&& !ltB a.t n)) r=_;rw[hf,if_pos (by simp),if_neg (fun e=>ltB_ne ha e.symm)];rw[show(false||(!false&& !false))=true from rfl,withF_hi n l r (fun b hb=>h b (by simp[hb]))];rfl
theorem withF_lo (n:ByteArray)(l:List ByteArray)(d:Bool): ∀ (lo L:List At),(∀a∈lo,ltB a.t n=true)→withF n l d (lo++L)=lo++withF n l d L
 | [],L,_=>rfl
 | a::r,L,h=>by have ha:=h a (by simp);show(if(!d&& !ltB a.t n)=true then[⟨n,l⟩]else[])++(if a.t=n then[]else[a])++withF n l (d||(!d&& !ltB a.t n)) (r++L)=_;rw[ha,if_neg (by simp),if_neg (ltB_ne ha)];rw[show(d||(!d&& !true))=d by cases d<;>rfl,withF_lo n l d r L (fun b hb=>h b (by simp[hb]))];rfl
theorem withF_mid (n:ByteArray)(l:List ByteArray)(d:Bool){mid hi:List At}(hm:mid=[]∨ ∃v,mid=[⟨n,v⟩])(h: ∀a∈hi,ltB n a.t=true):withF n l d (mid++hi)=if d then hi else⟨n,l⟩::hi:=by
 rcases hm with rfl | ⟨v,rfl⟩
 ·cases d with
  | true=>exact withF_hi n l hi h
  | false=>exact withF_put n l hi h
 ·show(if(!d&& !ltB n n)=true then[⟨n,l⟩]else[])++(if n=n then[]else[⟨n,v⟩])++withF n l (d||(!d&& !ltB n n)) hi=_;rw[ltB_irr,if_pos rfl];rw[show(d||(!d&& !false))=true by cases d<;>rfl,withF_hi n l hi h];cases d<;>rfl
theorem with_part {n:ByteArray}{L lo mid hi:List At}(h:Part n L lo mid hi)(l:List ByteArray)(d:Bool):withF n l d L=lo++((if d then[]else[⟨n,l⟩])++hi):=by rw[h.eq,withF_lo n l d lo _ h.lo,withF_mid n l d h.mid h.hi];cases d<;>rfl
theorem part_with {n:ByteArray}{L lo mid hi:List At}(h:Part n L lo mid hi)(l:List ByteArray)(d:Bool):Part n (withF n l d L) lo (if d then[]else[⟨n,l⟩]) hi:=⟨with_part h l d,h.lo,h.hi,by cases d;exact Or.inr ⟨l,rfl⟩;exact Or.inl rfl⟩
def midV:List At→List ByteArray
 | []=>[]
 | a::_=>a.vs
theorem vals_part {n:ByteArray}{L lo mid hi:List At}(h:Part n L lo mid hi):valsA L n=midV mid:=by
 obtain⟨he,hlo,hhi,hmid⟩:=h;subst he;unfold valsA;rw[List.find?_append,List.find?_eq_none.2 (by intro a ha;simpa using ltB_ne (hlo a ha))];rcases hmid with rfl | ⟨v,rfl⟩
 ·rw[List.nil_append,List.find?_eq_none.2 (by intro a ha;simpa using(ltB_ne (hhi a ha)).symm)];rfl
 ·simp[midV]
theorem with_right {n:ByteArray}{L:List At}(h:atsF none L=true){l:List ByteArray}{d:Bool}(hl:d=false→atOK ⟨n,l⟩=true):atsF none (withF n l d L)=true:=by
 obtain⟨lo,mid,hi,hp⟩:=part_of n L none h;obtain⟨h1,h2,_⟩:=(atsF_iff _ _).1 h;rw[with_part hp l d];rw[hp.eq]at h1 h2;rw[List.pairwise_append,List.pairwise_append]at h2;obtain⟨a1,⟨a2,a3,a4⟩,a5⟩:=h2;refine(atsF_iff _ _).2 ⟨?_,?_,by simp⟩
 ·intro a ha;rcases List.mem_append.1 ha with ha | ha
  ·exact h1 a (by simp[ha])
  ·rcases List.mem_append.1 ha with ha | ha
   ·cases d with
    | true=>cases ha
    | false=>rw[if_neg (by simp),List.mem_singleton]at ha;subst ha;exact hl rfl
   ·exact h1 a (by simp[ha])
 ·rw[List.pairwise_append,List.pairwise_append];refine⟨a1,⟨?_,a3,?_⟩,?_⟩
  ·cases d<;>simp
  ·intro x hx y hy;cases d with
   | true=>cases hx
   | false=>rw[if_neg (by simp),List.mem_singleton]at hx;subst hx;exact hp.hi y hy
  ·intro x hx y hy;rcases List.mem_append.1 hy with hy | hy
   ·cases d with
    | true=>cases hy
    | false=>rw[if_neg (by simp),List.mem_singleton]at hy;subst hy;exact hp.lo x hx
   ·exact a5 x hx y (by simp[hy])
theorem with_back {n:ByteArray}{L:List At}(h:atsF none L=true)(l:List ByteArray):withF n (valsA L n) (decide (valsA L n=[])) (withF n l false L)=L:=by
 obtain⟨lo,mid,hi,hp⟩:=part_of n L none h;obtain⟨h1,_,_⟩:=(atsF_iff _ _).1 h;rw[with_part (part_with hp l false),vals_part hp];conv=>rhs;rw[hp.eq]
 rcases hp.mid with rfl | ⟨v,rfl⟩
 ·rfl
 ·show lo++((if decide (v=[])then[]else[⟨n,v⟩])++hi)=_;have hv:v≠[]:=by
   rintro rfl;have:=h1 ⟨n,[]⟩ (by rw[hp.eq];simp);unfold atOK at this;cases hty:tyOf n with
   | none=>rw[hty]at this;cases this
   | some ty=>rw[hty]at this;simp[valsOK]at this
  simp[hv]
theorem join_fresh {syn:Int}: ∀ (l p:List ByteArray),(∀v∈l,okV syn v=true)→joinF syn p l=if fresh syn p l=true then some (p++l)else none
 | [],p,_=>by simp[joinF,fresh]
 | v::r,p,h=>by
  unfold joinF fresh;rw[h v (by simp),Bool.true_and];by_cases hl:likeI syn p v<0
  ·rw[if_pos hl,join_fresh r (p++[v]) (fun u hu=>h u (by simp[hu])),decide_eq_true hl,Bool.true_and,List.append_assoc];rfl
  ·rw[if_neg hl,decide_eq_false hl,Bool.false_and,if_neg (by simp)]
theorem drop_back {syn:Int}: ∀ (l p:List ByteArray),(∀v∈p++l,okV syn v=true)→((p++l).map (nv syn)).Nodup→dropF syn (p++l) l=some p
 | [],p,_,_=>by simp[dropF]
 | v::r,p,h,hn=>by
  have hv:likeN syn (p++v::r) v=some p.length:=by
   unfold likeN;rw[List.findIdx?_eq_some_iff_getElem];refine⟨by simp,?_,fun j hj=> ?_⟩
   ·rw[List.getElem_append_right (Nat.le_refl _)];simp only[Nat.sub_self,List.getElem_cons_zero];exact alike_self (h v (by simp))
   ·rw[List.getElem_append_left hj];have hne:nv syn p[j]≠nv syn v:=(by rw[List.map_append,List.nodup_append]at hn;exact hn.2.2 _ (List.mem_map.2 ⟨p[j],List.getElem_mem _,rfl⟩) _ (by simp));intro ha;exact hne (alike_iff.1 ha).2.2
  unfold dropF;rw[hv];have e:(p++v::r).take p.length++(p++v::r).drop (p.length+1)=p++r:=by rw[List.take_left,show p++v::r=(p++[v])++r by simp,show p.length+1=(p++[v]).length by simp,List.drop_left]
  simp only;rw[e];refine drop_back r p (fun u hu=>h u ?_) ?_
  ·rcases List.mem_append.1 hu with hu | hu
   ·exact List.mem_append_left _ hu
   ·exact List.mem_append_right _ (List.mem_cons_of_mem _ hu)
  ·have hs:(p++r).Sublist (p++v::r):=List.Sublist.append_left (List.sublist_cons_self v r) p;exact hn.sublist (hs.map _)
end etp
namespace etp
open atp atw
def findE (e:En)(n:List UInt8):Except Int Ty:=
 if rightE e=false then .error 4 else match findS (sml.lowL n)with
  | none=> .error 14
  | some ty=> .ok ty
def addE (e:En)(n:List UInt8)(l:List ByteArray):Except Int En:=
 match findE e n with
 | .error f=> .error f
 | .ok ty=>if l=[]then .error 1 else if faultI ty.syn l≠0 then .error (faultI ty.syn l)else match joinF ty.syn (valsA e.ats (bs ty.name)) l with
  | none=> .error 8
  | some all=>if mostT ty.single<all.length then .error 9 else .ok (withE e (bs ty.name) all)
def removeE (e:En)(n:List UInt8)(l:List ByteArray):Except Int En:=
 match findE e n with
 | .error f=> .error f
 | .ok ty=>if faultI ty.syn l≠0 then .error (faultI ty.syn l)else if valsA e.ats (bs ty.name)=[]then .error 7 else match dropF ty.syn (valsA e.ats (bs ty.name)) l with
  | none=> .error 7
  | some left=> .ok (withE e (bs ty.name) (if l=[]then[]else left))
def hasE (e:En)(n:List UInt8)(v:ByteArray):Bool:=match findS (sml.lowL n)with
 | none=>false
 | some ty=>rightE e&&decide (0≤likeI ty.syn (valsA e.ats (bs ty.name)) v)
theorem findE_ok {e:En}{n:List UInt8}{ty:Ty}(h:findE e n= .ok ty):rightE e=true∧findS (sml.lowL n)=some ty:=by
 unfold findE at h;by_cases hr:rightE e=false
 ·rw[if_pos hr]at h;cases h
 ·rw[if_neg hr]at h;cases hf:findS (sml.lowL n)with
  | none=>rw[hf]at h;cases h
  | some t=>rw[hf]at h;cases h;exact⟨by simpa using hr,rfl⟩
theorem findE_of {e:En}{n:List UInt8}{ty:Ty}(h1:rightE e=true)(h2:findS (sml.lowL n)=some ty):findE e n= .ok ty:=by unfold findE;rw[if_neg (by rw[h1];simp),h2]
theorem ty_self {n:List UInt8}{ty:Ty}(h:findS n=some ty):tyOf (bs ty.name)=some ty:=by unfold tyOf;rw[bs_data,(findS_some h).2];exact h
theorem right_iff {e:En}:rightE e=true↔dnw.rdnOK e.rdn=true∧atsF none e.ats=true:=by unfold rightE;rw[Bool.and_eq_true]
theorem vals_ok {L:List At}{ty:Ty}{n:List UInt8}(h:atsF none L=true)(hf:findS n=some ty):(∀v∈valsA L (bs ty.name),okV ty.syn v=true)∧((valsA L (bs ty.name)).map (nv ty.syn)).Nodup:=by
 obtain⟨lo,mid,hi,hp⟩:=part_of (bs ty.name) L none h;rw[vals_part hp];rcases hp.mid with rfl | ⟨v,rfl⟩
 ·exact⟨fun v hv=>(by cases hv),List.nodup_nil⟩
 ·have h1:=((atsF_iff _ _).1 h).1 ⟨bs ty.name,v⟩ (by rw[hp.eq];simp);unfold atOK at h1;rw[show tyOf (⟨bs ty.name,v⟩:At).t=some ty from ty_self hf]at h1;simp only[valsOK,Bool.and_eq_true]at h1;have:=(fresh_iff v [] (by simp) List.nodup_nil).1 h1.2;simpa[midV]using this
theorem atOK_of {ty:Ty}{n:List UInt8}{l:List ByteArray}(hf:findS n=some ty)(h1:l≠[])(h2:l.length≤mostT ty.single)(h3: ∀v∈l,okV ty.syn v=true)(h4:(l.map (nv ty.syn)).Nodup):atOK ⟨bs ty.name,l⟩=true:=by unfold atOK;rw[show tyOf (⟨bs ty.name,l⟩:At).t=some ty from ty_self hf];show valsOK ty l=true;unfold valsOK;rw[Bool.and_eq_true,Bool.and_eq_true,decide_eq_true_iff,decide_eq_true_iff];exact⟨⟨List.length_pos_iff.2 h1,h2⟩,(fresh_iff l [] (by simp) List.nodup_nil).2 ⟨h3,by simpa using h4⟩⟩
theorem add_ok {e a:En}{n:List UInt8}{l:List ByteArray}(h:addE e n l= .ok a): ∃ty,rightE e=true∧findS (sml.lowL n)=some ty∧l≠[]∧(∀v∈l,okV ty.syn v=true)∧
  ((valsA e.ats (bs ty.name)++l).map (nv ty.syn)).Nodup∧(valsA e.ats (bs ty.name)++l).length≤mostT ty.single∧a=withE e (bs ty.name) (valsA e.ats (bs ty.name)++l):=by
 unfold addE at h;cases hf:findE e n with
 | error f=>rw[hf]at h;cases h
 | ok ty=>
  rw[hf]at h;obtain⟨h1,h2⟩:=findE_ok hf;simp only at h;by_cases hl:l=[]
  ·rw[if_pos hl]at h;cases h
  ·rw[if_neg hl]at h;by_cases hz:faultI ty.syn l=0
   ·rw[if_neg (not_not_intro hz)]at h;have hok:=(fault_zero l).1 hz;rw[join_fresh l _ hok]at h;by_cases hfr:fresh ty.syn (valsA e.ats (bs ty.name)) l=true
    ·rw[if_pos hfr]at h;simp only at h;by_cases hm:mostT ty.single<(valsA e.ats (bs ty.name)++l).length
     ·rw[if_pos hm]at h;cases h
     ·rw[if_neg hm]at h;cases h;obtain⟨o1,o2⟩:=vals_ok (right_iff.1 h1).2 h2;exact⟨ty,h1,h2,hl,hok,((fresh_iff l _ o1 o2).1 hfr).2,by omega,rfl⟩
    ·rw[if_neg hfr]at h;cases h
   ·rw[if_pos hz]at h;cases h
theorem withE_false {e:En}{n:ByteArray}{l:List ByteArray}(h:l≠[]):withE e n l=⟨e.rdn,withF n l false e.ats⟩:=by unfold withE;rw[decide_eq_false h]
theorem app_ne {α:Type}{p l:List α}(h:l≠[]):p++l≠[]:=fun e=>h (List.append_eq_nil_iff.1 e).2
theorem add_right {e a:En}{n:List UInt8}{l:List ByteArray}(h:addE e n l= .ok a):rightE a=true:=by
 obtain⟨ty,h1,h2,h3,h4,h5,h6,rfl⟩:=add_ok h;rw[withE_false (app_ne h3)];have hr:=right_iff.1 h1;refine right_iff.2 ⟨hr.1,with_right hr.2 fun _=>atOK_of h2 (app_ne h3) h6 ?_ h5⟩;intro v hv;rcases List.mem_append.1 hv with hv | hv
 ·exact(vals_ok hr.2 h2).1 v hv
 ·exact h4 v hv
theorem vals_with {e:En}{n:ByteArray}{l:List ByteArray}(h:rightE e=true):valsA (withE e n l).ats n=l:=by
 obtain⟨lo,mid,hi,hp⟩:=part_of n e.ats none (right_iff.1 h).2;unfold withE;rw[vals_part (part_with hp l (decide (l=[])))];by_cases hl:l=[]
 ·subst hl;rfl
 ·rw[decide_eq_false hl];rfl
theorem like_in {syn:Int}{l:List ByteArray}{v:ByteArray}(h:v∈l)(hv:okV syn v=true):0≤likeI syn l v:=by
 by_cases hn:likeI syn l v<0
 ·rw[likeI_neg,likeN_none]at hn;have:=hn v h;rw[alike_self hv]at this;cases this
 ·omega
theorem like_not {syn:Int}{p l:List ByteArray}{v:ByteArray}(hn:((p++l).map (nv syn)).Nodup)(h:v∈l):likeI syn p v<0:=by rw[likeI_neg,likeN_none];intro x hx;rw[Bool.eq_false_iff];intro ha;rw[List.map_append,List.nodup_append]at hn;exact hn.2.2 _ (List.mem_map.2 ⟨x,hx,rfl⟩) _ (List.mem_map.2 ⟨v,h,rfl⟩) (alike_iff.1 ha).2.2
theorem back {e a:En}{n:List UInt8}{l:List ByteArray}(h:addE e n l= .ok a):removeE a n l= .ok e∧rightE a=true∧ ∀v∈l,hasE a n v=true∧hasE e n v=false:=by
 have hra:=add_right h;obtain⟨ty,h1,h2,h3,h4,h5,h6,rfl⟩:=add_ok h;have hv:=vals_with (n:=bs ty.name) (l:=valsA e.ats (bs ty.name)++l) h1;refine⟨?_,hra,fun v hvl=>⟨?_,?_⟩⟩
 ·unfold removeE;rw[findE_of hra h2];simp only;rw[if_neg (not_not_intro ((fault_zero l).2 h4)),hv,if_neg (app_ne h3)];have hok: ∀u∈valsA e.ats (bs ty.name)++l,okV ty.syn u=true:=by
   intro u hu;rcases List.mem_append.1 hu with hu | hu
   ·exact(vals_ok (right_iff.1 h1).2 h2).1 u hu
   ·exact h4 u hu
  rw[drop_back l _ hok h5];simp only;rw[if_neg h3,withE_false (app_ne h3)];unfold withE;simp only;rw[with_back (right_iff.1 h1).2]
 ·unfold hasE;rw[h2];simp only;rw[hra,hv,Bool.true_and,decide_eq_true_iff];exact like_in (List.mem_append_right _ hvl) (h4 v hvl)
 ·unfold hasE;rw[h2];simp only;rw[h1,Bool.true_and,decide_eq_false_iff_not];have:=like_not h5 hvl;omega
end etp
end Go.Proofs.YtmnpfkbjpeaemaaGreatDoor
