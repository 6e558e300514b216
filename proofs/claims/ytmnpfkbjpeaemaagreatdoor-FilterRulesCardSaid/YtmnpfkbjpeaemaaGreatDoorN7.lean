/- One text out of several: EntR, PieceW, PartI, ConcW, PartP, OrdS, OrdW, FilP, FilQ, TakW, EntK, FilK. -/
import Derived.Test.YtmnpfkbjpeaemaaGreatDoorN6
import Derived.Test.YtmnpfkbjpeaemaaGreatDoorN4
import Derived.Test.YtmnpfkbjpeaemaaGreatDoorN5
import Derived.Laws.OwnMore
import Derived.Lib.AppendZeros
import Derived.Shelf.Strconv.AtoiAll
import Derived.Test.YtmnpfkbjpeaemaaGreatDoorProg
import Derived.Lib.AtoiErrMem
import Derived.Lib.Small
import Derived.OrdersHeld
import Derived.WalkKit
import Derived.Test.YtmnpfkbjpeaemaaGreatDoorN1
import Derived.Test.YtmnpfkbjpeaemaaGreatDoorN2
set_option linter.unusedVariables false
set_option linter.unusedSimpArgs false
set_option maxRecDepth 20000
set_option maxHeartbeats 8000000
namespace Go.Proofs.YtmnpfkbjpeaemaaGreatDoor
namespace etp
open atp atw
def findE (e:En)(n:List UInt8):Except Int Ty:=
 if rightE e=false then .error 4 else match findS (sml.lowL n)with
  | none=> .error 14
  | some ty=> .ok ty
def addE (e:En)(n:List UInt8)(l:List ByteArray):Except Int En:=
 match findE e n with
 | .error f=> .error f
 | .ok ty=>if l=[]then .error 1 else if faultI ty.syn l≠0 then .error (faultI ty.syn l)else match joinF ty.syn (valsA e.ats (bs ty.name)) l with
  | none=> .error 8
  | some all=>if mostT ty.single<all.length then .error 9 else .ok (withE e (bs ty.name) all)
def removeE (e:En)(n:List UInt8)(l:List ByteArray):Except Int En:=
 match findE e n with
 | .error f=> .error f
 | .ok ty=>if faultI ty.syn l≠0 then .error (faultI ty.syn l)else if valsA e.ats (bs ty.name)=[]then .error 7 else match dropF ty.syn (valsA e.ats (bs ty.name)) l with
  | none=> .error 7
  | some left=> .ok (withE e (bs ty.name) (if l=[]then[]else left))
def hasE (e:En)(n:List UInt8)(v:ByteArray):Bool:=match findS (sml.lowL n)with
 | none=>false
 | some ty=>rightE e&&decide (0≤likeI ty.syn (valsA e.ats (bs ty.name)) v)
theorem findE_ok {e:En}{n:List UInt8}{ty:Ty}(h:findE e n= .ok ty):rightE e=true∧findS (sml.lowL n)=some ty:=by
 unfold findE at h;by_cases hr:rightE e=false
 ·rw[if_pos hr]at h;cases h
 ·rw[if_neg hr]at h;cases hf:findS (sml.lowL n)with
  | none=>rw[hf]at h;cases h
  | some t=>rw[hf]at h;cases h;exact⟨by simpa using hr,rfl⟩
theorem findE_of {e:En}{n:List UInt8}{ty:Ty}(h1:rightE e=true)(h2:findS (sml.lowL n)=some ty):findE e n= .ok ty:=by unfold findE;rw[if_neg (by rw[h1];simp),h2]
theorem ty_self {n:List UInt8}{ty:Ty}(h:findS n=some ty):tyOf (bs ty.name)=some ty:=by unfold tyOf;rw[bs_data,(findS_some h).2];exact h
theorem right_iff {e:En}:rightE e=true↔dnw.rdnOK e.rdn=true∧atsF none e.ats=true:=by unfold rightE;rw[Bool.and_eq_true]
theorem vals_ok {L:List At}{ty:Ty}{n:List UInt8}(h:atsF none L=true)(hf:findS n=some ty):(∀v∈valsA L (bs ty.name),okV ty.syn v=true)∧((valsA L (bs ty.name)).map (nv ty.syn)).Nodup:=by
 obtain⟨lo,mid,hi,hp⟩:=part_of (bs ty.name) L none h;rw[vals_part hp];rcases hp.mid with rfl | ⟨v,rfl⟩
 ·exact⟨fun v hv=>(by cases hv),List.nodup_nil⟩
 ·have h1:=((atsF_iff _ _).1 h).1 ⟨bs ty.name,v⟩ (by rw[hp.eq];simp);unfold atOK at h1;rw[show tyOf (⟨bs ty.name,v⟩:At).t=some ty from ty_self hf]at h1;simp only[valsOK,Bool.and_eq_true]at h1;have:=(fresh_iff v [] (by simp) List.nodup_nil).1 h1.2;simpa[midV]using this
theorem atOK_of {ty:Ty}{n:List UInt8}{l:List ByteArray}(hf:findS n=some ty)(h1:l≠[])(h2:l.length≤mostT ty.single)(h3: ∀v∈l,okV ty.syn v=true)(h4:(l.map (nv ty.syn)).Nodup):atOK ⟨bs ty.name,l⟩=true:=by unfold atOK;rw[show tyOf (⟨bs ty.name,l⟩:At).t=some ty from ty_self hf];show valsOK ty l=true;unfold valsOK;rw[Bool.and_eq_true,Bool.and_eq_true,decide_eq_true_iff,decide_eq_true_iff];exact⟨⟨List.length_pos_iff.2 h1,h2⟩,(fresh_iff l [] (by simp) List.nodup_nil).2 ⟨h3,by simpa using h4⟩⟩
theorem add_ok {e a:En}{n:List UInt8}{l:List ByteArray}(h:addE e n l= .ok a): ∃ty,rightE e=true∧findS (sml.lowL n)=some ty∧l≠[]∧(∀v∈l,okV ty.syn v=true)∧
  ((valsA e.ats (bs ty.name)++l).map (nv ty.syn)).Nodup∧(valsA e.ats (bs ty.name)++l).length≤mostT ty.single∧a=withE e (bs ty.name) (valsA e.ats (bs ty.name)++l):=by
 unfold addE at h;cases hf:findE e n with
 | error f=>rw[hf]at h;cases h
 | ok ty=>
  rw[hf]at h;obtain⟨h1,h2⟩:=findE_ok hf;simp only at h;by_cases hl:l=[]
  ·rw[if_pos hl]at h;cases h
  ·rw[if_neg hl]at h;by_cases hz:faultI ty.syn l=0
   ·rw[if_neg (not_not_intro hz)]at h;have hok:=(fault_zero l).1 hz;rw[join_fresh l _ hok]at h;by_cases hfr:fresh ty.syn (valsA e.ats (bs ty.name)) l=true
    ·rw[if_pos hfr]at h;simp only at h;by_cases hm:mostT ty.single<(valsA e.ats (bs ty.name)++l).length
     ·rw[if_pos hm]at h;cases h
     ·rw[if_neg hm]at h;cases h;obtain⟨o1,o2⟩:=vals_ok (right_iff.1 h1).2 h2;exact⟨ty,h1,h2,hl,hok,((fresh_iff l _ o1 o2).1 hfr).2,by omega,rfl⟩
    ·rw[if_neg hfr]at h;cases h
   ·rw[if_pos hz]at h;cases h
theorem withE_false {e:En}{n:ByteArray}{l:List ByteArray}(h:l≠[]):withE e n l=⟨e.rdn,withF n l false e.ats⟩:=by unfold withE;rw[decide_eq_false h]
theorem app_ne {α:Type}{p l:List α}(h:l≠[]):p++l≠[]:=fun e=>h (List.append_eq_nil_iff.1 e).2
theorem add_right {e a:En}{n:List UInt8}{l:List ByteArray}(h:addE e n l= .ok a):rightE a=true:=by
 obtain⟨ty,h1,h2,h3,h4,h5,h6,rfl⟩:=add_ok h;rw[withE_false (app_ne h3)];have hr:=right_iff.1 h1;refine right_iff.2 ⟨hr.1,with_right hr.2 fun _=>atOK_of h2 (app_ne h3) h6 ?_ h5⟩;intro v hv;rcases List.mem_append.1 hv with hv | hv
 ·exact(vals_ok hr.2 h2).1 v hv
 ·exact h4 v hv
theorem vals_with {e:En}{n:ByteArray}{l:List ByteArray}(h:rightE e=true):valsA (withE e n l).ats n=l:=by
 obtain⟨lo,mid,hi,hp⟩:=part_of n e.ats none (right_iff.1 h).2;unfold withE;rw[vals_part (part_with hp l (decide (l=[])))];by_cases hl:l=[]
 ·subst hl;rfl
 ·rw[decide_eq_false hl];rfl
theorem like_in {syn:Int}{l:List ByteArray}{v:ByteArray}(h:v∈l)(hv:okV syn v=true):0≤likeI syn l v:=by
 by_cases hn:likeI syn l v<0
 ·rw[likeI_neg,likeN_none]at hn;have:=hn v h;rw[alike_self hv]at this;cases this
 ·omega
theorem like_not {syn:Int}{p l:List ByteArray}{v:ByteArray}(hn:((p++l).map (nv syn)).Nodup)(h:v∈l):likeI syn p v<0:=by rw[likeI_neg,likeN_none];intro x hx;rw[Bool.eq_false_iff];intro ha;rw[List.map_append,List.nodup_append]at hn;exact hn.2.2 _ (List.mem_map.2 ⟨x,hx,rfl⟩) _ (List.mem_map.2 ⟨v,h,rfl⟩) (alike_iff.1 ha).2.2
theorem back {e a:En}{n:List UInt8}{l:List ByteArray}(h:addE e n l= .ok a):removeE a n l= .ok e∧rightE a=true∧ ∀v∈l,hasE a n v=true∧hasE e n v=false:=by
 have hra:=add_right h;obtain⟨ty,h1,h2,h3,h4,h5,h6,rfl⟩:=add_ok h;have hv:=vals_with (n:=bs ty.name) (l:=valsA e.ats (bs ty.name)++l) h1;refine⟨?_,hra,fun v hvl=>⟨?_,?_⟩⟩
 ·unfold removeE;rw[findE_of hra h2];simp only;rw[if_neg (not_not_intro ((fault_zero l).2 h4)),hv,if_neg (app_ne h3)];have hok: ∀u∈valsA e.ats (bs ty.name)++l,okV ty.syn u=true:=by
   intro u hu;rcases List.mem_append.1 hu with hu | hu
   ·exact(vals_ok (right_iff.1 h1).2 h2).1 u hu
   ·exact h4 u hu
  rw[drop_back l _ hok h5];simp only;rw[if_neg h3,withE_false (app_ne h3)];unfold withE;simp only;rw[with_back (right_iff.1 h1).2]
 ·unfold hasE;rw[h2];simp only;rw[hra,hv,Bool.true_and,decide_eq_true_iff];exact like_in (List.mem_append_right _ hvl) (h4 v hvl)
 ·unfold hasE;rw[h2];simp only;rw[h1,Bool.true_and,decide_eq_false_iff_not];have:=like_not h5 hvl;omega
end etp
open Go.RowKit
namespace atw
open atp
theorem ready_norm_len {a:List UInt8}{f:Bool}(h:a.length≤1000): ∀u,ne0 (prp.readyO a f)=some u→u.length≤1000:=by
 intro u hu;cases hr:prp.readyO a f with
 | none=>rw[hr]at hu;cases hu
 | some o=>
  have:=prp.readyO_len hr;rw[hr]at hu;unfold ne0 at hu;simp only at hu;split at hu
  ·cases hu
  ·cases hu;omega
theorem norm_text_len {syn:Int}{a:List UInt8}(h:syn=1∨syn=2):(normL syn a).1.length≤1000:=by
 by_cases h1:1000<a.length
 ·rw[normL_long (by omega) h1];simp
 by_cases h2:a=[]
 ·rw[normL_nil (by omega) h2];simp
 rw[normL_form (by omega) (by omega) h2];split
 ·simp
 ·rename_i u hu;have he:formO syn a=ne0 (prp.readyO a true)∨formO syn a=ne0 (prp.readyO a false):=by
   rcases h with rfl | rfl
   ·exact Or.inl rfl
   ·exact Or.inr rfl
  rcases he with he | he
  ·rw[he]at hu;exact ready_norm_len (by omega) u hu
  ·rw[he]at hu;exact ready_norm_len (by omega) u hu
def pieceO (syn:Int)(l:List UInt8):Option (List UInt8):=if syn=7 then prp.phoneO l else prp.mapO l (syn==1)
theorem piece_len {syn:Int}{l o:List UInt8}(h:pieceO syn l=some o):o.length≤l.length:=by
 unfold pieceO at h;split at h
 ·unfold prp.phoneO at h;obtain⟨m,hm,rfl⟩:=Option.map_eq_some_iff.1 h;have e:prp.mapO l true=some (run.text (prp.mapped true m)):=by unfold prp.mapO;rw[hm];rfl
  refine Nat.le_trans ?_ (prp.mapO_len e);unfold prp.phoneR;generalize prp.mapped true m=q;induction q with
  | nil=>exact Nat.le_refl _
  | cons c r ih=>
   have e1:run.text (c::r)=run.enc c++run.text r:=rfl;rw[List.filter_cons];split
   ·have e2:run.text (c::List.filter (fun v=>decide (v≠32)&&decide (v≠45)) r)=run.enc c++run.text (List.filter (fun v=>decide (v≠32)&&decide (v≠45)) r):=rfl;rw[e1,e2,List.length_append,List.length_append];omega
   ·rw[e1,List.length_append];omega
 ·exact prp.mapO_len h
theorem piece_any (nm:ByteArray)(syn:Int)(sg:Bool)(s:ByteArray)(w:World)(hs:s.size≤1100000)(hE:Hid (prw.Env w)):
  Calls Tryz.prog 304 #[.agg #[.string nm,.int .i64 syn,.bool sg],.string s] w fun e w'=>e= .returned (prw.pairV (pieceO syn s.data.toList))∧Below w.heap.size w w':=by
 obtain⟨W0,hW0⟩: ∃W,w.alloc (.cells #[.string nm,.int .i64 syn,.bool sg] 108)=W:=⟨_,rfl⟩;have hB0:Below w.heap.size w W0:=by rw[←hW0];exact(Below.refl _ _).alloc (Nat.le_refl _) _
 have HB0:=Lib.hid hB0;have hw0:w.heap.size≤W0.heap.size:=hB0.size;have HTB0:Hid (TB W0 w.heap.size nm syn sg):=by rw[←hW0];exact tb_new w nm syn sg
 obtain⟨k0,k1,k2⟩:=tb_cells HTB0.out;have HE0:=Lib.hid (prw.env_below hE.out hB0);by_cases h7:syn=7
 ·subst h7;have hp:pieceO 7 s.data.toList=prp.phoneO s.data.toList:=rfl;have HC:Hid (Calls Tryz.prog 290 #[.string s] W0 fun e w'=>e= .returned (prw.pairV (prp.phoneO s.data.toList))∧Below W0.heap.size W0 w'):=prw.phone_any s W0 hs HE0;rw[hp];clear hp;obtain⟨po,hpo⟩: ∃u,prp.phoneO s.data.toList=u:=⟨_,rfl⟩;rw[hpo]at HC ⊢;clear hpo hB0;cases po;all_goals
   simp only[prw.pairV]at HC ⊢;go_enter Tryz.func304,Tryz.ntmps304;go_wp2_with fail;refine(HC.out).mono ?_;rintro e w1 ⟨rfl,hB1⟩;have HB1:=Lib.hid (HB0.out.trans (hB1.mono hw0));clear hB1 hW0 k0 k1 k2;go_wp2_with fail;go_ret2;exact⟨rfl,HB1.out⟩
 ·have hp:pieceO syn s.data.toList=prp.mapO s.data.toList (syn==1):=by unfold pieceO;rw[if_neg h7]
  have q7:(syn==7)=false:=by rw[beq_eq_false_iff_ne];exact h7
  have HC:Hid (Calls Tryz.prog 192 #[.string s,.bool (syn==1)] W0 fun e w'=>e= .returned (prw.pairV (prp.mapO s.data.toList (syn==1)))∧Below W0.heap.size W0 w'):=prw.map_any s (syn==1) W0 hs;rw[hp];clear hp h7;obtain⟨po,hpo⟩: ∃u,prp.mapO s.data.toList (syn==1)=u:=⟨_,rfl⟩;rw[hpo]at HC ⊢;clear hpo hB0;cases po;all_goals
   simp only[prw.pairV]at HC ⊢;go_enter Tryz.func304,Tryz.ntmps304;go_wp2_with fail;refine(HC.out).mono ?_;rintro e w1 ⟨rfl,hB1⟩;have HB1:=Lib.hid (HB0.out.trans (hB1.mono hw0));clear hB1 hW0 k0 k1 k2;go_wp2_with fail;go_ret2;exact⟨rfl,HB1.out⟩
end atw
open Go.RowKit
namespace atw
open atp tupw
def neB (x:ByteArray):Bool:=decide (x.data.toList≠[])
theorem ne_beq (x:ByteArray):(x.toList==[])= !(neB x):=by
 unfold neB;rw[Lib.toList_data];cases h:x.data.toList with
 | nil=>rfl
 | cons a t=>rfl
theorem ne_bne (x:ByteArray):(x.toList != [])=neB x:=by rw[bne,ne_beq,Bool.not_not]
theorem clo_any (x:ByteArray)(W:World):Calls Tryz.prog 302 #[.string x] W fun e w'=>e= .returned (.bool (neB x))∧W=w':=by
 have hb:=ne_bne x;cases hn:neB x;all_goals
  rw[hn]at hb;clear hn;have HB:=Lib.hid hb;go_enter Tryz.func302,Tryz.ntmps302;go_wp2_with fail;all_goals first
   | (go_ret;exact⟨kt.ret_bool (by first | rfl | exact HB.out | simp_all),rfl⟩)
def Has (l:List ByteArray)(k:Nat):Prop:= ∃i,∃hi:i<l.length,i<k∧neB l[i]=true
def IxE (l:List ByteArray)(w:World)(e:Ending)(w':World):Prop:= ∃r:Int,e= .returned (.int .i64 r)∧(0≤r↔Has l l.length)∧w'=w
theorem index_any (ao:Option Addr)(cap:Nat)(l:List ByteArray)(w:World)(hA:Hid (Strs w ao l))(hkb:l.length≤1000):
  Calls Tryz.prog 146 #[.slice ao l.length cap,.func (.func 302) #[] #[]] w fun e w'=>IxE l w e w':=by
 obtain⟨k,hk⟩: ∃k,l.length=k:=⟨_,rfl⟩;have HK:=Lib.hid hk;unfold IxE;rw[hk]at hkb ⊢;clear hk;go_enter Tryz.func146,Tryz.ntmps146;go_wp2_with fail;go_loop [5,8] (fun _ iv=> ∃i:Nat,i≤k∧iv= .int .i64 (i:Int)∧Hid (¬Has l i)) (fun _ iv=>k- (intOf iv).toNat);case atStart=>exact⟨0,Nat.zero_le _,rfl,fun⟨_,_,h,_⟩=>by omega⟩
 case round=>
  obtain⟨i,hi,rfl,hN⟩:=hrel;by_cases hlt2:i<k
  ·have hlt':(i:Int)<(k:Int):=(by omega);have hil:i<l.length:=(by rw[HK.out];exact hlt2);obtain⟨b,o,hao,hc0⟩:=hA.out i hil;subst hao;have CC:=fun w=>clo_any l[i] w;by_cases he:neB l[i]=true
   ·have HH:Hid (0≤(i:Int)↔Has l k):=⟨fun _=>⟨i,hil,hlt2,he⟩,fun _=>by omega⟩;rw[he]at CC;have HC:=Lib.hid CC;generalize l[i]=x at hc0 HC;clear CC he;go_wp2_with fail;refine(HC.out _).mono ?_;rintro e w2 ⟨rfl,rfl⟩;go_wp2_with fail;go_ret;exact⟨(i:Int),rfl,HH.out,rfl⟩
   ·have HN2:Hid (¬Has l (i+1)):=by
     rintro⟨j,hj,h1,h2⟩;by_cases e:j=i
     ·subst e;exact he h2
     ·exact hN.out ⟨j,hj,by omega,h2⟩
    rw[Bool.eq_false_iff.2 he]at CC;have HC:=Lib.hid CC;generalize l[i]=x at hc0 HC;clear CC he;go_wp2_with fail;refine(HC.out _).mono ?_;rintro e w2 ⟨rfl,rfl⟩;go_wp2_with fail;go_round;case rel=>exact⟨i+1,by omega,by go_num,HN2⟩
    case measure=>simp[intOf];omega
  ·obtain rfl:i=k:=(by omega);go_wp2_with fail;go_ret;exact⟨-1,rfl,⟨fun h=>by omega,fun h=>absurd h hN.out⟩,rfl⟩
theorem hasB_iff (l:List ByteArray):l.any neB=true↔Has l l.length:=by
 unfold Has;rw[List.any_eq_true];constructor
 ·rintro⟨x,hx,h⟩;obtain⟨i,hi,rfl⟩:=List.mem_iff_getElem.1 hx;exact⟨i,hi,hi,h⟩
 ·rintro⟨i,hi,h1,h2⟩;exact⟨l[i],List.getElem_mem _,h2⟩
theorem contains_any (ao:Option Addr)(cap:Nat)(l:List ByteArray)(w:World)(hA:Hid (Strs w ao l))(hkb:l.length≤1000):
  Calls Tryz.prog 227 #[.slice ao l.length cap,.func (.func 302) #[] #[]] w fun e w'=>e= .returned (.bool (l.any neB))∧w=w':=by
 have CI:=Lib.hid (index_any ao cap l w hA hkb);have hI:=hasB_iff l;generalize l.length=n at CI ⊢;cases hH:l.any neB with
 | true=>have HH:=Lib.hid (hI.1 hH);clear hI hH;go_enter Tryz.func227,Tryz.ntmps227;go_wp2_with fail;refine CI.out.mono ?_;rintro e w1 ⟨r,rfl,h1,rfl⟩;have h2:0≤r:=h1.2 HH.out;clear h1;go_wp2_with fail;go_ret;exact⟨kt.ret_bool (by first | rfl | exact decide_eq_true h2),rfl⟩
 | false=>
  have HH:Hid (¬Has l l.length):=fun h=>by rw[hI.2 h]at hH;cases hH
  clear hI hH;go_enter Tryz.func227,Tryz.ntmps227;go_wp2_with fail;refine CI.out.mono ?_;rintro e w1 ⟨r,rfl,h1,rfl⟩;have h2: ¬0≤r:=fun h=>HH.out (h1.1 h);clear h1;go_wp2_with fail;go_ret;exact⟨kt.ret_bool (by simpa using h2),rfl⟩
end atw
open Go.RowKit
namespace atw
open atp tupw prw
theorem grow_any (B n:Nat)(w:World)(h0:0<n)(hn:n≤1100000)(hB:B≤w.heap.size):
  Calls Tryz.prog 318 #[.slice none 0 0,.int .i64 (n:Int)] w fun e w'=> ∃v,e= .returned v∧Hid (OwnT w' B v [])∧Below w.heap.size w w':=by
 obtain⟨i0,hi,hz0,hz1,hz2⟩:=info_parts (P:=Tryz.prog) infoStr;have hap:=Lib.hid (Lib.run_append_nil_zeros (P:=Tryz.prog) w 35 3 35 9 i0 _ .i64 .i64 Tryz.underlying35 Tryz.underlying3 hi hz0 n h0 (by omega) (by omega) (by rw[hz2];omega));generalize hc:Builtin.zeroCells (Value.string ByteArray.empty).cells n++Builtin.zeroCells (Value.string ByteArray.empty).cells (grownCap w n 0 9-n)=cs at hap;have hcs:cs.size=grownCap w n 0 9*1:=by rw[←hc,Array.size_append,size_zeroCells,size_zeroCells];have:=grownCap_ge w n 0 9;show n*1+(_-n)*1=_;omega
 have hOW:Hid (OwnT (w.drew.alloc (.cells cs 9)) B (.slice (some ⟨w.heap.size,0,none⟩) 0 (grownCap w n 0 9)) []):=
  World.ownsRow_made w.drew cs _ hB (grownCap_le_maxLen w n 0 _ (by unfold maxLen;omega)) hcs
 have hBW:Hid (Below w.heap.size w (w.drew.alloc (.cells cs 9))):=((Below.refl _ w).drew).alloc (Nat.le_refl _) _;have hcap:Hid (n≤grownCap w n 0 9):=grownCap_ge w n 0 _;generalize grownCap w n 0 9=cap at hap hOW hcs hcap;obtain⟨w1,hw1⟩: ∃w1,w.drew.alloc (.cells cs 9)=w1:=⟨_,rfl⟩;rw[hw1]at hap hOW hBW;have hnI:(0:Int)<(n:Int):=by omega
 have hnI2:(n:Int)≤1100000:=by omega
 clear hc hcs hw1 hi hz0 hz1 hz2 hB;go_enter Tryz.func318,Tryz.ntmps318;go_wp2_with (at_builtin;refine Lib.wpList_append_run _ rfl _ _ _ _ rfl _ _ rfl rfl _ _ hap.out ?_);go_ret;exact⟨_,rfl,hOW,hBW.out⟩
theorem app_row {w:World}{B:Nat}{v:Value}{l m:List ByteArray}{ao:Option Addr}{cap:Nat}(hown:OwnT w B v l)(hS:Strs w ao m)(hn:ao=none→cap=0)(hl:l.length+m.length≤100000)(hbase:B≤w.heap.size):
  ∃v' w1,(Builtin.append_ #[35,35] 35 #[v,.slice ao m.length cap]).run Tryz.prog w= .ok v' w1∧OwnT w1 B v' (l++m)∧Below B w w1:=by
 obtain⟨i0,hi,hz0,hz1,hz2⟩:=info_parts (P:=Tryz.prog) infoStr;have hlen:=scells_length l;unfold OwnT at hown;cases ao with
 | none=>
  have hm:m=[]:=by
   cases m with
   | nil=>rfl
   | cons x t=>obtain⟨b,o,e,_⟩:=hS 0 (by simp);cases e
  subst hm;have hc:=hn rfl;subst hc;refine⟨v,w,run_append_owned_none (P:=Tryz.prog) (w:=w) B 35 35 9 i0 1 Tryz.underlying35 hi v _ _ hown,?_,Below.refl _ _⟩;rw[List.append_nil];exact hown
 | some a=>
  obtain⟨v',w1,hrun,hown',hgr,_⟩:=run_append_own (P:=Tryz.prog) (w:=w) (ty:=35) B 35 9 i0 _ 1 16 Tryz.underlying35 hi hz0 hz1 hz2 rfl (by omega) v (scells l).length (scells l) hown a m.length cap (scells m) (by rw[scells_length];omega)
   (fun j u hj=>by
    unfold scells at hj;rw[List.getElem?_map]at hj;obtain⟨x,hx,rfl⟩:=Option.map_eq_some_iff.1 hj;obtain⟨hjl,rfl⟩:=List.getElem?_eq_some_iff.1 hx;obtain⟨b,o,e,hc⟩:=hS j hjl;simp only[Option.some.injEq]at e;subst e;unfold Addr.add;by_cases hj0:j=0
    ·subst hj0;rw[if_pos rfl];exact hc
    ·rw[if_neg hj0];exact hc)
   (fun u hu=>by unfold scells at hu;obtain⟨x,_,rfl⟩:=List.mem_map.1 hu;rfl) (by unfold maxLen;omega) (by omega) hbase
  have hlt: ∀k,v.ownBlock=some k→B≤k∧k<w.heap.size:=World.ownsRow.lt hown;refine⟨v',w1,hrun,?_,(Below.refl B w).grown hgr hbase (fun k hk=>(hlt k hk).1)⟩;unfold OwnT;have e:scells (l++m)=scells l++scells m:=by simp[scells]
  have e2:(scells l++scells m).length=(scells l).length+m.length:=by rw[List.length_append,scells_length m]
  rw[e,e2];exact hown'
def Rws (w:World)(q:Nat)(L:List (List ByteArray)):Prop:= ∀ (i:Nat) (h:i<L.length),∃ao cap,w.cell? ⟨q,i,none⟩=some (.slice ao L[i].length cap)∧Strs w ao L[i]∧(ao=none→cap=0)
theorem rws_below {w w':World}{q:Nat}{L:List (List ByteArray)}(h:Rws w q L)(hb:Below w.heap.size w w'):Rws w' q L:=by intro i hi;obtain⟨ao,cap,hc,hS,hn⟩:=h i hi;exact⟨ao,cap,(hb.cell (World.block_lt_of_cell? w _ hc)).trans hc,strs_below hS hb,hn⟩
theorem flat_take {L:List (List ByteArray)}{i:Nat}(h:i<L.length):(L.take (i+1)).flatten=(L.take i).flatten++L[i]:=by rw[List.take_succ_eq_append_getElem h,List.flatten_append];simp
theorem flat_le (L:List (List ByteArray))(i:Nat):(L.take i).flatten.length≤L.flatten.length:=by
 conv=>rhs;rw[←List.take_append_drop i L,List.flatten_append,List.length_append]
 omega
theorem concat_any (q B cap:Nat)(L:List (List ByteArray))(w:World)(hR:Hid (Rws w q L))(hL:L.length≤10)(h0:0<L.flatten.length)(h1:L.flatten.length≤10000)(hB:B≤w.heap.size):
  Calls Tryz.prog 303 #[.slice (some ⟨q,0,none⟩) L.length cap] w fun e w'=> ∃v,e= .returned v∧Hid (OwnT w' w.heap.size v L.flatten)∧Below w.heap.size w w':=by
 obtain⟨k,hk⟩: ∃k,L.length=k:=⟨_,rfl⟩;have HK:=Lib.hid hk;have HF:=Lib.hid h1;have HT:Hid (∀i,(L.take i).flatten.length≤10000):=fun i=>Nat.le_trans (flat_le L i) h1;have HS:Hid (∀i (h:i<L.length),(L.take (i+1)).flatten=(L.take i).flatten++L[i]):=fun i h=>flat_take h;have HE:Hid ((L.take k).flatten=L.flatten):=by rw[←hk,List.take_length];rfl
 have HFP:=Lib.hid h0;rw[hk]at hL ⊢;clear hk h0 h1;go_enter Tryz.func303,Tryz.ntmps303;go_wp2_with fail;go_loop [3,5,11] (fun sv _ iv=> ∃i:Nat,i≤k∧iv= .int .i64 (i:Int)∧ ∃n:Nat,sv= .int .i64 (n:Int)∧Hid (n=(L.take i).flatten.length)) (fun _ _ iv=>k- (intOf iv).toNat);case atStart=>exact⟨0,Nat.zero_le _,rfl,0,rfl,rfl⟩
 case round=>
  obtain⟨i,hi,rfl,n,rfl,hn⟩:=hrel;have hn1:n≤10000:=by rw[hn.out];exact HT.out i
  by_cases hlt2:i<k
  ·have hlt':(i:Int)<(k:Int):=(by omega);have hil:i<L.length:=(by rw[HK.out];exact hlt2);obtain⟨ao,c,hc0,_,_⟩:=hR.out i hil;have HN:Hid (n+L[i].length=(L.take (i+1)).flatten.length):=(by rw[HS.out i hil,List.length_append,hn.out];exact rfl);have hn2:n+L[i].length≤10000:=(by rw[HN.out];exact HT.out _);generalize L[i].length=m at hc0 HN hn2;have hn3: ¬ ((n:Int)+(m:Int)<0):=(by omega);clear hn;go_wp2_with fail;go_round;case rel=>exact⟨i+1,by omega,by go_num,n+m,by go_num,HN⟩
   case measure=>simp[intOf];omega
  ·obtain rfl:i=k:=(by omega);have hnp:0<n:=(by rw[hn.out,HE.out];exact HFP.out);have HG:Hid (∀w:World,∀B≤w.heap.size,Calls Tryz.prog 318 #[.slice none 0 0,.int .i64 (n:Int)] w fun e w'=> ∃v,e= .returned v∧Hid (OwnT w' B v [])∧Below w.heap.size w w'):=fun w B hB=>grow_any B n w hnp (by omega) hB;clear hn hnp;go_wp2_with fail;refine(HG.out _ w.heap.size (Nat.le_refl _)).mono ?_;rintro e w1 ⟨v1,rfl,hO1,hB1⟩;have HB1:=Lib.hid hB1;clear hB1;go_wp2_with fail;go_loopw [6,8,27] (fun vv _ iv wr=> ∃j:Nat,j≤i∧iv= .int .i64 (j:Int)∧Hid (OwnT wr w.heap.size vv (L.take j).flatten)∧Below w.heap.size w wr) (fun _ _ iv _=>i- (intOf iv).toNat);case atStart=>exact⟨0,Nat.zero_le _,rfl,hO1,HB1.out⟩
   case round=>
    obtain⟨j,hj,rfl,hO,hB2⟩:=hrel;have hsz:=hB2.size;by_cases hlt3:j<i
    ·have hlt':(j:Int)<(i:Int):=(by omega);have hil:j<L.length:=(by rw[HK.out];exact hlt3);obtain⟨ao,c,hc0,hS,hcn⟩:=(rws_below hR.out hB2) j hil;obtain⟨v',w2,hap,hO2,hB3⟩:=app_row hO.out hS hcn (by rw[←List.length_append,←HS.out j hil];have:=HT.out (j+1);omega) hsz;rw[←HS.out j hil]at hO2;have hap:=Lib.hid hap;have HO2:=Lib.hid hO2;have HB3:=Lib.hid (hB2.trans hB3);clear hO2 hB3 hS hcn hO;generalize L[j].length=m at hc0 hap;go_wp2_with (at_builtin;refine Lib.wpList_append_run _ rfl _ _ _ _ rfl _ _ rfl rfl _ _ hap.out ?_);go_roundw;case rel=>exact⟨j+1,by omega,by go_num,HO2,HB3.out⟩
     case measure=>simp[intOf];omega
    ·obtain rfl:j=i:=(by omega);have HO2:=hO;rw[HE.out]at HO2;clear hO;go_wp2_with fail;go_ret;exact⟨_,rfl,HO2,hB2⟩
end atw
open Go.RowKit
namespace atw
open atp tupw prw
def gotP (syn:Int)(x:ByteArray):List UInt8:=(pieceO syn x.data.toList).getD []
def allP (syn:Int)(L:List ByteArray):Bool:=L.all fun x=>(pieceO syn x.data.toList).isSome
def partE (syn:Int)(value first last:ByteArray)(mids:List ByteArray):Bool × Int:=
 if¬ (syn=1∨syn=2∨syn=7)then(false,20)else if 8<mids.length then(false,20)else if(first::(mids++[last])).any neB=false then(false,20)
 else if(normL syn value.data.toList).2≠0 then(false,(normL syn value.data.toList).2)
 else if allP syn (first::(mids++[last]))=false then(false,19)
 else(partL (normL syn value.data.toList).1 (gotP syn first) (gotP syn last) (mids.map (gotP syn)),0)
theorem norm_len {syn:Int}{a:List UInt8}(h:syn=1∨syn=2∨syn=7):(normL syn a).1.length≤1000:=by
 by_cases h7:syn=7
 ·subst h7;by_cases h1:1000<a.length
  ·rw[normL_long (by omega) h1];simp
  by_cases h2:a=[]
  ·rw[normL_nil (by omega) h2];simp
  rw[normL_form (by omega) (by omega) h2];have he:formO 7 a=ne0 (prp.phoneO a):=rfl;rw[he];cases hp:prp.phoneO a with
  | none=>simp[ne0]
  | some o=>
   have:=piece_len (syn:=7) (l:=a) (o:=o) hp;unfold ne0;by_cases ho:o=[]
   ·simp[ho]
   ·simp only[ho,if_false];omega
 ·exact norm_text_len (by omega)
theorem below_dr {B:Nat}{a b:World}(h:Below B a b)(n:Nat):Below B a (b.drewN n):=⟨h.os,h.tape,h.output,h.size,h.block⟩
theorem own_open {w:World}{B:Nat}{v:Value}{l:List ByteArray}(h:OwnT w B v l)(hne:l≠[]): ∃g cap,v= .slice (some ⟨g,0,none⟩) l.length cap∧B≤g∧l.length≤cap∧OwnT w B (.slice (some ⟨g,0,none⟩) l.length cap) l:=by
 obtain⟨ao,cap,rfl,hc,h1⟩:=ownT_cells h;obtain⟨g,rfl,hg,_⟩:=h1 hne;refine⟨g,cap,rfl,?_,hc,h⟩;have h':w.ownsRow B 9 1 (.slice (some ⟨g,0,none⟩) l.length cap) l.length (scells l):=by have:=h;unfold OwnT at this;rw[scells_length]at this;exact this
 obtain⟨g',e,_,hB⟩:=kt.row_some h' (List.length_pos_iff.2 hne);injection e with e;injection e with e;omega
def OwnG (w:World)(B g k cap:Nat)(l:List ByteArray):Prop:=w.ownsRow B 9 1 (.slice (some ⟨g,0,none⟩) k cap) k (scells l)∧l.length=k
theorem ownG_of {w:World}{B g cap:Nat}{l:List ByteArray}(h:OwnT w B (.slice (some ⟨g,0,none⟩) l.length cap) l):OwnG w B g l.length cap l:=by unfold OwnT at h;rw[scells_length]at h;exact⟨h,rfl⟩
theorem ownG_cell {w:World}{B g k cap:Nat}{l:List ByteArray}(h:OwnG w B g k cap l)(j:Nat)(hj:j<l.length):w.cell? ⟨g,j,none⟩=some (.string l[j]):=by obtain⟨g',e,hc,_⟩:=kt.row_some h.1 (by rw[←h.2];omega);injection e with e;injection e with e;subst e;exact hc j _ (by simp[scells,hj])
theorem ownG_at {w:World}{B g k cap:Nat}{l:List ByteArray}(h:OwnG w B g k cap l)(j:Nat){x:ByteArray}(hx:l[j]? =some x):w.cell? ⟨g,j,none⟩=some (.string x):=by obtain⟨hj,rfl⟩:=List.getElem?_eq_some_iff.1 hx;exact ownG_cell h j hj
theorem ownG_frozen {w:World}{B g k cap:Nat}{l:List ByteArray}(h:OwnG w B g k cap l)(j:Nat):w.frozen? ⟨g,j,none⟩=false:=h.1.frozenAt j
theorem ownG_set {w:World}{B g k cap:Nat}{l:List ByteArray}(h:OwnG w B g k cap l)(j:Nat)(x:ByteArray):OwnG (w.setCell ⟨g,j,none⟩ (.string x)) B g k cap (l.set j x):=by
 refine⟨?_,by rw[List.length_set];exact h.2⟩;have:=(h.1.stored j (.string x)).1;have e:scells (l.set j x)=(scells l).set j (.string x):=by unfold scells;rw[List.map_set]
 rw[e];exact this
theorem ownG_below {w w':World}{B g k cap:Nat}{l:List ByteArray}(h:OwnG w B g k cap l)(hb:Below w.heap.size w w'):OwnG w' B g k cap l:=by refine⟨?_,h.2⟩;have:=kt.row_below (w:=w) (w':=w') h.1 hb;exact this
def mix (syn:Int)(L:List ByteArray)(i:Nat):List ByteArray:=(L.take i).map (fun x=>bs (gotP syn x))++L.drop i
theorem mix_len (syn:Int)(L:List ByteArray)(i:Nat):(mix syn L i).length=L.length:=by unfold mix;rw[List.length_append,List.length_map,List.length_take,List.length_drop];omega
theorem mix_at {syn:Int}{L:List ByteArray}{i:Nat}(h:i<L.length)(h':i<(mix syn L i).length):(mix syn L i)[i]=L[i]:=by apply Option.some.inj;rw[←List.getElem?_eq_getElem h',←List.getElem?_eq_getElem h];unfold mix;rw[List.getElem?_append_right (by rw[List.length_map,List.length_take];omega),List.length_map,List.length_take,List.getElem?_drop];congr 1;omega
theorem mix_step {syn:Int}{L:List ByteArray}{i:Nat}(h:i<L.length):(mix syn L i).set i (bs (gotP syn L[i]))=mix syn L (i+1):=by unfold mix;rw[List.set_append_right _ _ (by rw[List.length_map,List.length_take];omega),List.take_succ_eq_append_getElem h,List.map_append,List.append_assoc];congr 1;rw[List.length_map,List.length_take,show i-min i L.length=0 by omega,List.drop_eq_getElem_cons h];rfl
theorem mix_all (syn:Int)(L:List ByteArray):mix syn L L.length=L.map (fun x=>bs (gotP syn x)):=by unfold mix;rw[List.take_length,List.drop_length,List.append_nil]
theorem allP_step {syn:Int}{L:List ByteArray}{i:Nat}(h:i<L.length):allP syn (L.take (i+1))=(allP syn (L.take i)&&(pieceO syn L[i].data.toList).isSome):=by unfold allP;rw[List.take_succ_eq_append_getElem h,List.all_append];simp
theorem allP_no {syn:Int}{L:List ByteArray}{i:Nat}(h:i<L.length)(hn:pieceO syn L[i].data.toList=none):allP syn L=false:=by unfold allP;rw[List.all_eq_false];exact⟨L[i],List.getElem_mem _,by rw[hn];simp⟩
theorem cut_yes {s p:List UInt8}{r:List (List UInt8)}:greedy (p::r) s=((Lib.cut s p).2.2&&greedy r (Lib.cut s p).2.1):=by
 show(if Lib.index s p<0 then false else greedy r (s.drop ((Lib.index s p).toNat+p.length)))=_;unfold Lib.cut;by_cases h:Lib.index s p<0
 ·rw[if_pos h,if_neg (by omega)];rfl
 ·rw[if_neg h,if_pos (by omega)];rfl
theorem cut_len (s p:List UInt8):(Lib.cut s p).2.1.length≤s.length:=by
 unfold Lib.cut;split
 ·rw[List.length_drop];omega
 ·simp
theorem partL_no {s a z:List UInt8}{m:List (List UInt8)}(h:Lib.hasPrefix s a=false):partL s a z m=false:=by unfold partL;unfold Lib.hasPrefix at h;rw[h];rfl
theorem partL_cut {s a z:List UInt8}{m:List (List UInt8)}(h:Lib.hasPrefix s a=true):partL s a z m=(Lib.hasSuffix (Lib.trimPrefix s a) z&&greedy m (Lib.trimSuffix (Lib.trimPrefix s a) z)):=by
 have e:Lib.trimPrefix s a=s.drop a.length:=by unfold Lib.trimPrefix;rw[if_pos h]
 rw[e];unfold partL;unfold Lib.hasPrefix at h;rw[h,Bool.true_and];unfold Lib.trimSuffix Lib.hasSuffix;cases hz:z.isSuffixOf (s.drop a.length)with
 | true=>simp
 | false=>simp
theorem trim_len (s a z:List UInt8):(Lib.trimSuffix (Lib.trimPrefix s a) z).length≤s.length:=by
 have h1:(Lib.trimPrefix s a).length≤s.length:=by
  unfold Lib.trimPrefix;split
  ·rw[List.length_drop];omega
  ·omega
 refine Nat.le_trans ?_ h1;unfold Lib.trimSuffix;split
 ·rw[List.length_take];omega
 ·omega
end atw
end Go.Proofs.YtmnpfkbjpeaemaaGreatDoor
namespace Go.Proofs
def Tryz.laysC172_ren:Go.Shelf.Ren:=⟨fun | 172=>274 | 244=>306 | 245=>307 | 247=>320 | 279=>321 | 280=>322 | 281=>323 | 282=>324 | 287=>327 | 316=>328 | 171=>330 | 205=>329 | 321=>331 | 322=>332 | 243=>333 | 246=>334 | 283=>335 | 284=>336 | 285=>337 | 286=>338 | 129=>246 | 317=>339 | 318=>340 | 319=>341 | 320=>342 | 337=>343 | 338=>344 | n=>n,fun | 9=>9 | 3=>3 | 75=>135 | 76=>136 | 4=>4 | 5=>5 | 167=>294 | 37=>131 | 0=>0 | 85=>295 | 2=>2 | 168=>297 | 53=>161 | 175=>300 | 46=>44 | 210=>303 | 127=>198 | 145=>309 | 143=>307 | 21=>21 | 171=>311 | 173=>313 | 212=>316 | 51=>253 | 20=>20 | 213=>317 | 232=>318 | 233=>319 | 80=>93 | n=>n,fun | 15=>4 | 16=>5 | 17=>6 | 18=>7 | 19=>8 | n=>n⟩
theorem Tryz.laysC172:Go.Proofs.LaysC.n172 Tryz.prog Tryz.laysC172_ren:={
 mixed:=by kernel_rfl
 f129:=Tryz.func246.trans (congrArg some (by kernel_rfl))
 f171:=Tryz.func330.trans (congrArg some (by kernel_rfl))
 f172:=Tryz.func274.trans (congrArg some (by kernel_rfl))
 f205:=Tryz.func329.trans (congrArg some (by kernel_rfl))
 f243:=Tryz.func333.trans (congrArg some (by kernel_rfl))
 f244:=Tryz.func306.trans (congrArg some (by kernel_rfl))
 f245:=Tryz.func307.trans (congrArg some (by kernel_rfl))
 f246:=Tryz.func334.trans (congrArg some (by kernel_rfl))
 f247:=Tryz.func320.trans (congrArg some (by kernel_rfl))
 f279:=Tryz.func321.trans (congrArg some (by kernel_rfl))
 f280:=Tryz.func322.trans (congrArg some (by kernel_rfl))
 f281:=Tryz.func323.trans (congrArg some (by kernel_rfl))
 f282:=Tryz.func324.trans (congrArg some (by kernel_rfl))
 f283:=Tryz.func335.trans (congrArg some (by kernel_rfl))
 f284:=Tryz.func336.trans (congrArg some (by kernel_rfl))
 f285:=Tryz.func337.trans (congrArg some (by kernel_rfl))
 f286:=Tryz.func338.trans (congrArg some (by kernel_rfl))
 f287:=Tryz.func327.trans (congrArg some (by kernel_rfl))
 f316:=Tryz.func328.trans (congrArg some (by kernel_rfl))
 f317:=Tryz.func339.trans (congrArg some (by kernel_rfl))
 f318:=Tryz.func340.trans (congrArg some (by kernel_rfl))
 f319:=Tryz.func341.trans (congrArg some (by kernel_rfl))
 f320:=Tryz.func342.trans (congrArg some (by kernel_rfl))
 f321:=Tryz.func331.trans (congrArg some (by kernel_rfl))
 f322:=Tryz.func332.trans (congrArg some (by kernel_rfl))
 f337:=Tryz.func343.trans (congrArg some (by kernel_rfl))
 f338:=Tryz.func344.trans (congrArg some (by kernel_rfl))
 t0:=Tryz.underlying0
 a0:=Tryz.isAgg0
 z0:=Tryz.sizeOf0
 v0:=Tryz.zeroValue0
 t2:=Tryz.underlying2
 a2:=Tryz.isAgg2
 z2:=Tryz.sizeOf2
 v2:=Tryz.zeroValue2
 t3:=Tryz.underlying3
 a3:=Tryz.isAgg3
 z3:=Tryz.sizeOf3
 v3:=Tryz.zeroValue3
 t4:=Tryz.underlying4
 a4:=Tryz.isAgg4
 z4:=Tryz.sizeOf4
 v4:=Tryz.zeroValue4
 t5:=Tryz.underlying5
 a5:=Tryz.isAgg5
 z5:=Tryz.sizeOf5
 v5:=Tryz.zeroValue5
 t9:=Tryz.underlying9
 a9:=Tryz.isAgg9
 z9:=Tryz.sizeOf9
 v9:=Tryz.zeroValue9
 t20:=Tryz.underlying20
 a20:=Tryz.isAgg20
 z20:=Tryz.sizeOf20
 v20:=Tryz.zeroValue20
 t21:=Tryz.underlying21
 a21:=Tryz.isAgg21
 z21:=Tryz.sizeOf21
 v21:=Tryz.zeroValue21
 t37:=Tryz.underlying131
 a37:=Tryz.isAgg131
 z37:=Tryz.sizeOf131
 v37:=Tryz.zeroValue131
 t46:=Tryz.underlying44
 a46:=Tryz.isAgg44
 z46:=Tryz.sizeOf44
 v46:=Tryz.zeroValue44
 t51:=Tryz.underlying253
 a51:=Tryz.isAgg253
 z51:=Tryz.sizeOf253
 v51:=Tryz.zeroValue253
 t53:=Tryz.underlying161
 a53:=Tryz.isAgg161
 z53:=Tryz.sizeOf161
 v53:=Tryz.zeroValue161
 t75:=Tryz.underlying135
 a75:=Tryz.isAgg135
 z75:=Tryz.sizeOf135
 v75:=Tryz.zeroValue135
 t76:=Tryz.underlying136
 a76:=Tryz.isAgg136
 z76:=Tryz.sizeOf136
 v76:=Tryz.zeroValue136
 t85:=Tryz.underlying295
 a85:=Tryz.isAgg295
 z85:=Tryz.sizeOf295
 v85:=Tryz.zeroValue295
 t127:=Tryz.underlying198
 a127:=Tryz.isAgg198
 z127:=Tryz.sizeOf198
 v127:=Tryz.zeroValue198
 t143:=Tryz.underlying307
 a143:=Tryz.isAgg307
 z143:=Tryz.sizeOf307
 v143:=Tryz.zeroValue307
 t145:=Tryz.underlying309
 a145:=Tryz.isAgg309
 z145:=Tryz.sizeOf309
 v145:=Tryz.zeroValue309
 t167:=Tryz.underlying294
 a167:=Tryz.isAgg294
 z167:=Tryz.sizeOf294
 v167:=Tryz.zeroValue294
 t168:=Tryz.underlying297
 a168:=Tryz.isAgg297
 z168:=Tryz.sizeOf297
 v168:=Tryz.zeroValue297
 t171:=Tryz.underlying311
 a171:=Tryz.isAgg311
 z171:=Tryz.sizeOf311
 v171:=Tryz.zeroValue311
 t173:=Tryz.underlying313
 a173:=Tryz.isAgg313
 z173:=Tryz.sizeOf313
 v173:=Tryz.zeroValue313
 t175:=Tryz.underlying300
 a175:=Tryz.isAgg300
 z175:=Tryz.sizeOf300
 v175:=Tryz.zeroValue300
 t210:=Tryz.underlying303
 a210:=Tryz.isAgg303
 z210:=Tryz.sizeOf303
 v210:=Tryz.zeroValue303
 t212:=Tryz.underlying316
 a212:=Tryz.isAgg316
 z212:=Tryz.sizeOf316
 v212:=Tryz.zeroValue316
 t213:=Tryz.underlying317
 a213:=Tryz.isAgg317
 z213:=Tryz.sizeOf317
 t232:=Tryz.underlying318
 a232:=Tryz.isAgg318
 z232:=Tryz.sizeOf318
 v232:=Tryz.zeroValue318
 t233:=Tryz.underlying319
 a233:=Tryz.isAgg319
 z233:=Tryz.sizeOf319
 v233:=Tryz.zeroValue319
 g15:=by kernel_rfl
 g16:=by kernel_rfl
 g17:=by kernel_rfl
 g18:=by kernel_rfl
 g19:=by kernel_rfl
 t80:=Tryz.underlying93
 a80:=Tryz.isAgg93
 z80:=Tryz.sizeOf93
 v80:=Tryz.zeroValue93
 i0:=by kernel_rfl
 i2:=by kernel_rfl
 i3:=by kernel_rfl
 i4:=by kernel_rfl
 i5:=by kernel_rfl
 i9:=by kernel_rfl
 i20:=by kernel_rfl
 i21:=by kernel_rfl
 i37:=by kernel_rfl
 i46:=by kernel_rfl
 i51:=by kernel_rfl
 i53:=by kernel_rfl
 i75:=by kernel_rfl
 i76:=by kernel_rfl
 i80:=by kernel_rfl
 i85:=by kernel_rfl
 i127:=by kernel_rfl
 i143:=by kernel_rfl
 i145:=by kernel_rfl
 i167:=by kernel_rfl
 i168:=by kernel_rfl
 i171:=by kernel_rfl
 i173:=by kernel_rfl
 i175:=by kernel_rfl
 i210:=by kernel_rfl
 i212:=by kernel_rfl
 i232:=by kernel_rfl
 i233:=by kernel_rfl
 m15:=by kernel_rfl
 m16:=by kernel_rfl
 m17:=by kernel_rfl
 m18:=by kernel_rfl
 m19:=by kernel_rfl
 c0:=by kernel_rfl
 c2:=by kernel_rfl
 c3:=by kernel_rfl
 c4:=by kernel_rfl
 c5:=by kernel_rfl
 c9:=by kernel_rfl
 c20:=by kernel_rfl
 c21:=by kernel_rfl
 c37:=by kernel_rfl
 c46:=by kernel_rfl
 c51:=by kernel_rfl
 c53:=by kernel_rfl
 c75:=by kernel_rfl
 c76:=by kernel_rfl
 c80:=by kernel_rfl
 c85:=by kernel_rfl
 c127:=by kernel_rfl
 c143:=by kernel_rfl
 c145:=by kernel_rfl
 c167:=by kernel_rfl
 c168:=by kernel_rfl
 c171:=by kernel_rfl
 c173:=by kernel_rfl
 c175:=by kernel_rfl
 c210:=by kernel_rfl
 c212:=by kernel_rfl
 c213:=by kernel_rfl
 c232:=by kernel_rfl
 c233:=by kernel_rfl}
open Go.RowKit in
theorem Tryz.strconv_Atoi_ok (s:ByteArray)(hmax:s.size≤9223372036854775806)(v:Int)(h:Lib.atoiAll s.data.toList= .ok v)(w:World):
  Calls Tryz.prog 274 #[.string s] w fun e w'=>e= .returned (.tuple #[.int .i64 v,.nilIface])∧(w'=w∨ ∃t,w'=Lib.bytesWorld w 5 t):=Any.strconv_Atoi_ok Tryz.laysC172 s hmax v h w
end Go.Proofs
namespace Go.Proofs.YtmnpfkbjpeaemaaGreatDoor
open Go.RowKit
namespace atw
open atp
theorem ordS_cases (syn:Int):(syn=1∨syn=2∨syn=4)∨(ordS syn=false∧(syn==1)=false∧(syn==2)=false∧(syn==4)=false∧(syn !=1)=true∧(syn !=2)=true∧(syn !=4)=true):=by
 by_cases h:syn=1∨syn=2∨syn=4
 ·exact Or.inl h
 ·refine Or.inr ⟨?_,?_,?_,?_,?_,?_,?_⟩
  ·unfold ordS;rw[decide_eq_false (by omega),decide_eq_false (by omega),decide_eq_false (by omega)];rfl
  ·rw[beq_eq_false_iff_ne];omega
  ·rw[beq_eq_false_iff_ne];omega
  ·rw[beq_eq_false_iff_ne];omega
  ·rw[bne_iff_ne];omega
  ·rw[bne_iff_ne];omega
  ·rw[bne_iff_ne];omega
theorem ordL_no {syn:Int}{a b:List UInt8}(h:ordS syn=false):ordL syn a b=(0,20):=by unfold ordL;rw[if_pos h]
theorem ordL_err {syn:Int}{a b:List UInt8}(h:ordS syn=true)(h2:(bothL syn a b).2.2≠0):ordL syn a b=(0,(bothL syn a b).2.2):=by unfold ordL;rw[if_neg (by rw[h];simp),if_pos h2]
theorem ordL_num {a b:List UInt8}(h2:(bothL 4 a b).2.2=0):ordL 4 a b=(Lib.compareInt (worth (bothL 4 a b).1) (worth (bothL 4 a b).2.1),0):=by unfold ordL;rw[if_neg (by decide),if_neg (not_not_intro h2),if_pos rfl]
theorem ordL_txt {syn:Int}{a b:List UInt8}(h:ordS syn=true)(h4:syn≠4)(h2:(bothL syn a b).2.2=0):ordL syn a b=(Lib.compareBytes (bothL syn a b).1 (bothL syn a b).2.1,0):=by unfold ordL;rw[if_neg (by rw[h];simp),if_neg (not_not_intro h2),if_neg h4]
theorem both_num {a b:List UInt8}(h:(bothL 4 a b).2.2=0):numOK (bothL 4 a b).1=true∧(bothL 4 a b).1.length≤19∧numOK (bothL 4 a b).2.1=true∧(bothL 4 a b).2.1.length≤19:=by
 unfold bothL at h ⊢;by_cases h1:(normL 4 a).2≠0
 ·rw[if_pos h1]at h;exact absurd h h1
 ·by_cases h2:(normL 4 b).2≠0
  ·rw[if_neg h1,if_pos h2]at h;exact absurd h h2
  ·rw[if_neg h1,if_neg h2];obtain⟨i1,i2⟩:=norm_num (a:=a) (Classical.not_not.1 h1);obtain⟨j1,j2⟩:=norm_num (a:=b) (Classical.not_not.1 h2);exact⟨i1,i2,j1,j2⟩
theorem atoi_any (l:List UInt8)(h:numOK l=true)(hl:l.length≤19)(w:World):Calls Tryz.prog 274 #[.string (bs l)] w fun e w'=>e= .returned (.tuple #[.int .i64 (worth l),.nilIface])∧Below w.heap.size w w':=by
 refine(Tryz.strconv_Atoi_ok (bs l) (by rw[bs_size];omega) (worth l) (atoi_num h).1 w).mono ?_;rintro e w' ⟨rfl,hw⟩;refine⟨rfl,?_⟩;rcases hw with rfl | ⟨t,rfl⟩
 ·exact Below.refl _ _
 ·exact Lib.bytesWorld_below _ _ _
theorem order_any (nm:ByteArray)(syn:Int)(sg:Bool)(a b:ByteArray)(w:World)(ha:a.size≤140737488351232)(hb:b.size≤140737488351232)(hE:Hid (prw.Env w))(hT:Hid (dnw.Tabs w)):
  Calls Tryz.prog 235 #[.agg #[.string nm,.int .i64 syn,.bool sg],.string a,.string b] w fun e w'=>e= .returned (.tuple #[.int .i64 (ordL syn a.data.toList b.data.toList).1,.int .i64 (ordL syn a.data.toList b.data.toList).2])∧Below w.heap.size w w':=by
 obtain⟨W0,hW0⟩: ∃W,w.alloc (.cells #[.string nm,.int .i64 syn,.bool sg] 108)=W:=⟨_,rfl⟩;have hB0:Below w.heap.size w W0:=by rw[←hW0];exact(Below.refl _ _).alloc (Nat.le_refl _) _
 have HB0:=Lib.hid hB0;have hw0:w.heap.size≤W0.heap.size:=hB0.size;have HTB0:Hid (TB W0 w.heap.size nm syn sg):=by rw[←hW0];exact tb_new w nm syn sg
 obtain⟨k0,k1,k2⟩:=tb_cells HTB0.out;have HE0:=Lib.hid (prw.env_below hE.out hB0);have HT0:=Lib.hid (dnw.tabs_below hT.out hB0);have HBO:Hid (∀w,prw.Env w→dnw.Tabs w→Calls Tryz.prog 201 #[.agg #[.string nm,.int .i64 syn,.bool sg],.string a,.string b] w fun e w'=>e= .returned (.tuple #[.string (bs (bothL syn a.data.toList b.data.toList).1),.string (bs (bothL syn a.data.toList b.data.toList).2.1),.int .i64 (bothL syn a.data.toList b.data.toList).2.2])∧Below w.heap.size w w'):=fun w h1 h2=>both_any nm syn sg a b w ha hb (Lib.hid h1) (Lib.hid h2);clear hB0;rcases ordS_cases syn with hsy | ⟨hno,q1,q2,q4,_,_,_⟩
 ·have hos:ordS syn=true:=by rcases hsy with rfl | rfl | rfl<;>rfl
  by_cases her:(bothL syn a.data.toList b.data.toList).2.2=0
  ·by_cases h4:syn=4
   ·subst h4;rw[ordL_num her];obtain⟨n1,l1,n2,l2⟩:=both_num her;generalize bothL 4 a.data.toList b.data.toList=bo at HBO her n1 l1 n2 l2 ⊢;obtain⟨u,v,er⟩:=bo;simp only at HBO her n1 l1 n2 l2 ⊢;subst her;have HA1:Hid (∀w,Calls Tryz.prog 274 #[.string (bs u)] w fun e w'=>e= .returned (.tuple #[.int .i64 (worth u),.nilIface])∧Below w.heap.size w w'):=fun w=>atoi_any u n1 l1 w;have HA2:Hid (∀w,Calls Tryz.prog 274 #[.string (bs v)] w fun e w'=>e= .returned (.tuple #[.int .i64 (worth v),.nilIface])∧Below w.heap.size w w'):=fun w=>atoi_any v n2 l2 w;have HCM:Hid (∀w,Calls Tryz.prog 275 #[.int .i64 (worth u),.int .i64 (worth v)] w fun e w'=>e= .returned (.int .i64 (Lib.compareInt (worth u) (worth v)))∧w=w'):=(by intro w;refine(Tryz.cmp_Compare_int (worth u) (worth v) w).mono ?_;rintro e w' ⟨rfl,rfl⟩;exact⟨rfl,rfl⟩);generalize Lib.compareInt (worth u) (worth v)=cv at HCM ⊢;generalize worth u=x at HA1 HCM;generalize worth v=y at HA2 HCM;clear n1 n2 l1 l2 hos;go_enter Tryz.func235,Tryz.ntmps235;go_wp2_with fail;refine(HBO.out _ HE0.out HT0.out).mono ?_;rintro e w1 ⟨rfl,hB1⟩;have HB1:=Lib.hid (HB0.out.trans (hB1.mono hw0));obtain⟨m0,m1,m2⟩:=tb_cells (tb_below HTB0.out hB1);clear hB1 hW0 k0 k1 k2;go_wp2_with fail;refine(HA1.out _).mono ?_;rintro e w2 ⟨rfl,hB2⟩;have HB2:=Lib.hid (HB1.out.trans (hB2.mono HB1.out.size));clear hB2 m0 m1 m2;go_wp2_with fail;refine(HA2.out _).mono ?_;rintro e w3 ⟨rfl,hB3⟩;have HB3:=Lib.hid (HB2.out.trans (hB3.mono HB2.out.size));clear hB3;go_wp2_with fail;refine(HCM.out _).mono ?_;rintro e w4 ⟨rfl,rfl⟩;go_wp2_with fail;go_ret2;exact⟨rfl,HB3.out⟩
   ·rw[ordL_txt hos h4 her];have q4:(syn==4)=false:=(by rw[beq_eq_false_iff_ne];exact h4);have hsy2:syn=1∨syn=2:=(by omega);generalize bothL syn a.data.toList b.data.toList=bo at HBO her ⊢;obtain⟨u,v,er⟩:=bo;simp only at HBO her ⊢;subst her;have HCM:Hid (∀w,Calls Tryz.prog 276 #[.string (bs u),.string (bs v)] w fun e w'=>e= .returned (.int .i64 (Lib.compareBytes u v))∧w=w'):=(by intro w;refine(Tryz.strings_Compare (bs u) (bs v) w).mono ?_;rintro e w' ⟨rfl,rfl⟩;exact⟨rfl,rfl⟩);generalize Lib.compareBytes u v=cv at HCM ⊢;clear hos h4 hsy;rcases hsy2 with rfl | rfl
    all_goals go_enter Tryz.func235,Tryz.ntmps235;go_wp2_with fail;refine(HBO.out _ HE0.out HT0.out).mono ?_;rintro e w1 ⟨rfl,hB1⟩;have HB1:=Lib.hid (HB0.out.trans (hB1.mono hw0));obtain⟨m0,m1,m2⟩:=tb_cells (tb_below HTB0.out hB1);clear hB1 hW0 k0 k1 k2;go_wp2_with fail;refine(HCM.out _).mono ?_;rintro e w4 ⟨rfl,rfl⟩;go_wp2_with fail;go_ret2;exact⟨rfl,HB1.out⟩
  ·rw[ordL_err hos her];generalize bothL syn a.data.toList b.data.toList=bo at HBO her ⊢;obtain⟨u,v,er⟩:=bo;simp only at HBO her ⊢;have qe:(er !=0)=true:=(by rw[bne_iff_ne];exact her);clear her hos;rcases hsy with rfl | rfl | rfl
   all_goals go_enter Tryz.func235,Tryz.ntmps235;go_wp2_with fail;refine(HBO.out _ HE0.out HT0.out).mono ?_;rintro e w1 ⟨rfl,hB1⟩;have HB1:=Lib.hid (HB0.out.trans (hB1.mono hw0));clear hB1 hW0 k0 k1 k2;go_wp2_with fail;go_ret2;exact⟨rfl,HB1.out⟩
 ·rw[ordL_no hno];clear hno;go_enter Tryz.func235,Tryz.ntmps235;go_wp2_with fail;go_ret2;exact⟨rfl,HB0.out⟩
end atw
namespace flp
open atp atw etp
inductive Fl where
 | mk (kind:Int) (attr value first:ByteArray) (any:List ByteArray) (last:ByteArray) (kids:List Fl):Fl
def Fl.kind:Fl→Int | .mk k _ _ _ _ _ _=>k
def Fl.attr:Fl→ByteArray | .mk _ a _ _ _ _ _=>a
def Fl.value:Fl→ByteArray | .mk _ _ v _ _ _ _=>v
def Fl.first:Fl→ByteArray | .mk _ _ _ f _ _ _=>f
def Fl.any:Fl→List ByteArray | .mk _ _ _ _ m _ _=>m
def Fl.last:Fl→ByteArray | .mk _ _ _ _ _ z _=>z
def Fl.kids:Fl→List Fl | .mk _ _ _ _ _ _ ks=>ks
theorem Fl.eta (F:Fl):F= .mk F.kind F.attr F.value F.first F.any F.last F.kids:=by cases F;rfl
def okD:Nat→Fl→Prop
 | 0,_=>False
 | d+1,F=> ∀k∈F.kids,okD d k
def cntN:Nat→Fl→Nat
 | 0,_=>0
 | d+1,F=>1+(F.kids.map (cntN d)).sum
theorem map_same {α β:Type}{f g:α→β}: ∀ {l:List α},(∀x∈l,f x=g x)→l.map f=l.map g
 | [],_=>rfl
 | a::r,h=>by rw[List.map_cons,List.map_cons,h a (by simp),map_same fun x hx=>h x (by simp[hx])]
theorem cntN_fuel: ∀ {d e:Nat} {F:Fl},okD d F→d≤e→cntN e F=cntN d F
 | 0,_,_,h,_=>h.elim
 | d+1,0,_,_,h=>absurd h (by omega)
 | d+1,e+1,F,h,he=>by unfold cntN;rw[map_same fun k hk=>cntN_fuel (h k hk) (by omega)]
def isE (x:ByteArray):Bool:=decide (x.size=0)
def partsF (F:Fl):Bool:= !isE F.first||decide (0<F.any.length)|| !isE F.last
def piecesF (F:Fl):Bool:=F.any.any (fun x=> !isE x)|| !isE F.first|| !isE F.last
def attrOK (F:Fl):Bool:=decide (1≤F.attr.size)&&decide (F.attr.size≤64)
def oneF (F:Fl):Bool:=
 if F.kind=0∨F.kind=1 then isE F.attr&&isE F.value&& !partsF F
 else if F.kind=2 then isE F.attr&&isE F.value&& !partsF F&&decide (F.kids.length=1)
 else if F.kind=3∨F.kind=5∨F.kind=6∨F.kind=8 then attrOK F&& !partsF F&&decide (F.kids.length=0)
 else if F.kind=4 then attrOK F&&isE F.value&&piecesF F&&decide (F.any.length≤8)&&decide (F.kids.length=0)
 else if F.kind=7 then attrOK F&&isE F.value&& !partsF F&&decide (F.kids.length=0)
 else false
def rightD:Nat→Fl→Bool
 | 0,_=>false
 | d+1,F=>oneF F&&F.kids.all (rightD d)
def cntR:Nat→Fl→Nat→Option Nat
 | 0,_,_=>none
 | d+1,_,0=>none
 | d+1,F,m+1=>if oneF F=true then F.kids.foldlM (fun l k=>cntR d k l) m else none
def rightF (F:Fl):Bool:=(cntR 8 F 40).isSome
theorem rightD_ok: ∀ {d:Nat} {F:Fl},rightD d F=true→okD d F
 | 0,_,h=>by cases h
 | d+1,F,h=>by unfold rightD at h;rw[Bool.and_eq_true,List.all_eq_true]at h;exact fun k hk=>rightD_ok (h.2 k hk)
theorem rightD_mono: ∀ {d e:Nat} {F:Fl},rightD d F=true→d≤e→rightD e F=true
 | 0,_,_,h,_=>by cases h
 | d+1,0,_,_,h=>absurd h (by omega)
 | d+1,e+1,F,h,he=>by unfold rightD at h ⊢;rw[Bool.and_eq_true,List.all_eq_true]at h ⊢;exact⟨h.1,fun k hk=>rightD_mono (h.2 k hk) (by omega)⟩
theorem fold_iff {d:Nat}(ih: ∀ (F:Fl) (m r:Nat),cntR d F m=some r↔rightD d F=true∧cntN d F+r=m): ∀ (l:List Fl) (m r:Nat),l.foldlM (fun l k=>cntR d k l) m=some r↔l.all (rightD d)=true∧(l.map (cntN d)).sum+r=m
 | [],m,r=>by
  rw[List.foldlM_nil];simp only[List.all_nil,List.map_nil,List.sum_nil];constructor
  ·intro h;cases h;exact⟨trivial,by omega⟩
  ·rintro⟨_,h⟩;rw[show m=r from by omega];rfl
 | k::t,m,r=>by
  rw[List.foldlM_cons,List.all_cons,List.map_cons,List.sum_cons,Bool.and_eq_true];constructor
  ·intro h;cases hc:cntR d k m with
   | none=>rw[hc]at h;cases h
   | some q=>rw[hc]at h;obtain⟨h1,h2⟩:=(ih k m q).1 hc;obtain⟨h3,h4⟩:=(fold_iff ih t q r).1 h;exact⟨⟨h1,h3⟩,by omega⟩
  ·rintro⟨⟨h1,h2⟩,h3⟩;have hq:cntR d k m=some ((t.map (cntN d)).sum+r):=(ih k m _).2 ⟨h1,by omega⟩;rw[hq];exact(fold_iff ih t _ r).2 ⟨h2,rfl⟩
theorem cntR_iff: ∀ (d:Nat) (F:Fl) (m r:Nat),cntR d F m=some r↔rightD d F=true∧cntN d F+r=m
 | 0,F,m,r=>by simp[cntR,rightD]
 | d+1,F,0,r=>by
  constructor
  ·intro h;cases h
  ·rintro⟨_,h⟩;unfold cntN at h;omega
 | d+1,F,m+1,r=>by
  unfold cntR rightD cntN;rw[Bool.and_eq_true];cases h1:oneF F with
  | false=>simp
  | true=>
   rw[if_pos rfl,fold_iff (cntR_iff d)];constructor
   ·rintro⟨h2,h3⟩;exact⟨⟨rfl,h2⟩,by omega⟩
   ·rintro⟨⟨_,h2⟩,h3⟩;exact⟨h2,by omega⟩
theorem rightF_iff (F:Fl):rightF F=true↔rightD 8 F=true∧cntN 8 F≤40:=by
 unfold rightF;rw[Option.isSome_iff_exists];constructor
 ·rintro⟨r,h⟩;obtain⟨h1,h2⟩:=(cntR_iff 8 F 40 r).1 h;exact⟨h1,by omega⟩
 ·rintro⟨h1,h2⟩;exact⟨40-cntN 8 F,(cntR_iff 8 F 40 _).2 ⟨h1,by omega⟩⟩
def ask:Nat→Fl→List (List UInt8)
 | 0,_=>[]
 | d+1,F=>(match findS (sml.lowL F.attr.data.toList)with
  | some t=>[t.name]
  | none=>[])++F.kids.flatMap (ask d)
def flipI (n:Int):Int:=if n=2 then 2 else 1-n
def askV (F:Fl)(syn:Int)(v:ByteArray):Bool:=
 if F.kind=3∨F.kind=8 then alike syn v F.value
 else decide ((ordL syn v.data.toList F.value.data.toList).2=0)&&((decide (F.kind=5)&&decide (0≤(ordL syn v.data.toList F.value.data.toList).1))||(decide (F.kind=6)&&decide ((ordL syn v.data.toList F.value.data.toList).1≤0)))
def partV (F:Fl)(syn:Int)(v:ByteArray):Bool:=(partE syn v F.first F.last F.any).1&&decide ((partE syn v F.first F.last F.any).2=0)
def probe (syn:Int):ByteArray:=if syn=7 then⟨#[49]⟩else⟨#[97]⟩
def someI (b:Bool):Int:=if b=true then 1 else 0
def leafT (F:Fl)(L:List At)(t:Ty):Int:=
 if F.kind=7 then someI (!(valsA L (bs t.name)).isEmpty)
 else if F.kind=4 then(if(partE t.syn (probe t.syn) F.first F.last F.any).2≠0 then 2 else someI ((valsA L (bs t.name)).any (partV F t.syn)))
 else if okV t.syn F.value=false∨((F.kind=5∨F.kind=6)∧ordS t.syn=false)then 2
 else someI ((valsA L (bs t.name)).any (askV F t.syn))
def leafI (F:Fl)(L:List At):Int:=match findS (sml.lowL F.attr.data.toList)with
 | none=>2
 | some t=>leafT F L t
def conn (kind:Int)(ns:List Int):Int:=if ns.any (fun n=>decide (n=kind))=true then kind else if ns.any (fun n=>decide (n=2))=true then 2 else 1-kind
def evalF:Nat→Fl→List At→Int
 | 0,_,_=>0
 | d+1,F,L=>
  if F.kind=2 then(match F.kids with
   | k::_=>flipI (evalF d k L)
   | []=>0)
  else if F.kind=0∨F.kind=1 then conn F.kind (F.kids.map fun k=>evalF d k L)
  else leafI F L
def evalE (F:Fl)(L:List At):Int:=if rightF F=true then evalF 8 F L else 2
theorem evalF_fuel (L:List At): ∀ {d e:Nat} {F:Fl},okD d F→d≤e→evalF e F L=evalF d F L
 | 0,_,_,h,_=>h.elim
 | d+1,0,_,_,h=>absurd h (by omega)
 | d+1,e+1,F,h,he=>by
  have key: ∀k∈F.kids,evalF e k L=evalF d k L:=fun k hk=>evalF_fuel L (h k hk) (by omega);unfold evalF;rw[map_same key];cases hk:F.kids with
  | nil=>rfl
  | cons k t=>simp only[key k (by rw[hk];simp)]
theorem some_three (b:Bool):someI b=0∨someI b=1:=by cases b;exact Or.inl rfl;exact Or.inr rfl
theorem leafT_three (F:Fl)(L:List At)(t:Ty):leafT F L t=0∨leafT F L t=1∨leafT F L t=2:=by
 unfold leafT;have h:=fun b=>some_three b;split
 ·rcases h (!(valsA L (bs t.name)).isEmpty)with h | h<;>simp[h]
 ·split
  ·split
   ·simp
   ·rcases h ((valsA L (bs t.name)).any (partV F t.syn))with h | h<;>simp[h]
  ·split
   ·simp
   ·rcases h ((valsA L (bs t.name)).any (askV F t.syn))with h | h<;>simp[h]
theorem leaf_three (F:Fl)(L:List At):leafI F L=0∨leafI F L=1∨leafI F L=2:=by
 unfold leafI;split
 ·simp
 ·exact leafT_three _ _ _
theorem flip_three {n:Int}(h:n=0∨n=1∨n=2):flipI n=0∨flipI n=1∨flipI n=2:=by unfold flipI;rcases h with rfl | rfl | rfl<;>simp
theorem conn_three {k:Int}(hk:k=0∨k=1)(ns:List Int):conn k ns=0∨conn k ns=1∨conn k ns=2:=by
 unfold conn;split
 ·omega
 ·split
  ·simp
  ·omega
theorem eval_three (L:List At): ∀ (d:Nat) (F:Fl),evalF d F L=0∨evalF d F L=1∨evalF d F L=2
 | 0,_=>Or.inl rfl
 | d+1,F=>by
  unfold evalF;split
  ·split
   ·exact flip_three (eval_three L d _)
   ·simp
  ·split
   ·rename_i h;exact conn_three h _
   ·exact leaf_three _ _
theorem conn_flip {k:Int}(hk:k=0∨k=1)(ns:List Int)(h: ∀n∈ns,n=0∨n=1∨n=2):conn (1-k) (ns.map flipI)=flipI (conn k ns):=by
 have e1:(ns.map flipI).any (fun n=>decide (n=1-k))=ns.any (fun n=>decide (n=k)):=by
  rw[List.any_map,Bool.eq_iff_iff,List.any_eq_true,List.any_eq_true];constructor
  ·rintro⟨x,hx,hq⟩;refine⟨x,hx,?_⟩;simp only[Function.comp_apply,decide_eq_true_iff]at hq ⊢;unfold flipI at hq;have:=h x hx;split at hq<;>omega
  ·rintro⟨x,hx,hq⟩;refine⟨x,hx,?_⟩;simp only[Function.comp_apply,decide_eq_true_iff]at hq ⊢;unfold flipI;rw[if_neg (by omega)];omega
 have e2:(ns.map flipI).any (fun n=>decide (n=2))=ns.any (fun n=>decide (n=2)):=by
  rw[List.any_map,Bool.eq_iff_iff,List.any_eq_true,List.any_eq_true];constructor
  ·rintro⟨x,hx,hq⟩;refine⟨x,hx,?_⟩;simp only[Function.comp_apply,decide_eq_true_iff]at hq ⊢;unfold flipI at hq;have:=h x hx;split at hq<;>omega
  ·rintro⟨x,hx,hq⟩;refine⟨x,hx,?_⟩;simp only[Function.comp_apply,decide_eq_true_iff]at hq ⊢;unfold flipI;rw[if_pos hq]
 unfold conn;rw[e1,e2];unfold flipI;split
 ·rw[if_neg (by omega)]
 ·split
  ·rw[if_pos rfl]
  ·rw[if_neg (by omega)]
theorem any_rev {α:Type}(f:α→Bool)(l:List α):l.reverse.any f=l.any f:=by rw[Bool.eq_iff_iff,List.any_eq_true,List.any_eq_true];exact⟨fun⟨x,hx,h⟩=>⟨x,List.mem_reverse.1 hx,h⟩,fun⟨x,hx,h⟩=>⟨x,List.mem_reverse.2 hx,h⟩⟩
theorem conn_rev (k:Int)(ns:List Int):conn k ns.reverse=conn k ns:=by unfold conn;rw[any_rev,any_rev]
def both (kind:Int)(Ks:List Fl):Fl:= .mk kind ⟨#[]⟩ ⟨#[]⟩ ⟨#[]⟩ [] ⟨#[]⟩ Ks
def notF (F:Fl):Fl:=both 2 [F]
def negF (F:Fl):Fl:=if F.kind=2 then(match F.kids with
 | [k]=>k
 | _=>notF F)else notF F
theorem sum_rev (l:List Nat):l.reverse.sum=l.sum:=by
 induction l with
 | nil=>rfl
 | cons a r ih=>rw[List.reverse_cons,List.sum_append,ih,List.sum_cons,List.sum_cons,List.sum_nil];omega
theorem one_both {k:Int}(hk:k=0∨k=1)(Ks:List Fl):oneF (both k Ks)=true:=by unfold oneF;rw[if_pos (show(both k Ks).kind=0∨(both k Ks).kind=1 from hk)];rfl
theorem rules {k:Int}(hk:k=0∨k=1)(Ks:List Fl)(L:List At)(h1:rightF (notF (both k Ks))=true)(h2:rightF (both (1-k) (Ks.map notF))=true):
  evalE (both k Ks.reverse) L=evalE (both k Ks) L∧evalE (notF (both k Ks)) L=flipI (evalE (both k Ks) L)∧evalE (both (1-k) (Ks.map notF)) L=flipI (evalE (both k Ks) L):=by
 obtain⟨r1,c1⟩:=(rightF_iff _).1 h1;have r7:rightD 7 (both k Ks)=true:=by have r2:(oneF (notF (both k Ks))&&(notF (both k Ks)).kids.all (rightD 7))=true:=r1;rw[Bool.and_eq_true,List.all_eq_true]at r2;exact r2.2 _ (by simp[notF,both,Fl.kids])
 have r8:=rightD_mono r7 (show 7≤8 by omega);have hok7:=rightD_ok r7;have cf:cntN 8 (both k Ks)≤40:=by
  rw[cntN_fuel hok7 (show 7≤8 by omega)];have e:cntN 8 (notF (both k Ks))=1+((notF (both k Ks)).kids.map (cntN 7)).sum:=rfl;have e2:((notF (both k Ks)).kids.map (cntN 7)).sum=cntN 7 (both k Ks):=by simp[notF,both,Fl.kids]
  omega
 have hf:rightF (both k Ks)=true:=(rightF_iff _).2 ⟨r8,cf⟩;have kk:Ks.all (rightD 7)=true:=by have r2:(oneF (both k Ks)&&Ks.all (rightD 7))=true:=r8;rw[Bool.and_eq_true]at r2;exact r2.2
 have hg:rightF (both k Ks.reverse)=true:=by
  refine(rightF_iff _).2 ⟨?_,?_⟩
  ·show(oneF (both k Ks.reverse)&&Ks.reverse.all (rightD 7))=true;rw[Bool.and_eq_true,one_both hk,List.all_reverse];exact⟨rfl,kk⟩
  ·have e:cntN 8 (both k Ks.reverse)=1+(Ks.reverse.map (cntN 7)).sum:=rfl;have e2:cntN 8 (both k Ks)=1+(Ks.map (cntN 7)).sum:=rfl;rw[List.map_reverse,sum_rev]at e;omega
 have hk2: ¬k=2:=by omega
 have ev: ∀ (Js:List Fl) (d:Nat),evalF (d+1) (both k Js) L=conn k (Js.map fun j=>evalF d j L):=by intro Js d;show(if k=2 then _ else if k=0∨k=1 then conn k (Js.map fun j=>evalF d j L)else _)=_;rw[if_neg hk2,if_pos hk]
 have ev2: ∀ (Js:List Fl) (d:Nat),evalF (d+1) (both (1-k) Js) L=conn (1-k) (Js.map fun j=>evalF d j L):=by intro Js d;show(if(1-k)=2 then _ else if(1-k)=0∨(1-k)=1 then conn (1-k) (Js.map fun j=>evalF d j L)else _)=_;rw[if_neg (by omega),if_pos (by omega)]
 unfold evalE;rw[if_pos hf,if_pos hg,if_pos h1,if_pos h2];refine⟨?_,?_,?_⟩
 ·rw[ev,ev,List.map_reverse,conn_rev]
 ·show flipI (evalF 7 (both k Ks) L)=_;rw[evalF_fuel L hok7 (show 7≤8 by omega)]
 ·rw[ev2,ev,List.map_map];obtain⟨rh,_⟩:=(rightF_iff _).1 h2;have r2:(oneF (both (1-k) (Ks.map notF))&&(Ks.map notF).all (rightD 7))=true:=rh;rw[Bool.and_eq_true,List.all_eq_true]at r2;have k6: ∀j∈Ks,okD 6 j:=by intro j hj;have r3:(oneF (notF j)&&[j].all (rightD 6))=true:=r2.2 _ (List.mem_map.2 ⟨j,hj,rfl⟩);rw[Bool.and_eq_true,List.all_eq_true]at r3;exact rightD_ok (r3.2 j (by simp))
  have e:Ks.map ((fun j=>evalF 7 j L) ∘ notF)=(Ks.map fun j=>evalF 7 j L).map flipI:=by rw[List.map_map];refine map_same fun j hj=> ?_;show flipI (evalF 6 j L)=flipI (evalF 7 j L);rw[evalF_fuel L (k6 j hj) (show 6≤7 by omega)]
  rw[e,conn_flip hk];intro n hn;obtain⟨j,_,rfl⟩:=List.mem_map.1 hn;exact eval_three L 7 j
theorem neg_back {k:Int}(hk:k=0∨k=1)(Ks:List Fl):negF (both k Ks)=notF (both k Ks)∧negF (notF (both k Ks))=both k Ks:=by refine⟨if_neg (show¬k=2 by omega),?_⟩;rfl
end flp
namespace flp
open atp etp
def FitH (F:Fl):Prop:=F.attr.size≤100000∧F.value.size≤100000∧F.first.size≤100000∧F.last.size≤100000∧F.any.length≤100000∧(∀x∈F.any,x.size≤100000)∧F.kids.length≤100000
def FitD:Nat→Fl→Prop
 | 0,_=>False
 | d+1,F=>FitH F∧ ∀k∈F.kids,FitD d k
theorem fit_ok: ∀ {d:Nat} {F:Fl},FitD d F→okD d F
 | 0,_,h=>h.elim
 | d+1,F,h=>fun k hk=>fit_ok (h.2 k hk)
def cap5 (n:Nat):Nat:=min n 5001
def headW (F:Fl):Nat:=1+cap5 F.attr.size+cap5 F.value.size+cap5 F.first.size+cap5 F.last.size
def anyW:Nat→List ByteArray→Nat
 | n,[]=>n
 | n,x::r=>if n≤5000 then anyW (n+1+cap5 x.size) r else n
def kidsW (f:Fl→Nat→Nat):Nat→List Fl→Nat
 | n,[]=>n
 | n,k::r=>if n≤5000 then kidsW f (f k n) r else n
def weighF:Nat→Fl→Nat→Nat
 | 0,_,_=>5001
 | d+1,F,n=>kidsW (weighF d) (anyW (n+headW F) F.any) F.kids
theorem cap5_le (n:Nat):cap5 n≤5001:=Nat.min_le_right _ _
theorem anyW_stop {n:Nat}(h: ¬n≤5000)(l:List ByteArray):anyW n l=n:=by
 cases l with
 | nil=>rfl
 | cons x r=>unfold anyW;rw[if_neg h]
theorem kidsW_stop {f:Fl→Nat→Nat}{n:Nat}(h: ¬n≤5000)(l:List Fl):kidsW f n l=n:=by
 cases l with
 | nil=>rfl
 | cons x r=>unfold kidsW;rw[if_neg h]
theorem anyW_step {n:Nat}(h:n≤5000){l:List ByteArray}{i:Nat}(hi:i<l.length):anyW n (l.drop i)=anyW (n+1+cap5 l[i].size) (l.drop (i+1)):=by
 rw[List.drop_eq_getElem_cons hi];conv=>lhs;unfold anyW
 rw[if_pos h]
theorem kidsW_step {f:Fl→Nat→Nat}{n:Nat}(h:n≤5000){l:List Fl}{i:Nat}(hi:i<l.length):kidsW f n (l.drop i)=kidsW f (f l[i] n) (l.drop (i+1)):=by
 rw[List.drop_eq_getElem_cons hi];conv=>lhs;unfold kidsW
 rw[if_pos h]
theorem anyW_le: ∀ (l:List ByteArray) (n:Nat),n≤26000→anyW n l≤26000
 | [],n,h=>h
 | x::r,n,h=>by
  unfold anyW;split
  ·exact anyW_le r _ (by have:=cap5_le x.size;omega)
  ·exact h
theorem cap5_small {n:Nat}(h:cap5 n≤5000):n≤5000:=by unfold cap5 at h;omega
theorem anyW_fit: ∀ (l:List ByteArray) (n:Nat),anyW n l≤5000→n+l.length≤anyW n l∧ ∀x∈l,x.size≤5000
 | [],n,h=>⟨Nat.le_refl _,fun x hx=>by cases hx⟩
 | y::r,n,h=>by
  unfold anyW at h ⊢;split at h
  ·rename_i h0;rw[if_pos h0];obtain⟨h1,h2⟩:=anyW_fit r _ h;refine⟨by rw[List.length_cons];omega,fun x hx=> ?_⟩;rcases List.mem_cons.1 hx with rfl | hx
   ·exact cap5_small (by omega)
   ·exact h2 x hx
  ·omega
theorem kidsW_fit {f:Fl→Nat→Nat}{Q:Fl→Prop}{c:Fl→Nat}(hf: ∀k n,f k n≤5000→n+c k≤f k n∧1≤c k∧Q k): ∀ (l:List Fl) (n:Nat),kidsW f n l≤5000→n+(l.map c).sum≤kidsW f n l∧l.length≤(l.map c).sum∧ ∀k∈l,Q k
 | [],n,h=>⟨Nat.le_refl _,Nat.le_refl _,fun x hx=>by cases hx⟩
 | k::r,n,h=>by
  unfold kidsW at h ⊢;split at h
  ·rename_i h0;rw[if_pos h0];obtain⟨h1,h2,h3⟩:=kidsW_fit hf r _ h;have h4:f k n≤5000:=(by omega);obtain⟨h5,h6,h7⟩:=hf k n h4;refine⟨by rw[List.map_cons,List.sum_cons];omega,by rw[List.map_cons,List.sum_cons,List.length_cons];omega,fun x hx=> ?_⟩;rcases List.mem_cons.1 hx with rfl | hx
   ·exact h7
   ·exact h3 x hx
  ·omega
theorem weigh_fit: ∀ (d:Nat) (F:Fl) (n:Nat),weighF d F n≤5000→n+cntN d F≤weighF d F n∧1≤cntN d F∧FitD d F
 | 0,F,n,h=>by unfold weighF at h;omega
 | d+1,F,n,h=>by
  unfold weighF at h ⊢;obtain⟨h1,h2,h3⟩:=kidsW_fit (Q:=FitD d) (c:=cntN d) (fun k n=>weigh_fit d k n) F.kids _ h;have h4:anyW (n+headW F) F.any≤5000:=by omega
  obtain⟨h5,h6⟩:=anyW_fit F.any _ h4;have h7:n+headW F≤5000:=by omega
  have hw:headW F=1+cap5 F.attr.size+cap5 F.value.size+cap5 F.first.size+cap5 F.last.size:=rfl;have e:cntN (d+1) F=1+(F.kids.map (cntN d)).sum:=rfl;have a1:= @cap5_small F.attr.size (by omega);have a2:= @cap5_small F.value.size (by omega);have a3:= @cap5_small F.first.size (by omega);have a4:= @cap5_small F.last.size (by omega);exact⟨by rw[e];omega,by rw[e];omega,⟨by omega,by omega,by omega,by omega,by omega,fun x hx=>by have:=h6 x hx;omega,by omega⟩,h3⟩
theorem kidsW_le {f:Fl→Nat→Nat}(hf: ∀k n,n≤5000→f k n≤60000): ∀ (l:List Fl) (n:Nat),n≤60000→kidsW f n l≤60000
 | [],n,h=>h
 | k::r,n,h=>by
  unfold kidsW;split
  ·rename_i h0;exact kidsW_le hf r _ (hf k n h0)
  ·exact h
theorem headW_le (F:Fl):headW F≤20005:=by unfold headW;have:=cap5_le F.attr.size;have:=cap5_le F.value.size;have:=cap5_le F.first.size;have:=cap5_le F.last.size;omega
theorem weigh_le: ∀ (d:Nat) (F:Fl) (n:Nat),n≤5000→weighF d F n≤60000
 | 0,F,n,h=>by unfold weighF;omega
 | d+1,F,n,h=>by unfold weighF;refine kidsW_le (fun k n hn=>weigh_le d k n hn) F.kids _ ?_;have:=anyW_le F.any (n+headW F) (by have:=headW_le F;omega);omega
def longF (F:Fl):Bool:=decide (5000<weighF 60 F 0)
theorem long_no {F:Fl}(h:longF F=false):FitD 60 F∧cntN 60 F≤5000:=by unfold longF at h;rw[decide_eq_false_iff_not]at h;obtain⟨h1,h2,h3⟩:=weigh_fit 60 F 0 (by omega);exact⟨h3,by omega⟩
theorem sizes (n a b:Nat):min (min (n+a) 41+b) 41=min (n+(a+b)) 41:=by omega
theorem cnt_step {d:Nat}{l:List Fl}{i:Nat}(hi:i<l.length):((l.take (i+1)).map (cntN d)).sum=((l.take i).map (cntN d)).sum+cntN d l[i]:=by rw[List.take_succ_eq_append_getElem hi,List.map_append,List.sum_append];simp
theorem cnt_take {d:Nat}(l:List Fl)(i:Nat):((l.take i).map (cntN d)).sum≤(l.map (cntN d)).sum:=by
 have h:(l.map (cntN d)).sum=((l.take i).map (cntN d)).sum+((l.drop i).map (cntN d)).sum:=by rw[←List.sum_append,←List.map_append,List.take_append_drop]
 omega
end flp
open Go.RowKit
namespace etw
theorem tk {P:Program}{ops:Array Oper}{Q:Exit→Act→World→Prop}{md:Region.Mode}{S:World→Prop}(i:Nat)(oi:Oper){v:Value}{fuel:Nat}{listed:Array Bool}{a a2:Act}{w:World}(hi:ops[i]? =some oi)
  (h:wpAnyH P md ops Q S fuel (listed.setIfInBounds i true) a2 w)
  (hs:Region.noSelect ops=true:=by kernel_rfl) (hf:Region.free md ops listed i=true:=by kernel_rfl) (hr:(Region.ready md ops listed).contains i=true:=by kernel_rfl)
  (hQ: ∀c a w,Q (.panic c) (a.put oi.dst v) w→Q (.panic c) a w:=by exact fun _ _ _ h=>h) (hw:Region.wanted oi (yielded ops a.tmps)=true:=by rfl)
  (hy: ∀w,S w→(execOp a.eval oi).run P w= .ok (.value v) w:=by intro w hSw;(try dsimp only at hSw);go_simp;all_goals with_reducible rfl)
  (hS:S w:=by assumption) (ha:a.put oi.dst v=a2:=by first | (simp only[Act.put,List.setIfInBounds_toArray,List.set_cons_zero,List.set_cons_succ];rfl) | rfl):wpAnyH P md ops Q S (fuel+1) listed a w:=by
 subst ha;exact wpAnyH_take hi hs hf hr hQ (Or.inl ⟨hw,hy⟩) hS h
theorem tu {P:Program}{ops:Array Oper}{Q:Exit→Act→World→Prop}{md:Region.Mode}{S:World→Prop}(i:Nat)(oi:Oper){fuel:Nat}{listed:Array Bool}{a a2:Act}{w:World}(hi:ops[i]? =some oi)
  (h:wpAnyH P md ops Q S fuel (listed.setIfInBounds i true) a2 w)
  (hs:Region.noSelect ops=true:=by kernel_rfl) (hf:Region.free md ops listed i=true:=by kernel_rfl) (hr:(Region.ready md ops listed).contains i=true:=by kernel_rfl)
  (hQ: ∀c a w,Q (.panic c) (a.put oi.dst undef) w→Q (.panic c) a w:=by exact fun _ _ _ h=>h) (hw:Region.wanted oi (yielded ops a.tmps)=false:=by rfl)
  (hS:S w:=by assumption) (ha:a.put oi.dst undef=a2:=by first | (simp only[Act.put,List.setIfInBounds_toArray,List.set_cons_zero,List.set_cons_succ];rfl) | rfl):wpAnyH P md ops Q S (fuel+1) listed a w:=by
 subst ha;exact wpAnyH_take hi hs hf hr hQ (Or.inr ⟨hw,rfl⟩) hS h
theorem tc {P:Program}{ops:Array Oper}{Q:Exit→Act→World→Prop}{md:Region.Mode}{S:World→Prop}(i:Nat)(oi:Oper){fuel:Nat}{listed:Array Bool}{a:Act}{w:World}(ho:ops[i]? =some oi)
  (h: ∀K':Act→World→Prop,Shut (∀a w,S w→(S w→wpAnyH P md ops Q S fuel (listed.setIfInBounds i true) a w)→K' a w)→if Region.wanted oi (yielded ops a.tmps)=true then Oper.wp P oi a w K' Q else K' (a.put oi.dst undef) w)
  (hr:Region.ready md ops listed=[i]:=by kernel_rfl):wpAnyH P md ops Q S (fuel+1) listed a w:=
 wpAnyH_ready hr (by simp) (AllReadyH.cons ho h AllReadyH.nil)
end etw
open Go.RowKit
namespace etw
open atp atw etp
open dnw (Av Avas)
open tupw (Strs strs_below)
structure EnvE (w:World):Prop where
 e:prw.Env w
 t:dnw.Tabs w
 y:TyEnv w
theorem envE_below {w w':World}(h:EnvE w)(hb:Below w.heap.size w w'):EnvE w':=⟨prw.env_below h.e hb,dnw.tabs_below h.t hb,tyEnv_below h.y hb⟩
def ElemAt (w:World)(x:Value)(vs:List ByteArray):Prop:= ∃a c,x= .slice a vs.length c∧vs.length≤c∧Strs w a vs
def Ats (w:World)(ao:Option Addr)(l:List At):Prop:= ∀i (hi:i<l.length),∃b o a c,ao=some ⟨b,o,none⟩∧w.cell? ⟨b,o+i*2,none⟩=some (.string l[i].t)∧w.cell? ⟨b,o+i*2+1,none⟩=some (.slice a l[i].vs.length c)∧l[i].vs.length≤c∧Strs w a l[i].vs
theorem elem_below {w w':World}{x:Value}{vs:List ByteArray}(h:ElemAt w x vs)(hb:Below w.heap.size w w'):ElemAt w' x vs:=by obtain⟨a,c,h1,h2,h3⟩:=h;exact⟨a,c,h1,h2,strs_below h3 hb⟩
theorem ats_below {w w':World}{ao:Option Addr}{l:List At}(h:Ats w ao l)(hb:Below w.heap.size w w'):Ats w' ao l:=by intro i hi;obtain⟨b,o,a,c,h1,h2,h3,h4,h5⟩:=h i hi;exact⟨b,o,a,c,h1,(hb.cell (World.block_lt_of_cell? w _ h2)).trans h2,(hb.cell (World.block_lt_of_cell? w _ h3)).trans h3,h4,strs_below h5 hb⟩
theorem strs_same {w w':World}{a:Option Addr}{vs:List ByteArray}(h:Strs w a vs)(hb:vs≠[]→ ∀p,a=some p→w'.heap[p.block]? =w.heap[p.block]?):Strs w' a vs:=by intro i hi;obtain⟨b,o,e,hc⟩:=h i hi;exact⟨b,o,e,(World.cell?_of_block (w:=w) (a:=⟨b,o+i,none⟩) (hb (by intro e0;rw[e0]at hi;cases hi) ⟨b,o,none⟩ e)).trans hc⟩
theorem strs_lt {w:World}{a:Option Addr}{vs:List ByteArray}(h:Strs w a vs)(hv:vs≠[]): ∃b o,a=some ⟨b,o,none⟩∧b<w.heap.size:=by
 cases vs with
 | nil=>exact absurd rfl hv
 | cons x t=>obtain⟨b,o,e,hc⟩:=h 0 (by simp);exact⟨b,o,e,World.block_lt_of_cell? w _ hc⟩
abbrev AV:=At × Value
def acell (x:AV):List Value:=[.string x.1.t,x.2]
structure OwnA (w:World)(B:Nat)(v:Value)(l:List AV):Prop where
 outer:kt.SegX w B 43 2 v l.length (l.flatMap acell)
 inner: ∀x∈l,ElemAt w x.2 x.1.vs∧(x.1.vs≠[]→ ∀k,x.2.ownBlock=some k→v.ownBlock≠some k)
theorem ownA_nil (w:World)(B:Nat):OwnA w B (.slice none 0 0) []:=⟨kt.segX_nil _ _ _ _,fun x h=>by cases h⟩
theorem ownA_form {w:World}{B:Nat}{v:Value}{l:List AV}(h:OwnA w B v l): ∃ao n cap,v= .slice ao n cap∧Hid (n=l.length)∧n≤cap:=by obtain⟨ao,cap,hv,hc⟩:=kt.segX_slice h.outer;exact⟨ao,_,cap,hv,rfl,hc⟩
structure Bd (e:En):Prop where
 rl:e.rdn.length≤100000
 rs: ∀a∈e.rdn,a.t.size≤100000∧a.v.size≤100000
 al:e.ats.length≤100000
 as_: ∀a∈e.ats,a.t.size≤100000∧a.vs.length≤100000∧ ∀v∈a.vs,v.size≤100000
theorem bd_smalls {e:En}(h:Bd e):e.rdn.length≤4→dnw.Smalls e.rdn:=fun _ x hx=>⟨(h.rs x hx).1,by have:=(h.rs x hx).2;omega⟩
def EntV (w:World)(v:Value)(e:En):Prop:= ∃ro rc ao ac,v= .agg #[.slice ro e.rdn.length rc,.slice ao e.ats.length ac]∧e.rdn.length≤rc∧e.ats.length≤ac∧Avas w ro e.rdn∧Ats w ao e.ats
end etw
open Go.RowKit
namespace flw
open flp atp atw etp etw
open tupw (Strs strs_below)
def StrsO (ok:Nat→Prop)(w:World)(ao:Option Addr)(l:List ByteArray):Prop:=Strs w ao l∧(l≠[]→ ∀a,ao=some a→ok a.block)
structure CellsF (w:World)(b o:Nat)(F:Fl)(av kv:Value):Prop where
 c0:w.cell? ⟨b,o,none⟩=some (.int .i64 F.kind)
 c1:w.cell? ⟨b,o+1,none⟩=some (.string F.attr)
 c2:w.cell? ⟨b,o+2,none⟩=some (.string F.value)
 c3:w.cell? ⟨b,o+3,none⟩=some (.string F.first)
 c4:w.cell? ⟨b,o+4,none⟩=some av
 c5:w.cell? ⟨b,o+5,none⟩=some (.string F.last)
 c6:w.cell? ⟨b,o+6,none⟩=some kv
theorem cellsF_same {w w':World}{b o:Nat}{F:Fl}{av kv:Value}(h:CellsF w b o F av kv)(hb:w'.heap[b]? =w.heap[b]?):CellsF w' b o F av kv:=by have g: ∀i,w'.cell? ⟨b,i,none⟩=w.cell? ⟨b,i,none⟩:=fun i=>World.cell?_of_block (w:=w) (a:=⟨b,i,none⟩) hb;exact⟨(g _).trans h.c0,(g _).trans h.c1,(g _).trans h.c2,(g _).trans h.c3,(g _).trans h.c4,(g _).trans h.c5,(g _).trans h.c6⟩
theorem cellsF_lt {w:World}{b o:Nat}{F:Fl}{av kv:Value}(h:CellsF w b o F av kv):b<w.heap.size:=World.block_lt_of_cell? w _ h.c0
def OkA (xa:Option Addr)(n xc:Nat):Prop:=n≤xc∧(xa=none→xc=0)
def Kids (w:World)(ok:Nat→Prop):Nat→Option Addr→List Fl→Prop
 | 0,_,l=>l=[]
 | d+1,ao,l=> ∀i (hi:i<l.length),∃b o xa xc ka kc,ao=some ⟨b,o,none⟩∧ok b∧CellsF w b (o+i*7) l[i] (.slice xa l[i].any.length xc) (.slice ka l[i].kids.length kc)∧
   OkA xa l[i].any.length xc∧StrsO ok w xa l[i].any∧l[i].kids.length≤kc∧Kids w ok d ka l[i].kids
def flV (F:Fl)(av kv:Value):Value:= .agg #[.int .i64 F.kind,.string F.attr,.string F.value,.string F.first,av,.string F.last,kv]
def FlV (w:World)(ok:Nat→Prop)(d:Nat)(v:Value)(F:Fl):Prop:= ∃xa xc ka kc,v=flV F (.slice xa F.any.length xc) (.slice ka F.kids.length kc)∧OkA xa F.any.length xc∧StrsO ok w xa F.any∧F.kids.length≤kc∧Kids w ok d ka F.kids
def anyB (_:Nat):Prop:=True
theorem kids_nil (w:World)(ok:Nat→Prop)(d:Nat)(ao:Option Addr):Kids w ok d ao []:=by
 cases d with
 | zero=>rfl
 | succ d=>intro i hi;cases hi
theorem strsO_same {w w':World}{ok:Nat→Prop}{ao:Option Addr}{l:List ByteArray}(h:StrsO ok w ao l)(hb: ∀k,ok k→k<w.heap.size→w'.heap[k]? =w.heap[k]?):StrsO ok w' ao l:=⟨strs_same h.1 fun hl p hp=>by obtain⟨b,o,e,hlt⟩:=strs_lt h.1 hl;have hok:=h.2 hl p hp;rw[hp]at e;cases e;exact hb _ hok hlt,h.2⟩
theorem kids_same {w w':World}{ok:Nat→Prop}(hb: ∀k,ok k→k<w.heap.size→w'.heap[k]? =w.heap[k]?): ∀ {d:Nat} {ao:Option Addr} {l:List Fl},Kids w ok d ao l→Kids w' ok d ao l
 | 0,_,_,h=>h
 | d+1,ao,l,h=>fun i hi=>by obtain⟨b,o,xa,xc,ka,kc,e,hok,hc,h1,h2,h3,h4⟩:=h i hi;exact⟨b,o,xa,xc,ka,kc,e,hok,cellsF_same hc (hb b hok (cellsF_lt hc)),h1,strsO_same h2 hb,h3,kids_same hb h4⟩
theorem kids_below {w w':World}{ok:Nat→Prop}{d:Nat}{ao:Option Addr}{l:List Fl}(h:Kids w ok d ao l)(hb:Below w.heap.size w w'):Kids w' ok d ao l:=kids_same (fun k _ hlt=>hb.block k hlt) h
theorem flV_same {w w':World}{ok:Nat→Prop}{d:Nat}{v:Value}{F:Fl}(h:FlV w ok d v F)(hb: ∀k,ok k→k<w.heap.size→w'.heap[k]? =w.heap[k]?):FlV w' ok d v F:=by obtain⟨xa,xc,ka,kc,e,h1,h2,h3,h4⟩:=h;exact⟨xa,xc,ka,kc,e,h1,strsO_same h2 hb,h3,kids_same hb h4⟩
theorem flV_below {w w':World}{ok:Nat→Prop}{d:Nat}{v:Value}{F:Fl}(h:FlV w ok d v F)(hb:Below w.heap.size w w'):FlV w' ok d v F:=flV_same h fun k _ hlt=>hb.block k hlt
theorem strsO_imp {w:World}{p q:Nat→Prop}{ao:Option Addr}{l:List ByteArray}(h:StrsO p w ao l)(hpq: ∀k,p k→k<w.heap.size→q k):StrsO q w ao l:=⟨h.1,fun hl a ha=>by obtain⟨b,o,e,hlt⟩:=strs_lt h.1 hl;have hok:=h.2 hl a ha;rw[ha]at e;cases e;exact hpq _ hok hlt⟩
theorem kids_imp {w:World}{p q:Nat→Prop}(hpq: ∀k,p k→k<w.heap.size→q k): ∀ {d:Nat} {ao:Option Addr} {l:List Fl},Kids w p d ao l→Kids w q d ao l
 | 0,_,_,h=>h
 | d+1,ao,l,h=>fun i hi=>by obtain⟨b,o,xa,xc,ka,kc,e,hok,hc,h1,h2,h3,h4⟩:=h i hi;exact⟨b,o,xa,xc,ka,kc,e,hpq b hok (cellsF_lt hc),hc,h1,strsO_imp h2 hpq,h3,kids_imp hpq h4⟩
theorem flV_imp {w:World}{p q:Nat→Prop}{d:Nat}{v:Value}{F:Fl}(h:FlV w p d v F)(hpq: ∀k,p k→k<w.heap.size→q k):FlV w q d v F:=by obtain⟨xa,xc,ka,kc,e,h1,h2,h3,h4⟩:=h;exact⟨xa,xc,ka,kc,e,h1,strsO_imp h2 hpq,h3,kids_imp hpq h4⟩
theorem kids_any {w:World}{p:Nat→Prop}{d:Nat}{ao:Option Addr}{l:List Fl}(h:Kids w p d ao l):Kids w anyB d ao l:=kids_imp (fun _ _ _=>trivial) h
theorem kids_mono {w:World}{ok:Nat→Prop}: ∀ {d e:Nat} {ao:Option Addr} {l:List Fl},Kids w ok d ao l→d≤e→Kids w ok e ao l
 | 0,e,ao,l,h,_=>by have h2:l=[]:=h;subst h2;exact kids_nil w ok e ao
 | d+1,0,_,_,_,h=>absurd h (by omega)
 | d+1,e+1,ao,l,h,he=>fun i hi=>by obtain⟨b,o,xa,xc,ka,kc,e1,hok,hc,h1,h2,h3,h4⟩:=h i hi;exact⟨b,o,xa,xc,ka,kc,e1,hok,hc,h1,h2,h3,kids_mono h4 (by omega)⟩
theorem flV_mono {w:World}{ok:Nat→Prop}{d e:Nat}{v:Value}{F:Fl}(h:FlV w ok d v F)(he:d≤e):FlV w ok e v F:=by obtain⟨xa,xc,ka,kc,e1,h1,h2,h3,h4⟩:=h;exact⟨xa,xc,ka,kc,e1,h1,h2,h3,kids_mono h4 he⟩
theorem kid_at {w:World}{ok:Nat→Prop}{d:Nat}{ao:Option Addr}{l:List Fl}(h:Kids w ok (d+1) ao l)(i:Nat)(hi:i<l.length):
  ∃b o xa xc ka kc,ao=some ⟨b,o,none⟩∧CellsF w b (o+i*7) l[i] (.slice xa l[i].any.length xc) (.slice ka l[i].kids.length kc)∧FlV w ok d (flV l[i] (.slice xa l[i].any.length xc) (.slice ka l[i].kids.length kc)) l[i]:=by
 obtain⟨b,o,xa,xc,ka,kc,e,hok,hc,h1,h2,h3,h4⟩:=h i hi;exact⟨b,o,xa,xc,ka,kc,e,hc,xa,xc,ka,kc,rfl,h1,h2,h3,h4⟩
def FB (w:World)(p:Nat)(F:Fl)(av kv:Value):Prop:=w.heap[p]? =some (.cells #[.int .i64 F.kind,.string F.attr,.string F.value,.string F.first,av,.string F.last,kv] 73 (0,0))
theorem fb_new (w:World)(F:Fl)(av kv:Value):FB (w.alloc (.cells #[.int .i64 F.kind,.string F.attr,.string F.value,.string F.first,av,.string F.last,kv] 73)) w.heap.size F av kv:=heap_alloc_new w _
theorem fb_cells {w:World}{p:Nat}{F:Fl}{av kv:Value}(h:FB w p F av kv):w.cell? ⟨p,0,none⟩=some (.int .i64 F.kind)∧w.cell? ⟨p,1,none⟩=some (.string F.attr)∧w.cell? ⟨p,2,none⟩=some (.string F.value)∧w.cell? ⟨p,3,none⟩=some (.string F.first)∧w.cell? ⟨p,4,none⟩=some av∧w.cell? ⟨p,5,none⟩=some (.string F.last)∧w.cell? ⟨p,6,none⟩=some kv:=⟨(Lib.cell_of_heap h 0).trans rfl,(Lib.cell_of_heap h 1).trans rfl,(Lib.cell_of_heap h 2).trans rfl,(Lib.cell_of_heap h 3).trans rfl,(Lib.cell_of_heap h 4).trans rfl,(Lib.cell_of_heap h 5).trans rfl,(Lib.cell_of_heap h 6).trans rfl⟩
abbrev FV:=Fl × Value × Value
def fcell (x:FV):List Value:=[.int .i64 x.1.kind,.string x.1.attr,.string x.1.value,.string x.1.first,x.2.1,.string x.1.last,x.2.2]
theorem infoFl:(Tryz.prog.info? 73).map (fun i=>(i.zero,i.size,i.bytes))=some (some (.agg #[.int .i64 0,.string ByteArray.empty,.string ByteArray.empty,.string ByteArray.empty,.slice none 0 0,.string ByteArray.empty,.slice none 0 0]),7,120):=by kernel_rfl
def offB (v:Value)(k:Nat):Prop:=v.ownBlock≠some k
structure OwnF (w:World)(B d:Nat)(v:Value)(l:List FV):Prop where
 outer:kt.SegX w B 73 7 v l.length (l.flatMap fcell)
 inner: ∀x∈l,FlV w (offB v) d (flV x.1 x.2.1 x.2.2) x.1
theorem ownF_made (w:World)(d:Nat):OwnF (w.alloc (.cells #[] 73)) w.heap.size d (.slice (some ⟨w.heap.size,0,none⟩) 0 0) []:=⟨kt.segX_of_row (World.ownsRow_made w #[] 0 (Nat.le_refl _) (by unfold maxLen;omega) rfl),fun x h=>by cases h⟩
theorem ownF_below {w w':World}{B d:Nat}{v:Value}{l:List FV}(h:OwnF w B d v l)(hb:Below w.heap.size w w'):OwnF w' B d v l:=⟨kt.segX_below h.outer hb,fun x hx=>flV_below (h.inner x hx) hb⟩
theorem ownF_form {w:World}{B d:Nat}{v:Value}{l:List FV}(h:OwnF w B d v l): ∃ao n cap,v= .slice ao n cap∧Hid (n=l.length)∧n≤cap:=by obtain⟨ao,cap,hv,hc⟩:=kt.segX_slice h.outer;exact⟨ao,_,cap,hv,rfl,hc⟩
theorem flV_slices {w:World}{ok:Nat→Prop}{d:Nat}{F:Fl}{av kv:Value}(h:FlV w ok d (flV F av kv) F): ∃xa xc ka kc,av= .slice xa F.any.length xc∧kv= .slice ka F.kids.length kc∧OkA xa F.any.length xc∧StrsO ok w xa F.any∧F.kids.length≤kc∧Kids w ok d ka F.kids:=by obtain⟨xa,xc,ka,kc,e,h1,h2,h3,h4⟩:=h;unfold flV at e;simp only[Value.agg.injEq,Array.mk.injEq,List.cons.injEq,and_true,true_and]at e;exact⟨xa,xc,ka,kc,e.1,e.2,h1,h2,h3,h4⟩
theorem ownF_kids {w:World}{B d n cap:Nat}{ao:Option Addr}{l:List FV}(h:OwnF w B d (.slice ao n cap) l):Kids w anyB (d+1) ao (l.map (·.1)):=by
 intro i hi;have hi':i<l.length:=by simpa using hi
 obtain⟨g,o,cap',hv,_,_,hcell⟩:=kt.segX_cell h.outer (by omega);simp only[Value.slice.injEq]at hv;obtain⟨rfl,_,rfl⟩:=hv;have hj: ∀j,j<7→(l.flatMap fcell)[i*7+j]? =(fcell l[i])[j]? :=fun j hj=>kt.flat_get fcell 7 (fun _=>rfl) l i j hi' hj;have hx:=h.inner l[i] (List.getElem_mem hi');obtain⟨xa,xc,ka,kc,e1,e2,h1,h2,h3,h4⟩:=flV_slices hx;have hm:(l.map (·.1))[i]=l[i].1:=by simp
 rw[hm];have hg: ∀j u,j<7→(fcell l[i])[j]? =some u→w.cell? ⟨g,o+i*7+j,none⟩=some u:=fun j u h7 hu=>by have:=hcell (i*7+j) u ((hj j h7).trans hu);rw[←Nat.add_assoc]at this;exact this
 exact⟨g,o,xa,xc,ka,kc,rfl,trivial,⟨hg 0 _ (by omega) rfl,hg 1 _ (by omega) rfl,hg 2 _ (by omega) rfl,hg 3 _ (by omega) rfl,by rw[←e1];exact hg 4 _ (by omega) rfl,hg 5 _ (by omega) rfl,by rw[←e2];exact hg 6 _ (by omega) rfl⟩,h1,strsO_imp h2 fun _ _ _=>trivial,h3,kids_any h4⟩
theorem ownF_app {w:World}{B d:Nat}{v:Value}{l:List FV}(x:FV)(h:OwnF w B d v l)(hx:FlV w (offB v) d (flV x.1 x.2.1 x.2.2) x.1)(hl:l.length≤1000000)(hB:B≤w.heap.size):
  ∃ao n cap w1,(Builtin.append_ #[70,70] 70 #[v,.slice (some ⟨w.heap.size,0,none⟩) 1 1]).run Tryz.prog (w.alloc (.cells #[.int .i64 x.1.kind,.string x.1.attr,.string x.1.value,.string x.1.first,x.2.1,.string x.1.last,x.2.2] 73))= .ok (.slice ao n cap) w1∧OwnF w1 B d (.slice ao n cap) (l++[x])∧Below B w w1∧Hid (n=l.length+1)∧n≤cap∧w.heap.size≤w1.heap.size∧
   kt.SameOrNew w v (.slice ao n cap)∧(∀k,k<w.heap.size→v.ownBlock≠some k→w1.heap[k]? =w.heap[k]?):=by
 have hA:Below w.heap.size w (w.alloc (.cells #[.int .i64 x.1.kind,.string x.1.attr,.string x.1.value,.string x.1.first,x.2.1,.string x.1.last,x.2.2] 73)):=(Below.refl _ _).alloc (Nat.le_refl _) _;have hn:=ownF_below h hA;obtain⟨xa,xc,ka,kc,e1,e2,_⟩:=flV_slices hx;obtain⟨v',w1,h1,h2,h3,h4⟩:=kt.segX_append (P:=Tryz.prog) (t:=70) (ty:=70) Tryz.underlying70 infoFl rfl (by omega) ⟨w.heap.size,0,none⟩ 1 1 (fcell x) rfl (fun j u hj=>by rw[kt.addr_add,World.cell?_alloc_new];simpa[fcell]using hj) (by intro u hu;simp[fcell]at hu;rcases hu with rfl | rfl | rfl | rfl | rfl | rfl | rfl<;>(try rw[e1])<;>(try rw[e2])<;>rfl) hn.outer (by unfold maxLen;omega) (by omega) (by simp;omega);obtain⟨ao,cap,rfl,hc⟩:=kt.segX_slice h2;have hs:=hA.size;have hh: ∀k,k<w.heap.size→v.ownBlock≠some k→w1.heap[k]? =w.heap[k]? :=fun k hk hne=>(h3.block k (by simp;omega) (fun e=>hne e.symm)).trans (hA.block k hk);have key: ∀y:FV,FlV w (offB v) d (flV y.1 y.2.1 y.2.2) y.1→FlV w1 (offB (.slice ao (l.length+1) cap)) d (flV y.1 y.2.1 y.2.2) y.1:=by
  intro y hy;have hy2:FlV w (fun k=>v.ownBlock≠some k∧k<w.heap.size) d (flV y.1 y.2.1 y.2.2) y.1:=flV_imp hy fun k hk hlt=>⟨hk,hlt⟩;have hy3:=flV_same (w':=w1) hy2 fun k hk hlt=>hh k hk.2 hk.1;refine flV_imp hy3 fun k hk _ e3=> ?_;rcases h4 k e3 with e4 | e4
  ·exact hk.1 e4
  ·omega
 refine⟨ao,_,cap,w1,h1,⟨?_,fun y hy=> ?_⟩,((Below.refl B w).alloc hB _).trans ((Below.refl B _).grown h3 (by simp;omega) (fun k hk=>(kt.segX_lt hn.outer k hk).1)),rfl,hc,Nat.le_trans hs h3.size,fun k hk=> ?_,hh⟩
 ·rw[List.length_append,List.flatMap_append];simpa using h2
 ·rcases List.mem_append.1 hy with hy | hy
  ·exact key y (h.inner y hy)
  ·rw[List.mem_singleton]at hy;subst hy;exact key _ hx
 ·rcases h4 k hk with e | e
  ·exact Or.inl e
  ·exact Or.inr (by omega)
end flw
end Go.Proofs.YtmnpfkbjpeaemaaGreatDoor
