/- One text out of several: EntP, EntQ, EntR, EntS, EntB, TakW, EntK, BdW, LbP, LikeW, RValW, DKeyW. -/
import Derived.Test.YtmnpfkbjpeaemaaGreatDoorS5
import Derived.Test.YtmnpfkbjpeaemaaGreatDoorS7
import Derived.OrdersHeld
import Derived.WalkKit
import Derived.Test.YtmnpfkbjpeaemaaGreatDoorS1
import Derived.Test.YtmnpfkbjpeaemaaGreatDoorS2
import Derived.Test.YtmnpfkbjpeaemaaGreatDoorS6
set_option linter.unusedVariables false
set_option linter.unusedSimpArgs false
set_option maxRecDepth 20000
set_option maxHeartbeats 4000000
namespace Go.Proofs.YtmnpfkbjpeaemaaGreatDoor
namespace etp
open atp atw
structure At where
 t:ByteArray
 vs:List ByteArray
structure En where
 rdn:List dnw.Av
 ats:List At
def okV (syn:Int)(v:ByteArray):Bool:=decide ((normL syn v.data.toList).2=0)
def nv (syn:Int)(v:ByteArray):List UInt8:=(normL syn v.data.toList).1
def alike (syn:Int)(a b:ByteArray):Bool:=(eqL syn a.data.toList b.data.toList).1
theorem alike_iff {syn:Int}{a b:ByteArray}:alike syn a b=true↔okV syn a=true∧okV syn b=true∧nv syn a=nv syn b:=by
 unfold alike okV nv;rw[decide_eq_true_iff,decide_eq_true_iff];by_cases ha:(normL syn a.data.toList).2=0
 ·by_cases hb:(normL syn b.data.toList).2=0
  ·rw[eq_ok ha hb,decide_eq_true_iff];exact⟨fun h=>⟨ha,hb,h⟩,fun h=>h.2.2⟩
  ·refine⟨fun h=> ?_,fun h=>absurd h.2.1 hb⟩;unfold eqL at h;rw[Bool.and_eq_true,decide_eq_true_iff]at h;exact absurd (both_err.1 h.1).2 hb
 ·refine⟨fun h=> ?_,fun h=>absurd h.1 ha⟩;unfold eqL at h;rw[Bool.and_eq_true,decide_eq_true_iff]at h;exact absurd (both_err.1 h.1).1 ha
theorem alike_err {syn:Int}{a b:ByteArray}(h:alike syn a b=true):(eqL syn a.data.toList b.data.toList).2=0:=by unfold alike eqL at h;rw[Bool.and_eq_true,decide_eq_true_iff]at h;exact h.1
theorem alike_self {syn:Int}{a:ByteArray}(h:okV syn a=true):alike syn a a=true:=alike_iff.2 ⟨h,h,rfl⟩
def likeN (syn:Int)(l:List ByteArray)(v:ByteArray):Option Nat:=l.findIdx? fun x=>alike syn x v
def likeI (syn:Int)(l:List ByteArray)(v:ByteArray):Int:=match likeN syn l v with
 | some i=>(i:Int)
 | none=> -1
theorem likeI_neg {syn:Int}{l:List ByteArray}{v:ByteArray}:likeI syn l v<0↔likeN syn l v=none:=by
 unfold likeI;cases likeN syn l v with
 | none=>simp
 | some i=>simp
theorem likeN_none {syn:Int}{l:List ByteArray}{v:ByteArray}:likeN syn l v=none↔ ∀x∈l,alike syn x v=false:=by unfold likeN;rw[List.findIdx?_eq_none_iff]
theorem likeI_hit {syn:Int}{l:List ByteArray}{v:ByteArray}{i:Nat}(hi:i<l.length)(h1:alike syn l[i] v=true)(h2: ∀j (hj:j<l.length),j<i→alike syn l[j] v=false):likeI syn l v=(i:Int):=by
 have:likeN syn l v=some i:=by unfold likeN;rw[List.findIdx?_eq_some_iff_getElem];exact⟨hi,h1,fun j hj=>by simpa using h2 j (by omega) hj⟩
 unfold likeI;rw[this]
theorem likeI_none {syn:Int}{l:List ByteArray}{v:ByteArray}(h: ∀j (hj:j<l.length),alike syn l[j] v=false):likeI syn l v= -1:=by
 have:likeN syn l v=none:=by rw[likeN_none];intro x hx;obtain⟨j,hj,rfl⟩:=List.mem_iff_getElem.1 hx;exact h j hj
 unfold likeI;rw[this]
def fresh (syn:Int):List ByteArray→List ByteArray→Bool
 | _,[]=>true
 | p,v::r=>okV syn v&&decide (likeI syn p v<0)&&fresh syn (p++[v]) r
theorem fresh_iff {syn:Int}: ∀ (vs p:List ByteArray),(∀x∈p,okV syn x=true)→(p.map (nv syn)).Nodup→(fresh syn p vs=true↔(∀v∈vs,okV syn v=true)∧((p++vs).map (nv syn)).Nodup)
 | [],p,h1,h2=>by simp only[fresh,List.append_nil,true_iff];exact⟨fun v hv=>(by cases hv),h2⟩
 | v::r,p,h1,h2=>by
  rw[fresh,Bool.and_eq_true,Bool.and_eq_true,decide_eq_true_iff,likeI_neg,likeN_none];have key:okV syn v=true→((∀x∈p,alike syn x v=false)↔nv syn v∉p.map (nv syn)):=by
   intro hv;constructor
   ·intro h hm;obtain⟨x,hx,e⟩:=List.mem_map.1 hm;have:=h x hx;rw[alike_iff.2 ⟨h1 x hx,hv,e⟩]at this;cases this
   ·intro h x hx;rw[Bool.eq_false_iff];intro ha;exact h (List.mem_map.2 ⟨x,hx,(alike_iff.1 ha).2.2⟩)
  have ass:p++v::r=(p++[v])++r:=by simp
  constructor
  ·rintro⟨⟨hv,hl⟩,hf⟩;have hn:((p++[v]).map (nv syn)).Nodup:=(by rw[List.map_append,List.nodup_append];refine⟨h2,by simp,?_⟩;intro a ha b hb e;simp only[List.map_cons,List.map_nil,List.mem_singleton]at hb;subst hb;subst e;exact(key hv).1 hl ha);have ih:=(fresh_iff r (p++[v]) (by
    intro x hx;rcases List.mem_append.1 hx with h | h
    ·exact h1 x h
    ·rw[List.mem_singleton]at h;rw[h];exact hv) hn).1 hf
   refine⟨fun u hu=> ?_,by rw[ass];exact ih.2⟩;rcases List.mem_cons.1 hu with rfl | hu
   ·exact hv
   ·exact ih.1 u hu
  ·rintro⟨ho,hn⟩;have hv:=ho v (by simp);rw[ass,List.map_append,List.nodup_append]at hn;obtain⟨hn1,hn2,hn3⟩:=hn;have hn1':=hn1;rw[List.map_append,List.nodup_append]at hn1';refine⟨⟨hv,(key hv).2 fun hm=>hn1'.2.2 _ hm _ (by simp) rfl⟩,?_⟩;refine(fresh_iff r (p++[v]) ?_ hn1).2 ⟨fun u hu=>ho u (by simp[hu]),?_⟩
   ·intro x hx;rcases List.mem_append.1 hx with h | h
    ·exact h1 x h
    ·rw[List.mem_singleton]at h;rw[h];exact hv
   ·rw[List.map_append,List.nodup_append];exact⟨hn1,hn2,hn3⟩
def mostT (single:Bool):Nat:=if single then 1 else 20
def valsOK (t:Ty)(vs:List ByteArray):Bool:=decide (1≤vs.length)&&decide (vs.length≤mostT t.single)&&fresh t.syn [] vs
def faultI (syn:Int):List ByteArray→Int
 | []=>0
 | v::r=>if(normL syn v.data.toList).2≠0 then(normL syn v.data.toList).2 else faultI syn r
theorem fault_zero {syn:Int}: ∀l:List ByteArray,faultI syn l=0↔ ∀v∈l,okV syn v=true
 | []=>by simp[faultI]
 | v::r=>by
  unfold faultI;by_cases h:(normL syn v.data.toList).2=0
  ·rw[if_neg (not_not_intro h),fault_zero r];constructor
   ·intro h1 u hu;rcases List.mem_cons.1 hu with rfl | hu
    ·exact decide_eq_true h
    ·exact h1 u hu
   ·exact fun h1 u hu=>h1 u (by simp[hu])
  ·rw[if_pos h];exact⟨fun h1=>absurd h1 h,fun h1=>absurd (of_decide_eq_true (h1 v (by simp))) h⟩
def tyOf (t:ByteArray):Option Ty:=findS t.data.toList
theorem tys_low: ∀j:Fin 20,sml.lowL (tys[j.val]'(j.isLt)).name=(tys[j.val]'(j.isLt)).name:=by decide+kernel
theorem low_name {t:Ty}(h:t∈tys):sml.lowL t.name=t.name:=by obtain⟨i,hi,rfl⟩:=List.mem_iff_getElem.1 h;exact tys_low ⟨i,hi⟩
theorem find_low {n:List UInt8}{ty:Ty}:(findS (sml.lowL n)=some ty∧ty.name=n)↔findS n=some ty:=by
 constructor
 ·rintro⟨h,rfl⟩;have:=(findS_some h).1;rw[low_name this]at h;exact h
 ·intro h;obtain⟨h1,rfl⟩:=findS_some h;rw[low_name h1];exact⟨h,rfl⟩
def atOK (a:At):Bool:=match tyOf a.t with
 | none=>false
 | some ty=>valsOK ty a.vs
def ltB (a b:ByteArray):Bool:=decide (Lib.compareBytes a.data.toList b.data.toList= -1)
def atsF:Option ByteArray→List At→Bool
 | _,[]=>true
 | p,a::r=>atOK a&&(match p with
  | none=>true
  | some q=>ltB q a.t)&&atsF (some a.t) r
def rightE (e:En):Bool:=dnw.rdnOK e.rdn&&atsF none e.ats
def valsA (ats:List At)(n:ByteArray):List ByteArray:=match ats.find? fun a=>decide (a.t=n)with
 | some a=>a.vs
 | none=>[]
def withF (n:ByteArray)(l:List ByteArray):Bool→List At→List At
 | done,[]=>if done then[]else[⟨n,l⟩]
 | done,a::r=>
  let put:= !done&& !ltB a.t n
  let here:List At:=if put then[⟨n,l⟩]else[]
  let stays:List At:=if a.t=n then[]else[a]
  here++stays++withF n l (done||put) r
def withE (e:En)(n:ByteArray)(l:List ByteArray):En:=⟨e.rdn,withF n l (decide (l=[])) e.ats⟩
def joinF (syn:Int):List ByteArray→List ByteArray→Option (List ByteArray)
 | all,[]=>some all
 | all,v::r=>if likeI syn all v<0 then joinF syn (all++[v]) r else none
def dropF (syn:Int):List ByteArray→List ByteArray→Option (List ByteArray)
 | left,[]=>some left
 | left,v::r=>match likeN syn left v with
  | none=>none
  | some k=>dropF syn (left.take k++left.drop (k+1)) r
end etp
namespace etp
open atp atw
theorem bytes_inj {a b:ByteArray}(h:a.data.toList=b.data.toList):a=b:=kt.str_eq h
theorem ltB_trans {a b c:ByteArray}(h1:ltB a b=true)(h2:ltB b c=true):ltB a c=true:=by unfold ltB at*;rw[decide_eq_true_iff]at*;exact ord.cmp_trans h1 h2
theorem ltB_irr (a:ByteArray):ltB a a=false:=by unfold ltB;rw[decide_eq_false_iff_not,(ord.cmp_zero _ _).2 rfl];decide
theorem ltB_ne {a b:ByteArray}(h:ltB a b=true):a≠b:=by rintro rfl;rw[ltB_irr]at h;cases h
theorem ltB_asym {a b:ByteArray}(h:ltB a b=true):ltB b a=false:=by rw[Bool.eq_false_iff];intro h2;have:=ltB_trans h h2;rw[ltB_irr]at this;cases this
theorem ltB_three (a b:ByteArray):ltB a b=true∨a=b∨ltB b a=true:=by
 rcases ord.cmp_three a.data.toList b.data.toList with h | h | h
 ·exact Or.inl (decide_eq_true h)
 ·exact Or.inr (Or.inl (bytes_inj ((ord.cmp_zero _ _).1 h)))
 ·refine Or.inr (Or.inr (decide_eq_true ?_));rw[ord.cmp_neg,h]
theorem atsF_iff: ∀ (L:List At) (p:Option ByteArray),atsF p L=true↔(∀a∈L,atOK a=true)∧L.Pairwise (fun a b=>ltB a.t b.t=true)∧(∀q,p=some q→ ∀a∈L,ltB q a.t=true)
 | [],p=>by simp[atsF]
 | a::r,p=>by
  unfold atsF;rw[Bool.and_eq_true,Bool.and_eq_true,atsF_iff r (some a.t),List.pairwise_cons];constructor
  ·rintro⟨⟨h1,h2⟩,h3,h4,h5⟩;have hq: ∀q,p=some q→ltB q a.t=true:=(by rintro q rfl;exact h2);refine⟨fun b hb=> ?_,⟨fun b hb=>h5 _ rfl b hb,h4⟩,fun q hp b hb=> ?_⟩
   ·rcases List.mem_cons.1 hb with rfl | hb
    ·exact h1
    ·exact h3 b hb
   ·rcases List.mem_cons.1 hb with rfl | hb
    ·exact hq q hp
    ·exact ltB_trans (hq q hp) (h5 _ rfl b hb)
  ·rintro⟨h1,⟨h2,h3⟩,h4⟩;refine⟨⟨h1 a (by simp),?_⟩,fun b hb=>h1 b (by simp[hb]),h3,fun q hq b hb=> ?_⟩
   ·cases p with
    | none=>rfl
    | some q=>exact h4 q rfl a (by simp)
   ·cases hq;exact h2 b hb
structure Part (n:ByteArray)(L lo mid hi:List At):Prop where
 eq:L=lo++(mid++hi)
 lo: ∀a∈lo,ltB a.t n=true
 hi: ∀a∈hi,ltB n a.t=true
 mid:mid=[]∨ ∃v,mid=[⟨n,v⟩]
theorem part_of (n:ByteArray): ∀ (L:List At) (p:Option ByteArray),atsF p L=true→ ∃lo mid hi,Part n L lo mid hi
 | [],_,_=>⟨[],[],[],⟨rfl,by simp,by simp,Or.inl rfl⟩⟩
 | a::r,p,h=>by
  obtain⟨h1,h2,h3⟩:=(atsF_iff _ _).1 h;rw[List.pairwise_cons]at h2;rcases ltB_three a.t n with hl | he | hg
  ·have hr:atsF (some a.t) r=true:=(atsF_iff _ _).2 ⟨fun b hb=>h1 b (by simp[hb]),h2.2,fun q hq b hb=>by cases hq;exact h2.1 b hb⟩;obtain⟨lo,mid,hi,hp⟩:=part_of n r (some a.t) hr;refine⟨a::lo,mid,hi,⟨by rw[hp.eq];rfl,fun b hb=> ?_,hp.hi,hp.mid⟩⟩;rcases List.mem_cons.1 hb with rfl | hb
   ·exact hl
   ·exact hp.lo b hb
  ·refine⟨[],[a],r,⟨rfl,by simp,fun b hb=> ?_,Or.inr ⟨a.vs,?_⟩⟩⟩
   ·rw[←he];exact h2.1 b hb
   ·cases a;cases he;rfl
  ·refine⟨[],[],a::r,⟨rfl,by simp,fun b hb=> ?_,Or.inl rfl⟩⟩;rcases List.mem_cons.1 hb with rfl | hb
   ·exact hg
   ·exact ltB_trans hg (h2.1 b hb)
theorem withF_hi (n:ByteArray)(l:List ByteArray): ∀hi:List At,(∀a∈hi,ltB n a.t=true)→withF n l true hi=hi
 | [],_=>rfl
 | a::r,h=>by have ha:=h a (by simp);show(if(!true&& !ltB a.t n)=true then[⟨n,l⟩]else[])++(if a.t=n then[]else[a])++withF n l (true||(!true&& !ltB a.t n)) r=_;rw[if_neg (by simp),if_neg (fun e=>ltB_ne ha e.symm),Bool.true_or,withF_hi n l r (fun b hb=>h b (by simp[hb]))];rfl
theorem withF_put (n:ByteArray)(l:List ByteArray)(hi:List At)(h: ∀a∈hi,ltB n a.t=true):withF n l false hi=⟨n,l⟩::hi:=by
 cases hi with
 | nil=>rfl
 | cons a r=>have ha:=h a (by simp);have hf:ltB a.t n=false:=ltB_asym ha;show(if(!false&& !ltB a.t n)=true then[⟨n,l⟩]else[])++(if a.t=n then[]else[a])++withF n l (false||(!false&& !ltB a.t n)) r=_;rw[hf,if_pos (by simp),if_neg (fun e=>ltB_ne ha e.symm)];rw[show(false||(!false&& !false))=true from rfl,withF_hi n l r (fun b hb=>h b (by simp[hb]))];rfl
theorem withF_lo (n:ByteArray)(l:List ByteArray)(d:Bool): ∀ (lo L:List At),(∀a∈lo,ltB a.t n=true)→withF n l d (lo++L)=lo++withF n l d L
 | [],L,_=>rfl
 | a::r,L,h=>by have ha:=h a (by simp);show(if(!d&& !ltB a.t n)=true then[⟨n,l⟩]else[])++(if a.t=n then[]else[a])++withF n l (d||(!d&& !ltB a.t n)) (r++L)=_;rw[ha,if_neg (by simp),if_neg (ltB_ne ha)];rw[show(d||(!d&& !true))=d by cases d<;>rfl,withF_lo n l d r L (fun b hb=>h b (by simp[hb]))];rfl
theorem withF_mid (n:ByteArray)(l:List ByteArray)(d:Bool){mid hi:List At}(hm:mid=[]∨ ∃v,mid=[⟨n,v⟩])(h: ∀a∈hi,ltB n a.t=true):withF n l d (mid++hi)=if d then hi else⟨n,l⟩::hi:=by
 rcases hm with rfl | ⟨v,rfl⟩
 ·cases d with
  | true=>exact withF_hi n l hi h
  | false=>exact withF_put n l hi h
 ·show(if(!d&& !ltB n n)=true then[⟨n,l⟩]else[])++(if n=n then[]else[⟨n,v⟩])++withF n l (d||(!d&& !ltB n n)) hi=_;rw[ltB_irr,if_pos rfl];rw[show(d||(!d&& !false))=true by cases d<;>rfl,withF_hi n l hi h];cases d<;>rfl
theorem with_part {n:ByteArray}{L lo mid hi:List At}(h:Part n L lo mid hi)(l:List ByteArray)(d:Bool):withF n l d L=lo++((if d then[]else[⟨n,l⟩])++hi):=by rw[h.eq,withF_lo n l d lo _ h.lo,withF_mid n l d h.mid h.hi];cases d<;>rfl
theorem part_with {n:ByteArray}{L lo mid hi:List At}(h:Part n L lo mid hi)(l:List ByteArray)(d:Bool):Part n (withF n l d L) lo (if d then[]else[⟨n,l⟩]) hi:=⟨with_part h l d,h.lo,h.hi,by cases d;exact Or.inr ⟨l,rfl⟩;exact Or.inl rfl⟩
def midV:List At→List ByteArray
 | []=>[]
 | a::_=>a.vs
theorem vals_part {n:ByteArray}{L lo mid hi:List At}(h:Part n L lo mid hi):valsA L n=midV mid:=by
 obtain⟨he,hlo,hhi,hmid⟩:=h;subst he;unfold valsA;rw[List.find?_append,List.find?_eq_none.2 (by intro a ha;simpa using ltB_ne (hlo a ha))];rcases hmid with rfl | ⟨v,rfl⟩
 ·rw[List.nil_append,List.find?_eq_none.2 (by intro a ha;simpa using(ltB_ne (hhi a ha)).symm)];rfl
 ·simp[midV]
theorem with_right {n:ByteArray}{L:List At}(h:atsF none L=true){l:List ByteArray}{d:Bool}(hl:d=false→atOK ⟨n,l⟩=true):atsF none (withF n l d L)=true:=by
 obtain⟨lo,mid,hi,hp⟩:=part_of n L none h;obtain⟨h1,h2,_⟩:=(atsF_iff _ _).1 h;rw[with_part hp l d];rw[hp.eq]at h1 h2;rw[List.pairwise_append,List.pairwise_append]at h2;obtain⟨a1,⟨a2,a3,a4⟩,a5⟩:=h2;refine(atsF_iff _ _).2 ⟨?_,?_,by simp⟩
 ·intro a ha;rcases List.mem_append.1 ha with ha | ha
  ·exact h1 a (by simp[ha])
  ·rcases List.mem_append.1 ha with ha | ha
   ·cases d with
    | true=>cases ha
    | false=>rw[if_neg (by simp),List.mem_singleton]at ha;subst ha;exact hl rfl
   ·exact h1 a (by simp[ha])
 ·rw[List.pairwise_append,List.pairwise_append];refine⟨a1,⟨?_,a3,?_⟩,?_⟩
  ·cases d<;>simp
  ·intro x hx y hy;cases d with
   | true=>cases hx
   | false=>rw[if_neg (by simp),List.mem_singleton]at hx;subst hx;exact hp.hi y hy
  ·intro x hx y hy;rcases List.mem_append.1 hy with hy | hy
   ·cases d with
    | true=>cases hy
    | false=>rw[if_neg (by simp),List.mem_singleton]at hy;subst hy;exact hp.lo x hx
   ·exact a5 x hx y (by simp[hy])
theorem with_back {n:ByteArray}{L:List At}(h:atsF none L=true)(l:List ByteArray):withF n (valsA L n) (decide (valsA L n=[])) (withF n l false L)=L:=by
 obtain⟨lo,mid,hi,hp⟩:=part_of n L none h;obtain⟨h1,_,_⟩:=(atsF_iff _ _).1 h;rw[with_part (part_with hp l false),vals_part hp];conv=>rhs;rw[hp.eq]
 rcases hp.mid with rfl | ⟨v,rfl⟩
 ·rfl
 ·show lo++((if decide (v=[])then[]else[⟨n,v⟩])++hi)=_;have hv:v≠[]:=by
   rintro rfl;have:=h1 ⟨n,[]⟩ (by rw[hp.eq];simp);unfold atOK at this;cases hty:tyOf n with
   | none=>rw[hty]at this;cases this
   | some ty=>rw[hty]at this;simp[valsOK]at this
  simp[hv]
theorem join_fresh {syn:Int}: ∀ (l p:List ByteArray),(∀v∈l,okV syn v=true)→joinF syn p l=if fresh syn p l=true then some (p++l)else none
 | [],p,_=>by simp[joinF,fresh]
 | v::r,p,h=>by
  unfold joinF fresh;rw[h v (by simp),Bool.true_and];by_cases hl:likeI syn p v<0
  ·rw[if_pos hl,join_fresh r (p++[v]) (fun u hu=>h u (by simp[hu])),decide_eq_true hl,Bool.true_and,List.append_assoc];rfl
  ·rw[if_neg hl,decide_eq_false hl,Bool.false_and,if_neg (by simp)]
theorem drop_back {syn:Int}: ∀ (l p:List ByteArray),(∀v∈p++l,okV syn v=true)→((p++l).map (nv syn)).Nodup→dropF syn (p++l) l=some p
 | [],p,_,_=>by simp[dropF]
 | v::r,p,h,hn=>by
  have hv:likeN syn (p++v::r) v=some p.length:=by
   unfold likeN;rw[List.findIdx?_eq_some_iff_getElem];refine⟨by simp,?_,fun j hj=> ?_⟩
   ·rw[List.getElem_append_right (Nat.le_refl _)];simp only[Nat.sub_self,List.getElem_cons_zero];exact alike_self (h v (by simp))
   ·rw[List.getElem_append_left hj];have hne:nv syn p[j]≠nv syn v:=(by rw[List.map_append,List.nodup_append]at hn;exact hn.2.2 _ (List.mem_map.2 ⟨p[j],List.getElem_mem _,rfl⟩) _ (by simp));intro ha;exact hne (alike_iff.1 ha).2.2
  unfold dropF;rw[hv];have e:(p++v::r).take p.length++(p++v::r).drop (p.length+1)=p++r:=by rw[List.take_left,show p++v::r=(p++[v])++r by simp,show p.length+1=(p++[v]).length by simp,List.drop_left]
  simp only;rw[e];refine drop_back r p (fun u hu=>h u ?_) ?_
  ·rcases List.mem_append.1 hu with hu | hu
   ·exact List.mem_append_left _ hu
   ·exact List.mem_append_right _ (List.mem_cons_of_mem _ hu)
  ·have hs:(p++r).Sublist (p++v::r):=List.Sublist.append_left (List.sublist_cons_self v r) p;exact hn.sublist (hs.map _)
end etp
namespace etp
open atp atw
def findE (e:En)(n:List UInt8):Except Int Ty:=
 if rightE e=false then .error 4 else match findS (sml.lowL n)with
  | none=> .error 14
  | some ty=> .ok ty
def addE (e:En)(n:List UInt8)(l:List ByteArray):Except Int En:=
 match findE e n with
 | .error f=> .error f
 | .ok ty=>if l=[]then .error 1 else if faultI ty.syn l≠0 then .error (faultI ty.syn l)else match joinF ty.syn (valsA e.ats (bs ty.name)) l with
  | none=> .error 8
  | some all=>if mostT ty.single<all.length then .error 9 else .ok (withE e (bs ty.name) all)
def removeE (e:En)(n:List UInt8)(l:List ByteArray):Except Int En:=
 match findE e n with
 | .error f=> .error f
 | .ok ty=>if faultI ty.syn l≠0 then .error (faultI ty.syn l)else if valsA e.ats (bs ty.name)=[]then .error 7 else match dropF ty.syn (valsA e.ats (bs ty.name)) l with
  | none=> .error 7
  | some left=> .ok (withE e (bs ty.name) (if l=[]then[]else left))
def hasE (e:En)(n:List UInt8)(v:ByteArray):Bool:=match findS (sml.lowL n)with
 | none=>false
 | some ty=>rightE e&&decide (0≤likeI ty.syn (valsA e.ats (bs ty.name)) v)
theorem findE_ok {e:En}{n:List UInt8}{ty:Ty}(h:findE e n= .ok ty):rightE e=true∧findS (sml.lowL n)=some ty:=by
 unfold findE at h;by_cases hr:rightE e=false
 ·rw[if_pos hr]at h;cases h
 ·rw[if_neg hr]at h;cases hf:findS (sml.lowL n)with
  | none=>rw[hf]at h;cases h
  | some t=>rw[hf]at h;cases h;exact⟨by simpa using hr,rfl⟩
theorem findE_of {e:En}{n:List UInt8}{ty:Ty}(h1:rightE e=true)(h2:findS (sml.lowL n)=some ty):findE e n= .ok ty:=by unfold findE;rw[if_neg (by rw[h1];simp),h2]
theorem ty_self {n:List UInt8}{ty:Ty}(h:findS n=some ty):tyOf (bs ty.name)=some ty:=by unfold tyOf;rw[bs_data,(findS_some h).2];exact h
theorem right_iff {e:En}:rightE e=true↔dnw.rdnOK e.rdn=true∧atsF none e.ats=true:=by unfold rightE;rw[Bool.and_eq_true]
theorem vals_ok {L:List At}{ty:Ty}{n:List UInt8}(h:atsF none L=true)(hf:findS n=some ty):(∀v∈valsA L (bs ty.name),okV ty.syn v=true)∧((valsA L (bs ty.name)).map (nv ty.syn)).Nodup:=by
 obtain⟨lo,mid,hi,hp⟩:=part_of (bs ty.name) L none h;rw[vals_part hp];rcases hp.mid with rfl | ⟨v,rfl⟩
 ·exact⟨fun v hv=>(by cases hv),List.nodup_nil⟩
 ·have h1:=((atsF_iff _ _).1 h).1 ⟨bs ty.name,v⟩ (by rw[hp.eq];simp);unfold atOK at h1;rw[show tyOf (⟨bs ty.name,v⟩:At).t=some ty from ty_self hf]at h1;simp only[valsOK,Bool.and_eq_true]at h1;have:=(fresh_iff v [] (by simp) List.nodup_nil).1 h1.2;simpa[midV]using this
theorem atOK_of {ty:Ty}{n:List UInt8}{l:List ByteArray}(hf:findS n=some ty)(h1:l≠[])(h2:l.length≤mostT ty.single)(h3: ∀v∈l,okV ty.syn v=true)(h4:(l.map (nv ty.syn)).Nodup):atOK ⟨bs ty.name,l⟩=true:=by unfold atOK;rw[show tyOf (⟨bs ty.name,l⟩:At).t=some ty from ty_self hf];show valsOK ty l=true;unfold valsOK;rw[Bool.and_eq_true,Bool.and_eq_true,decide_eq_true_iff,decide_eq_true_iff];exact⟨⟨List.length_pos_iff.2 h1,h2⟩,(fresh_iff l [] (by simp) List.nodup_nil).2 ⟨h3,by simpa using h4⟩⟩
theorem add_ok {e a:En}{n:List UInt8}{l:List ByteArray}(h:addE e n l= .ok a): ∃ty,rightE e=true∧findS (sml.lowL n)=some ty∧l≠[]∧(∀v∈l,okV ty.syn v=true)∧
  ((valsA e.ats (bs ty.name)++l).map (nv ty.syn)).Nodup∧(valsA e.ats (bs ty.name)++l).length≤mostT ty.single∧a=withE e (bs ty.name) (valsA e.ats (bs ty.name)++l):=by
 unfold addE at h;cases hf:findE e n with
 | error f=>rw[hf]at h;cases h
 | ok ty=>
  rw[hf]at h;obtain⟨h1,h2⟩:=findE_ok hf;simp only at h;by_cases hl:l=[]
  ·rw[if_pos hl]at h;cases h
  ·rw[if_neg hl]at h;by_cases hz:faultI ty.syn l=0
   ·rw[if_neg (not_not_intro hz)]at h;have hok:=(fault_zero l).1 hz;rw[join_fresh l _ hok]at h;by_cases hfr:fresh ty.syn (valsA e.ats (bs ty.name)) l=true
    ·rw[if_pos hfr]at h;simp only at h;by_cases hm:mostT ty.single<(valsA e.ats (bs ty.name)++l).length
     ·rw[if_pos hm]at h;cases h
     ·rw[if_neg hm]at h;cases h;obtain⟨o1,o2⟩:=vals_ok (right_iff.1 h1).2 h2;exact⟨ty,h1,h2,hl,hok,((fresh_iff l _ o1 o2).1 hfr).2,by omega,rfl⟩
    ·rw[if_neg hfr]at h;cases h
   ·rw[if_pos hz]at h;cases h
theorem withE_false {e:En}{n:ByteArray}{l:List ByteArray}(h:l≠[]):withE e n l=⟨e.rdn,withF n l false e.ats⟩:=by unfold withE;rw[decide_eq_false h]
theorem app_ne {α:Type}{p l:List α}(h:l≠[]):p++l≠[]:=fun e=>h (List.append_eq_nil_iff.1 e).2
theorem add_right {e a:En}{n:List UInt8}{l:List ByteArray}(h:addE e n l= .ok a):rightE a=true:=by
 obtain⟨ty,h1,h2,h3,h4,h5,h6,rfl⟩:=add_ok h;rw[withE_false (app_ne h3)];have hr:=right_iff.1 h1;refine right_iff.2 ⟨hr.1,with_right hr.2 fun _=>atOK_of h2 (app_ne h3) h6 ?_ h5⟩;intro v hv;rcases List.mem_append.1 hv with hv | hv
 ·exact(vals_ok hr.2 h2).1 v hv
 ·exact h4 v hv
theorem vals_with {e:En}{n:ByteArray}{l:List ByteArray}(h:rightE e=true):valsA (withE e n l).ats n=l:=by
 obtain⟨lo,mid,hi,hp⟩:=part_of n e.ats none (right_iff.1 h).2;unfold withE;rw[vals_part (part_with hp l (decide (l=[])))];by_cases hl:l=[]
 ·subst hl;rfl
 ·rw[decide_eq_false hl];rfl
theorem like_in {syn:Int}{l:List ByteArray}{v:ByteArray}(h:v∈l)(hv:okV syn v=true):0≤likeI syn l v:=by
 by_cases hn:likeI syn l v<0
 ·rw[likeI_neg,likeN_none]at hn;have:=hn v h;rw[alike_self hv]at this;cases this
 ·omega
theorem like_not {syn:Int}{p l:List ByteArray}{v:ByteArray}(hn:((p++l).map (nv syn)).Nodup)(h:v∈l):likeI syn p v<0:=by rw[likeI_neg,likeN_none];intro x hx;rw[Bool.eq_false_iff];intro ha;rw[List.map_append,List.nodup_append]at hn;exact hn.2.2 _ (List.mem_map.2 ⟨x,hx,rfl⟩) _ (List.mem_map.2 ⟨v,h,rfl⟩) (alike_iff.1 ha).2.2
theorem back {e a:En}{n:List UInt8}{l:List ByteArray}(h:addE e n l= .ok a):removeE a n l= .ok e∧rightE a=true∧ ∀v∈l,hasE a n v=true∧hasE e n v=false:=by
 have hra:=add_right h;obtain⟨ty,h1,h2,h3,h4,h5,h6,rfl⟩:=add_ok h;have hv:=vals_with (n:=bs ty.name) (l:=valsA e.ats (bs ty.name)++l) h1;refine⟨?_,hra,fun v hvl=>⟨?_,?_⟩⟩
 ·unfold removeE;rw[findE_of hra h2];simp only;rw[if_neg (not_not_intro ((fault_zero l).2 h4)),hv,if_neg (app_ne h3)];have hok: ∀u∈valsA e.ats (bs ty.name)++l,okV ty.syn u=true:=by
   intro u hu;rcases List.mem_append.1 hu with hu | hu
   ·exact(vals_ok (right_iff.1 h1).2 h2).1 u hu
   ·exact h4 u hu
  rw[drop_back l _ hok h5];simp only;rw[if_neg h3,withE_false (app_ne h3)];unfold withE;simp only;rw[with_back (right_iff.1 h1).2]
 ·unfold hasE;rw[h2];simp only;rw[hra,hv,Bool.true_and,decide_eq_true_iff];exact like_in (List.mem_append_right _ hvl) (h4 v hvl)
 ·unfold hasE;rw[h2];simp only;rw[h1,Bool.true_and,decide_eq_false_iff_not];have:=like_not h5 hvl;omega
theorem drop_one {syn:Int}{l:List ByteArray}{v:ByteArray}{k:Nat}(h:likeN syn l v=some k):dropF syn l [v]=some (l.take k++l.drop (k+1)):=by unfold dropF;rw[h];rfl
end etp
namespace etp
open atp atw
open dnw (Av)
theorem find_small {n:List UInt8}{ty:Ty}(h:findS n=some ty):findS (sml.lowL n)=some ty:=(find_low.2 h).1
end etp
namespace etp
open atp atw
open dnw (Av)
def buildF:List (ByteArray × ByteArray)→En→Except Int En
 | [],e=> .ok e
 | p::r,e=>match addE e p.1.data.toList [p.2]with
  | .error f=> .error f
  | .ok a=>buildF r a
def pairsA (a:At):List (ByteArray × ByteArray):=a.vs.map fun v=>(a.t,v)
def pairsE (L:List At):List (ByteArray × ByteArray):=L.flatMap pairsA
def opt (t:ByteArray)(vs:List ByteArray):List At:=if vs=[]then[]else[⟨t,vs⟩]
theorem add_one {e:En}{n:List UInt8}{ty:Ty}{v:ByteArray}(h1:rightE e=true)(h2:findS n=some ty)(h3:okV ty.syn v=true)(h4:((valsA e.ats (bs ty.name)++[v]).map (nv ty.syn)).Nodup)(h5:(valsA e.ats (bs ty.name)++[v]).length≤mostT ty.single):
  addE e n [v]= .ok (withE e (bs ty.name) (valsA e.ats (bs ty.name)++[v])):=by
 unfold addE;rw[findE_of h1 (find_small h2)];simp only;have hz:faultI ty.syn [v]=0:=(fault_zero [v]).2 (by simp[h3]);obtain⟨o1,o2⟩:=vals_ok (right_iff.1 h1).2 h2;have hf:fresh ty.syn (valsA e.ats (bs ty.name)) [v]=true:=(fresh_iff [v] _ o1 o2).2 ⟨by simp[h3],h4⟩;rw[if_neg (by simp),if_neg (not_not_intro hz),join_fresh [v] _ (by simp[h3]),if_pos hf];simp only;rw[if_neg (by omega)]
theorem right_pre {rdn:List Av}{lo hi:List At}(h:rightE ⟨rdn,lo++hi⟩=true):rightE ⟨rdn,lo⟩=true:=by obtain⟨h1,h2⟩:=right_iff.1 h;obtain⟨g1,g2,_⟩:=(atsF_iff _ _).1 h2;refine right_iff.2 ⟨h1,(atsF_iff _ _).2 ⟨fun a ha=>g1 a (List.mem_append_left _ ha),(List.pairwise_append.1 g2).1,fun q hq=>by cases hq⟩⟩
theorem at_pre {t:ByteArray}{us ws:List ByteArray}(h:atOK ⟨t,us++ws⟩=true)(hu:us≠[]):atOK ⟨t,us⟩=true:=by
 cases hty:tyOf t with
 | none=>unfold atOK at h;rw[show tyOf (⟨t,us++ws⟩:At).t=none from hty]at h;cases h
 | some ty=>
  unfold atOK at h ⊢;have h0:valsOK ty (us++ws)=true:=by rw[show tyOf (⟨t,us++ws⟩:At).t=some ty from hty]at h;exact h
  rw[show tyOf (⟨t,us⟩:At).t=some ty from hty];show valsOK ty us=true;clear h;have h:=h0;clear h0;simp only[valsOK,Bool.and_eq_true,decide_eq_true_eq]at h ⊢;obtain⟨⟨_,k1⟩,k2⟩:=h;obtain⟨k3,k4⟩:=(fresh_iff (us++ws) [] (by simp) List.nodup_nil).1 k2;rw[List.nil_append,List.map_append,List.nodup_append]at k4;rw[List.length_append]at k1;exact⟨⟨List.length_pos_iff.2 hu,by omega⟩,(fresh_iff us [] (by simp) List.nodup_nil).2 ⟨fun v hv=>k3 v (by simp[hv]),by simpa using k4.1⟩⟩
theorem add_snoc {rdn:List Av}{lo:List At}{t:ByteArray}{us ws:List ByteArray}{v:ByteArray}(h:rightE ⟨rdn,lo++[⟨t,us++v::ws⟩]⟩=true):
  addE ⟨rdn,lo++opt t us⟩ t.data.toList [v]= .ok ⟨rdn,lo++opt t (us++[v])⟩:=by
 obtain⟨h1,h2⟩:=right_iff.1 h;obtain⟨g1,g2,_⟩:=(atsF_iff _ _).1 h2;have ha:atOK ⟨t,us++v::ws⟩=true:=g1 _ (by simp);have hlo: ∀a∈lo,ltB a.t t=true:=fun a ha=>(List.pairwise_append.1 g2).2.2 a ha ⟨t,us++v::ws⟩ (by simp);cases hty:tyOf t with
 | none=>unfold atOK at ha;rw[show tyOf (⟨t,us++v::ws⟩:At).t=none from hty]at ha;cases ha
 | some ty=>
  have hfs:findS t.data.toList=some ty:=hty;have hn:bs ty.name=t:=kt.str_eq (by rw[bs_data];exact(findS_some hfs).2);have ha2:valsOK ty (us++v::ws)=true:=by unfold atOK at ha;rw[show tyOf (⟨t,us++v::ws⟩:At).t=some ty from hty]at ha;exact ha
  simp only[valsOK,Bool.and_eq_true,decide_eq_true_eq]at ha2;obtain⟨⟨_,k1⟩,k2⟩:=ha2;obtain⟨k3,k4⟩:=(fresh_iff (us++v::ws) [] (by simp) List.nodup_nil).1 k2;have k5:((us++[v]).map (nv ty.syn)).Nodup:=by have e:us++v::ws=(us++[v])++ws:=(by simp);rw[List.nil_append,e,List.map_append,List.nodup_append]at k4;exact k4.1
  have hr0:rightE ⟨rdn,lo++opt t us⟩=true:=by
   unfold opt;by_cases hu:us=[]
   ·rw[if_pos hu,List.append_nil];exact right_pre h
   ·rw[if_neg hu];refine right_iff.2 ⟨h1,(atsF_iff _ _).2 ⟨fun a ha'=> ?_,?_,fun q hq=>by cases hq⟩⟩
    ·rcases List.mem_append.1 ha' with hb | hb
     ·exact g1 a (List.mem_append_left _ hb)
     ·rw[List.mem_singleton]at hb;subst hb;exact at_pre ha hu
    ·rw[List.pairwise_append]at g2 ⊢;refine⟨g2.1,by simp,fun a ha' b hb=> ?_⟩;rw[List.mem_singleton]at hb;subst hb;exact hlo a ha'
  have hp:Part t (lo++opt t us) lo (opt t us) []:=⟨by simp,hlo,by simp,by
   unfold opt;by_cases hu:us=[]
   ·rw[if_pos hu];exact Or.inl rfl
   ·rw[if_neg hu];exact Or.inr ⟨us,rfl⟩⟩
  have hv:valsA (lo++opt t us) t=us:=by
   rw[vals_part hp];unfold opt;by_cases hu:us=[]
   ·rw[if_pos hu,hu];rfl
   ·rw[if_neg hu];rfl
  have hva:valsA (⟨rdn,lo++opt t us⟩:En).ats (bs ty.name)=us:=by rw[hn];exact hv
  rw[add_one hr0 hfs (k3 v (by simp)) (by rw[hva];exact k5) (by rw[hva];simp only[List.length_append,List.length_cons,List.length_nil]at k1 ⊢;omega),hva,hn,withE_false (by simp)];show Except.ok (⟨rdn,withF t (us++[v]) false (lo++opt t us)⟩:En)=_;rw[with_part hp];unfold opt;rw[if_neg (by simp)];simp
theorem build_at {rdn:List Av}{lo:List At}{t:ByteArray}: ∀ (ws us:List ByteArray) (Q:List (ByteArray × ByteArray)),us++ws≠[]→rightE ⟨rdn,lo++[⟨t,us++ws⟩]⟩=true→
  buildF (ws.map (fun v=>(t,v))++Q) ⟨rdn,lo++opt t us⟩=buildF Q ⟨rdn,lo++[⟨t,us++ws⟩]⟩
 | [],us,Q,hne,h=>by rw[List.append_nil]at hne;unfold opt;rw[if_neg hne,List.append_nil];rfl
 | v::ws,us,Q,hne,h=>by
  have e:us++v::ws=(us++[v])++ws:=by simp
  rw[List.map_cons,List.cons_append];conv=>lhs;unfold buildF
  rw[show((t,v).1:ByteArray).data.toList=t.data.toList from rfl,add_snoc h];simp only;rw[build_at ws (us++[v]) Q (by simp) (by rw[←e];exact h),←e]
theorem build_pre {rdn:List Av}: ∀ (hi lo:List At),rightE ⟨rdn,lo++hi⟩=true→buildF (pairsE hi) ⟨rdn,lo⟩= .ok ⟨rdn,lo++hi⟩
 | [],lo,h=>by rw[List.append_nil];rfl
 | a::r,lo,h=>by
  have e:lo++a::r=(lo++[a])++r:=by simp
  obtain⟨t,vs⟩:=a;have hne:vs≠[]:=by
   have:=((atsF_iff _ _).1 (right_iff.1 h).2).1 ⟨t,vs⟩ (by simp);intro e0;subst e0;unfold atOK at this;split at this
   ·cases this
   ·simp[valsOK]at this
  have h2:rightE ⟨rdn,lo++[⟨t,vs⟩]⟩=true:=right_pre (hi:=r) (by rw[←e];exact h);have e2:pairsE (⟨t,vs⟩::r)=vs.map (fun v=>(t,v))++pairsE r:=by unfold pairsE;rw[List.flatMap_cons];rfl
  have h3:=build_at (rdn:=rdn) (lo:=lo) (t:=t) vs [] (pairsE r) (by simpa using hne) (by simpa using h2);rw[List.nil_append]at h3;have e3:lo++opt t []=lo:=by unfold opt;rw[if_pos rfl,List.append_nil]
  rw[e3]at h3;rw[e2,h3,e];exact build_pre r (lo++[⟨t,vs⟩]) (by rw[←e];exact h)
theorem build_back {e:En}(h:rightE e=true):buildF (pairsE e.ats) ⟨e.rdn,[]⟩= .ok e:=by have:=build_pre (rdn:=e.rdn) e.ats [] (by rw[List.nil_append];exact h);rw[this];rfl
end etp
open Go.RowKit
namespace etw
theorem tk {P:Program}{ops:Array Oper}{Q:Exit→Act→World→Prop}{md:Region.Mode}{S:World→Prop}(i:Nat)(oi:Oper){v:Value}{fuel:Nat}{listed:Array Bool}{a a2:Act}{w:World}(hi:ops[i]? =some oi)
  (h:wpAnyH P md ops Q S fuel (listed.setIfInBounds i true) a2 w)
  (hs:Region.noSelect ops=true:=by kernel_rfl) (hf:Region.free md ops listed i=true:=by kernel_rfl) (hr:(Region.ready md ops listed).contains i=true:=by kernel_rfl)
  (hQ: ∀c a w,Q (.panic c) (a.put oi.dst v) w→Q (.panic c) a w:=by exact fun _ _ _ h=>h) (hw:Region.wanted oi (yielded ops a.tmps)=true:=by rfl)
  (hy: ∀w,S w→(execOp a.eval oi).run P w= .ok (.value v) w:=by intro w hSw;(try dsimp only at hSw);go_simp;all_goals with_reducible rfl)
  (hS:S w:=by assumption) (ha:a.put oi.dst v=a2:=by first | (simp only[Act.put,List.setIfInBounds_toArray,List.set_cons_zero,List.set_cons_succ];rfl) | rfl):wpAnyH P md ops Q S (fuel+1) listed a w:=by
 subst ha;exact wpAnyH_take hi hs hf hr hQ (Or.inl ⟨hw,hy⟩) hS h
theorem tu {P:Program}{ops:Array Oper}{Q:Exit→Act→World→Prop}{md:Region.Mode}{S:World→Prop}(i:Nat)(oi:Oper){fuel:Nat}{listed:Array Bool}{a a2:Act}{w:World}(hi:ops[i]? =some oi)
  (h:wpAnyH P md ops Q S fuel (listed.setIfInBounds i true) a2 w)
  (hs:Region.noSelect ops=true:=by kernel_rfl) (hf:Region.free md ops listed i=true:=by kernel_rfl) (hr:(Region.ready md ops listed).contains i=true:=by kernel_rfl)
  (hQ: ∀c a w,Q (.panic c) (a.put oi.dst undef) w→Q (.panic c) a w:=by exact fun _ _ _ h=>h) (hw:Region.wanted oi (yielded ops a.tmps)=false:=by rfl)
  (hS:S w:=by assumption) (ha:a.put oi.dst undef=a2:=by first | (simp only[Act.put,List.setIfInBounds_toArray,List.set_cons_zero,List.set_cons_succ];rfl) | rfl):wpAnyH P md ops Q S (fuel+1) listed a w:=by
 subst ha;exact wpAnyH_take hi hs hf hr hQ (Or.inr ⟨hw,rfl⟩) hS h
theorem tc {P:Program}{ops:Array Oper}{Q:Exit→Act→World→Prop}{md:Region.Mode}{S:World→Prop}(i:Nat)(oi:Oper){fuel:Nat}{listed:Array Bool}{a:Act}{w:World}(ho:ops[i]? =some oi)
  (h: ∀K':Act→World→Prop,Shut (∀a w,S w→(S w→wpAnyH P md ops Q S fuel (listed.setIfInBounds i true) a w)→K' a w)→if Region.wanted oi (yielded ops a.tmps)=true then Oper.wp P oi a w K' Q else K' (a.put oi.dst undef) w)
  (hr:Region.ready md ops listed=[i]:=by kernel_rfl):wpAnyH P md ops Q S (fuel+1) listed a w:=
 wpAnyH_ready hr (by simp) (AllReadyH.cons ho h AllReadyH.nil)
end etw
open Go.RowKit
namespace etw
open atp atw etp
open dnw (Av Avas)
open tupw (Strs strs_below)
structure EnvE (w:World):Prop where
 e:prw.Env w
 t:dnw.Tabs w
 y:TyEnv w
theorem envE_below {w w':World}(h:EnvE w)(hb:Below w.heap.size w w'):EnvE w':=⟨prw.env_below h.e hb,dnw.tabs_below h.t hb,tyEnv_below h.y hb⟩
def ElemAt (w:World)(x:Value)(vs:List ByteArray):Prop:= ∃a c,x= .slice a vs.length c∧vs.length≤c∧Strs w a vs
def Ats (w:World)(ao:Option Addr)(l:List At):Prop:= ∀i (hi:i<l.length),∃b o a c,ao=some ⟨b,o,none⟩∧w.cell? ⟨b,o+i*2,none⟩=some (.string l[i].t)∧w.cell? ⟨b,o+i*2+1,none⟩=some (.slice a l[i].vs.length c)∧l[i].vs.length≤c∧Strs w a l[i].vs
theorem elem_below {w w':World}{x:Value}{vs:List ByteArray}(h:ElemAt w x vs)(hb:Below w.heap.size w w'):ElemAt w' x vs:=by obtain⟨a,c,h1,h2,h3⟩:=h;exact⟨a,c,h1,h2,strs_below h3 hb⟩
theorem ats_below {w w':World}{ao:Option Addr}{l:List At}(h:Ats w ao l)(hb:Below w.heap.size w w'):Ats w' ao l:=by intro i hi;obtain⟨b,o,a,c,h1,h2,h3,h4,h5⟩:=h i hi;exact⟨b,o,a,c,h1,(hb.cell (World.block_lt_of_cell? w _ h2)).trans h2,(hb.cell (World.block_lt_of_cell? w _ h3)).trans h3,h4,strs_below h5 hb⟩
theorem strs_same {w w':World}{a:Option Addr}{vs:List ByteArray}(h:Strs w a vs)(hb:vs≠[]→ ∀p,a=some p→w'.heap[p.block]? =w.heap[p.block]?):Strs w' a vs:=by intro i hi;obtain⟨b,o,e,hc⟩:=h i hi;exact⟨b,o,e,(World.cell?_of_block (w:=w) (a:=⟨b,o+i,none⟩) (hb (by intro e0;rw[e0]at hi;cases hi) ⟨b,o,none⟩ e)).trans hc⟩
theorem strs_lt {w:World}{a:Option Addr}{vs:List ByteArray}(h:Strs w a vs)(hv:vs≠[]): ∃b o,a=some ⟨b,o,none⟩∧b<w.heap.size:=by
 cases vs with
 | nil=>exact absurd rfl hv
 | cons x t=>obtain⟨b,o,e,hc⟩:=h 0 (by simp);exact⟨b,o,e,World.block_lt_of_cell? w _ hc⟩
theorem own_elem {w:World}{B:Nat}{v:Value}{l:List ByteArray}(h:prw.OwnT w B v l):ElemAt w v l:=by obtain⟨ao,cap,rfl,hc,h1⟩:=prw.ownT_cells h;refine⟨ao,cap,rfl,hc,fun i hi=> ?_⟩;obtain⟨g,rfl,hg,h2⟩:=h1 (by intro e0;rw[e0]at hi;cases hi);refine⟨g,0,rfl,?_⟩;exact h2 i _ (List.getElem?_eq_getElem hi)
theorem elem_form {w:World}{v:Value}{l:List ByteArray}(h:ElemAt w v l): ∃a n c,v= .slice a n c∧Hid (n=l.length)∧n≤c∧Strs w a l:=by obtain⟨a,c,h1,h2,h3⟩:=h;exact⟨a,_,c,h1,rfl,h2,h3⟩
abbrev AV:=At × Value
def acell (x:AV):List Value:=[.string x.1.t,x.2]
theorem infoAt:(Tryz.prog.info? 43).map (fun i=>(i.zero,i.size,i.bytes))=some (some (.agg #[.string ByteArray.empty,.slice none 0 0]),2,40):=by kernel_rfl
structure OwnA (w:World)(B:Nat)(v:Value)(l:List AV):Prop where
 outer:kt.SegX w B 43 2 v l.length (l.flatMap acell)
 inner: ∀x∈l,ElemAt w x.2 x.1.vs∧(x.1.vs≠[]→ ∀k,x.2.ownBlock=some k→v.ownBlock≠some k)
theorem ownA_nil (w:World)(B:Nat):OwnA w B (.slice none 0 0) []:=⟨kt.segX_nil _ _ _ _,fun x h=>by cases h⟩
theorem elem_lt {w:World}{x:Value}{vs:List ByteArray}(h:ElemAt w x vs)(hv:vs≠[]): ∀k,x.ownBlock=some k→k<w.heap.size:=by obtain⟨a,c,rfl,h2,h3⟩:=h;obtain⟨b,o,rfl,hb⟩:=strs_lt h3 hv;intro k hk;simp[Value.ownBlock]at hk;omega
theorem elem_same {w w':World}{x:Value}{vs:List ByteArray}(h:ElemAt w x vs)(hb:vs≠[]→ ∀k,x.ownBlock=some k→w'.heap[k]? =w.heap[k]?):ElemAt w' x vs:=by obtain⟨a,c,rfl,h2,h3⟩:=h;refine⟨a,c,rfl,h2,strs_same h3 fun hv p hp=> ?_⟩;exact hb hv p.block (by rw[hp];rfl)
theorem ownA_below {w w':World}{B:Nat}{v:Value}{l:List AV}(h:OwnA w B v l)(hb:Below w.heap.size w w'):OwnA w' B v l:=⟨kt.segX_below h.outer hb,fun x hx=>⟨elem_below (h.inner x hx).1 hb,(h.inner x hx).2⟩⟩
theorem ownA_form {w:World}{B:Nat}{v:Value}{l:List AV}(h:OwnA w B v l): ∃ao n cap,v= .slice ao n cap∧Hid (n=l.length)∧n≤cap:=by obtain⟨ao,cap,hv,hc⟩:=kt.segX_slice h.outer;exact⟨ao,_,cap,hv,rfl,hc⟩
theorem ownA_ats {w:World}{B:Nat}{ao:Option Addr}{n cap:Nat}{l:List AV}(h:OwnA w B (.slice ao n cap) l):Ats w ao (l.map Prod.fst):=by
 intro i hi;have hi':i<l.length:=by simpa using hi
 obtain⟨g,o,cap',hv,_,_,hcell⟩:=kt.segX_cell h.outer (by omega);simp only[Value.slice.injEq]at hv;obtain⟨rfl,_,rfl⟩:=hv;have hj: ∀j,j<2→(l.flatMap acell)[i*2+j]? =(acell l[i])[j]? :=fun j hj=>kt.flat_get acell 2 (fun _=>rfl) l i j hi' hj;obtain⟨⟨a,c,e,h2,h3⟩,_⟩:=h.inner l[i] (List.getElem_mem hi');refine⟨g,o,a,c,rfl,?_,?_,?_,?_⟩
 ·have:=hcell _ _ (hj 0 (by omega));simpa using this
 ·have:=hcell (i*2+1) (.slice a l[i].fst.vs.length c) (by rw[hj 1 (by omega),←e];rfl);rw[Nat.add_assoc];simpa using this
 ·simpa using h2
 ·simpa using h3
theorem ownA_app {w:World}{B:Nat}{v:Value}{l:List AV}(t:ByteArray)(x:Value)(vs:List ByteArray)(h:OwnA w B v l)(hx:ElemAt w x vs)(hne:vs≠[]→ ∀k,x.ownBlock=some k→v.ownBlock≠some k)(hl:l.length≤1000000)(hB:B≤w.heap.size):
  ∃ao n cap w1,(Builtin.append_ #[24,24] 24 #[v,.slice (some ⟨w.heap.size,0,none⟩) 1 1]).run Tryz.prog (w.alloc (.cells #[.string t,x] 43))= .ok (.slice ao n cap) w1∧OwnA w1 B (.slice ao n cap) (l++[(⟨t,vs⟩,x)])∧Below B w w1∧n=l.length+1∧n≤cap∧w.heap.size≤w1.heap.size∧
   (∀y us,ElemAt w y us→(us≠[]→ ∀k,y.ownBlock=some k→v.ownBlock≠some k)→ElemAt w1 y us∧(us≠[]→ ∀k,y.ownBlock=some k→(Value.slice ao n cap).ownBlock≠some k))∧
   (∀k,k<w.heap.size→v.ownBlock≠some k→w1.heap[k]? =w.heap[k]?)∧(∀k,(Value.slice ao n cap).ownBlock=some k→v.ownBlock=some k∨w.heap.size≤k):=by
 have hA:Below w.heap.size w (w.alloc (.cells #[.string t,x] 43)):=(Below.refl _ _).alloc (Nat.le_refl _) _;have hn:=ownA_below h hA;obtain⟨a,c,hxe,_,_⟩:=id hx;obtain⟨v',w1,h1,h2,h3,h4⟩:=kt.segX_append (P:=Tryz.prog) (t:=24) (ty:=24) Tryz.underlying24 infoAt rfl (by omega) ⟨w.heap.size,0,none⟩ 1 1 (acell (⟨t,vs⟩,x)) rfl (fun j u hj=>by rw[kt.addr_add,World.cell?_alloc_new];simpa[acell]using hj) (by intro u hu;simp[acell]at hu;rcases hu with rfl | rfl<;>(try rw[hxe])<;>rfl) hn.outer (by unfold maxLen;omega) (by omega) (by simp;omega);obtain⟨ao,cap,rfl,hc⟩:=kt.segX_slice h2;have hs:=hA.size;have key: ∀y us,ElemAt w y us→(us≠[]→ ∀k,y.ownBlock=some k→v.ownBlock≠some k)→ElemAt w1 y us∧(us≠[]→ ∀k,y.ownBlock=some k→(Value.slice ao (l.length+1) cap).ownBlock≠some k):=by
  intro y us hy hd;have hy1:=elem_below hy hA;refine⟨elem_same hy1 fun hv k hk=>h3.block k (elem_lt hy1 hv k hk) (fun e=>hd hv k hk e.symm),fun hv k hk e2=> ?_⟩;rcases h4 k e2 with e3 | e3
  ·exact hd hv k hk e3
  ·have:=elem_lt hy1 hv k hk;omega
 refine⟨ao,_,cap,w1,h1,⟨?_,fun y hy=> ?_⟩,((Below.refl B w).alloc hB _).trans ((Below.refl B _).grown h3 (by simp;omega) (fun k hk=>(kt.segX_lt hn.outer k hk).1)),rfl,hc,?_,key,fun k hk hne=>(h3.block k (by simp;omega) (fun e=>hne e.symm)).trans (hA.block k hk),fun k hk=>by
  rcases h4 k hk with e | e
  ·exact Or.inl e
  ·exact Or.inr (by omega)⟩
 ·rw[List.length_append,List.flatMap_append];simpa using h2
 ·rcases List.mem_append.1 hy with hy | hy
  ·exact key y.2 y.1.vs (h.inner y hy).1 (h.inner y hy).2
  ·rw[List.mem_singleton]at hy;subst hy;exact key x vs hx hne
 ·exact Nat.le_trans hs h3.size
structure Bd (e:En):Prop where
 rl:e.rdn.length≤100000
 rs: ∀a∈e.rdn,a.t.size≤100000∧a.v.size≤100000
 al:e.ats.length≤100000
 as_: ∀a∈e.ats,a.t.size≤100000∧a.vs.length≤100000∧ ∀v∈a.vs,v.size≤100000
theorem bd_smalls {e:En}(h:Bd e):e.rdn.length≤4→dnw.Smalls e.rdn:=fun _ x hx=>⟨(h.rs x hx).1,by have:=(h.rs x hx).2;omega⟩
def EntV (w:World)(v:Value)(e:En):Prop:= ∃ro rc ao ac,v= .agg #[.slice ro e.rdn.length rc,.slice ao e.ats.length ac]∧e.rdn.length≤rc∧e.ats.length≤ac∧Avas w ro e.rdn∧Ats w ao e.ats
theorem entV_below {w w':World}{v:Value}{e:En}(h:EntV w v e)(hb:Below w.heap.size w w'):EntV w' v e:=by obtain⟨ro,rc,ao,ac,h1,h2,h3,h4,h5⟩:=h;exact⟨ro,rc,ao,ac,h1,h2,h3,dnw.avas_below h4 hb,ats_below h5 hb⟩
end etw
open Go.RowKit
namespace etw
open atp atw etp
open dnw (Av Avas)
structure Bk (k:Nat)(e:En):Prop where
 rl:e.rdn.length≤1000
 rs: ∀a∈e.rdn,a.t.size≤1000∧a.v.size≤1200
 al:e.ats.length≤k
 as_: ∀a∈e.ats,a.t.size≤1000∧a.vs.length≤50∧ ∀v∈a.vs,v.size≤1200
theorem bk_bd {k:Nat}{e:En}(h:Bk k e)(hk:k≤100000):Bd e:=⟨by have:=h.rl;omega,fun a ha=>by have:=h.rs a ha;omega,by have:=h.al;omega,fun a ha=>by have:=h.as_ a ha;exact⟨by omega,by omega,fun v hv=>by have:=this.2.2 v hv;omega⟩⟩
theorem withF_mem {n:ByteArray}{l:List ByteArray}: ∀ {L:List At} {d:Bool} {a:At},a∈withF n l d L→a∈L∨a=⟨n,l⟩
 | [],d,a,h=>by
  unfold withF at h;split at h
  ·cases h
  ·rw[List.mem_singleton]at h;exact Or.inr h
 | b::r,d,a,h=>by
  unfold withF at h;simp only[List.mem_append]at h;rcases h with(h | h) | h
  ·split at h
   ·rw[List.mem_singleton]at h;exact Or.inr h
   ·cases h
  ·split at h
   ·cases h
   ·rw[List.mem_singleton]at h;rw[h];exact Or.inl (by simp)
  ·rcases withF_mem h with h | h
   ·exact Or.inl (by simp[h])
   ·exact Or.inr h
theorem withF_len {n:ByteArray}{l:List ByteArray}: ∀ (L:List At) (d:Bool),(withF n l d L).length≤L.length+(if d then 0 else 1)
 | [],d=>by unfold withF;cases d<;>simp
 | b::r,d=>by
  unfold withF;have h:=withF_len (n:=n) (l:=l) r (d||(!d&& !ltB b.t n));simp only[List.length_append,List.length_cons];generalize ltB b.t n=x at h ⊢;have h2:(if b.t=n then([]:List At)else[b]).length≤1:=by split<;>simp
  generalize(if b.t=n then([]:List At)else[b]).length=y at h2 ⊢;cases d<;>cases x<;>simp at h ⊢ <;>omega
theorem bk_with {k:Nat}{e:En}{n:ByteArray}{l:List ByteArray}(h:Bk k e)(hn:n.size≤1000)(hl:l.length≤50)(hv: ∀v∈l,v.size≤1200):Bk (k+1) (withE e n l):=by
 refine⟨h.rl,h.rs,?_,fun a ha=> ?_⟩
 ·have h1:=withF_len (n:=n) (l:=l) e.ats (decide (l=[]));have h2:=h.al;show(withF n l (decide (l=[])) e.ats).length≤k+1;split at h1<;>omega
 ·rcases withF_mem ha with ha | ha
  ·exact h.as_ a ha
  ·rw[ha];exact⟨hn,hl,hv⟩
theorem bk_vals {k:Nat}{e:En}(h:Bk k e)(n:ByteArray):(valsA e.ats n).length≤50∧ ∀v∈valsA e.ats n,v.size≤1200:=by
 unfold valsA;cases hf:e.ats.find? fun a=>decide (a.t=n)with
 | none=>exact⟨by simp,by simp⟩
 | some a=>exact(h.as_ a (List.mem_of_find?_eq_some hf)).2
theorem ty_size: ∀j:Fin 20,(tys[j.val]'(j.isLt)).name.length≤1000:=by decide+kernel
theorem name_size {n:List UInt8}{ty:Ty}(h:findS n=some ty):(bs ty.name).size≤1000:=by obtain⟨i,hi,e⟩:=List.mem_iff_getElem.1 (findS_some h).1;rw[bs_size,←e];exact ty_size ⟨i,hi⟩
theorem bk_add {k:Nat}{e a:En}{n:List UInt8}{l:List ByteArray}(h:Bk k e)(hl: ∀v∈l,v.size≤1200)(ha:addE e n l= .ok a):Bk (k+1) a:=by
 obtain⟨ty,h1,h2,h3,h4,h5,h6,rfl⟩:=add_ok ha;have hm:mostT ty.single≤20:=by unfold mostT;split<;>omega
 refine bk_with h (name_size h2) (by omega) fun v hv=> ?_;rcases List.mem_append.1 hv with hv | hv
 ·exact(bk_vals h _).2 v hv
 ·exact hl v hv
end etw
namespace lbp
open atp atw etp etw
open dnw (Av parseV printR nameOK nameX rdnOK)
def two (p:Av):ByteArray × ByteArray:=(p.t,p.v)
def finE (n:List (List Av)):Except Int En→Except Int (List (List Av) × En)
 | .error f=> .error f
 | .ok e=> .ok (n,e)
def bld2 (ps:List Av):List (List Av)→Except Int (List (List Av) × En)
 | []=> .error 18
 | r::m=>finE (r::m) (buildF (ps.map two) ⟨r,[]⟩)
def bldE (nm:ByteArray)(ps:List Av):Except Int (List (List Av) × En):=if(parseV nm).2≠0 then .error (parseV nm).2 else bld2 ps (parseV nm).1
theorem bld_eq (nm:ByteArray)(ps:List Av):bldE nm ps=if(parseV nm).2≠0 then .error (parseV nm).2 else bld2 ps (parseV nm).1:=rfl
def pairsV (L:List At):List Av:=L.flatMap fun a=>a.vs.map fun v=>⟨a.t,v⟩
def recE (n:List (List Av))(e:En):Except Int (ByteArray × List Av):=if n=[]then .error 18 else if nameOK n=false∨rightE e=false then .error 4 else if(printR n).2≠0 then .error ((printR n).2:Int)else .ok (dnw.bytes (printR n).1,pairsV e.ats)
theorem two_pairs (L:List At):(pairsV L).map two=pairsE L:=by unfold pairsV pairsE pairsA;rw[List.map_flatMap];simp only[List.map_map];rfl
def recOf (nm:ByteArray)(ps:List Av):ldp.Rec:=⟨nm.data.toList,ps.map fun p=>(p.t.data.toList,p.v.data.toList)⟩
theorem tys_typeOK: ∀j:Fin 20,ldp.typeOK (tys[j.val]'(j.isLt)).name=true∧ldp.isDn (tys[j.val]'(j.isLt)).name=false:=by decide+kernel
theorem right_types {e:En}(h:rightE e=true): ∀a∈e.ats,ldp.typeOK a.t.data.toList=true∧ldp.isDn a.t.data.toList=false:=by
 intro a ha;have h1:=((atsF_iff _ _).1 (right_iff.1 h).2).1 a ha;unfold atOK at h1;cases hf:tyOf a.t with
 | none=>rw[hf]at h1;cases h1
 | some ty=>obtain⟨hm,hn⟩:=findS_some hf;obtain⟨i,hi,e2⟩:=List.mem_iff_getElem.1 hm;rw[←hn,←e2];exact tys_typeOK ⟨i,hi⟩
theorem rec_types {e:En}(h:rightE e=true)(nm:ByteArray): ∀p∈(recOf nm (pairsV e.ats)).pairs,ldp.typeOK p.1=true∧ldp.isDn p.1=false:=by intro p hp;obtain⟨q,hq,rfl⟩:=List.mem_map.1 hp;obtain⟨a,ha,hq2⟩:=List.mem_flatMap.1 hq;obtain⟨v,hv,rfl⟩:=List.mem_map.1 hq2;exact right_types h a ha
theorem rec_ok {n:List (List Av)}{e:En}{nm:ByteArray}{ps:List Av}(h:recE n e= .ok (nm,ps)):nameOK n=true∧rightE e=true∧n≠[]∧nm=dnw.bytes (nameX n)∧(nameX n).length≤1000∧ps=pairsV e.ats:=by
 unfold recE at h;split at h
 ·cases h
 ·rename_i h0;split at h
  ·cases h
  ·rename_i h1;split at h
   ·cases h
   ·rename_i h2;cases h;have hn:nameOK n=true:=by cases hq:nameOK n with
     | true=>rfl
     | false=>exact absurd (Or.inl hq) h1
    have he:rightE e=true:=by cases hq:rightE e with
     | true=>rfl
     | false=>exact absurd (Or.inr hq) h1
    unfold printR at h2 ⊢;rw[if_pos hn]at h2 ⊢;by_cases h3:1000<(nameX n).length
    ·rw[if_pos h3]at h2;exact absurd (by decide) h2
    ·rw[if_neg h3];exact⟨hn,he,h0,rfl,by omega,rfl⟩
theorem parse_name {n:List (List Av)}(h:nameOK n=true)(h2:(nameX n).length≤1000):parseV (dnw.bytes (nameX n))=(n,0):=by unfold parseV;rw[if_neg (by rw[←kt.size_len,dnw.bytes_data];omega),dnw.bytes_data,dnw.parse_print n h]
theorem build_rec {r:List Av}{m:List (List Av)}{ats:List At}{nm:ByteArray}{ps:List Av}(h:recE (r::m) ⟨r,ats⟩= .ok (nm,ps)):bldE nm ps= .ok (r::m,⟨r,ats⟩):=by obtain⟨h1,h2,h3,rfl,h4,rfl⟩:=rec_ok h;unfold bldE;rw[parse_name h1 h4,if_neg (fun h=>h rfl)];show finE (r::m) (buildF ((pairsV ats).map two) ⟨r,[]⟩)=_;rw[two_pairs,build_back h2];rfl
theorem name_bk {r:List Av}(h:rdnOK r=true):Bk 0 ⟨r,[]⟩:=by obtain⟨_,h2,_⟩:=dnw.rdnOK_facts h;refine⟨by show r.length≤1000;omega,fun a ha=> ?_,Nat.le_refl _,fun a ha=>by cases ha⟩;obtain⟨t1,v1⟩:=dnw.rdnOK_av h a ha;have:=dnw.typeOK_le t1;have:=dnw.valOK_le v1;rw[kt.size_len]at*;omega
theorem build_step {L:List (ByteArray × ByteArray)}{e:En}{i:Nat}(hi:i<L.length):buildF (L.drop i) e=match addE e L[i].1.data.toList [L[i].2]with
  | .error f=> .error f
  | .ok a=>buildF (L.drop (i+1)) a:=by
 rw[List.drop_eq_getElem_cons hi];rfl
theorem ok_size {syn:Int}{v:ByteArray}(h:okV syn v=true):v.size≤1000:=by
 unfold okV at h;rw[decide_eq_true_iff]at h;unfold normL at h;split at h
 ·exact absurd h (by decide)
 ·split at h
  ·exact absurd h (by decide)
  ·rename_i h2;rw[←kt.size_len];omega
theorem bk_add1 {k:Nat}{e a:En}{n:List UInt8}{v:ByteArray}(h:Bk k e)(ha:addE e n [v]= .ok a):Bk (k+1) a:=by obtain⟨ty,h1,h2,h3,h4,_⟩:=add_ok ha;refine bk_add h (fun x hx=> ?_) ha;have:=ok_size (h4 x hx);omega
theorem vals_le {e:En}(h:rightE e=true): ∀a∈e.ats,a.vs.length≤20:=by
 intro a ha;have h1:=((atsF_iff _ _).1 (right_iff.1 h).2).1 a ha;unfold atOK at h1;cases hf:tyOf a.t with
 | none=>rw[hf]at h1;cases h1
 | some ty=>rw[hf]at h1;simp only[valsOK,Bool.and_eq_true,decide_eq_true_iff]at h1;have h2:=h1.1.2;unfold mostT at h2;split at h2<;>omega
theorem pairs_le {L:List At}{k:Nat}(h: ∀a∈L,a.vs.length≤k):(pairsV L).length≤L.length*k:=by
 induction L with
 | nil=>simp[pairsV]
 | cons a r ih=>have h1:=ih fun x hx=>h x (by simp[hx]);have h2:=h a (by simp);unfold pairsV at h1 ⊢;rw[List.flatMap_cons,List.length_append,List.length_map,List.length_cons,Nat.add_mul,Nat.one_mul];omega
end lbp
open Go.RowKit
namespace etw
open atp atw etp
open tupw (Strs strs_below)
def Fit (l:List ByteArray):Prop:= ∀v∈l,v.size≤140737488351232
def VB (w:World)(p:Nat)(v:ByteArray):Prop:=w.heap[p]? =some (.cells #[.string v] 9 (0,0))
theorem vb_new (w:World)(v:ByteArray):VB (w.alloc (.cells #[.string v] 9)) w.heap.size v:=heap_alloc_new w _
theorem vb_cell {w:World}{p:Nat}{v:ByteArray}(h:VB w p v):w.cell? ⟨p,0,none⟩=some (.string v):=by rw[Lib.cell_of_heap h];rfl
theorem vb_below {w w':World}{p:Nat}{v:ByteArray}(h:VB w p v)(hb:Below w.heap.size w w'):VB w' p v:=(hb.block p (kt.bld_lt h)).trans h
theorem equal_alike (nm:ByteArray)(syn:Int)(sg:Bool)(a b:ByteArray)(w:World)(ha:a.size≤140737488351232)(hb:b.size≤140737488351232)(hE:EnvE w):
  ∃er:Int,(alike syn a b=true→er=0)∧Calls Tryz.prog 148 #[.agg #[.string nm,.int .i64 syn,.bool sg],.string a,.string b] w fun e w'=>e= .returned (.tuple #[.bool (alike syn a b),.int .i64 er])∧Below w.heap.size w w':=
 ⟨_,fun h=>alike_err h,equal_any nm syn sg a b w ha hb (Lib.hid hE.e) (Lib.hid hE.t)⟩
theorem clo_any (nm:ByteArray)(syn:Int)(sg:Bool)(v s:ByteArray)(bt bv:Nat)(w:World)(hs:s.size≤140737488351232)(hv:v.size≤140737488351232)(hE:Hid (EnvE w))(hT:Hid (TB w bt nm syn sg))(hV:Hid (VB w bv v)):
  Calls Tryz.prog 147 #[.string s,.pointer (some ⟨bt,0,none⟩),.pointer (some ⟨bv,0,none⟩)] w fun e w'=>e= .returned (.bool (alike syn s v))∧Below w.heap.size w w':=by
 obtain⟨er,her,CE⟩:=equal_alike nm syn sg s v w hs hv hE.out;have HC:=Lib.hid CE;obtain⟨k0,k1,k2⟩:=tb_cells hT.out;have k3:=vb_cell hV.out;clear CE;cases hal:alike syn s v with
 | true=>have h0:=her hal;subst h0;rw[hal]at HC;clear her hal;go_enter Tryz.func147,Tryz.ntmps147;go_wp2_with fail;refine HC.out.mono ?_;rintro e w1 ⟨rfl,hB1⟩;have HB1:=Lib.hid hB1;clear hB1 k0 k1 k2 k3;go_wp2_with fail;go_ret;exact⟨rfl,HB1.out⟩
 | false=>rw[hal]at HC;clear her hal;go_enter Tryz.func147,Tryz.ntmps147;go_wp2_with fail;refine HC.out.mono ?_;rintro e w1 ⟨rfl,hB1⟩;have HB1:=Lib.hid hB1;clear hB1 k0 k1 k2 k3;go_wp2_with fail;go_ret;exact⟨rfl,HB1.out⟩
theorem idx_any (syn:Int)(v:ByteArray)(bt bv:Nat)(ao:Option Addr)(cap:Nat)(l:List ByteArray)(w:World)(hl:Hid (Strs w ao l))(hn:l.length≤1000000)
  (hF:Hid (∀W,∀x∈l,Below w.heap.size w W→Calls Tryz.prog 147 #[.string x,.pointer (some ⟨bt,0,none⟩),.pointer (some ⟨bv,0,none⟩)] W fun e w'=>e= .returned (.bool (alike syn x v))∧Below W.heap.size W w')):
  Calls Tryz.prog 146 #[.slice ao l.length cap,.func (.func 147) #[] #[.pointer (some ⟨bt,0,none⟩),.pointer (some ⟨bv,0,none⟩)]] w fun e w'=>e= .returned (.int .i64 (likeI syn l v))∧Below w.heap.size w w':=by
 obtain⟨N,hN⟩: ∃N,l.length=N:=⟨_,rfl⟩;have HN:=Lib.hid hN;rw[hN];rw[hN]at hn;clear hN;go_enter Tryz.func146,Tryz.ntmps146;go_wp2_with fail;go_loopw [8] (fun iv wr=> ∃i:Nat,i≤N∧iv= .int .i64 (i:Int)∧Hid (Below w.heap.size w wr)∧Hid (∀j (hj:j<l.length),j<i→alike syn l[j] v=false)) (fun iv _=>N- (intOf iv).toNat);case atStart=>exact⟨0,Nat.zero_le _,rfl,Below.refl _ _,fun j hj h=>absurd h (Nat.not_lt_zero _)⟩
 case round=>
  obtain⟨i,hi,rfl,hB,hJ⟩:=hrel;have hsz:=hB.out.size;by_cases hlt:i<N
  ·have hltI:(i:Int)<(N:Int):=(by omega);have hil:i<l.length:=(by rw[HN.out];exact hlt);obtain⟨b,o,hao,hc0⟩:=(strs_below hl.out hB.out) i hil;subst hao;have HF:=Lib.hid (hF.out wr l[i] (List.getElem_mem _) hB.out);obtain⟨x,hx⟩: ∃x,l[i]=x:=⟨_,rfl⟩;have HX:=Lib.hid hx;rw[hx]at HF hc0;clear hx;cases hal:alike syn x v with
   | true=>rw[hal]at HF;have HR:Hid (likeI syn l v=(i:Int)):=likeI_hit hil (by rw[HX.out];exact hal) hJ.out;clear hal;go_wp2_with (go_at_call 147;refine HF.out.mono ?_;rintro e w1 ⟨rfl,hB1⟩);go_ret;exact⟨kt.ret_int HR.out.symm,hB.out.trans (‹Below wr.heap.size wr _›.mono hsz)⟩
   | false=>
    rw[hal]at HF;have HJ:Hid (∀j (hj:j<l.length),j<i+1→alike syn l[j] v=false):=by
     intro j hj h;by_cases e:j=i
     ·subst e;rw[HX.out];exact hal
     ·exact hJ.out j hj (by omega)
    clear hal;go_wp2_with (go_at_call 147;refine HF.out.mono ?_;rintro e w1 ⟨rfl,hB1⟩);go_roundw;case rel=>exact⟨i+1,by omega,by go_num,hB.out.trans (‹Below wr.heap.size wr _›.mono hsz),HJ⟩
    case measure=>simp[intOf];omega
  ·obtain rfl:N=i:=(by omega);have HR:Hid (likeI syn l v= -1):=likeI_none fun j hj=>hJ.out j hj (by rw[←HN.out];exact hj);go_wp2_with fail;go_ret;exact⟨kt.ret_int HR.out.symm,hB.out⟩
theorem like_any (nm:ByteArray)(syn:Int)(sg:Bool)(ao:Option Addr)(cap:Nat)(l:List ByteArray)(v:ByteArray)(w:World)(hl:Hid (Strs w ao l))(hn:l.length≤1000000)(hf:Hid (Fit l))(hv:v.size≤140737488351232)(hE:Hid (EnvE w)):
  Calls Tryz.prog 89 #[.agg #[.string nm,.int .i64 syn,.bool sg],.slice ao l.length cap,.string v] w fun e w'=>e= .returned (.int .i64 (likeI syn l v))∧Below w.heap.size w w':=by
 obtain⟨W1,hW1⟩: ∃W,w.alloc (.cells #[.string nm,.int .i64 syn,.bool sg] 108)=W:=⟨_,rfl⟩;have hB1:Below w.heap.size w W1:=by rw[←hW1];exact(Below.refl _ _).alloc (Nat.le_refl _) _
 have hT1:TB W1 w.heap.size nm syn sg:=by rw[←hW1];exact tb_new w nm syn sg
 obtain⟨W2,hW2⟩: ∃W,W1.alloc (.cells #[.string v] 9)=W:=⟨_,rfl⟩;have hB2:Below W1.heap.size W1 W2:=by rw[←hW2];exact(Below.refl _ _).alloc (Nat.le_refl _) _
 have hV2:VB W2 W1.heap.size v:=by rw[←hW2];exact vb_new W1 v
 have hB12:=hB1.trans (hB2.mono hB1.size);have HB12:=Lib.hid hB12;have hT2:=tb_below hT1 hB2;have HF:Hid (Calls Tryz.prog 146 #[.slice ao l.length cap,.func (.func 147) #[] #[.pointer (some ⟨w.heap.size,0,none⟩),.pointer (some ⟨W1.heap.size,0,none⟩)]] W2 fun e w'=>e= .returned (.int .i64 (likeI syn l v))∧Below W2.heap.size W2 w'):=
  idx_any syn v w.heap.size W1.heap.size ao cap l W2 (Lib.hid (strs_below hl.out hB12)) hn (Lib.hid fun W x hx hb=>clo_any nm syn sg v x w.heap.size W1.heap.size W (hf.out x hx) hv (Lib.hid (envE_below (envE_below hE.out hB12) hb)) (Lib.hid (tb_below hT2 hb)) (Lib.hid (vb_below hV2 hb)))
 have hz:=hB12.size;clear hB1 hB2 hT1 hT2 hV2 hB12;obtain⟨N,hN⟩: ∃N,l.length=N:=⟨_,rfl⟩;rw[hN]at HF ⊢;clear hN;generalize likeI syn l v=r at HF ⊢;go_enter Tryz.func89,Tryz.ntmps89;go_wp2_with fail;refine HF.out.mono ?_;rintro e w3 ⟨rfl,hB3⟩;go_wp2_with fail;go_ret;exact⟨rfl,HB12.out.trans (hB3.mono hz)⟩
end etw
open Go.RowKit
namespace etw
open atp atw etp
open dnw (Av Avas)
open tupw (Strs strs_below)
theorem room_any (nm:ByteArray)(syn:Int)(sg:Bool)(w:World):Calls Tryz.prog 123 #[.agg #[.string nm,.int .i64 syn,.bool sg]] w fun e w'=>e= .returned (.int .i64 (mostT sg:Int))∧Below w.heap.size w w':=by
 have hB:Below w.heap.size w (w.alloc (.cells #[.string nm,.int .i64 syn,.bool sg] 108)):=(Below.refl _ _).alloc (Nat.le_refl _) _;have HB:=Lib.hid hB;clear hB;cases sg;all_goals
  go_enter Tryz.func123,Tryz.ntmps123;go_wp2_with fail;go_ret;exact⟨rfl,HB.out⟩
theorem rvals_any (nm:ByteArray)(syn:Int)(sg:Bool)(ao:Option Addr)(cap:Nat)(l:List ByteArray)(w:World)(hl:Hid (Strs w ao l))(hn:l.length≤100000)(hcap:l.length≤cap)(hf:Hid (Fit l))(hE:Hid (EnvE w)):
  Calls Tryz.prog 133 #[.agg #[.string nm,.int .i64 syn,.bool sg],.slice ao l.length cap] w fun e w'=>e= .returned (.bool (decide (1≤l.length)&&decide (l.length≤mostT sg)&&fresh syn [] l))∧Below w.heap.size w w':=by
 obtain⟨W1,hW1⟩: ∃W,w.alloc (.cells #[.string nm,.int .i64 syn,.bool sg] 108)=W:=⟨_,rfl⟩;have hB1:Below w.heap.size w W1:=by rw[←hW1];exact(Below.refl _ _).alloc (Nat.le_refl _) _
 have HT1:Hid (TB W1 w.heap.size nm syn sg):=by rw[←hW1];exact tb_new w nm syn sg
 obtain⟨k0,k1,k2⟩:=tb_cells HT1.out;have HB1:=Lib.hid hB1;have hs1:=hB1.size;clear hB1;obtain⟨N,hN⟩: ∃N,l.length=N:=⟨_,rfl⟩;have HN:=Lib.hid hN;rw[hN]at hn hcap;rw[hN];clear hN;have HR:=Lib.hid (fun w=>room_any nm syn sg w);have hm20:mostT sg≤20:=by unfold mostT;split<;>omega
 have HMS:Hid (∃M,mostT sg=M):=⟨_,rfl⟩;generalize mostT sg=M at HR hm20 ⊢;clear HMS;by_cases h1:1≤N
 ·have d1:decide ((N:Int)<1)=false:=decide_eq_false (by omega);have d1':decide (N<1)=false:=decide_eq_false (by omega);by_cases h2:N≤M
  ·have d2:decide (M<N)=false:=decide_eq_false (by omega);have HRES:Hid ((decide (1≤N)&&decide (N≤M)&&fresh syn [] l)=fresh syn [] l):=(by show _=_;rw[decide_eq_true h1,decide_eq_true h2];rfl);rw[HRES.out];clear HRES;go_enter Tryz.func133,Tryz.ntmps133;go_wp2_with fail;refine(HR.out _).mono ?_;rintro e w2 ⟨rfl,hB2⟩;have HB2:=Lib.hid hB2;have HT2:=Lib.hid (tb_below HT1.out hB2);have HB02:=Lib.hid (HB1.out.trans (hB2.mono hs1));have hs2:=HB02.out.size;clear hB2 k0 k1 k2 hW1;go_wp2_with fail;go_loopw [19] (fun iv wr=> ∃i:Nat,i≤N∧iv= .int .i64 (i:Int)∧Hid (Below w2.heap.size w2 wr)∧Hid (fresh syn [] l=fresh syn (l.take i) (l.drop i))) (fun iv _=>N- (intOf iv).toNat);case atStart=>exact⟨0,Nat.zero_le _,rfl,Below.refl _ _,rfl⟩
   case round=>
    obtain⟨i,hi,rfl,hB,hJ⟩:=hrel;have hsz:=hB.out.size;have HBw:=Lib.hid (HB02.out.trans (hB.out.mono hs2));have hszw:=HBw.out.size;obtain⟨n0,n1,n2⟩:=tb_cells (tb_below HT2.out hB.out);have hl1:=World.block_lt_of_cell? wr _ n0;by_cases hlt:i<N
    ·have hltI:(i:Int)<(N:Int):=(by omega);have hil:i<l.length:=(by rw[HN.out];exact hlt);have hic:i≤cap:=(by omega);have HSt:=Lib.hid (strs_below hl.out HBw.out);obtain⟨b,o,hao,hc0⟩:=HSt.out i hil;subst hao;have HFR:Hid (fresh syn (l.take i) (l.drop i)=(okV syn l[i]&&decide (likeI syn (l.take i) l[i]<0)&&fresh syn (l.take (i+1)) (l.drop (i+1)))):=(by show _=_;rw[List.drop_eq_getElem_cons hil,List.take_succ_eq_append_getElem hil];rfl);have HST:Hid (Strs wr (some ⟨b,o,none⟩) (l.take i)):=(by intro j hj;rw[List.length_take]at hj;obtain⟨b',o',e,hc⟩:=HSt.out j (by omega);rw[List.getElem_take];exact⟨b',o',e,hc⟩);have HFT:Hid (Fit (l.take i)):=fun v hv=>hf.out v (List.mem_of_mem_take hv);have hti:(l.take i).length=i:=(by rw[List.length_take];omega);have hxs:l[i].size≤140737488351232:=hf.out _ (List.getElem_mem _);obtain⟨x,hx⟩: ∃x,l[i]=x:=⟨_,rfl⟩;rw[hx]at HFR hc0 hxs;clear hx;have HEr:=Lib.hid (envE_below hE.out HBw.out);have HC:Hid (∀W,Below wr.heap.size wr W→Calls Tryz.prog 145 #[.agg #[.string nm,.int .i64 syn,.bool sg],.string x] W fun e w'=>e= .returned (.int .i64 (normL syn x.data.toList).2)∧Below W.heap.size W w'):=fun W hb=>check_any nm syn sg x W hxs (Lib.hid (envE_below HEr.out hb).e) (Lib.hid (envE_below HEr.out hb).t);have HK:Hid (∀W,Below wr.heap.size wr W→Calls Tryz.prog 89 #[.agg #[.string nm,.int .i64 syn,.bool sg],.slice (some ⟨b,o,none⟩) i cap,.string x] W fun e w'=>e= .returned (.int .i64 (likeI syn (l.take i) x))∧Below W.heap.size W w'):=fun W hb=>by have:=like_any nm syn sg (some ⟨b,o,none⟩) cap (l.take i) x W (Lib.hid (strs_below HST.out hb)) (by omega) HFT hxs (Lib.hid (envE_below HEr.out hb));rw[hti]at this;exact this
     have HOK:Hid (okV syn x=decide ((normL syn x.data.toList).2=0)):=rfl;clear hti hxs;generalize(normL syn x.data.toList).2=er at HC HOK;generalize likeI syn (l.take i) x=lk at HK HFR;by_cases her:er=0
     ·have q:(er !=0)=false:=(by rw[bne_eq_false_iff_eq];exact her);have HO1:Hid (okV syn x=true):=(by rw[HOK.out];exact decide_eq_true her);clear her;by_cases hlk:lk<0
      ·have q2:decide ((0:Int)≤lk)=false:=decide_eq_false (by omega);have HJ:Hid (fresh syn [] l=fresh syn (l.take (i+1)) (l.drop (i+1))):=(by show _=_;rw[hJ.out,HFR.out,HO1.out,decide_eq_true hlk];rfl);go_wp2_with fail;refine wp_region_held_drew (S:=fun W=>W.cell? ⟨w.heap.size,0,none⟩=some (.string nm)∧W.cell? ⟨w.heap.size,1,none⟩=some (.int .i64 syn)∧W.cell? ⟨w.heap.size,2,none⟩=some (.bool sg)) (by kernel_rfl) (⟨n0,n1,n2⟩) (fun hHeld=> ?_);refine tk 0 ⟨some 24,_,_,_,_,_⟩ rfl ?_;refine tk 1 ⟨some 25,_,_,_,_,_⟩ rfl ?_;refine etw.tc 2 ⟨some 26,_,_,_,_,_⟩ rfl (fun K hK=> ?_);go_simp;go_at_call 145;refine(HC.out _ ((Below.refl wr.heap.size wr).drew)).mono ?_;rintro e w5 ⟨rfl,hB5⟩;refine hK.out _ _ (⟨(hB5.cell (p:=⟨w.heap.size,0,none⟩) hl1).trans (n0),(hB5.cell (p:=⟨w.heap.size,1,none⟩) hl1).trans (n1),(hB5.cell (p:=⟨w.heap.size,2,none⟩) hl1).trans (n2)⟩) (fun hHeld=> ?_);clear hK;try simp only[Act.put,List.setIfInBounds_toArray,List.set_cons_zero,List.set_cons_succ]
       refine tk 3 ⟨some 27,_,_,_,_,_⟩ rfl ?_;refine tk 4 ⟨some 28,_,_,_,_,_⟩ rfl ?_;refine tk 5 ⟨some 29,_,_,_,_,_⟩ rfl ?_;refine tk 6 ⟨some 30,_,_,_,_,_⟩ rfl ?_;refine tk 7 ⟨some 31,_,_,_,_,_⟩ rfl ?_;refine tk 8 ⟨some 32,_,_,_,_,_⟩ rfl ?_;refine tk 9 ⟨some 33,_,_,_,_,_⟩ rfl ?_;refine etw.tc 10 ⟨some 34,_,_,_,_,_⟩ rfl (fun K hK=> ?_);go_simp;go_at_call 89;refine(HK.out _ (((Below.refl wr.heap.size wr).drew).trans hB5)).mono ?_;rintro e w6 ⟨rfl,hB6⟩;refine hK.out _ _ (⟨(hB6.cell (p:=⟨w.heap.size,0,none⟩) (Nat.lt_of_lt_of_le hl1 hB5.size)).trans ((hB5.cell (p:=⟨w.heap.size,0,none⟩) hl1).trans (n0)),(hB6.cell (p:=⟨w.heap.size,1,none⟩) (Nat.lt_of_lt_of_le hl1 hB5.size)).trans ((hB5.cell (p:=⟨w.heap.size,1,none⟩) hl1).trans (n1)),(hB6.cell (p:=⟨w.heap.size,2,none⟩) (Nat.lt_of_lt_of_le hl1 hB5.size)).trans ((hB5.cell (p:=⟨w.heap.size,2,none⟩) hl1).trans (n2))⟩) (fun hHeld=> ?_);clear hK;try simp only[Act.put,List.setIfInBounds_toArray,List.set_cons_zero,List.set_cons_succ]
       refine tk 11 ⟨some 35,_,_,_,_,_⟩ rfl ?_;refine tk 12 ⟨some 36,_,_,_,_,_⟩ rfl ?_;refine wpAnyH_done (by kernel_rfl) ?_ _;have HB6:=Lib.hid (hB.out.trans ((((Below.refl wr.heap.size wr).drew.trans hB5).trans (hB6.mono hB5.size)).mono hsz));clear hB5 hB6 hHeld n0 n1 n2 hc0;go_wp2_with fail;go_roundw;case rel=>exact⟨i+1,by omega,by go_num,HB6,HJ⟩
       case measure=>simp[intOf];omega
      ·have q2:decide ((0:Int)≤lk)=true:=decide_eq_true (by omega);have HJ:Hid (fresh syn [] l=false):=(by show _=_;rw[hJ.out,HFR.out,decide_eq_false hlk,Bool.and_false,Bool.false_and]);go_wp2_with fail;refine wp_region_held_drew (S:=fun W=>W.cell? ⟨w.heap.size,0,none⟩=some (.string nm)∧W.cell? ⟨w.heap.size,1,none⟩=some (.int .i64 syn)∧W.cell? ⟨w.heap.size,2,none⟩=some (.bool sg)) (by kernel_rfl) (⟨n0,n1,n2⟩) (fun hHeld=> ?_);refine tk 0 ⟨some 24,_,_,_,_,_⟩ rfl ?_;refine tk 1 ⟨some 25,_,_,_,_,_⟩ rfl ?_;refine etw.tc 2 ⟨some 26,_,_,_,_,_⟩ rfl (fun K hK=> ?_);go_simp;go_at_call 145;refine(HC.out _ ((Below.refl wr.heap.size wr).drew)).mono ?_;rintro e w5 ⟨rfl,hB5⟩;refine hK.out _ _ (⟨(hB5.cell (p:=⟨w.heap.size,0,none⟩) hl1).trans (n0),(hB5.cell (p:=⟨w.heap.size,1,none⟩) hl1).trans (n1),(hB5.cell (p:=⟨w.heap.size,2,none⟩) hl1).trans (n2)⟩) (fun hHeld=> ?_);clear hK;try simp only[Act.put,List.setIfInBounds_toArray,List.set_cons_zero,List.set_cons_succ]
       refine tk 3 ⟨some 27,_,_,_,_,_⟩ rfl ?_;refine tk 4 ⟨some 28,_,_,_,_,_⟩ rfl ?_;refine tk 5 ⟨some 29,_,_,_,_,_⟩ rfl ?_;refine tk 6 ⟨some 30,_,_,_,_,_⟩ rfl ?_;refine tk 7 ⟨some 31,_,_,_,_,_⟩ rfl ?_;refine tk 8 ⟨some 32,_,_,_,_,_⟩ rfl ?_;refine tk 9 ⟨some 33,_,_,_,_,_⟩ rfl ?_;refine etw.tc 10 ⟨some 34,_,_,_,_,_⟩ rfl (fun K hK=> ?_);go_simp;go_at_call 89;refine(HK.out _ (((Below.refl wr.heap.size wr).drew).trans hB5)).mono ?_;rintro e w6 ⟨rfl,hB6⟩;refine hK.out _ _ (⟨(hB6.cell (p:=⟨w.heap.size,0,none⟩) (Nat.lt_of_lt_of_le hl1 hB5.size)).trans ((hB5.cell (p:=⟨w.heap.size,0,none⟩) hl1).trans (n0)),(hB6.cell (p:=⟨w.heap.size,1,none⟩) (Nat.lt_of_lt_of_le hl1 hB5.size)).trans ((hB5.cell (p:=⟨w.heap.size,1,none⟩) hl1).trans (n1)),(hB6.cell (p:=⟨w.heap.size,2,none⟩) (Nat.lt_of_lt_of_le hl1 hB5.size)).trans ((hB5.cell (p:=⟨w.heap.size,2,none⟩) hl1).trans (n2))⟩) (fun hHeld=> ?_);clear hK;try simp only[Act.put,List.setIfInBounds_toArray,List.set_cons_zero,List.set_cons_succ]
       refine tk 11 ⟨some 35,_,_,_,_,_⟩ rfl ?_;refine tk 12 ⟨some 36,_,_,_,_,_⟩ rfl ?_;refine wpAnyH_done (by kernel_rfl) ?_ _;have HB6:=Lib.hid (HBw.out.trans ((((Below.refl wr.heap.size wr).drew.trans hB5).trans (hB6.mono hB5.size)).mono hszw));clear hB5 hB6 hHeld n0 n1 n2 hc0;go_wp2_with fail;go_ret;exact⟨kt.ret_bool HJ.out.symm,HB6.out⟩
     ·have q:(er !=0)=true:=(by rw[bne_iff_ne];exact her);have HJ:Hid (fresh syn [] l=false):=(by show _=_;rw[hJ.out,HFR.out,HOK.out,decide_eq_false her];rfl);clear her;go_wp2_with fail;refine wp_region_held_drew (S:=fun W=>W.cell? ⟨w.heap.size,0,none⟩=some (.string nm)∧W.cell? ⟨w.heap.size,1,none⟩=some (.int .i64 syn)∧W.cell? ⟨w.heap.size,2,none⟩=some (.bool sg)) (by kernel_rfl) (⟨n0,n1,n2⟩) (fun hHeld=> ?_);refine tk 0 ⟨some 24,_,_,_,_,_⟩ rfl ?_;refine tk 1 ⟨some 25,_,_,_,_,_⟩ rfl ?_;refine etw.tc 2 ⟨some 26,_,_,_,_,_⟩ rfl (fun K hK=> ?_);go_simp;go_at_call 145;refine(HC.out _ ((Below.refl wr.heap.size wr).drew)).mono ?_;rintro e w5 ⟨rfl,hB5⟩;refine hK.out _ _ (⟨(hB5.cell (p:=⟨w.heap.size,0,none⟩) hl1).trans (n0),(hB5.cell (p:=⟨w.heap.size,1,none⟩) hl1).trans (n1),(hB5.cell (p:=⟨w.heap.size,2,none⟩) hl1).trans (n2)⟩) (fun hHeld=> ?_);clear hK;try simp only[Act.put,List.setIfInBounds_toArray,List.set_cons_zero,List.set_cons_succ]
      refine tk 3 ⟨some 27,_,_,_,_,_⟩ rfl ?_;refine tk 4 ⟨some 28,_,_,_,_,_⟩ rfl ?_;refine tu 5 ⟨some 29,_,_,_,_,_⟩ rfl ?_;refine tu 6 ⟨some 30,_,_,_,_,_⟩ rfl ?_;refine tu 7 ⟨some 31,_,_,_,_,_⟩ rfl ?_;refine tu 8 ⟨some 32,_,_,_,_,_⟩ rfl ?_;refine tu 9 ⟨some 33,_,_,_,_,_⟩ rfl ?_;refine tu 10 ⟨some 34,_,_,_,_,_⟩ rfl ?_;refine tu 11 ⟨some 35,_,_,_,_,_⟩ rfl ?_;refine tk 12 ⟨some 36,_,_,_,_,_⟩ rfl ?_;refine wpAnyH_done (by kernel_rfl) ?_ _;have HB5:=Lib.hid (HBw.out.trans (((Below.refl wr.heap.size wr).drew.trans hB5).mono hszw));clear hB5 hHeld n0 n1 n2 hc0;go_wp2_with fail;go_ret;exact⟨kt.ret_bool HJ.out.symm,HB5.out⟩
    ·obtain rfl:N=i:=(by omega);have HJ:Hid (fresh syn [] l=true):=(by show _=_;rw[hJ.out,←HN.out,List.drop_length];rfl);go_wp2_with fail;go_ret;exact⟨kt.ret_bool HJ.out.symm,HBw.out⟩
  ·have d2:decide (M<N)=true:=decide_eq_true (by omega);have HRES:Hid ((decide (1≤N)&&decide (N≤M)&&fresh syn [] l)=false):=(by show _=_;rw[decide_eq_false h2,Bool.and_false,Bool.false_and]);go_enter Tryz.func133,Tryz.ntmps133;go_wp2_with fail;refine(HR.out _).mono ?_;rintro e w2 ⟨rfl,hB2⟩;have HB02:=Lib.hid (HB1.out.trans (hB2.mono hs1));clear hB2 k0 k1 k2 hW1;go_wp2_with fail;go_ret;exact⟨kt.ret_bool HRES.out.symm,HB02.out⟩
 ·have d1:decide ((N:Int)<1)=true:=decide_eq_true (by omega);have d1':decide (N<1)=true:=decide_eq_true (by omega);have HRES:Hid ((decide (1≤N)&&decide (N≤M)&&fresh syn [] l)=false):=by show _=_;rw[decide_eq_false h1];rfl
  obtain rfl:N=0:=by omega
  clear h1;go_enter Tryz.func133,Tryz.ntmps133;go_wp2_with fail;go_ret;exact⟨kt.ret_bool HRES.out.symm,HB1.out⟩
end etw
open Go.RowKit
namespace dnw
open dnp
theorem dkey_any (ao:Option Addr)(cap:Nat)(l:List Av)(w:World)(hA:Hid (Avas w ao l))(hE:Hid (prw.Env w))(hT:Hid (Tabs w))(hS:Hid (l.length≤4→Smalls l))(hc:l.length≤cap):
  Calls Tryz.prog 132 #[.slice ao l.length cap] w fun e w'=>KeyE l e∧Below w.heap.size w w':=by
 have CR:=rightRdn_any ao cap l w hA hE hS hc;have CK:rdnOK l=true→Hid (∀W,Below w.heap.size w W→Calls Tryz.prog 191 #[.slice ao l.length cap] W fun e w'=>e= .returned (.string (bytes (keyL l)))∧Below W.heap.size W w'):=fun h W hb=>key_any ao cap l W (Lib.hid (avas_below hA.out hb)) (Lib.hid (prw.env_below hE.out hb)) (Lib.hid (tabs_below hT.out hb)) h;obtain⟨m,hm⟩: ∃m,m=l.length:=⟨_,rfl⟩;rw[←hm]at CR CK ⊢;clear hm hc;cases hok:rdnOK l with
 | false=>rw[hok]at CR;have HC:=Lib.hid CR;have HN:=Lib.hid (keyE_no hok);clear CR CK hok;go_enter Tryz.func132,Tryz.ntmps132;go_wp2_with fail;refine HC.out.mono ?_;rintro e w1 ⟨rfl,hB1⟩;go_wp2_with fail;go_ret2;exact⟨HN.out,hB1⟩
 | true=>rw[hok]at CR;have HC:=Lib.hid CR;have HN:=Lib.hid (keyE_yes hok);have HK:=CK hok;clear CR CK hok;go_enter Tryz.func132,Tryz.ntmps132;go_wp2_with fail;refine HC.out.mono ?_;rintro e w1 ⟨rfl,hB1⟩;have HK1:=Lib.hid (HK.out w1 hB1);go_wp2_with fail;refine HK1.out.mono ?_;rintro e w2 ⟨rfl,hB2⟩;go_wp2_with fail;go_ret2;exact⟨HN.out,hB1.trans (hB2.mono hB1.size)⟩
end dnw
end Go.Proofs.YtmnpfkbjpeaemaaGreatDoor
