/- One text out of several: PrintP, PrintQ, TupP, KeyP, Trim, TupW, DPrintW, KeyW, KeysW, LdLdifP, LdPlain2, LdPairP, LdParseP. -/
import Derived.Test.YtmnpfkbjpeaemaaGreatDoorS4
import Derived.Lib.Replace
import Derived.Lib.CountLaws
import Derived.Test.YtmnpfkbjpeaemaaGreatDoorS3
import Derived.Test.YtmnpfkbjpeaemaaGreatDoorS1
import Derived.Sort.OwnSorted
import Derived.Lib.Hide
import Derived.Lib.Bytealg
set_option linter.unusedVariables false
set_option linter.unusedSimpArgs false
set_option maxRecDepth 20000
set_option maxHeartbeats 4000000
namespace Go.Proofs.YtmnpfkbjpeaemaaGreatDoor
namespace dnw
open dnp
def hexed (c:UInt8):Bool:=decide (c<32∨c=127)
def fenced (first last:Bool)(c:UInt8):Bool:=special c||(decide (c=32)&&(first||last))||(decide (c=35)&&first)
def textB (first last:Bool)(c:UInt8):List UInt8:=if hexed c=true then 92::b64p.hex [c]else if fenced first last c=true then[92,c]else[c]
def textF:Bool→List UInt8→List UInt8
 | _,[]=>[]
 | f,c::t=>textB f t.isEmpty c++textF false t
def textL (v:List UInt8):List UInt8:=textF true v
def sgB (first last:Bool)(c:UInt8):Sg:=(c,!(hexed c||fenced first last c))
def sgF:Bool→List UInt8→List Sg
 | _,[]=>[]
 | f,c::t=>sgB f t.isEmpty c::sgF false t
theorem textB_len (f l:Bool)(c:UInt8):(textB f l c).length≤3:=by
 unfold textB;split
 ·simp[b64p.hex]
 ·split<;>simp
theorem textF_len: ∀ (f:Bool) (v:List UInt8),(textF f v).length≤3*v.length
 | _,[]=>by simp[textF]
 | f,c::t=>by have:=textB_len f t.isEmpty c;have:=textF_len false t;simp only[textF,List.length_append,List.length_cons];omega
theorem esc_hexed (c:UInt8)(r:List UInt8):esc (b64p.hex [c]++r)=some (c,2):=by
 have all: ∀m:Fin 256,(special (b64p.dg (m.val / 16))||decide (b64p.dg (m.val / 16)=35)||decide (b64p.dg (m.val / 16)=32))=false∧(0≤b64p.valI (b64p.dg (m.val / 16))∧0≤b64p.valI (b64p.dg (m.val % 16)))∧UInt8.ofNat (16*b64p.valI (b64p.dg (m.val / 16))+b64p.valI (b64p.dg (m.val % 16))).toNat=UInt8.ofNat m.val:=by decide+kernel
 obtain⟨h1,⟨h2,h3⟩,h4⟩:=all ⟨c.toNat,c.toNat_lt⟩;simp only[UInt8.ofNat_toNat]at h1 h2 h3 h4;have hp: ¬plainEsc (b64p.dg (c.toNat / 16)):=by
  rintro(h | h | h)
  ·rw[h]at h1;cases h1
  ·rw[h]at h1;revert h1;decide
  ·rw[h]at h1;revert h1;decide
 have:=esc_hex (t:=r) hp (e:=b64p.dg (c.toNat % 16)) (by omega);rw[h4]at this;exact this
theorem fenced_plain {f l:Bool}{c:UInt8}(h:fenced f l c=true):plainEsc c:=by
 unfold fenced at h;simp only[Bool.or_eq_true,Bool.and_eq_true,decide_eq_true_eq]at h;rcases h with(h | h) | h
 ·exact Or.inl h
 ·exact Or.inr (Or.inr h.1)
 ·exact Or.inr (Or.inl h.1)
theorem scan_textB (f l:Bool)(c:UInt8)(r:List UInt8):scan (textB f l c++r)=(scan r).map fun p=>(sgB f l c::p.1,p.2):=by
 unfold textB sgB;by_cases h1:hexed c=true
 ·rw[if_pos h1,h1,List.cons_append,scan_esc _ c 2 (esc_hexed c r)];rfl
 ·rw[if_neg h1];have h1':hexed c=false:=by simpa using h1
  rw[h1'];by_cases h2:fenced f l c=true
  ·rw[if_pos h2,h2];show scan (92::(c::r))=_;rw[scan_esc _ c 1 (esc_plain (fenced_plain h2))];rfl
  ·rw[if_neg h2];have h2':fenced f l c=false:=(by simpa using h2);rw[h2'];have hs:special c=false:=(by unfold fenced at h2';simp only[Bool.or_eq_false_iff]at h2';exact h2'.1.1);have h3:isSep c=false∧bad c=false∧c≠92:=by
    unfold special at hs;simp only[decide_eq_false_iff_not,not_or]at hs;refine⟨?_,?_,hs.2.2.2.2.2.2.2⟩
    ·simp only[isSep,decide_eq_false_iff_not,not_or];exact⟨hs.2.2.1,hs.2.2.2.1,hs.2.1⟩
    ·simp only[bad,decide_eq_false_iff_not,not_or];exact⟨hs.1,hs.2.2.2.2.1,hs.2.2.2.2.2.2.1⟩
   show scan (c::r)=_;rw[scan_bare c r h3.1 h3.2.1 h3.2.2];rfl
theorem scan_textF: ∀ (f:Bool) (v r:List UInt8),scan (textF f v++r)=(scan r).map fun p=>(sgF f v++p.1,p.2)
 | _,[],r=>by simp[textF,sgF]
 | f,c::t,r=>by rw[textF,List.append_assoc,scan_textB,scan_textF false t r,Option.map_map];rfl
theorem sgF_fst: ∀ (f:Bool) (v:List UInt8),(sgF f v).map (·.1)=v
 | _,[]=>rfl
 | f,c::t=>by rw[sgF,List.map_cons,sgF_fst false t];rfl
theorem sgF_last: ∀ (f:Bool) (c:UInt8) (t:List UInt8),∃A x,sgF f (c::t)=A++[x]∧blankS x=false
 | f,c,[]=>by
  refine⟨[],sgB f true c,rfl,?_⟩;unfold blankS sgB fenced;by_cases h:c=32
  ·subst h;simp
  ·simp[h]
 | f,c,d::t=>by obtain⟨A,x,h1,h2⟩:=sgF_last false d t;refine⟨sgB f false c::A,x,?_,h2⟩;rw[sgF,h1];rfl
theorem trimR_keepall (A u:List Sg)(x:Sg)(hx:blankS x=false)(hu: ∀y∈u,blankS y=true):trimR (A++[x]++u)=A++[x]:=by unfold trimR;rw[List.reverse_append,dropW_app _ u.reverse _ (fun y hy=>hu y (List.mem_reverse.1 hy)),dropW_id,List.reverse_reverse];intro y t h;rw[List.reverse_append]at h;cases h;exact hx
theorem scan_blanks: ∀ (u r:List UInt8),(∀c∈u,c=32)→scan (u++r)=(scan r).map fun p=>(u.map (·,true)++p.1,p.2)
 | [],r,_=>by simp
 | c::u,r,h=>by have hc:=h c (by simp);subst hc;rw[List.cons_append,scan_bare 32 _ (by decide) (by decide) (by decide),scan_blanks u r (fun d hd=>h d (by simp[hd])),Option.map_map];rfl
theorem textF_head (c:UInt8)(t:List UInt8): ∃d s,textF true (c::t)=d::s∧d≠32∧d≠35:=by
 rw[textF];unfold textB;by_cases h1:hexed c=true
 ·rw[if_pos h1];exact⟨92,_,rfl,by decide,by decide⟩
 ·rw[if_neg h1];by_cases h2:fenced true t.isEmpty c=true
  ·rw[if_pos h2];exact⟨92,_,rfl,by decide,by decide⟩
  ·rw[if_neg h2];refine⟨c,_,rfl,?_,?_⟩
   ·rintro rfl;apply h2;simp[fenced]
   ·rintro rfl;apply h2;simp[fenced]
def EndSep (r:List UInt8):Prop:=r=[]∨ ∃c t,r=c::t∧isSep c=true
theorem endSep_scan {r:List UInt8}(h:EndSep r):scan r=some ([],r):=by
 rcases h with rfl | ⟨c,t,rfl,h⟩
 ·exact scan_nil
 ·exact scan_sep c t h
theorem sep_ne {c:UInt8}(h:isSep c=true):c≠32∧c≠35:=by constructor<;>(rintro rfl;revert h;decide)
theorem value_text (z v u r:List UInt8)(hz: ∀c∈z,c=32)(hu: ∀c∈u,c=32)(hr:EndSep r):valueP (z++(textL v++(u++r)))=some (v,r):=by
 have hub: ∀y∈u.map (fun c=>((c,true):Sg)),blankS y=true:=by intro y hy;obtain⟨c,hc,rfl⟩:=List.mem_map.1 hy;rw[hu c hc];decide
 unfold valueP;rw[dropW_app _ z _ (fun c hc=>by simp[hz c hc])];cases v with
 | nil=>
  have e:(textL []++(u++r)).dropWhile (fun c=>decide (c=32))=r:=by
   show(u++r).dropWhile _=r;rw[dropW_app _ u _ (fun c hc=>by simp[hu c hc]),dropW_id];intro x t hx;rcases hr with rfl | ⟨c,t',rfl,h⟩
   ·cases hx
   ·cases hx;simpa using(sep_ne h).1
  rw[e,if_neg,endSep_scan hr]
  ·rfl
  ·rcases hr with rfl | ⟨c,t',rfl,h⟩
   ·simp
   ·simpa using(sep_ne h).2
 | cons c t=>
  obtain⟨d,s,hd,h32,h35⟩:=textF_head c t;have e:(textL (c::t)++(u++r)).dropWhile (fun c=>decide (c=32))=textL (c::t)++(u++r):=by rw[dropW_id];intro x t' hx;unfold textL at hx;rw[hd]at hx;cases hx;simpa using h32
  rw[e,if_neg]
  ·unfold textL;rw[scan_textF,scan_blanks u r hu,endSep_scan hr];simp only[Option.map_some,List.append_nil];obtain⟨A,x,h1,h2⟩:=sgF_last true c t;have h3:=sgF_fst true (c::t);rw[h1]at h3 ⊢;rw[trimR_keepall A _ x h2 hub,h3]
  ·unfold textL;rw[hd];simpa using h35
theorem av_back (a:Av):av (a.t.data.toList,a.v.data.toList)=a:=by unfold av;cases a with | mk t v=>simp
section
variable (U : List UInt8 → List UInt8) (b : List UInt8) (s2 : UInt8)
def pt (a:Av):List UInt8:=U a.t.data.toList++(b++61::(b++textL a.v.data.toList))
def tailR (r:List Av):List UInt8:=r.flatMap fun a=>b++43::(b++pt U b a)
def rdnT:List Av→List UInt8
 | []=>[]
 | a::r=>pt U b a++tailR U b r
def tailN (m:List (List Av)):List UInt8:=m.flatMap fun l=>b++s2::(b++rdnT U b l)
def nameT:List (List Av)→List UInt8
 | []=>[]
 | l::m=>rdnT U b l++tailN U b s2 m
end
def TyAs (U:List UInt8→List UInt8)(a:Av):Prop:=lowL (U a.t.data.toList)=a.t.data.toList∧typeOK a.t.data.toList=true
theorem kind_text {U:List UInt8→List UInt8}{a:Av}(h:TyAs U a){b pre:List UInt8}(hb: ∀c∈b,c=32)(hp: ∀c∈pre,c=32)(r:List UInt8):kindP (pre++(U a.t.data.toList++(b++61::r)))=some (a.t.data.toList,r):=by have:=kindP_of pre (U a.t.data.toList) b r hp hb (by rw[h.1];exact h.2);rw[h.1]at this;rw[←this];simp
theorem GP_text {U:List UInt8→List UInt8}{b:List UInt8}{s2:UInt8}(hb: ∀c∈b,c=32)(hs:isSep s2=true)(h43:s2≠43):
  ∀ (m:List (List Av)) (r:List Av) (ns:List (List Av)) (cur:List Av) (a:Av) (pre:List UInt8),(∀c∈pre,c=32)→(∀x∈a::r,TyAs U x)→(∀l∈m,l≠[]∧ ∀x∈l,TyAs U x)→
   GP ns cur (pre++(pt U b a++(tailR U b r++tailN U b s2 m)))=some (ns++(cur++a::r)::m):=by
 intro m;induction m with
 | nil=>
  intro r;induction r with
  | nil=>intro ns cur a pre hp ha _;have hk:=kind_text (ha a (by simp)) hb hp (b++(textL a.v.data.toList++([]++[])));have hv:=value_text b a.v.data.toList [] [] hb (by simp) (Or.inl rfl);have e:pre++(pt U b a++(tailR U b []++tailN U b s2 []))=pre++(U a.t.data.toList++(b++61::(b++(textL a.v.data.toList++([]++[]))))):=(by simp[pt,tailR,tailN]);rw[e,GP_end hk hv,av_back]
  | cons a' r ih=>intro ns cur a pre hp ha hm;have hk:=kind_text (ha a (by simp)) hb hp (b++(textL a.v.data.toList++(b++43::(b++(pt U b a'++(tailR U b r++tailN U b s2 []))))));have hv:=value_text b a.v.data.toList b (43::(b++(pt U b a'++(tailR U b r++tailN U b s2 [])))) hb hb (Or.inr ⟨43,_,rfl,by decide⟩);have e:pre++(pt U b a++(tailR U b (a'::r)++tailN U b s2 []))=pre++(U a.t.data.toList++(b++61::(b++(textL a.v.data.toList++(b++43::(b++(pt U b a'++(tailR U b r++tailN U b s2 [])))))))):=(by simp[pt,tailR,tailN]);rw[e,GP_plus hk hv,av_back,ih _ _ a' b hb (fun x hx=>ha x (by simp only[List.mem_cons]at hx ⊢;exact Or.inr hx)) hm];simp
 | cons l m ihm=>
  intro r;induction r with
  | nil=>intro ns cur a pre hp ha hm;obtain⟨hl,hlx⟩:=hm l (by simp);obtain⟨a',r',rfl⟩:=List.exists_cons_of_ne_nil hl;have hk:=kind_text (ha a (by simp)) hb hp (b++(textL a.v.data.toList++(b++s2::(b++(pt U b a'++(tailR U b r'++tailN U b s2 m))))));have hv:=value_text b a.v.data.toList b (s2::(b++(pt U b a'++(tailR U b r'++tailN U b s2 m)))) hb hb (Or.inr ⟨s2,_,rfl,hs⟩);have e:pre++(pt U b a++(tailR U b []++tailN U b s2 ((a'::r')::m)))=pre++(U a.t.data.toList++(b++61::(b++(textL a.v.data.toList++(b++s2::(b++(pt U b a'++(tailR U b r'++tailN U b s2 m)))))))):=(by simp[pt,tailR,tailN,rdnT]);rw[e,GP_next hk hv h43,av_back,ihm r' _ [] a' b hb hlx (fun l hl=>hm l (by simp[hl]))];simp
  | cons a' r ih=>intro ns cur a pre hp ha hm;have hk:=kind_text (ha a (by simp)) hb hp (b++(textL a.v.data.toList++(b++43::(b++(pt U b a'++(tailR U b r++tailN U b s2 (l::m)))))));have hv:=value_text b a.v.data.toList b (43::(b++(pt U b a'++(tailR U b r++tailN U b s2 (l::m))))) hb hb (Or.inr ⟨43,_,rfl,by decide⟩);have e:pre++(pt U b a++(tailR U b (a'::r)++tailN U b s2 (l::m)))=pre++(U a.t.data.toList++(b++61::(b++(textL a.v.data.toList++(b++43::(b++(pt U b a'++(tailR U b r++tailN U b s2 (l::m))))))))):=(by simp[pt,tailR,tailN]);rw[e,GP_plus hk hv,av_back,ih _ _ a' b hb (fun x hx=>ha x (by simp only[List.mem_cons]at hx ⊢;exact Or.inr hx)) hm];simp
theorem parse_text {U:List UInt8→List UInt8}{b:List UInt8}{s2:UInt8}(hb: ∀c∈b,c=32)(hs:isSep s2=true)(h43:s2≠43)(n:List (List Av))(hn:nameOK n=true)(hne: ∀l∈n,l≠[]∧ ∀x∈l,TyAs U x):parseR (nameT U b s2 n)=some n:=by
 cases n with
 | nil=>rfl
 | cons l m=>
  obtain⟨hl,hlx⟩:=hne l (by simp);obtain⟨a,r,rfl⟩:=List.exists_cons_of_ne_nil hl;have hg:=GP_text hb hs h43 m r [] [] a [] (by simp) hlx (fun l hl=>hne l (by simp[hl]));simp only[List.nil_append]at hg;have e:nameT U b s2 ((a::r)::m)=pt U b a++(tailR U b r++tailN U b s2 m):=by simp[nameT,rdnT]
  rw[←e]at hg;unfold parseR;have hd:GP [] [] ((nameT U b s2 ((a::r)::m)).dropWhile fun c=>decide (c=32))=some ((a::r)::m):=by rw[←hg];unfold GP;rw[P_drop]
  rw[if_neg]
  ·rw[hd];simp only[hn,if_true]
  ·intro h0;rw[h0]at hd;rw[GP_kind (l:=[]) rfl]at hd;cases hd
end dnw
namespace dnw
open dnp
theorem rdnOK_facts {l:List Av}(h:rdnOK l=true):1≤l.length∧l.length≤4∧ ∀i (hi:i<l.length),pairB l i l[i]=true:=by unfold rdnOK at h;simp only[Bool.and_eq_true,decide_eq_true_eq]at h;refine⟨h.1.1,h.1.2,fun i hi=> ?_⟩;have:=List.all_eq_true.1 h.2 i (List.mem_range.2 hi);rw[List.getElem?_eq_getElem hi]at this;exact this
theorem rdnOK_av {l:List Av}(h:rdnOK l=true): ∀x∈l,typeOK x.t.data.toList=true∧valOK x.v.data.toList=true:=by intro x hx;obtain⟨i,hi,rfl⟩:=List.mem_iff_getElem.1 hx;have:=(rdnOK_facts h).2.2 i hi;unfold pairB at this;simp only[Bool.and_eq_true]at this;exact⟨this.1.2,this.2⟩
theorem nameOK_facts {n:List (List Av)}(h:nameOK n=true):n.length≤12∧ ∀l∈n,rdnOK l=true:=by unfold nameOK at h;simp only[Bool.and_eq_true,decide_eq_true_eq]at h;exact⟨h.1,fun l hl=>List.all_eq_true.1 h.2 l hl⟩
theorem valOK_le {v:List UInt8}(h:valOK v=true):v.length≤255:=by unfold valOK at h;simp only[Bool.and_eq_true,decide_eq_true_eq]at h;exact h.1
theorem typeOK_le {t:List UInt8}(h:typeOK t=true):t.length≤32:=by unfold typeOK at h;simp only[Bool.and_eq_true,decide_eq_true_eq]at h;exact h.1.2
theorem low_type: ∀c:UInt8,typeCh c=true→low c=c:=by
 have all: ∀m:Fin 256,(!typeCh (UInt8.ofNat m.val)||decide (low (UInt8.ofNat m.val)=UInt8.ofNat m.val))=true:=by decide+kernel
 intro c h;have:=all ⟨c.toNat,c.toNat_lt⟩;simp only[UInt8.ofNat_toNat,h,Bool.not_true,Bool.false_or,decide_eq_true_eq]at this;exact this
theorem lowL_type {t:List UInt8}(h:typeOK t=true):lowL t=t:=by
 unfold typeOK at h;simp only[Bool.and_eq_true]at h;unfold lowL;conv=>rhs;rw[←List.map_id t]
 apply List.map_congr_left;intro c hc;exact low_type c (List.all_eq_true.1 h.2 c hc)
theorem tyAs_id {a:Av}(h:typeOK a.t.data.toList=true):TyAs id a:=⟨lowL_type h,h⟩
def ptx (a:Av):List UInt8:=a.t.data.toList++61::textL a.v.data.toList
def rdnX (l:List Av):List UInt8:=Lib.join (l.map ptx) [43]
def nameX (n:List (List Av)):List UInt8:=Lib.join (n.map rdnX) [44]
theorem rdnX_cons (a:Av)(r:List Av):rdnX (a::r)=ptx a++r.flatMap fun a=>43::ptx a:=by unfold rdnX;rw[List.map_cons,Lib.join_cons,Lib.joinTail,List.map_map,List.flatMap_def];rfl
theorem nameX_cons (l:List Av)(m:List (List Av)):nameX (l::m)=rdnX l++m.flatMap fun l=>44::rdnX l:=by unfold nameX;rw[List.map_cons,Lib.join_cons,Lib.joinTail,List.map_map,List.flatMap_def];rfl
theorem rdnT_id (l:List Av):rdnT id [] l=rdnX l:=by
 cases l with
 | nil=>rfl
 | cons a r=>rw[rdnX_cons];rfl
theorem nameT_id (n:List (List Av)):nameT id [] 44 n=nameX n:=by
 cases n with
 | nil=>rfl
 | cons l m=>rw[nameX_cons];show rdnT id [] l++m.flatMap (fun l=>44::rdnT id [] l)=_;rw[rdnT_id];congr 2;funext l;rw[rdnT_id]
def printR (n:List (List Av)):List UInt8 × Nat:=if nameOK n=true then(if 1000<(nameX n).length then([],5)else(nameX n,0))else([],4)
theorem parse_print (n:List (List Av))(h:nameOK n=true):parseR (nameX n)=some n:=by rw[←nameT_id];refine parse_text (by simp) (by decide) (by decide) n h fun l hl=> ?_;have hr:=(nameOK_facts h).2 l hl;refine⟨?_,fun x hx=>tyAs_id (rdnOK_av hr x hx).1⟩;rintro rfl;have:=(rdnOK_facts hr).1;simp at this
theorem ptx_len {a:Av}(h1:typeOK a.t.data.toList=true)(h2:valOK a.v.data.toList=true):(ptx a).length≤798:=by have:=typeOK_le h1;have:=valOK_le h2;have:=textF_len true a.v.data.toList;unfold ptx textL;rw[List.length_append,List.length_cons];omega
theorem flat_len_le {α:Type}(f:α→List UInt8)(k:Nat): ∀l:List α,(∀x∈l,(f x).length≤k)→(l.flatMap f).length≤l.length*k
 | [],_=>by simp
 | x::l,h=>by have h1:=h x (by simp);have h2:=flat_len_le f k l (fun y hy=>h y (by simp[hy]));rw[List.flatMap_cons,List.length_append,List.length_cons,Nat.add_mul];omega
theorem rdnX_len {l:List Av}(h:rdnOK l=true):(rdnX l).length≤4000:=by
 have hx:=rdnOK_av h;have h4:=(rdnOK_facts h).2.1;cases l with
 | nil=>simp[rdnX,Lib.join,List.intercalate]
 | cons a r=>rw[rdnX_cons,List.length_append];have h1:=ptx_len (hx a (by simp)).1 (hx a (by simp)).2;have h2:=flat_len_le (fun a=>43::ptx a) 799 r (fun x hx'=>by have:=ptx_len (hx x (by simp[hx'])).1 (hx x (by simp[hx'])).2;simp only[List.length_cons];omega);simp only[List.length_cons]at h4;have:r.length*799≤3*799:=Nat.mul_le_mul_right _ (by omega);omega
theorem nameX_len {n:List (List Av)}(h:nameOK n=true):(nameX n).length≤60000:=by
 obtain⟨h12,hx⟩:=nameOK_facts h;cases n with
 | nil=>simp[nameX,Lib.join,List.intercalate]
 | cons l m=>rw[nameX_cons,List.length_append];have h1:=rdnX_len (hx l (by simp));have h2:=flat_len_le (fun l=>44::rdnX l) 4001 m (fun x hx'=>by have:=rdnX_len (hx x (by simp[hx']));simp only[List.length_cons];omega);simp only[List.length_cons]at h12;have:m.length*4001≤12*4001:=Nat.mul_le_mul_right _ (by omega);omega
end dnw
namespace tup
open Go.Lib
def rep (old new s:List UInt8):List UInt8:=replaceK old new (count s old) s
theorem replaceAll_rep {old new:List UInt8}(h:(old==new)=false)(s:List UInt8):replaceAll s old new=rep old new s:=by unfold replaceAll replace rep replaceNum;rw[h];simp
theorem rep_nil {old new:List UInt8}(h:old≠[]):rep old new []=[]:=by
 have h1:index [] old= -1:=by
  unfold index;cases old with
  | nil=>exact absurd rfl h
  | cons a t=>rfl
 unfold rep;rw[count_miss h1];rfl
theorem rep_miss {old new:List UInt8}(ho:old≠[])(x:UInt8)(r:List UInt8)(h:old.isPrefixOf (x::r)=false):rep old new (x::r)=x::rep old new r:=by
 have hi:index (x::r) old=if index r old== -1 then-1 else index r old+1:=by rw[index,h];rfl
 by_cases hm:index r old= -1
 ·rw[hm]at hi;have hi':index (x::r) old= -1:=hi;unfold rep;rw[count_miss hi',count_miss hm];rfl
 ·have hge:=index_ge r old;obtain⟨i,hi0⟩: ∃i:Nat,index r old=i:=⟨(index r old).toNat,by omega⟩;have hi1:index (x::r) old=((i+1:Nat):Int):=by rw[hi,hi0,if_neg (by simp)];rfl
  unfold rep;rw[count_hit ho hi0,count_hit ho hi1,Nat.add_comm 1,Nat.add_comm 1,replaceK_hit _ _ _ _ _ hi0,replaceK_hit _ _ _ _ _ hi1];have e:i+1+old.length=(i+old.length)+1:=by omega
  rw[e];simp
theorem rep_hit {old new:List UInt8}(ho:old≠[])(r:List UInt8):rep old new (old++r)=new++rep old new r:=by have hi:index (old++r) old=((0:Nat):Int):=index_first (i:=0) (Nat.zero_le _) (by simp[occAt]) (fun _ h=>absurd h (Nat.not_lt_zero _));unfold rep;rw[count_hit ho hi,Nat.add_comm 1,replaceK_hit _ _ _ _ _ hi];simp
def esc:List UInt8→List UInt8
 | []=>[]
 | c::r=>(if c=0 then[0,255]else[c])++esc r
theorem replace_esc (s:List UInt8):replaceAll s [0] [0,255]=esc s:=by
 rw[replaceAll_rep (by decide)];induction s with
 | nil=>exact rep_nil (by simp)
 | cons c r ih=>
  by_cases hc:c=0
  ·subst hc;have:=rep_hit (old:=[0]) (new:=[0,255]) (by simp) r;rw[List.singleton_append]at this;rw[this,ih];rfl
  ·rw[rep_miss (by simp) c r (by rw[Bool.eq_false_iff];intro e;simp[List.isPrefixOf]at e;exact hc e.symm),ih];simp[esc,hc]
theorem esc_length (s:List UInt8):s.length≤(esc s).length∧(esc s).length≤2*s.length:=by
 induction s with
 | nil=>simp[esc]
 | cons c r ih=>simp only[esc,List.length_append,List.length_cons];split<;>simp<;>omega
def bytes:List ByteArray→List UInt8
 | []=>[]
 | p::r=>esc p.data.toList++[0,1]++bytes r
theorem bytes_append (a b:List ByteArray):bytes (a++b)=bytes a++bytes b:=by
 induction a with
 | nil=>rfl
 | cons p r ih=>simp[bytes,ih]
theorem bytes_mem {l:List ByteArray}{p:ByteArray}(h:p∈l):p.size≤(bytes l).length:=by
 induction l with
 | nil=>cases h
 | cons q r ih=>
  have he:=(esc_length q.data.toList).1;rcases List.mem_cons.1 h with rfl | h'
  ·simp only[bytes,List.length_append];simp at he;omega
  ·have:=ih h';simp only[bytes,List.length_append];omega
theorem bytes_small {l:List ByteArray}(h: ∀p∈l,p.size≤4096):(bytes l).length≤8194*l.length:=by
 induction l with
 | nil=>simp[bytes]
 | cons q r ih=>have he:=(esc_length q.data.toList).2;have h1:=h q (by simp);have h2:=ih (fun p hp=>h p (by simp[hp]));simp at he;simp only[bytes,List.length_append,List.length_cons];simp;omega
def out (l:List ByteArray):ByteArray × Int:=if 16<l.length then(⟨#[]⟩,1)else if 4096<(bytes l).length then(⟨#[]⟩,5)else(⟨(bytes l).toArray⟩,0)
end tup
namespace dnw
open dnp
def rv (v:List UInt8):List UInt8:=(prp.readyO v true).getD []
theorem rv_ok {v:List UInt8}(h:valOK v=true):prp.readyO v true=some (rv v):=by
 unfold valOK at h;unfold rv;cases hr:prp.readyO v true with
 | none=>rw[hr]at h;simp at h
 | some t=>rfl
def partB (a:Av):ByteArray:=(tup.out [a.t,⟨(rv a.v.data.toList).toArray⟩]).1
theorem partB_len (a:Av):(partB a).size≤4096:=by
 unfold partB tup.out;rw[if_neg (by simp)];split
 ·exact Nat.zero_le _
 ·rename_i h;rw[←kt.size_len];show(tup.bytes _).length≤_;omega
def sortL (l:List (List UInt8)):List (List UInt8):=l.mergeSort fun x y=>decide (x≤y)
def partsL (l:List Av):List (List UInt8):=l.map fun a=>(partB a).data.toList
def keyL (l:List Av):List UInt8:=(sortL (partsL l)).flatten
theorem join_flat (xs:List (List UInt8)):Lib.join xs []=xs.flatten:=by
 cases xs with
 | nil=>rfl
 | cons x r=>rw[Lib.join_cons,Lib.joinTail,List.flatten_cons];congr 2;simp
theorem flatten_len_le (k:Nat): ∀l:List (List UInt8),(∀x∈l,x.length≤k)→l.flatten.length≤l.length*k
 | [],_=>by simp
 | x::l,h=>by have h1:=h x (by simp);have h2:=flatten_len_le k l (fun y hy=>h y (by simp[hy]));rw[List.flatten_cons,List.length_append,List.length_cons,Nat.add_mul];omega
theorem keyL_len (l:List Av):(keyL l).length≤l.length*4096:=by
 have h:=flatten_len_le 4096 (sortL (partsL l)) (fun x hx=>by have:=(List.mergeSort_perm (partsL l) _).mem_iff.1 hx;unfold partsL at this;obtain⟨a,_,rfl⟩:=List.mem_map.1 this;rw[kt.size_len];exact partB_len a);have h2:(sortL (partsL l)).length=l.length:=by unfold sortL partsL;simp
 rw[h2]at h;exact h
def keysB (n:List (List Av)):List ByteArray:=n.reverse.map fun l=>⟨(keyL l).toArray⟩
theorem keysB_len (n:List (List Av)):(keysB n).length=n.length:=by simp[keysB]
end dnw
open Go.RowKit
namespace trm
def Env (w:World):Prop:=(∃m:Int,w.cell? ⟨1,0,none⟩=some (.int .i64 m))∧Lib.Utf8Tabs 2 3 w
theorem env_below {w w':World}(h:Env w)(hb:Below w.heap.size w w'):Env w':=by obtain⟨⟨m,hm⟩,ht⟩:=h;exact⟨⟨m,(hb.cell (World.block_lt_of_cell? w _ hm)).trans hm⟩,Utf8Tabs_below ht hb⟩
end trm
open Go.RowKit
namespace tupw
def Strs (w:World)(ao:Option Addr)(l:List ByteArray):Prop:= ∀ (i:Nat) (h:i<l.length),∃b o,ao=some ⟨b,o,none⟩∧w.cell? ⟨b,o+i,none⟩=some (.string l[i])
theorem strs_below {w w':World}{ao:Option Addr}{l:List ByteArray}(h:Strs w ao l)(hb:Below w.heap.size w w'):Strs w' ao l:=by intro i hi;obtain⟨b,o,e,hc⟩:=h i hi;exact⟨b,o,e,(hb.cell (World.block_lt_of_cell? w _ hc)).trans hc⟩
theorem is_below {B b:Nat}{l:List UInt8}{w w':World}(h:bld.Is B b l w)(hb:Below w.heap.size w w'):bld.Is B b l w':=by
 rcases h with h | h
 ·obtain⟨hB,v,hk,ho,hn⟩:=h;exact Or.inl ⟨hB,v,(hb.block b (bld.lt_of_heap hk)).trans hk,kt.row_below ho hb,hn⟩
 ·obtain⟨hB,v,hk,ho,hn⟩:=h;exact Or.inr ⟨hB,v,(hb.block b (bld.lt_of_heap hk)).trans hk,kt.row_below ho hb,hn⟩
def tupV (r:ByteArray × Int):Value:= .tuple #[.string r.1,.int .i64 r.2]
theorem tuple_any (ao:Option Addr)(cap:Nat)(l:List ByteArray)(w:World)(hE:Hid (trm.Env w))(hl:Hid (Strs w ao l)):
  Calls Tryz.prog 252 #[.slice ao l.length cap] w fun e w'=>e= .returned (tupV (tup.out l))∧Below w.heap.size w w':=by
 by_cases c16:16<l.length
 ·have hp:tup.out l=(⟨#[]⟩,1):=by unfold tup.out;rw[if_pos c16]
  have HP:=Lib.hid hp;clear hp;have c16':16<(l.length:Int):=by omega
  go_enter Tryz.func252,Tryz.ntmps252;go_wp2_with fail;go_ret2;exact⟨by rw[HP.out];rfl,Below.refl _ _⟩
 ·have c16': ¬16<(l.length:Int):=by omega
  go_enter Tryz.func252,Tryz.ntmps252;go_wp2_with fail;go_loopw [12] (fun iv wr=> ∃i:Nat,i≤l.length∧iv= .int .i64 i∧Hid (∀p∈l.take i,p.size≤4096)∧Hid (bld.Is w.heap.size w.heap.size (tup.bytes (l.take i)) wr)∧Below w.heap.size w wr) (fun iv _=>l.length- (intOf iv).toNat);case atStart=>exact⟨0,Nat.zero_le _,rfl,fun p hp=>by simp at hp,bld.fresh w,(Below.refl _ _).alloc (Nat.le_refl _) _⟩
  case round=>
   obtain⟨i,hi,rfl,hsm,hI,hB⟩:=hrel;have hsz:=hB.size;by_cases hil:i<l.length
   ·obtain⟨b,o,hao,hc0⟩:=hl.out i hil;have hc:=(hB.cell (World.block_lt_of_cell? w _ hc0)).trans hc0;clear hc0;obtain⟨p,hp⟩: ∃p:ByteArray,Hid (p=l[i]):=⟨l[i],rfl⟩;rw[←hp.out]at hc;subst hao;by_cases cp:4096<p.size
    ·have hbig:tup.out l=(⟨#[]⟩,5):=(by have:=tup.bytes_mem (l:=l) (p:=l[i]) (List.getElem_mem hil);rw[←hp.out]at this;unfold tup.out;rw[if_neg c16,if_pos (by omega)]);have HP:=Lib.hid hbig;clear hbig;have cp':4096<(p.size:Int):=(by omega);go_wp2_with fail;go_ret2;exact⟨by rw[HP.out];rfl,hB⟩
    ·have cp': ¬4096<(p.size:Int):=(by omega);obtain⟨⟨m,hm⟩,_⟩:=trm.env_below hE.out hB;have hcl:=Lib.count_le p.data.toList [0];have C:=Tryz.strings_ReplaceAll p ⟨#[0]⟩ ⟨#[0,255]⟩ m wr (by omega) hm (by decide) (by have:Lib.countB p ⟨#[0]⟩≤p.size+1:=(by simpa[Lib.countB]using hcl);show p.size+Lib.countB p ⟨#[0]⟩*2≤_;omega);rw[show(Lib.replaceAll p.data.toList (ByteArray.mk #[0]).data.toList (ByteArray.mk #[0,255]).data.toList)=tup.esc p.data.toList from tup.replace_esc _]at C;obtain⟨q,hq⟩: ∃q:ByteArray,Hid (q=⟨(tup.esc p.data.toList).toArray⟩):=⟨_,rfl⟩;rw[←hq.out]at C;have hqs:q.size≤8192:=(by have:=(tup.esc_length p.data.toList).2;rw[kt.size_len]at this;have h2:q.size=(tup.esc p.data.toList).length:=(by rw[hq.out];rfl);omega);have HC:=Lib.hid C;clear C hcl hm;have hbl:(tup.bytes (l.take i)).length≤131104:=(by have:=tup.bytes_small hsm.out;rw[List.length_take]at this;omega);go_wp2_with fail;refine HC.out.mono ?_;rintro e w1 ⟨rfl,hB1⟩;have hI1:=is_below hI.out hB1;have W1:=Lib.hid (bld.writeString_any _ _ _ q w1 hI1 (by omega) (Nat.le_trans hsz hB1.size));clear hI1;go_wp2_with fail;refine W1.out.mono ?_;rintro e w2 ⟨rfl,hI2,hB2⟩;have hs2:w.heap.size≤w2.heap.size:=Nat.le_trans (Nat.le_trans hsz hB1.size) hB2.size;have hqd:q.data.toList=tup.esc p.data.toList:=(by rw[hq.out]);have W2:=Lib.hid (bld.writeString_any _ _ _ ⟨#[0,1]⟩ w2 hI2 (by rw[List.length_append,kt.size_len];show _+2≤_;omega) hs2);clear hI2;go_wp2_with fail;refine W2.out.mono ?_;rintro e w3 ⟨rfl,hI3,hB3⟩;have hI3':=Lib.hid hI3;clear hI3;have ht:tup.bytes (l.take (i+1))=tup.bytes (l.take i)++q.data.toList++[0,1]:=(by rw[List.take_succ_eq_append_getElem hil,tup.bytes_append,hqd,←hp.out];simp[tup.bytes]);have HT:=Lib.hid ht;have HS:Hid (∀p∈l.take (i+1),p.size≤4096):=by
      rw[List.take_succ_eq_append_getElem hil];intro r hr;rcases List.mem_append.1 hr with h | h
      ·exact hsm.out r h
      ·rw[List.mem_singleton.1 h,←hp.out];omega
     clear ht hqd;go_wp2_with fail;go_roundw;case rel=>exact⟨i+1,by omega,by go_num,HS,by rw[HT.out];exact hI3'.out,((hB.trans (hB1.mono hsz)).trans hB2).trans hB3⟩
     case measure=>simp[intOf];omega
   ·obtain rfl:i=l.length:=(by omega);have hI':=hI;have hsm':=hsm.out;rw[List.take_of_length_le (Nat.le_refl _)]at hI' hsm';have hbl:=tup.bytes_small hsm';clear hsm hsm' hI;have hL:=(Tryz.Builder_Len _ _ _ wr hI'.out);rw[Lib.byteCells_length]at hL;have HL:=Lib.hid hL;clear hL;have hil': ¬ (l.length:Int)<(l.length:Int):=(by omega);go_wp2_with fail;refine HL.out.mono ?_;rintro e w1 ⟨rfl,rfl⟩;by_cases hb:4096<(tup.bytes l).length
    ·have hp:tup.out l=(⟨#[]⟩,5):=(by unfold tup.out;rw[if_neg c16,if_pos hb]);have HP:=Lib.hid hp;have hb':4096<((tup.bytes l).length:Int):=(by omega);clear hp hb;go_wp2_with fail;go_ret2;exact⟨by rw[HP.out];rfl,hB⟩
    ·have hp:tup.out l=(⟨(tup.bytes l).toArray⟩,0):=(by unfold tup.out;rw[if_neg c16,if_neg hb]);have HP:=Lib.hid hp;have hb': ¬4096<((tup.bytes l).length:Int):=(by omega);clear hp hb;have HSt:=Lib.hid (Tryz.Builder_String_any _ _ _ w1 hI'.out hsz);go_wp2_with fail;refine HSt.out.mono ?_;rintro e w2 ⟨rfl,hB2⟩;go_wp2_with fail;go_ret2;exact⟨by rw[HP.out];rfl,hB.trans hB2⟩
end tupw
open Go.RowKit
namespace dnw
open dnp
theorem joinT {w:World}{B:Nat}{v:Value}{l:List ByteArray}(h:prw.OwnT w B v l)(sep:ByteArray)(hl:l.length≤100000000)(hlen:(Lib.join (l.map (·.data.toList)) sep.data.toList).length≤140737488355328):
  Calls Tryz.prog 165 #[v,.string sep] w fun e w'=>e= .returned (.string ⟨(Lib.join (l.map (·.data.toList)) sep.data.toList).toArray⟩)∧Below w.heap.size w w':=by
 obtain⟨ao,cap,rfl,hcap,hcs⟩:=prw.ownT_cells h;by_cases hne:l=[]
 ·subst hne;refine(Tryz.strings_Join_none ao cap sep w).mono ?_;rintro e w' ⟨rfl,h2⟩;refine⟨rfl,?_⟩;first
   | (rw[h2];exact Below.refl _ _)
   | (rw[←h2];exact Below.refl _ _)
 ·obtain⟨g,rfl,hg,hcc⟩:=hcs hne;exact Tryz.strings_Join g 0 cap l sep w hcc hg (by omega) hcap hlen
def bytes (l:List UInt8):ByteArray:=⟨l.toArray⟩
theorem bytes_data (l:List UInt8):(bytes l).data.toList=l:=rfl
def PrintE (n:List (List Av))(e:Ending):Prop:=e= .returned (.tuple #[.string (bytes (printR n).1),.int .i64 (printR n).2])
theorem printE_no {n:List (List Av)}(h:nameOK n=false):PrintE n (.returned (.tuple #[.string ⟨#[]⟩,.int .i64 4])):=by unfold PrintE printR;rw[h];rfl
theorem printE_long {n:List (List Av)}(h:nameOK n=true)(h2:1000<(nameX n).length):PrintE n (.returned (.tuple #[.string ⟨#[]⟩,.int .i64 5])):=by unfold PrintE printR;rw[if_pos h,if_pos h2];rfl
theorem printE_ok {n:List (List Av)}(h:nameOK n=true)(h2: ¬1000<(nameX n).length):PrintE n (.returned (.tuple #[.string (bytes (nameX n)),.int .i64 0])):=by unfold PrintE printR;rw[if_pos h,if_neg h2];rfl
theorem ownT_below {w w':World}{B:Nat}{v:Value}{l:List ByteArray}(h:prw.OwnT w B v l)(hb:Below w.heap.size w w'):prw.OwnT w' B v l:=kt.row_below h hb
theorem ownT_appG {w:World}{B:Nat}{v:Value}{l:List ByteArray}(x:ByteArray)(hown:prw.OwnT w B v l)(hl:l.length≤100000000)(hbase:B≤w.heap.size):
  ∃ao m cap w1,(Builtin.append_ #[35,35] 35 #[v,.slice (some ⟨w.heap.size,0,none⟩) 1 1]).run Tryz.prog (w.alloc (.cells #[.string x] 9))= .ok (.slice ao m cap) w1∧prw.OwnT w1 B (.slice ao m cap) (l++[x])∧w.grownBy w1 v.ownBlock∧Below B w w1:=by
 obtain⟨v',w1,h1,h2,h4,h3⟩:=kt.app1 (P:=Tryz.prog) (t:=35) (ty:=35) Tryz.underlying35 prw.infoStr rfl (.string x) rfl hown (by rw[prw.scells_length];unfold maxLen;omega) (by rw[prw.scells_length];omega) hbase;have h2':prw.OwnT w1 B v' (l++[x]):=by
  unfold prw.OwnT;have e:prw.scells (l++[x])=prw.scells l++[.string x]:=by simp[prw.scells]
  rw[e];exact h2
 obtain⟨ao,cap,rfl,_,_⟩:=prw.ownT_cells h2';exact⟨ao,_,cap,w1,h1,h2',h4,h3⟩
theorem cat_ptx (x:Av):(x.t++(⟨#[61]⟩:ByteArray))++(⟨(textL x.v.data.toList).toArray⟩:ByteArray)=bytes (ptx x):=by apply kt.str_eq;rw[ByteArray.data_append,ByteArray.data_append,bytes_data];simp[ptx]
theorem ownT_form {w:World}{B:Nat}{v:Value}{l:List ByteArray}(h:prw.OwnT w B v l): ∃ (ao:Option Addr) (m cap:Nat),v= .slice ao m cap∧Hid (m=l.length):=by obtain⟨ao,cap,rfl,_,_⟩:=prw.ownT_cells h;exact⟨ao,_,cap,rfl,rfl⟩
theorem takeMap_step {α:Type}(f:α→ByteArray)(l:List α)(i:Nat)(hi:i<l.length):(l.take (i+1)).map f=(l.take i).map f++[f l[i]]:=by rw[List.take_succ_eq_append_getElem hi,List.map_append];rfl
end dnw
open Go.RowKit
namespace dnw
open dnp
theorem trmEnv {w:World}(hE:prw.Env w)(hT:Tabs w):trm.Env w:=⟨hE,hT⟩
theorem scells_enc (l:List ByteArray):prw.scells l=(l.map (·.data.toList)).map encStr:=by unfold prw.scells;rw[List.map_map];rfl
theorem sortT {w:World}{B:Nat}{ao:Option Addr}{m cap:Nat}{l:List ByteArray}(h:prw.OwnT w B (.slice ao m cap) l)(hl:l.length≤1100000)(hB:B≤w.heap.size):
  Calls Tryz.prog 116 #[.slice ao m cap] w fun e w'=>e= .returned (.tuple #[])∧prw.OwnT w' B (.slice ao m cap) ((sortL (l.map (·.data.toList))).map bytes)∧Below B w w':=by
 obtain⟨ss,hss⟩: ∃ss,ss=l.map (·.data.toList):=⟨_,rfl⟩;have hsl:ss.length=l.length:=by rw[hss];simp
 have hm:m=l.length:=by obtain⟨ao',cap',hv,_,_⟩:=prw.ownT_cells h;simp only[Value.slice.injEq]at hv;exact hv.2.1
 subst hm;have hrow:w.ownsRow B 9 1 (.slice ao l.length cap) ss.length (ss.map encStr):=by have h1:w.ownsRow B 9 1 (.slice ao l.length cap) (prw.scells l).length (prw.scells l):=h;rw[scells_enc,←hss,List.length_map]at h1;exact h1
 have hsort:((sortL ss).map bytes).map (·.data.toList)=sortL ss:=by
  rw[List.map_map];conv=>rhs;rw[←List.map_id (sortL ss)]
  apply List.map_congr_left;intro x _;rfl
 have hsn:(sortL ss).length=ss.length:=by unfold sortL;simp
 rw[←hss];rcases hrow.2 with⟨hv,h0⟩ | ⟨g,cap',cur,hv,hBg,hg,h1,h2,h3,h4⟩
 ·simp only[Value.slice.injEq]at hv;obtain⟨rfl,hl0,rfl⟩:=hv;have hs0:ss=[]:=List.eq_nil_of_length_eq_zero h0;rw[hl0];refine(Tryz.slices_Sort_string_none none 0 w).mono ?_;rintro e w' ⟨rfl,h2⟩;have h2:w'=w:=by first | exact h2 | exact h2.symm
  subst h2;refine⟨rfl,?_,Below.refl _ _⟩;rw[hs0];have hn:sortL []=[]:=by unfold sortL;simp
  rw[hn];exact World.ownsRow_nil w' B _ _
 ·simp only[Value.slice.injEq]at hv;obtain⟨rfl,_,rfl⟩:=hv;rw[Nat.mul_one]at h4;have hH:=holds_of_block hg h4;have CS:=Tryz.slices_Sort_string g 0 cap ss w hH (bld.lt_of_heap hg) (by omega);rw[hsl]at CS;refine CS.mono ?_;rintro e w' ⟨rfl,n,os,rfl⟩;have ho:=ownsRow_sorted (n:=n) (os:=os) (ts:=sortL ss) hsn hBg hg h1 h2 h3;refine⟨rfl,?_,(Below.refl B w).grown (grownBy_sorted _) hB (fun k hk=>by cases hk;exact hBg)⟩;unfold prw.OwnT;rw[scells_enc,hsort,List.length_map,hsn];rw[hsl]at ho ⊢;exact ho
theorem part_any (x:Av)(R:ByteArray)(hR:R=⟨(rv x.v.data.toList).toArray⟩)(ao:Option Addr)(cap:Nat)(w:World)(hE:Hid (trm.Env w))(hS:Hid (tupw.Strs w ao [x.t,R])):
  Calls Tryz.prog 252 #[.slice ao 2 cap] w fun e w'=>(∃er:Int,e= .returned (.tuple #[.string (partB x),.int .i64 er]))∧Below w.heap.size w w':=by
 refine(tupw.tuple_any ao cap [x.t,R] w hE hS).mono ?_;rintro e w' ⟨rfl,hb⟩;exact⟨⟨(tup.out [x.t,R]).2,by unfold tupw.tupV partB;rw[hR]⟩,hb⟩
theorem key_any (ao:Option Addr)(cap:Nat)(l:List Av)(w:World)(hA:Hid (Avas w ao l))(hE:Hid (prw.Env w))(hT:Hid (Tabs w))(hok:rdnOK l=true):
  Calls Tryz.prog 191 #[.slice ao l.length cap] w fun e w'=>e= .returned (.string (bytes (keyL l)))∧Below w.heap.size w w':=by
 have h4:=(rdnOK_facts hok).2.1;have HX:=Lib.hid (rdnOK_av hok);obtain⟨m,hm⟩: ∃m,m=l.length:=⟨_,rfl⟩;have HM:=Lib.hid hm;rw[←hm]at h4 ⊢;clear hm hok;go_enter Tryz.func191,Tryz.ntmps191;go_wp2_with fail;go_loopw [3,5,6,7,8,9,12] (fun pv _ _ _ _ _ iv wr=> ∃ (i:Nat),i≤m∧iv= .int .i64 (i:Int)∧Hid (prw.OwnT wr w.heap.size pv ((l.take i).map partB))∧Below w.heap.size w wr) (fun _ _ _ _ _ _ iv _=>m- (intOf iv).toNat);case atStart=>exact⟨0,Nat.zero_le _,rfl,World.ownsRow_nil _ _ _ _,Below.refl _ _⟩
 case round=>
  obtain⟨i,hi,rfl,hO,hB⟩:=hrel;have hsz:=hB.size;obtain⟨aoR,mR,capR,rfl,hmR⟩:=ownT_form hO.out;by_cases hlt:i<m
  ·have hlt':(i:Int)<(m:Int):=(by omega);have hil:i<l.length:=(by rw[←HM.out];exact hlt);obtain⟨b,o,hao,c0,c1⟩:=(avas_below hA.out hB) i hil;subst hao;have HST:=takeMap_step partB l i hil;have hxx:=HX.out l[i] (List.getElem_mem hil);generalize l[i]=x at c0 c1 HST hxx;obtain⟨R,hR⟩: ∃R:ByteArray,R=⟨(rv x.v.data.toList).toArray⟩:=⟨_,rfl⟩;have hvs:x.v.size≤1100000:=(by have:=valOK_le hxx.2;rw[kt.size_len]at this;omega);have HRD:Hid (∀W,Below w.heap.size w W→Calls Tryz.prog 134 #[.string x.v,.bool true] W fun e w'=>e= .returned (.tuple #[.string R,.int .i64 0])∧Below W.heap.size W w'):=(by intro W hb;have:=prw.ready_any x.v true W hvs (Lib.hid (prw.env_below hE.out hb));rw[rv_ok hxx.2]at this;rw[hR];exact this);have HST:=Lib.hid HST;have HRe:=Lib.hid hR;obtain⟨w5,hw5⟩: ∃w5,w5=wr.alloc (.cells #[.string x.t,.string x.v] 51):=⟨_,rfl⟩;have e0:w5.cell? ⟨wr.heap.size,0,none⟩=some (.string x.t):=(by rw[hw5,World.cell?_alloc_new];rfl);have HB5:Hid (Below w.heap.size w w5):=(by show Below _ _ _;rw[hw5];exact hB.alloc hsz _);have HO5:Hid (prw.OwnT w5 w.heap.size (.slice aoR mR capR) ((l.take i).map partB)):=(by show prw.OwnT _ _ _ _;rw[hw5];exact ownT_below hO.out ((Below.refl _ _).alloc (Nat.le_refl _) _));have HE0:=Lib.hid e0;have hRD:=HRD.out w5 HB5.out;rw[hw5]at hRD;have HW5:=Lib.hid hw5;have HRD2:=Lib.hid hRD;clear hR hvs hxx hw5 e0 hRD;go_wp2_with fail;refine HRD2.out.mono ?_;rintro e w6 ⟨rfl,hB6⟩;rw[←HW5.out]at hB6;have hlt5:=World.block_lt_of_cell? w5 _ HE0.out;have e6:=(hB6.cell hlt5).trans HE0.out;have HB6:=Lib.hid (HB5.out.trans (hB6.mono HB5.out.size));have HO6:=Lib.hid (ownT_below HO5.out hB6);have HP:=Lib.hid (part_any x R HRe.out (some ⟨w6.heap.size,0,none⟩) 2 (w6.alloc (.cells #[.string x.t,.string R] 9)) (Lib.hid (trmEnv (prw.env_below hE.out (HB6.out.alloc HB6.out.size _)) (tabs_below hT.out (HB6.out.alloc HB6.out.size _)))) (Lib.hid (by
    intro j hj;refine⟨_,0,rfl,?_⟩;rw[World.cell?_alloc_new]
    match j,hj with
    | 0,_=>rfl
    | 1,_=>rfl)))
   clear hB6 HRD2;go_wp2_with fail;refine HP.out.mono ?_;rintro e w7 ⟨⟨er,rfl⟩,hB7⟩;have hB67:Below w6.heap.size w6 w7:=((Below.refl w6.heap.size w6).alloc (Nat.le_refl _) _).trans (hB7.mono (by simp));have HB7:=Lib.hid (HB6.out.trans (hB67.mono HB6.out.size));obtain⟨ao7,m7,cap7,w8,hap,hO8,_,hB8⟩:=ownT_appG (partB x) (ownT_below HO6.out hB67) (by rw[List.length_map,List.length_take];omega) HB7.out.size;have HO8:Hid (prw.OwnT w8 w.heap.size (.slice ao7 m7 cap7) ((l.take (i+1)).map partB)):=(by show prw.OwnT _ _ _ _;rw[HST.out];exact hO8);have HB8:=Lib.hid (HB7.out.trans hB8);clear hB7 hB67 hO8 hB8 HP e6;go_wp2_with (at_builtin;refine Lib.wpList_append_run _ rfl _ _ _ _ rfl _ _ rfl rfl _ _ hap ?_);go_roundw;case rel=>exact⟨i+1,by omega,by go_num,HO8,HB8.out⟩
   case measure=>simp[intOf]<;>omega
  ·obtain rfl:i=m:=(by omega);have hO1:=hO.out;rw[HM.out,List.take_length]at hO1;have hll:(l.map partB).length≤1100000:=(by rw[List.length_map,←HM.out];omega);have CS:=Lib.hid (sortT hO1 hll hsz);have e1:((l.map partB).map (·.data.toList))=partsL l:=(by rw[List.map_map];rfl);have hkl:=keyL_len l;clear hO1 hll;go_wp2_with fail;refine CS.out.mono ?_;rintro e w2 ⟨rfl,hO2,hB2⟩;rw[e1]at hO2;have e2:((sortL (partsL l)).map bytes).map (·.data.toList)=sortL (partsL l):=by
    rw[List.map_map];conv=>rhs;rw[←List.map_id (sortL (partsL l))]
    apply List.map_congr_left;intro x _;rfl
   have CJ:=joinT hO2 ⟨#[]⟩ (by rw[List.length_map];unfold sortL partsL;simp;rw[←HM.out];omega) (by rw[e2];show(Lib.join _ []).length≤_;rw[join_flat];show(keyL l).length≤_;rw[←HM.out]at hkl;omega);rw[e2]at CJ;have CJ':Calls Tryz.prog 165 #[.slice aoR mR capR,.string ⟨#[]⟩] w2 fun e w'=>e= .returned (.string (bytes (keyL l)))∧Below w2.heap.size w2 w':=(by refine CJ.mono fun e w' h=>⟨?_,h.2⟩;rw[h.1];show _=Ending.returned (.string ⟨(keyL l).toArray⟩);have:Lib.join (sortL (partsL l)) (⟨#[]⟩:ByteArray).data.toList=keyL l:=join_flat _;rw[this]);have HJ:=Lib.hid CJ';have HB2:=Lib.hid (hB.trans hB2);clear CJ CJ' e1 e2 hkl CS hB2 hO2;go_wp2_with fail;refine HJ.out.mono ?_;rintro e w3 ⟨rfl,hB3⟩;go_wp2_with fail;go_ret;exact⟨rfl,HB2.out.trans (hB3.mono HB2.out.size)⟩
end dnw
open Go.RowKit
namespace dnw
open dnp
def KeysE (n:List (List Av))(w:World)(e:Ending)(w':World):Prop:=Below w.heap.size w w'∧if nameOK n=true then∃ao cap,e= .returned (.tuple #[.slice ao n.length cap,.int .i64 0])∧n.length≤cap∧tupw.Strs w' ao (keysB n)else e= .returned (.tuple #[.slice none 0 0,.int .i64 4])
theorem ownT_strs {w:World}{B:Nat}{ao:Option Addr}{m cap:Nat}{l:List ByteArray}(h:prw.OwnT w B (.slice ao m cap) l):tupw.Strs w ao l∧m=l.length∧m≤cap:=by obtain⟨ao',cap',hv,hc,hcs⟩:=prw.ownT_cells h;simp only[Value.slice.injEq]at hv;obtain⟨rfl,rfl,rfl⟩:=hv;refine⟨fun i hi=> ?_,rfl,hc⟩;obtain⟨g,hg,_,hcell⟩:=hcs (by intro e;rw[e]at hi;simp at hi);exact⟨g,0,hg,hcell i _ (List.getElem?_eq_getElem hi)⟩
theorem revTake_step (n:List (List Av))(i:Nat)(hi:i<n.length):(n.reverse.take (i+1)).map (fun l=>bytes (keyL l))=(n.reverse.take i).map (fun l=>bytes (keyL l))++[bytes (keyL (n[n.length-1-i]'(by omega)))]:=by rw[List.take_succ_eq_append_getElem (by simpa using hi),List.map_append];simp only[List.getElem_reverse];rfl
theorem keys_any (ao:Option Addr)(cap:Nat)(n:List (List Av))(w:World)(hA:Hid (Rdns w ao n))(hE:Hid (prw.Env w))(hT:Hid (Tabs w))(hS:Hid (∀l∈n,l.length≤4→Smalls l)):
  Calls Tryz.prog 292 #[.slice ao n.length cap] w fun e w'=>KeysE n w e w':=by
 have CR:=right_any ao cap n w hA hE hS;obtain⟨m,hm⟩: ∃m,m=n.length:=⟨_,rfl⟩;have HM:=Lib.hid hm;rw[←hm]at CR ⊢;clear hm;cases hok:nameOK n with
 | false=>rw[hok]at CR;have HC:=Lib.hid CR;have HOK:=Lib.hid hok;clear CR hok;go_enter Tryz.func292,Tryz.ntmps292;go_wp2_with fail;refine HC.out.mono ?_;rintro e w1 ⟨rfl,hB1⟩;go_wp2_with fail;go_ret2;refine⟨hB1,?_⟩;rw[if_neg (by rw[HOK.out];simp)];rfl
 | true=>
  rw[hok]at CR;have HC:=Lib.hid CR;have HOK:=Lib.hid hok;have hf:=nameOK_facts hok;have hm12:m≤12:=by rw[HM.out];exact hf.1
  have HL:=Lib.hid hf.2;clear CR hok hf;go_enter Tryz.func292,Tryz.ntmps292;go_wp2_with fail;refine HC.out.mono ?_;rintro e w1 ⟨rfl,hB1⟩;have HB1:=Lib.hid hB1;have hsz1:=hB1.size;clear hB1 HC;go_wp2_with fail;go_loopw [4,5,11] (fun rv _ iv wr=> ∃ (i:Nat),i≤m∧iv= .int .i64 (i:Int)∧Hid (prw.OwnT wr w1.heap.size rv ((n.reverse.take i).map fun l=>bytes (keyL l)))∧Below w1.heap.size w1 wr) (fun _ _ iv _=>m- (intOf iv).toNat);case atStart=>exact⟨0,Nat.zero_le _,rfl,World.ownsRow_nil _ _ _ _,Below.refl _ _⟩
  case round=>
   obtain⟨i,hi,rfl,hO,hB⟩:=hrel;have hsz:=hB.size;obtain⟨aoR,mR,capR,rfl,hmR⟩:=ownT_form hO.out;by_cases hlt:i<m
   ·have hlt':(i:Int)<(m:Int):=(by omega);have hil:i<n.length:=(by rw[←HM.out];exact hlt);have HBT:=Lib.hid (HB1.out.trans (hB.mono hsz1));obtain⟨j,hj⟩: ∃j,j=m-1-i:=⟨_,rfl⟩;have hjl:j<n.length:=(by rw[←HM.out];omega);have hjm:(j:Int)<(m:Int):=(by omega);have hj0:(0:Int)≤(j:Int):=(by omega);have ej:(m:Int)-1- (i:Int)=(j:Int):=(by omega);have w1e:IntKind.i64.wrap ((m:Int)-1)=(m:Int)-1:=IntWalk.i64_in _ (by omega);have w2e:IntKind.i64.wrap ((m:Int)-1- (i:Int))=(j:Int):=(by rw[ej];exact IntWalk.i64_in _ (by omega));have HST:=revTake_step n i hil;have hje:n.length-1-i=j:=(by rw[←HM.out];exact hj.symm);have HST2:(n.reverse.take (i+1)).map (fun l=>bytes (keyL l))=(n.reverse.take i).map (fun l=>bytes (keyL l))++[bytes (keyL n[j])]:=(by rw[HST];congr 4;simp only[hje]);obtain⟨b,o,ao',cap',hao,hc0,hcc,hAv⟩:=(rdns_below hA.out HBT.out) j hjl;subst hao;have hro:=HL.out n[j] (List.getElem_mem hjl);have CK:=key_any ao' cap' n[j] wr (Lib.hid hAv) (Lib.hid (prw.env_below hE.out HBT.out)) (Lib.hid (tabs_below hT.out HBT.out)) hro;have hst:=Lib.hid HST2;generalize n[j]=l at hc0 CK hst;obtain⟨p,hp⟩: ∃p,p=l.length:=⟨_,rfl⟩;rw[←hp]at hc0 CK;have HCK:=Lib.hid CK;clear CK HST HST2 hje hro hAv hcc hp hj;go_wp2_with fail;refine HCK.out.mono ?_;rintro e w2 ⟨rfl,hB2⟩;obtain⟨ao7,m7,cap7,w8,hap,hO8,_,hB8⟩:=ownT_appG (bytes (keyL l)) (ownT_below hO.out hB2) (by rw[List.length_map,List.length_take,List.length_reverse];omega) (Nat.le_trans hsz hB2.size);have HO8:Hid (prw.OwnT w8 w1.heap.size (.slice ao7 m7 cap7) ((n.reverse.take (i+1)).map fun l=>bytes (keyL l))):=(by show prw.OwnT _ _ _ _;rw[hst.out];exact hO8);have HB8:=Lib.hid ((hB.trans (hB2.mono hsz)).trans hB8);clear hO8 hB8 hB2 HCK hst;generalize bytes (keyL l)=KB at hap ⊢;go_wp2_with (at_builtin;refine Lib.wpList_append_run _ rfl _ _ _ _ rfl _ _ rfl rfl _ _ hap ?_);go_roundw;case rel=>exact⟨i+1,by omega,by go_num,HO8,HB8.out⟩
    case measure=>simp[intOf]<;>omega
   ·obtain rfl:i=m:=(by omega);have hO1:=hO.out;rw[HM.out,List.take_of_length_le (by rw[List.length_reverse];exact Nat.le_refl _)]at hO1;obtain⟨hst,hml,hmc⟩:=ownT_strs hO1;rw[List.length_map,List.length_reverse]at hml;have HST:=Lib.hid hst;have HML:=Lib.hid hml;clear hO1 hst hml;go_wp2_with fail;go_ret2;refine⟨HB1.out.trans (hB.mono hsz1),?_⟩;rw[if_pos HOK.out];have h1:=HML.out;subst h1;exact⟨aoR,capR,rfl,hmc,HST.out⟩
end dnw
namespace ldp
def trimCR (t:List UInt8):List UInt8:=if t.getLast?=some 13 then t.dropLast else t
def rawF:Nat→List UInt8→List (List UInt8)
 | 0,_=>[]
 | f+1,l=>if l=[]then[]else match l.dropWhile (· ≠10)with
  | []=>[l]
  | _::r=>trimCR (l.takeWhile (· ≠10))::rawF f r
def raw (l:List UInt8):List (List UInt8):=rawF l.length l
structure Row where
 text:List UInt8
 no:Nat
 lost:Bool
def goes (t:List UInt8):Bool:=decide (t.head?=some 32)
def rowsR:List Row→Nat→List (List UInt8)→List Row
 | acc,_,[]=>acc
 | acc,no,t::r=>if goes t=false then rowsR (acc++[⟨t,no+1,false⟩]) (no+1) r else match acc.getLast? with
  | none=>rowsR (acc++[⟨t,no+1,true⟩]) (no+1) r
  | some x=>if x.text=[]∨x.lost=true then rowsR (acc++[⟨t,no+1,true⟩]) (no+1) r else rowsR (acc.dropLast++[⟨x.text++t.drop 1,x.no,false⟩]) (no+1) r
def rowsP:List Row→Nat→List (List UInt8)→List Row × Option Nat
 | acc,_,[]=>(acc,none)
 | acc,no,t::r=>if goes t=false then rowsP (acc++[⟨t,no+1,false⟩]) (no+1) r else match acc.getLast? with
  | none=>(acc,some (no+1))
  | some x=>if x.text=[]then(acc,some (no+1))else rowsP (acc.dropLast++[⟨x.text++t.drop 1,x.no,false⟩]) (no+1) r
theorem last_append (A:List Row)(z:Row):(A++[z]).getLast?=some z:=by simp
theorem rowsR_keeps: ∀ (ls:List (List UInt8)) (A:List Row) (z:Row) (C:List Row) (no:Nat),z.lost=true→ ∃D,rowsR (A++z::C) no ls=A++z::D
 | [],A,z,C,no,hz=>⟨C,rfl⟩
 | t::r,A,z,C,no,hz=>by
  have happ: ∀y:Row,(A++z::C)++[y]=A++z::(C++[y]):=fun y=>by simp
  unfold rowsR;by_cases hg:goes t=false
  ·rw[if_pos hg,happ];exact rowsR_keeps r A z _ (no+1) hz
  ·rw[if_neg hg];rcases List.eq_nil_or_concat C with rfl | ⟨C',y,rfl⟩
   ·rw[last_append];simp only[hz,or_true,if_true];rw[happ];exact rowsR_keeps r A z _ (no+1) hz
   ·rw[List.concat_eq_append]at happ ⊢;have e:A++z::(C'++[y])=(A++z::C')++[y]:=(by simp);rw[e,last_append];simp only[];split
    ·rw[←e,happ];exact rowsR_keeps r A z _ (no+1) hz
    ·rw[List.dropLast_concat];have e2:(A++z::C')++[⟨y.text++t.drop 1,y.no,false⟩]=A++z::(C'++[⟨y.text++t.drop 1,y.no,false⟩]):=(by simp);rw[e2];exact rowsR_keeps r A z _ (no+1) hz
def Stops (R P:List Row)(k:Nat):Prop:=(∀x∈P,x.lost=false)∧ ∃t D,R=P++(⟨t,k,true⟩:Row)::D
theorem rows_alike: ∀ (ls:List (List UInt8)) (acc:List Row) (no:Nat),(∀x∈acc,x.lost=false)→
  ((rowsP acc no ls).2=none∧rowsR acc no ls=(rowsP acc no ls).1∧ ∀x∈(rowsP acc no ls).1,x.lost=false)∨
  (∃k,(rowsP acc no ls).2=some k∧Stops (rowsR acc no ls) (rowsP acc no ls).1 k)
 | [],acc,no,h=>Or.inl ⟨rfl,rfl,h⟩
 | t::r,acc,no,h=>by
  have hstop:Stops (rowsR (acc++[⟨t,no+1,true⟩]) (no+1) r) acc (no+1):=by obtain⟨D,hD⟩:=rowsR_keeps r acc ⟨t,no+1,true⟩ [] (no+1) rfl;exact⟨h,t,D,hD⟩
  unfold rowsP rowsR;by_cases hg:goes t=false
  ·rw[if_pos hg,if_pos hg];exact rows_alike r _ (no+1) (fun x hx=>by
    rcases List.mem_append.1 hx with hx | hx
    ·exact h x hx
    ·simp only[List.mem_singleton]at hx;rw[hx])
  ·rw[if_neg hg,if_neg hg];cases hl:acc.getLast? with
   | none=>exact Or.inr ⟨no+1,rfl,hstop⟩
   | some x=>
    have hx:x∈acc:=List.mem_of_getLast? hl;have hxl:=h x hx;simp only[hxl];by_cases he:x.text=[]
    ·simp only[he,true_or,if_true];exact Or.inr ⟨no+1,rfl,hstop⟩
    ·simp only[he,false_or,if_false,Bool.false_eq_true];exact rows_alike r _ (no+1) (fun y hy=>by
      rcases List.mem_append.1 hy with hy | hy
      ·exact h y (List.dropLast_subset _ hy)
      ·simp only[List.mem_singleton]at hy;rw[hy])
theorem rowsP_take: ∀ (ls:List (List UInt8)) (acc:List Row) (no k:Nat),(rowsP acc no ls).2=some k→no<k∧rowsP acc no (ls.take (k-1-no))=((rowsP acc no ls).1,none)
 | [],acc,no,k,h=>by unfold rowsP at h;cases h
 | t::r,acc,no,k,h=>by
  unfold rowsP at h ⊢;by_cases hg:goes t=false
  ·rw[if_pos hg]at h ⊢;obtain⟨h1,h2⟩:=rowsP_take r _ (no+1) k h;refine⟨by omega,?_⟩;rw[show k-1-no=(k-1- (no+1))+1 from by omega,List.take_succ_cons];show(if goes t=false then _ else _)=_;rw[if_pos hg,h2]
  ·rw[if_neg hg]at h ⊢;cases hl:acc.getLast? with
   | none=>rw[hl]at h;simp only[Option.some.injEq]at h;subst h;exact⟨by omega,by rw[show no+1-1-no=0 from by omega];rfl⟩
   | some x=>
    rw[hl]at h;simp only at h ⊢;by_cases he:x.text=[]
    ·rw[if_pos he]at h ⊢;simp only[Option.some.injEq]at h;subst h;exact⟨by omega,by rw[show no+1-1-no=0 from by omega];rfl⟩
    ·rw[if_neg he]at h ⊢;obtain⟨h1,h2⟩:=rowsP_take r _ (no+1) k h;refine⟨by omega,?_⟩;rw[show k-1-no=(k-1- (no+1))+1 from by omega,List.take_succ_cons];show(if goes t=false then _ else _)=_;rw[if_neg hg,hl];simp only[if_neg he];exact h2
structure Rec where
 name:List UInt8
 pairs:List (List UInt8 × List UInt8)
section
variable (pr : List UInt8 → Option (List UInt8 × List UInt8)) (isName : List UInt8 → Bool) (skip : Nat → List UInt8 → Bool)
def addPair (recs:List Rec)(a:List UInt8 × List UInt8):List Rec:=match recs.getLast? with
 | none=>recs
 | some x=>recs.dropLast++[⟨x.name,x.pairs++[a]⟩]
def foldR:Nat→List Rec→Bool→List Row→Nat ⊕ List Rec
 | _,recs,_,[]=> .inr recs
 | i,recs,op,x::r=>if x.lost=true then .inl x.no else if skip i x.text=true then foldR (i+1) recs op r else if x.text=[]then foldR (i+1) recs false r else match pr x.text with
  | none=> .inl x.no
  | some a=>if isName a.1=op then .inl x.no else if op=true then foldR (i+1) (addPair recs a) true r else foldR (i+1) (recs++[⟨a.2,[]⟩]) true r
theorem fold_stop: ∀ (P:List Row) (i:Nat) (recs:List Rec) (op:Bool) (z:Row) (D:List Row),(∀x∈P,x.lost=false)→z.lost=true→
  foldR pr isName skip i recs op (P++z::D)=match foldR pr isName skip i recs op P with
   | .inl k=> .inl k
   | .inr _=> .inl z.no
 | [],i,recs,op,z,D,h,hz=>by show foldR pr isName skip i recs op (z::D)=_;unfold foldR;rw[if_pos hz]
 | x::P,i,recs,op,z,D,h,hz=>by
  have hx:=h x (by simp);have hP: ∀y∈P,y.lost=false:=fun y hy=>h y (by simp[hy]);rw[List.cons_append];unfold foldR;simp only[hx,Bool.false_eq_true,if_false];split
  ·exact fold_stop P _ _ _ z D hP hz
  ·split
   ·exact fold_stop P _ _ _ z D hP hz
   ·cases hpr:pr x.text with
    | none=>rfl
    | some a=>
     simp only;split
     ·rfl
     ·split
      ·exact fold_stop P _ _ _ z D hP hz
      ·exact fold_stop P _ _ _ z D hP hz
theorem parse_alike (ls:List (List UInt8)):foldR pr isName skip 0 [] false (rowsR [] 0 ls)=match(rowsP [] 0 ls).2 with
  | none=>foldR pr isName skip 0 [] false (rowsP [] 0 ls).1
  | some k=>match foldR pr isName skip 0 [] false (rowsP [] 0 ls).1 with
   | .inl j=> .inl j
   | .inr _=> .inl k:=by
 rcases rows_alike ls [] 0 (by simp)with⟨h1,h2,_⟩ | ⟨k,h1,h2,t,D,h3⟩
 ·rw[h1,h2]
 ·rw[h1,h3,fold_stop pr isName skip _ _ _ _ _ _ h2 rfl]
end
theorem rawF_more: ∀ (f g:Nat) (l:List UInt8),l.length≤f→l.length≤g→rawF f l=rawF g l
 | 0,g,l,h,_=>by have:l=[]:=List.eq_nil_of_length_eq_zero (by omega);subst this;cases g<;>rfl
 | f+1,0,l,_,h=>by have:l=[]:=List.eq_nil_of_length_eq_zero (by omega);subst this;rfl
 | f+1,g+1,l,h,h'=>by
  unfold rawF;split
  ·rfl
  ·rename_i hne;cases hd:l.dropWhile (fun c=>decide (c≠10))with
   | nil=>rfl
   | cons c r=>simp only;have hl:r.length<l.length:=(by have h1:=congrArg List.length (List.takeWhile_append_dropWhile (p:=fun c:UInt8=>decide (c≠10)) (l:=l));rw[hd,List.length_append,List.length_cons]at h1;omega);rw[rawF_more f g r (by omega) (by omega)]
theorem raw_line (a r:List UInt8)(h:(10:UInt8) ∉a):raw (a++10::r)=trimCR a::raw r:=by
 have h1: ∀ (b:List UInt8),(10:UInt8) ∉b→(b++10::r).takeWhile (fun c=>decide (c≠10))=b∧(b++10::r).dropWhile (fun c=>decide (c≠10))=10::r:=by
  intro b;induction b with
  | nil=>intro _;simp
  | cons c b ih=>intro hb;simp only[List.mem_cons,not_or]at hb;obtain⟨i1,i2⟩:=ih hb.2;have hc:decide (c≠10)=true:=(by simpa using Ne.symm hb.1);rw[List.cons_append,List.takeWhile_cons,List.dropWhile_cons,if_pos hc,if_pos hc,i1,i2];exact⟨rfl,rfl⟩
 obtain⟨i1,i2⟩:=h1 a h;unfold raw;rw[show(a++10::r).length=(a.length+r.length)+1 from by simp;omega];show(if a++10::r=[]then _ else _)=_;rw[if_neg (by simp),i2,i1];simp only;rw[rawF_more (a.length+r.length) r.length r (by omega) (Nat.le_refl _)]
theorem raw_nil:raw []=[]:=rfl
theorem raw_last {l:List UInt8}(hne:l≠[])(h:(10:UInt8) ∉l):raw l=[l]:=by
 have hd:l.dropWhile (fun c=>decide (c≠10))=[]:=by
  clear hne;induction l with
  | nil=>rfl
  | cons c l ih=>simp only[List.mem_cons,not_or]at h;have hc:decide (c≠10)=true:=(by simpa using Ne.symm h.1);rw[List.dropWhile_cons,if_pos hc];exact ih h.2
 obtain⟨c,t,rfl⟩:=List.exists_cons_of_ne_nil hne;unfold raw;show(if c::t=[]then _ else _)=_;rw[if_neg (by simp),hd]
theorem split10 {l:List UInt8}(h:(10:UInt8)∈l): ∃a r,l=a++10::r∧(10:UInt8) ∉a:=by
 induction l with
 | nil=>simp at h
 | cons c l ih=>
  by_cases e:c=10
  ·exact⟨[],l,by rw[e];rfl,by simp⟩
  ·simp only[List.mem_cons]at h;rcases h with h | h
   ·exact absurd h.symm e
   ·obtain⟨a,r,h1,h2⟩:=ih h;exact⟨c::a,r,by rw[h1];rfl,by simp[Ne.symm e,h2]⟩
def posN:Nat→List UInt8→Nat
 | 0,_=>0
 | n+1,l=>(l.takeWhile (· ≠10)).length+1+posN n ((l.dropWhile (· ≠10)).drop 1)
theorem posN_line (n:Nat)(a r:List UInt8)(h:(10:UInt8) ∉a):posN (n+1) (a++10::r)=a.length+1+posN n r:=by
 have h1:(a++10::r).takeWhile (fun c=>decide (c≠10))=a∧(a++10::r).dropWhile (fun c=>decide (c≠10))=10::r:=by
  induction a with
  | nil=>simp
  | cons c b ih=>simp only[List.mem_cons,not_or]at h;obtain⟨i1,i2⟩:=ih h.2;have hc:decide (c≠10)=true:=(by simpa using Ne.symm h.1);rw[List.cons_append,List.takeWhile_cons,List.dropWhile_cons,if_pos hc,if_pos hc,i1,i2];exact⟨rfl,rfl⟩
 show((a++10::r).takeWhile (fun c=>decide (c≠10))).length+1+posN n (((a++10::r).dropWhile (fun c=>decide (c≠10))).drop 1)=_;rw[h1.1,h1.2];rfl
theorem raw_take: ∀ (n:Nat) (l:List UInt8),n<(raw l).length→raw (l.take (posN n l))=(raw l).take n
 | 0,l,_=>by simp[posN,raw_nil]
 | n+1,l,h=>by
  by_cases h10:(10:UInt8)∈l
  ·obtain⟨a,r,rfl,ha⟩:=split10 h10;rw[raw_line a r ha]at h ⊢;simp only[List.length_cons]at h;rw[posN_line n a r ha,List.take_succ_cons];have e:(a++10::r).take (a.length+1+posN n r)=a++10::r.take (posN n r):=(by rw[Nat.add_assoc,List.take_append,List.take_of_length_le (by omega),show a.length+(1+posN n r)-a.length=posN n r+1 from by omega,List.take_succ_cons]);rw[e,raw_line a _ ha,raw_take n r (by omega)]
  ·exfalso;by_cases hne:l=[]
   ·subst hne;rw[raw_nil]at h;simp at h
   ·rw[raw_last hne h10]at h;simp at h
end ldp
namespace b64p
def idx (c:UInt8):Int:=Lib.indexByte letters c
theorem idx_lt (n:Nat)(h:n<64):idx (letters.getD n 0)=n:=by
 have all: ∀m:Fin 64,idx (letters.getD m.val 0)=m.val:=by decide+kernel
 exact all ⟨n,h⟩
theorem idx_le (c:UInt8): -1≤idx c∧idx c≤63:=by
 have all: ∀m:Fin 256,-1≤idx (UInt8.ofNat m.val)∧idx (UInt8.ofNat m.val)≤63:=by decide+kernel
 have h:=all ⟨c.toNat,c.toNat_lt⟩;simpa using h
theorem lt_ne (n:Nat):lt n≠61:=by
 have all: ∀m:Fin 64,letters.getD m.val 0≠61:=by decide+kernel
 exact all ⟨n % 64,Nat.mod_lt _ (by omega)⟩
theorem idx_of_lt (n:Nat):idx (lt n)=((n % 64:Nat):Int):=idx_lt _ (Nat.mod_lt _ (by omega))
theorem indexByte_hit (l:List UInt8)(c:UInt8): ∀ (n:Nat),(∀m,m<n→l.getD m 0≠c)→n<l.length→l.getD n 0=c→Lib.indexByte l c=n:=by
 induction l with
 | nil=>intro n _ hn;simp at hn
 | cons b l ih=>
  intro n hm hn hc;cases n with
  | zero=>have:b=c:=(by simpa using hc);simp[Lib.indexByte,this]
  | succ n=>have hb:b≠c:=(by simpa using hm 0 (by omega));have h:=ih n (fun m hmn=>by simpa using hm (m+1) (by omega)) (by simpa using hn) (by simpa using hc);simp only[Lib.indexByte];rw[if_neg (by simpa using hb),h,if_neg (by rw[beq_iff_eq];omega)];omega
theorem indexByte_miss (l:List UInt8)(c:UInt8):(∀m,m<l.length→l.getD m 0≠c)→Lib.indexByte l c= -1:=by
 induction l with
 | nil=>intro _;rfl
 | cons b l ih=>
  intro hm;have hb:b≠c:=by simpa using hm 0 (by simp)
  have h:=ih (fun m hmn=>by simpa using hm (m+1) (by simpa using hmn));simp only[Lib.indexByte];rw[if_neg (by simpa using hb),h];rfl
def bit (l:List UInt8)(k:Nat):Nat:=(l.getD (k / 8) 0).toNat / 2 ^ (7-k % 8) % 2
def bits (l:List UInt8)(k:Nat):Nat→Nat
 | 0=>0
 | i+1=>2*bits l k i+bit l (k+i)
def raw (l:List UInt8)(m:Nat):List UInt8:=(List.range m).map fun j=>lt (bits l (6*j) 6)
theorem raw_succ (l:List UInt8)(m:Nat):raw l (m+1)=raw l m++[lt (bits l (6*m) 6)]:=by simp[raw,List.range_succ]
theorem bit_drop (l:List UInt8)(k:Nat):bit l (k+24)=bit (l.drop 3) k:=by unfold bit;rw[show(k+24) / 8=3+k / 8 from by omega,show(k+24) % 8=k % 8 from by omega];simp[List.getD,List.getElem?_drop]
theorem bits_drop (l:List UInt8)(k i:Nat):bits l (k+24) i=bits (l.drop 3) k i:=by
 induction i with
 | zero=>rfl
 | succ i ih=>simp only[bits,ih];rw[show k+24+i=k+i+24 from by omega,bit_drop]
theorem hn0 (a b c:Nat)(la:a<256)(lb:b<256)(lc:c<256):(a*65536+b*256+c) / 2 ^ (18-6*0) % 64=a / 4 % 64:=by simp only[Nat.mul_zero,Nat.sub_zero,Nat.reducePow];omega
theorem hn1 (a b c:Nat)(la:a<256)(lb:b<256)(lc:c<256):(a*65536+b*256+c) / 2 ^ (18-6*1) % 64=(a % 4)*16+b / 16:=by simp only[Nat.mul_one,Nat.reduceSub,Nat.reducePow];omega
theorem hn2 (a b c:Nat)(la:a<256)(lb:b<256)(lc:c<256):(a*65536+b*256+c) / 2 ^ (18-6*2) % 64=(b % 16)*4+c / 64:=by simp only[Nat.reduceMul,Nat.reduceSub,Nat.reducePow];omega
theorem hn3 (a b c:Nat)(la:a<256)(lb:b<256)(lc:c<256):(a*65536+b*256+c) / 2 ^ (18-6*3) % 64=c % 64:=by simp only[Nat.reduceMul,Nat.reduceSub,Nat.reducePow];omega
theorem raw_drop (l:List UInt8)(m:Nat):raw l (4+m)=raw l 4++raw (l.drop 3) m:=by
 induction m with
 | zero=>simp[raw]
 | succ m ih=>rw[show 4+(m+1)=(4+m)+1 from by omega,raw_succ l (4+m),ih,raw_succ (l.drop 3) m,show 6*(4+m)=6*m+24 from by omega,bits_drop,List.append_assoc]
def fRun:List UInt8→Nat→Nat→Option (Nat × Nat)
 | [],n,p=>some (n,p)
 | c::r,n,p=>if c=61 then fRun r (n*64) (p+1)else if idx c<0∨0<p then none else fRun r (n*64+(idx c).toNat) p
def three (n:Nat):List UInt8:=[UInt8.ofNat (n / 65536),UInt8.ofNat (n / 256),UInt8.ofNat n]
def fourD (l:List UInt8):Option (List UInt8):=
 match fRun l 0 0 with
 | none=>none
 | some (n,p)=>if 2<p then none else some ((three n).take (3-p))
def decL (l:List UInt8):Option (List UInt8):=
 if h:l=[]then some []else
  match fourD (l.take 4)with
  | none=>none
  | some r=>(decL (l.drop 4)).map (r++ ·)
termination_by l.length
decreasing_by
 have:l.length≠0:=fun e=>h (List.eq_nil_of_length_eq_zero e);simp;omega
theorem decL_nil:decL []=some []:=by unfold decL;simp
theorem decL_cons {l:List UInt8}(h:l≠[]):decL l=match fourD (l.take 4)with | none=>none | some r=>(decL (l.drop 4)).map (r++ ·):=by
 conv=>lhs;unfold decL
 rw[dif_neg h]
def D (l:List UInt8):Option (List UInt8):=
 if l.length % 4≠0 then none else
  match decL l with
  | none=>none
  | some b=>if enc b=l then some b else none
theorem fRun_lt (x:Nat)(r:List UInt8)(n:Nat):fRun (lt x::r) n 0=fRun r (n*64+x % 64) 0:=by simp only[fRun];rw[if_neg (lt_ne x),if_neg (by rw[idx_of_lt];omega),idx_of_lt];rfl
theorem fRun_pad (r:List UInt8)(n p:Nat):fRun (61::r) n p=fRun r (n*64) (p+1):=by simp[fRun]
theorem ofNat_eq (n:Nat)(a:UInt8)(h:n % 256=a.toNat):UInt8.ofNat n=a:=by apply UInt8.toNat_inj.1;rw[UInt8.toNat_ofNat',h]
theorem fourD_four: ∀ (l:List UInt8),l≠[]→fourD (four l)=some (l.take 3)
 | [],h=>absurd rfl h
 | [a],_=>by
  have ha:=a.toNat_lt;have e:four [a]=[lt (numAt [a] 3 / 2 ^ 18),lt (numAt [a] 3 / 2 ^ 12),61,61]:=rfl;have hn:numAt [a] 3=a.toNat*65536:=by simp[numAt];omega
  rw[e];unfold fourD;simp only[fRun_lt,fRun_pad,hn];simp only[fRun];rw[if_neg (by omega)];simp only[three,List.take];congr 2
  ·apply ofNat_eq;omega
 | [a,b],_=>by
  have ha:=a.toNat_lt;have hb:=b.toNat_lt;have e:four [a,b]=[lt (numAt [a,b] 3 / 2 ^ 18),lt (numAt [a,b] 3 / 2 ^ 12),lt (numAt [a,b] 3 / 2 ^ 6),61]:=rfl;have hn:numAt [a,b] 3=a.toNat*65536+b.toNat*256:=by simp[numAt];omega
  rw[e];unfold fourD;simp only[fRun_lt,fRun_pad,hn];simp only[fRun];rw[if_neg (by omega)];simp only[three,List.take];congr 2
  ·apply ofNat_eq;omega
  ·congr 1;apply ofNat_eq;omega
 | a::b::c::r,_=>by
  have ha:=a.toNat_lt;have hb:=b.toNat_lt;have hc:=c.toNat_lt;have hn:numAt (a::b::c::r) 3=a.toNat*65536+b.toNat*256+c.toNat:=by simp[numAt];omega
  have e:four (a::b::c::r)=[lt (numAt (a::b::c::r) 3 / 2 ^ 18),lt (numAt (a::b::c::r) 3 / 2 ^ 12),lt (numAt (a::b::c::r) 3 / 2 ^ 6),lt (numAt (a::b::c::r) 3 / 2 ^ 0)]:=by unfold four;rw[show List.range 4=[0,1,2,3]from rfl];simp only[List.map,sign,List.length_cons];rw[if_neg (by omega),if_neg (by omega),if_neg (by omega),if_neg (by omega)]
  rw[e];unfold fourD;simp only[fRun_lt,hn];simp only[fRun];rw[if_neg (by omega)];simp only[three,List.take];congr 2
  ·apply ofNat_eq;omega
  ·congr 1
   ·apply ofNat_eq;omega
   ·congr 1;apply ofNat_eq;omega
theorem decL_enc: ∀ (n:Nat) (l:List UInt8),l.length≤n→decL (enc l)=some l
 | n,l,h=>by
  by_cases hl:l=[]
  ·subst hl;rw[enc_nil,decL_nil]
  ·have hpos:0<l.length:=List.length_pos_iff.2 hl;rw[enc_cons hl,decL_cons (by intro e;have:=congrArg List.length e;rw[List.length_append,four_length]at this;simp at this)];rw[List.take_left' (four_length l),List.drop_left' (four_length l),fourD_four l hl];cases n with
   | zero=>omega
   | succ n=>have ih:=decL_enc n (l.drop 3) (by simp;omega);simp only[ih,Option.map_some,List.take_append_drop]
theorem fourD_len {l r:List UInt8}(h:fourD l=some r):r.length≤3:=by
 unfold fourD at h;split at h
 ·cases h
 ·split at h
  ·cases h
  ·cases h;rw[List.length_take];simp[three]
def rRun:List UInt8→Nat→Nat→List UInt8→Option (List UInt8)
 | [],_,_,d=>some d
 | c::r,n,b,d=>
  if c=61 then some d else if idx c<0 then none else
   if 8≤b+6 then rRun r ((n*64+(idx c).toNat) % 2 ^ (b+6-8)) (b+6-8) (d++[UInt8.ofNat ((n*64+(idx c).toNat) / 2 ^ (b+6-8))])
   else rRun r (n*64+(idx c).toNat) (b+6) d
def R (l:List UInt8):Option (List UInt8):=
 match rRun l 0 0 []with
 | none=>none
 | some b=>if enc b=l then some b else none
theorem D_enc (l:List UInt8):D (enc l)=some l:=by unfold D;rw[if_neg (by have:=(enc_length _ l (Nat.le_refl _)).2;omega),decL_enc _ l (Nat.le_refl _)];simp
end b64p
namespace ldp
def tyAt (k:Nat)(c:UInt8):Prop:=(65≤(c.toNat:Int)∧(c.toNat:Int)≤90)∨(97≤(c.toNat:Int)∧(c.toNat:Int)≤122)∨(k≠0∧((c.toNat:Int)=45∨(48≤(c.toNat:Int)∧(c.toNat:Int)≤57)))
instance (k:Nat)(c:UInt8):Decidable (tyAt k c):=by unfold tyAt;infer_instance
def typeOK (l:List UInt8):Bool:=decide (l≠[]∧l.length≤64∧ ∀k (h:k<l.length),tyAt k l[k])
def plAt (k:Nat)(c:UInt8):Prop:=(c.toNat:Int)≠0∧(c.toNat:Int)≤127∧(c.toNat:Int)≠10∧(c.toNat:Int)≠13∧(k=0→(c.toNat:Int)≠32∧(c.toNat:Int)≠58∧(c.toNat:Int)≠60)
instance (k:Nat)(c:UInt8):Decidable (plAt k c):=by unfold plAt;infer_instance
def plainOK (l:List UInt8):Bool:=decide (∀k (h:k<l.length),plAt k l[k])
def isDn (l:List UInt8):Bool:=l==[100,110]||l==[68,110]||l==[100,78]||l==[68,78]
def pairL (l:List UInt8):Option (List UInt8 × List UInt8):=
 match l.dropWhile (· ≠58)with
 | []=>none
 | _::r=>if typeOK (l.takeWhile (· ≠58))=true then
   (if r.head?=some 58 then(b64p.D (r.tail.dropWhile (· ==32))).map (fun v=>(l.takeWhile (· ≠58),v))
   else if plainOK (r.dropWhile (· ==32))=true then some (l.takeWhile (· ≠58),r.dropWhile (· ==32))else none)
  else none
theorem typeOK_no {s:ByteArray}{k:Nat}(hk:k<s.size)(h: ¬tyAt k s[k]):false=typeOK s.data.toList:=by symm;unfold typeOK;rw[decide_eq_false_iff_not];rintro⟨_,_,h3⟩;exact h (h3 k (by simpa using hk))
theorem typeOK_end {s:ByteArray}(h: ∀k (hk:k<s.size),tyAt k s[k])(h0:s.size≠0)(h1:s.size≤64):true=typeOK s.data.toList:=by
 symm;unfold typeOK;have hl:s.data.toList.length=s.size:=by simp
 rw[decide_eq_true_iff];refine⟨fun e=>by rw[e]at hl;simp at hl;omega,by omega,fun k hk=>h k (by omega)⟩
theorem typeOK_len {s:ByteArray}(h1:s.size=0∨64<s.size):false=typeOK s.data.toList:=by
 symm;unfold typeOK;have hl:s.data.toList.length=s.size:=by simp
 rw[decide_eq_false_iff_not];rintro⟨h2,h3,_⟩;rcases h1 with h1 | h1
 ·exact h2 (List.eq_nil_of_length_eq_zero (by omega))
 ·omega
theorem plainOK_no {s:ByteArray}{k:Nat}(hk:k<s.size)(h: ¬plAt k s[k]):false=plainOK s.data.toList:=by symm;unfold plainOK;rw[decide_eq_false_iff_not];intro h3;exact h (h3 k (by simpa using hk))
theorem plainOK_end {s:ByteArray}(h: ∀k (hk:k<s.size),plAt k s[k]):true=plainOK s.data.toList:=by symm;unfold plainOK;rw[decide_eq_true_iff];exact fun k hk=>h k (by simpa using hk)
theorem cutL {A R:List UInt8}{c:UInt8}(h:c∉A):(A++c::R).takeWhile (fun x=>decide (x≠c))=A∧(A++c::R).dropWhile (fun x=>decide (x≠c))=c::R:=by
 induction A with
 | nil=>simp
 | cons d b ih=>
  simp only[List.mem_cons,not_or]at h;obtain⟨i1,i2⟩:=ih h.2;have hc:decide (d≠c)=true:=by simpa using Ne.symm h.1
  rw[List.cons_append,List.takeWhile_cons,List.dropWhile_cons,if_pos hc,if_pos hc,i1,i2];exact⟨rfl,rfl⟩
theorem dropL {l:List UInt8}{c:UInt8}(h:c∉l):l.dropWhile (fun x=>decide (x≠c))=[]:=by
 induction l with
 | nil=>rfl
 | cons d b ih=>
  simp only[List.mem_cons,not_or]at h;have hc:decide (d≠c)=true:=by simpa using Ne.symm h.1
  rw[List.dropWhile_cons,if_pos hc];exact ih h.2
theorem splitL {l:List UInt8}{c:UInt8}(h:c∈l): ∃a r,l=a++c::r∧c∉a:=by
 induction l with
 | nil=>simp at h
 | cons d l ih=>
  by_cases e:d=c
  ·exact⟨[],l,by rw[e];rfl,by simp⟩
  ·simp only[List.mem_cons]at h;rcases h with h | h
   ·exact absurd h.symm e
   ·obtain⟨a,r,h1,h2⟩:=ih h;exact⟨d::a,r,by rw[h1];rfl,by simp[Ne.symm e,h2]⟩
theorem pairL_none {l:List UInt8}(h:(58:UInt8) ∉l):pairL l=none:=by unfold pairL;rw[dropL h]
theorem pairL_at {A R:List UInt8}(h:(58:UInt8) ∉A):pairL (A++58::R)=if typeOK A=true then
   (if R.head?=some 58 then(b64p.D (R.tail.dropWhile (· ==32))).map (fun v=>(A,v))
   else if plainOK (R.dropWhile (· ==32))=true then some (A,R.dropWhile (· ==32))else none)
  else none:=by
 unfold pairL;rw[(cutL h).1,(cutL h).2]
end ldp
namespace ldp
def version:List UInt8:=[118,101,114,115,105,111,110,58,32,49]
def skipL (i:Nat)(l:List UInt8):Bool:=decide (l.head?=some 35)||(decide (i=0)&&decide (l=version))
abbrev foldL (i:Nat)(recs:List Rec)(op:Bool)(rows:List Row):Nat ⊕ List Rec:=foldR pairL isDn skipL i recs op rows
def parseL (l:List UInt8):Nat ⊕ List Rec:=foldL 0 [] false (rowsR [] 0 (raw l))
theorem splitRaw {l:List UInt8}(h:l≠[]): ∃X R,raw l=X::raw R∧X.length+R.length≤l.length∧R.length<l.length∧((10:UInt8) ∉l→R=[])∧((10:UInt8)∈l→R=l.drop (posN 1 l)∧posN 1 l≤l.length):=by
 by_cases h10:(10:UInt8)∈l
 ·obtain⟨A,R,rfl,hA⟩:=split10 h10;refine⟨trimCR A,R,raw_line A R hA,?_,by simp;omega,fun hn=>absurd h10 hn,fun _=> ?_⟩
  ·have:(trimCR A).length≤A.length:=(by unfold trimCR;split<;>simp);simp;omega
  ·rw[posN_line 0 A R hA];show R=(A++10::R).drop (A.length+1+0)∧A.length+1+0≤_;simp
 ·refine⟨l,[],raw_last h h10,by simp,?_,fun _=>rfl,fun hn=>absurd hn h10⟩;cases l with
  | nil=>exact absurd rfl h
  | cons a t=>simp
theorem raw_len: ∀ (n:Nat) (l:List UInt8),l.length≤n→(raw l).length≤l.length
 | n,l,h=>by
  by_cases hne:l=[]
  ·subst hne;simp[raw_nil]
  ·obtain⟨X,R,h1,h2,h3,_⟩:=splitRaw hne;rw[h1,List.length_cons]
   match n,h with
   | 0,h=>have:l=[]:=List.eq_nil_of_length_eq_zero (by omega);exact absurd this hne
   | n+1,h=>have:=raw_len n R (by omega);omega
def sumL (ls:List (List UInt8)):Nat:=(ls.map List.length).sum
theorem raw_sum: ∀ (n:Nat) (l:List UInt8),l.length≤n→sumL (raw l)≤l.length
 | n,l,h=>by
  by_cases hne:l=[]
  ·subst hne;simp[raw_nil,sumL]
  ·obtain⟨X,R,h1,h2,h3,_⟩:=splitRaw hne;rw[h1]
   match n,h with
   | 0,h=>have:l=[]:=List.eq_nil_of_length_eq_zero (by omega);exact absurd this hne
   | n+1,h=>have:=raw_sum n R (by omega);unfold sumL at this ⊢;rw[List.map_cons,List.sum_cons];omega
theorem rowsP_all (M:Nat): ∀ (ls:List (List UInt8)) (acc:List Row) (no:Nat),(∀x∈acc,x.text.length+sumL ls≤M∧0<x.no∧x.lost=false)→sumL ls≤M→
  (rowsP acc no ls).1.length≤acc.length+ls.length∧(∀x∈(rowsP acc no ls).1,x.text.length≤M∧0<x.no∧x.lost=false)∧ ∀k,(rowsP acc no ls).2=some k→no<k∧k≤no+ls.length
 | [],acc,no,h,hs=>⟨by show acc.length≤_;simp,fun x hx=>⟨by have:=(h x hx).1;omega,(h x hx).2⟩,fun k hk=>by unfold rowsP at hk;cases hk⟩
 | t::r,acc,no,h,hs=>by
  have hsum:sumL (t::r)=t.length+sumL r:=by unfold sumL;simp
  rw[hsum]at h hs;have hstop:(∀x∈acc,x.text.length≤M∧0<x.no∧x.lost=false):=fun x hx=>⟨by have:=(h x hx).1;omega,(h x hx).2⟩;unfold rowsP;by_cases hg:goes t=false
  ·rw[if_pos hg];obtain⟨h1,h2,h3⟩:=rowsP_all M r (acc++[⟨t,no+1,false⟩]) (no+1) (fun x hx=>by
    rcases List.mem_append.1 hx with hx | hx
    ·have:=h x hx;exact⟨by omega,this.2⟩
    ·simp only[List.mem_singleton]at hx;subst hx;exact⟨by show t.length+_≤_;omega,by show 0<no+1;omega,rfl⟩) (by omega)
   refine⟨by simp at h1 ⊢;omega,h2,fun k hk=> ?_⟩;have:=h3 k hk;simp;omega
  ·rw[if_neg hg];cases hl:acc.getLast? with
   | none=>exact⟨by simp only[];omega,hstop,fun k hk=>by simp only[Option.some.injEq]at hk;subst hk;simp⟩
   | some x=>
    simp only;by_cases he:x.text=[]
    ·rw[if_pos he];exact⟨by simp only[];omega,hstop,fun k hk=>by simp only[Option.some.injEq]at hk;subst hk;simp⟩
    ·rw[if_neg he];have hxm:x∈acc:=List.mem_of_getLast? hl;have hlen:acc.dropLast.length+1=acc.length:=(by rw[List.length_dropLast];have:0<acc.length:=List.length_pos_of_mem hxm;omega);obtain⟨h1,h2,h3⟩:=rowsP_all M r (acc.dropLast++[⟨x.text++t.drop 1,x.no,false⟩]) (no+1) (fun y hy=>by
      rcases List.mem_append.1 hy with hy | hy
      ·have:=h y (List.dropLast_subset _ hy);exact⟨by omega,this.2⟩
      ·simp only[List.mem_singleton]at hy;subst hy;have:=h x hxm;exact⟨by show(x.text++t.drop 1).length+_≤_;rw[List.length_append,List.length_drop];omega,this.2.1,rfl⟩) (by omega)
     refine⟨by rw[List.length_append,List.length_singleton]at h1;rw[List.length_cons];omega,h2,fun k hk=> ?_⟩;have:=h3 k hk;simp;omega
theorem foldL_pos: ∀ (rows:List Row) (i:Nat) (recs:List Rec) (op:Bool) (k:Nat),(∀x∈rows,0<x.no)→foldL i recs op rows= .inl k→0<k
 | [],i,recs,op,k,h,e=>by unfold foldL foldR at e;cases e
 | x::r,i,recs,op,k,h,e=>by
  have hx:=h x (by simp);have hr: ∀y∈r,0<y.no:=fun y hy=>h y (by simp[hy]);unfold foldL foldR at e;split at e
  ·cases e;exact hx
  ·split at e
   ·exact foldL_pos r _ _ _ k hr e
   ·split at e
    ·exact foldL_pos r _ _ _ k hr e
    ·split at e
     ·cases e;exact hx
     ·split at e
      ·cases e;exact hx
      ·split at e
       ·exact foldL_pos r _ _ _ k hr e
       ·exact foldL_pos r _ _ _ k hr e
theorem raw_drop: ∀ (n:Nat) (l:List UInt8),n<(raw l).length→raw (l.drop (posN n l))=(raw l).drop n∧posN n l≤l.length
 | 0,l,_=>by simp[posN]
 | n+1,l,h=>by
  by_cases h10:(10:UInt8)∈l
  ·obtain⟨a,r,rfl,ha⟩:=split10 h10;rw[raw_line a r ha]at h ⊢;simp only[List.length_cons]at h;rw[posN_line n a r ha,List.drop_succ_cons];obtain⟨i1,i2⟩:=raw_drop n r (by omega);have e:(a++10::r).drop (a.length+1+posN n r)=r.drop (posN n r):=(by rw[Nat.add_assoc,List.drop_append,List.drop_of_length_le (by omega),show a.length+(1+posN n r)-a.length=posN n r+1 from by omega,List.drop_succ_cons];rfl);rw[e];exact⟨i1,by simp;omega⟩
  ·exfalso;by_cases hne:l=[]
   ·subst hne;rw[raw_nil]at h;simp at h
   ·rw[raw_last hne h10]at h;simp at h
theorem posN_succ: ∀ (n:Nat) (l:List UInt8),n+1<(raw l).length→ ∃A R,l.drop (posN n l)=A++10::R∧(10:UInt8) ∉A∧posN (n+1) l=posN n l+A.length+1
 | 0,l,h=>by
  by_cases h10:(10:UInt8)∈l
  ·obtain⟨a,r,rfl,ha⟩:=split10 h10;refine⟨a,r,rfl,ha,?_⟩;rw[posN_line 0 a r ha];show a.length+1+0=0+a.length+1;omega
  ·exfalso;by_cases hne:l=[]
   ·subst hne;rw[raw_nil]at h;simp at h
   ·rw[raw_last hne h10]at h;simp at h
 | n+1,l,h=>by
  by_cases h10:(10:UInt8)∈l
  ·obtain⟨a,r,rfl,ha⟩:=split10 h10;rw[raw_line a r ha]at h;simp only[List.length_cons]at h;obtain⟨A,R,i1,i2,i3⟩:=posN_succ n r (by omega);refine⟨A,R,?_,i2,?_⟩
   ·rw[posN_line n a r ha,←i1,Nat.add_assoc,List.drop_append,List.drop_of_length_le (by omega),show a.length+(1+posN n r)-a.length=posN n r+1 from by omega,List.drop_succ_cons];rfl
   ·rw[posN_line (n+1) a r ha,posN_line n a r ha,i3];omega
  ·exfalso;by_cases hne:l=[]
   ·subst hne;rw[raw_nil]at h;simp at h
   ·rw[raw_last hne h10]at h;simp at h
end ldp
end Go.Proofs.YtmnpfkbjpeaemaaGreatDoor
