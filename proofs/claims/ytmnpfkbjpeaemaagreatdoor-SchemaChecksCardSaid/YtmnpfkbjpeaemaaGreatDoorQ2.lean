/- One text out of several: DnP, LowP, Shelf, HexD, BuildS. -/
import Derived.Lib.Hide
import Derived.Test.YtmnpfkbjpeaemaaGreatDoorQ1
import Derived.Lib.MapLaws
import Derived.Laws.RangeAny
import Derived.Shelf.Strings.Builder1
import Derived.Shelf.Strings.OnBuilder
import Derived.Shelf.Strings.Trim
import Derived.Shelf.Small.Strs
import Derived.Shelf.Small.Wraps
import Derived.Shelf.Utf8.AppendRunePlain
import Derived.Shelf.Strings.Search2
import Derived.Shelf.Strings.Cut
import Derived.Shelf.LaysM
import Derived.Shelf.Sort.Plain
import Derived.Shelf.Strings.Prefix
import Derived.Shelf.Strings.Split
import Derived.Shelf.Strings.Replace
import Derived.Shelf.Unicode.DecodeSlow
import Derived.Shelf.Strings.MapAny
import Derived.Shelf.Slices.Turned
import Derived.Shelf.Slices.Clone
import Derived.Shelf.Slices.CompactS
import Derived.Shelf.Slices.Delete
import Derived.Shelf.Slices.In.SortNone
import Derived.Shelf.Slices.Empties
import Derived.Test.YtmnpfkbjpeaemaaGreatDoorProg
import Derived.Test.YtmnpfkbjpeaemaaGreatDoorRows
import Derived.Lib.Builder
import Derived.Lib.AppendZeros
import Derived.WalkLawsBesides
import Derived.Lib.AppendStr
set_option linter.unusedVariables false
set_option linter.unusedSimpArgs false
set_option maxRecDepth 20000
set_option maxHeartbeats 1100000
namespace Go.Proofs.YtmnpfkbjpeaemaaGreatDoor
namespace dnp
open b64p (valI)
abbrev Sg:=UInt8 × Bool
abbrev Pr:=List UInt8 × List UInt8
def special (c:UInt8):Bool:=decide (c=34∨c=43∨c=44∨c=59∨c=60∨c=61∨c=62∨c=92)
def isSep (c:UInt8):Bool:=decide (c=44∨c=59∨c=43)
def bad (c:UInt8):Bool:=decide (c=34∨c=60∨c=62)
def esc:List UInt8→Option (UInt8 × Nat)
 | []=>none
 | d::t=>if special d=true∨d=35∨d=32 then some (d,1)else match t with
  | []=>none
  | e::_=>if valI d<0∨valI e<0 then none else some (UInt8.ofNat (16*valI d+valI e).toNat,2)
theorem esc_two {t:List UInt8}{d:UInt8}{n:Nat}(h:esc t=some (d,n)):1≤n∧n≤2∧n≤t.length:=by
 unfold esc at h
 repeat' split at h
 all_goals(try cases h)
 all_goals(simp;try omega)
def signsF:Nat→List UInt8→Option (List Sg)
 | 0,_=>some []
 | _+1,[]=>some []
 | f+1,c::t=>if c≠92 then(signsF f t).map ((c,true):: ·)else match esc t with
  | none=>none
  | some (d,n)=>(signsF f (t.drop n)).map ((d,false):: ·)
def signs (l:List UInt8):Option (List Sg):=signsF l.length l
theorem signsF_more: ∀ (f g:Nat) (l:List UInt8),l.length≤f→l.length≤g→signsF f l=signsF g l
 | 0,g,l,h,_=>by have:l=[]:=List.eq_nil_of_length_eq_zero (by omega);subst this;cases g<;>rfl
 | f+1,0,l,_,h=>by have:l=[]:=List.eq_nil_of_length_eq_zero (by omega);subst this;rfl
 | f+1,g+1,[],_,_=>rfl
 | f+1,g+1,c::t,h,h'=>by
  simp only[List.length_cons]at h h';unfold signsF;by_cases e:c≠92
  ·rw[if_pos e,if_pos e,signsF_more f g t (by omega) (by omega)]
  ·rw[if_neg e,if_neg e];cases he:esc t with
   | none=>rfl
   | some p=>obtain⟨d,n⟩:=p;simp only[];rw[signsF_more f g (t.drop n) (by rw[List.length_drop];omega) (by rw[List.length_drop];omega)]
theorem signs_nil:signs []=some []:=rfl
theorem signs_bare (c:UInt8)(t:List UInt8)(h:c≠92):signs (c::t)=(signs t).map ((c,true):: ·):=by show signsF (t.length+1) (c::t)=_;rw[signsF,if_pos h];rfl
theorem signs_esc (t:List UInt8)(d:UInt8)(n:Nat)(h:esc t=some (d,n)):signs (92::t)=(signs (t.drop n)).map ((d,false):: ·):=by show signsF (t.length+1) (92::t)=_;rw[signsF,if_neg (by simp),h];simp only[];rw[signsF_more t.length (t.drop n).length _ (by rw[List.length_drop];omega) (Nat.le_refl _)];rfl
theorem signs_bad (t:List UInt8)(h:esc t=none):signs (92::t)=none:=by show signsF (t.length+1) (92::t)=_;rw[signsF,if_neg (by simp),h]
theorem signs_app (p r:List UInt8)(h:(92:UInt8) ∉p):signs (p++r)=(signs r).map (p.map (·,true)++ ·):=by
 induction p with
 | nil=>simp
 | cons c p ih=>simp only[List.mem_cons,not_or]at h;rw[List.cons_append,signs_bare c _ (Ne.symm h.1),ih h.2,Option.map_map];rfl
theorem signs_of_bare {l:List UInt8}{c:UInt8}{L:List Sg}(h:signs l=some ((c,true)::L)): ∃t,l=c::t∧c≠92∧signs t=some L:=by
 cases l with
 | nil=>rw[signs_nil]at h;simp at h
 | cons d t=>
  by_cases e:d=92
  ·subst e;cases he:esc t with
   | none=>rw[signs_bad t he]at h;cases h
   | some p=>obtain⟨x,n⟩:=p;rw[signs_esc t x n he]at h;obtain⟨M,_,hM⟩:=Option.map_eq_some_iff.1 h;simp at hM
  ·rw[signs_bare d t e]at h;obtain⟨M,h1,hM⟩:=Option.map_eq_some_iff.1 h;simp only[List.cons.injEq,Prod.mk.injEq,and_true]at hM;obtain⟨rfl,rfl⟩:=hM;exact⟨t,rfl,e,h1⟩
theorem signs_of_bares: ∀ (a:List UInt8) (l:List UInt8) (L:List Sg),signs l=some (a.map (·,true)++L)→ ∃r,l=a++r∧(92:UInt8) ∉a∧signs r=some L
 | [],l,L,h=>⟨l,rfl,by simp,h⟩
 | c::a,l,L,h=>by obtain⟨t,rfl,h1,h2⟩:=signs_of_bare h;obtain⟨r,rfl,h3,h4⟩:=signs_of_bares a t L h2;exact⟨r,rfl,by simp[h3,Ne.symm h1],h4⟩
def sepS (x:Sg):Bool:=x.2&&isSep x.1
def segs:List Sg→List Sg × List (UInt8 × List Sg)
 | []=>([],[])
 | x::t=>if sepS x=true then([],(x.1,(segs t).1)::(segs t).2)else(x::(segs t).1,(segs t).2)
theorem segs_none (B:List Sg)(h: ∀x∈B,sepS x=false):segs B=(B,[]):=by
 induction B with
 | nil=>rfl
 | cons x B ih=>rw[segs,if_neg (by rw[h x (by simp)];simp),ih (fun y hy=>h y (by simp[hy]))]
theorem segs_at (B:List Sg)(c:UInt8)(L:List Sg)(h: ∀x∈B,sepS x=false)(hc:isSep c=true):segs (B++(c,true)::L)=(B,(c,(segs L).1)::(segs L).2):=by
 induction B with
 | nil=>rw[List.nil_append,segs,if_pos (by simpa[sepS]using hc)]
 | cons x B ih=>rw[List.cons_append,segs,if_neg (by rw[h x (by simp)];simp),ih (fun y hy=>h y (by simp[hy]))]
theorem segs_app (B L:List Sg)(h: ∀x∈B,sepS x=false):segs (B++L)=(B++(segs L).1,(segs L).2):=by
 induction B with
 | nil=>rfl
 | cons x B ih=>rw[List.cons_append,segs,if_neg (by rw[h x (by simp)];simp),ih (fun y hy=>h y (by simp[hy]))];rfl
def blankS (x:Sg):Bool:=x.2&&decide (x.1=32)
def trimR (B:List Sg):List Sg:=(B.reverse.dropWhile blankS).reverse
def trim (B:List Sg):List Sg:=trimR (B.dropWhile blankS)
theorem dropW_app {α:Type}(p:α→Bool): ∀ (a b:List α),(∀x∈a,p x=true)→(a++b).dropWhile p=b.dropWhile p
 | [],b,_=>rfl
 | x::a,b,h=>by rw[List.cons_append,List.dropWhile_cons,if_pos (h x (by simp)),dropW_app p a b (fun y hy=>h y (by simp[hy]))]
theorem dropW_split {α:Type}(p:α→Bool): ∀ (l:List α),∃a,l=a++l.dropWhile p∧(∀x∈a,p x=true)
 | []=>⟨[],rfl,by simp⟩
 | x::l=>by
  by_cases h:p x=true
  ·obtain⟨a,h1,h2⟩:=dropW_split p l;refine⟨x::a,?_,?_⟩
   ·rw[List.dropWhile_cons,if_pos h,List.cons_append,←h1]
   ·intro y hy;rcases List.mem_cons.1 hy with rfl | hy
    ·exact h
    ·exact h2 y hy
  ·exact⟨[],by rw[List.dropWhile_cons,if_neg h];rfl,by simp⟩
theorem dropW_head {α:Type}(p:α→Bool): ∀ (l:List α) (x:α) (t:List α),l.dropWhile p=x::t→p x=false
 | [],x,t,h=>by simp at h
 | y::l,x,t,h=>by
  by_cases e:p y=true
  ·rw[List.dropWhile_cons,if_pos e]at h;exact dropW_head p l x t h
  ·rw[List.dropWhile_cons,if_neg e]at h;cases h;simpa using e
theorem dropW_keep {α:Type}(p:α→Bool)(l:List α)(x:α)(h:x∈l)(hx:p x=false):x∈l.dropWhile p:=by
 obtain⟨a,h1,h2⟩:=dropW_split p l;rw[h1]at h;rcases List.mem_append.1 h with h | h
 ·rw[h2 x h]at hx;cases hx
 ·exact h
theorem dropW_id {α:Type}(p:α→Bool)(l:List α)(h: ∀x t,l=x::t→p x=false):l.dropWhile p=l:=by
 cases l with
 | nil=>rfl
 | cons x t=>rw[List.dropWhile_cons,if_neg (by rw[h x t rfl];simp)]
theorem trimR_split (B:List Sg): ∃a,B=trimR B++a∧ ∀x∈a,blankS x=true:=by obtain⟨a,h1,h2⟩:=dropW_split blankS B.reverse;refine⟨a.reverse,?_,fun x hx=>h2 x (List.mem_reverse.1 hx)⟩;unfold trimR;rw[←List.reverse_append,←h1,List.reverse_reverse]
theorem trimR_keep (B:List Sg)(x:Sg)(h:x∈B)(hx:blankS x=false):x∈trimR B:=by unfold trimR;rw[List.mem_reverse];exact dropW_keep _ _ _ (List.mem_reverse.2 h) hx
theorem trim_keep (B:List Sg)(x:Sg)(h:x∈B)(hx:blankS x=false):x∈trim B:=trimR_keep _ x (dropW_keep _ _ _ h hx) hx
theorem trimR_head (x:Sg)(B:List Sg)(hx:blankS x=false): ∃t,trimR (x::B)=x::t:=by
 obtain⟨a,h1,h2⟩:=trimR_split (x::B);have hm:=trimR_keep (x::B) x (by simp) hx;cases ht:trimR (x::B)with
 | nil=>rw[ht]at hm;simp at hm
 | cons y t=>rw[ht]at h1;cases h1;exact⟨t,rfl⟩
theorem trimR_mem (B:List Sg)(x:Sg)(h:x∈trimR B):x∈B:=by obtain⟨a,h1,_⟩:=trimR_split B;rw[h1];exact List.mem_append_left _ h
def low (c:UInt8):UInt8:=if 65≤c∧c≤90 then c+32 else c
def letter (c:UInt8):Bool:=decide (97≤c∧c≤122)
def typeCh (c:UInt8):Bool:=letter c||decide (48≤c∧c≤57)||decide (c=45)
def typeOK (t:List UInt8):Bool:=(match t with
 | []=>false
 | c::_=>letter c)&&decide (t.length≤32)&&t.all typeCh
def lowL (t:List UInt8):List UInt8:=t.map low
theorem low_ch: ∀c:UInt8,typeCh (low c)=true→c≠32∧c≠61∧c≠92∧c≠44∧c≠59∧c≠43:=by intro c h;refine⟨?_,?_,?_,?_,?_,?_⟩<;>(rintro rfl;revert h;decide)
theorem type_mem {t:List UInt8}(h:typeOK (lowL t)=true):t≠[]∧ ∀c∈t,typeCh (low c)=true:=by
 unfold typeOK at h;simp only[Bool.and_eq_true]at h;obtain⟨⟨h1,_⟩,h2⟩:=h;refine⟨?_,?_⟩
 ·rintro rfl;simp[lowL]at h1
 ·intro c hc;exact List.all_eq_true.1 h2 (low c) (List.mem_map.2 ⟨c,hc,rfl⟩)
def eqS (x:Sg):Bool:=x.2&&decide (x.1=61)
def rightOK (R:List Sg):Bool:= !(R.any fun x=>x.2&&bad x.1)&&(match R with
 | []=>true
 | x::_=> !(x.2&&decide (x.1=35)))
def pairS (s:List Sg):Option Pr:=
 match s.dropWhile (fun x=> !eqS x)with
 | []=>none
 | _::V=>
  let left:=trim (s.takeWhile fun x=> !eqS x)
  if(left.all (·.2))=true∧typeOK (lowL (left.map (·.1)))=true∧rightOK (trim V)=true then some (lowL (left.map (·.1)),(trim V).map (·.1))else none
theorem takeW_no {α:Type}(p:α→Bool): ∀ (a:List α) (x:α) (b:List α),(∀y∈a,p y=true)→p x=false→(a++x::b).takeWhile p=a∧(a++x::b).dropWhile p=x::b
 | [],x,b,_,hx=>by simp[hx]
 | y::a,x,b,h,hx=>by obtain⟨h1,h2⟩:=takeW_no p a x b (fun z hz=>h z (by simp[hz])) hx;rw[List.cons_append,List.takeWhile_cons,List.dropWhile_cons,if_pos (h y (by simp)),if_pos (h y (by simp)),h1,h2];exact⟨rfl,rfl⟩
theorem pairS_at (A V:List Sg)(h: ∀x∈A,eqS x=false):pairS (A++(61,true)::V)=if((trim A).all (·.2))=true∧typeOK (lowL ((trim A).map (·.1)))=true∧rightOK (trim V)=true then some (lowL ((trim A).map (·.1)),(trim V).map (·.1))else none:=by obtain⟨h1,h2⟩:=takeW_no (fun x=> !eqS x) A ((61,true):Sg) V (fun x hx=>by rw[h x hx];rfl) (by decide);unfold pairS;rw[h1,h2]
theorem pairS_some {s:List Sg}{p:Pr}(h:pairS s=some p): ∃A V,s=A++(61,true)::V∧(∀x∈A,eqS x=false)∧((trim A).all (·.2))=true∧typeOK (lowL ((trim A).map (·.1)))=true∧rightOK (trim V)=true∧p=(lowL ((trim A).map (·.1)),(trim V).map (·.1)):=by
 obtain⟨A,h1,h2⟩:=dropW_split (fun x=> !eqS x) s;cases hd:s.dropWhile (fun x=> !eqS x)with
 | nil=>unfold pairS at h;rw[hd]at h;cases h
 | cons x V=>
  have hx:=dropW_head _ _ _ _ hd;have hx':x=(61,true):=by obtain⟨c,b⟩:=x;simp only[Bool.not_eq_false',eqS,Bool.and_eq_true,decide_eq_true_eq]at hx;obtain⟨rfl,rfl⟩:=hx;rfl
  subst hx';rw[hd]at h1;have hA: ∀x∈A,eqS x=false:=fun x hx=>by have:=h2 x hx;simpa using this
  rw[h1,pairS_at A V hA]at h;split at h
  ·rename_i hc;cases h;exact⟨A,V,h1,hA,hc.1,hc.2.1,hc.2.2,rfl⟩
  ·cases h
def trimB (l:List UInt8):List UInt8:=((l.dropWhile (· =32)).reverse.dropWhile (· =32)).reverse
theorem map_dropW {α β:Type}(f:α→β)(p:β→Bool): ∀l:List α,(l.map f).dropWhile p=(l.dropWhile (fun x=>p (f x))).map f
 | []=>rfl
 | x::l=>by
  rw[List.map_cons,List.dropWhile_cons,List.dropWhile_cons];split
  ·rw[map_dropW f p l]
  ·rfl
theorem blankS_bare (c:UInt8):blankS (c,true)=decide (c=32):=by simp[blankS]
theorem trim_bare (a:List UInt8):trim (a.map (·,true))=(trimB a).map (·,true):=by
 unfold trim trimR trimB;have e:(fun x:UInt8=>blankS (x,true))=(fun x=>decide (x=32)):=by funext x;exact blankS_bare x
 rw[map_dropW,e,←List.map_reverse,map_dropW,e,List.map_reverse]
theorem trimB_split (a:List UInt8): ∃x y,a=x++trimB a++y∧(∀c∈x,c=32)∧(∀c∈y,c=32):=by
 obtain⟨x,h1,h2⟩:=dropW_split (fun c:UInt8=>decide (c=32)) a;obtain⟨y,h3,h4⟩:=dropW_split (fun c:UInt8=>decide (c=32)) (a.dropWhile (fun c=>decide (c=32))).reverse;refine⟨x,y.reverse,?_,fun c hc=>by simpa using h2 c hc,fun c hc=>by simpa using h4 c (List.mem_reverse.1 hc)⟩;have h5:a.dropWhile (fun c=>decide (c=32))=trimB a++y.reverse:=by unfold trimB;rw[←List.reverse_append,←h3,List.reverse_reverse]
 rw[List.append_assoc,←h5,←h1]
def kindP (l:List UInt8):Option (List UInt8 × List UInt8):=
 let l1:=l.dropWhile (· =32)
 let T:=l1.takeWhile fun c=>decide (c≠61∧c≠32)
 match((l1.dropWhile fun c=>decide (c≠61∧c≠32)).dropWhile (· =32))with
 | []=>none
 | c::r=>if c=61∧typeOK (lowL T)=true then some (lowL T,r)else none
theorem takeW_all {α:Type}(p:α→Bool): ∀ (a b:List α),(∀y∈a,p y=true)→(∀x t,b=x::t→p x=false)→(a++b).takeWhile p=a∧(a++b).dropWhile p=b
 | [],b,_,hb=>by
  cases b with
  | nil=>exact⟨rfl,rfl⟩
  | cons x t=>simp[hb x t rfl]
 | y::a,b,h,hb=>by obtain⟨h1,h2⟩:=takeW_all p a b (fun z hz=>h z (by simp[hz])) hb;rw[List.cons_append,List.takeWhile_cons,List.dropWhile_cons,if_pos (h y (by simp)),if_pos (h y (by simp)),h1,h2];exact⟨rfl,rfl⟩
theorem kindP_of (x T y r:List UInt8)(hx: ∀c∈x,c=32)(hy: ∀c∈y,c=32)(hT:typeOK (lowL T)=true):kindP (x++T++y++61::r)=some (lowL T,r):=by
 obtain⟨hne,hm⟩:=type_mem hT;unfold kindP;have e1:(x++T++y++61::r).dropWhile (fun c=>decide (c=32))=T++(y++61::r):=by
  rw[List.append_assoc,List.append_assoc,dropW_app _ x _ (fun c hc=>by simp[hx c hc]),dropW_id];intro c t hc;cases T with
  | nil=>exact absurd rfl hne
  | cons d T=>have hcd:d=c:=(by simp only[List.cons_append,List.cons.injEq]at hc;exact hc.1);have:=(low_ch d (hm d (by simp))).1;rw[hcd]at this;simpa using this
 have e2:=takeW_all (fun c:UInt8=>decide (c≠61∧c≠32)) T (y++61::r) (fun c hc=>by have:=low_ch c (hm c hc);simp[this.1,this.2.1]) (by
  intro c t hc;cases y with
  | nil=>have hcd:61=c:=(by simp only[List.nil_append,List.cons.injEq]at hc;exact hc.1);rw[←hcd];decide
  | cons d y=>have hcd:d=c:=(by simp only[List.cons_append,List.cons.injEq]at hc;exact hc.1);have:=hy d (by simp);rw[hcd]at this;simp[this])
 simp only[e1,e2.1,e2.2];rw[dropW_app _ y _ (fun c hc=>by simp[hy c hc])];rw[List.dropWhile_cons,if_neg (by decide)];simp[hT]
theorem kindP_some {l t r:List UInt8}(h:kindP l=some (t,r)): ∃x T y,l=x++T++y++61::r∧(∀c∈x,c=32)∧(∀c∈y,c=32)∧typeOK (lowL T)=true∧t=lowL T:=by
 obtain⟨x,hx1,hx2⟩:=dropW_split (fun c:UInt8=>decide (c=32)) l;unfold kindP at h;simp only[]at h;generalize hl1:l.dropWhile (fun c=>decide (c=32))=l1 at*;have hT:=List.takeWhile_append_dropWhile (p:=fun c:UInt8=>decide (c≠61∧c≠32)) (l:=l1);generalize hl2:l1.dropWhile (fun c:UInt8=>decide (c≠61∧c≠32))=l2 at*;generalize hTT:l1.takeWhile (fun c:UInt8=>decide (c≠61∧c≠32))=T at*;obtain⟨y,hy1,hy2⟩:=dropW_split (fun c:UInt8=>decide (c=32)) l2;generalize hl3:l2.dropWhile (fun c=>decide (c=32))=l3 at*;cases l3 with
 | nil=>simp at h
 | cons c r'=>
  simp only[]at h;split at h
  ·rename_i hc;obtain⟨rfl,hc2⟩:=hc;cases h;refine⟨x,T,y,?_,fun c hc=>by simpa using hx2 c hc,fun c hc=>by simpa using hy2 c hc,hc2,rfl⟩;rw[hx1,←hT,hy1];simp
  ·cases h
theorem trimB_of (x T y:List UInt8)(hx: ∀c∈x,c=32)(hy: ∀c∈y,c=32)(hT:typeOK (lowL T)=true):trimB (x++T++y)=T:=by
 obtain⟨hne,hm⟩:=type_mem hT;have h32: ∀c∈T,decide (c=32)=false:=fun c hc=>by have:=(low_ch c (hm c hc)).1;simpa using this
 have e1:(x++T++y).dropWhile (fun c=>decide (c=32))=T++y:=by
  rw[List.append_assoc,dropW_app _ x _ (fun c hc=>by simp[hx c hc]),dropW_id];intro c t hc;cases T with
  | nil=>exact absurd rfl hne
  | cons d T=>have hcd:d=c:=(by simp only[List.cons_append,List.cons.injEq]at hc;exact hc.1);rw[←hcd];exact h32 d (by simp)
 unfold trimB;rw[e1,List.reverse_append,dropW_app _ y.reverse _ (fun c hc=>by simp[hy c (List.mem_reverse.1 hc)]),dropW_id,List.reverse_reverse];intro c t hc;have:c∈T:=by rw[←List.mem_reverse,hc];simp
 exact h32 c this
def scanF:Nat→List UInt8→Option (List Sg × List UInt8)
 | 0,_=>some ([],[])
 | _+1,[]=>some ([],[])
 | f+1,c::t=>if isSep c=true then some ([],c::t)else if bad c=true then none else if c≠92 then(scanF f t).map (fun p=>((c,true)::p.1,p.2))else match esc t with
  | none=>none
  | some (d,n)=>(scanF f (t.drop n)).map (fun p=>((d,false)::p.1,p.2))
def scan (l:List UInt8):Option (List Sg × List UInt8):=scanF l.length l
theorem scanF_more: ∀ (f g:Nat) (l:List UInt8),l.length≤f→l.length≤g→scanF f l=scanF g l
 | 0,g,l,h,_=>by have:l=[]:=List.eq_nil_of_length_eq_zero (by omega);subst this;cases g<;>rfl
 | f+1,0,l,_,h=>by have:l=[]:=List.eq_nil_of_length_eq_zero (by omega);subst this;rfl
 | f+1,g+1,[],_,_=>rfl
 | f+1,g+1,c::t,h,h'=>by
  simp only[List.length_cons]at h h';unfold scanF;have h1:=scanF_more f g t (by omega) (by omega);have h2:=fun n=>scanF_more f g (t.drop n) (by rw[List.length_drop];omega) (by rw[List.length_drop];omega);rw[h1];split
  ·rfl
  ·split
   ·rfl
   ·split
    ·rfl
    ·cases esc t with
     | none=>rfl
     | some p=>obtain⟨d,n⟩:=p;simp only[];rw[h2 n]
theorem scan_nil:scan []=some ([],[]):=rfl
theorem scan_sep (c:UInt8)(t:List UInt8)(h:isSep c=true):scan (c::t)=some ([],c::t):=by show scanF (t.length+1) (c::t)=_;rw[scanF,if_pos h]
theorem scan_bad (c:UInt8)(t:List UInt8)(h:isSep c=false)(h2:bad c=true):scan (c::t)=none:=by show scanF (t.length+1) (c::t)=_;rw[scanF,if_neg (by rw[h];simp),if_pos h2]
theorem scan_bare (c:UInt8)(t:List UInt8)(h:isSep c=false)(h2:bad c=false)(h3:c≠92):scan (c::t)=(scan t).map (fun p=>((c,true)::p.1,p.2)):=by show scanF (t.length+1) (c::t)=_;rw[scanF,if_neg (by rw[h];simp),if_neg (by rw[h2];simp),if_pos h3];rfl
theorem scan_esc (t:List UInt8)(d:UInt8)(n:Nat)(h:esc t=some (d,n)):scan (92::t)=(scan (t.drop n)).map (fun p=>((d,false)::p.1,p.2)):=by show scanF (t.length+1) (92::t)=_;rw[scanF,if_neg (by decide),if_neg (by decide),if_neg (by simp),h];simp only[];rw[scanF_more t.length (t.drop n).length _ (by rw[List.length_drop];omega) (Nat.le_refl _)];rfl
theorem scan_none (t:List UInt8)(h:esc t=none):scan (92::t)=none:=by show scanF (t.length+1) (92::t)=_;rw[scanF,if_neg (by decide),if_neg (by decide),if_neg (by simp),h]
def badS (x:Sg):Bool:=x.2&&bad x.1
theorem scan_signs: ∀ (n:Nat) (l:List UInt8),l.length≤n→
  (scan l=none∧(signs l=none∨ ∃L,signs l=some L∧ ∃x∈(segs L).1,badS x=true))∨
  (∃B,scan l=some (B,[])∧signs l=some B∧ ∀x∈B,sepS x=false∧badS x=false)∨
  (∃B c r,scan l=some (B,c::r)∧isSep c=true∧r.length<l.length∧signs l=(signs r).map (fun L=>B++(c,true)::L)∧ ∀x∈B,sepS x=false∧badS x=false)
 | n,[],_=>Or.inr (Or.inl ⟨[],rfl,rfl,by simp⟩)
 | 0,_::_,h=>by simp at h
 | n+1,c::t,h=>by
  simp only[List.length_cons]at h;by_cases hs:isSep c=true
  ·have hc:c≠92:=(by rintro rfl;revert hs;decide);refine Or.inr (Or.inr ⟨[],c,t,scan_sep c t hs,hs,by simp,?_,by simp⟩);rw[signs_bare c t hc];rfl
  ·have hs':isSep c=false:=(by simpa using hs);by_cases hb:bad c=true
   ·refine Or.inl ⟨scan_bad c t hs' hb,?_⟩;have hc:c≠92:=(by rintro rfl;revert hb;decide);rw[signs_bare c t hc];cases hst:signs t with
    | none=>exact Or.inl rfl
    | some L=>refine Or.inr ⟨_,rfl,(c,true),?_,by simpa[badS]using hb⟩;rw[segs,if_neg (by simp[sepS,hs'])];simp
   ·have hb':bad c=false:=(by simpa using hb);by_cases h92:c=92
    ·subst h92;cases he:esc t with
     | none=>exact Or.inl ⟨scan_none t he,Or.inl (signs_bad t he)⟩
     | some p=>
      obtain⟨d,k⟩:=p;obtain⟨k1,k2,k3⟩:=esc_two he;rw[scan_esc t d k he,signs_esc t d k he];have hdl:(t.drop k).length≤n:=(by rw[List.length_drop];omega);rcases scan_signs n (t.drop k) hdl with⟨e1,e2⟩ | ⟨B,e1,e2,e3⟩ | ⟨B,c',r,e1,e2,e3,e4,e5⟩
      ·refine Or.inl ⟨by rw[e1];rfl,?_⟩;rcases e2 with e2 | ⟨L,e2,x,hx,hx2⟩
       ·exact Or.inl (by rw[e2];rfl)
       ·refine Or.inr ⟨_,by rw[e2];rfl,x,?_,hx2⟩;rw[segs,if_neg (by simp[sepS])];exact List.mem_cons_of_mem _ hx
      ·refine Or.inr (Or.inl ⟨(d,false)::B,by rw[e1];rfl,by rw[e2];rfl,?_⟩);intro x hx;rcases List.mem_cons.1 hx with rfl | hx
       ·simp[sepS,badS]
       ·exact e3 x hx
      ·refine Or.inr (Or.inr ⟨(d,false)::B,c',r,by rw[e1];rfl,e2,?_,by rw[e4,Option.map_map];rfl,?_⟩)
       ·rw[List.length_drop]at e3;simp only[List.length_cons];omega
       ·intro x hx;rcases List.mem_cons.1 hx with rfl | hx
        ·simp[sepS,badS]
        ·exact e5 x hx
    ·rw[scan_bare c t hs' hb' h92,signs_bare c t h92];rcases scan_signs n t (by omega)with⟨e1,e2⟩ | ⟨B,e1,e2,e3⟩ | ⟨B,c',r,e1,e2,e3,e4,e5⟩
     ·refine Or.inl ⟨by rw[e1];rfl,?_⟩;rcases e2 with e2 | ⟨L,e2,x,hx,hx2⟩
      ·exact Or.inl (by rw[e2];rfl)
      ·refine Or.inr ⟨_,by rw[e2];rfl,x,?_,hx2⟩;rw[segs,if_neg (by simp[sepS,hs'])];exact List.mem_cons_of_mem _ hx
     ·refine Or.inr (Or.inl ⟨(c,true)::B,by rw[e1];rfl,by rw[e2];rfl,?_⟩);intro x hx;rcases List.mem_cons.1 hx with rfl | hx
      ·simp[sepS,badS,hs',hb']
      ·exact e3 x hx
     ·refine Or.inr (Or.inr ⟨(c,true)::B,c',r,by rw[e1];rfl,e2,by simp only[List.length_cons];omega,by rw[e4,Option.map_map];rfl,?_⟩);intro x hx;rcases List.mem_cons.1 hx with rfl | hx
      ·simp[sepS,badS,hs',hb']
      ·exact e5 x hx
theorem scan_head {c:UInt8}{t:List UInt8}{B:List Sg}{r:List UInt8}(h:scan (c::t)=some (B,r)):B=[]∨ ∃B',(B=(c,true)::B'∧c≠92)∨ ∃d,B=(d,false)::B':=by
 by_cases hs:isSep c=true
 ·rw[scan_sep c t hs]at h;cases h;exact Or.inl rfl
 ·have hs':isSep c=false:=by simpa using hs
  by_cases hb:bad c=true
  ·rw[scan_bad c t hs' hb]at h;cases h
  ·have hb':bad c=false:=(by simpa using hb);by_cases h92:c=92
   ·subst h92;cases he:esc t with
    | none=>rw[scan_none t he]at h;cases h
    | some p=>obtain⟨d,k⟩:=p;rw[scan_esc t d k he]at h;obtain⟨q,_,hq⟩:=Option.map_eq_some_iff.1 h;cases hq;exact Or.inr ⟨_,Or.inr ⟨d,rfl⟩⟩
   ·rw[scan_bare c t hs' hb' h92]at h;obtain⟨q,_,hq⟩:=Option.map_eq_some_iff.1 h;cases hq;exact Or.inr ⟨_,Or.inl ⟨rfl,h92⟩⟩
def valueP (r:List UInt8):Option (List UInt8 × List UInt8):=if(r.dropWhile (· =32)).head?=some 35 then none else(scan (r.dropWhile (· =32))).map fun p=>((trimR p.1).map (·.1),p.2)
def PF:Nat→List UInt8→Option (Pr × List (UInt8 × Pr))
 | 0,_=>none
 | f+1,l=>(kindP l).bind fun k=>(valueP k.2).bind fun v=>match v.2 with
  | []=>some ((k.1,v.1),[])
  | c::r=>(PF f r).map fun p=>((k.1,v.1),(c,p.1)::p.2)
def refL (s:List Sg × List (UInt8 × List Sg)):Option (Pr × List (UInt8 × Pr)):=(pairS s.1).bind fun p=>(s.2.mapM fun q=>(pairS q.2).map (q.1, ·)).map (p, ·)
def R (l:List UInt8):Option (Pr × List (UInt8 × Pr)):=(signs l).bind fun L=>refL (segs L)
theorem refL_cons (A:List Sg)(c:UInt8)(s:List Sg × List (UInt8 × List Sg)):refL (A,(c,s.1)::s.2)=(pairS A).bind fun p=>(refL s).map fun q=>(p,(c,q.1)::q.2):=by
 unfold refL;cases pairS A with
 | none=>rfl
 | some p=>
  simp only[Option.bind_some,List.mapM_cons];cases pairS s.1 with
  | none=>rfl
  | some q=>
   simp only[Option.map_some,Option.bind_some,Option.bind_eq_bind,Option.pure_def];cases(s.2.mapM fun q=>(pairS q.2).map (q.1, ·))with
   | none=>rfl
   | some r=>rfl
theorem rightOK_bad {R:List Sg}{x:Sg}(h:x∈R)(hx:badS x=true):rightOK R=false:=by unfold rightOK;have:(R.any fun x=>x.2&&bad x.1)=true:=List.any_eq_true.2 ⟨x,h,hx⟩;rw[this];rfl
theorem badS_not_blank {x:Sg}(h:badS x=true):blankS x=false:=by
 obtain⟨c,b⟩:=x;unfold badS at h;unfold blankS;simp only[Bool.and_eq_true]at h;obtain⟨rfl,h2⟩:=h;simp only[Bool.true_and,decide_eq_false_iff_not];rintro rfl
 revert h2;decide
theorem P_eq_R: ∀ (n:Nat) (l:List UInt8),l.length<n→PF n l=R l
 | 0,l,h=>by omega
 | n+1,l,h=>by
  cases hk:kindP l with
  | none=>
   have hP:PF (n+1) l=none:=(by rw[PF,hk];rfl);rw[hP];unfold R;cases hs:signs l with
   | none=>rfl
   | some L=>
    simp only[Option.bind_some];unfold refL;cases hp:pairS (segs L).1 with
    | none=>rfl
    | some p=>
     exfalso;obtain⟨A,V,h1,h2,h3,h4,h5,_⟩:=pairS_some hp
     -- all of A stands bare
     have hbare: ∀x∈A,x.2=true:=by
      intro x hx;by_cases hb:blankS x=true
      ·unfold blankS at hb;simp only[Bool.and_eq_true]at hb;exact hb.1
      ·exact List.all_eq_true.1 h3 x (trim_keep A x hx (by simpa using hb))
     have hA:A=(A.map (·.1)).map (·,true):=by
      rw[List.map_map];conv=>lhs;rw[←List.map_id A]
      apply List.map_congr_left;intro x hx;have:=hbare x hx;obtain⟨c,b⟩:=x;simp only at this;subst this;rfl
     generalize A.map (·.1)=a at hA;subst hA
     -- L begins with the segment
     have hL: ∃M,L=(segs L).1++M:=by
      clear hs hp h1;induction L with
      | nil=>exact⟨[],rfl⟩
      | cons x L ih=>
       obtain⟨M,hM⟩:=ih;unfold segs;split
       ·exact⟨x::L,rfl⟩
       ·exact⟨M,by rw[List.cons_append,←hM]⟩
     obtain⟨M,hM⟩:=hL;rw[h1,List.append_assoc,List.cons_append]at hM;rw[hM]at hs;obtain⟨r,rfl,_,hr⟩:=signs_of_bares a l _ hs;obtain⟨r2,rfl,_,_⟩:=signs_of_bare hr;rw[trim_bare,List.map_map]at h4;have e5:((fun x:Sg=>x.1) ∘ fun x:UInt8=>(x,true))=id:=rfl;rw[e5,List.map_id]at h4;obtain⟨x,y,e1,e2,e3⟩:=trimB_split a;rw[e1]at hk;rw[kindP_of x (trimB a) y r2 e2 e3 h4]at hk;cases hk
  | some kr=>
   obtain⟨t,r⟩:=kr;obtain⟨x,T,y,rfl,hx,hy,hT,rfl⟩:=kindP_some hk;obtain⟨hTne,hTm⟩:=type_mem hT;have hall: ∀c∈x++T++y,c≠61∧c≠92∧isSep c=false:=by
    intro c hc;rcases List.mem_append.1 hc with hc | hc
    ·rcases List.mem_append.1 hc with hc | hc
     ·rw[hx c hc];decide
     ·have:=low_ch c (hTm c hc);exact⟨this.2.1,this.2.2.1,by simp[isSep,this.2.2.2.1,this.2.2.2.2.1,this.2.2.2.2.2]⟩
    ·rw[hy c hc];decide
   have hsl:signs (x++T++y++61::r)=(signs r).map (fun L=>(x++T++y).map (·,true)++(61,true)::L):=(by rw[signs_app _ _ (fun h=>(hall 92 h).2.1 rfl),signs_bare 61 r (by decide),Option.map_map];rfl);have hsep: ∀z∈(x++T++y).map (·,true)++[((61,true):Sg)],sepS z=false:=by
    intro z hz;rcases List.mem_append.1 hz with hz | hz
    ·obtain⟨c,hc,rfl⟩:=List.mem_map.1 hz;simp[sepS,(hall c hc).2.2]
    ·simp at hz;subst hz;decide
   have hps: ∀V,pairS ((x++T++y).map (·,true)++(61,true)::V)=if rightOK (trim V)=true then some (lowL T,(trim V).map (·.1))else none:=by intro V;rw[pairS_at _ V (by intro z hz;obtain⟨c,hc,rfl⟩:=List.mem_map.1 hz;simp[eqS,(hall c hc).1])];rw[trim_bare,trimB_of x T y hx hy hT,List.map_map];have e5:((fun x:Sg=>x.1) ∘ fun x:UInt8=>(x,true))=id:=rfl;rw[e5,List.map_id];have e6:((T.map fun c:UInt8=>((c,true):Sg)).all fun x=>x.2)=true:=(by rw[List.all_map];simp);rw[e6];simp only[hT,true_and]
   -- the reference, by the signs of what is behind '='
   have hR:R (x++T++y++61::r)=(signs r).bind fun L=>refL ((x++T++y).map (·,true)++(61,true)::(segs L).1,(segs L).2):=by
    unfold R;rw[hsl];cases signs r with
    | none=>rfl
    | some L=>simp only[Option.map_some,Option.bind_some];rw[show(x++T++y).map (·,true)++(61,true)::L=((x++T++y).map (·,true)++[((61,true):Sg)])++L from by simp,segs_app _ L hsep];simp
   rw[hR,PF,hk];simp only[Option.bind_some];clear hR hsl hsep hk
   -- the value
   obtain⟨bl,hb1,hb2⟩:=dropW_split (fun c:UInt8=>decide (c=32)) r;unfold valueP;generalize hr1:r.dropWhile (fun c=>decide (c=32))=r1 at*;have hbl: ∀c∈bl,c=32:=fun c hc=>by simpa using hb2 c hc
   have h92:(92:UInt8) ∉bl:=fun h=>by have:=hbl 92 h;revert this;decide
   have hsr:signs r=(signs r1).map (bl.map (·,true)++ ·):=(by rw[hb1,signs_app _ _ h92]);have hblS: ∀z∈bl.map (fun c=>((c,true):Sg)),blankS z=true∧sepS z=false:=(by intro z hz;obtain⟨c,hc,rfl⟩:=List.mem_map.1 hz;rw[hbl c hc];decide);have hrl:r1.length≤r.length:=(by rw[hb1,List.length_append];omega);have hnl:r.length≤n:=(by simp only[List.length_append,List.length_cons]at h;have:T.length≠0:=fun e=>hTne (List.eq_nil_of_length_eq_zero e);omega);rw[hsr];have htrim: ∀V,trim (bl.map (·,true)++V)=trim V:=(by intro V;unfold trim;rw[dropW_app _ _ _ (fun z hz=>(hblS z hz).1)]);by_cases h35:r1.head?=some 35
   ·rw[if_pos h35];simp only[Option.bind_none];cases r1 with
    | nil=>simp at h35
    | cons c r1=>
     simp only[List.head?_cons,Option.some.injEq]at h35;subst h35;rw[signs_bare 35 r1 (by decide)];cases signs r1 with
     | none=>rfl
     | some L=>simp only[Option.map_some,Option.bind_some];unfold refL;simp only[];rw[segs_app _ _ (fun z hz=>(hblS z hz).2),hps,htrim];have:segs (((35,true):Sg)::L)=((35,true)::(segs L).1,(segs L).2):=(by rw[segs,if_neg (by decide)]);rw[this];simp only[];have e7:trim ((35,true)::(segs L).1)=trimR ((35,true)::(segs L).1):=(by unfold trim;rw[List.dropWhile_cons,if_neg (by decide)]);obtain⟨t',ht'⟩:=trimR_head ((35,true):Sg) (segs L).1 (by decide);rw[e7,ht'];have e8:rightOK (((35,true):Sg)::t')=false:=(by unfold rightOK;simp);rw[e8];simp
   ·rw[if_neg h35];rcases scan_signs r1.length r1 (Nat.le_refl _)with⟨e1,e2⟩ | ⟨B,e1,e2,e3⟩ | ⟨B,c,r3,e1,e2,e3,e4,e5⟩
    ·rw[e1];simp only[Option.map_none,Option.bind_none];rcases e2 with e2 | ⟨L,e2,z,hz,hz2⟩
     ·rw[e2];rfl
     ·rw[e2];simp only[Option.map_some,Option.bind_some];unfold refL;simp only[];rw[segs_app _ _ (fun z hz=>(hblS z hz).2),hps,htrim];rw[rightOK_bad (trim_keep _ z hz (badS_not_blank hz2)) hz2];simp
    · -- the text ends
     have hB1:trim B=trimR B∧rightOK (trimR B)=true:=by
      refine⟨?_,?_⟩
      ·unfold trim;rw[dropW_id];intro z t hz;subst hz;cases r1 with
       | nil=>rw[scan_nil]at e1;cases e1
       | cons c r1=>
        rcases scan_head e1 with h' | ⟨B',h' | ⟨d,h'⟩⟩
        ·cases h'
        ·obtain⟨h',_⟩:=h';cases h';have:=dropW_head _ _ _ _ hr1;simpa[blankS]using this
        ·cases h';rfl
      ·unfold rightOK;have g1:((trimR B).any fun x=>x.2&&bad x.1)=false:=(by rw[Bool.eq_false_iff];intro hh;obtain⟨z,hz,hz2⟩:=List.any_eq_true.1 hh;have:=(e3 z (trimR_mem B z hz)).2;unfold badS at this;rw[this]at hz2;cases hz2);rw[g1];cases hB:trimR B with
       | nil=>rfl
       | cons z t=>
        simp only[Bool.not_false,Bool.true_and];obtain⟨a,ha,_⟩:=trimR_split B;rw[hB,List.cons_append]at ha;cases r1 with
        | nil=>rw[scan_nil]at e1;cases e1;cases ha
        | cons c r1=>
         rcases scan_head e1 with h' | ⟨B',h' | ⟨d,h'⟩⟩
         ·rw[h']at ha;cases ha
         ·obtain⟨h',_⟩:=h';rw[h']at ha;cases ha;simp only[List.head?_cons,Option.some.injEq]at h35;simp[h35]
         ·rw[h']at ha;cases ha;simp
     rw[e1,e2];simp only[Option.map_some,Option.bind_some];unfold refL;simp only[];rw[segs_app _ _ (fun z hz=>(hblS z hz).2),segs_none B (fun z hz=>(e3 z hz).1),hps,htrim];simp only[];rw[hB1.1,hB1.2];simp
    ·have hB1:trim B=trimR B∧rightOK (trimR B)=true:=by
      refine⟨?_,?_⟩
      ·unfold trim;rw[dropW_id];intro z t hz;subst hz;cases r1 with
       | nil=>rw[scan_nil]at e1;cases e1
       | cons c r1=>
        rcases scan_head e1 with h' | ⟨B',h' | ⟨d,h'⟩⟩
        ·cases h'
        ·obtain⟨h',_⟩:=h';cases h';have:=dropW_head _ _ _ _ hr1;simpa[blankS]using this
        ·cases h';rfl
      ·unfold rightOK;have g1:((trimR B).any fun x=>x.2&&bad x.1)=false:=(by rw[Bool.eq_false_iff];intro hh;obtain⟨z,hz,hz2⟩:=List.any_eq_true.1 hh;have:=(e5 z (trimR_mem B z hz)).2;unfold badS at this;rw[this]at hz2;cases hz2);rw[g1];cases hB:trimR B with
       | nil=>rfl
       | cons z t=>
        simp only[Bool.not_false,Bool.true_and];obtain⟨a,ha,_⟩:=trimR_split B;rw[hB,List.cons_append]at ha;cases r1 with
        | nil=>rw[scan_nil]at e1;cases e1
        | cons c r1=>
         rcases scan_head e1 with h' | ⟨B',h' | ⟨d,h'⟩⟩
         ·rw[h']at ha;cases ha
         ·obtain⟨h',_⟩:=h';rw[h']at ha;cases ha;simp only[List.head?_cons,Option.some.injEq]at h35;simp[h35]
         ·rw[h']at ha;cases ha;simp
     rw[e1,e4];simp only[Option.map_some,Option.bind_some,Option.map_map];rw[P_eq_R n r3 (by omega)];unfold R;cases signs r3 with
     | none=>rfl
     | some L=>simp only[Option.map_some,Option.bind_some,Function.comp];rw[segs_app _ _ (fun z hz=>(hblS z hz).2),segs_at B c L (fun z hz=>(e5 z hz).1) e2];simp only[];rw[refL_cons,hps,htrim,hB1.1,hB1.2];simp
end dnp
namespace dnp
def lowf (r:Int):Int:=if 65≤r∧r≤90 then r+32 else r
theorem low_ascii (c:UInt8)(h:c.toNat<128):Lib.encodeRune (lowf (c.toNat:Int))=[low c]:=by
 have all: ∀m:Fin 128,Lib.encodeRune (lowf (m.val:Int))=[low (UInt8.ofNat m.val)]:=by decide+kernel
 have:=all ⟨c.toNat,h⟩;simpa using this
theorem lowf_nonneg {r:Int}(h:0≤r):0≤lowf r:=by unfold lowf;split<;>omega
theorem decodeL_ascii (c:UInt8)(t:List UInt8)(h:c.toNat<128):Lib.decodeL (c::t)=(c.toNat,1):=by unfold Lib.decodeL;exact decode_ascii ⟨(c::t).toArray⟩ 0 (by show 0<(c::t).toArray.size;simp) h
theorem decodeL_high (c:UInt8)(t:List UInt8)(h:128≤c.toNat):128≤(Lib.decodeL (c::t)).1:=by unfold Lib.decodeL;exact(decode_high ⟨(c::t).toArray⟩ 0 (by show 0<(c::t).toArray.size;simp) h).1
theorem mapD_ascii (c:UInt8)(t:List UInt8)(h:c.toNat<128):Lib.mapD lowf (c::t)=low c::Lib.mapD lowf t:=by rw[Lib.mapD_step lowf _ (by simp),decodeL_ascii c t h,if_pos (lowf_nonneg (by simp)),low_ascii c h];rfl
theorem enc_high (r:Int)(h:128≤r): ∃x t,Lib.encodeRune r=x::t∧128≤x.toNat:=by
 have key: ∀z:Int,128≤z→z<256→128≤(z.toNat.toUInt8).toNat:=by intro z h1 h2;simp;omega
 unfold Lib.encodeRune Lib.encodeRuneZ
 repeat' split
 ·omega
 ·exact⟨_,_,rfl,key _ (by omega) (by omega)⟩
 ·exact⟨_,_,rfl,key _ (by omega) (by omega)⟩
 ·exact⟨_,_,rfl,key _ (by omega) (by omega)⟩
 ·exact⟨_,_,rfl,key _ (by omega) (by omega)⟩
theorem mapD_all: ∀l:List UInt8,(∀c∈l,c.toNat<128)→Lib.mapD lowf l=lowL l
 | [],_=>rfl
 | c::t,h=>by rw[mapD_ascii c t (h c (by simp)),mapD_all t (fun x hx=>h x (by simp[hx]))];rfl
theorem mapD_high: ∀l:List UInt8,(∃c∈l,128≤c.toNat)→ ∃x∈Lib.mapD lowf l,128≤x.toNat
 | [],⟨c,h,_⟩=>by simp at h
 | c::t,⟨d,hd,h⟩=>by
  by_cases hc:c.toNat<128
  ·rw[mapD_ascii c t hc];rcases List.mem_cons.1 hd with rfl | hd
   ·omega
   ·obtain⟨x,hx,hx2⟩:=mapD_high t ⟨d,hd,h⟩;exact⟨x,List.mem_cons_of_mem _ hx,hx2⟩
  ·have h1:=decodeL_high c t (by omega);rw[Lib.mapD_step lowf _ (by simp),if_pos (lowf_nonneg (by omega))];have e:lowf ((Lib.decodeL (c::t)).1:Int)=((Lib.decodeL (c::t)).1:Int):=(by unfold lowf;rw[if_neg (by omega)]);rw[e];obtain⟨x,u,hx,hx2⟩:=enc_high ((Lib.decodeL (c::t)).1:Int) (by omega);exact⟨x,by rw[hx];simp,hx2⟩
theorem typeOK_high {l:List UInt8}(h: ∃x∈l,128≤x.toNat):typeOK l=false:=by
 obtain⟨x,hx,hx2⟩:=h;rw[Bool.eq_false_iff];intro e;unfold typeOK at e;simp only[Bool.and_eq_true]at e;have h1:=List.all_eq_true.1 e.2 x hx;have all: ∀m:Fin 256,128≤m.val→typeCh (UInt8.ofNat m.val)=false:=by decide+kernel
 have:=all ⟨x.toNat,x.toNat_lt⟩ hx2;simp only[UInt8.ofNat_toNat]at this;rw[this]at h1;cases h1
theorem low_high (c:UInt8)(h:128≤c.toNat):low c=c:=by unfold low;rw[if_neg];rintro⟨_,h2⟩;rw[UInt8.le_iff_toNat_le]at h2;have:(90:UInt8).toNat=90:=rfl;omega
theorem low_type (l:List UInt8):typeOK (Lib.mapD lowf l)=typeOK (lowL l)∧(typeOK (lowL l)=true→Lib.mapD lowf l=lowL l):=by
 by_cases h: ∃c∈l,128≤c.toNat
 ·have h1:=typeOK_high (mapD_high l h);obtain⟨c,hc,hc2⟩:=h;have h2:typeOK (lowL l)=false:=typeOK_high ⟨low c,List.mem_map.2 ⟨c,hc,rfl⟩,by rw[low_high c hc2];exact hc2⟩;rw[h1,h2];exact⟨rfl,fun e=>by cases e⟩
 ·have h1:=mapD_all l (fun c hc=>by
   by_cases e:c.toNat<128
   ·exact e
   ·exact absurd ⟨c,hc,by omega⟩ h)
  rw[h1];exact⟨rfl,fun _=>rfl⟩
theorem mapGoD_len (f:Int→Int): ∀ (n:Nat) (l:List UInt8),l.length≤n→(Lib.mapD f l).length≤4*l.length
 | 0,l,h=>by have:l=[]:=List.eq_nil_of_length_eq_zero (by omega);subst this;simp[Lib.mapD_nil]
 | n+1,l,h=>by
  by_cases hl:l=[]
  ·subst hl;simp[Lib.mapD_nil]
  ·have hw:=Lib.decodeL_le l hl;have hp:0<l.length:=List.length_pos_iff.2 hl;have hw1:1≤(Lib.decodeL l).2:=by
    cases l with
    | nil=>exact absurd rfl hl
    | cons c t=>
     by_cases e:c.toNat<128
     ·rw[decodeL_ascii c t e];exact Nat.le_refl _
     ·unfold Lib.decodeL;exact(decode_high ⟨(c::t).toArray⟩ 0 (by show 0<(c::t).toArray.size;simp) (by show 128≤c.toNat;omega)).2
   have ih:=mapGoD_len f n (l.drop (Lib.decodeL l).2) (by rw[List.length_drop];omega);rw[List.length_drop]at ih;rw[Lib.mapD_step f l hl,List.length_append];have h4:(if 0≤f ((Lib.decodeL l).1:Int)then Lib.encodeRune (f ((Lib.decodeL l).1:Int))else[]).length≤4:=by
    split
    ·have:=Lib.runeCells_le (f ((Lib.decodeL l).1:Int));rw[Lib.runeCells_length]at this;exact this.2
    ·simp
   omega
end dnp
end Go.Proofs.YtmnpfkbjpeaemaaGreatDoor
namespace Go.Proofs
open Go.Shelf
def Tryz.lays170_ren:Go.Shelf.Ren:=⟨fun | 170=>129 | n=>n,fun | 70=>130 | 3=>3 | 0=>0 | 72=>133 | 37=>131 | 5=>5 | n=>n,fun | n=>n⟩
theorem Tryz.lays170:Go.Proofs.Lays.n170 Tryz.prog Tryz.lays170_ren:={
 mixed:=by kernel_rfl
 f170:=Tryz.func129.trans (congrArg some (by kernel_rfl))
 t0:=Tryz.underlying0
 a0:=Tryz.isAgg0
 z0:=Tryz.sizeOf0
 v0:=Tryz.zeroValue0
 t3:=Tryz.underlying3
 a3:=Tryz.isAgg3
 z3:=Tryz.sizeOf3
 v3:=Tryz.zeroValue3
 t37:=Tryz.underlying131
 a37:=Tryz.isAgg131
 z37:=Tryz.sizeOf131
 v37:=Tryz.zeroValue131
 t70:=Tryz.underlying130
 a70:=Tryz.isAgg130
 z70:=Tryz.sizeOf130
 v70:=Tryz.zeroValue130
 t72:=Tryz.underlying133
 a72:=Tryz.isAgg133
 z72:=Tryz.sizeOf133
 v72:=Tryz.zeroValue133}
open Go.RowKit in
theorem Tryz.Builder_Len (B b:Nat)(bs:List Value)(w:World)(h:Lib.IsBuilder 133 5 B b bs w):
  Calls Tryz.prog 129 #[.pointer (some ⟨b,0,none⟩)] w fun e w'=>e= .returned (.int .i64 bs.length)∧w'=w:=Any.Builder_Len Tryz.lays170 B b bs w h
def Tryz.lays169_ren:Go.Shelf.Ren:=⟨fun | 169=>105 | n=>n,fun | 70=>130 | 9=>9 | 0=>0 | 72=>133 | 37=>131 | 127=>198 | 3=>3 | 5=>5 | n=>n,fun | n=>n⟩
theorem Tryz.lays169:Go.Proofs.Lays.n169 Tryz.prog Tryz.lays169_ren:={
 mixed:=by kernel_rfl
 f169:=Tryz.func105.trans (congrArg some (by kernel_rfl))
 t0:=Tryz.underlying0
 a0:=Tryz.isAgg0
 z0:=Tryz.sizeOf0
 v0:=Tryz.zeroValue0
 t3:=Tryz.underlying3
 a3:=Tryz.isAgg3
 z3:=Tryz.sizeOf3
 v3:=Tryz.zeroValue3
 t9:=Tryz.underlying9
 a9:=Tryz.isAgg9
 z9:=Tryz.sizeOf9
 v9:=Tryz.zeroValue9
 t37:=Tryz.underlying131
 a37:=Tryz.isAgg131
 z37:=Tryz.sizeOf131
 v37:=Tryz.zeroValue131
 t70:=Tryz.underlying130
 a70:=Tryz.isAgg130
 z70:=Tryz.sizeOf130
 v70:=Tryz.zeroValue130
 t72:=Tryz.underlying133
 a72:=Tryz.isAgg133
 z72:=Tryz.sizeOf133
 v72:=Tryz.zeroValue133
 t127:=Tryz.underlying198
 a127:=Tryz.isAgg198
 z127:=Tryz.sizeOf198
 v127:=Tryz.zeroValue198}
theorem Tryz.Builder_Extra_169:Builder.Extra Tryz.prog Tryz.lays169_ren:={
 sizeBuilder:=by kernel_rfl
 liesBuilder:=by kernel_rfl
 t5:=Tryz.underlying5
 a5:=Tryz.isAgg5
 z5:=Tryz.sizeOf5
 v5:=Tryz.zeroValue5
 infoByte:=by kernel_rfl
 cellsByte:=by kernel_rfl
 sizeByte:=by kernel_rfl
 neB5:=by decide}
open Go.RowKit in
theorem Tryz.Builder_String_any (B b:Nat)(l:List UInt8)(w:World)(h:Lib.IsBuilder 133 5 B b (Lib.byteCells l) w)(hBw:B≤w.heap.size):
  Calls Tryz.prog 105 #[.pointer (some ⟨b,0,none⟩)] w fun e w'=>e= .returned (.string ⟨l.toArray⟩)∧Below B w w':=Any.Builder_String_any Tryz.lays169 Tryz.Builder_Extra_169 B b l w h hBw
def Tryz.lays156_ren:Go.Shelf.Ren:=⟨fun | 156=>165 | 165=>212 | 166=>101 | 169=>105 | 240=>167 | 241=>266 | 276=>214 | 277=>296 | n=>n,fun | 31=>35 | 9=>9 | 3=>3 | 4=>4 | 0=>0 | 20=>20 | 72=>133 | 76=>136 | 70=>130 | 37=>131 | 75=>135 | 127=>198 | 164=>228 | 5=>5 | 80=>93 | n=>n,fun | n=>n⟩
theorem Tryz.lays156:Go.Proofs.Lays.n156 Tryz.prog Tryz.lays156_ren:={
 mixed:=by kernel_rfl
 f156:=Tryz.func165.trans (congrArg some (by kernel_rfl))
 f165:=Tryz.func212.trans (congrArg some (by kernel_rfl))
 f166:=Tryz.func101.trans (congrArg some (by kernel_rfl))
 f169:=Tryz.func105.trans (congrArg some (by kernel_rfl))
 f240:=Tryz.func167.trans (congrArg some (by kernel_rfl))
 f241:=Tryz.func266.trans (congrArg some (by kernel_rfl))
 f276:=Tryz.func214.trans (congrArg some (by kernel_rfl))
 f277:=Tryz.func296.trans (congrArg some (by kernel_rfl))
 t0:=Tryz.underlying0
 a0:=Tryz.isAgg0
 z0:=Tryz.sizeOf0
 v0:=Tryz.zeroValue0
 t3:=Tryz.underlying3
 a3:=Tryz.isAgg3
 z3:=Tryz.sizeOf3
 v3:=Tryz.zeroValue3
 t4:=Tryz.underlying4
 a4:=Tryz.isAgg4
 z4:=Tryz.sizeOf4
 v4:=Tryz.zeroValue4
 t9:=Tryz.underlying9
 a9:=Tryz.isAgg9
 z9:=Tryz.sizeOf9
 v9:=Tryz.zeroValue9
 t20:=Tryz.underlying20
 a20:=Tryz.isAgg20
 z20:=Tryz.sizeOf20
 v20:=Tryz.zeroValue20
 t31:=Tryz.underlying35
 a31:=Tryz.isAgg35
 z31:=Tryz.sizeOf35
 v31:=Tryz.zeroValue35
 t37:=Tryz.underlying131
 a37:=Tryz.isAgg131
 z37:=Tryz.sizeOf131
 v37:=Tryz.zeroValue131
 t70:=Tryz.underlying130
 a70:=Tryz.isAgg130
 z70:=Tryz.sizeOf130
 v70:=Tryz.zeroValue130
 t72:=Tryz.underlying133
 a72:=Tryz.isAgg133
 z72:=Tryz.sizeOf133
 v72:=Tryz.zeroValue133
 t75:=Tryz.underlying135
 a75:=Tryz.isAgg135
 z75:=Tryz.sizeOf135
 v75:=Tryz.zeroValue135
 t76:=Tryz.underlying136
 a76:=Tryz.isAgg136
 z76:=Tryz.sizeOf136
 v76:=Tryz.zeroValue136
 t127:=Tryz.underlying198
 a127:=Tryz.isAgg198
 z127:=Tryz.sizeOf198
 v127:=Tryz.zeroValue198
 t164:=Tryz.underlying228
 a164:=Tryz.isAgg228
 z164:=Tryz.sizeOf228
 v164:=Tryz.zeroValue228}
theorem Tryz.Builder_Extra_156:Builder.Extra Tryz.prog Tryz.lays156_ren:={
 sizeBuilder:=by kernel_rfl
 liesBuilder:=by kernel_rfl
 t5:=Tryz.underlying5
 a5:=Tryz.isAgg5
 z5:=Tryz.sizeOf5
 v5:=Tryz.zeroValue5
 infoByte:=by kernel_rfl
 cellsByte:=by kernel_rfl
 sizeByte:=by kernel_rfl
 neB5:=by decide}
open Go.RowKit in
theorem Tryz.strings_Join_none (a:Option Addr)(c:Nat)(sep:ByteArray)(w:World):
  Calls Tryz.prog 165 #[.slice a 0 c,.string sep] w fun e w'=>e= .returned (.string ⟨#[]⟩)∧w'=w:=Any.strings_Join_none Tryz.lays156 Tryz.Builder_Extra_156 a c sep w
open Go.RowKit in
theorem Tryz.strings_Join (bk o c:Nat)(xs:List ByteArray)(sep:ByteArray)(w:World)(hcells: ∀ (j:Nat) x,xs[j]? =some x→w.cell? ⟨bk,o+j,none⟩=some (.string x))(hbk:bk<w.heap.size)(hN:xs.length≤140737488355328)(hcap:xs.length≤c)(hlen:(Lib.join (xs.map (·.data.toList)) sep.data.toList).length≤140737488355328):
  Calls Tryz.prog 165 #[.slice (some ⟨bk,o,none⟩) xs.length c,.string sep] w fun e w'=>e= .returned (.string ⟨(Lib.join (xs.map (·.data.toList)) sep.data.toList).toArray⟩)∧Below w.heap.size w w':=Any.strings_Join Tryz.lays156 Tryz.Builder_Extra_156 bk o c xs sep w hcells hbk hN hcap hlen
def Tryz.lays137_ren:Go.Shelf.Ren:=⟨fun | 137=>175 | 217=>219 | 266=>268 | n=>n,fun | 9=>9 | 5=>5 | 3=>3 | n=>n,fun | n=>n⟩
theorem Tryz.lays137:Go.Proofs.Lays.n137 Tryz.prog Tryz.lays137_ren:={
 mixed:=by kernel_rfl
 f137:=Tryz.func175.trans (congrArg some (by kernel_rfl))
 f217:=Tryz.func219.trans (congrArg some (by kernel_rfl))
 f266:=Tryz.func268.trans (congrArg some (by kernel_rfl))
 t3:=Tryz.underlying3
 a3:=Tryz.isAgg3
 z3:=Tryz.sizeOf3
 v3:=Tryz.zeroValue3
 t5:=Tryz.underlying5
 a5:=Tryz.isAgg5
 z5:=Tryz.sizeOf5
 v5:=Tryz.zeroValue5
 t9:=Tryz.underlying9
 a9:=Tryz.isAgg9
 z9:=Tryz.sizeOf9
 v9:=Tryz.zeroValue9}
open Go.RowKit in
theorem Tryz.strings_IndexByte (s:ByteArray)(c:Int)(w:World):
  Calls Tryz.prog 175 #[.string s,.int .u8 c] w fun e w'=>e= .returned (.int .i64 (Lib.indexByte s.data.toList c.toNat.toUInt8))∧w'=w:=Any.strings_IndexByte Tryz.lays137 s c w
def Tryz.lays242_ren:Go.Shelf.Ren:=⟨fun | 242=>285 | 278=>312 | n=>n,fun | 37=>131 | 21=>21 | 51=>253 | 4=>4 | 5=>5 | 46=>44 | n=>n,fun | n=>n⟩
theorem Tryz.lays242:Go.Proofs.Lays.n242 Tryz.prog Tryz.lays242_ren:={
 mixed:=by kernel_rfl
 f242:=Tryz.func285.trans (congrArg some (by kernel_rfl))
 f278:=Tryz.func312.trans (congrArg some (by kernel_rfl))
 t4:=Tryz.underlying4
 a4:=Tryz.isAgg4
 z4:=Tryz.sizeOf4
 v4:=Tryz.zeroValue4
 t5:=Tryz.underlying5
 a5:=Tryz.isAgg5
 z5:=Tryz.sizeOf5
 v5:=Tryz.zeroValue5
 t21:=Tryz.underlying21
 a21:=Tryz.isAgg21
 z21:=Tryz.sizeOf21
 v21:=Tryz.zeroValue21
 t37:=Tryz.underlying131
 a37:=Tryz.isAgg131
 z37:=Tryz.sizeOf131
 v37:=Tryz.zeroValue131
 t46:=Tryz.underlying44
 a46:=Tryz.isAgg44
 z46:=Tryz.sizeOf44
 v46:=Tryz.zeroValue44
 t51:=Tryz.underlying253
 a51:=Tryz.isAgg253
 z51:=Tryz.sizeOf253
 v51:=Tryz.zeroValue253}
open Go.RowKit in
theorem Tryz.utf8_AppendRune_plain (B:Nat)(v:Value)(n:Nat)(xs:List Value)(r:Int)(hr0: -2147483648≤r)(hr1:r≤2147483647)(w:World)(hown:w.ownsRow B 5 1 v n xs)(hlen:n+4≤140737488355328)(hBw:B≤w.heap.size):
  Calls Tryz.prog 285 #[v,.int .i32 r] w fun e w'=> ∃v',e= .returned v'∧w'.ownsRow B 5 1 v' (n+(Lib.runeCells r).length) (xs++Lib.runeCells r)∧ ∃o,(w.alloc o).grownBy w' v.ownBlock:=Any.utf8_AppendRune_plain Tryz.lays242 (by kernel_rfl) B v n xs r hr0 hr1 w hown hlen hBw
def Tryz.lays190_ren:Go.Shelf.Ren:=⟨fun | 190=>116 | 125=>183 | 258=>182 | 128=>245 | 129=>246 | 302=>236 | 303=>237 | 304=>238 | 305=>239 | 306=>240 | 307=>241 | 308=>242 | 309=>243 | 310=>244 | 333=>277 | 329=>278 | 330=>279 | 334=>280 | 335=>281 | 336=>282 | 344=>310 | n=>n,fun | 31=>35 | 9=>9 | 3=>3 | 46=>44 | 0=>0 | 51=>253 | 53=>161 | 4=>4 | 183=>247 | 182=>246 | 131=>150 | 5=>5 | 218=>268 | 222=>272 | 228=>283 | 229=>218 | n=>n,fun | n=>n⟩
theorem Tryz.lays190:Go.Proofs.Lays.n190 Tryz.prog Tryz.lays190_ren:={
 mixed:=by kernel_rfl
 f125:=Tryz.func183.trans (congrArg some (by kernel_rfl))
 f128:=Tryz.func245.trans (congrArg some (by kernel_rfl))
 f129:=Tryz.func246.trans (congrArg some (by kernel_rfl))
 f190:=Tryz.func116.trans (congrArg some (by kernel_rfl))
 f258:=Tryz.func182.trans (congrArg some (by kernel_rfl))
 f302:=Tryz.func236.trans (congrArg some (by kernel_rfl))
 f303:=Tryz.func237.trans (congrArg some (by kernel_rfl))
 f304:=Tryz.func238.trans (congrArg some (by kernel_rfl))
 f305:=Tryz.func239.trans (congrArg some (by kernel_rfl))
 f306:=Tryz.func240.trans (congrArg some (by kernel_rfl))
 f307:=Tryz.func241.trans (congrArg some (by kernel_rfl))
 f308:=Tryz.func242.trans (congrArg some (by kernel_rfl))
 f309:=Tryz.func243.trans (congrArg some (by kernel_rfl))
 f310:=Tryz.func244.trans (congrArg some (by kernel_rfl))
 f329:=Tryz.func278.trans (congrArg some (by kernel_rfl))
 f330:=Tryz.func279.trans (congrArg some (by kernel_rfl))
 f333:=Tryz.func277.trans (congrArg some (by kernel_rfl))
 f334:=Tryz.func280.trans (congrArg some (by kernel_rfl))
 f335:=Tryz.func281.trans (congrArg some (by kernel_rfl))
 f336:=Tryz.func282.trans (congrArg some (by kernel_rfl))
 f344:=Tryz.func310.trans (congrArg some (by kernel_rfl))
 t0:=Tryz.underlying0
 a0:=Tryz.isAgg0
 z0:=Tryz.sizeOf0
 v0:=Tryz.zeroValue0
 t3:=Tryz.underlying3
 a3:=Tryz.isAgg3
 z3:=Tryz.sizeOf3
 v3:=Tryz.zeroValue3
 t4:=Tryz.underlying4
 a4:=Tryz.isAgg4
 z4:=Tryz.sizeOf4
 v4:=Tryz.zeroValue4
 t5:=Tryz.underlying5
 a5:=Tryz.isAgg5
 z5:=Tryz.sizeOf5
 v5:=Tryz.zeroValue5
 t9:=Tryz.underlying9
 a9:=Tryz.isAgg9
 z9:=Tryz.sizeOf9
 v9:=Tryz.zeroValue9
 t31:=Tryz.underlying35
 a31:=Tryz.isAgg35
 z31:=Tryz.sizeOf35
 v31:=Tryz.zeroValue35
 t46:=Tryz.underlying44
 a46:=Tryz.isAgg44
 z46:=Tryz.sizeOf44
 v46:=Tryz.zeroValue44
 t51:=Tryz.underlying253
 a51:=Tryz.isAgg253
 z51:=Tryz.sizeOf253
 v51:=Tryz.zeroValue253
 t53:=Tryz.underlying161
 a53:=Tryz.isAgg161
 z53:=Tryz.sizeOf161
 v53:=Tryz.zeroValue161
 t131:=Tryz.underlying150
 a131:=Tryz.isAgg150
 z131:=Tryz.sizeOf150
 v131:=Tryz.zeroValue150
 t182:=Tryz.underlying246
 a182:=Tryz.isAgg246
 z182:=Tryz.sizeOf246
 v182:=Tryz.zeroValue246
 t183:=Tryz.underlying247
 a183:=Tryz.isAgg247
 z183:=Tryz.sizeOf247
 v183:=Tryz.zeroValue247
 t218:=Tryz.underlying268
 a218:=Tryz.isAgg268
 z218:=Tryz.sizeOf268
 v218:=Tryz.zeroValue268
 t222:=Tryz.underlying272
 a222:=Tryz.isAgg272
 z222:=Tryz.sizeOf272
 v222:=Tryz.zeroValue272
 t228:=Tryz.underlying283
 a228:=Tryz.isAgg283
 z228:=Tryz.sizeOf283
 v228:=Tryz.zeroValue283
 t229:=Tryz.underlying218
 a229:=Tryz.isAgg218
 z229:=Tryz.sizeOf218
 v229:=Tryz.zeroValue218}
open Go.Sort Go.RowKit in
theorem Tryz.slices_Sort_string (blk off cap:Nat)(ss:List (List UInt8))(w:World)(hH:Holds encStr w blk off ss.toArray)(hblk:blk<w.heap.size)(hsz:ss.length<4611686018427387904):
  Calls Tryz.prog 116 #[.slice (some ⟨blk,off,none⟩) ss.length cap] w fun e w'=>
   e= .returned (.tuple #[])∧ ∃n os,w'=grow (putRow encStr (Sort.ahead w n) blk off (ss.mergeSort fun x y=>decide (x≤y)).toArray) os:=Any.slices_Sort_string Tryz.lays190 blk off cap ss w hH hblk hsz
def Tryz.lays99_ren:Go.Shelf.Ren:=⟨fun | 99=>108 | 206=>176 | n=>n,fun | 9=>9 | 4=>4 | 3=>3 | n=>n,fun | n=>n⟩
theorem Tryz.lays99:Go.Proofs.Lays.n99 Tryz.prog Tryz.lays99_ren:={
 mixed:=by kernel_rfl
 f99:=Tryz.func108.trans (congrArg some (by kernel_rfl))
 f206:=Tryz.func176.trans (congrArg some (by kernel_rfl))
 t3:=Tryz.underlying3
 a3:=Tryz.isAgg3
 z3:=Tryz.sizeOf3
 v3:=Tryz.zeroValue3
 t4:=Tryz.underlying4
 a4:=Tryz.isAgg4
 z4:=Tryz.sizeOf4
 v4:=Tryz.zeroValue4
 t9:=Tryz.underlying9
 a9:=Tryz.isAgg9
 z9:=Tryz.sizeOf9
 v9:=Tryz.zeroValue9}
open Go.RowKit Go.Lib in
theorem Tryz.strings_HasPrefix (s p:ByteArray)(w:World):
  Calls Tryz.prog 108 #[.string s,.string p] w fun e w'=>e= .returned (.bool (Lib.hasPrefix s.data.toList p.data.toList))∧w'=w:=Any.strings_HasPrefix Tryz.lays99 s p w
def Tryz.lays101_ren:Go.Shelf.Ren:=⟨fun | 101=>315 | 208=>326 | 206=>176 | n=>n,fun | 9=>9 | 4=>4 | 3=>3 | n=>n,fun | n=>n⟩
theorem Tryz.lays101:Go.Proofs.Lays.n101 Tryz.prog Tryz.lays101_ren:={
 mixed:=by kernel_rfl
 f101:=Tryz.func315.trans (congrArg some (by kernel_rfl))
 f206:=Tryz.func176.trans (congrArg some (by kernel_rfl))
 f208:=Tryz.func326.trans (congrArg some (by kernel_rfl))
 t3:=Tryz.underlying3
 a3:=Tryz.isAgg3
 z3:=Tryz.sizeOf3
 v3:=Tryz.zeroValue3
 t4:=Tryz.underlying4
 a4:=Tryz.isAgg4
 z4:=Tryz.sizeOf4
 v4:=Tryz.zeroValue4
 t9:=Tryz.underlying9
 a9:=Tryz.isAgg9
 z9:=Tryz.sizeOf9
 v9:=Tryz.zeroValue9}
open Go.RowKit Go.Lib in
theorem Tryz.strings_TrimPrefix (s p:ByteArray)(w:World):
  Calls Tryz.prog 315 #[.string s,.string p] w fun e w'=>e= .returned (.string ⟨(Lib.trimPrefix s.data.toList p.data.toList).toArray⟩)∧w'=w:=Any.strings_TrimPrefix Tryz.lays101 s p w
def Tryz.lays146_ren:Go.Shelf.Ren:=⟨fun | 146=>193 | 221=>258 | 268=>286 | 138=>287 | 143=>288 | 195=>313 | 197=>270 | 218=>314 | 219=>267 | 260=>300 | 217=>219 | 225=>297 | 224=>298 | 267=>299 | 266=>268 | 314=>316 | n=>n,fun | 9=>9 | 31=>35 | 3=>3 | 4=>4 | 0=>0 | 105=>263 | 21=>21 | 5=>5 | 46=>44 | 119=>288 | 139=>291 | 138=>290 | 146=>286 | 51=>253 | n=>n,fun | 1=>1 | 3=>2 | 4=>3 | n=>n⟩
theorem Tryz.lays146:Go.Proofs.Lays.n146 Tryz.prog Tryz.lays146_ren:={
 mixed:=by kernel_rfl
 f138:=Tryz.func287.trans (congrArg some (by kernel_rfl))
 f143:=Tryz.func288.trans (congrArg some (by kernel_rfl))
 f146:=Tryz.func193.trans (congrArg some (by kernel_rfl))
 f195:=Tryz.func313.trans (congrArg some (by kernel_rfl))
 f197:=Tryz.func270.trans (congrArg some (by kernel_rfl))
 f217:=Tryz.func219.trans (congrArg some (by kernel_rfl))
 f218:=Tryz.func314.trans (congrArg some (by kernel_rfl))
 f219:=Tryz.func267.trans (congrArg some (by kernel_rfl))
 f221:=Tryz.func258.trans (congrArg some (by kernel_rfl))
 f224:=Tryz.func298.trans (congrArg some (by kernel_rfl))
 f225:=Tryz.func297.trans (congrArg some (by kernel_rfl))
 f260:=Tryz.func300.trans (congrArg some (by kernel_rfl))
 f266:=Tryz.func268.trans (congrArg some (by kernel_rfl))
 f267:=Tryz.func299.trans (congrArg some (by kernel_rfl))
 f268:=Tryz.func286.trans (congrArg some (by kernel_rfl))
 f314:=Tryz.func316.trans (congrArg some (by kernel_rfl))
 t0:=Tryz.underlying0
 a0:=Tryz.isAgg0
 z0:=Tryz.sizeOf0
 v0:=Tryz.zeroValue0
 t3:=Tryz.underlying3
 a3:=Tryz.isAgg3
 z3:=Tryz.sizeOf3
 v3:=Tryz.zeroValue3
 t4:=Tryz.underlying4
 a4:=Tryz.isAgg4
 z4:=Tryz.sizeOf4
 v4:=Tryz.zeroValue4
 t5:=Tryz.underlying5
 a5:=Tryz.isAgg5
 z5:=Tryz.sizeOf5
 v5:=Tryz.zeroValue5
 t9:=Tryz.underlying9
 a9:=Tryz.isAgg9
 z9:=Tryz.sizeOf9
 v9:=Tryz.zeroValue9
 t21:=Tryz.underlying21
 a21:=Tryz.isAgg21
 z21:=Tryz.sizeOf21
 v21:=Tryz.zeroValue21
 t31:=Tryz.underlying35
 a31:=Tryz.isAgg35
 z31:=Tryz.sizeOf35
 v31:=Tryz.zeroValue35
 t46:=Tryz.underlying44
 a46:=Tryz.isAgg44
 z46:=Tryz.sizeOf44
 v46:=Tryz.zeroValue44
 t51:=Tryz.underlying253
 a51:=Tryz.isAgg253
 z51:=Tryz.sizeOf253
 v51:=Tryz.zeroValue253
 t105:=Tryz.underlying263
 a105:=Tryz.isAgg263
 z105:=Tryz.sizeOf263
 v105:=Tryz.zeroValue263
 t119:=Tryz.underlying288
 a119:=Tryz.isAgg288
 z119:=Tryz.sizeOf288
 t138:=Tryz.underlying290
 a138:=Tryz.isAgg290
 z138:=Tryz.sizeOf290
 v138:=Tryz.zeroValue290
 t139:=Tryz.underlying291
 a139:=Tryz.isAgg291
 z139:=Tryz.sizeOf291
 v139:=Tryz.zeroValue291
 t146:=Tryz.underlying286
 a146:=Tryz.isAgg286
 z146:=Tryz.sizeOf286
 v146:=Tryz.zeroValue286
 g1:=by kernel_rfl
 g3:=by kernel_rfl
 g4:=by kernel_rfl}
open Go.RowKit Go.Lib in
theorem Tryz.strings_Split (s sep:ByteArray)(m:Int)(w:World)(hs:s.size<4294967281)(hm:w.cell? ⟨1,0,none⟩=some (.int .i64 m))(h1:1≤sep.size):
  Calls Tryz.prog 193 #[.string s,.string sep] w fun e w'=>
   e= .returned (.slice (some ⟨w.heap.size,0,none⟩) (Lib.countB s sep+1) (Lib.countB s sep+1))∧w'=w.alloc (.cells ((Lib.splitB sep 0 (Lib.countB s sep) s).map Value.string).toArray 9):=Any.strings_Split Tryz.lays146 (by kernel_rfl) s sep m w hs hm h1
def Tryz.lays155_ren:Go.Shelf.Ren:=⟨fun | 155=>284 | 154=>311 | 138=>287 | 165=>212 | 143=>288 | 166=>101 | 197=>270 | 169=>105 | 195=>313 | 218=>314 | 240=>167 | 241=>266 | 219=>267 | 260=>300 | 276=>214 | 277=>296 | 217=>219 | 225=>297 | 224=>298 | 267=>299 | 266=>268 | 314=>316 | n=>n,fun | 9=>9 | 3=>3 | 4=>4 | 72=>133 | 0=>0 | 76=>136 | 105=>263 | 21=>21 | 5=>5 | 70=>130 | 20=>20 | 37=>131 | 75=>135 | 127=>198 | 164=>228 | 46=>44 | 119=>288 | 139=>291 | 138=>290 | 146=>286 | 51=>253 | 80=>93 | n=>n,fun | 1=>1 | 3=>2 | 4=>3 | n=>n⟩
theorem Tryz.lays155:Go.Proofs.Lays.n155 Tryz.prog Tryz.lays155_ren:={
 mixed:=by kernel_rfl
 f138:=Tryz.func287.trans (congrArg some (by kernel_rfl))
 f143:=Tryz.func288.trans (congrArg some (by kernel_rfl))
 f154:=Tryz.func311.trans (congrArg some (by kernel_rfl))
 f155:=Tryz.func284.trans (congrArg some (by kernel_rfl))
 f165:=Tryz.func212.trans (congrArg some (by kernel_rfl))
 f166:=Tryz.func101.trans (congrArg some (by kernel_rfl))
 f169:=Tryz.func105.trans (congrArg some (by kernel_rfl))
 f195:=Tryz.func313.trans (congrArg some (by kernel_rfl))
 f197:=Tryz.func270.trans (congrArg some (by kernel_rfl))
 f217:=Tryz.func219.trans (congrArg some (by kernel_rfl))
 f218:=Tryz.func314.trans (congrArg some (by kernel_rfl))
 f219:=Tryz.func267.trans (congrArg some (by kernel_rfl))
 f224:=Tryz.func298.trans (congrArg some (by kernel_rfl))
 f225:=Tryz.func297.trans (congrArg some (by kernel_rfl))
 f240:=Tryz.func167.trans (congrArg some (by kernel_rfl))
 f241:=Tryz.func266.trans (congrArg some (by kernel_rfl))
 f260:=Tryz.func300.trans (congrArg some (by kernel_rfl))
 f266:=Tryz.func268.trans (congrArg some (by kernel_rfl))
 f267:=Tryz.func299.trans (congrArg some (by kernel_rfl))
 f276:=Tryz.func214.trans (congrArg some (by kernel_rfl))
 f277:=Tryz.func296.trans (congrArg some (by kernel_rfl))
 f314:=Tryz.func316.trans (congrArg some (by kernel_rfl))
 t0:=Tryz.underlying0
 a0:=Tryz.isAgg0
 z0:=Tryz.sizeOf0
 v0:=Tryz.zeroValue0
 t3:=Tryz.underlying3
 a3:=Tryz.isAgg3
 z3:=Tryz.sizeOf3
 v3:=Tryz.zeroValue3
 t4:=Tryz.underlying4
 a4:=Tryz.isAgg4
 z4:=Tryz.sizeOf4
 v4:=Tryz.zeroValue4
 t5:=Tryz.underlying5
 a5:=Tryz.isAgg5
 z5:=Tryz.sizeOf5
 v5:=Tryz.zeroValue5
 t9:=Tryz.underlying9
 a9:=Tryz.isAgg9
 z9:=Tryz.sizeOf9
 v9:=Tryz.zeroValue9
 t20:=Tryz.underlying20
 a20:=Tryz.isAgg20
 z20:=Tryz.sizeOf20
 v20:=Tryz.zeroValue20
 t21:=Tryz.underlying21
 a21:=Tryz.isAgg21
 z21:=Tryz.sizeOf21
 v21:=Tryz.zeroValue21
 t37:=Tryz.underlying131
 a37:=Tryz.isAgg131
 z37:=Tryz.sizeOf131
 v37:=Tryz.zeroValue131
 t46:=Tryz.underlying44
 a46:=Tryz.isAgg44
 z46:=Tryz.sizeOf44
 v46:=Tryz.zeroValue44
 t51:=Tryz.underlying253
 a51:=Tryz.isAgg253
 z51:=Tryz.sizeOf253
 v51:=Tryz.zeroValue253
 t70:=Tryz.underlying130
 a70:=Tryz.isAgg130
 z70:=Tryz.sizeOf130
 v70:=Tryz.zeroValue130
 t72:=Tryz.underlying133
 a72:=Tryz.isAgg133
 z72:=Tryz.sizeOf133
 v72:=Tryz.zeroValue133
 t75:=Tryz.underlying135
 a75:=Tryz.isAgg135
 z75:=Tryz.sizeOf135
 v75:=Tryz.zeroValue135
 t76:=Tryz.underlying136
 a76:=Tryz.isAgg136
 z76:=Tryz.sizeOf136
 v76:=Tryz.zeroValue136
 t105:=Tryz.underlying263
 a105:=Tryz.isAgg263
 z105:=Tryz.sizeOf263
 v105:=Tryz.zeroValue263
 t119:=Tryz.underlying288
 a119:=Tryz.isAgg288
 z119:=Tryz.sizeOf288
 t127:=Tryz.underlying198
 a127:=Tryz.isAgg198
 z127:=Tryz.sizeOf198
 v127:=Tryz.zeroValue198
 t138:=Tryz.underlying290
 a138:=Tryz.isAgg290
 z138:=Tryz.sizeOf290
 v138:=Tryz.zeroValue290
 t139:=Tryz.underlying291
 a139:=Tryz.isAgg291
 z139:=Tryz.sizeOf291
 v139:=Tryz.zeroValue291
 t146:=Tryz.underlying286
 a146:=Tryz.isAgg286
 z146:=Tryz.sizeOf286
 v146:=Tryz.zeroValue286
 t164:=Tryz.underlying228
 a164:=Tryz.isAgg228
 z164:=Tryz.sizeOf228
 v164:=Tryz.zeroValue228
 g1:=by kernel_rfl
 g3:=by kernel_rfl
 g4:=by kernel_rfl}
theorem Tryz.Builder_Extra_155:Builder.Extra Tryz.prog Tryz.lays155_ren:={
 sizeBuilder:=by kernel_rfl
 liesBuilder:=by kernel_rfl
 t5:=Tryz.underlying5
 a5:=Tryz.isAgg5
 z5:=Tryz.sizeOf5
 v5:=Tryz.zeroValue5
 infoByte:=by kernel_rfl
 cellsByte:=by kernel_rfl
 sizeByte:=by kernel_rfl
 neB5:=by decide}
open Go.RowKit Go.Lib in
theorem Tryz.strings_ReplaceAll (s old new:ByteArray)(m:Int)(w:World)(hs:s.size<4294967281)(hm:w.cell? ⟨1,0,none⟩=some (.int .i64 m))(h1:1≤old.size)(hlen:s.size+Lib.countB s old*new.size≤140737488355328):
  Calls Tryz.prog 284 #[.string s,.string old,.string new] w fun e w'=>
   e= .returned (.string ⟨(Lib.replaceAll s.data.toList old.data.toList new.data.toList).toArray⟩)∧Below w.heap.size w w':=Any.strings_ReplaceAll Tryz.lays155 Tryz.Builder_Extra_155 s old new m w hs hm h1 hlen
def Tryz.laysM146_ren:Go.Shelf.Ren:=⟨fun | 146=>193 | 221=>258 | 268=>286 | 138=>287 | 143=>288 | 195=>313 | 197=>270 | 218=>314 | 219=>267 | 260=>300 | 217=>219 | 225=>297 | 224=>298 | 267=>299 | 266=>268 | 314=>316 | n=>n,fun | 9=>9 | 31=>35 | 3=>3 | 4=>4 | 0=>0 | 105=>263 | 21=>21 | 5=>5 | 46=>44 | 119=>288 | 139=>291 | 138=>290 | 146=>286 | 51=>253 | n=>n,fun | 1=>1 | 3=>2 | 4=>3 | n=>n⟩
theorem Tryz.laysM146:Go.Proofs.LaysM.n146 Tryz.prog Tryz.laysM146_ren:={
 mixed:=by kernel_rfl
 f138:=Tryz.func287.trans (congrArg some (by kernel_rfl))
 f143:=Tryz.func288.trans (congrArg some (by kernel_rfl))
 f146:=Tryz.func193.trans (congrArg some (by kernel_rfl))
 f195:=Tryz.func313.trans (congrArg some (by kernel_rfl))
 f197:=Tryz.func270.trans (congrArg some (by kernel_rfl))
 f217:=Tryz.func219.trans (congrArg some (by kernel_rfl))
 f218:=Tryz.func314.trans (congrArg some (by kernel_rfl))
 f219:=Tryz.func267.trans (congrArg some (by kernel_rfl))
 f221:=Tryz.func258.trans (congrArg some (by kernel_rfl))
 f224:=Tryz.func298.trans (congrArg some (by kernel_rfl))
 f225:=Tryz.func297.trans (congrArg some (by kernel_rfl))
 f260:=Tryz.func300.trans (congrArg some (by kernel_rfl))
 f266:=Tryz.func268.trans (congrArg some (by kernel_rfl))
 f267:=Tryz.func299.trans (congrArg some (by kernel_rfl))
 f268:=Tryz.func286.trans (congrArg some (by kernel_rfl))
 f314:=Tryz.func316.trans (congrArg some (by kernel_rfl))
 t0:=Tryz.underlying0
 a0:=Tryz.isAgg0
 z0:=Tryz.sizeOf0
 v0:=Tryz.zeroValue0
 t3:=Tryz.underlying3
 a3:=Tryz.isAgg3
 z3:=Tryz.sizeOf3
 v3:=Tryz.zeroValue3
 t4:=Tryz.underlying4
 a4:=Tryz.isAgg4
 z4:=Tryz.sizeOf4
 v4:=Tryz.zeroValue4
 t5:=Tryz.underlying5
 a5:=Tryz.isAgg5
 z5:=Tryz.sizeOf5
 v5:=Tryz.zeroValue5
 t9:=Tryz.underlying9
 a9:=Tryz.isAgg9
 z9:=Tryz.sizeOf9
 v9:=Tryz.zeroValue9
 t21:=Tryz.underlying21
 a21:=Tryz.isAgg21
 z21:=Tryz.sizeOf21
 v21:=Tryz.zeroValue21
 t31:=Tryz.underlying35
 a31:=Tryz.isAgg35
 z31:=Tryz.sizeOf35
 v31:=Tryz.zeroValue35
 t46:=Tryz.underlying44
 a46:=Tryz.isAgg44
 z46:=Tryz.sizeOf44
 v46:=Tryz.zeroValue44
 t51:=Tryz.underlying253
 a51:=Tryz.isAgg253
 z51:=Tryz.sizeOf253
 v51:=Tryz.zeroValue253
 t105:=Tryz.underlying263
 a105:=Tryz.isAgg263
 z105:=Tryz.sizeOf263
 v105:=Tryz.zeroValue263
 t119:=Tryz.underlying288
 a119:=Tryz.isAgg288
 z119:=Tryz.sizeOf288
 t138:=Tryz.underlying290
 a138:=Tryz.isAgg290
 z138:=Tryz.sizeOf290
 v138:=Tryz.zeroValue290
 t139:=Tryz.underlying291
 a139:=Tryz.isAgg291
 z139:=Tryz.sizeOf291
 v139:=Tryz.zeroValue291
 t146:=Tryz.underlying286
 a146:=Tryz.isAgg286
 z146:=Tryz.sizeOf286
 v146:=Tryz.zeroValue286
 g1:=by kernel_rfl
 g3:=by kernel_rfl
 g4:=by kernel_rfl
 i0:=by kernel_rfl
 i3:=by kernel_rfl
 i4:=by kernel_rfl
 i5:=by kernel_rfl
 i9:=by kernel_rfl
 i21:=by kernel_rfl
 i31:=by kernel_rfl
 i46:=by kernel_rfl
 i51:=by kernel_rfl
 i105:=by kernel_rfl
 i138:=by kernel_rfl
 i139:=by kernel_rfl
 i146:=by kernel_rfl
 m1:=by kernel_rfl
 s1_3:=fun w h=>Go.Proofs.cell_of_shapedOpen_int (zero:=#[.int .i64 0]) (t:=3) h (of_decide_eq_true (by kernel_rfl)) (by kernel_rfl) rfl (by kernel_rfl) (by kernel_rfl) Tryz.underlying3
 m3:=by kernel_rfl
 m4:=by kernel_rfl}
def Tryz.lays260_ren:Go.Shelf.Ren:=⟨fun | 260=>300 | n=>n,fun | 9=>9 | 21=>21 | 3=>3 | 4=>4 | 5=>5 | 119=>288 | 0=>0 | 46=>44 | 139=>291 | 138=>290 | n=>n,fun | 3=>2 | 4=>3 | n=>n⟩
theorem Tryz.lays260:Go.Proofs.Lays.n260 Tryz.prog Tryz.lays260_ren:={
 mixed:=by kernel_rfl
 f260:=Tryz.func300.trans (congrArg some (by kernel_rfl))
 t0:=Tryz.underlying0
 a0:=Tryz.isAgg0
 z0:=Tryz.sizeOf0
 v0:=Tryz.zeroValue0
 t3:=Tryz.underlying3
 a3:=Tryz.isAgg3
 z3:=Tryz.sizeOf3
 v3:=Tryz.zeroValue3
 t4:=Tryz.underlying4
 a4:=Tryz.isAgg4
 z4:=Tryz.sizeOf4
 v4:=Tryz.zeroValue4
 t5:=Tryz.underlying5
 a5:=Tryz.isAgg5
 z5:=Tryz.sizeOf5
 v5:=Tryz.zeroValue5
 t9:=Tryz.underlying9
 a9:=Tryz.isAgg9
 z9:=Tryz.sizeOf9
 v9:=Tryz.zeroValue9
 t21:=Tryz.underlying21
 a21:=Tryz.isAgg21
 z21:=Tryz.sizeOf21
 v21:=Tryz.zeroValue21
 t46:=Tryz.underlying44
 a46:=Tryz.isAgg44
 z46:=Tryz.sizeOf44
 v46:=Tryz.zeroValue44
 t119:=Tryz.underlying288
 a119:=Tryz.isAgg288
 z119:=Tryz.sizeOf288
 t138:=Tryz.underlying290
 a138:=Tryz.isAgg290
 z138:=Tryz.sizeOf290
 v138:=Tryz.zeroValue290
 t139:=Tryz.underlying291
 a139:=Tryz.isAgg291
 z139:=Tryz.sizeOf291
 v139:=Tryz.zeroValue291
 g3:=by kernel_rfl
 g4:=by kernel_rfl}
def Tryz.lays230_ren:Go.Shelf.Ren:=⟨fun | 230=>262 | 197=>270 | 118=>293 | 165=>212 | 166=>101 | 168=>257 | 270=>294 | 167=>128 | 169=>105 | 260=>300 | 240=>167 | 241=>266 | 242=>285 | 276=>214 | 277=>296 | 278=>312 | n=>n,fun | 107=>183 | 9=>9 | 72=>133 | 0=>0 | 4=>4 | 3=>3 | 21=>21 | 105=>263 | 76=>136 | 5=>5 | 75=>135 | 70=>130 | 20=>20 | 37=>131 | 127=>198 | 119=>288 | 46=>44 | 139=>291 | 138=>290 | 164=>228 | 51=>253 | 80=>93 | n=>n,fun | 3=>2 | 4=>3 | n=>n⟩
theorem Tryz.lays230:Go.Proofs.Lays.n230 Tryz.prog Tryz.lays230_ren:={
 mixed:=by kernel_rfl
 f118:=Tryz.func293.trans (congrArg some (by kernel_rfl))
 f165:=Tryz.func212.trans (congrArg some (by kernel_rfl))
 f166:=Tryz.func101.trans (congrArg some (by kernel_rfl))
 f167:=Tryz.func128.trans (congrArg some (by kernel_rfl))
 f168:=Tryz.func257.trans (congrArg some (by kernel_rfl))
 f169:=Tryz.func105.trans (congrArg some (by kernel_rfl))
 f197:=Tryz.func270.trans (congrArg some (by kernel_rfl))
 f230:=Tryz.func262.trans (congrArg some (by kernel_rfl))
 f240:=Tryz.func167.trans (congrArg some (by kernel_rfl))
 f241:=Tryz.func266.trans (congrArg some (by kernel_rfl))
 f242:=Tryz.func285.trans (congrArg some (by kernel_rfl))
 f260:=Tryz.func300.trans (congrArg some (by kernel_rfl))
 f270:=Tryz.func294.trans (congrArg some (by kernel_rfl))
 f276:=Tryz.func214.trans (congrArg some (by kernel_rfl))
 f277:=Tryz.func296.trans (congrArg some (by kernel_rfl))
 f278:=Tryz.func312.trans (congrArg some (by kernel_rfl))
 t0:=Tryz.underlying0
 a0:=Tryz.isAgg0
 z0:=Tryz.sizeOf0
 v0:=Tryz.zeroValue0
 t3:=Tryz.underlying3
 a3:=Tryz.isAgg3
 z3:=Tryz.sizeOf3
 v3:=Tryz.zeroValue3
 t4:=Tryz.underlying4
 a4:=Tryz.isAgg4
 z4:=Tryz.sizeOf4
 v4:=Tryz.zeroValue4
 t5:=Tryz.underlying5
 a5:=Tryz.isAgg5
 z5:=Tryz.sizeOf5
 v5:=Tryz.zeroValue5
 t9:=Tryz.underlying9
 a9:=Tryz.isAgg9
 z9:=Tryz.sizeOf9
 v9:=Tryz.zeroValue9
 t20:=Tryz.underlying20
 a20:=Tryz.isAgg20
 z20:=Tryz.sizeOf20
 v20:=Tryz.zeroValue20
 t21:=Tryz.underlying21
 a21:=Tryz.isAgg21
 z21:=Tryz.sizeOf21
 v21:=Tryz.zeroValue21
 t37:=Tryz.underlying131
 a37:=Tryz.isAgg131
 z37:=Tryz.sizeOf131
 v37:=Tryz.zeroValue131
 t46:=Tryz.underlying44
 a46:=Tryz.isAgg44
 z46:=Tryz.sizeOf44
 v46:=Tryz.zeroValue44
 t51:=Tryz.underlying253
 a51:=Tryz.isAgg253
 z51:=Tryz.sizeOf253
 v51:=Tryz.zeroValue253
 t70:=Tryz.underlying130
 a70:=Tryz.isAgg130
 z70:=Tryz.sizeOf130
 v70:=Tryz.zeroValue130
 t72:=Tryz.underlying133
 a72:=Tryz.isAgg133
 z72:=Tryz.sizeOf133
 v72:=Tryz.zeroValue133
 t75:=Tryz.underlying135
 a75:=Tryz.isAgg135
 z75:=Tryz.sizeOf135
 v75:=Tryz.zeroValue135
 t76:=Tryz.underlying136
 a76:=Tryz.isAgg136
 z76:=Tryz.sizeOf136
 v76:=Tryz.zeroValue136
 t105:=Tryz.underlying263
 a105:=Tryz.isAgg263
 z105:=Tryz.sizeOf263
 v105:=Tryz.zeroValue263
 t107:=Tryz.underlying183
 a107:=Tryz.isAgg183
 z107:=Tryz.sizeOf183
 v107:=Tryz.zeroValue183
 t119:=Tryz.underlying288
 a119:=Tryz.isAgg288
 z119:=Tryz.sizeOf288
 t127:=Tryz.underlying198
 a127:=Tryz.isAgg198
 z127:=Tryz.sizeOf198
 v127:=Tryz.zeroValue198
 t138:=Tryz.underlying290
 a138:=Tryz.isAgg290
 z138:=Tryz.sizeOf290
 v138:=Tryz.zeroValue290
 t139:=Tryz.underlying291
 a139:=Tryz.isAgg291
 z139:=Tryz.sizeOf291
 v139:=Tryz.zeroValue291
 t164:=Tryz.underlying228
 a164:=Tryz.isAgg228
 z164:=Tryz.sizeOf228
 v164:=Tryz.zeroValue228
 g3:=by kernel_rfl
 g4:=by kernel_rfl}
theorem Tryz.Builder_Extra_230:Builder.Extra Tryz.prog Tryz.lays230_ren:={
 sizeBuilder:=by kernel_rfl
 liesBuilder:=by kernel_rfl
 t5:=Tryz.underlying5
 a5:=Tryz.isAgg5
 z5:=Tryz.sizeOf5
 v5:=Tryz.zeroValue5
 infoByte:=by kernel_rfl
 cellsByte:=by kernel_rfl
 sizeByte:=by kernel_rfl
 neB5:=by decide}
open Go.RowKit Go.Lib in
theorem Tryz.strings_Map_runes (g:Nat)(lb:Array Value)(eg: ∀args w,(callFunc g args).run Tryz.prog w= .ok (.enter g args) w)(f:Int→Int)(s:ByteArray)(w:World)(hs:s.size<35184372088832)(hf:MapAtRunes Tryz.prog g lb f w)(hnn: ∀x:Nat,x≤1114111→0≤f x∧f x≤2147483647)(hT:Lib.Utf8Tabs 2 3 w):
  Calls Tryz.prog 262 #[.func (.func g) #[] lb,.string s] w fun e w'=>e= .returned (.string ⟨(Lib.mapD f s.data.toList).toArray⟩)∧Below w.heap.size w w':=Any.strings_Map_runes Tryz.lays230 Tryz.Builder_Extra_230 g lb eg f s w hs hf hnn hT
def Tryz.lays110_ren:Go.Shelf.Ren:=⟨fun | 110=>75 | 109=>136 | n=>n,fun | 31=>35 | 9=>9 | 4=>4 | 3=>3 | 0=>0 | n=>n,fun | n=>n⟩
theorem Tryz.lays110:Go.Proofs.Lays.n110 Tryz.prog Tryz.lays110_ren:={
 mixed:=by kernel_rfl
 f109:=Tryz.func136.trans (congrArg some (by kernel_rfl))
 f110:=Tryz.func75.trans (congrArg some (by kernel_rfl))
 t0:=Tryz.underlying0
 a0:=Tryz.isAgg0
 z0:=Tryz.sizeOf0
 v0:=Tryz.zeroValue0
 t3:=Tryz.underlying3
 a3:=Tryz.isAgg3
 z3:=Tryz.sizeOf3
 v3:=Tryz.zeroValue3
 t4:=Tryz.underlying4
 a4:=Tryz.isAgg4
 z4:=Tryz.sizeOf4
 v4:=Tryz.zeroValue4
 t9:=Tryz.underlying9
 a9:=Tryz.isAgg9
 z9:=Tryz.sizeOf9
 v9:=Tryz.zeroValue9
 t31:=Tryz.underlying35
 a31:=Tryz.isAgg35
 z31:=Tryz.sizeOf35
 v31:=Tryz.zeroValue35}
open Go.Lib in
theorem Tryz.slices_Contains_string (b off n c:Nat)(zs:List ByteArray)(x:ByteArray)(w:World)(hz:n≤zs.length)(hbig:n≤9223372036854775807)(hc: ∀j,j<zs.length→w.cell? ⟨b,off+j,none⟩=some (.string (zs.getD j ByteArray.empty))):
  Calls Tryz.prog 75 #[.slice (some ⟨b,off,none⟩) n c,.string x] w fun e w'=>e= .returned (.bool (Lib.containsS (zs.take n) x))∧w'=w:=Any.slices_Contains_string Tryz.lays110 b off n c zs x w hz hbig hc
open Go.Lib in
theorem Tryz.slices_Contains_string_empty (a:Option Addr)(c:Nat)(x:ByteArray)(w:World):
  Calls Tryz.prog 75 #[.slice a 0 c,.string x] w fun e w'=>e= .returned (.bool false)∧w'=w:=Any.slices_Contains_string_empty Tryz.lays110 a c x w
def Tryz.laysNm216_ren:Go.Shelf.Ren:=⟨fun | 16=>87 | n=>n,fun | 24=>35 | 9=>9 | 4=>4 | n=>n,fun | n=>n⟩
theorem Tryz.laysNm216:Go.Proofs.Lays2.n16 Tryz.prog Tryz.laysNm216_ren:={
 mixed:=by kernel_rfl
 f16:=Tryz.func87.trans (congrArg some (by kernel_rfl))
 t4:=Tryz.underlying4
 a4:=Tryz.isAgg4
 z4:=Tryz.sizeOf4
 v4:=Tryz.zeroValue4
 t9:=Tryz.underlying9
 a9:=Tryz.isAgg9
 z9:=Tryz.sizeOf9
 v9:=Tryz.zeroValue9
 t24:=Tryz.underlying35
 a24:=Tryz.isAgg35
 z24:=Tryz.sizeOf35
 v24:=Tryz.zeroValue35
 i9:=by kernel_rfl}
open Go.RowKit Go.Lib in
theorem Tryz.slices_Clone_string (b off n c:Nat)(zs:List ByteArray)(w:World)(hz:n≤zs.length)(hbig:n*16≤140737488355328)(hc: ∀j,j<zs.length→w.cell? ⟨b,off+j,none⟩=some (.string (zs.getD j ByteArray.empty))):
  Calls Tryz.prog 87 #[.slice (some ⟨b,off,none⟩) n c] w fun e w'=> ∃v',e= .returned v'∧w'.ownsRow w.heap.size 9 1 v' n ((zs.take n).map (Value.string))∧v'≠ .slice none 0 0∧Below w.heap.size w w':=Any.slices_Clone_string Tryz.laysNm216 b off n c zs w hz hbig hc
open Go.RowKit Go.Lib in
theorem Tryz.slices_Clone_string_nil (n c:Nat)(w:World):
  Calls Tryz.prog 87 #[.slice none n c] w fun e w'=>e= .returned (.slice none 0 0)∧w'=w:=Any.slices_Clone_string_nil Tryz.laysNm216 n c w
open Go.RowKit Go.Lib in
theorem Tryz.slices_Clone_string_zero (a:Addr)(c:Nat)(w:World):
  Calls Tryz.prog 87 #[.slice (some a) 0 c] w fun e w'=> ∃v',e= .returned v'∧w'.ownsRow w.heap.size 9 1 v' 0 []∧v'≠ .slice none 0 0∧Below w.heap.size w w':=Any.slices_Clone_string_zero Tryz.laysNm216 a c w
def Tryz.lays194_ren:Go.Shelf.Ren:=⟨fun | 194=>117 | n=>n,fun | 31=>35 | 9=>9 | 3=>3 | 4=>4 | 0=>0 | n=>n,fun | n=>n⟩
theorem Tryz.lays194:Go.Proofs.Lays.n194 Tryz.prog Tryz.lays194_ren:={
 mixed:=by kernel_rfl
 f194:=Tryz.func117.trans (congrArg some (by kernel_rfl))
 t0:=Tryz.underlying0
 a0:=Tryz.isAgg0
 z0:=Tryz.sizeOf0
 v0:=Tryz.zeroValue0
 t3:=Tryz.underlying3
 a3:=Tryz.isAgg3
 z3:=Tryz.sizeOf3
 v3:=Tryz.zeroValue3
 t4:=Tryz.underlying4
 a4:=Tryz.isAgg4
 z4:=Tryz.sizeOf4
 v4:=Tryz.zeroValue4
 t9:=Tryz.underlying9
 a9:=Tryz.isAgg9
 z9:=Tryz.sizeOf9
 v9:=Tryz.zeroValue9
 t31:=Tryz.underlying35
 a31:=Tryz.isAgg35
 z31:=Tryz.sizeOf35
 v31:=Tryz.zeroValue35}
open Go.RowKit Go.Lib Go.Sort in
theorem Tryz.slices_Compact_string (blk off cap:Nat)(zs:List (List UInt8))(w:World)(hH:Holds encStr w blk off zs.toArray)(hsz:zs.length≤9223372036854775807)(hcap:zs.length≤cap):
  Calls Tryz.prog 117 #[.slice (some ⟨blk,off,none⟩) zs.length cap] w fun e w'=>e= .returned (.slice (some ⟨blk,off,none⟩) (Lib.compact zs).length cap)∧ ∃q,w'=putRow encStr (Sort.ahead w q) blk off (Lib.compact zs++List.replicate (zs.length- (Lib.compact zs).length) []).toArray:=Any.slices_Compact_string Tryz.lays194 blk off cap zs w hH hsz hcap
open Go.RowKit Go.Lib Go.Sort in
theorem Tryz.slices_Compact_string_empty (a:Option Addr)(cap:Nat)(w:World):
  Calls Tryz.prog 117 #[.slice a 0 cap] w fun e w'=>e= .returned (.slice a 0 cap)∧w'=w:=Any.slices_Compact_string_empty Tryz.lays194 a cap w
open Go.RowKit Go.Sort in
theorem Tryz.slices_Sort_string_none (p:Option Addr)(cap:Nat)(w:World):
  Calls Tryz.prog 116 #[.slice p 0 cap] w fun e w'=>e= .returned (.tuple #[])∧w'=w:=Any.slices_Sort_string_none Tryz.lays190 p cap w
end Go.Proofs
namespace Go.Proofs.YtmnpfkbjpeaemaaGreatDoor
open Go.RowKit
theorem hx_drewN {B:Nat}{a b:World}(h:Below B a b)(n:Nat):Below B a (b.drewN n):=⟨h.os,h.tape,h.output,h.size,h.block⟩
theorem ix_val (c:UInt8):Lib.indexByte b64p.digits ((if 65≤c.toNat∧c.toNat≤70 then c.toNat+32 else c.toNat).toUInt8)=b64p.valI c:=by
 have all: ∀m:Fin 256,Lib.indexByte b64p.digits ((if 65≤m.val∧m.val≤70 then m.val+32 else m.val).toUInt8)=b64p.valI (UInt8.ofNat m.val):=by decide+kernel
 have h:=all ⟨c.toNat,c.toNat_lt⟩;simpa using h
theorem digit_any (c:UInt8)(w:World):Calls Tryz.prog 295 #[.int .u8 (c.toNat:Int)] w fun e w'=>e= .returned (.int .i64 (b64p.valI c))∧w=w':=by
 have hx:=ix_val c;have hc:=c.toNat_lt;by_cases h1:65≤c.toNat
 ·by_cases h2:c.toNat≤70
  ·rw[if_pos ⟨h1,h2⟩]at hx;have C:=Tryz.strings_IndexByte {data:=#[48,49,50,51,52,53,54,55,56,57,97,98,99,100,101,102]} ((c.toNat:Int)+32) w;have hi:Lib.indexByte (ByteArray.mk #[48,49,50,51,52,53,54,55,56,57,97,98,99,100,101,102]).data.toList ((c.toNat:Int)+32).toNat.toUInt8=b64p.valI c:=hx;rw[hi]at C;have C:=Lib.hid C;clear hx hi;go_enter Tryz.func295,Tryz.ntmps295;go_wp2_with fail;refine C.out.mono ?_;rintro e w' ⟨rfl,rfl⟩;go_wp2_with fail;go_ret;exact⟨rfl,rfl⟩
  ·rw[if_neg (by omega)]at hx;have C:=Tryz.strings_IndexByte {data:=#[48,49,50,51,52,53,54,55,56,57,97,98,99,100,101,102]} (c.toNat:Int) w;have hi:Lib.indexByte (ByteArray.mk #[48,49,50,51,52,53,54,55,56,57,97,98,99,100,101,102]).data.toList (c.toNat:Int).toNat.toUInt8=b64p.valI c:=hx;rw[hi]at C;have C:=Lib.hid C;clear hx hi;go_enter Tryz.func295,Tryz.ntmps295;go_wp2_with fail;refine C.out.mono ?_;rintro e w' ⟨rfl,rfl⟩;go_wp2_with fail;go_ret;exact⟨rfl,rfl⟩
 ·rw[if_neg (by omega)]at hx;have C:=Tryz.strings_IndexByte {data:=#[48,49,50,51,52,53,54,55,56,57,97,98,99,100,101,102]} (c.toNat:Int) w;have hi:Lib.indexByte (ByteArray.mk #[48,49,50,51,52,53,54,55,56,57,97,98,99,100,101,102]).data.toList (c.toNat:Int).toNat.toUInt8=b64p.valI c:=hx;rw[hi]at C;have C:=Lib.hid C;clear hx hi;go_enter Tryz.func295,Tryz.ntmps295;go_wp2_with fail;refine C.out.mono ?_;rintro e w' ⟨rfl,rfl⟩;go_wp2_with fail;go_ret;exact⟨rfl,rfl⟩
theorem value_any (c:UInt8)(w:World):Calls Tryz.prog 207 #[.int .u8 (c.toNat:Int)] w fun e w'=>e= .returned (.int .i64 (b64p.valI c))∧w=w':=by
 have hc:=c.toNat_lt;unfold b64p.valI;by_cases a1:48≤c.toNat<;>by_cases a2:c.toNat≤57<;>by_cases a3:97≤c.toNat<;>by_cases a4:c.toNat≤102<;>by_cases a5:65≤c.toNat<;>by_cases a6:c.toNat≤70<;>first | (exfalso;omega) | skip
 all_goals go_enter Tryz.func207,Tryz.ntmps207;go_wp2_with fail;go_ret;exact⟨kt.ret_int (by simp[*]),rfl⟩
open Go.RowKit
namespace bld
theorem sizeB:(Tryz.prog.info? 133).map (·.size)=some 2:=by kernel_rfl
theorem liesB:liesAt Tryz.prog Tryz.prog.depth 133 (2 / Tryz.prog.cellsOf 133) 0 133 1=true:=by kernel_rfl
theorem infoByte:(Tryz.prog.info? 5).map (fun i=>(i.zero,i.size,i.bytes))=some (some (.int .u8 0),1,1):=by kernel_rfl
abbrev Is (B b:Nat)(l:List UInt8)(w:World):Prop:=Lib.IsBuilder 133 5 B b (Lib.byteCells l) w
theorem copyCheck_used (b:Nat)(w:World)(h0:w.cell? ⟨b,0,none⟩=some (.pointer (some ⟨b,0,none⟩))):
  Calls Tryz.prog 167 #[.pointer (some ⟨b,0,none⟩)] w fun e w'=>e= .returned (.tuple #[])∧w=w':=by
 obtain⟨j,hj,_⟩:=Option.map_eq_some_iff.1 sizeB;have hne:=fun w':World=>Lib.run_neq_ptr_same (P:=Tryz.prog) w' (⟨b,0,none⟩:Addr) Tryz.underlying130 hj;go_enter Tryz.func167,Tryz.ntmps167;go_wp2;go_end0;exact⟨rfl,rfl⟩
theorem copyCheck_fresh (b:Nat)(w:World)(h0:w.cell? ⟨b,0,none⟩=some (.pointer none))(hsh:w.shape? b=some (133,2))(hfz:w.frozen? ⟨b,0,none⟩=false):
  Calls Tryz.prog 167 #[.pointer (some ⟨b,0,none⟩)] w fun e w'=>e= .returned (.tuple #[])∧w.setCell ⟨b,0,none⟩ (.pointer (some ⟨b,0,none⟩))=w':=by
 obtain⟨j,hj,hjs⟩:=Option.map_eq_some_iff.1 sizeB;have hne:=fun w':World=>Lib.run_neq_ptr_same (P:=Tryz.prog) w' (⟨b,0,none⟩:Addr) Tryz.underlying130 hj;go_enter Tryz.func167,Tryz.ntmps167;go_wp2;rw[Lib.run_to_unsafe w ⟨b,0,none⟩ Tryz.underlying130 Tryz.underlying228 hj (by rw[hjs];decide) hsh (Nat.zero_lt_succ 1)];simp only[Result.andThen];rw[Oper.upon_value];go_wp2;rw[run_callFunc_extern Tryz.func214 (by kernel_rfl) (by kernel_rfl) (by kernel_rfl) (e:=Extern.AbiNoEscape.same) (by kernel_rfl)];rw[Lib.run_noEscape];simp only[Result.andThen];rw[Oper.upon_value];go_wp2;rw[Lib.run_from_unsafe w ⟨b,0,none⟩ Tryz.underlying228 Tryz.underlying130 hj hsh liesB];simp only[Result.andThen];rw[Oper.upon_value];go_wp2;go_end0;exact⟨rfl,rfl⟩
theorem copyCheck_any (B b:Nat)(bs:List Value)(w:World)(h:Lib.IsBuilder 133 5 B b bs w):
  Calls Tryz.prog 167 #[.pointer (some ⟨b,0,none⟩)] w fun e w'=>e= .returned (.tuple #[])∧(Lib.BuilderAt 133 5 B b (.pointer (some ⟨b,0,none⟩)) bs w'∧Below B w w'):=by
 rcases h with h | h
 ·refine(copyCheck_fresh b w h.cell0 h.shape h.frozen0).mono ?_;rintro e w' ⟨rfl,rfl⟩;exact⟨rfl,h.used _,(Below.refl B w).setCell (p:=⟨b,0,none⟩) h.1 _⟩
 ·refine(copyCheck_used b w h.cell0).mono ?_;rintro e w' ⟨rfl,rfl⟩;exact⟨rfl,h,Below.refl B _⟩
theorem lt_of_heap {w:World}{b:Nat}{o:Obj}(h:w.heap[b]? =some o):b<w.heap.size:=by
 rcases Nat.lt_or_ge b w.heap.size with h' | h'
 ·exact h'
 ·simp[Array.getElem?_eq_none h']at h
theorem writeString_any (B b:Nat)(l:List UInt8)(t:ByteArray)(w:World)(h:Is B b l w)(hlen:l.length+t.size≤140737488355328)(hBw:B≤w.heap.size):
  Calls Tryz.prog 101 #[.pointer (some ⟨b,0,none⟩),.string t] w fun e w'=>e= .returned (.tuple #[.int .i64 (t.size:Int),.nilIface])∧(Is B b (l++t.data.toList) w'∧Below B w w'):=by
 have hbc:(Lib.byteCells l).length=l.length:=Lib.byteCells_length l;have hbc':Lib.byteCells (l++t.data.toList)=Lib.byteCells l++Lib.strCells t:=by rw[Lib.byteCells_append];rfl
 unfold Is;rw[hbc'];have h0:Lib.IsBuilder 133 5 B b (Lib.byteCells l) w:=h;clear h hbc';generalize Lib.byteCells l=bs at h0 hbc ⊢;have C:=Lib.hid (copyCheck_any B b bs w h0);clear h0;obtain⟨i0,hi,hz0,hz1,hz2⟩:=info_parts infoByte;go_enter Tryz.func101,Tryz.ntmps101;go_wp2_with fail;refine C.out.mono ?_;rintro e w1 ⟨rfl,h1,hb1⟩;obtain⟨hB,v,hbk,hown,hne⟩:=h1;have hsz:=hb1.size;have c0:w1.cell? ⟨b,0,none⟩=some (.pointer (some ⟨b,0,none⟩)):=by rw[Lib.cell_of_heap hbk];rfl
 have c1:w1.cell? ⟨b,1,none⟩=some v:=by rw[Lib.cell_of_heap hbk];rfl
 obtain⟨v',w2,hap,hown',hgr,_⟩:=Lib.run_append_own_string (P:=Tryz.prog) w1 B 131 9 131 5 i0 Tryz.underlying131 Tryz.underlying9 hi hz0 hz1 hz2 v bs.length bs hown t (by rw[hbc];unfold maxLen;omega) (by rw[hbc];omega) (by omega);have hlt:=lt_of_heap hbk;have hbk2:w2.heap[b]? =some (.cells #[.pointer (some ⟨b,0,none⟩),v] 133 (0,0)):=by rw[hgr.block b hlt (fun e=>hne e.symm)];exact hbk
 have hb2:Below B w1 w2:=(Below.refl B w1).grown hgr (by omega) (fun k hk=>(hown.lt k hk).1);have d1:w2.cell? ⟨b,1,none⟩=some v:=by rw[Lib.cell_of_heap hbk2];rfl
 have f1:w2.frozen? ⟨b,1,none⟩=false:=Lib.frozen_of_heap hbk2 1;have hown2:w2.ownsRow B 5 1 v' (bs++Lib.strCells t).length (bs++Lib.strCells t):=by rw[List.length_append,Lib.strCells_length];exact hown'
 obtain⟨ao,n,cap,rfl,hn⟩:=kt.row_form hown2;have H1:=Lib.hid hown2;have HB:=Lib.hid hbk2;clear hown' hown hbk2 hbk hne hgr C hown2;go_wp2_with (at_builtin;refine Lib.wpList_append_run _ rfl _ _ _ _ rfl _ _ rfl rfl _ _ hap ?_);go_ret2;exact⟨rfl,Or.inr (Lib.BuilderAt.put hB HB.out H1.out (by decide)),(hb1.trans hb2).setCell (p:=⟨b,1,none⟩) hB _⟩
theorem fresh (w:World):Is w.heap.size w.heap.size [] (w.alloc (.cells #[.pointer none,.slice none 0 0] 133)):=Lib.fresh_isBuilder _ _ w
end bld
end Go.Proofs.YtmnpfkbjpeaemaaGreatDoor
