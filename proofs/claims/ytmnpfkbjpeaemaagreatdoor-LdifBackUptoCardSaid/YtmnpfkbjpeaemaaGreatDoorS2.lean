/- One text out of several: DnP, LowP, HexD, UnhexW, RowS, SegS, ScanW, TypeW. -/
import Derived.Lib.Hide
import Derived.Test.YtmnpfkbjpeaemaaGreatDoorS1
import Derived.Lib.MapLaws
import Derived.Laws.RangeAny
import Derived.Test.YtmnpfkbjpeaemaaGreatDoorRows
import Derived.Laws.CopyRow
import Derived.Lib.AppendZerosOnto
import Derived.Lib.Overlaps
set_option linter.unusedVariables false
set_option linter.unusedSimpArgs false
set_option maxRecDepth 20000
set_option maxHeartbeats 4000000
namespace Go.Proofs.YtmnpfkbjpeaemaaGreatDoor
namespace dnp
open b64p (valI)
abbrev Sg:=UInt8 × Bool
abbrev Pr:=List UInt8 × List UInt8
def special (c:UInt8):Bool:=decide (c=34∨c=43∨c=44∨c=59∨c=60∨c=61∨c=62∨c=92)
def isSep (c:UInt8):Bool:=decide (c=44∨c=59∨c=43)
def bad (c:UInt8):Bool:=decide (c=34∨c=60∨c=62)
def esc:List UInt8→Option (UInt8 × Nat)
 | []=>none
 | d::t=>if special d=true∨d=35∨d=32 then some (d,1)else match t with
  | []=>none
  | e::_=>if valI d<0∨valI e<0 then none else some (UInt8.ofNat (16*valI d+valI e).toNat,2)
theorem esc_two {t:List UInt8}{d:UInt8}{n:Nat}(h:esc t=some (d,n)):1≤n∧n≤2∧n≤t.length:=by
 unfold esc at h
 repeat' split at h
 all_goals(try cases h)
 all_goals(simp;try omega)
def signsF:Nat→List UInt8→Option (List Sg)
 | 0,_=>some []
 | _+1,[]=>some []
 | f+1,c::t=>if c≠92 then(signsF f t).map ((c,true):: ·)else match esc t with
  | none=>none
  | some (d,n)=>(signsF f (t.drop n)).map ((d,false):: ·)
def signs (l:List UInt8):Option (List Sg):=signsF l.length l
theorem signsF_more: ∀ (f g:Nat) (l:List UInt8),l.length≤f→l.length≤g→signsF f l=signsF g l
 | 0,g,l,h,_=>by have:l=[]:=List.eq_nil_of_length_eq_zero (by omega);subst this;cases g<;>rfl
 | f+1,0,l,_,h=>by have:l=[]:=List.eq_nil_of_length_eq_zero (by omega);subst this;rfl
 | f+1,g+1,[],_,_=>rfl
 | f+1,g+1,c::t,h,h'=>by
  simp only[List.length_cons]at h h';unfold signsF;by_cases e:c≠92
  ·rw[if_pos e,if_pos e,signsF_more f g t (by omega) (by omega)]
  ·rw[if_neg e,if_neg e];cases he:esc t with
   | none=>rfl
   | some p=>obtain⟨d,n⟩:=p;simp only[];rw[signsF_more f g (t.drop n) (by rw[List.length_drop];omega) (by rw[List.length_drop];omega)]
theorem signs_nil:signs []=some []:=rfl
theorem signs_bare (c:UInt8)(t:List UInt8)(h:c≠92):signs (c::t)=(signs t).map ((c,true):: ·):=by show signsF (t.length+1) (c::t)=_;rw[signsF,if_pos h];rfl
theorem signs_esc (t:List UInt8)(d:UInt8)(n:Nat)(h:esc t=some (d,n)):signs (92::t)=(signs (t.drop n)).map ((d,false):: ·):=by show signsF (t.length+1) (92::t)=_;rw[signsF,if_neg (by simp),h];simp only[];rw[signsF_more t.length (t.drop n).length _ (by rw[List.length_drop];omega) (Nat.le_refl _)];rfl
theorem signs_bad (t:List UInt8)(h:esc t=none):signs (92::t)=none:=by show signsF (t.length+1) (92::t)=_;rw[signsF,if_neg (by simp),h]
theorem signs_app (p r:List UInt8)(h:(92:UInt8) ∉p):signs (p++r)=(signs r).map (p.map (·,true)++ ·):=by
 induction p with
 | nil=>simp
 | cons c p ih=>simp only[List.mem_cons,not_or]at h;rw[List.cons_append,signs_bare c _ (Ne.symm h.1),ih h.2,Option.map_map];rfl
theorem signs_of_bare {l:List UInt8}{c:UInt8}{L:List Sg}(h:signs l=some ((c,true)::L)): ∃t,l=c::t∧c≠92∧signs t=some L:=by
 cases l with
 | nil=>rw[signs_nil]at h;simp at h
 | cons d t=>
  by_cases e:d=92
  ·subst e;cases he:esc t with
   | none=>rw[signs_bad t he]at h;cases h
   | some p=>obtain⟨x,n⟩:=p;rw[signs_esc t x n he]at h;obtain⟨M,_,hM⟩:=Option.map_eq_some_iff.1 h;simp at hM
  ·rw[signs_bare d t e]at h;obtain⟨M,h1,hM⟩:=Option.map_eq_some_iff.1 h;simp only[List.cons.injEq,Prod.mk.injEq,and_true]at hM;obtain⟨rfl,rfl⟩:=hM;exact⟨t,rfl,e,h1⟩
theorem signs_of_bares: ∀ (a:List UInt8) (l:List UInt8) (L:List Sg),signs l=some (a.map (·,true)++L)→ ∃r,l=a++r∧(92:UInt8) ∉a∧signs r=some L
 | [],l,L,h=>⟨l,rfl,by simp,h⟩
 | c::a,l,L,h=>by obtain⟨t,rfl,h1,h2⟩:=signs_of_bare h;obtain⟨r,rfl,h3,h4⟩:=signs_of_bares a t L h2;exact⟨r,rfl,by simp[h3,Ne.symm h1],h4⟩
def sepS (x:Sg):Bool:=x.2&&isSep x.1
def segs:List Sg→List Sg × List (UInt8 × List Sg)
 | []=>([],[])
 | x::t=>if sepS x=true then([],(x.1,(segs t).1)::(segs t).2)else(x::(segs t).1,(segs t).2)
theorem segs_none (B:List Sg)(h: ∀x∈B,sepS x=false):segs B=(B,[]):=by
 induction B with
 | nil=>rfl
 | cons x B ih=>rw[segs,if_neg (by rw[h x (by simp)];simp),ih (fun y hy=>h y (by simp[hy]))]
theorem segs_at (B:List Sg)(c:UInt8)(L:List Sg)(h: ∀x∈B,sepS x=false)(hc:isSep c=true):segs (B++(c,true)::L)=(B,(c,(segs L).1)::(segs L).2):=by
 induction B with
 | nil=>rw[List.nil_append,segs,if_pos (by simpa[sepS]using hc)]
 | cons x B ih=>rw[List.cons_append,segs,if_neg (by rw[h x (by simp)];simp),ih (fun y hy=>h y (by simp[hy]))]
theorem segs_app (B L:List Sg)(h: ∀x∈B,sepS x=false):segs (B++L)=(B++(segs L).1,(segs L).2):=by
 induction B with
 | nil=>rfl
 | cons x B ih=>rw[List.cons_append,segs,if_neg (by rw[h x (by simp)];simp),ih (fun y hy=>h y (by simp[hy]))];rfl
def blankS (x:Sg):Bool:=x.2&&decide (x.1=32)
def trimR (B:List Sg):List Sg:=(B.reverse.dropWhile blankS).reverse
def trim (B:List Sg):List Sg:=trimR (B.dropWhile blankS)
theorem dropW_app {α:Type}(p:α→Bool): ∀ (a b:List α),(∀x∈a,p x=true)→(a++b).dropWhile p=b.dropWhile p
 | [],b,_=>rfl
 | x::a,b,h=>by rw[List.cons_append,List.dropWhile_cons,if_pos (h x (by simp)),dropW_app p a b (fun y hy=>h y (by simp[hy]))]
theorem dropW_split {α:Type}(p:α→Bool): ∀ (l:List α),∃a,l=a++l.dropWhile p∧(∀x∈a,p x=true)
 | []=>⟨[],rfl,by simp⟩
 | x::l=>by
  by_cases h:p x=true
  ·obtain⟨a,h1,h2⟩:=dropW_split p l;refine⟨x::a,?_,?_⟩
   ·rw[List.dropWhile_cons,if_pos h,List.cons_append,←h1]
   ·intro y hy;rcases List.mem_cons.1 hy with rfl | hy
    ·exact h
    ·exact h2 y hy
  ·exact⟨[],by rw[List.dropWhile_cons,if_neg h];rfl,by simp⟩
theorem dropW_head {α:Type}(p:α→Bool): ∀ (l:List α) (x:α) (t:List α),l.dropWhile p=x::t→p x=false
 | [],x,t,h=>by simp at h
 | y::l,x,t,h=>by
  by_cases e:p y=true
  ·rw[List.dropWhile_cons,if_pos e]at h;exact dropW_head p l x t h
  ·rw[List.dropWhile_cons,if_neg e]at h;cases h;simpa using e
theorem dropW_keep {α:Type}(p:α→Bool)(l:List α)(x:α)(h:x∈l)(hx:p x=false):x∈l.dropWhile p:=by
 obtain⟨a,h1,h2⟩:=dropW_split p l;rw[h1]at h;rcases List.mem_append.1 h with h | h
 ·rw[h2 x h]at hx;cases hx
 ·exact h
theorem dropW_id {α:Type}(p:α→Bool)(l:List α)(h: ∀x t,l=x::t→p x=false):l.dropWhile p=l:=by
 cases l with
 | nil=>rfl
 | cons x t=>rw[List.dropWhile_cons,if_neg (by rw[h x t rfl];simp)]
theorem trimR_split (B:List Sg): ∃a,B=trimR B++a∧ ∀x∈a,blankS x=true:=by obtain⟨a,h1,h2⟩:=dropW_split blankS B.reverse;refine⟨a.reverse,?_,fun x hx=>h2 x (List.mem_reverse.1 hx)⟩;unfold trimR;rw[←List.reverse_append,←h1,List.reverse_reverse]
theorem trimR_keep (B:List Sg)(x:Sg)(h:x∈B)(hx:blankS x=false):x∈trimR B:=by unfold trimR;rw[List.mem_reverse];exact dropW_keep _ _ _ (List.mem_reverse.2 h) hx
theorem trim_keep (B:List Sg)(x:Sg)(h:x∈B)(hx:blankS x=false):x∈trim B:=trimR_keep _ x (dropW_keep _ _ _ h hx) hx
theorem trimR_head (x:Sg)(B:List Sg)(hx:blankS x=false): ∃t,trimR (x::B)=x::t:=by
 obtain⟨a,h1,h2⟩:=trimR_split (x::B);have hm:=trimR_keep (x::B) x (by simp) hx;cases ht:trimR (x::B)with
 | nil=>rw[ht]at hm;simp at hm
 | cons y t=>rw[ht]at h1;cases h1;exact⟨t,rfl⟩
theorem trimR_mem (B:List Sg)(x:Sg)(h:x∈trimR B):x∈B:=by obtain⟨a,h1,_⟩:=trimR_split B;rw[h1];exact List.mem_append_left _ h
def low (c:UInt8):UInt8:=if 65≤c∧c≤90 then c+32 else c
def letter (c:UInt8):Bool:=decide (97≤c∧c≤122)
def typeCh (c:UInt8):Bool:=letter c||decide (48≤c∧c≤57)||decide (c=45)
def typeOK (t:List UInt8):Bool:=(match t with
 | []=>false
 | c::_=>letter c)&&decide (t.length≤32)&&t.all typeCh
def lowL (t:List UInt8):List UInt8:=t.map low
theorem low_ch: ∀c:UInt8,typeCh (low c)=true→c≠32∧c≠61∧c≠92∧c≠44∧c≠59∧c≠43:=by intro c h;refine⟨?_,?_,?_,?_,?_,?_⟩<;>(rintro rfl;revert h;decide)
theorem type_mem {t:List UInt8}(h:typeOK (lowL t)=true):t≠[]∧ ∀c∈t,typeCh (low c)=true:=by
 unfold typeOK at h;simp only[Bool.and_eq_true]at h;obtain⟨⟨h1,_⟩,h2⟩:=h;refine⟨?_,?_⟩
 ·rintro rfl;simp[lowL]at h1
 ·intro c hc;exact List.all_eq_true.1 h2 (low c) (List.mem_map.2 ⟨c,hc,rfl⟩)
def eqS (x:Sg):Bool:=x.2&&decide (x.1=61)
def rightOK (R:List Sg):Bool:= !(R.any fun x=>x.2&&bad x.1)&&(match R with
 | []=>true
 | x::_=> !(x.2&&decide (x.1=35)))
def pairS (s:List Sg):Option Pr:=
 match s.dropWhile (fun x=> !eqS x)with
 | []=>none
 | _::V=>
  let left:=trim (s.takeWhile fun x=> !eqS x)
  if(left.all (·.2))=true∧typeOK (lowL (left.map (·.1)))=true∧rightOK (trim V)=true then some (lowL (left.map (·.1)),(trim V).map (·.1))else none
theorem takeW_no {α:Type}(p:α→Bool): ∀ (a:List α) (x:α) (b:List α),(∀y∈a,p y=true)→p x=false→(a++x::b).takeWhile p=a∧(a++x::b).dropWhile p=x::b
 | [],x,b,_,hx=>by simp[hx]
 | y::a,x,b,h,hx=>by obtain⟨h1,h2⟩:=takeW_no p a x b (fun z hz=>h z (by simp[hz])) hx;rw[List.cons_append,List.takeWhile_cons,List.dropWhile_cons,if_pos (h y (by simp)),if_pos (h y (by simp)),h1,h2];exact⟨rfl,rfl⟩
theorem pairS_at (A V:List Sg)(h: ∀x∈A,eqS x=false):pairS (A++(61,true)::V)=if((trim A).all (·.2))=true∧typeOK (lowL ((trim A).map (·.1)))=true∧rightOK (trim V)=true then some (lowL ((trim A).map (·.1)),(trim V).map (·.1))else none:=by obtain⟨h1,h2⟩:=takeW_no (fun x=> !eqS x) A ((61,true):Sg) V (fun x hx=>by rw[h x hx];rfl) (by decide);unfold pairS;rw[h1,h2]
theorem pairS_some {s:List Sg}{p:Pr}(h:pairS s=some p): ∃A V,s=A++(61,true)::V∧(∀x∈A,eqS x=false)∧((trim A).all (·.2))=true∧typeOK (lowL ((trim A).map (·.1)))=true∧rightOK (trim V)=true∧p=(lowL ((trim A).map (·.1)),(trim V).map (·.1)):=by
 obtain⟨A,h1,h2⟩:=dropW_split (fun x=> !eqS x) s;cases hd:s.dropWhile (fun x=> !eqS x)with
 | nil=>unfold pairS at h;rw[hd]at h;cases h
 | cons x V=>
  have hx:=dropW_head _ _ _ _ hd;have hx':x=(61,true):=by obtain⟨c,b⟩:=x;simp only[Bool.not_eq_false',eqS,Bool.and_eq_true,decide_eq_true_eq]at hx;obtain⟨rfl,rfl⟩:=hx;rfl
  subst hx';rw[hd]at h1;have hA: ∀x∈A,eqS x=false:=fun x hx=>by have:=h2 x hx;simpa using this
  rw[h1,pairS_at A V hA]at h;split at h
  ·rename_i hc;cases h;exact⟨A,V,h1,hA,hc.1,hc.2.1,hc.2.2,rfl⟩
  ·cases h
def trimB (l:List UInt8):List UInt8:=((l.dropWhile (· =32)).reverse.dropWhile (· =32)).reverse
theorem map_dropW {α β:Type}(f:α→β)(p:β→Bool): ∀l:List α,(l.map f).dropWhile p=(l.dropWhile (fun x=>p (f x))).map f
 | []=>rfl
 | x::l=>by
  rw[List.map_cons,List.dropWhile_cons,List.dropWhile_cons];split
  ·rw[map_dropW f p l]
  ·rfl
theorem blankS_bare (c:UInt8):blankS (c,true)=decide (c=32):=by simp[blankS]
theorem trim_bare (a:List UInt8):trim (a.map (·,true))=(trimB a).map (·,true):=by
 unfold trim trimR trimB;have e:(fun x:UInt8=>blankS (x,true))=(fun x=>decide (x=32)):=by funext x;exact blankS_bare x
 rw[map_dropW,e,←List.map_reverse,map_dropW,e,List.map_reverse]
theorem trimB_split (a:List UInt8): ∃x y,a=x++trimB a++y∧(∀c∈x,c=32)∧(∀c∈y,c=32):=by
 obtain⟨x,h1,h2⟩:=dropW_split (fun c:UInt8=>decide (c=32)) a;obtain⟨y,h3,h4⟩:=dropW_split (fun c:UInt8=>decide (c=32)) (a.dropWhile (fun c=>decide (c=32))).reverse;refine⟨x,y.reverse,?_,fun c hc=>by simpa using h2 c hc,fun c hc=>by simpa using h4 c (List.mem_reverse.1 hc)⟩;have h5:a.dropWhile (fun c=>decide (c=32))=trimB a++y.reverse:=by unfold trimB;rw[←List.reverse_append,←h3,List.reverse_reverse]
 rw[List.append_assoc,←h5,←h1]
def kindP (l:List UInt8):Option (List UInt8 × List UInt8):=
 let l1:=l.dropWhile (· =32)
 let T:=l1.takeWhile fun c=>decide (c≠61∧c≠32)
 match((l1.dropWhile fun c=>decide (c≠61∧c≠32)).dropWhile (· =32))with
 | []=>none
 | c::r=>if c=61∧typeOK (lowL T)=true then some (lowL T,r)else none
theorem takeW_all {α:Type}(p:α→Bool): ∀ (a b:List α),(∀y∈a,p y=true)→(∀x t,b=x::t→p x=false)→(a++b).takeWhile p=a∧(a++b).dropWhile p=b
 | [],b,_,hb=>by
  cases b with
  | nil=>exact⟨rfl,rfl⟩
  | cons x t=>simp[hb x t rfl]
 | y::a,b,h,hb=>by obtain⟨h1,h2⟩:=takeW_all p a b (fun z hz=>h z (by simp[hz])) hb;rw[List.cons_append,List.takeWhile_cons,List.dropWhile_cons,if_pos (h y (by simp)),if_pos (h y (by simp)),h1,h2];exact⟨rfl,rfl⟩
theorem kindP_of (x T y r:List UInt8)(hx: ∀c∈x,c=32)(hy: ∀c∈y,c=32)(hT:typeOK (lowL T)=true):kindP (x++T++y++61::r)=some (lowL T,r):=by
 obtain⟨hne,hm⟩:=type_mem hT;unfold kindP;have e1:(x++T++y++61::r).dropWhile (fun c=>decide (c=32))=T++(y++61::r):=by
  rw[List.append_assoc,List.append_assoc,dropW_app _ x _ (fun c hc=>by simp[hx c hc]),dropW_id];intro c t hc;cases T with
  | nil=>exact absurd rfl hne
  | cons d T=>have hcd:d=c:=(by simp only[List.cons_append,List.cons.injEq]at hc;exact hc.1);have:=(low_ch d (hm d (by simp))).1;rw[hcd]at this;simpa using this
 have e2:=takeW_all (fun c:UInt8=>decide (c≠61∧c≠32)) T (y++61::r) (fun c hc=>by have:=low_ch c (hm c hc);simp[this.1,this.2.1]) (by
  intro c t hc;cases y with
  | nil=>have hcd:61=c:=(by simp only[List.nil_append,List.cons.injEq]at hc;exact hc.1);rw[←hcd];decide
  | cons d y=>have hcd:d=c:=(by simp only[List.cons_append,List.cons.injEq]at hc;exact hc.1);have:=hy d (by simp);rw[hcd]at this;simp[this])
 simp only[e1,e2.1,e2.2];rw[dropW_app _ y _ (fun c hc=>by simp[hy c hc])];rw[List.dropWhile_cons,if_neg (by decide)];simp[hT]
theorem kindP_some {l t r:List UInt8}(h:kindP l=some (t,r)): ∃x T y,l=x++T++y++61::r∧(∀c∈x,c=32)∧(∀c∈y,c=32)∧typeOK (lowL T)=true∧t=lowL T:=by
 obtain⟨x,hx1,hx2⟩:=dropW_split (fun c:UInt8=>decide (c=32)) l;unfold kindP at h;simp only[]at h;generalize hl1:l.dropWhile (fun c=>decide (c=32))=l1 at*;have hT:=List.takeWhile_append_dropWhile (p:=fun c:UInt8=>decide (c≠61∧c≠32)) (l:=l1);generalize hl2:l1.dropWhile (fun c:UInt8=>decide (c≠61∧c≠32))=l2 at*;generalize hTT:l1.takeWhile (fun c:UInt8=>decide (c≠61∧c≠32))=T at*;obtain⟨y,hy1,hy2⟩:=dropW_split (fun c:UInt8=>decide (c=32)) l2;generalize hl3:l2.dropWhile (fun c=>decide (c=32))=l3 at*;cases l3 with
 | nil=>simp at h
 | cons c r'=>
  simp only[]at h;split at h
  ·rename_i hc;obtain⟨rfl,hc2⟩:=hc;cases h;refine⟨x,T,y,?_,fun c hc=>by simpa using hx2 c hc,fun c hc=>by simpa using hy2 c hc,hc2,rfl⟩;rw[hx1,←hT,hy1];simp
  ·cases h
theorem trimB_of (x T y:List UInt8)(hx: ∀c∈x,c=32)(hy: ∀c∈y,c=32)(hT:typeOK (lowL T)=true):trimB (x++T++y)=T:=by
 obtain⟨hne,hm⟩:=type_mem hT;have h32: ∀c∈T,decide (c=32)=false:=fun c hc=>by have:=(low_ch c (hm c hc)).1;simpa using this
 have e1:(x++T++y).dropWhile (fun c=>decide (c=32))=T++y:=by
  rw[List.append_assoc,dropW_app _ x _ (fun c hc=>by simp[hx c hc]),dropW_id];intro c t hc;cases T with
  | nil=>exact absurd rfl hne
  | cons d T=>have hcd:d=c:=(by simp only[List.cons_append,List.cons.injEq]at hc;exact hc.1);rw[←hcd];exact h32 d (by simp)
 unfold trimB;rw[e1,List.reverse_append,dropW_app _ y.reverse _ (fun c hc=>by simp[hy c (List.mem_reverse.1 hc)]),dropW_id,List.reverse_reverse];intro c t hc;have:c∈T:=by rw[←List.mem_reverse,hc];simp
 exact h32 c this
def scanF:Nat→List UInt8→Option (List Sg × List UInt8)
 | 0,_=>some ([],[])
 | _+1,[]=>some ([],[])
 | f+1,c::t=>if isSep c=true then some ([],c::t)else if bad c=true then none else if c≠92 then(scanF f t).map (fun p=>((c,true)::p.1,p.2))else match esc t with
  | none=>none
  | some (d,n)=>(scanF f (t.drop n)).map (fun p=>((d,false)::p.1,p.2))
def scan (l:List UInt8):Option (List Sg × List UInt8):=scanF l.length l
theorem scanF_more: ∀ (f g:Nat) (l:List UInt8),l.length≤f→l.length≤g→scanF f l=scanF g l
 | 0,g,l,h,_=>by have:l=[]:=List.eq_nil_of_length_eq_zero (by omega);subst this;cases g<;>rfl
 | f+1,0,l,_,h=>by have:l=[]:=List.eq_nil_of_length_eq_zero (by omega);subst this;rfl
 | f+1,g+1,[],_,_=>rfl
 | f+1,g+1,c::t,h,h'=>by
  simp only[List.length_cons]at h h';unfold scanF;have h1:=scanF_more f g t (by omega) (by omega);have h2:=fun n=>scanF_more f g (t.drop n) (by rw[List.length_drop];omega) (by rw[List.length_drop];omega);rw[h1];split
  ·rfl
  ·split
   ·rfl
   ·split
    ·rfl
    ·cases esc t with
     | none=>rfl
     | some p=>obtain⟨d,n⟩:=p;simp only[];rw[h2 n]
theorem scan_nil:scan []=some ([],[]):=rfl
theorem scan_sep (c:UInt8)(t:List UInt8)(h:isSep c=true):scan (c::t)=some ([],c::t):=by show scanF (t.length+1) (c::t)=_;rw[scanF,if_pos h]
theorem scan_bad (c:UInt8)(t:List UInt8)(h:isSep c=false)(h2:bad c=true):scan (c::t)=none:=by show scanF (t.length+1) (c::t)=_;rw[scanF,if_neg (by rw[h];simp),if_pos h2]
theorem scan_bare (c:UInt8)(t:List UInt8)(h:isSep c=false)(h2:bad c=false)(h3:c≠92):scan (c::t)=(scan t).map (fun p=>((c,true)::p.1,p.2)):=by show scanF (t.length+1) (c::t)=_;rw[scanF,if_neg (by rw[h];simp),if_neg (by rw[h2];simp),if_pos h3];rfl
theorem scan_esc (t:List UInt8)(d:UInt8)(n:Nat)(h:esc t=some (d,n)):scan (92::t)=(scan (t.drop n)).map (fun p=>((d,false)::p.1,p.2)):=by show scanF (t.length+1) (92::t)=_;rw[scanF,if_neg (by decide),if_neg (by decide),if_neg (by simp),h];simp only[];rw[scanF_more t.length (t.drop n).length _ (by rw[List.length_drop];omega) (Nat.le_refl _)];rfl
theorem scan_none (t:List UInt8)(h:esc t=none):scan (92::t)=none:=by show scanF (t.length+1) (92::t)=_;rw[scanF,if_neg (by decide),if_neg (by decide),if_neg (by simp),h]
def badS (x:Sg):Bool:=x.2&&bad x.1
theorem scan_signs: ∀ (n:Nat) (l:List UInt8),l.length≤n→
  (scan l=none∧(signs l=none∨ ∃L,signs l=some L∧ ∃x∈(segs L).1,badS x=true))∨
  (∃B,scan l=some (B,[])∧signs l=some B∧ ∀x∈B,sepS x=false∧badS x=false)∨
  (∃B c r,scan l=some (B,c::r)∧isSep c=true∧r.length<l.length∧signs l=(signs r).map (fun L=>B++(c,true)::L)∧ ∀x∈B,sepS x=false∧badS x=false)
 | n,[],_=>Or.inr (Or.inl ⟨[],rfl,rfl,by simp⟩)
 | 0,_::_,h=>by simp at h
 | n+1,c::t,h=>by
  simp only[List.length_cons]at h;by_cases hs:isSep c=true
  ·have hc:c≠92:=(by rintro rfl;revert hs;decide);refine Or.inr (Or.inr ⟨[],c,t,scan_sep c t hs,hs,by simp,?_,by simp⟩);rw[signs_bare c t hc];rfl
  ·have hs':isSep c=false:=(by simpa using hs);by_cases hb:bad c=true
   ·refine Or.inl ⟨scan_bad c t hs' hb,?_⟩;have hc:c≠92:=(by rintro rfl;revert hb;decide);rw[signs_bare c t hc];cases hst:signs t with
    | none=>exact Or.inl rfl
    | some L=>refine Or.inr ⟨_,rfl,(c,true),?_,by simpa[badS]using hb⟩;rw[segs,if_neg (by simp[sepS,hs'])];simp
   ·have hb':bad c=false:=(by simpa using hb);by_cases h92:c=92
    ·subst h92;cases he:esc t with
     | none=>exact Or.inl ⟨scan_none t he,Or.inl (signs_bad t he)⟩
     | some p=>
      obtain⟨d,k⟩:=p;obtain⟨k1,k2,k3⟩:=esc_two he;rw[scan_esc t d k he,signs_esc t d k he];have hdl:(t.drop k).length≤n:=(by rw[List.length_drop];omega);rcases scan_signs n (t.drop k) hdl with⟨e1,e2⟩ | ⟨B,e1,e2,e3⟩ | ⟨B,c',r,e1,e2,e3,e4,e5⟩
      ·refine Or.inl ⟨by rw[e1];rfl,?_⟩;rcases e2 with e2 | ⟨L,e2,x,hx,hx2⟩
       ·exact Or.inl (by rw[e2];rfl)
       ·refine Or.inr ⟨_,by rw[e2];rfl,x,?_,hx2⟩;rw[segs,if_neg (by simp[sepS])];exact List.mem_cons_of_mem _ hx
      ·refine Or.inr (Or.inl ⟨(d,false)::B,by rw[e1];rfl,by rw[e2];rfl,?_⟩);intro x hx;rcases List.mem_cons.1 hx with rfl | hx
       ·simp[sepS,badS]
       ·exact e3 x hx
      ·refine Or.inr (Or.inr ⟨(d,false)::B,c',r,by rw[e1];rfl,e2,?_,by rw[e4,Option.map_map];rfl,?_⟩)
       ·rw[List.length_drop]at e3;simp only[List.length_cons];omega
       ·intro x hx;rcases List.mem_cons.1 hx with rfl | hx
        ·simp[sepS,badS]
        ·exact e5 x hx
    ·rw[scan_bare c t hs' hb' h92,signs_bare c t h92];rcases scan_signs n t (by omega)with⟨e1,e2⟩ | ⟨B,e1,e2,e3⟩ | ⟨B,c',r,e1,e2,e3,e4,e5⟩
     ·refine Or.inl ⟨by rw[e1];rfl,?_⟩;rcases e2 with e2 | ⟨L,e2,x,hx,hx2⟩
      ·exact Or.inl (by rw[e2];rfl)
      ·refine Or.inr ⟨_,by rw[e2];rfl,x,?_,hx2⟩;rw[segs,if_neg (by simp[sepS,hs'])];exact List.mem_cons_of_mem _ hx
     ·refine Or.inr (Or.inl ⟨(c,true)::B,by rw[e1];rfl,by rw[e2];rfl,?_⟩);intro x hx;rcases List.mem_cons.1 hx with rfl | hx
      ·simp[sepS,badS,hs',hb']
      ·exact e3 x hx
     ·refine Or.inr (Or.inr ⟨(c,true)::B,c',r,by rw[e1];rfl,e2,by simp only[List.length_cons];omega,by rw[e4,Option.map_map];rfl,?_⟩);intro x hx;rcases List.mem_cons.1 hx with rfl | hx
      ·simp[sepS,badS,hs',hb']
      ·exact e5 x hx
theorem scan_head {c:UInt8}{t:List UInt8}{B:List Sg}{r:List UInt8}(h:scan (c::t)=some (B,r)):B=[]∨ ∃B',(B=(c,true)::B'∧c≠92)∨ ∃d,B=(d,false)::B':=by
 by_cases hs:isSep c=true
 ·rw[scan_sep c t hs]at h;cases h;exact Or.inl rfl
 ·have hs':isSep c=false:=by simpa using hs
  by_cases hb:bad c=true
  ·rw[scan_bad c t hs' hb]at h;cases h
  ·have hb':bad c=false:=(by simpa using hb);by_cases h92:c=92
   ·subst h92;cases he:esc t with
    | none=>rw[scan_none t he]at h;cases h
    | some p=>obtain⟨d,k⟩:=p;rw[scan_esc t d k he]at h;obtain⟨q,_,hq⟩:=Option.map_eq_some_iff.1 h;cases hq;exact Or.inr ⟨_,Or.inr ⟨d,rfl⟩⟩
   ·rw[scan_bare c t hs' hb' h92]at h;obtain⟨q,_,hq⟩:=Option.map_eq_some_iff.1 h;cases hq;exact Or.inr ⟨_,Or.inl ⟨rfl,h92⟩⟩
def valueP (r:List UInt8):Option (List UInt8 × List UInt8):=if(r.dropWhile (· =32)).head?=some 35 then none else(scan (r.dropWhile (· =32))).map fun p=>((trimR p.1).map (·.1),p.2)
def PF:Nat→List UInt8→Option (Pr × List (UInt8 × Pr))
 | 0,_=>none
 | f+1,l=>(kindP l).bind fun k=>(valueP k.2).bind fun v=>match v.2 with
  | []=>some ((k.1,v.1),[])
  | c::r=>(PF f r).map fun p=>((k.1,v.1),(c,p.1)::p.2)
def refL (s:List Sg × List (UInt8 × List Sg)):Option (Pr × List (UInt8 × Pr)):=(pairS s.1).bind fun p=>(s.2.mapM fun q=>(pairS q.2).map (q.1, ·)).map (p, ·)
def R (l:List UInt8):Option (Pr × List (UInt8 × Pr)):=(signs l).bind fun L=>refL (segs L)
theorem refL_cons (A:List Sg)(c:UInt8)(s:List Sg × List (UInt8 × List Sg)):refL (A,(c,s.1)::s.2)=(pairS A).bind fun p=>(refL s).map fun q=>(p,(c,q.1)::q.2):=by
 unfold refL;cases pairS A with
 | none=>rfl
 | some p=>
  simp only[Option.bind_some,List.mapM_cons];cases pairS s.1 with
  | none=>rfl
  | some q=>
   simp only[Option.map_some,Option.bind_some,Option.bind_eq_bind,Option.pure_def];cases(s.2.mapM fun q=>(pairS q.2).map (q.1, ·))with
   | none=>rfl
   | some r=>rfl
theorem rightOK_bad {R:List Sg}{x:Sg}(h:x∈R)(hx:badS x=true):rightOK R=false:=by unfold rightOK;have:(R.any fun x=>x.2&&bad x.1)=true:=List.any_eq_true.2 ⟨x,h,hx⟩;rw[this];rfl
theorem badS_not_blank {x:Sg}(h:badS x=true):blankS x=false:=by
 obtain⟨c,b⟩:=x;unfold badS at h;unfold blankS;simp only[Bool.and_eq_true]at h;obtain⟨rfl,h2⟩:=h;simp only[Bool.true_and,decide_eq_false_iff_not];rintro rfl
 revert h2;decide
theorem P_eq_R: ∀ (n:Nat) (l:List UInt8),l.length<n→PF n l=R l
 | 0,l,h=>by omega
 | n+1,l,h=>by
  cases hk:kindP l with
  | none=>
   have hP:PF (n+1) l=none:=(by rw[PF,hk];rfl);rw[hP];unfold R;cases hs:signs l with
   | none=>rfl
   | some L=>
    simp only[Option.bind_some];unfold refL;cases hp:pairS (segs L).1 with
    | none=>rfl
    | some p=>
     exfalso;obtain⟨A,V,h1,h2,h3,h4,h5,_⟩:=pairS_some hp
     -- all of A stands bare
     have hbare: ∀x∈A,x.2=true:=by
      intro x hx;by_cases hb:blankS x=true
      ·unfold blankS at hb;simp only[Bool.and_eq_true]at hb;exact hb.1
      ·exact List.all_eq_true.1 h3 x (trim_keep A x hx (by simpa using hb))
     have hA:A=(A.map (·.1)).map (·,true):=by
      rw[List.map_map];conv=>lhs;rw[←List.map_id A]
      apply List.map_congr_left;intro x hx;have:=hbare x hx;obtain⟨c,b⟩:=x;simp only at this;subst this;rfl
     generalize A.map (·.1)=a at hA;subst hA
     -- L begins with the segment
     have hL: ∃M,L=(segs L).1++M:=by
      clear hs hp h1;induction L with
      | nil=>exact⟨[],rfl⟩
      | cons x L ih=>
       obtain⟨M,hM⟩:=ih;unfold segs;split
       ·exact⟨x::L,rfl⟩
       ·exact⟨M,by rw[List.cons_append,←hM]⟩
     obtain⟨M,hM⟩:=hL;rw[h1,List.append_assoc,List.cons_append]at hM;rw[hM]at hs;obtain⟨r,rfl,_,hr⟩:=signs_of_bares a l _ hs;obtain⟨r2,rfl,_,_⟩:=signs_of_bare hr;rw[trim_bare,List.map_map]at h4;have e5:((fun x:Sg=>x.1) ∘ fun x:UInt8=>(x,true))=id:=rfl;rw[e5,List.map_id]at h4;obtain⟨x,y,e1,e2,e3⟩:=trimB_split a;rw[e1]at hk;rw[kindP_of x (trimB a) y r2 e2 e3 h4]at hk;cases hk
  | some kr=>
   obtain⟨t,r⟩:=kr;obtain⟨x,T,y,rfl,hx,hy,hT,rfl⟩:=kindP_some hk;obtain⟨hTne,hTm⟩:=type_mem hT;have hall: ∀c∈x++T++y,c≠61∧c≠92∧isSep c=false:=by
    intro c hc;rcases List.mem_append.1 hc with hc | hc
    ·rcases List.mem_append.1 hc with hc | hc
     ·rw[hx c hc];decide
     ·have:=low_ch c (hTm c hc);exact⟨this.2.1,this.2.2.1,by simp[isSep,this.2.2.2.1,this.2.2.2.2.1,this.2.2.2.2.2]⟩
    ·rw[hy c hc];decide
   have hsl:signs (x++T++y++61::r)=(signs r).map (fun L=>(x++T++y).map (·,true)++(61,true)::L):=(by rw[signs_app _ _ (fun h=>(hall 92 h).2.1 rfl),signs_bare 61 r (by decide),Option.map_map];rfl);have hsep: ∀z∈(x++T++y).map (·,true)++[((61,true):Sg)],sepS z=false:=by
    intro z hz;rcases List.mem_append.1 hz with hz | hz
    ·obtain⟨c,hc,rfl⟩:=List.mem_map.1 hz;simp[sepS,(hall c hc).2.2]
    ·simp at hz;subst hz;decide
   have hps: ∀V,pairS ((x++T++y).map (·,true)++(61,true)::V)=if rightOK (trim V)=true then some (lowL T,(trim V).map (·.1))else none:=by intro V;rw[pairS_at _ V (by intro z hz;obtain⟨c,hc,rfl⟩:=List.mem_map.1 hz;simp[eqS,(hall c hc).1])];rw[trim_bare,trimB_of x T y hx hy hT,List.map_map];have e5:((fun x:Sg=>x.1) ∘ fun x:UInt8=>(x,true))=id:=rfl;rw[e5,List.map_id];have e6:((T.map fun c:UInt8=>((c,true):Sg)).all fun x=>x.2)=true:=(by rw[List.all_map];simp);rw[e6];simp only[hT,true_and]
   -- the reference, by the signs of what is behind '='
   have hR:R (x++T++y++61::r)=(signs r).bind fun L=>refL ((x++T++y).map (·,true)++(61,true)::(segs L).1,(segs L).2):=by
    unfold R;rw[hsl];cases signs r with
    | none=>rfl
    | some L=>simp only[Option.map_some,Option.bind_some];rw[show(x++T++y).map (·,true)++(61,true)::L=((x++T++y).map (·,true)++[((61,true):Sg)])++L from by simp,segs_app _ L hsep];simp
   rw[hR,PF,hk];simp only[Option.bind_some];clear hR hsl hsep hk
   -- the value
   obtain⟨bl,hb1,hb2⟩:=dropW_split (fun c:UInt8=>decide (c=32)) r;unfold valueP;generalize hr1:r.dropWhile (fun c=>decide (c=32))=r1 at*;have hbl: ∀c∈bl,c=32:=fun c hc=>by simpa using hb2 c hc
   have h92:(92:UInt8) ∉bl:=fun h=>by have:=hbl 92 h;revert this;decide
   have hsr:signs r=(signs r1).map (bl.map (·,true)++ ·):=(by rw[hb1,signs_app _ _ h92]);have hblS: ∀z∈bl.map (fun c=>((c,true):Sg)),blankS z=true∧sepS z=false:=(by intro z hz;obtain⟨c,hc,rfl⟩:=List.mem_map.1 hz;rw[hbl c hc];decide);have hrl:r1.length≤r.length:=(by rw[hb1,List.length_append];omega);have hnl:r.length≤n:=(by simp only[List.length_append,List.length_cons]at h;have:T.length≠0:=fun e=>hTne (List.eq_nil_of_length_eq_zero e);omega);rw[hsr];have htrim: ∀V,trim (bl.map (·,true)++V)=trim V:=(by intro V;unfold trim;rw[dropW_app _ _ _ (fun z hz=>(hblS z hz).1)]);by_cases h35:r1.head?=some 35
   ·rw[if_pos h35];simp only[Option.bind_none];cases r1 with
    | nil=>simp at h35
    | cons c r1=>
     simp only[List.head?_cons,Option.some.injEq]at h35;subst h35;rw[signs_bare 35 r1 (by decide)];cases signs r1 with
     | none=>rfl
     | some L=>simp only[Option.map_some,Option.bind_some];unfold refL;simp only[];rw[segs_app _ _ (fun z hz=>(hblS z hz).2),hps,htrim];have:segs (((35,true):Sg)::L)=((35,true)::(segs L).1,(segs L).2):=(by rw[segs,if_neg (by decide)]);rw[this];simp only[];have e7:trim ((35,true)::(segs L).1)=trimR ((35,true)::(segs L).1):=(by unfold trim;rw[List.dropWhile_cons,if_neg (by decide)]);obtain⟨t',ht'⟩:=trimR_head ((35,true):Sg) (segs L).1 (by decide);rw[e7,ht'];have e8:rightOK (((35,true):Sg)::t')=false:=(by unfold rightOK;simp);rw[e8];simp
   ·rw[if_neg h35];rcases scan_signs r1.length r1 (Nat.le_refl _)with⟨e1,e2⟩ | ⟨B,e1,e2,e3⟩ | ⟨B,c,r3,e1,e2,e3,e4,e5⟩
    ·rw[e1];simp only[Option.map_none,Option.bind_none];rcases e2 with e2 | ⟨L,e2,z,hz,hz2⟩
     ·rw[e2];rfl
     ·rw[e2];simp only[Option.map_some,Option.bind_some];unfold refL;simp only[];rw[segs_app _ _ (fun z hz=>(hblS z hz).2),hps,htrim];rw[rightOK_bad (trim_keep _ z hz (badS_not_blank hz2)) hz2];simp
    · -- the text ends
     have hB1:trim B=trimR B∧rightOK (trimR B)=true:=by
      refine⟨?_,?_⟩
      ·unfold trim;rw[dropW_id];intro z t hz;subst hz;cases r1 with
       | nil=>rw[scan_nil]at e1;cases e1
       | cons c r1=>
        rcases scan_head e1 with h' | ⟨B',h' | ⟨d,h'⟩⟩
        ·cases h'
        ·obtain⟨h',_⟩:=h';cases h';have:=dropW_head _ _ _ _ hr1;simpa[blankS]using this
        ·cases h';rfl
      ·unfold rightOK;have g1:((trimR B).any fun x=>x.2&&bad x.1)=false:=(by rw[Bool.eq_false_iff];intro hh;obtain⟨z,hz,hz2⟩:=List.any_eq_true.1 hh;have:=(e3 z (trimR_mem B z hz)).2;unfold badS at this;rw[this]at hz2;cases hz2);rw[g1];cases hB:trimR B with
       | nil=>rfl
       | cons z t=>
        simp only[Bool.not_false,Bool.true_and];obtain⟨a,ha,_⟩:=trimR_split B;rw[hB,List.cons_append]at ha;cases r1 with
        | nil=>rw[scan_nil]at e1;cases e1;cases ha
        | cons c r1=>
         rcases scan_head e1 with h' | ⟨B',h' | ⟨d,h'⟩⟩
         ·rw[h']at ha;cases ha
         ·obtain⟨h',_⟩:=h';rw[h']at ha;cases ha;simp only[List.head?_cons,Option.some.injEq]at h35;simp[h35]
         ·rw[h']at ha;cases ha;simp
     rw[e1,e2];simp only[Option.map_some,Option.bind_some];unfold refL;simp only[];rw[segs_app _ _ (fun z hz=>(hblS z hz).2),segs_none B (fun z hz=>(e3 z hz).1),hps,htrim];simp only[];rw[hB1.1,hB1.2];simp
    ·have hB1:trim B=trimR B∧rightOK (trimR B)=true:=by
      refine⟨?_,?_⟩
      ·unfold trim;rw[dropW_id];intro z t hz;subst hz;cases r1 with
       | nil=>rw[scan_nil]at e1;cases e1
       | cons c r1=>
        rcases scan_head e1 with h' | ⟨B',h' | ⟨d,h'⟩⟩
        ·cases h'
        ·obtain⟨h',_⟩:=h';cases h';have:=dropW_head _ _ _ _ hr1;simpa[blankS]using this
        ·cases h';rfl
      ·unfold rightOK;have g1:((trimR B).any fun x=>x.2&&bad x.1)=false:=(by rw[Bool.eq_false_iff];intro hh;obtain⟨z,hz,hz2⟩:=List.any_eq_true.1 hh;have:=(e5 z (trimR_mem B z hz)).2;unfold badS at this;rw[this]at hz2;cases hz2);rw[g1];cases hB:trimR B with
       | nil=>rfl
       | cons z t=>
        simp only[Bool.not_false,Bool.true_and];obtain⟨a,ha,_⟩:=trimR_split B;rw[hB,List.cons_append]at ha;cases r1 with
        | nil=>rw[scan_nil]at e1;cases e1
        | cons c r1=>
         rcases scan_head e1 with h' | ⟨B',h' | ⟨d,h'⟩⟩
         ·rw[h']at ha;cases ha
         ·obtain⟨h',_⟩:=h';rw[h']at ha;cases ha;simp only[List.head?_cons,Option.some.injEq]at h35;simp[h35]
         ·rw[h']at ha;cases ha;simp
     rw[e1,e4];simp only[Option.map_some,Option.bind_some,Option.map_map];rw[P_eq_R n r3 (by omega)];unfold R;cases signs r3 with
     | none=>rfl
     | some L=>simp only[Option.map_some,Option.bind_some,Function.comp];rw[segs_app _ _ (fun z hz=>(hblS z hz).2),segs_at B c L (fun z hz=>(e5 z hz).1) e2];simp only[];rw[refL_cons,hps,htrim,hB1.1,hB1.2];simp
end dnp
namespace dnp
def lowf (r:Int):Int:=if 65≤r∧r≤90 then r+32 else r
theorem low_ascii (c:UInt8)(h:c.toNat<128):Lib.encodeRune (lowf (c.toNat:Int))=[low c]:=by
 have all: ∀m:Fin 128,Lib.encodeRune (lowf (m.val:Int))=[low (UInt8.ofNat m.val)]:=by decide+kernel
 have:=all ⟨c.toNat,h⟩;simpa using this
theorem lowf_nonneg {r:Int}(h:0≤r):0≤lowf r:=by unfold lowf;split<;>omega
theorem decodeL_ascii (c:UInt8)(t:List UInt8)(h:c.toNat<128):Lib.decodeL (c::t)=(c.toNat,1):=by unfold Lib.decodeL;exact decode_ascii ⟨(c::t).toArray⟩ 0 (by show 0<(c::t).toArray.size;simp) h
theorem decodeL_high (c:UInt8)(t:List UInt8)(h:128≤c.toNat):128≤(Lib.decodeL (c::t)).1:=by unfold Lib.decodeL;exact(decode_high ⟨(c::t).toArray⟩ 0 (by show 0<(c::t).toArray.size;simp) h).1
theorem mapD_ascii (c:UInt8)(t:List UInt8)(h:c.toNat<128):Lib.mapD lowf (c::t)=low c::Lib.mapD lowf t:=by rw[Lib.mapD_step lowf _ (by simp),decodeL_ascii c t h,if_pos (lowf_nonneg (by simp)),low_ascii c h];rfl
theorem enc_high (r:Int)(h:128≤r): ∃x t,Lib.encodeRune r=x::t∧128≤x.toNat:=by
 have key: ∀z:Int,128≤z→z<256→128≤(z.toNat.toUInt8).toNat:=by intro z h1 h2;simp;omega
 unfold Lib.encodeRune Lib.encodeRuneZ
 repeat' split
 ·omega
 ·exact⟨_,_,rfl,key _ (by omega) (by omega)⟩
 ·exact⟨_,_,rfl,key _ (by omega) (by omega)⟩
 ·exact⟨_,_,rfl,key _ (by omega) (by omega)⟩
 ·exact⟨_,_,rfl,key _ (by omega) (by omega)⟩
theorem mapD_all: ∀l:List UInt8,(∀c∈l,c.toNat<128)→Lib.mapD lowf l=lowL l
 | [],_=>rfl
 | c::t,h=>by rw[mapD_ascii c t (h c (by simp)),mapD_all t (fun x hx=>h x (by simp[hx]))];rfl
theorem mapD_high: ∀l:List UInt8,(∃c∈l,128≤c.toNat)→ ∃x∈Lib.mapD lowf l,128≤x.toNat
 | [],⟨c,h,_⟩=>by simp at h
 | c::t,⟨d,hd,h⟩=>by
  by_cases hc:c.toNat<128
  ·rw[mapD_ascii c t hc];rcases List.mem_cons.1 hd with rfl | hd
   ·omega
   ·obtain⟨x,hx,hx2⟩:=mapD_high t ⟨d,hd,h⟩;exact⟨x,List.mem_cons_of_mem _ hx,hx2⟩
  ·have h1:=decodeL_high c t (by omega);rw[Lib.mapD_step lowf _ (by simp),if_pos (lowf_nonneg (by omega))];have e:lowf ((Lib.decodeL (c::t)).1:Int)=((Lib.decodeL (c::t)).1:Int):=(by unfold lowf;rw[if_neg (by omega)]);rw[e];obtain⟨x,u,hx,hx2⟩:=enc_high ((Lib.decodeL (c::t)).1:Int) (by omega);exact⟨x,by rw[hx];simp,hx2⟩
theorem typeOK_high {l:List UInt8}(h: ∃x∈l,128≤x.toNat):typeOK l=false:=by
 obtain⟨x,hx,hx2⟩:=h;rw[Bool.eq_false_iff];intro e;unfold typeOK at e;simp only[Bool.and_eq_true]at e;have h1:=List.all_eq_true.1 e.2 x hx;have all: ∀m:Fin 256,128≤m.val→typeCh (UInt8.ofNat m.val)=false:=by decide+kernel
 have:=all ⟨x.toNat,x.toNat_lt⟩ hx2;simp only[UInt8.ofNat_toNat]at this;rw[this]at h1;cases h1
theorem low_high (c:UInt8)(h:128≤c.toNat):low c=c:=by unfold low;rw[if_neg];rintro⟨_,h2⟩;rw[UInt8.le_iff_toNat_le]at h2;have:(90:UInt8).toNat=90:=rfl;omega
theorem low_type (l:List UInt8):typeOK (Lib.mapD lowf l)=typeOK (lowL l)∧(typeOK (lowL l)=true→Lib.mapD lowf l=lowL l):=by
 by_cases h: ∃c∈l,128≤c.toNat
 ·have h1:=typeOK_high (mapD_high l h);obtain⟨c,hc,hc2⟩:=h;have h2:typeOK (lowL l)=false:=typeOK_high ⟨low c,List.mem_map.2 ⟨c,hc,rfl⟩,by rw[low_high c hc2];exact hc2⟩;rw[h1,h2];exact⟨rfl,fun e=>by cases e⟩
 ·have h1:=mapD_all l (fun c hc=>by
   by_cases e:c.toNat<128
   ·exact e
   ·exact absurd ⟨c,hc,by omega⟩ h)
  rw[h1];exact⟨rfl,fun _=>rfl⟩
theorem mapGoD_len (f:Int→Int): ∀ (n:Nat) (l:List UInt8),l.length≤n→(Lib.mapD f l).length≤4*l.length
 | 0,l,h=>by have:l=[]:=List.eq_nil_of_length_eq_zero (by omega);subst this;simp[Lib.mapD_nil]
 | n+1,l,h=>by
  by_cases hl:l=[]
  ·subst hl;simp[Lib.mapD_nil]
  ·have hw:=Lib.decodeL_le l hl;have hp:0<l.length:=List.length_pos_iff.2 hl;have hw1:1≤(Lib.decodeL l).2:=by
    cases l with
    | nil=>exact absurd rfl hl
    | cons c t=>
     by_cases e:c.toNat<128
     ·rw[decodeL_ascii c t e];exact Nat.le_refl _
     ·unfold Lib.decodeL;exact(decode_high ⟨(c::t).toArray⟩ 0 (by show 0<(c::t).toArray.size;simp) (by show 128≤c.toNat;omega)).2
   have ih:=mapGoD_len f n (l.drop (Lib.decodeL l).2) (by rw[List.length_drop];omega);rw[List.length_drop]at ih;rw[Lib.mapD_step f l hl,List.length_append];have h4:(if 0≤f ((Lib.decodeL l).1:Int)then Lib.encodeRune (f ((Lib.decodeL l).1:Int))else[]).length≤4:=by
    split
    ·have:=Lib.runeCells_le (f ((Lib.decodeL l).1:Int));rw[Lib.runeCells_length]at this;exact this.2
    ·simp
   omega
end dnp
open Go.RowKit
theorem hx_drewN {B:Nat}{a b:World}(h:Below B a b)(n:Nat):Below B a (b.drewN n):=⟨h.os,h.tape,h.output,h.size,h.block⟩
theorem ix_val (c:UInt8):Lib.indexByte b64p.digits ((if 65≤c.toNat∧c.toNat≤70 then c.toNat+32 else c.toNat).toUInt8)=b64p.valI c:=by
 have all: ∀m:Fin 256,Lib.indexByte b64p.digits ((if 65≤m.val∧m.val≤70 then m.val+32 else m.val).toUInt8)=b64p.valI (UInt8.ofNat m.val):=by decide+kernel
 have h:=all ⟨c.toNat,c.toNat_lt⟩;simpa using h
theorem digit_any (c:UInt8)(w:World):Calls Tryz.prog 295 #[.int .u8 (c.toNat:Int)] w fun e w'=>e= .returned (.int .i64 (b64p.valI c))∧w=w':=by
 have hx:=ix_val c;have hc:=c.toNat_lt;by_cases h1:65≤c.toNat
 ·by_cases h2:c.toNat≤70
  ·rw[if_pos ⟨h1,h2⟩]at hx;have C:=Tryz.strings_IndexByte {data:=#[48,49,50,51,52,53,54,55,56,57,97,98,99,100,101,102]} ((c.toNat:Int)+32) w;have hi:Lib.indexByte (ByteArray.mk #[48,49,50,51,52,53,54,55,56,57,97,98,99,100,101,102]).data.toList ((c.toNat:Int)+32).toNat.toUInt8=b64p.valI c:=hx;rw[hi]at C;have C:=Lib.hid C;clear hx hi;go_enter Tryz.func295,Tryz.ntmps295;go_wp2_with fail;refine C.out.mono ?_;rintro e w' ⟨rfl,rfl⟩;go_wp2_with fail;go_ret;exact⟨rfl,rfl⟩
  ·rw[if_neg (by omega)]at hx;have C:=Tryz.strings_IndexByte {data:=#[48,49,50,51,52,53,54,55,56,57,97,98,99,100,101,102]} (c.toNat:Int) w;have hi:Lib.indexByte (ByteArray.mk #[48,49,50,51,52,53,54,55,56,57,97,98,99,100,101,102]).data.toList (c.toNat:Int).toNat.toUInt8=b64p.valI c:=hx;rw[hi]at C;have C:=Lib.hid C;clear hx hi;go_enter Tryz.func295,Tryz.ntmps295;go_wp2_with fail;refine C.out.mono ?_;rintro e w' ⟨rfl,rfl⟩;go_wp2_with fail;go_ret;exact⟨rfl,rfl⟩
 ·rw[if_neg (by omega)]at hx;have C:=Tryz.strings_IndexByte {data:=#[48,49,50,51,52,53,54,55,56,57,97,98,99,100,101,102]} (c.toNat:Int) w;have hi:Lib.indexByte (ByteArray.mk #[48,49,50,51,52,53,54,55,56,57,97,98,99,100,101,102]).data.toList (c.toNat:Int).toNat.toUInt8=b64p.valI c:=hx;rw[hi]at C;have C:=Lib.hid C;clear hx hi;go_enter Tryz.func295,Tryz.ntmps295;go_wp2_with fail;refine C.out.mono ?_;rintro e w' ⟨rfl,rfl⟩;go_wp2_with fail;go_ret;exact⟨rfl,rfl⟩
theorem value_any (c:UInt8)(w:World):Calls Tryz.prog 207 #[.int .u8 (c.toNat:Int)] w fun e w'=>e= .returned (.int .i64 (b64p.valI c))∧w=w':=by
 have hc:=c.toNat_lt;unfold b64p.valI;by_cases a1:48≤c.toNat<;>by_cases a2:c.toNat≤57<;>by_cases a3:97≤c.toNat<;>by_cases a4:c.toNat≤102<;>by_cases a5:65≤c.toNat<;>by_cases a6:c.toNat≤70<;>first | (exfalso;omega) | skip
 all_goals go_enter Tryz.func207,Tryz.ntmps207;go_wp2_with fail;go_ret;exact⟨kt.ret_int (by simp[*]),rfl⟩
open Go.RowKit
def UhRes (o:Option (List UInt8))(w:World)(e:Ending)(w':World):Prop:=e= .returned (b64p.uhV o)∧Below w.heap.size w w'
theorem unhex_any (s:ByteArray)(w:World)(hs:s.size≤10000):
  Calls Tryz.prog 264 #[.string s] w (UhRes (b64p.unhex s.data.toList) w):=by
 by_cases hodd:s.size % 2=1
 ·have ho:=b64p.unhex_odd _ s.data.toList (Nat.le_refl _) (by rw[kt.size_len];exact hodd);have HO:=Lib.hid ho;have q1:((s.size:Int) % 2 !=0)=true:=by rw[bne_iff_ne];omega
  clear ho hodd;go_enter Tryz.func264,Tryz.ntmps264;go_wp2_with fail;go_ret2;exact⟨by rw[HO.out];rfl,Below.refl _ _⟩
 ·have q1:((s.size:Int) % 2 !=0)=false:=by rw[bne_eq_false_iff_eq];omega
  have hodd':=Lib.hid hodd;clear hodd;go_enter Tryz.func264,Tryz.ntmps264;go_wp2_with fail;go_loopw [4,5] (fun bv iv wr=> ∃ (i:Nat) (d:List UInt8),i≤s.size∧Hid (i % 2=0)∧d.length≤i∧iv= .int .i64 i∧Hid (wr.ownsRow w.heap.size 5 1 bv (Lib.byteCells d).length (Lib.byteCells d))∧Hid (b64p.unhex s.data.toList=(b64p.unhex (s.data.toList.drop i)).map (d++ ·))∧Below w.heap.size w wr) (fun _ iv _=>s.size- (intOf iv).toNat);case atStart=>exact⟨0,[],Nat.zero_le _,rfl,by simp,rfl,World.ownsRow_nil _ _ _ _,by show _=_;simp,Below.refl _ _⟩
  case round=>
   obtain⟨i,d,hi,hpar,hd,rfl,hO,hU,hB⟩:=hrel;have hsz:=hB.size;by_cases hlt:i<s.size
   ·have hi1:i+1<s.size:=(by have:=hpar.out;have:=hodd'.out;omega);have hstep:=b64p.unhex_step s.data.toList i (by rw[kt.size_len];exact hi1);have g1:s.data.toList[i]'(by rw[kt.size_len];exact hlt)=s[i]:=rfl;have g2:s.data.toList[i+1]'(by rw[kt.size_len];exact hi1)=s[i+1]:=rfl;rw[g1,g2]at hstep;have hstep':=Lib.hid hstep;clear hstep g1 g2;obtain⟨a,ha⟩: ∃a:Int,Hid (a=b64p.valI s[i]):=⟨b64p.valI s[i],rfl⟩;obtain⟨b,hb⟩: ∃b:Int,Hid (b=b64p.valI s[i+1]):=⟨b64p.valI s[i+1],rfl⟩;have va: -1≤a∧a≤15:=(by rw[ha.out];exact b64p.valI_le _);have vb: -1≤b∧b≤15:=(by rw[hb.out];exact b64p.valI_le _);obtain⟨va1,va2⟩:=va;obtain⟨vb1,vb2⟩:=vb;obtain⟨n1,en1⟩: ∃n:Nat,s[i].toNat=n:=⟨_,rfl⟩;obtain⟨n2,en2⟩: ∃n:Nat,s[i+1].toNat=n:=⟨_,rfl⟩;have DA:Hid (∀W:World,Calls Tryz.prog 295 #[.int .u8 (n1:Int)] W fun e w'=>e= .returned (.int .i64 a)∧w'=W):=(by intro W;rw[ha.out,←en1];exact kt.flip (digit_any _ W));have DB:Hid (∀W:World,Calls Tryz.prog 295 #[.int .u8 (n2:Int)] W fun e w'=>e= .returned (.int .i64 b)∧w'=W):=(by intro W;rw[hb.out,←en2];exact kt.flip (digit_any _ W));have f1:(0:Int)≤(i:Int):=(by omega);have f2:(i:Int)<(s.size:Int):=(by omega);have f3:(0:Int)≤(i:Int)+1:=(by omega);have f4:(i:Int)+1<(s.size:Int):=(by omega);have f5:IntKind.i64.wrap ((i:Int)+1)=(i:Int)+1:=IntWalk.i64_in _ (by omega);have f6:((i:Int)+1).toNat=i+1:=(by omega);go_wp2_with fail;go_quiet ((first | (go_at_call_of 295 (Value.int IntKind.u8 (n1:Int));exact Calls.quiet_of_same (DA.out _)) | (go_at_call_of 295 (Value.int IntKind.u8 (n2:Int));exact Calls.quiet_of_same (DB.out _))));by_cases hneg:a<0∨b<0
    ·have hnone:b64p.unhex s.data.toList=none:=(by rw[hU.out,hstep'.out,if_pos (by rw[←ha.out,←hb.out];exact hneg)];rfl);have HN:=Lib.hid hnone;clear hnone;by_cases ha0:a<0
     ·clear hneg;go_wp2_with fail;go_ret2;exact⟨by rw[HN.out];rfl,hB.trans (hx_drewN (Below.refl _ _) _)⟩
     ·have hb0:b<0:=(by omega);clear hneg;go_wp2_with fail;go_ret2;exact⟨by rw[HN.out];rfl,hB.trans (hx_drewN (Below.refl _ _) _)⟩
    ·have ha0:0≤a:=(by omega);have hb0:0≤b:=(by omega);have hsome:b64p.unhex s.data.toList=(b64p.unhex (s.data.toList.drop (i+2))).map ((d++[UInt8.ofNat (16*a+b).toNat])++ ·):=(by rw[hU.out,hstep'.out,if_neg (by rw[←ha.out,←hb.out];exact hneg),←ha.out,←hb.out,Option.map_map];congr 1;funext x;simp);have HS:=Lib.hid hsome;clear hsome hneg;obtain⟨A,rfl⟩:=Int.eq_ofNat_of_zero_le ha0;obtain⟨B,rfl⟩:=Int.eq_ofNat_of_zero_le hb0;obtain⟨m,hm⟩: ∃m:UInt8,Hid (m=UInt8.ofNat (16*(A:Int)+(B:Int)).toNat):=⟨_,rfl⟩;have em:(m.toNat:Int)=16*A+B:=(by rw[hm.out,UInt8.toNat_ofNat'];omega);have e1:bits .or .i64 ((A:Int)*16) (B:Int)=(m.toNat:Int):=(by have h:=kt.i64_or_low 4 A B (by omega) (by omega);rw[em,show(A:Int)*16=((2 ^ 4*A:Nat):Int)from by omega,h];omega);have e2:(m.toNat:Int) % 256=(m.toNat:Int):=(by have:=m.toNat_lt;omega);obtain⟨v',w1,hap,hO1,hg1,hB1⟩:=kt.app1 (P:=Tryz.prog) (ty:=131) (w:=wr.drewN nq) Tryz.underlying131 bld.infoByte rfl (.int .u8 (m.toNat:Int)) rfl hO.out (by rw[Lib.byteCells_length];unfold maxLen;omega) (by rw[Lib.byteCells_length];omega) hsz;have HO1:=Lib.hid hO1;have HG1:=Lib.hid hg1;have EM:=Lib.hid em;clear hO1 hg1 em;go_wp2_with (at_builtin;refine Lib.wpList_append_run _ rfl _ _ _ _ rfl _ _ rfl rfl _ _ hap ?_);go_roundw;case rel=>
      refine⟨i+2,d++[m],by omega,by show _=_;have:=hpar.out;omega,by simp;omega,by go_num,?_,?_,(hB.trans (hx_drewN (Below.refl _ _) _)).trans hB1⟩
      ·show World.ownsRow _ _ _ _ _ _ _;rw[Lib.byteCells_append];exact HO1.out
      ·show _=_;rw[hm.out];exact HS.out
     case measure=>simp[intOf];omega
   ·obtain rfl:i=s.size:=(by omega);have hst:=kt.str_of_row (P:=Tryz.prog) (dst:=9) Tryz.underlying131 Tryz.underlying5 Tryz.underlying9 hO.out;have hfin:b64p.unhex s.data.toList=some d:=(by rw[hU.out,List.drop_of_length_le (by simp)];simp[b64p.unhex]);have HF:=Lib.hid hfin;clear hfin;go_wp2_with fail;go_ret2;exact⟨by rw[HF.out];rfl,hB⟩
open Go.RowKit
namespace kt
theorem row_nil (w:World)(B:Nat)(e:TypeId)(sz:Nat):w.ownsRow B e sz (.slice none 0 0) 0 []:=⟨by simp,Or.inl ⟨rfl,rfl⟩⟩
theorem flat_get {α:Type}(f:α→List Value)(sz:Nat)(hf: ∀a,(f a).length=sz): ∀ (l:List α) (i j:Nat) (hi:i<l.length) (_:j<sz),(l.flatMap f)[i*sz+j]? =(f l[i])[j]? :=by
 intro l;induction l with
 | nil=>intro i j hi;simp at hi
 | cons c r ih=>
  intro i j hi hj;rw[List.flatMap_cons]
  match i,hi with
  | 0,_=>rw[List.getElem?_append_left (by rw[hf];omega)];simp
  | k+1,hi=>rw[List.getElem?_append_right (by rw[hf,Nat.add_mul];omega),hf];have e:(k+1)*sz+j-sz=k*sz+j:=(by rw[Nat.add_mul];omega);rw[e,ih k j (by simpa using hi) hj];simp
theorem flat_len {α:Type}(f:α→List Value)(sz:Nat)(hf: ∀a,(f a).length=sz)(l:List α):(l.flatMap f).length=l.length*sz:=by
 induction l with
 | nil=>simp
 | cons c r ih=>rw[List.flatMap_cons,List.length_append,hf,ih,List.length_cons,Nat.add_mul];omega
end kt
open Go.RowKit
namespace kt
def SegX (w:World)(B:Nat)(e:TypeId)(sz:Nat)(v:Value)(n:Nat)(xs:List Value):Prop:=
 xs.length=n*sz∧((v= .slice none 0 0∧n=0)∨
  ∃ (g o cap:Nat) (pre post:List Value),v= .slice (some ⟨g,o,none⟩) n cap∧B≤g∧w.heap[g]? =some (.cells (pre++xs++post).toArray e (0,0))∧pre.length=o∧n≤cap∧cap≤maxLen∧(cap-n)*sz≤post.length)
theorem segX_nil (w:World)(B:Nat)(e:TypeId)(sz:Nat):SegX w B e sz (.slice none 0 0) 0 []:=⟨by simp,Or.inl ⟨rfl,rfl⟩⟩
theorem segX_of_row {w:World}{B:Nat}{e:TypeId}{sz:Nat}{v:Value}{n:Nat}{xs:List Value}(h:w.ownsRow B e sz v n xs):SegX w B e sz v n xs:=by
 refine⟨h.1,?_⟩;rcases h.2 with h0 | ⟨g,cap,cur,rfl,hb,hg,hc,hm,hs,ht⟩
 ·exact Or.inl h0
 ·refine Or.inr ⟨g,0,cap,[],cur.toList.drop (n*sz),rfl,hb,?_,rfl,hc,hm,?_⟩
  ·rw[hg,←ht];simp
  ·rw[List.length_drop,Array.length_toList,hs,Nat.sub_mul];omega
theorem segX_slice {w:World}{B n:Nat}{e:TypeId}{sz:Nat}{v:Value}{xs:List Value}(h:SegX w B e sz v n xs): ∃ao cap,v= .slice ao n cap∧n≤cap:=by
 rcases h.2 with⟨rfl,rfl⟩ | ⟨g,o,cap,pre,post,rfl,_,_,_,hc,_⟩
 ·exact⟨none,0,rfl,Nat.le_refl _⟩
 ·exact⟨_,cap,rfl,hc⟩
theorem segX_same {w w':World}{B n:Nat}{e:TypeId}{sz:Nat}{v:Value}{xs:List Value}(h:SegX w B e sz v n xs)(hb: ∀k,v.ownBlock=some k→w'.heap[k]? =w.heap[k]?):SegX w' B e sz v n xs:=by
 refine⟨h.1,?_⟩;rcases h.2 with h0 | ⟨g,o,cap,pre,post,rfl,hB,hg,hr⟩
 ·exact Or.inl h0
 ·exact Or.inr ⟨g,o,cap,pre,post,rfl,hB,(hb g rfl).trans hg,hr⟩
theorem bld_lt {w:World}{b:Nat}{o:Obj}(h:w.heap[b]? =some o):b<w.heap.size:=by
 rcases Nat.lt_or_ge b w.heap.size with h' | h'
 ·exact h'
 ·simp[Array.getElem?_eq_none h']at h
theorem segX_lt {w:World}{B n:Nat}{e:TypeId}{sz:Nat}{v:Value}{xs:List Value}(h:SegX w B e sz v n xs): ∀k,v.ownBlock=some k→B≤k∧k<w.heap.size:=by
 intro k hk;rcases h.2 with⟨rfl,_⟩ | ⟨g,o,cap,pre,post,rfl,hB,hg,_⟩
 ·cases hk
 ·cases hk;exact⟨hB,bld_lt hg⟩
theorem segX_below {w w':World}{B n:Nat}{e:TypeId}{sz:Nat}{v:Value}{xs:List Value}(h:SegX w B e sz v n xs)(hb:Below w.heap.size w w'):SegX w' B e sz v n xs:=segX_same h fun k hk=>hb.block k (segX_lt h k hk).2
theorem segX_mono {w:World}{B C n:Nat}{e:TypeId}{sz:Nat}{v:Value}{xs:List Value}(h:SegX w B e sz v n xs)(hc:C≤B):SegX w C e sz v n xs:=by
 refine⟨h.1,?_⟩;rcases h.2 with h0 | ⟨g,o,cap,pre,post,rfl,hB,hr⟩
 ·exact Or.inl h0
 ·exact Or.inr ⟨g,o,cap,pre,post,rfl,Nat.le_trans hc hB,hr⟩
def SameOrNew (w:World)(v v':Value):Prop:= ∀k,v'.ownBlock=some k→v.ownBlock=some k∨w.heap.size≤k
theorem segX_cell {w:World}{B n:Nat}{e:TypeId}{sz:Nat}{v:Value}{xs:List Value}(h:SegX w B e sz v n xs)(hn:0<n): ∃g o cap,v= .slice (some ⟨g,o,none⟩) n cap∧B≤g∧n≤cap∧(∀ (j:Nat) (x:Value),xs[j]? =some x→w.cell? ⟨g,o+j,none⟩=some x):=by
 rcases h.2 with⟨_,h0⟩ | ⟨g,o,cap,pre,post,rfl,hB,hg,hp,hc,_⟩
 ·omega
 ·refine⟨g,o,cap,rfl,hB,hc,fun j x hx=> ?_⟩;have hj:=(List.getElem?_eq_some_iff.1 hx).1;rw[Lib.cell_of_heap hg];simp only[List.getElem?_toArray];rw[List.append_assoc,List.getElem?_append_right (by omega),show o+j-pre.length=j by omega,List.getElem?_append_left hj];exact hx
theorem run_append_room_at {P:Program}{w:World}(t ty e:TypeId)(i:TypeInfo)(ht:P.underlying t=some (.slice e))(hi:P.info? e=some i)
  (g o sLen sCap:Nat) (cur:Array Value) (hg:w.heap[g]? =some (.cells cur e (0,0)))
  (a:Addr) (m c:Nat) (news:List Value) (hl:news.length=m*i.size) (hnews: ∀j u,news[j]? =some u→w.cell? (a.add j)=some u) (h1: ∀u∈news,u.oneCell'=true)
  (hroom:sLen+m≤sCap) (hfit:o+sLen*i.size+news.length≤cur.size):
  (Builtin.append_ #[t,t] ty #[.slice (some ⟨g,o,none⟩) sLen sCap,.slice (some a) m c]).run P w=
   .ok (.slice (some ⟨g,o,none⟩) (sLen+m) sCap) (w.setRow g (cur.toList.take (o+sLen*i.size)++news++cur.toList.drop (o+sLen*i.size+news.length)).toArray):=by
 have hf:=run_firstCells_some (P:=P) w i.size m a m c news hl hnews;have hst:=run_storeCells_at P g (o+sLen*i.size) e news 0 cur w hg (by simpa using hfit) h1;simp only[Nat.add_zero]at hst;have ha:(⟨g,o,none⟩:Addr).add (sLen*i.size)=⟨g,o+sLen*i.size,none⟩:=by rw[Addr.add_mid]
 simp[Builtin.append_,run_underlying ht,sizeOf,typeInfo,hi,Builtin.lenOf,hroom,hf,ha,hst]
theorem grown_trans {w w1 w2:World}{k:Option Nat}(h:w.grownBy w1 k)(h2:w1.grownBy w2 k):w.grownBy w2 k:=⟨h2.os.trans h.os,h2.tape.trans h.tape,h2.output.trans h.output,Nat.le_trans h.size h2.size,fun j hj hne=>(h2.block j (Nat.lt_of_lt_of_le hj h.size) hne).trans (h.block j hj hne)⟩
theorem grown_row (w:World)(g:Nat)(cs:Array Value):w.grownBy (w.setRow g cs) (some g):=⟨rfl,rfl,rfl,by simp,fun j hj hne=>setRow_other w g j cs (fun h=>hne (by rw[h]))⟩
theorem segX_append {P:Program}{t e ty:TypeId}{z:Value}{sz bytes:Nat}(ht:P.underlying t=some (.slice e))(hinfo:(P.info? e).map (fun i=>(i.zero,i.size,i.bytes))=some (some z,sz,bytes))(hzs:z.cells.size=sz)(hsz:0<sz)
  {w:World} {B:Nat} {v:Value} {n:Nat} {xs:List Value} (ad:Addr) (m c:Nat) (news:List Value) (hl:news.length=m*sz) (hnews: ∀j u,news[j]? =some u→w.cell? (ad.add j)=some u) (h1: ∀u∈news,u.oneCell'=true)
  (hown:SegX w B e sz v n xs) (h63:n+m≤maxLen) (hb:(n+m)*bytes≤140737488355328) (hbase:B≤w.heap.size):
  ∃v' w1,(Builtin.append_ #[t,t] ty #[v,.slice (some ad) m c]).run P w= .ok v' w1∧SegX w1 B e sz v' (n+m) (xs++news)∧w.grownBy w1 v.ownBlock∧SameOrNew w v v':=by
 rcases hown.2 with⟨rfl,rfl⟩ | ⟨g,o,cap,pre,post,rfl,hB,hg,hp,hc,hm,hpost⟩
 ·have h0:xs=[]:=List.eq_nil_of_length_eq_zero (by simpa using hown.1);subst h0;obtain⟨i0,hi,hz0,hz1,hz2⟩:=info_parts hinfo;obtain⟨v',w1,hr,ho,hgr,_⟩:=run_append_own (P:=P) w w.heap.size t ty e i0 z sz bytes ht hi hz0 hz1 hz2 hzs hsz (.slice none 0 0) 0 [] (row_nil _ _ _ _) ad m c news hl hnews h1 h63 hb (Nat.le_refl _);exact⟨v',w1,hr,segX_mono (segX_of_row ho) hbase,hgr,fun k hk=>Or.inr (segX_lt (segX_of_row ho) k hk).1⟩
 ·obtain⟨i0,hi,hz0,hz1,hz2⟩:=info_parts hinfo;subst hz1 hz2;by_cases hroom:n+m≤cap
  ·have hfit:m*i0.size≤post.length:=(by refine Nat.le_trans (Nat.mul_le_mul_right _ ?_) hpost;omega);have hxl:=hown.1;have hr:=run_append_room_at (P:=P) (w:=w) t ty e i0 ht hi g o n cap _ hg ad m c news hl hnews h1 hroom (by simp;omega);refine⟨_,_,hr,⟨by rw[List.length_append,hown.1,hl,Nat.add_mul],Or.inr ⟨g,o,cap,pre,post.drop (m*i0.size),rfl,hB,?_,hp,hroom,hm,?_⟩⟩,grown_row _ _ _,fun k hk=>Or.inl hk⟩
   ·rw[setRow_heap w g _ _ e _ hg];congr 3;have e1:(pre++xs++post).take (o+n*i0.size)=pre++xs:=(by rw[List.take_append_of_le_length (by rw[List.length_append];omega),List.take_of_length_le (by rw[List.length_append];omega)]);have e2:(pre++xs++post).drop (o+n*i0.size+news.length)=post.drop (m*i0.size):=(by rw[List.drop_append,List.drop_of_length_le (by rw[List.length_append];omega),List.nil_append];congr 1;rw[List.length_append];omega);rw[e1,e2];simp
   ·rw[List.length_drop,Nat.sub_mul];rw[Nat.sub_mul]at hpost;rw[Nat.add_mul];omega
  ·have holds: ∀j u,xs[j]? =some u→w.cell? ((⟨g,o,none⟩:Addr).add j)=some u:=(by intro j u hj;have hj':=(List.getElem?_eq_some_iff.1 hj).1;rw[Addr.add_mid,Lib.cell_of_heap hg];simp only[List.getElem?_toArray];rw[List.append_assoc,List.getElem?_append_right (by omega),show o+j-pre.length=j by omega,List.getElem?_append_left hj'];exact hj);have hr:=run_append_grow (P:=P) w t ty e i0 z ht hi hz0 ⟨g,o,none⟩ n cap xs hown.1 holds ad m c news hl hnews (by omega) (by unfold maxLen at h63;omega) (growslice_fits (by omega) hb);have hge:=grownCap_ge w (n+m) cap e;refine⟨_,_,hr,⟨by rw[List.length_append,hown.1,hl,Nat.add_mul],Or.inr ⟨w.heap.size,0,_,[],(Builtin.zeroCells z.cells (grownCap w (n+m) cap e- (n+m))).toList,rfl,hbase,?_,rfl,hge,grownCap_le_maxLen w (n+m) cap e h63,?_⟩⟩,⟨rfl,rfl,rfl,by simp,fun k hk _=>Below.heap_alloc w.drew _ _ hk⟩,fun k hk=>Or.inr (by cases hk;exact Nat.le_refl _)⟩
   ·refine(heap_alloc_new w.drew _).trans ?_;congr 3;simp
   ·rw[Array.length_toList,size_zeroCells,hzs];exact Nat.le_refl _
end kt
open Go.RowKit
namespace dnw
open dnp
def Sc (w:World)(b:Nat)(s:ByteArray)(i:Nat):Prop:=w.heap[b]? =some (.cells #[.string s,.int .i64 (i:Int)] 187 (0,0))
theorem set_same {w:World}{g j:Nat}{cs:Array Value}{t:TypeId}{fr:Nat × Nat}(h:w.heap[g]? =some (.cells cs t fr))(v:Value):(w.setCell ⟨g,j,none⟩ v).heap[g]? =some (.cells (cs.setIfInBounds j v) t fr):=by simp[World.setCell,Array.getElem?_modify,h]
theorem sc_set {w:World}{b i:Nat}{s:ByteArray}(h:Sc w b s i)(n j:Nat):Sc ((w.drewN n).setCell ⟨b,1,none⟩ (.int .i64 (j:Int))) b s j:=by have h':(w.drewN n).heap[b]? =some (.cells #[.string s,.int .i64 (i:Int)] 187 (0,0)):=h;exact set_same (j:=1) h' _
theorem sc_set0 {w:World}{b i:Nat}{s:ByteArray}(h:Sc w b s i)(j:Nat):Sc (w.setCell ⟨b,1,none⟩ (.int .i64 (j:Int))) b s j:=set_same (j:=1) h _
theorem sc_inc {w:World}{b i:Nat}{s:ByteArray}(h:Sc w b s i)(n:Nat):Sc ((w.drewN n).setCell ⟨b,1,none⟩ (.int .i64 ((i:Int)+1))) b s (i+1):=sc_set h n (i+1)
theorem sc_cells {w:World}{b i:Nat}{s:ByteArray}(h:Sc w b s i):w.cell? ⟨b,0,none⟩=some (.string s)∧w.cell? ⟨b,1,none⟩=some (.int .i64 (i:Int))∧w.frozen? ⟨b,1,none⟩=false∧b<w.heap.size:=by
 refine⟨?_,?_,Lib.frozen_of_heap h 1,kt.bld_lt h⟩
 ·rw[Lib.cell_of_heap h];rfl
 ·rw[Lib.cell_of_heap h];rfl
theorem sc_drewN {w:World}{b i:Nat}{s:ByteArray}(h:Sc w b s i)(n:Nat):Sc (w.drewN n) b s i:=h
theorem sc_below {w w':World}{b i:Nat}{s:ByteArray}(h:Sc w b s i)(hb:Below w.heap.size w w'):Sc w' b s i:=(hb.block b (kt.bld_lt h)).trans h
theorem gr_refl (w:World)(k:Option Nat):w.grownBy w k:=⟨rfl,rfl,rfl,Nat.le_refl _,fun _ _ _=>rfl⟩
theorem gr_set {w w':World}{b:Nat}(h:w.grownBy w' (some b))(n:Nat)(v:Value):w.grownBy ((w'.drewN n).setCell ⟨b,1,none⟩ v) (some b):=⟨h.os,h.tape,h.output,by rw[World.size_setCell];exact h.size,fun k hk hne=>(Below.heap_setCell _ _ _ _ (fun e=>hne (by have e':k=b:=e;rw[e']))).trans (h.block k hk hne)⟩
theorem gr_drewN {w w':World}{k:Option Nat}(h:w.grownBy w' k)(n:Nat):w.grownBy (w'.drewN n) k:=⟨h.os,h.tape,h.output,h.size,h.block⟩
theorem gr_below {w w':World}(k:Option Nat)(hb:Below w.heap.size w w'):w.grownBy w' k:=⟨hb.os,hb.tape,hb.output,hb.size,fun j hj _=>hb.block j hj⟩
theorem drop_cons (s:ByteArray)(i:Nat)(h:i<s.size):s.data.toList.drop i=s[i]::s.data.toList.drop (i+1):=by
 have h':i<s.data.toList.length:=by simpa using h
 rw[List.drop_eq_getElem_cons h'];rfl
theorem drop_end (s:ByteArray):s.data.toList.drop s.size=[]:=List.drop_of_length_le (by simp)
def posOf (w:World)(b:Nat):Nat:=match w.heap[b]? with
 | some (.cells cs _ _)=>(intOf (cs.getD 1 undef)).toNat
 | _=>0
theorem posOf_sc {w:World}{b i:Nat}{s:ByteArray}(h:Sc w b s i):posOf w b=i:=by unfold posOf;rw[h];simp[intOf]
def BlanksE (b:Nat)(s:ByteArray)(i:Nat)(w:World)(e:Ending)(w':World):Prop:=e= .returned (.tuple #[])∧ ∃j,i≤j∧j≤s.size∧s.data.toList.drop j=(s.data.toList.drop i).dropWhile (· =32)∧Sc w' b s j∧w.grownBy w' (some b)
theorem blanks_any (b:Nat)(s:ByteArray)(i:Nat)(w:World)(hS:Hid (Sc w b s i))(hi:i≤s.size)(hs:s.size≤100000):
  Calls Tryz.prog 155 #[.pointer (some ⟨b,0,none⟩)] w fun e w'=>BlanksE b s i w e w':=by
 go_enter Tryz.func155,Tryz.ntmps155;go_wp2_with fail;go_loopw [] (fun wr=> ∃j,i≤j∧j≤s.size∧Hid ((s.data.toList.drop j).dropWhile (· =32)=(s.data.toList.drop i).dropWhile (· =32))∧Hid (Sc wr b s j)∧w.grownBy wr (some b)) (fun wr=>s.size-posOf wr b);case atStart=>exact⟨i,Nat.le_refl _,hi,rfl,hS,gr_refl _ _⟩
 case round=>
  obtain⟨j,hij,hj,hD,hC,hG⟩:=hrel;obtain⟨c0,c1,f1,hb⟩:=sc_cells hC.out;by_cases hlt:j<s.size
  ·have hlt':(j:Int)<(s.size:Int):=(by omega);have hdc:=drop_cons s j hlt;by_cases h32:((s[j]'hlt).toNat:Int)=32
   ·have hD2:Hid ((s.data.toList.drop (j+1)).dropWhile (· =32)=(s.data.toList.drop i).dropWhile (· =32)):=(by show _=_;rw[←hD.out,hdc,List.dropWhile_cons,if_pos (by have:s[j]=32:=UInt8.toNat_inj.1 (by show _=32;omega);simp[this])]);clear hdc;go_wp2_with fail;go_quiet (fail);go_wp2_with fail;go_roundw;case rel=>exact⟨j+1,by omega,by omega,hD2,sc_set hC.out nq (j+1),gr_set hG nq _⟩
    case measure=>rw[posOf_sc hC.out,posOf_sc (sc_inc hC.out nq)];omega
   ·have hD2:Hid (s.data.toList.drop j=(s.data.toList.drop i).dropWhile (· =32)):=(by show _=_;rw[←hD.out,hdc,List.dropWhile_cons,if_neg (by intro e;have:s[j]=32:=(by simpa using e);rw[this]at h32;exact h32 rfl)]);have h1:(((s[j]'hlt).toNat:Int)==32)=false:=(by rw[beq_eq_false_iff_ne];exact h32);clear hdc;go_wp2_with fail;go_quiet (fail);go_wp2_with fail;go_end0;exact⟨rfl,j,hij,hj,hD2.out,sc_drewN hC.out nq,gr_drewN hG nq⟩
  ·obtain rfl:j=s.size:=(by omega);have hD2:Hid (s.data.toList.drop s.size=(s.data.toList.drop i).dropWhile (· =32)):=(by show _=_;rw[←hD.out,drop_end];rfl);go_wp2_with fail;go_quiet (fail);go_wp2_with fail;go_end0;exact⟨rfl,_,hij,hj,hD2.out,sc_drewN hC.out nq,gr_drewN hG nq⟩
end dnw
open Go.RowKit
namespace dnw
open dnp
def tyAt (k:Nat)(c:UInt8):Prop:=(97≤(c.toNat:Int)∧(c.toNat:Int)≤122)∨(k≠0∧((c.toNat:Int)=45∨(48≤(c.toNat:Int)∧(c.toNat:Int)≤57)))
theorem letter_iff (c:UInt8):letter c=true↔97≤(c.toNat:Int)∧(c.toNat:Int)≤122:=by unfold letter;rw[decide_eq_true_iff,UInt8.le_iff_toNat_le,UInt8.le_iff_toNat_le];show(97≤c.toNat∧c.toNat≤122)↔_;omega
theorem typeCh_iff (c:UInt8):typeCh c=true↔(97≤(c.toNat:Int)∧(c.toNat:Int)≤122)∨(c.toNat:Int)=45∨(48≤(c.toNat:Int)∧(c.toNat:Int)≤57):=by unfold typeCh;rw[Bool.or_eq_true,Bool.or_eq_true,letter_iff,decide_eq_true_iff,decide_eq_true_iff,UInt8.le_iff_toNat_le,UInt8.le_iff_toNat_le,←UInt8.toNat_inj];show(_∨(48≤c.toNat∧c.toNat≤57))∨c.toNat=45↔_;omega
theorem typeOK_iff (l:List UInt8):typeOK l=true↔l≠[]∧l.length≤32∧ ∀k (h:k<l.length),tyAt k l[k]:=by
 unfold typeOK;cases l with
 | nil=>simp
 | cons c t=>
  simp only[Bool.and_eq_true,decide_eq_true_eq,List.all_eq_true,letter_iff,ne_eq,reduceCtorEq,not_false_eq_true,true_and];constructor
  ·rintro⟨⟨h1,h2⟩,h3⟩;refine⟨h2,fun k hk=> ?_⟩;cases k with
   | zero=>exact Or.inl h1
   | succ k=>have:=(typeCh_iff _).1 (h3 (c::t)[k+1] (List.getElem_mem hk));unfold tyAt;omega
  ·rintro⟨h2,h3⟩;refine⟨⟨?_,h2⟩,?_⟩
   ·have:=h3 0 (by simp);unfold tyAt at this;simp only[List.getElem_cons_zero,ne_eq,not_true_eq_false,false_and,or_false]at this;exact this
   ·intro x hx;obtain⟨k,hk,rfl⟩:=List.mem_iff_getElem.1 hx;have:=h3 k hk;unfold tyAt at this;rw[typeCh_iff];omega
theorem typeOK_no {s:ByteArray}{k:Nat}(hk:k<s.size)(h: ¬tyAt k s[k]):false=typeOK s.data.toList:=by symm;rw[Bool.eq_false_iff];intro e;exact h (((typeOK_iff _).1 e).2.2 k (by simpa using hk))
theorem typeOK_end {s:ByteArray}(h: ∀k (hk:k<s.size),tyAt k s[k])(h0:s.size≠0)(h1:s.size≤32):true=typeOK s.data.toList:=by
 symm;rw[typeOK_iff];have hl:s.data.toList.length=s.size:=by simp
 refine⟨fun e=>by rw[e]at hl;simp at hl;omega,by omega,fun k hk=>h k (by omega)⟩
theorem typeOK_len {s:ByteArray}(h1:s.size=0∨32<s.size):false=typeOK s.data.toList:=by
 symm;rw[Bool.eq_false_iff];intro e;have hl:s.data.toList.length=s.size:=by simp
 obtain⟨h2,h3,_⟩:=(typeOK_iff _).1 e;rcases h1 with h1 | h1
 ·exact h2 (List.eq_nil_of_length_eq_zero (by omega))
 ·omega
theorem rightType_any (s:ByteArray)(w:World)(hs:s.size≤100000):Calls Tryz.prog 204 #[.string s] w fun e w'=>e= .returned (.bool (typeOK s.data.toList))∧w=w':=by
 go_enter Tryz.func204,Tryz.ntmps204;go_wp2_with fail;go_loop [3,4,5,8] (fun _ _ _ iv=> ∃k:Nat,k≤s.size∧iv= .int .i64 (k:Int)∧Hid (∀j (hj:j<s.size),j<k→tyAt j s[j])) (fun _ _ _ iv=>s.size- (intOf iv).toNat);case atStart=>exact⟨0,Nat.zero_le _,rfl,fun j hj h=>by omega⟩
 case round=>
  obtain⟨k,hk,rfl,hA⟩:=hrel;by_cases hlt:k<s.size
  ·have hlt':(k:Int)<(s.size:Int):=(by omega);have g0:0≤((s[k]'hlt).toNat:Int):=(by omega);by_cases ht:tyAt k (s[k]'hlt)
   ·have HA:Hid (∀j (hj:j<s.size),j<k+1→tyAt j s[j]):=by
     intro j hj h;by_cases e:j=k
     ·subst e;exact ht
     ·exact hA.out j hj (by omega)
    unfold tyAt at ht;rcases ht with⟨h1,h2⟩ | ⟨h0,h1 | ⟨h1,h2⟩⟩
    ·go_wp2_with fail;go_round;case rel=>exact⟨k+1,by omega,by go_num,HA⟩
     case measure=>simp[intOf];omega
    ·have hk0:((k:Int)==0)=false:=(by rw[beq_eq_false_iff_ne];omega);have hc1:(((s[k]'hlt).toNat:Int)==45)=true:=(by rw[beq_iff_eq];exact h1);have hc2:(((s[k]'hlt).toNat:Int) !=45)=false:=(by rw[bne_eq_false_iff_eq];exact h1);have hc3: ¬97≤((s[k]'hlt).toNat:Int):=(by omega);clear h1 h0;go_wp2_with fail;go_round;case rel=>exact⟨k+1,by omega,by go_num,HA⟩
     case measure=>simp[intOf];omega
    ·have hk0:((k:Int)==0)=false:=(by rw[beq_eq_false_iff_ne];omega);have hc1:(((s[k]'hlt).toNat:Int)==45)=false:=(by rw[beq_eq_false_iff_ne];omega);have hc2:(((s[k]'hlt).toNat:Int) !=45)=true:=(by rw[bne_iff_ne];omega);have hc3: ¬97≤((s[k]'hlt).toNat:Int):=(by omega);clear h0;go_wp2_with fail;go_round;case rel=>exact⟨k+1,by omega,by go_num,HA⟩
     case measure=>simp[intOf];omega
   ·have HN:=Lib.hid (typeOK_no hlt ht);unfold tyAt at ht;have g256:((s[k]'hlt).toNat:Int)<256:=(by have:=(s[k]'hlt).toNat_lt;omega);by_cases hk0:k=0
    ·subst hk0;by_cases h97:97≤((s[0]'hlt).toNat:Int)
     ·have h122:decide (((s[0]'hlt).toNat:Int)≤122)=false:=(by rw[decide_eq_false_iff_not];omega);clear ht;go_wp2_with fail;go_ret;exact⟨kt.ret_bool HN.out,rfl⟩
     ·clear ht;go_wp2_with fail;go_ret;exact⟨kt.ret_bool HN.out,rfl⟩
    ·have hk1:((k:Int)==0)=false:=(by rw[beq_eq_false_iff_ne];omega);have hc1:(((s[k]'hlt).toNat:Int)==45)=false:=(by rw[beq_eq_false_iff_ne];omega);have hc2:(((s[k]'hlt).toNat:Int) !=45)=true:=(by rw[bne_iff_ne];omega);by_cases h97:97≤((s[k]'hlt).toNat:Int)
     ·have h122:decide (((s[k]'hlt).toNat:Int)≤122)=false:=(by rw[decide_eq_false_iff_not];omega);have h57:57<((s[k]'hlt).toNat:Int):=(by omega);have h48:48≤((s[k]'hlt).toNat:Int):=(by omega);clear ht hk0;go_wp2_with fail;go_ret;exact⟨kt.ret_bool HN.out,rfl⟩
     ·by_cases h48:48≤((s[k]'hlt).toNat:Int)
      ·have h57:57<((s[k]'hlt).toNat:Int):=(by omega);clear ht hk0;go_wp2_with fail;go_ret;exact⟨kt.ret_bool HN.out,rfl⟩
      ·clear ht hk0;go_wp2_with fail;go_ret;exact⟨kt.ret_bool HN.out,rfl⟩
  ·obtain rfl:k=s.size:=(by omega);by_cases h0:s.size=0
   ·have HN:=Lib.hid (typeOK_len (s:=s) (Or.inl h0));obtain rfl:s=⟨#[]⟩:=kt.str_eq (by have:s.data.toList.length=0:=(by simpa using h0);exact List.eq_nil_of_length_eq_zero this);clear h0;go_wp2_with fail;go_ret;exact⟨kt.ret_bool HN.out,rfl⟩
   ·have g1:(s.toList==[])=false:=(by rw[beq_eq_false_iff_ne,Lib.toList_data];intro e;apply h0;have:=congrArg List.length e;simpa using this);have g2: ¬s.toList=[]:=(by simpa using g1);by_cases h32:s.size≤32
    ·have h32':(s.size:Int)≤32:=(by omega);have HN:=Lib.hid (typeOK_end (s:=s) (fun j hj=>hA.out j hj hj) h0 h32);clear h0;go_wp2_with fail;go_ret;exact⟨kt.ret_bool HN.out,rfl⟩
    ·have h32': ¬ (s.size:Int)≤32:=(by omega);have HN:=Lib.hid (typeOK_len (s:=s) (Or.inr (by omega)));clear h0;go_wp2_with fail;go_ret;exact⟨kt.ret_bool HN.out,rfl⟩
theorem typeOK_head {s:ByteArray}(h:0<s.size)(h1: ¬ (97≤((s[0]'h).toNat:Int)∧((s[0]'h).toNat:Int)≤122)):false=typeOK s.data.toList:=typeOK_no h (by unfold tyAt;omega)
def chAt (c:UInt8):Prop:=(97≤(c.toNat:Int)∧(c.toNat:Int)≤122)∨((c.toNat:Int)=45∨(48≤(c.toNat:Int)∧(c.toNat:Int)≤57))
theorem typeOK_all {s:ByteArray}(h:0<s.size)(h0:97≤((s[0]'h).toNat:Int)∧((s[0]'h).toNat:Int)≤122)(h1:s.size≤32)(hA: ∀k (hk:k<s.size),chAt s[k]):true=typeOK s.data.toList:=by
 refine typeOK_end (fun k hk=> ?_) (by omega) h1;have:=hA k hk;unfold chAt at this;unfold tyAt;by_cases e:k=0
 ·subst e;exact Or.inl h0
 ·omega
theorem typeOK_ch {s:ByteArray}{k:Nat}(hk:k<s.size)(h: ¬chAt s[k]):false=typeOK s.data.toList:=typeOK_no hk (by unfold chAt at h;unfold tyAt;omega)
theorem type_any (s:ByteArray)(w:World)(hs:s.size≤100000):Calls Tryz.prog 194 #[.string s] w fun e w'=>e= .returned (.bool (typeOK s.data.toList))∧w=w':=by
 by_cases hz:s.size<1
 ·have hz':(s.size:Int)<1:=by omega
  have HN:=Lib.hid (typeOK_len (s:=s) (Or.inl (by omega)));go_enter Tryz.func194,Tryz.ntmps194;go_wp2_with fail;go_ret;exact⟨kt.ret_bool HN.out,rfl⟩
 ·have hz': ¬ (s.size:Int)<1:=by omega
  by_cases h32:32<s.size
  ·have h32':32<(s.size:Int):=(by omega);have HN:=Lib.hid (typeOK_len (s:=s) (Or.inr h32));go_enter Tryz.func194,Tryz.ntmps194;go_wp2_with fail;go_ret;exact⟨kt.ret_bool HN.out,rfl⟩
  ·have h32': ¬32<(s.size:Int):=(by omega);have h0:0<s.size:=(by omega);have h0':0<(s.size:Int):=(by omega);by_cases hh:97≤((s[0]'h0).toNat:Int)∧((s[0]'h0).toNat:Int)≤122
   ·obtain⟨q1,q2⟩:=hh;have q1': ¬ ((s[0]'h0).toNat:Int)<97:=(by omega);have q2': ¬122<((s[0]'h0).toNat:Int):=(by omega);have HY:Hid ((∀k (hk:k<s.size),chAt s[k])→true=typeOK s.data.toList):=fun hA=>typeOK_all h0 ⟨q1,q2⟩ (by omega) hA;go_enter Tryz.func194,Tryz.ntmps194;go_wp2_with fail;clear q1 q2 q1' q2';go_loop [3] (fun iv=> ∃k:Nat,k≤s.size∧iv= .int .i64 (k:Int)∧Hid (∀j (hj:j<s.size),j<k→chAt s[j])) (fun iv=>s.size- (intOf iv).toNat);case atStart=>exact⟨0,Nat.zero_le _,rfl,fun j hj h=>by omega⟩
    case round=>
     obtain⟨k,hk,rfl,hA⟩:=hrel;by_cases hlt:k<s.size
     ·have hlt':(k:Int)<(s.size:Int):=(by omega);by_cases ht:chAt (s[k]'hlt)
      ·have HA:Hid (∀j (hj:j<s.size),j<k+1→chAt s[j]):=by
        intro j hj h;by_cases e:j=k
        ·subst e;exact ht
        ·exact hA.out j hj (by omega)
       unfold chAt at ht;rcases ht with⟨h1,h2⟩ | h1 | ⟨h1,h2⟩
       ·go_wp2_with fail;go_round;case rel=>exact⟨k+1,by omega,by go_num,HA⟩
        case measure=>simp[intOf];omega
       ·have hc1:(((s[k]'hlt).toNat:Int)==45)=true:=(by rw[beq_iff_eq];exact h1);have hc2:(((s[k]'hlt).toNat:Int) !=45)=false:=(by rw[bne_eq_false_iff_eq];exact h1);have hc3:decide (97≤((s[k]'hlt).toNat:Int))=false:=(by rw[decide_eq_false_iff_not];omega);have hc4:decide (48≤((s[k]'hlt).toNat:Int))=false:=(by rw[decide_eq_false_iff_not];omega);clear h1;go_wp2_with fail;go_round;case rel=>exact⟨k+1,by omega,by go_num,HA⟩
        case measure=>simp[intOf];omega
       ·have hc3:decide (97≤((s[k]'hlt).toNat:Int))=false:=(by rw[decide_eq_false_iff_not];omega);go_wp2_with fail;go_round;case rel=>exact⟨k+1,by omega,by go_num,HA⟩
        case measure=>simp[intOf];omega
      ·have HN:=Lib.hid (typeOK_ch hlt ht);unfold chAt at ht;have hc1:(((s[k]'hlt).toNat:Int)==45)=false:=(by rw[beq_eq_false_iff_ne];omega);have hc2:(((s[k]'hlt).toNat:Int) !=45)=true:=(by rw[bne_iff_ne];omega);by_cases h97:97≤((s[k]'hlt).toNat:Int)
       ·have h122:decide (((s[k]'hlt).toNat:Int)≤122)=false:=(by rw[decide_eq_false_iff_not];omega);have h48:48≤((s[k]'hlt).toNat:Int):=(by omega);have h57:decide (((s[k]'hlt).toNat:Int)≤57)=false:=(by rw[decide_eq_false_iff_not];omega);clear ht;go_wp2_with fail;go_ret;exact⟨kt.ret_bool HN.out,rfl⟩
       ·have hc3:decide (97≤((s[k]'hlt).toNat:Int))=false:=(by rw[decide_eq_false_iff_not];omega);by_cases h48:48≤((s[k]'hlt).toNat:Int)
        ·have h57:decide (((s[k]'hlt).toNat:Int)≤57)=false:=(by rw[decide_eq_false_iff_not];omega);clear ht h97;go_wp2_with fail;go_ret;exact⟨kt.ret_bool HN.out,rfl⟩
        ·have hc4:decide (48≤((s[k]'hlt).toNat:Int))=false:=(by rw[decide_eq_false_iff_not];omega);clear ht h97 h48;go_wp2_with fail;go_ret;exact⟨kt.ret_bool HN.out,rfl⟩
     ·obtain rfl:k=s.size:=(by omega);have HN:=Lib.hid (HY.out (fun j hj=>hA.out j hj hj));go_wp2_with fail;go_ret;exact⟨kt.ret_bool HN.out,rfl⟩
   ·have HN:=Lib.hid (typeOK_head h0 hh);by_cases q1:((s[0]'h0).toNat:Int)<97
    ·clear hh;go_enter Tryz.func194,Tryz.ntmps194;go_wp2_with fail;go_ret;exact⟨kt.ret_bool HN.out,rfl⟩
    ·have q2:122<((s[0]'h0).toNat:Int):=(by omega);clear hh;go_enter Tryz.func194,Tryz.ntmps194;go_wp2_with fail;go_ret;exact⟨kt.ret_bool HN.out,rfl⟩
end dnw
end Go.Proofs.YtmnpfkbjpeaemaaGreatDoor
