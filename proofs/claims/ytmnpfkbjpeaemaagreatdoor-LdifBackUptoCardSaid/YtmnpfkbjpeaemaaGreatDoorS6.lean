/- One text out of several: LdBackP, LbK, LdTyW, LdTyR, AttrP, SmallW, LowerW, ParseV, NormP, NumW, NumV, FindW, PhoneW. -/
import Derived.Test.YtmnpfkbjpeaemaaGreatDoorS5
import Derived.Lib.OthersKept
import Derived.Test.YtmnpfkbjpeaemaaGreatDoorS1
import Derived.Test.YtmnpfkbjpeaemaaGreatDoorRows
import Derived.Lib.IndexMore
import Derived.Test.YtmnpfkbjpeaemaaGreatDoorS4
import Derived.Lib.AtoiAll
import Derived.Deep.MidRow
import Derived.Test.YtmnpfkbjpeaemaaGreatDoorS2
set_option linter.unusedVariables false
set_option linter.unusedSimpArgs false
set_option maxRecDepth 20000
set_option maxHeartbeats 8000000
namespace Go.Proofs.YtmnpfkbjpeaemaaGreatDoor
namespace ldp
open b64p (enc)
def body (k v:List UInt8):List UInt8:=k++58::(if v=[]then[]else if plainOK v=true∧v.getLast?≠some 32 then 32::v else 58::32::enc v)
def cutF:Nat→List UInt8→List (List UInt8)
 | 0,_=>[]
 | f+1,l=>if l=[]then[]else l.take 75::cutF f (l.drop 75)
def cont (ps:List (List UInt8)):List UInt8:=ps.flatMap fun p=>32::(p++[10])
def foldT (s:List UInt8):List UInt8:=s.take 76++10::cont (cutF s.length (s.drop 76))
def lineL (k v:List UInt8):List UInt8:=foldT (body k v)
def dnT:List UInt8:=[100,110]
def recL (x:Rec):List UInt8:=lineL dnT x.name++(x.pairs.flatMap (fun p=>lineL p.1 p.2)++[10])
theorem cutF_flat: ∀ (f:Nat) (l:List UInt8),l.length≤f→(cutF f l).flatten=l
 | 0,l,h=>by have:l=[]:=List.eq_nil_of_length_eq_zero (by omega);subst this;rfl
 | f+1,l,h=>by
  unfold cutF;by_cases hl:l=[]
  ·rw[if_pos hl,hl];rfl
  ·rw[if_neg hl,List.flatten_cons,cutF_flat f (l.drop 75) (by have:=List.length_pos_iff.2 hl;rw[List.length_drop];omega),List.take_append_drop]
theorem trim_no {t:List UInt8}(h:(13:UInt8) ∉t):trimCR t=t:=by unfold trimCR;rw[if_neg];intro e;exact h (List.mem_of_getLast? e)
theorem goes_sp (t:List UInt8):goes (32::t)=true:=by simp[goes]
theorem rows_cont: ∀ (ps:List (List UInt8)) (acc:List Row) (x:List UInt8) (n0 no:Nat) (rest:List UInt8),x≠[]→(∀p∈ps,(10:UInt8) ∉p∧(13:UInt8) ∉p)→
  ∃m,rowsR (acc++[⟨x,n0,false⟩]) no (raw (cont ps++rest))=rowsR (acc++[⟨x++ps.flatten,n0,false⟩]) m (raw rest)
 | [],acc,x,n0,no,rest,hx,h=>⟨no,by simp[cont]⟩
 | p::ps,acc,x,n0,no,rest,hx,h=>by
  have hp:=h p (by simp);have e1:cont (p::ps)++rest=(32::p)++10::(cont ps++rest):=by unfold cont;simp
  have h10:(10:UInt8) ∉32::p:=by simp only[List.mem_cons,not_or];exact⟨by decide,hp.1⟩
  have h13:(13:UInt8) ∉32::p:=by simp only[List.mem_cons,not_or];exact⟨by decide,hp.2⟩
  obtain⟨m,hm⟩:=rows_cont ps acc (x++p) n0 (no+1) rest (by simp[hx]) fun q hq=>h q (by simp[hq]);refine⟨m,?_⟩;rw[e1,raw_line _ _ h10,trim_no h13];have e2:rowsR (acc++[⟨x,n0,false⟩]) no ((32::p)::raw (cont ps++rest))=rowsR (acc++[⟨x++p,n0,false⟩]) (no+1) (raw (cont ps++rest)):=by
   conv=>lhs;unfold rowsR
   rw[if_neg (by rw[goes_sp];decide),List.getLast?_concat];simp only;rw[if_neg (by rintro(e | e);exact hx e;cases e),List.dropLast_concat];rfl
  rw[e2,hm,List.flatten_cons,List.append_assoc]
theorem rows_line (s:List UInt8)(acc:List Row)(no:Nat)(rest:List UInt8)(hs:s≠[])(h10:(10:UInt8) ∉s)(h13:(13:UInt8) ∉s)(hg:s.head?≠some 32):
  ∃k m,rowsR acc no (raw (foldT s++rest))=rowsR (acc++[⟨s,k,false⟩]) m (raw rest):=by
 have hsub: ∀c,c∈s.take 76→c∈s:=fun c hc=>List.mem_of_mem_take hc;have ht:(10:UInt8) ∉s.take 76:=fun e=>h10 (hsub _ e);have ht13:(13:UInt8) ∉s.take 76:=fun e=>h13 (hsub _ e);have hne:s.take 76≠[]:=by
  cases s with
  | nil=>exact absurd rfl hs
  | cons a t=>simp
 have e1:foldT s++rest=s.take 76++10::(cont (cutF s.length (s.drop 76))++rest):=by unfold foldT;simp
 have hgo:goes (s.take 76)=false:=by
  unfold goes;rw[decide_eq_false_iff_not];cases s with
  | nil=>exact absurd rfl hs
  | cons a t=>simpa using hg
 have hp: ∀p∈cutF s.length (s.drop 76),(10:UInt8) ∉p∧(13:UInt8) ∉p:=by
  intro p hp;have hin: ∀c∈p,c∈s:=by intro c hc;have:c∈(cutF s.length (s.drop 76)).flatten:=List.mem_flatten.2 ⟨p,hp,hc⟩;rw[cutF_flat _ _ (by rw[List.length_drop];omega)]at this;exact List.mem_of_mem_drop this
  exact⟨fun e=>h10 (hin _ e),fun e=>h13 (hin _ e)⟩
 obtain⟨m,hm⟩:=rows_cont (cutF s.length (s.drop 76)) acc (s.take 76) (no+1) (no+1) rest hne hp;refine⟨no+1,m,?_⟩;rw[e1,raw_line _ _ ht,trim_no ht13];conv=>lhs;unfold rowsR
 rw[if_pos hgo,hm,cutF_flat _ _ (by rw[List.length_drop];omega),List.take_append_drop]
theorem lt_mem (n:Nat):b64p.lt n∈b64p.letters:=by unfold b64p.lt;have h:n % 64<b64p.letters.length:=Nat.mod_lt _ (by decide);rw[List.getD_eq_getElem?_getD,List.getElem?_eq_getElem h];exact List.getElem_mem h
theorem enc_mem: ∀ (n:Nat) (l:List UInt8),l.length≤n→ ∀c∈enc l,c∈b64p.letters∨c=61
 | 0,l,h,c,hc=>by have:l=[]:=List.eq_nil_of_length_eq_zero (by omega);subst this;rw[b64p.enc_nil]at hc;cases hc
 | n+1,l,h,c,hc=>by
  by_cases hl:l=[]
  ·subst hl;rw[b64p.enc_nil]at hc;cases hc
  ·rw[b64p.enc_cons hl]at hc;rcases List.mem_append.1 hc with hc | hc
   ·unfold b64p.four at hc;obtain⟨j,_,rfl⟩:=List.mem_map.1 hc;unfold b64p.sign;split
    ·exact Or.inr rfl
    ·exact Or.inl (lt_mem _)
   ·exact enc_mem n (l.drop 3) (by have:=List.length_pos_iff.2 hl;rw[List.length_drop];omega) c hc
theorem letters_no: ∀c∈b64p.letters,c≠10∧c≠13∧c≠32:=by decide
theorem enc_no {l:List UInt8}{c:UInt8}(h:c∈enc l):c≠10∧c≠13∧c≠32:=by
 rcases enc_mem _ l (Nat.le_refl _) c h with h | h
 ·exact letters_no c h
 ·rw[h];decide
theorem plain_no {v:List UInt8}(h:plainOK v=true):(∀c∈v,c≠10∧c≠13)∧v.head?≠some 32∧v.head?≠some 58:=by
 unfold plainOK at h;rw[decide_eq_true_iff]at h;refine⟨fun c hc=> ?_,?_,?_⟩
 ·obtain⟨k,hk,rfl⟩:=List.mem_iff_getElem.1 hc;obtain⟨_,_,h3,h4,_⟩:=h k hk;exact⟨fun e=>h3 (by rw[e];rfl),fun e=>h4 (by rw[e];rfl)⟩
 ·intro e;cases v with
  | nil=>cases e
  | cons a t=>simp only[List.head?_cons,Option.some.injEq]at e;obtain⟨_,_,_,_,h5⟩:=h 0 (by simp);exact(h5 rfl).1 (by simp[e])
 ·intro e;cases v with
  | nil=>cases e
  | cons a t=>simp only[List.head?_cons,Option.some.injEq]at e;obtain⟨_,_,_,_,h5⟩:=h 0 (by simp);exact(h5 rfl).2.1 (by simp[e])
theorem type_no {k:List UInt8}(h:typeOK k=true):k≠[]∧(∀c∈k,c≠10∧c≠13∧c≠58)∧k.head?≠some 32∧k.head?≠some 35:=by
 unfold typeOK at h;rw[decide_eq_true_iff]at h;obtain⟨h1,h2,h3⟩:=h;refine⟨h1,fun c hc=> ?_,?_,?_⟩
 ·obtain⟨j,hj,rfl⟩:=List.mem_iff_getElem.1 hc;have:=h3 j hj;unfold tyAt at this;refine⟨fun e=> ?_,fun e=> ?_,fun e=> ?_⟩<;>(rw[e]at this;revert this;simp<;>omega)
 all_goals
  intro e;cases k with
  | nil=>cases e
  | cons a t=>
   simp only[List.head?_cons,Option.some.injEq]at e;have:=h3 0 (by simp);unfold tyAt at this;rw[show(a::t)[0]=a from rfl,e]at this
   revert this
   simp
theorem drop_sp {l:List UInt8}(h:l.head?≠some 32):l.dropWhile (· ==32)=l:=by
 cases l with
 | nil=>rfl
 | cons a t=>
  have:(a==32)=false:=by rw[beq_eq_false_iff_ne];intro e;exact h (by rw[e];rfl)
  rw[List.dropWhile_cons,this];rfl
theorem enc_head (l:List UInt8):(enc l).head?≠some 32:=by intro e;have:(32:UInt8)∈enc l:=List.mem_of_mem_head? e;exact(enc_no this).2.2 rfl
theorem pair_body {k v:List UInt8}(h:typeOK k=true):pairL (body k v)=some (k,v):=by
 have hk:=type_no h;unfold body;rw[pairL_at (fun e=>(hk.2.1 _ e).2.2 rfl),if_pos h];by_cases hv:v=[]
 ·subst hv;rw[if_pos rfl];rfl
 ·rw[if_neg hv];by_cases hp:plainOK v=true∧v.getLast?≠some 32
  ·rw[if_pos hp];have hd:(32::v).dropWhile (· ==32)=v:=(by rw[List.dropWhile_cons];simp only[beq_self_eq_true,if_true];exact drop_sp (plain_no hp.1).2.1);rw[if_neg (by simp),hd,if_pos hp.1]
  ·rw[if_neg hp,if_pos (by simp)];have hd:((58::32::enc v).tail).dropWhile (· ==32)=enc v:=(by rw[List.tail_cons,List.dropWhile_cons];simp only[beq_self_eq_true,if_true];exact drop_sp (enc_head v));rw[hd,b64p.D_enc];rfl
theorem body_no {k v:List UInt8}(h:typeOK k=true):body k v≠[]∧(10:UInt8) ∉body k v∧(13:UInt8) ∉body k v∧(body k v).head?≠some 32∧(body k v).head?≠some 35:=by
 have hk:=type_no h;have hhd:(body k v).head?=k.head?:=by
  unfold body;cases k with
  | nil=>exact absurd rfl hk.1
  | cons a t=>rfl
 have hm: ∀c∈body k v,c≠10∧c≠13:=by
  intro c hc;unfold body at hc;rcases List.mem_append.1 hc with hc | hc
  ·exact⟨(hk.2.1 c hc).1,(hk.2.1 c hc).2.1⟩
  ·rcases List.mem_cons.1 hc with rfl | hc
   ·decide
   ·split at hc
    ·cases hc
    ·split at hc
     ·rename_i hp;rcases List.mem_cons.1 hc with rfl | hc
      ·decide
      ·exact(plain_no hp.1).1 c hc
     ·rcases List.mem_cons.1 hc with rfl | hc
      ·decide
      ·rcases List.mem_cons.1 hc with rfl | hc
       ·decide
       ·exact⟨(enc_no hc).1,(enc_no hc).2.1⟩
 refine⟨?_,fun e=>(hm _ e).1 rfl,fun e=>(hm _ e).2 rfl,by rw[hhd];exact hk.2.2.1,by rw[hhd];exact hk.2.2.2⟩;unfold body;simp
theorem rows_pairs: ∀ (ps:List (List UInt8 × List UInt8)) (acc:List Row) (no:Nat) (rest:List UInt8),(∀p∈ps,typeOK p.1=true)→
  ∃R m,rowsR acc no (raw (ps.flatMap (fun p=>lineL p.1 p.2)++rest))=rowsR (acc++R) m (raw rest)∧R.map (·.text)=ps.map (fun p=>body p.1 p.2)∧ ∀x∈R,x.lost=false
 | [],acc,no,rest,h=>⟨[],no,by simp,rfl,by simp⟩
 | p::ps,acc,no,rest,h=>by
  have hb:=body_no (v:=p.2) (h p (by simp));obtain⟨k,m,hm⟩:=rows_line (body p.1 p.2) acc no (ps.flatMap (fun p=>lineL p.1 p.2)++rest) hb.1 hb.2.1 hb.2.2.1 hb.2.2.2.1;obtain⟨R,m2,h1,h2,h3⟩:=rows_pairs ps (acc++[⟨body p.1 p.2,k,false⟩]) m rest fun q hq=>h q (by simp[hq]);refine⟨⟨body p.1 p.2,k,false⟩::R,m2,?_,by rw[List.map_cons,List.map_cons,h2],fun x hx=> ?_⟩
  ·rw[List.flatMap_cons,List.append_assoc];show rowsR acc no (raw (foldT (body p.1 p.2)++_))=_;rw[hm,h1,List.append_assoc];rfl
  ·rcases List.mem_cons.1 hx with rfl | hx
   ·rfl
   ·exact h3 x hx
theorem fold_pairs: ∀ (R:List Row) (ps:List (List UInt8 × List UInt8)) (i:Nat) (n:List UInt8) (qs:List (List UInt8 × List UInt8)) (T:List Row),0<i→R.map (·.text)=ps.map (fun p=>body p.1 p.2)→(∀x∈R,x.lost=false)→(∀p∈ps,typeOK p.1=true∧isDn p.1=false)→
  ∃j,0<j∧foldL i [⟨n,qs⟩] true (R++T)=foldL j [⟨n,qs++ps⟩] true T
 | [],[],i,n,qs,T,hi,h1,h2,h3=>⟨i,hi,by simp⟩
 | [],p::ps,i,n,qs,T,hi,h1,h2,h3=>by cases h1
 | x::R,[],i,n,qs,T,hi,h1,h2,h3=>by cases h1
 | x::R,p::ps,i,n,qs,T,hi,h1,h2,h3=>by
  simp only[List.map_cons,List.cons.injEq]at h1;obtain⟨hx,h1⟩:=h1;have hp:=h3 p (by simp);have hb:=body_no (v:=p.2) hp.1;obtain⟨j,hj,e⟩:=fold_pairs R ps (i+1) n (qs++[p]) T (by omega) h1 (fun y hy=>h2 y (by simp[hy])) fun q hq=>h3 q (by simp[hq]);refine⟨j,hj,?_⟩;have hsk:skipL i x.text=false:=by unfold skipL;rw[hx,Bool.or_eq_false_iff,Bool.and_eq_false_iff];exact⟨decide_eq_false hb.2.2.2.2,Or.inl (decide_eq_false (by omega))⟩
  have e2:foldL i [⟨n,qs⟩] true (x::(R++T))=foldL (i+1) [⟨n,qs++[p]⟩] true (R++T):=by
   conv=>lhs;unfold foldL foldR
   rw[if_neg (by rw[h2 x (by simp)];decide),if_neg (by rw[hsk];decide),if_neg (by rw[hx];exact hb.1),hx,pair_body hp.1];simp only;rw[if_neg (by rw[hp.2];decide),if_pos True.intro];rfl
  rw[List.cons_append,e2,e,List.append_assoc];rfl
theorem parse_rec (x:Rec)(h: ∀p∈x.pairs,typeOK p.1=true∧isDn p.1=false):parseL (recL x)= .inr [x]:=by
  have hdn:typeOK dnT=true:=by decide
  obtain⟨n,ps⟩:=x;unfold parseL recL;obtain⟨R1,m1,e1,t1,l1⟩:=rows_pairs [(dnT,n)] [] 0 (ps.flatMap (fun p=>lineL p.1 p.2)++[10]) (by simp[hdn]);have e0:lineL dnT n++(ps.flatMap (fun p=>lineL p.1 p.2)++[10])=[(dnT,n)].flatMap (fun p=>lineL p.1 p.2)++(ps.flatMap (fun p=>lineL p.1 p.2)++[10]):=by simp
  obtain⟨R2,m2,e2,t2,l2⟩:=rows_pairs ps ([]++R1) m1 [10] fun p hp=>(h p hp).1;have e3:raw [10]=[[]]:=by decide
  have e4:rowsR ([]++R1++R2) m2 [[]]=R1++R2++[⟨[],m2+1,false⟩]:=by unfold rowsR;rw[if_pos (show goes []=false from rfl)];simp[rowsR]
  show foldL 0 [] false (rowsR [] 0 (raw (lineL dnT n++(ps.flatMap (fun p=>lineL p.1 p.2)++[10]))))=_;rw[e0,e1,e2,e3,e4];obtain⟨x,rfl⟩: ∃x,R1=[x]:=by have:=congrArg List.length t1;rw[List.length_map,List.length_map]at this;exact List.length_eq_one_iff.1 this
  ·
    simp only[List.map_cons,List.map_nil,List.cons.injEq,and_true]at t1;have hb:=body_no (v:=n) hdn;have hsk:skipL 0 x.text=false:=(by unfold skipL;rw[t1,Bool.or_eq_false_iff,Bool.and_eq_false_iff];refine⟨decide_eq_false hb.2.2.2.2,Or.inr (decide_eq_false ?_)⟩;intro e;have:=congrArg List.head? e;unfold body dnT version at this;simp at this);have e5:foldL 0 [] false (x::(R2++[⟨[],m2+1,false⟩]))=foldL 1 [⟨n,[]⟩] true (R2++[⟨[],m2+1,false⟩]):=by
      conv=>lhs;unfold foldL foldR
      rw[if_neg (by rw[l1 x (by simp)];decide),if_neg (by rw[hsk];decide),if_neg (by rw[t1];exact hb.1),t1,pair_body hdn];simp only;rw[if_neg (by decide),if_neg (by decide)];rfl
    obtain⟨j,hj,e6⟩:=fold_pairs R2 ps 1 n [] [⟨[],m2+1,false⟩] (by omega) t2 l2 h;rw[List.append_assoc];show foldL 0 [] false (x::(R2++[⟨[],m2+1,false⟩]))=_;rw[e5,e6];unfold foldL foldR;rw[if_neg (by simp)];simp only[skipL,List.head?_nil];by_cases hj0:j=0
    · omega
    · simp[hj0,foldR]
end ldp
open Go.RowKit
namespace lbk
open bld
theorem copyCheck_k (B b:Nat)(bs:List Value)(w:World)(h:Lib.IsBuilder 133 5 B b bs w):
  Calls Tryz.prog 167 #[.pointer (some ⟨b,0,none⟩)] w fun e w'=>e= .returned (.tuple #[])∧(Lib.BuilderAt 133 5 B b (.pointer (some ⟨b,0,none⟩)) bs w'∧Below B w w'∧Lib.OthersKept 5 (some b) w w'):=by
 rcases h with h | h
 ·refine(copyCheck_fresh b w h.cell0 h.shape h.frozen0).mono ?_;rintro e w' ⟨rfl,rfl⟩;exact⟨rfl,h.used _,(Below.refl B w).setCell (p:=⟨b,0,none⟩) h.1 _,Lib.OthersKept.setCell (b:=b) (Lib.OthersKept.refl _ _ w) ⟨b,0,none⟩ rfl _⟩
 ·refine(copyCheck_used b w h.cell0).mono ?_;rintro e w' ⟨rfl,rfl⟩;exact⟨rfl,h,Below.refl B _,Lib.OthersKept.refl _ _ _⟩
theorem writeString_k (B b:Nat)(l:List UInt8)(t:ByteArray)(w:World)(h:Is B b l w)(hlen:l.length+t.size≤140737488355328)(hBw:B≤w.heap.size):
  Calls Tryz.prog 101 #[.pointer (some ⟨b,0,none⟩),.string t] w fun e w'=>e= .returned (.tuple #[.int .i64 (t.size:Int),.nilIface])∧(Is B b (l++t.data.toList) w'∧Below B w w'∧Lib.OthersKept 5 (some b) w w'):=by
 have hbc:(Lib.byteCells l).length=l.length:=Lib.byteCells_length l;have hbc':Lib.byteCells (l++t.data.toList)=Lib.byteCells l++Lib.strCells t:=by rw[Lib.byteCells_append];rfl
 unfold Is;rw[hbc'];have h0:Lib.IsBuilder 133 5 B b (Lib.byteCells l) w:=h;clear h hbc';generalize Lib.byteCells l=bs at h0 hbc ⊢;have C:=Lib.hid (copyCheck_k B b bs w h0);clear h0;obtain⟨i0,hi,hz0,hz1,hz2⟩:=info_parts infoByte;go_enter Tryz.func101,Tryz.ntmps101;go_wp2_with fail;refine C.out.mono ?_;rintro e w1 ⟨rfl,h1,hb1,hk1⟩;obtain⟨hB,v,hbk,hown,hne⟩:=h1;have hsz:=hb1.size;have c0:w1.cell? ⟨b,0,none⟩=some (.pointer (some ⟨b,0,none⟩)):=by rw[Lib.cell_of_heap hbk];rfl
 have c1:w1.cell? ⟨b,1,none⟩=some v:=by rw[Lib.cell_of_heap hbk];rfl
 obtain⟨v',w2,hap,hown',hgr,_⟩:=Lib.run_append_own_string (P:=Tryz.prog) w1 B 131 9 131 5 i0 Tryz.underlying131 Tryz.underlying9 hi hz0 hz1 hz2 v bs.length bs hown t (by rw[hbc];unfold maxLen;omega) (by rw[hbc];omega) (by omega);have hlt:=lt_of_heap hbk;have hbk2:w2.heap[b]? =some (.cells #[.pointer (some ⟨b,0,none⟩),v] 133 (0,0)):=by rw[hgr.block b hlt (fun e=>hne e.symm)];exact hbk
 have hb2:Below B w1 w2:=(Below.refl B w1).grown hgr (by omega) (fun k hk=>(hown.lt k hk).1);have hk2:Lib.OthersKept 5 (some b) w w2:=hk1.grown hgr (Lib.ownsRowF_kind (World.ownsRowF_of hown));have HK:=Lib.hid (Lib.OthersKept.setCell (b:=b) hk2 ⟨b,1,none⟩ rfl v');have d1:w2.cell? ⟨b,1,none⟩=some v:=by rw[Lib.cell_of_heap hbk2];rfl
 have f1:w2.frozen? ⟨b,1,none⟩=false:=Lib.frozen_of_heap hbk2 1;have hown2:w2.ownsRow B 5 1 v' (bs++Lib.strCells t).length (bs++Lib.strCells t):=by rw[List.length_append,Lib.strCells_length];exact hown'
 obtain⟨ao,n,cap,rfl,hn⟩:=kt.row_form hown2;have H1:=Lib.hid hown2;have HB:=Lib.hid hbk2;clear hown' hown hbk2 hbk hne hgr C hown2 hk1 hk2;go_wp2_with (at_builtin;refine Lib.wpList_append_run _ rfl _ _ _ _ rfl _ _ rfl rfl _ _ hap ?_);go_ret2;exact⟨rfl,Or.inr (Lib.BuilderAt.put hB HB.out H1.out (by decide)),(hb1.trans hb2).setCell (p:=⟨b,1,none⟩) hB _,HK.out⟩
theorem heap_kept {w w':World}{b q:Nat}{cs:Array Value}{T:TypeId}{fz:Nat × Nat}(hK:Lib.OthersKept 5 (some b) w w')(h:w.heap[q]? =some (.cells cs T fz))(hT:T≠5)(hq:q≠b):w'.heap[q]? =some (.cells cs T fz):=hK q _ h (fun e=>hq (Option.some.inj e)) (fun c f e=>hT (by injection e))
theorem strs_kept {w w':World}{B b:Nat}{ao:Option Addr}{m cap:Nat}{l:List ByteArray}(h:prw.OwnT w B (.slice ao m cap) l)(hK:Lib.OthersKept 5 (some b) w w')(hb:b<B):tupw.Strs w' ao l:=by
 intro i hi;obtain⟨q,o,e,hc⟩:=(dnw.ownT_strs h).1 i hi;subst e;refine⟨q,o,rfl,?_⟩;have ho:w.ownsRow B 9 1 (.slice (some ⟨q,o,none⟩) m cap) (prw.scells l).length (prw.scells l):=h;obtain⟨c,fz,hg⟩:=Lib.ownsRowF_kind (World.ownsRowF_of ho) q rfl;have hq:q≠b:=by have:=(ho.lt q rfl).1;omega
 have hg':=heap_kept hK hg (by decide) hq;exact(World.cell?_of_block (w:=w) (w':=w') (a:=⟨q,o+i,none⟩) (hg'.trans hg.symm)).trans hc
theorem cutF_fuel: ∀ (f g:Nat) (l:List UInt8),l.length≤f→l.length≤g→ldp.cutF f l=ldp.cutF g l
 | 0,g,l,h,_=>by have:l=[]:=List.eq_nil_of_length_eq_zero (by omega);subst this;cases g<;>rfl
 | f+1,g,l,h,hg=>by
  by_cases hl:l=[]
  ·subst hl;cases g<;>rfl
  ·have hp:=List.length_pos_iff.2 hl;obtain⟨g,rfl⟩: ∃k,g=k+1:=⟨g-1,by omega⟩;rw[ldp.cutF,ldp.cutF,if_neg hl,if_neg hl,cutF_fuel f g (l.drop 75) (by rw[List.length_drop];omega) (by rw[List.length_drop];omega)]
def cut75 (l:List UInt8):List (List UInt8):=ldp.cutF l.length l
theorem cut75_step {l:List UInt8}(h:l≠[]):cut75 l=l.take 75::cut75 (l.drop 75):=by have hp:=List.length_pos_iff.2 h;obtain⟨k,hk⟩: ∃k,l.length=k+1:=⟨l.length-1,by omega⟩;unfold cut75;rw[hk,ldp.cutF,if_neg h,cutF_fuel k (l.drop 75).length (l.drop 75) (by rw[List.length_drop];omega) (Nat.le_refl _)]
theorem cut75_len: ∀ (n:Nat) (l:List UInt8),l.length≤n→(cut75 l).length≤l.length∧ ∀p∈cut75 l,p.length≤75
 | 0,l,h=>by have:l=[]:=List.eq_nil_of_length_eq_zero (by omega);subst this;exact⟨Nat.le_refl _,fun p hp=>by cases hp⟩
 | n+1,l,h=>by
  by_cases hl:l=[]
  ·subst hl;exact⟨Nat.le_refl _,fun p hp=>by cases hp⟩
  ·have hp:=List.length_pos_iff.2 hl;have ih:=cut75_len n (l.drop 75) (by rw[List.length_drop];omega);rw[cut75_step hl];refine⟨?_,fun p hp=> ?_⟩
   ·have:=ih.1;rw[List.length_drop]at this;simp only[List.length_cons];omega
   ·rcases List.mem_cons.1 hp with rfl | h2
    ·rw[List.length_take];omega
    ·exact ih.2 p h2
theorem rest_dt (t:ByteArray)(m:Nat):(t.extract m t.size).data.toList=t.data.toList.drop m:=Lib.extract_to_end t m
theorem rest_sz (t:ByteArray)(m:Nat):(t.extract m t.size).size=t.size-m:=by rw[←kt.size_len,rest_dt];simp
theorem head_dt (t:ByteArray)(m:Nat):(t.extract 0 m).data.toList=t.data.toList.take m:=by rw[Lib.extract_data];simp
theorem infoStr:(Tryz.prog.info? 9).map (fun i=>(i.zero,i.size,i.bytes))=some (some (.string ByteArray.empty),1,16):=by kernel_rfl
theorem wrap_any (s:ByteArray)(w:World)(hs:s.size≤3000):
  Calls Tryz.prog 171 #[.string s,.int .i64 75] w fun e w'=> ∃ (v:Value) (ts:List ByteArray),e= .returned v∧prw.OwnT w' w.heap.size v ts∧Below w.heap.size w w'∧ts.map (fun x=>x.data.toList)=cut75 s.data.toList:=by
 go_enter Tryz.func171,Tryz.ntmps171;go_wp2_with fail;go_loopw [0,5] (fun sv lv wr=> ∃ (t:ByteArray) (ts:List ByteArray),t.size≤3000∧sv= .string t∧Hid (ts.map (fun x=>x.data.toList)++cut75 t.data.toList=cut75 s.data.toList)∧wr.ownsRow w.heap.size 9 1 lv (ts.map Value.string).length (ts.map Value.string)∧Below w.heap.size w wr) (fun sv _ _=>strLen sv);case atStart=>exact⟨s,[],hs,rfl,rfl,World.ownsRow_nil _ _ _ _,Below.refl _ _⟩
 case round=>
  obtain⟨t,ts,ht,rfl,hG,hO,hB⟩:=hrel;have hsz:=hB.size;by_cases h0:t.size=0
  ·have hem:t=ByteArray.empty:=kt.str_eq (List.eq_nil_of_length_eq_zero (by rw[kt.size_len];exact h0));subst hem;have hO':=Lib.hid hO;clear hO;go_wp2_with fail;go_ret;exact⟨_,ts,rfl,hO'.out,hB,by have:=hG.out;rw[←this];exact(List.append_nil _).symm⟩
  ·have hne:t.toList.isEmpty=false:=by
    rw[Lib.toList_data];cases h:t.data.toList with
    | nil=>exact absurd (by rw[←kt.size_len,h];rfl) h0
    | cons a l=>rfl
   have hcnt:ts.length≤3000:=(by have h1:=(cut75_len _ s.data.toList (Nat.le_refl _)).1;rw[←hG.out,List.length_append,List.length_map,kt.size_len]at h1;omega);obtain⟨m,hm⟩: ∃m:Nat,Hid (m=min 75 t.size):=⟨min 75 t.size,rfl⟩;have em:min (75:Int) (t.size:Int)=(m:Int):=(by have:=hm.out;omega);have hmt:(m:Int)≤(t.size:Int):=(by omega);have hm0:0<m:=(by have:=hm.out;omega);have hm75:m≤75:=(by have:=hm.out;omega);obtain⟨v',w1,hap,hO1,hg1,hB1⟩:=kt.app1 (P:=Tryz.prog) (ty:=35) Tryz.underlying35 infoStr rfl (.string (t.extract 0 m)) rfl hO (by rw[List.length_map];unfold maxLen;omega) (by rw[List.length_map];omega) hsz;have HO:=Lib.hid hO;have HO1:=Lib.hid hO1;have HG1:=Lib.hid hg1;clear hO hO1 hg1;go_wp2_with (at_builtin;refine Lib.wpList_append_run _ rfl _ _ _ _ rfl _ _ rfl rfl _ _ hap ?_);go_roundw;case rel=>
    refine⟨_,ts++[t.extract 0 m],?_,rfl,?_,?_,hB.trans hB1⟩
    ·rw[rest_sz];omega
    ·show _=_;rw[←hG.out,cut75_step (nonempty t h0),rest_dt,List.map_append,List.map_singleton,head_dt,hm.out];have e1:t.data.toList.take (min 75 t.size)=t.data.toList.take 75:=(by rw[←kt.size_len t,List.take_eq_take_iff];omega);have e2:t.data.toList.drop (min 75 t.size)=t.data.toList.drop 75:=by
      rw[←kt.size_len t];by_cases h75:75≤t.data.toList.length
      ·rw[Nat.min_eq_left h75]
      ·rw[List.drop_eq_nil_of_le (by omega),List.drop_eq_nil_of_le (by omega)]
     rw[e1,e2,List.append_assoc];rfl
    ·rw[List.map_append,List.map_singleton];exact HO1.out
   case measure=>show(t.extract _ _).size<t.size;rw[rest_sz];omega
end lbk
open Go.RowKit
namespace ldw
open ldp
theorem rightType_any (s:ByteArray)(w:World)(hs:s.size≤1000000):Calls Tryz.prog 103 #[.string s] w fun e w'=>e= .returned (.bool (typeOK s.data.toList))∧w=w':=by
  go_enter Tryz.func103,Tryz.ntmps103;go_wp2_with fail;go_loop [3,4,5,8] (fun _ _ _ iv=> ∃k:Nat,k≤s.size∧iv= .int .i64 (k:Int)∧Hid (∀j (hj:j<s.size),j<k→tyAt j s[j])) (fun _ _ _ iv=>s.size- (intOf iv).toNat);case atStart=>exact⟨0,Nat.zero_le _,rfl,fun j hj h=>by omega⟩
  case round=>
    obtain⟨k,hk,rfl,hA⟩:=hrel;by_cases hlt:k<s.size
    · have hlt':(k:Int)<(s.size:Int):=(by omega);have HA:Hid (tyAt k (s[k]'hlt)→ ∀j (hj:j<s.size),j<k+1→tyAt j s[j]):=by
        intro ht j hj h;by_cases e:j=k
        · subst e;exact ht
        · exact hA.out j hj (by omega)
      have HN:Hid (¬tyAt k (s[k]'hlt)→false=typeOK s.data.toList):=fun h=>typeOK_no hlt h;obtain⟨c,hc⟩: ∃c,s[k]'hlt=c:=⟨_,rfl⟩;rw[hc]at HA HN;have hcn:=c.toNat_lt;go_wp2_with fail;all_goals first
        | (go_ret;exact⟨kt.ret_bool (HN.out (by unfold tyAt;omega)),rfl⟩)
        | (go_ret;exact⟨kt.ret_bool (HN.out (by unfold tyAt;simp only[Bool.not_eq_true',Bool.not_eq_false',Bool.or_eq_true,Bool.and_eq_true,Bool.or_eq_false_iff,Bool.and_eq_false_iff,decide_eq_true_eq,decide_eq_false_iff_not,beq_iff_eq,bne_iff_ne,bne_eq_false_iff_eq,beq_eq_false_iff_ne,ne_eq,Classical.not_not]at*;omega)),rfl⟩)
        | (go_round
           case rel=>exact⟨k+1,by omega,by go_num,HA.out (by unfold tyAt;first | omega | (simp only[Bool.not_eq_true',Bool.not_eq_false',Bool.or_eq_true,Bool.and_eq_true,Bool.or_eq_false_iff,Bool.and_eq_false_iff,decide_eq_true_eq,decide_eq_false_iff_not,beq_iff_eq,bne_iff_ne,bne_eq_false_iff_eq,beq_eq_false_iff_ne,ne_eq,Classical.not_not]at*;omega))⟩
           case measure=>simp[intOf];omega)
        | (exfalso;simp only[Bool.not_eq_true',Bool.not_eq_false',Bool.or_eq_true,Bool.and_eq_true,Bool.or_eq_false_iff,Bool.and_eq_false_iff,decide_eq_true_eq,decide_eq_false_iff_not,beq_iff_eq,bne_iff_ne,bne_eq_false_iff_eq,beq_eq_false_iff_ne,ne_eq,Classical.not_not]at*;omega)
    · obtain rfl:k=s.size:=(by omega);have HE:Hid (s.size≠0→s.size≤64→true=typeOK s.data.toList):=fun h0 h1=>typeOK_end (fun j hj=>hA.out j hj hj) h0 h1;have HL:Hid (s.size=0∨64<s.size→false=typeOK s.data.toList):=typeOK_len;clear hA;by_cases h0:s.size=0
      · obtain rfl:s=ByteArray.empty:=(by apply kt.str_eq;have:s.data.toList.length=0:=(by simpa using h0);rw[List.eq_nil_of_length_eq_zero this];rfl);clear h0;go_wp2_with fail;go_ret;exact⟨kt.ret_bool (HL.out (Or.inl rfl)),rfl⟩
      · have hne:s.data.toList≠[]:=(by intro e;have:=kt.size_len s;rw[e]at this;exact h0 this.symm);have hne2:s.toList.isEmpty=false:=by
          rw[Lib.toList_data];cases h:s.data.toList with
          | nil=>exact absurd h hne
          | cons a t=>rfl
        have hne3: ¬s.toList=[]:=(by rw[Lib.toList_data];exact hne);by_cases h1:s.size≤64
        · have h2:(s.size:Int)≤64:=(by omega);go_wp2_with fail;go_ret;exact⟨kt.ret_bool (HE.out h0 h1),rfl⟩
        · have h2:decide ((s.size:Int)≤64)=false:=(by rw[decide_eq_false_iff_not];omega);have h3:64<(s.size:Int):=(by omega);go_wp2_with fail;go_ret;exact⟨kt.ret_bool (HL.out (Or.inr (by omega))),rfl⟩
theorem plain_any (s:ByteArray)(w:World)(hs:s.size≤1000000):Calls Tryz.prog 168 #[.string s] w fun e w'=>e= .returned (.bool (plainOK s.data.toList))∧w=w':=by
  go_enter Tryz.func168,Tryz.ntmps168;go_wp2_with fail;go_loop [3,4,7] (fun _ _ iv=> ∃k:Nat,k≤s.size∧iv= .int .i64 (k:Int)∧Hid (∀j (hj:j<s.size),j<k→plAt j s[j])) (fun _ _ iv=>s.size- (intOf iv).toNat);case atStart=>exact⟨0,Nat.zero_le _,rfl,fun j hj h=>by omega⟩
  case round=>
    obtain⟨k,hk,rfl,hA⟩:=hrel;by_cases hlt:k<s.size
    · have hlt':(k:Int)<(s.size:Int):=(by omega);have HA:Hid (plAt k (s[k]'hlt)→ ∀j (hj:j<s.size),j<k+1→plAt j s[j]):=by
        intro ht j hj h;by_cases e:j=k
        · subst e;exact ht
        · exact hA.out j hj (by omega)
      have HN:Hid (¬plAt k (s[k]'hlt)→false=plainOK s.data.toList):=fun h=>plainOK_no hlt h;obtain⟨c,hc⟩: ∃c,s[k]'hlt=c:=⟨_,rfl⟩;rw[hc]at HA HN;have hcn:=c.toNat_lt;go_wp2_with fail;all_goals first
        | (go_ret;exact⟨kt.ret_bool (HN.out (by unfold plAt;omega)),rfl⟩)
        | (go_ret;exact⟨kt.ret_bool (HN.out (by unfold plAt;simp only[Bool.not_eq_true',Bool.not_eq_false',Bool.or_eq_true,Bool.and_eq_true,Bool.or_eq_false_iff,Bool.and_eq_false_iff,decide_eq_true_eq,decide_eq_false_iff_not,beq_iff_eq,bne_iff_ne,bne_eq_false_iff_eq,beq_eq_false_iff_ne,ne_eq,Classical.not_not]at*;omega)),rfl⟩)
        | (go_round
           case rel=>exact⟨k+1,by omega,by go_num,HA.out (by unfold plAt;first | omega | (simp only[Bool.not_eq_true',Bool.not_eq_false',Bool.or_eq_true,Bool.and_eq_true,Bool.or_eq_false_iff,Bool.and_eq_false_iff,decide_eq_true_eq,decide_eq_false_iff_not,beq_iff_eq,bne_iff_ne,bne_eq_false_iff_eq,beq_eq_false_iff_ne,ne_eq,Classical.not_not]at*;omega))⟩
           case measure=>simp[intOf];omega)
        | (exfalso;simp only[Bool.not_eq_true',Bool.not_eq_false',Bool.or_eq_true,Bool.and_eq_true,Bool.or_eq_false_iff,Bool.and_eq_false_iff,decide_eq_true_eq,decide_eq_false_iff_not,beq_iff_eq,bne_iff_ne,bne_eq_false_iff_eq,beq_eq_false_iff_ne,ne_eq,Classical.not_not]at*;omega)
    · obtain rfl:k=s.size:=(by omega);have HE:Hid (true=plainOK s.data.toList):=plainOK_end (fun j hj=>hA.out j hj hj);clear hA;go_wp2_with fail;go_ret;exact⟨kt.ret_bool HE.out,rfl⟩
end ldw
open Go.RowKit
namespace ldw
open ldp
theorem zero_s {s:ByteArray}(h0:s.size=0):s=ByteArray.empty:=by
 apply kt.str_eq;have:s.data.toList.length=0:=by simpa using h0
 rw[List.eq_nil_of_length_eq_zero this];rfl
theorem isDn_len {s:ByteArray}(h: ¬s.size=2):false=isDn s.data.toList:=by
 symm;rw[Bool.eq_false_iff];intro e;unfold isDn at e;simp only[Bool.or_eq_true,beq_iff_eq]at e;have hl:s.data.toList.length=s.size:=by simp
 rcases e with((e | e) | e) | e<;>(rw[e]at hl;simp at hl;omega)
theorem isDn_two {s:ByteArray}(h:s.size=2)(b:Bool)(hb:b=true↔(((s[0]'(by omega)).toNat:Int)=100∨((s[0]'(by omega)).toNat:Int)=68)∧(((s[1]'(by omega)).toNat:Int)=110∨((s[1]'(by omega)).toNat:Int)=78)):b=isDn s.data.toList:=by
 have hs:s.data.toList=[s[0]'(by omega),s[1]'(by omega)]:=by
  apply List.ext_getElem
  ·simp[h]
  ·intro i h1 h2;have:i=0∨i=1:=(by simp at h2;omega);rcases this with rfl | rfl<;>rfl
 rw[Bool.eq_iff_iff,hb,hs];generalize s[0]'(by omega)=c;generalize s[1]'(by omega)=d;unfold isDn;simp only[Bool.or_eq_true,beq_iff_eq,List.cons.injEq,and_true,←UInt8.toNat_inj];show _↔(((c.toNat=100∧d.toNat=110)∨(c.toNat=68∧d.toNat=110))∨(c.toNat=100∧d.toNat=78))∨(c.toNat=68∧d.toNat=78);omega
theorem isName_any (s:ByteArray)(w:World)(hs:s.size≤1000000):Calls Tryz.prog 104 #[.string s] w fun e w'=>e= .returned (.bool (isDn s.data.toList))∧w=w':=by
 by_cases h:s.size=2
 ·have HT:=Lib.hid (isDn_two h);have e2:((s.size:Int)==2)=true:=by rw[beq_iff_eq];omega
  have hz:0<s.size:=by omega
  have hz1:1<s.size:=by omega
  have hz2:(0:Int)<(s.size:Int):=by omega
  have hz3:(1:Int)<(s.size:Int):=by omega
  obtain⟨c,hc⟩: ∃c,s[0]'hz=c:=⟨_,rfl⟩;obtain⟨d,hd⟩: ∃c,s[1]'hz1=c:=⟨_,rfl⟩;rw[hc,hd]at HT;clear h;have cc:(((c.toNat:Int)==100)=true∨(((c.toNat:Int)==100)=false∧((c.toNat:Int)==68)=true))∨(((c.toNat:Int)==100)=false∧((c.toNat:Int)==68)=false):=by
   by_cases e1:((c.toNat:Int)==100)=true
   ·exact Or.inl (Or.inl e1)
   ·have e1:((c.toNat:Int)==100)=false:=(by simpa using e1);by_cases e2:((c.toNat:Int)==68)=true
    ·exact Or.inl (Or.inr ⟨e1,e2⟩)
    ·exact Or.inr ⟨e1,by simpa using e2⟩
  have dd:(((d.toNat:Int)==110)=true∨(((d.toNat:Int)==110)=false∧((d.toNat:Int)==78)=true))∨(((d.toNat:Int)==110)=false∧((d.toNat:Int)==78)=false):=by
   by_cases e1:((d.toNat:Int)==110)=true
   ·exact Or.inl (Or.inl e1)
   ·have e1:((d.toNat:Int)==110)=false:=(by simpa using e1);by_cases e2:((d.toNat:Int)==78)=true
    ·exact Or.inl (Or.inr ⟨e1,e2⟩)
    ·exact Or.inr ⟨e1,by simpa using e2⟩
  rcases cc with(c1 | ⟨c1,c2⟩) | ⟨c1,c2⟩<;>rcases dd with(d1 | ⟨d1,d2⟩) | ⟨d1,d2⟩
  all_goals go_enter Tryz.func104,Tryz.ntmps104;go_wp2_with fail;go_ret;refine⟨kt.ret_bool (HT.out _ ?_),rfl⟩;simp only[beq_iff_eq,beq_eq_false_iff_ne]at*;first | (simp only[true_iff];omega) | (simp only[false_iff,Bool.false_eq_true];omega)
 ·have HT:=Lib.hid (isDn_len h);have e2:((s.size:Int)==2)=false:=by rw[beq_eq_false_iff_ne];omega
  clear h;go_enter Tryz.func104,Tryz.ntmps104;go_wp2_with fail;go_ret;exact⟨kt.ret_bool HT.out,rfl⟩
end ldw
namespace atp
structure Ty where
 name:List UInt8
 syn:Int
 single:Bool
deriving DecidableEq
def tys:List Ty:=[⟨[99,110],1,false⟩,⟨[100,99],1,false⟩,⟨[100,101,115,99,114,105,112,116,105,111,110],1,false⟩,⟨[101,110,97,98,108,101,100],5,true⟩,⟨[108],1,false⟩,⟨[108,105,109,105,116],4,false⟩,⟨[109,97,105,108],1,false⟩,⟨[109,101,109,98,101,114],6,false⟩,⟨[111],1,false⟩,⟨[111,98,106,101,99,116,99,108,97,115,115],1,false⟩,⟨[111,117],1,false⟩,⟨[112,104,111,116,111],3,false⟩,⟨[115,101,101,97,108,115,111],6,false⟩,⟨[115,101,114,105,97,108,110,117,109,98,101,114],2,false⟩,⟨[115,110],1,false⟩,⟨[116,101,108,101,112,104,111,110,101,110,117,109,98,101,114],7,false⟩,⟨[116,105,116,108,101],1,false⟩,⟨[117,105,100],1,false⟩,⟨[117,105,100,110,117,109,98,101,114],4,true⟩,⟨[117,115,101,114,112,97,115,115,119,111,114,100],3,false⟩]
def findS (n:List UInt8):Option Ty:=tys.find? (fun t=>decide (t.name=n))
theorem findS_some {n:List UInt8}{t:Ty}(h:findS n=some t):t∈tys∧t.name=n:=by unfold findS at h;refine⟨List.mem_of_find?_eq_some h,?_⟩;have:=List.find?_some h;simpa using this
theorem findS_all: ∀j:Fin 20,findS (tys[j.val]'(j.isLt)).name=some (tys[j.val]'(j.isLt)):=by decide+kernel
theorem findS_at (i:Nat)(hi:i<tys.length):findS tys[i].name=some tys[i]:=by exact findS_all ⟨i,hi⟩
theorem findS_not {n:List UInt8}(h: ∀i (hi:i<tys.length),tys[i].name≠n):findS n=none:=by unfold findS;rw[List.find?_eq_none];intro t ht;obtain⟨i,hi,rfl⟩:=List.mem_iff_getElem.1 ht;simpa using h i hi
theorem tys_len:tys.length=20:=rfl
def bare (l:List UInt8):List UInt8:=if l.head?=some 45 then l.tail else l
def digit (c:UInt8):Bool:=decide (48≤c.toNat∧c.toNat≤57)
def numOK (l:List UInt8):Bool:=decide (l=[48])||(decide (1≤(bare l).length)&&decide ((bare l).length≤18)&&decide ((bare l).head?≠some 48)&&(bare l).all digit)
def worthN (l:List UInt8):Nat:=l.foldl (fun n c=>10*n+(c.toNat-48)) 0
def worth (l:List UInt8):Int:=if l.head?=some 45 then- (worthN (bare l):Int)else(worthN (bare l):Int)
end atp
open Go.RowKit
namespace sml
def low (c:UInt8):UInt8:=if 65≤c.toNat∧c.toNat≤90 then UInt8.ofNat (c.toNat+32)else c
def lowL (l:List UInt8):List UInt8:=l.map low
theorem low_nat (c:UInt8):((low c).toNat:Int)=if 65≤(c.toNat:Int)∧(c.toNat:Int)≤90 then(c.toNat:Int)+32 else(c.toNat:Int):=by
 unfold low;by_cases h:65≤c.toNat∧c.toNat≤90
 ·rw[if_pos h,if_pos (by omega),UInt8.toNat_ofNat'];omega
 ·rw[if_neg h,if_neg (by omega)]
theorem infoByte:(Tryz.prog.info? 5).map (fun i=>(i.zero,i.size,i.bytes))=some (some (.int .u8 0),1,1):=by kernel_rfl
theorem emptyRow (w:World)(e:TypeId):(w.alloc (.cells #[] e)).ownsRow w.heap.size e 1 (.slice (some ⟨w.heap.size,0,none⟩) 0 0) ([]:List Value).length []:=World.ownsRow_made w #[] 0 (Nat.le_refl _) (by unfold maxLen;omega) rfl
theorem small_any (s:ByteArray)(w:World)(hs:s.size≤10000000):
  Calls Tryz.prog 80 #[.string s] w fun e w'=>e= .returned (.string ⟨(lowL s.data.toList).toArray⟩)∧Below w.heap.size w w':=by
 go_enter Tryz.func80,Tryz.ntmps80;go_wp2_with fail;go_loopw [3,4,5] (fun bv iv _ wr=> ∃k:Nat,k≤s.size∧iv= .int .i64 (k:Int)∧Hid (wr.ownsRow w.heap.size 5 1 bv (Lib.byteCells (lowL (s.data.toList.take k))).length (Lib.byteCells (lowL (s.data.toList.take k))))∧Below w.heap.size w wr) (fun _ iv _ _=>s.size- (intOf iv).toNat);case atStart=>exact⟨0,Nat.zero_le _,rfl,emptyRow w _,(Below.refl _ _).alloc (Nat.le_refl _) _⟩
 case round=>
  obtain⟨k,hk,rfl,hO,hB⟩:=hrel;have hsz:=hB.size;by_cases hlt:k<s.size
  ·have hlt':(k:Int)<(s.size:Int):=(by omega);have HT:=kt.take_snoc s k hlt;obtain⟨c,hc⟩: ∃c,s[k]'hlt=c:=⟨_,rfl⟩;rw[hc]at HT;have hcn:=c.toNat_lt;have hlen:(Lib.byteCells (lowL (s.data.toList.take k))).length≤k:=(by rw[Lib.byteCells_length];unfold lowL;rw[List.length_map];exact List.length_take_le _ _);obtain⟨v',w1,hap,hO1,hg1,hB1⟩:=kt.app1 (P:=Tryz.prog) (ty:=131) (w:=wr) Tryz.underlying131 infoByte rfl (.int .u8 ((low c).toNat:Int)) rfl hO.out (by unfold maxLen;omega) (by omega) hsz;have HO1:Hid (w1.ownsRow w.heap.size 5 1 v' (Lib.byteCells (lowL (s.data.toList.take (k+1)))).length (Lib.byteCells (lowL (s.data.toList.take (k+1))))):=(by show World.ownsRow _ _ _ _ _ _ _;rw[HT];unfold lowL at hO1 ⊢;rw[List.map_append,Lib.byteCells_append];exact hO1);have HB1:=Lib.hid (hB.trans hB1);clear HT hO1 hg1 hB1 hlen;have hlow:=low_nat c;by_cases hup:65≤(c.toNat:Int)∧(c.toNat:Int)≤90
   ·rw[if_pos hup]at hlow;rw[hlow]at hap;obtain⟨u1,u2⟩:=hup;have r1:IntKind.u8.wrap ((c.toNat:Int)+32)=(c.toNat:Int)+32:=IntWalk.u8_in _ (by omega);clear hlow;go_wp2_with (at_builtin;refine Lib.wpList_append_run _ rfl _ _ _ _ rfl _ _ rfl rfl _ _ hap ?_);go_roundw;case rel=>exact⟨k+1,by omega,by go_num,HO1,HB1.out⟩
    case measure=>simp[intOf];omega
   ·rw[if_neg hup]at hlow;rw[hlow]at hap;clear hlow;by_cases h65:65≤(c.toNat:Int)
    ·have h90:decide ((c.toNat:Int)≤90)=false:=(by rw[decide_eq_false_iff_not];omega);clear hup;go_wp2_with (at_builtin;refine Lib.wpList_append_run _ rfl _ _ _ _ rfl _ _ rfl rfl _ _ hap ?_);go_roundw;case rel=>exact⟨k+1,by omega,by go_num,HO1,HB1.out⟩
     case measure=>simp[intOf];omega
    ·clear hup;go_wp2_with (at_builtin;refine Lib.wpList_append_run _ rfl _ _ _ _ rfl _ _ rfl rfl _ _ hap ?_);go_roundw;case rel=>exact⟨k+1,by omega,by go_num,HO1,HB1.out⟩
     case measure=>simp[intOf];omega
  ·obtain rfl:k=s.size:=(by omega);have hO2:=hO.out;rw[List.take_of_length_le (by simp)]at hO2;have hst:=kt.str_of_row (P:=Tryz.prog) (dst:=9) Tryz.underlying131 Tryz.underlying5 Tryz.underlying9 hO2;clear hO2;go_wp2_with fail;go_ret;exact⟨rfl,hB⟩
end sml
open Go.RowKit
namespace atw
def bs (l:List UInt8):ByteArray:=⟨l.toArray⟩
theorem bs_data (l:List UInt8):(bs l).data.toList=l:=rfl
theorem bs_of (s:ByteArray):bs s.data.toList=s:=kt.str_eq rfl
theorem bs_size (l:List UInt8):(bs l).size=l.length:=by rw[←kt.size_len];rfl
def midL (l:List UInt8)(k:Nat):List UInt8:=(sml.lowL l).take k++l.drop k
theorem midL_len (l:List UInt8)(k:Nat):(midL l k).length=l.length:=by unfold midL sml.lowL;simp;omega
theorem midL_at {l:List UInt8}{k:Nat}(h:k<l.length):(midL l k)[k]'(by rw[midL_len];exact h)=l[k]:=by unfold midL sml.lowL;rw[List.getElem_append_right (by simp;omega)];simp[Nat.min_eq_left (Nat.le_of_lt h)]
theorem midL_set {l:List UInt8}{k:Nat}(h:k<l.length):(midL l k).set k (sml.low l[k])=midL l (k+1):=by
 unfold midL sml.lowL;have h1:((l.map sml.low).take k).length=k:=by simp;omega
 rw[List.set_append_right _ _ (by omega),h1,Nat.sub_self,List.drop_eq_getElem_cons h,List.set_cons_zero,List.take_succ_eq_append_getElem (by simpa using h),List.append_assoc];simp
theorem midL_keep {l:List UInt8}{k:Nat}(h:k<l.length)(hl:sml.low l[k]=l[k]):midL l k=midL l (k+1):=by
 rw[←midL_set h,hl];apply List.ext_getElem (by simp);intro i h1 h2;by_cases e:k=i
 ·subst e;rw[List.getElem_set_self,midL_at h]
 ·rw[List.getElem_set_ne e]
theorem lower_any (s:ByteArray)(w:World)(hs:s.size≤10000000):
    Calls Tryz.prog 135 #[.string s] w fun e w'=>e= .returned (.string (bs (sml.lowL s.data.toList)))∧Below w.heap.size w w':=by
  obtain⟨W1,cap,hrun,hrow,hB1⟩:=kt.bytes_of (P:=Tryz.prog) (src:=9) (dst:=131) (e:=5) Tryz.underlying9 Tryz.underlying131 Tryz.underlying5 w s;have HB1:=Lib.hid hB1;have HROW:=Lib.hid hrow;obtain⟨B,hB⟩: ∃B,w.heap.size=B:=⟨_,rfl⟩;rw[hB]at hrun HROW;have HBB:=Lib.hid hB;have hsl:s.data.toList.length=s.size:=kt.size_len s;have HSL:=Lib.hid hsl;clear hB1 hrow hB hsl;go_enter Tryz.func135,Tryz.ntmps135;go_wp2_with fail;go_loopw [4,5,10] (fun _ _ iv wr=> ∃k:Nat,k≤s.size∧iv= .int .i64 (k:Int)∧Hid (kt.ByteRow wr B (midL s.data.toList k))∧Hid (Below w.heap.size w wr)) (fun _ _ iv _=>s.size- (intOf iv).toNat);case atStart=>exact⟨0,Nat.zero_le _,rfl,(by show kt.ByteRow _ _ _;unfold midL;simpa using HROW.out),HB1.out⟩
  case round=>
    clear hrun;obtain⟨k,hk,rfl,hR,hB⟩:=hrel;by_cases hlt:k<s.size
    · have hlt':(k:Int)<(s.size:Int):=(by omega);have hkl:k<s.data.toList.length:=(by rw[HSL.out];exact hlt);obtain⟨c0,f0⟩:=hR.out k (by rw[midL_len];exact hkl);rw[midL_at hkl]at c0;have HSET:=Lib.hid (midL_set hkl);have HKEEP:=Lib.hid (midL_keep hkl);have hset:=fun x=>kt.byterow_set hR.out k x;generalize s.data.toList[k]=c at c0 HSET HKEEP;have hcn:=c.toNat_lt;have hlow:=sml.low_nat c;by_cases hup:65≤(c.toNat:Int)∧(c.toNat:Int)≤90
      · rw[if_pos hup]at hlow;obtain⟨u1,u2⟩:=hup;have r1:IntKind.u8.wrap ((c.toNat:Int)+32)=(c.toNat:Int)+32:=IntWalk.u8_in _ (by omega);have h2:=hset (sml.low c);rw[hlow,HSET.out]at h2;have H2:=Lib.hid h2;clear hlow hset h2;go_wp2_with fail;go_roundw;case rel=>exact⟨k+1,by omega,by go_num,H2,hB.out.setCell (p:=⟨B,k,none⟩) (by rw[HBB.out];exact Nat.le_refl _) _⟩
        case measure=>simp[intOf];omega
      · rw[if_neg hup]at hlow;have hl:sml.low c=c:=(by apply UInt8.toNat_inj.1;omega);have H2:Hid (kt.ByteRow wr B (midL s.data.toList (k+1))):=(by show kt.ByteRow _ _ _;rw[←HKEEP.out hl];exact hR.out);clear hlow hset hl;go_wp2_with fail;all_goals first
          | (go_roundw
             case rel=>exact⟨k+1,by omega,by go_num,H2,hB⟩
             case measure=>simp[intOf];omega)
          | (exfalso;simp only[decide_eq_true_eq]at*;omega)
    · obtain rfl:k=s.size:=(by omega);have hst:=kt.byterow_str (P:=Tryz.prog) (n:=s.size) (cap:=cap) Tryz.underlying131 Tryz.underlying5 Tryz.underlying9 hR.out (by rw[midL_len,HSL.out]);have hm:midL s.data.toList s.size=sml.lowL s.data.toList:=(by unfold midL sml.lowL;rw[List.take_of_length_le (by simp),List.drop_of_length_le (by simp),List.append_nil]);rw[hm]at hst;have hst2:(convert 131 9 (.slice (some ⟨B,0,none⟩) s.size cap)).run Tryz.prog wr= .ok (.string (bs (sml.lowL s.data.toList))) wr:=hst;clear hst hm;go_wp2_with fail;go_ret;exact⟨rfl,hB.out⟩
end atw
open Go.RowKit
namespace dnw
open dnp
theorem parseR_ok {l:List UInt8}{n:List (List Av)}(h:parseR l=some n):nameOK n=true:=by
 unfold parseR at h;split at h
 ·cases h;rfl
 ·split at h
  ·cases h
  ·split at h
   ·cases h;assumption
   ·cases h
def parseV (s:ByteArray):List (List Av) × Int:=if 1000<s.size then([],5)else match parseR s.data.toList with
 | none=>([],4)
 | some n=>(n,0)
theorem parseV_small (s:ByteArray):(parseV s).1.length≤12∧ ∀l∈(parseV s).1,l.length≤4:=by
 unfold parseV;split
 ·simp
 ·cases h:parseR s.data.toList with
  | none=>simp
  | some n=>have hn:=nameOK_facts (parseR_ok h);exact⟨hn.1,fun l hl=>(rdnOK_facts (hn.2 l hl)).2.1⟩
theorem parseE_V {s:ByteArray}{w:World}{e:Ending}{w':World}(h:ParseE s w e w'):Below w.heap.size w w'∧ ∃ao cap,e= .returned (.tuple #[.slice ao (parseV s).1.length cap,.int .i64 (parseV s).2])∧Rdns w' ao (parseV s).1:=by
 obtain⟨h1,h2⟩:=h;refine⟨h1,?_⟩;unfold parseV;split at h2
 ·rename_i hl;rw[if_pos hl];exact⟨none,0,h2,fun i hi=>by simp at hi⟩
 ·rename_i hl;rw[if_neg hl];cases hp:parseR s.data.toList with
  | none=>rw[hp]at h2;exact⟨none,0,h2,fun i hi=>by simp at hi⟩
  | some n=>rw[hp]at h2;obtain⟨ao,cap,h3,_,h4,_⟩:=h2;exact⟨ao,cap,h3,h4⟩
end dnw
namespace atp
open atw (bs)
def tT:List UInt8:=[84,82,85,69]
def tF:List UInt8:=[70,65,76,83,69]
def ne0 (o:Option (List UInt8)):Option (List UInt8):=match o with
 | none=>none
 | some u=>if u=[]then none else some u
theorem ne0_some {u:List UInt8}(h:u≠[]):ne0 (some u)=some u:=by unfold ne0;exact if_neg h
def joinK (l:List ByteArray):List UInt8:=(l.map (·.data.toList)).flatten
def nameK (l:List UInt8):Option (List UInt8):=match dnw.parseR l with
 | none=>none
 | some n=>some (joinK (dnw.keysB n))
def formO (syn:Int)(l:List UInt8):Option (List UInt8):=
 if syn=1 then ne0 (prp.readyO l true)else if syn=2 then ne0 (prp.readyO l false)else if syn=7 then ne0 (prp.phoneO l)
 else if syn=4 then(if numOK l=true then some l else none)
 else if syn=5 then(if l=tT∨l=tF then some l else none)
 else if syn=6 then nameK l
 else some l
def normL (syn:Int)(l:List UInt8):List UInt8 × Int:=
 if¬ (1≤syn∧syn≤7)then([],14)else if 1000<l.length then([],5)else if l=[]then([],4)else match formO syn l with
  | none=>([],4)
  | some u=>(u,0)
theorem normL_bad {syn:Int}{l:List UInt8}(h: ¬ (1≤syn∧syn≤7)):normL syn l=([],14):=by unfold normL;rw[if_pos h]
theorem normL_long {syn:Int}{l:List UInt8}(h:1≤syn∧syn≤7)(h1:1000<l.length):normL syn l=([],5):=by unfold normL;rw[if_neg (not_not_intro h),if_pos h1]
theorem normL_nil {syn:Int}{l:List UInt8}(h:1≤syn∧syn≤7)(h1:l=[]):normL syn l=([],4):=by unfold normL;rw[if_neg (not_not_intro h),if_neg (by rw[h1];simp),if_pos h1]
theorem normL_form {syn:Int}{l:List UInt8}(h:1≤syn∧syn≤7)(h1:l.length≤1000)(h2:l≠[]):normL syn l=match formO syn l with
  | none=>([],4)
  | some u=>(u,0):=by unfold normL;rw[if_neg (not_not_intro h),if_neg (by omega),if_neg h2]
theorem name_smalls {n:List (List dnw.Av)}(h:dnw.nameOK n=true): ∀l∈n,dnw.Smalls l:=by intro l hl x hx;unfold dnw.nameOK at h;rw[Bool.and_eq_true]at h;have h1:=List.all_eq_true.1 h.2 l hl;unfold dnw.rdnOK at h1;simp only[Bool.and_eq_true]at h1;obtain⟨i,hi,rfl⟩:=List.mem_iff_getElem.1 hx;have h2:=List.all_eq_true.1 h1.2 i (List.mem_range.2 hi);rw[List.getElem?_eq_getElem hi]at h2;simp only at h2;unfold dnw.pairB at h2;simp only[Bool.and_eq_true]at h2;have h3:=(dnw.typeOK_iff _).1 h2.1.2;have h4:=h2.2;unfold dnw.valOK at h4;rw[Bool.and_eq_true,decide_eq_true_eq]at h4;have e1:=h3.2.1;have e2:=h4.1;rw[kt.size_len]at e1 e2;exact⟨by omega,by omega⟩
theorem parseR_ok {l:List UInt8}{n:List (List dnw.Av)}(h:dnw.parseR l=some n):dnw.nameOK n=true:=by
 unfold dnw.parseR at h;split at h
 ·cases h;decide
 ·split at h
  ·cases h
  ·split at h
   ·cases h;assumption
   ·cases h
theorem joinK_len (n:List (List dnw.Av))(h:dnw.nameOK n=true):(joinK (dnw.keysB n)).length≤200000:=by
 have hn:n.length≤12:=by unfold dnw.nameOK at h;rw[Bool.and_eq_true,decide_eq_true_eq]at h;exact h.1
 have hl: ∀l∈n,l.length≤4:=by intro l hl;unfold dnw.nameOK at h;rw[Bool.and_eq_true]at h;have h1:=List.all_eq_true.1 h.2 l hl;unfold dnw.rdnOK at h1;simp only[Bool.and_eq_true,decide_eq_true_eq]at h1;exact h1.1.2
 have h2:=dnw.flatten_len_le 16384 ((dnw.keysB n).map (·.data.toList)) (by intro x hx;unfold dnw.keysB at hx;rw[List.map_map]at hx;obtain⟨l,hl2,rfl⟩:=List.mem_map.1 hx;have:=dnw.keyL_len l;have:=hl l (List.mem_reverse.1 hl2);show(dnw.keyL l).length≤_;omega);unfold joinK;rw[List.length_map,dnw.keysB_len]at h2;omega
end atp
open Go.RowKit
namespace atw
open atp
theorem num_eq {l:List UInt8}(h:l≠[48]):numOK l=(decide (1≤(bare l).length)&&decide ((bare l).length≤18)&&decide ((bare l).head?≠some 48)&&(bare l).all digit):=by unfold numOK;rw[decide_eq_false h,Bool.false_or]
theorem num_len {l:List UInt8}(h:l≠[48])(h1:(bare l).length=0∨18<(bare l).length):false=numOK l:=by
 rw[num_eq h];rcases h1 with h1 | h1
 ·rw[h1];rfl
 ·rw[decide_eq_false (p:=(bare l).length≤18) (by omega)];simp
theorem num_zero {l:List UInt8}(h:l≠[48])(h1:(bare l).head?=some 48):false=numOK l:=by rw[num_eq h,h1];simp
theorem num_bad {l:List UInt8}{c:UInt8}(h:l≠[48])(hc:c∈bare l)(hd: ¬ (48≤(c.toNat:Int)∧(c.toNat:Int)≤57)):false=numOK l:=by
 rw[num_eq h];have:(bare l).all digit=false:=by rw[Bool.eq_false_iff];intro e;have:=List.all_eq_true.1 e c hc;unfold digit at this;rw[decide_eq_true_iff]at this;omega
 rw[this];simp
theorem num_yes {l:List UInt8}(h:l≠[48])(h1:1≤(bare l).length)(h2:(bare l).length≤18)(h3:(bare l).head?≠some 48)(h4: ∀c∈bare l,48≤(c.toNat:Int)∧(c.toNat:Int)≤57):true=numOK l:=by rw[num_eq h,decide_eq_true h1,decide_eq_true h2,decide_eq_true h3];symm;simp only[Bool.true_and];rw[List.all_eq_true];intro c hc;have:=h4 c hc;unfold digit;rw[decide_eq_true_iff];omega
theorem ne_s {s:ByteArray}(h:0<s.size): ∃t,s.data.toList=s[0]::t:=by refine⟨s.data.toList.drop 1,?_⟩;have:=List.drop_eq_getElem_cons (l:=s.data.toList) (i:=0) (by simpa using h);rw[List.drop_zero]at this;exact this
theorem head_s {s:ByteArray}(h:0<s.size):s.data.toList.head?=some s[0]:=by obtain⟨t,ht⟩:=ne_s h;rw[ht];rfl
theorem mem_s {s:ByteArray}{k:Nat}(h:k<s.size):s[k]∈s.data.toList:=by have:s.data.toList[k]'(by simpa using h)∈s.data.toList:=List.getElem_mem _;exact this
theorem zero_s {s:ByteArray}(h0:s.size=0):s=ByteArray.empty:=by
 apply kt.str_eq;have:s.data.toList.length=0:=by simpa using h0
 rw[List.eq_nil_of_length_eq_zero this];rfl
theorem u8_of {c:UInt8}{n:Nat}(hn:n<256)(h:(c.toNat:Int)=n):c=UInt8.ofNat n:=by apply UInt8.toNat_inj.1;rw[UInt8.toNat_ofNat'];omega
end atw
open Go.RowKit
namespace atw
open atp
theorem str_ne {s:ByteArray}(h:0<s.size):s.toList.isEmpty=false∧ ¬s.toList=[]:=by rw[Lib.toList_data];obtain⟨t,ht⟩:=ne_s h;rw[ht];exact⟨rfl,by simp⟩
theorem pre_one (l:List UInt8)(c:UInt8):Lib.hasPrefix l [c]=decide (l.head?=some c):=by
 unfold Lib.hasPrefix;cases l with
 | nil=>simp[List.isPrefixOf]
 | cons d t=>simp only[List.isPrefixOf,Bool.and_true,List.head?_cons,Option.some.injEq];rw[Bool.eq_iff_iff,beq_iff_eq,decide_eq_true_iff];exact eq_comm
theorem trim_45 (l:List UInt8):Lib.trimPrefix l [45]=bare l:=by
 unfold Lib.trimPrefix bare;rw[pre_one];by_cases h:l.head?=some 45
 ·rw[if_pos (by simpa using h),if_pos h];simp
 ·rw[if_neg (by simpa using h),if_neg h]
theorem number_any (s:ByteArray)(w:World)(hs:s.size≤1100000):Calls Tryz.prog 291 #[.string s] w fun e w'=>e= .returned (.bool (numOK s.data.toList))∧w=w':=by
  obtain⟨x,hx⟩: ∃x,x=bs (bare s.data.toList):=⟨_,rfl⟩;have HBX:Hid (bare s.data.toList=x.data.toList):=by rw[hx];rfl
  have hxs:x.size≤1100000:=by
    rw[hx,bs_size];unfold bare;split
    · rw[List.length_tail,kt.size_len];omega
    · rw[kt.size_len];exact hs
  have HTP:Hid (∀w,Calls Tryz.prog 315 #[.string s,.string ⟨#[45]⟩] w fun e w'=>e= .returned (.string x)∧w=w'):=by intro w;refine(Tryz.strings_TrimPrefix s ⟨#[45]⟩ w).mono ?_;rintro e w' ⟨rfl,rfl⟩;refine⟨?_,rfl⟩;rw[hx];show Ending.returned (.string (bs (Lib.trimPrefix s.data.toList [45])))=_;rw[trim_45]
  clear hx;by_cases h0:s.data.toList=[48]
  · have hne:=trivial;have hbx:bare s.data.toList=x.data.toList:=HBX.out;have hxs1:x.data.toList=[48]:=(by rw[←hbx,h0];rfl);have hx1s:x.size=1:=(by rw[←kt.size_len,hxs1];rfl);have hxp:0<x.size:=(by omega);obtain⟨xe1,xe2⟩:=str_ne hxp;have hxpI:(0:Int)<(x.size:Int):=(by omega);have hx1:decide ((18:Int)<(x.size:Int))=false:=(by rw[decide_eq_false_iff_not];omega);obtain⟨c0,hc0⟩: ∃c,x[0]'hxp=c:=⟨_,rfl⟩;have hc48:c0=48:=(by have:=head_s hxp;rw[hxs1,hc0]at this;simpa using this.symm);have q:((c0.toNat:Int)==48)=true:=(by rw[hc48];rfl);have q0:(s.toList==[48])=true:=(by rw[Lib.toList_data,h0];rfl);have HNY:Hid (true=numOK s.data.toList):=(by rw[h0];exact(by decide:true=numOK [48]));have HB:Hid (∀k (hk:k<x.size),¬ (48≤(x[k].toNat:Int)∧(x[k].toNat:Int)≤57)→false=numOK s.data.toList):=(by intro k hk h;exfalso;obtain rfl:k=0:=(by omega);rw[hc0,hc48]at h;exact h (by decide));have HY:Hid ((∀k (hk:k<x.size),48≤(x[k].toNat:Int)∧(x[k].toNat:Int)≤57)→true=numOK s.data.toList):=fun _=>HNY.out;have hxs9:=Lib.hid hx1s;clear h0 hxs1 hx1s hc48 hbx hne;go_enter Tryz.func291,Tryz.ntmps291;go_wp2_with fail;refine(HTP.out _).mono ?_;rintro e w1 ⟨rfl,rfl⟩;go_wp2_with fail;go_loop [4,25] (fun _ iv=> ∃k:Nat,k≤x.size∧iv= .int .i64 (k:Int)∧Hid (∀j (hj:j<x.size),j<k→48≤(x[j].toNat:Int)∧(x[j].toNat:Int)≤57)) (fun _ iv=>x.size- (intOf iv).toNat);case atStart=>exact⟨0,Nat.zero_le _,rfl,fun j hj h=>by omega⟩
    case round=>
      obtain⟨k,hk,rfl,hA⟩:=hrel;by_cases hlt:k<x.size
      · have hlt':(k:Int)<(x.size:Int):=(by omega);have HA:Hid (48≤((x[k]'hlt).toNat:Int)∧((x[k]'hlt).toNat:Int)≤57→ ∀j (hj:j<x.size),j<k+1→48≤(x[j].toNat:Int)∧(x[j].toNat:Int)≤57):=by
          intro ht j hj h;by_cases e:j=k
          · subst e;exact ht
          · exact hA.out j hj (by omega)
        have HN:=Lib.hid (HB.out k hlt);clear hc0;obtain⟨c,hc⟩: ∃c,x[k]'hlt=c:=⟨_,rfl⟩;rw[hc]at HA HN;have hcn:=c.toNat_lt;go_wp2_with fail;all_goals first
          | (go_ret;exact⟨kt.ret_bool (HN.out (by omega)),rfl⟩)
          | (go_round
             case rel=>exact⟨k+1,by omega,by go_num,HA.out (by omega)⟩
             case measure=>simp[intOf];omega)
          | (exfalso;simp only[Bool.not_eq_true',Bool.not_eq_false',Bool.or_eq_true,Bool.and_eq_true,Bool.or_eq_false_iff,Bool.and_eq_false_iff,decide_eq_true_eq,decide_eq_false_iff_not,beq_iff_eq,bne_iff_ne,bne_eq_false_iff_eq,beq_eq_false_iff_ne,ne_eq,Classical.not_not]at*;omega)
      · obtain rfl:k=x.size:=(by omega);have HE:=Lib.hid (HY.out (fun j hj=>hA.out j hj hj));clear hc0;go_wp2_with fail;go_ret;exact⟨kt.ret_bool HE.out,rfl⟩
  · have hne:=h0;have hbx:bare s.data.toList=x.data.toList:=HBX.out;have q0:(s.toList==[48])=false:=(by rw[Lib.toList_data];simpa using h0);clear h0;by_cases hx0:x.size=0
    · have HF:=Lib.hid (num_len hne (Or.inl (by rw[hbx,kt.size_len];exact hx0)));have hx1:x.toList=[]:=(by rw[zero_s hx0,Lib.toList_data];rfl);clear hx0 hbx hne;go_enter Tryz.func291,Tryz.ntmps291;go_wp2_with fail;refine(HTP.out _).mono ?_;rintro e w1 ⟨rfl,rfl⟩;go_wp2_with fail;go_ret;exact⟨kt.ret_bool HF.out,rfl⟩
    by_cases hx18:18<x.size
    · have HF:=Lib.hid (num_len hne (Or.inr (by rw[hbx,kt.size_len];exact hx18)));have hx1:(18:Int)<(x.size:Int):=(by omega);obtain⟨xe1,xe2⟩:=str_ne (s:=x) (by omega);clear hx0 hx18 hbx hne;go_enter Tryz.func291,Tryz.ntmps291;go_wp2_with fail;refine(HTP.out _).mono ?_;rintro e w1 ⟨rfl,rfl⟩;go_wp2_with fail;go_ret;exact⟨kt.ret_bool HF.out,rfl⟩
    have hxp:0<x.size:=(by omega);obtain⟨xe1,xe2⟩:=str_ne hxp;have hxpI:(0:Int)<(x.size:Int):=(by omega);have hx1:decide ((18:Int)<(x.size:Int))=false:=(by rw[decide_eq_false_iff_not];omega);have hx2:decide ((x.size:Int)<1)=false:=(by rw[decide_eq_false_iff_not];omega);obtain⟨c0,hc0⟩: ∃c,x[0]'hxp=c:=⟨_,rfl⟩;by_cases h48:(c0.toNat:Int)=48
    · have HF:=Lib.hid (num_zero hne (by rw[hbx,head_s hxp,hc0,u8_of (n:=48) (by omega) h48];rfl));have q:((c0.toNat:Int)==48)=true:=(by rw[beq_iff_eq];exact h48);clear hx0 hx18 hbx hne h48;go_enter Tryz.func291,Tryz.ntmps291;go_wp2_with fail;refine(HTP.out _).mono ?_;rintro e w1 ⟨rfl,rfl⟩;go_wp2_with fail;go_ret;exact⟨kt.ret_bool HF.out,rfl⟩
    have q:((c0.toNat:Int)==48)=false:=(by rw[beq_eq_false_iff_ne];exact h48);have HB:Hid (∀k (hk:k<x.size),¬ (48≤(x[k].toNat:Int)∧(x[k].toNat:Int)≤57)→false=numOK s.data.toList):=fun k hk h=>num_bad hne (by rw[hbx];exact mem_s hk) h;have HY:Hid ((∀k (hk:k<x.size),48≤(x[k].toNat:Int)∧(x[k].toNat:Int)≤57)→true=numOK s.data.toList):=(by intro h;refine num_yes hne (by rw[hbx,kt.size_len];omega) (by rw[hbx,kt.size_len];omega) (by rw[hbx,head_s hxp,hc0];intro e;apply h48;rw[Option.some.injEq]at e;rw[e];rfl) ?_;intro c hc;rw[hbx]at hc;obtain⟨k,hk,rfl⟩:=List.mem_iff_getElem.1 hc;exact h k (by simpa using hk));clear hx0 hx18 hbx hne h48;go_enter Tryz.func291,Tryz.ntmps291;go_wp2_with fail;refine(HTP.out _).mono ?_;rintro e w1 ⟨rfl,rfl⟩;go_wp2_with fail;go_loop [4,25] (fun _ iv=> ∃k:Nat,k≤x.size∧iv= .int .i64 (k:Int)∧Hid (∀j (hj:j<x.size),j<k→48≤(x[j].toNat:Int)∧(x[j].toNat:Int)≤57)) (fun _ iv=>x.size- (intOf iv).toNat);case atStart=>exact⟨0,Nat.zero_le _,rfl,fun j hj h=>by omega⟩
    case round=>
      obtain⟨k,hk,rfl,hA⟩:=hrel;by_cases hlt:k<x.size
      · have hlt':(k:Int)<(x.size:Int):=(by omega);have HA:Hid (48≤((x[k]'hlt).toNat:Int)∧((x[k]'hlt).toNat:Int)≤57→ ∀j (hj:j<x.size),j<k+1→48≤(x[j].toNat:Int)∧(x[j].toNat:Int)≤57):=by
          intro ht j hj h;by_cases e:j=k
          · subst e;exact ht
          · exact hA.out j hj (by omega)
        have HN:=Lib.hid (HB.out k hlt);clear hc0;obtain⟨c,hc⟩: ∃c,x[k]'hlt=c:=⟨_,rfl⟩;rw[hc]at HA HN;have hcn:=c.toNat_lt;go_wp2_with fail;all_goals first
          | (go_ret;exact⟨kt.ret_bool (HN.out (by omega)),rfl⟩)
          | (go_round
             case rel=>exact⟨k+1,by omega,by go_num,HA.out (by omega)⟩
             case measure=>simp[intOf];omega)
          | (exfalso;simp only[Bool.not_eq_true',Bool.not_eq_false',Bool.or_eq_true,Bool.and_eq_true,Bool.or_eq_false_iff,Bool.and_eq_false_iff,decide_eq_true_eq,decide_eq_false_iff_not,beq_iff_eq,bne_iff_ne,bne_eq_false_iff_eq,beq_eq_false_iff_ne,ne_eq,Classical.not_not]at*;omega)
      · obtain rfl:k=x.size:=(by omega);have HE:=Lib.hid (HY.out (fun j hj=>hA.out j hj hj));clear hc0;go_wp2_with fail;go_ret;exact⟨kt.ret_bool HE.out,rfl⟩
end atw
open Go.RowKit
namespace atw
open atp
def tval (t:Ty):List Value:=[.string (bs t.name),.int .i64 t.syn,.bool t.single]
def tcells:List Value:=tys.flatMap tval
def TyEnv (w:World):Prop:=w.rangeAt 0 0 tcells
theorem tyEnv_below {w w':World}(h:TyEnv w)(hb:Below w.heap.size w w'):TyEnv w':=fun j u hj=>(hb.cell (World.block_lt_of_cell? w _ (h j u hj))).trans (h j u hj)
theorem tinfo:(Tryz.prog.info? 169).map (·.size)=some tcells.length:=by kernel_rfl
theorem tix0 (w:World):(Instr.index 169 (.agg tcells.toArray) (.int .i64 (0:Nat))).run Tryz.prog w= .ok (.agg (tval (tys[0]'(by decide))).toArray) w:=by kernel_rfl
theorem tix1 (w:World):(Instr.index 169 (.agg tcells.toArray) (.int .i64 (1:Nat))).run Tryz.prog w= .ok (.agg (tval (tys[1]'(by decide))).toArray) w:=by kernel_rfl
theorem tix2 (w:World):(Instr.index 169 (.agg tcells.toArray) (.int .i64 (2:Nat))).run Tryz.prog w= .ok (.agg (tval (tys[2]'(by decide))).toArray) w:=by kernel_rfl
theorem tix3 (w:World):(Instr.index 169 (.agg tcells.toArray) (.int .i64 (3:Nat))).run Tryz.prog w= .ok (.agg (tval (tys[3]'(by decide))).toArray) w:=by kernel_rfl
theorem tix4 (w:World):(Instr.index 169 (.agg tcells.toArray) (.int .i64 (4:Nat))).run Tryz.prog w= .ok (.agg (tval (tys[4]'(by decide))).toArray) w:=by kernel_rfl
theorem tix5 (w:World):(Instr.index 169 (.agg tcells.toArray) (.int .i64 (5:Nat))).run Tryz.prog w= .ok (.agg (tval (tys[5]'(by decide))).toArray) w:=by kernel_rfl
theorem tix6 (w:World):(Instr.index 169 (.agg tcells.toArray) (.int .i64 (6:Nat))).run Tryz.prog w= .ok (.agg (tval (tys[6]'(by decide))).toArray) w:=by kernel_rfl
theorem tix7 (w:World):(Instr.index 169 (.agg tcells.toArray) (.int .i64 (7:Nat))).run Tryz.prog w= .ok (.agg (tval (tys[7]'(by decide))).toArray) w:=by kernel_rfl
theorem tix8 (w:World):(Instr.index 169 (.agg tcells.toArray) (.int .i64 (8:Nat))).run Tryz.prog w= .ok (.agg (tval (tys[8]'(by decide))).toArray) w:=by kernel_rfl
theorem tix9 (w:World):(Instr.index 169 (.agg tcells.toArray) (.int .i64 (9:Nat))).run Tryz.prog w= .ok (.agg (tval (tys[9]'(by decide))).toArray) w:=by kernel_rfl
theorem tix10 (w:World):(Instr.index 169 (.agg tcells.toArray) (.int .i64 (10:Nat))).run Tryz.prog w= .ok (.agg (tval (tys[10]'(by decide))).toArray) w:=by kernel_rfl
theorem tix11 (w:World):(Instr.index 169 (.agg tcells.toArray) (.int .i64 (11:Nat))).run Tryz.prog w= .ok (.agg (tval (tys[11]'(by decide))).toArray) w:=by kernel_rfl
theorem tix12 (w:World):(Instr.index 169 (.agg tcells.toArray) (.int .i64 (12:Nat))).run Tryz.prog w= .ok (.agg (tval (tys[12]'(by decide))).toArray) w:=by kernel_rfl
theorem tix13 (w:World):(Instr.index 169 (.agg tcells.toArray) (.int .i64 (13:Nat))).run Tryz.prog w= .ok (.agg (tval (tys[13]'(by decide))).toArray) w:=by kernel_rfl
theorem tix14 (w:World):(Instr.index 169 (.agg tcells.toArray) (.int .i64 (14:Nat))).run Tryz.prog w= .ok (.agg (tval (tys[14]'(by decide))).toArray) w:=by kernel_rfl
theorem tix15 (w:World):(Instr.index 169 (.agg tcells.toArray) (.int .i64 (15:Nat))).run Tryz.prog w= .ok (.agg (tval (tys[15]'(by decide))).toArray) w:=by kernel_rfl
theorem tix16 (w:World):(Instr.index 169 (.agg tcells.toArray) (.int .i64 (16:Nat))).run Tryz.prog w= .ok (.agg (tval (tys[16]'(by decide))).toArray) w:=by kernel_rfl
theorem tix17 (w:World):(Instr.index 169 (.agg tcells.toArray) (.int .i64 (17:Nat))).run Tryz.prog w= .ok (.agg (tval (tys[17]'(by decide))).toArray) w:=by kernel_rfl
theorem tix18 (w:World):(Instr.index 169 (.agg tcells.toArray) (.int .i64 (18:Nat))).run Tryz.prog w= .ok (.agg (tval (tys[18]'(by decide))).toArray) w:=by kernel_rfl
theorem tix19 (w:World):(Instr.index 169 (.agg tcells.toArray) (.int .i64 (19:Nat))).run Tryz.prog w= .ok (.agg (tval (tys[19]'(by decide))).toArray) w:=by kernel_rfl
theorem tix (i:Nat)(hi:i<20)(w:World):(Instr.index 169 (.agg tcells.toArray) (.int .i64 (i:Int))).run Tryz.prog w= .ok (.agg (tval (tys[i]'hi)).toArray) w:=by
 match i,hi with
 | 0,_=>exact tix0 w
 | 1,_=>exact tix1 w
 | 2,_=>exact tix2 w
 | 3,_=>exact tix3 w
 | 4,_=>exact tix4 w
 | 5,_=>exact tix5 w
 | 6,_=>exact tix6 w
 | 7,_=>exact tix7 w
 | 8,_=>exact tix8 w
 | 9,_=>exact tix9 w
 | 10,_=>exact tix10 w
 | 11,_=>exact tix11 w
 | 12,_=>exact tix12 w
 | 13,_=>exact tix13 w
 | 14,_=>exact tix14 w
 | 15,_=>exact tix15 w
 | 16,_=>exact tix16 w
 | 17,_=>exact tix17 w
 | 18,_=>exact tix18 w
 | 19,_=>exact tix19 w
 | n+20,h=>exact absurd h (by omega)
def resT:Option Ty→Value
 | some t=> .tuple #[.agg #[.string (bs t.name),.int .i64 t.syn,.bool t.single],.bool true]
 | none=> .tuple #[.agg #[.string ⟨#[]⟩,.int .i64 0,.bool false],.bool false]
def AC (w:World)(p:Nat):Prop:= ∃x i b,w.heap[p]? =some (.cells #[.string x,.int .i64 i,.bool b] 108 (0,0))
theorem ac_lt {w:World}{p:Nat}(h:AC w p):p<w.heap.size:=by obtain⟨x,i,b,h⟩:=h;exact kt.bld_lt h
theorem ac_below {w w':World}{p:Nat}(h:AC w p)(hb:Below w.heap.size w w'):AC w' p:=by have hlt:=ac_lt h;obtain⟨x,i,b,h⟩:=h;exact⟨x,i,b,(hb.block p hlt).trans h⟩
theorem ac_cells {w:World}{p:Nat}(h:AC w p):(∃x,w.cell? ⟨p,0,none⟩=some (.string x))∧(∃i,w.cell? ⟨p,1,none⟩=some (.int .i64 i))∧(∃b,w.cell? ⟨p,2,none⟩=some (.bool b))∧w.frozen? ⟨p,0,none⟩=false∧w.frozen? ⟨p,1,none⟩=false∧w.frozen? ⟨p,2,none⟩=false:=by obtain⟨x,i,b,h⟩:=h;exact⟨⟨x,by rw[Lib.cell_of_heap h];rfl⟩,⟨i,by rw[Lib.cell_of_heap h];rfl⟩,⟨b,by rw[Lib.cell_of_heap h];rfl⟩,Lib.frozen_of_heap h 0,Lib.frozen_of_heap h 1,Lib.frozen_of_heap h 2⟩
theorem ac_new (w:World)(x:ByteArray)(i:Int)(b:Bool):AC (w.alloc (.cells #[.string x,.int .i64 i,.bool b] 108)) w.heap.size:=⟨x,i,b,heap_alloc_new w _⟩
theorem ac_store {w:World}{p:Nat}(h:AC w p)(a b c:Value):(((w.setCell ⟨p,0,none⟩ a).setCell ⟨p,1,none⟩ b).setCell ⟨p,2,none⟩ c).cell? ⟨p,0,none⟩=some a∧(((w.setCell ⟨p,0,none⟩ a).setCell ⟨p,1,none⟩ b).setCell ⟨p,2,none⟩ c).cell? ⟨p,1,none⟩=some b∧(((w.setCell ⟨p,0,none⟩ a).setCell ⟨p,1,none⟩ b).setCell ⟨p,2,none⟩ c).cell? ⟨p,2,none⟩=some c:=by
 obtain⟨⟨x,h0⟩,⟨y,h1⟩,⟨z,h2⟩,_⟩:=ac_cells h;have n01:(⟨p,0,none⟩:Addr)≠⟨p,1,none⟩:=by intro hh;injection hh with _ h _;cases h
 have n02:(⟨p,0,none⟩:Addr)≠⟨p,2,none⟩:=by intro hh;injection hh with _ h _;cases h
 have n12:(⟨p,1,none⟩:Addr)≠⟨p,2,none⟩:=by intro hh;injection hh with _ h _;cases h
 have k0:=World.cell?_setCell_same w ⟨p,0,none⟩ a h0;have k1:(w.setCell ⟨p,0,none⟩ a).cell? ⟨p,1,none⟩=some (.int .i64 y):=by rw[World.cell?_setCell_other _ _ _ _ n01,h1]
 have k2:(w.setCell ⟨p,0,none⟩ a).cell? ⟨p,2,none⟩=some (.bool z):=by rw[World.cell?_setCell_other _ _ _ _ n02,h2]
 have m1:=World.cell?_setCell_same _ ⟨p,1,none⟩ b k1;have m0:((w.setCell ⟨p,0,none⟩ a).setCell ⟨p,1,none⟩ b).cell? ⟨p,0,none⟩=some a:=by rw[World.cell?_setCell_other _ _ _ _ n01.symm,k0]
 have m2:((w.setCell ⟨p,0,none⟩ a).setCell ⟨p,1,none⟩ b).cell? ⟨p,2,none⟩=some (.bool z):=by rw[World.cell?_setCell_other _ _ _ _ n12,k2]
 refine⟨?_,?_,World.cell?_setCell_same _ _ _ m2⟩
 ·rw[World.cell?_setCell_other _ _ _ _ n02.symm,m0]
 ·rw[World.cell?_setCell_other _ _ _ _ n12.symm,m1]
theorem below_put3 {B:Nat}{w w':World}(h:Below B w w'){p:Nat}(hp:B≤p)(a b c:Value):Below B w (((w'.setCell ⟨p,0,none⟩ a).setCell ⟨p,1,none⟩ b).setCell ⟨p,2,none⟩ c):=((h.setCell (p:=⟨p,0,none⟩) hp a).setCell (p:=⟨p,1,none⟩) hp b).setCell (p:=⟨p,2,none⟩) hp c
theorem bs_beq (a b:List UInt8):((bs a).toList==(bs b).toList)=decide (a=b):=by rw[Lib.toList_data,Lib.toList_data,bs_data,bs_data,Bool.eq_iff_iff,beq_iff_eq,decide_eq_true_iff]
theorem find_any (s:ByteArray)(w:World)(hs:s.size≤10000000)(hE:Hid (TyEnv w)):
  Calls Tryz.prog 74 #[.string s] w fun e w'=>e= .returned (resT (findS (sml.lowL s.data.toList)))∧Below w.heap.size w w':=by
 obtain⟨n,hn⟩: ∃n,n=sml.lowL s.data.toList:=⟨_,rfl⟩;have HL:Hid (∀w,Calls Tryz.prog 135 #[.string s] w fun e w'=>e= .returned (.string (bs n))∧Below w.heap.size w w'):=fun w=>by rw[hn];exact lower_any s w hs
 rw[←hn];clear hn;obtain⟨cs,hcs⟩: ∃cs:List Value,Hid (cs=tcells):=⟨_,rfl⟩;have HIX:Hid (∀ (i:Nat) (hi:i<20) w,(Instr.index 169 (.agg cs.toArray) (.int .i64 (i:Int))).run Tryz.prog w= .ok (.agg #[.string (bs (tys[i]'hi).name),.int .i64 (tys[i]'hi).syn,.bool (tys[i]'hi).single]) w):=by rw[hcs.out];exact tix
 have HPC0:=Lib.hid (ac_new w ByteArray.empty 0 false);have HTI:Hid ((Tryz.prog.info? 169).map (·.size)=some cs.length):=by rw[hcs.out];exact tinfo
 have HTE:Hid (∀w',Below w.heap.size w w'→w'.rangeAt 0 0 cs):=by rw[hcs.out];exact fun w' h=>tyEnv_below hE.out h
 clear hcs;go_enter Tryz.func74,Tryz.ntmps74;go_wp2_with fail;refine(HL.out _).mono ?_;rintro e w1 ⟨rfl,hB1⟩;have HPC1:=Lib.hid (ac_below HPC0.out hB1);have HB1:Hid (Below w.heap.size w w1):=((Below.refl _ w).alloc (Nat.le_refl _) _).trans (hB1.mono (by simp));have hw1:w.heap.size<w1.heap.size:=ac_lt HPC1.out;have hr:=HTE.out w1 HB1.out;clear hB1;go_wp2_with (refine wpList_load_mid rfl 169 _ rfl 0 0 rfl cs _ hr Tryz.underlying169 rfl HTI.out ?_);clear hr;go_loopw [9] (fun iv wr=> ∃i:Nat,i≤20∧iv= .int .i64 (i:Int)∧Hid (∀j (hj:j<tys.length),j<i→tys[j].name≠n)∧Hid (AC wr w.heap.size)∧Hid (Below w.heap.size w wr)) (fun iv _=>20- (intOf iv).toNat);case atStart=>exact⟨0,by omega,rfl,fun j hj h=>by omega,HPC1,HB1⟩
 case round=>
  obtain⟨i,hi,rfl,hN,hA,hB⟩:=hrel;have hwr:w.heap.size<wr.heap.size:=ac_lt hA.out;by_cases hlt:i<20
  ·have hlt':(i:Int)<20:=(by omega);have hix:=HIX.out i hlt;have HS:=Lib.hid (findS_at i hlt);have HNX:Hid ((tys[i]'hlt).name≠n→ ∀j (hj:j<tys.length),j<i+1→tys[j].name≠n):=by
    intro h j hj hji;by_cases e:j=i
    ·subst e;exact h
    ·exact hN.out j hj (by omega)
   generalize(tys[i]'hlt)=t at hix HS HNX;have hbeq:=bs_beq t.name n;have HAX:Hid (AC (wr.alloc (.cells #[.string (bs t.name),.int .i64 t.syn,.bool t.single] 108)) w.heap.size):=ac_below hA.out ((Below.refl _ _).alloc (Nat.le_refl _) _);have HBX:Hid (Below w.heap.size w (wr.alloc (.cells #[.string (bs t.name),.int .i64 t.syn,.bool t.single] 108))):=hB.out.alloc (by omega) _;by_cases htn:t.name=n
   ·have hbeq2:((bs t.name).toList==(bs n).toList)=true:=(by rw[hbeq];exact decide_eq_true htn);have HF:Hid (findS n=some t):=(by rw[←htn];exact HS.out);obtain⟨W,hW⟩: ∃W,wr.alloc (.cells #[.string (bs t.name),.int .i64 t.syn,.bool t.single] 108)=W:=⟨_,rfl⟩;rw[hW]at HAX HBX;have k0:W.cell? ⟨wr.heap.size,0,none⟩=some (.string (bs t.name)):=(by rw[←hW,World.cell?_alloc_new];rfl);have k1:W.cell? ⟨wr.heap.size,1,none⟩=some (.int .i64 t.syn):=(by rw[←hW,World.cell?_alloc_new];rfl);have k2:W.cell? ⟨wr.heap.size,2,none⟩=some (.bool t.single):=(by rw[←hW,World.cell?_alloc_new];rfl);obtain⟨⟨x0,c0⟩,⟨y0,c1⟩,⟨z0,c2⟩,f0,f1,f2⟩:=ac_cells HAX.out;obtain⟨e0,e1,e2⟩:=ac_store HAX.out (.string (bs t.name)) (.int .i64 t.syn) (.bool t.single);clear hbeq htn;go_wp2_with fail
    (try simp only[Exit.inBlock,Exit.then])
    refine bodyPost_ret (v:= .tuple #[.agg #[.string (bs t.name),.int .i64 t.syn,.bool t.single],.bool true]) (by rw[results_cell_tmp rfl];go_simp) rfl ?_;exact⟨by rw[HF.out];rfl,below_put3 HBX.out (Nat.le_refl _) _ _ _⟩
   ·have hbeq2:((bs t.name).toList==(bs n).toList)=false:=(by rw[hbeq];exact decide_eq_false htn);have HN2:=Lib.hid (HNX.out htn);clear hbeq htn;go_wp2_with fail;go_roundw;case rel=>exact⟨i+1,by omega,by go_num,HN2,HAX,HBX⟩
    case measure=>simp[intOf];omega
  ·obtain rfl:i=20:=(by omega);have HF:Hid (findS n=none):=findS_not (fun j hj=>hN.out j hj hj);obtain⟨⟨x0,c0⟩,⟨y0,c1⟩,⟨z0,c2⟩,f0,f1,f2⟩:=ac_cells hA.out;obtain⟨e0,e1,e2⟩:=ac_store hA.out (.string ⟨#[]⟩) (.int .i64 0) (.bool false);go_wp2_with fail
   (try simp only[Exit.inBlock,Exit.then])
   refine bodyPost_ret (v:= .tuple #[.agg #[.string ⟨#[]⟩,.int .i64 0,.bool false],.bool false]) (by rw[results_cell_tmp rfl];go_simp) rfl ?_;exact⟨by rw[HF.out];rfl,below_put3 hB.out (Nat.le_refl _) _ _ _⟩
end atw
open Go.RowKit
namespace prw
open run prp
theorem replaceAll_len (c:UInt8)(l:List UInt8):(Lib.replaceAll l [c] []).length≤l.length:=by rw[replaceAll_filter];exact List.length_filter_le _ _
theorem phone_any (s:ByteArray)(w:World)(hs:s.size≤1100000)(hE:Hid (Env w)):Calls Tryz.prog 290 #[.string s] w fun e w'=>e= .returned (pairV (phoneO s.data.toList))∧Below w.heap.size w w':=by
 have CR:=ready_any s true w hs hE;have HM:=Lib.hid (phoneO_of_ready s.data.toList);cases hrs:readyO s.data.toList true with
 | none=>rw[hrs]at CR HM;have CH:=Lib.hid CR;clear hrs CR;go_enter Tryz.func290,Tryz.ntmps290;go_wp2_with fail;refine CH.out.mono ?_;rintro e w1 ⟨rfl,hB1⟩;unfold pairV;go_wp2_with fail;go_ret2;refine⟨?_,hB1⟩;rw[HM.out];rfl
 | some t=>
  have htl:=readyO_len hrs;rw[kt.size_len]at htl;rw[hrs]at CR HM;obtain⟨ta,hta⟩: ∃ta:ByteArray,ta=⟨t.toArray⟩:=⟨_,rfl⟩;have htd:ta.data.toList=t:=by rw[hta]
  rw[pairV_some,←hta]at CR;have CH:=Lib.hid CR;have hl1:=replaceAll_len 32 t;have hts:ta.size≤1100000:=by rw[←kt.size_len,htd];omega
  have CS1:Hid (∀ (W:World) (m:Int),W.cell? ⟨1,0,none⟩=some (.int .i64 m)→Calls Tryz.prog 284 #[.string ta,.string ⟨#[32]⟩,.string ⟨#[]⟩] W fun e w'=>e= .returned (.string ⟨(Lib.replaceAll t [32] []).toArray⟩)∧Below W.heap.size W w'):=by intro W m hm;have:=Tryz.strings_ReplaceAll ta ⟨#[32]⟩ ⟨#[]⟩ m W (by omega) hm (by decide) (by show ta.size+_*0≤_;omega);rw[htd]at this;exact this
  have CS2:Hid (∀ (W:World) (m:Int),W.cell? ⟨1,0,none⟩=some (.int .i64 m)→Calls Tryz.prog 284 #[.string ⟨(Lib.replaceAll t [32] []).toArray⟩,.string ⟨#[45]⟩,.string ⟨#[]⟩] W fun e w'=>e= .returned (.string ⟨(Lib.replaceAll (Lib.replaceAll t [32] []) [45] []).toArray⟩)∧Below W.heap.size W w'):=by intro W m hm;have hz:(⟨(Lib.replaceAll t [32] []).toArray⟩:ByteArray).size≤1100000:=(by rw[←kt.size_len];show(Lib.replaceAll t [32] []).length≤_;omega);exact Tryz.strings_ReplaceAll ⟨(Lib.replaceAll t [32] []).toArray⟩ ⟨#[45]⟩ ⟨#[]⟩ m W (by omega) hm (by decide) (by show _+_*0≤_;omega)
  clear hrs CR htd hl1 hts htl hta;generalize(⟨(Lib.replaceAll t [32] []).toArray⟩:ByteArray)=t1 at CS1 CS2;go_enter Tryz.func290,Tryz.ntmps290;go_wp2_with fail;refine CH.out.mono ?_;rintro e w1 ⟨rfl,hB1⟩;have hE1:=env_below hE.out hB1;obtain⟨m1,hm1⟩:=hE1;have C1:=Lib.hid (CS1.out w1 m1 hm1);clear hm1;go_wp2_with fail;refine C1.out.mono ?_;rintro e w2 ⟨rfl,hB2⟩;have hB12:=hB1.trans (hB2.mono hB1.size);have hE2:=env_below hE.out hB12;obtain⟨m2,hm2⟩:=hE2;have C2:=Lib.hid (CS2.out w2 m2 hm2);clear hm2;go_wp2_with fail;refine C2.out.mono ?_;rintro e w3 ⟨rfl,hB3⟩;go_wp2_with fail;go_ret2;refine⟨?_,hB12.trans (hB3.mono hB12.size)⟩;rw[HM.out];rfl
end prw
end Go.Proofs.YtmnpfkbjpeaemaaGreatDoor
