/- One text out of several: FtG, FilQ, EntK, FilK, LikeW, RValW, DKeyW. -/
import Derived.Test.YtmnpfkbjpeaemaaGreatDoorT6
import Derived.Test.YtmnpfkbjpeaemaaGreatDoorT8
import Derived.Test.YtmnpfkbjpeaemaaGreatDoorT7
import Derived.Test.YtmnpfkbjpeaemaaGreatDoorT2
import Derived.Test.YtmnpfkbjpeaemaaGreatDoorT5
set_option linter.unusedVariables false
set_option linter.unusedSimpArgs false
set_option maxRecDepth 20000
set_option maxHeartbeats 8000000
namespace Go.Proofs.YtmnpfkbjpeaemaaGreatDoor
open Go.RowKit
namespace ftw
open ftp
open etw (tk tu)
open b64p (valI)
theorem row_same {w w':World}{B:Nat}{e:TypeId}{sz:Nat}{v:Value}{n:Nat}{xs:List Value}(h:w.ownsRow B e sz v n xs)(hb: ∀k,v.ownBlock=some k→w'.heap[k]? =w.heap[k]?):w'.ownsRow B e sz v n xs:=by
 refine⟨h.1,?_⟩;rcases h.2 with h0 | ⟨g,cap,cur,hv,hBg,hg,h1,h2,h3,h4⟩
 ·exact Or.inl h0
 ·exact Or.inr ⟨g,cap,cur,hv,hBg,(hb g (by rw[hv];rfl)).trans hg,h1,h2,h3,h4⟩
theorem ownT_off {w w':World}{B p:Nat}{v:Value}{l:List ByteArray}(h:prw.OwnT w B v l)(hp:p<B)(ho:Off p w w'):prw.OwnT w' B v l:=by have h2:w.ownsRow B 9 1 v (prw.scells l).length (prw.scells l):=h;exact row_same h2 fun k hk=>ho.block k (h2.lt k hk).2 (by have:=(h2.lt k hk).1;omega)
theorem ownT_sc {w:World}{B p i:Nat}{v u:Value}{l:List ByteArray}(h:prw.OwnT w B v l)(hp:p<B):prw.OwnT (w.setCell ⟨p,i,none⟩ u) B v l:=ownT_off h hp (off_set _ _ _ _)
theorem sc_other {w:World}{p k g i:Nat}{s:ByteArray}{u:Value}(h:ScB w p s k)(hg:p≠g):ScB (w.setCell ⟨g,i,none⟩ u) p s k:=(Below.heap_setCell _ _ _ _ hg).trans h
theorem ownT_last {w:World}{B n cap:Nat}{ao:Option Addr}{l:List ByteArray}(h:prw.OwnT w B (.slice ao n cap) l)(hn:n=l.length)(j:Nat)(hj:j<l.length): ∃g,ao=some ⟨g,0,none⟩∧B≤g∧n≤cap∧w.cell? ⟨g,j,none⟩=some (.string l[j])∧w.frozen? ⟨g,j,none⟩=false:=by
 have h2:w.ownsRow B 9 1 (.slice ao n cap) n (prw.scells l):=by have:=h;unfold prw.OwnT at this;rw[prw.scells_length,←hn]at this;exact this
 obtain⟨g,rfl,hc,hB⟩:=kt.row_some h2 (by omega);obtain⟨ao',cap',hv,hcc,_⟩:=prw.ownT_cells h;simp only[Value.slice.injEq]at hv;refine⟨g,rfl,hB,by omega,hc j _ (by simp[prw.scells,hj]),?_⟩;exact h2.frozenAt j
theorem ownT_put {w:World}{B n cap g:Nat}{l:List ByteArray}(h:prw.OwnT w B (.slice (some ⟨g,0,none⟩) n cap) l)(j:Nat)(x:ByteArray):prw.OwnT (w.setCell ⟨g,j,none⟩ (.string x)) B (.slice (some ⟨g,0,none⟩) n cap) (l.set j x):=by
 unfold prw.OwnT at h ⊢;rw[prw.scells_length]at h ⊢;obtain⟨ao',cap',hv,hcc,_⟩:=prw.ownT_cells (show prw.OwnT w B (.slice (some ⟨g,0,none⟩) n cap) l by unfold prw.OwnT;rw[prw.scells_length];exact h);simp only[Value.slice.injEq]at hv;rw[List.length_set];have e:prw.scells (l.set j x)=(prw.scells l).set j (.string x):=by unfold prw.scells;rw[List.map_set]
 rw[e];obtain⟨_,rfl,rfl⟩:=hv;exact(h.stored j (.string x)).1
theorem ownT_one (w:World)(x:ByteArray):prw.OwnT (w.alloc (.cells #[.string x] 9)) w.heap.size (.slice (some ⟨w.heap.size,0,none⟩) 1 1) [x]:=⟨rfl,Or.inr ⟨w.heap.size,1,#[.string x],rfl,Nat.le_refl _,heap_alloc_new w _,Nat.le_refl _,by unfold maxLen;omega,rfl,rfl⟩⟩
theorem set_last (ps:List T)(z y:T):((ps++[z]).map bb).set ps.length (bb y)=(ps++[y]).map bb:=by rw[←List.map_set,List.set_append_right _ _ (Nat.le_refl _),Nat.sub_self];rfl
theorem bb_app (z:T)(c:UInt8):bb (z++[c])=bb z++⟨#[c]⟩:=by
 refine kt.str_eq ?_;have:(bb z++(⟨#[c]⟩:ByteArray)).data.toList=(bb z).data.toList++[c]:=by simp
 rw[this];unfold bb;simp
theorem bb_size' (l:T):(bb l).size=l.length:=by unfold bb;show l.toArray.size=_;simp
theorem off_new {p g i:Nat}{w w1:World}{u:Value}(h:Off p w w1)(hg:w.heap.size≤g):Off p w (w1.setCell ⟨g,i,none⟩ u):=⟨h.os,h.tape,h.output,Nat.le_trans h.size (by simp[World.setCell]),fun k hk hp=>(Below.heap_setCell _ _ _ _ (by show k≠g;omega)).trans (h.block k hk hp)⟩
theorem ms_lt {a b m m' S:Nat}(h1:a=m)(h2:b=m')(h:m<S)(h3:m<m'):S-b<S-a:=by omega
theorem hex_rest {s:ByteArray}{m:Nat}{a b:UInt8}{u:T}(h:rest s (m+1)=a::b::u):u=rest s (m+3):=by have e:=rest_drop s (m+1) 2;rw[h]at e;exact e
theorem byte_ok (p:Nat)(s:ByteArray)(m:Nat)(a b:UInt8)(u:T)(w:World)(h:Hid (ScB w p s m))(hk:m<s.size)(hs:s.size≤1000000)(hr:rest s (m+1)=a::b::u)(h1:0≤valI a)(h2:0≤valI b):
  Calls Tryz.prog 283 #[.pointer (some ⟨p,0,none⟩)] w fun e w'=>e= .returned (.string ⟨#[hexB a b]⟩)∧Off p w w'∧ScB w' p s (m+3):=by
 refine(byte_any p s m w h hk hs).mono ?_;rintro e w' ⟨ho,hE⟩;rcases hE with⟨a',b',u',hr',_,_,he,hS⟩ | ⟨hno,_⟩
 ·rw[hr]at hr';simp only[List.cons.injEq]at hr';obtain⟨rfl,rfl,rfl⟩:=hr';exact⟨he,ho,hS⟩
 ·exfalso;have:=hno a b u hr;omega
theorem byte_no (p:Nat)(s:ByteArray)(m:Nat)(w:World)(h:Hid (ScB w p s m))(hk:m<s.size)(hs:s.size≤1000000)(hr: ∀a b u,rest s (m+1)=a::b::u→valI a<0∨valI b<0):
  Calls Tryz.prog 283 #[.pointer (some ⟨p,0,none⟩)] w fun e w'=>PanicE e∧Off p w w':=by
 refine(byte_any p s m w h hk hs).mono ?_;rintro e w' ⟨ho,hE⟩;rcases hE with⟨a,b,u,hr',h1,h2,he,hS⟩ | ⟨_,hP⟩
 ·exfalso;have:=hr a b u hr';omega
 ·exact⟨hP,ho⟩
def PiecesO (w:World)(p:Nat)(s:ByteArray)(O:Option (List T × T))(e:Ending)(w':World):Prop:=
 Off p w w'∧match O with
  | none=>PanicE e
  | some q=> ∃ao cap K,e= .returned (.slice ao q.1.length cap)∧prw.OwnT w' w.heap.size (.slice ao q.1.length cap) (q.1.map bb)∧K≤s.size∧q.2=rest s K∧ScB w' p s K
theorem pcO_none {w w':World}{p:Nat}{s:ByteArray}{O:Option (List T × T)}{e:Ending}(h:O=none)(ho:Off p w w')(he:PanicE e):PiecesO w p s O e w':=by rw[h];exact⟨ho,he⟩
theorem pcO_some {w w':World}{p K n cap:Nat}{s:ByteArray}{O:Option (List T × T)}{e:Ending}{ao:Option Addr}{ps:List T}{z:T}(h:O=some (ps++[z],rest s K))(ho:Off p w w')(he:e= .returned (.slice ao n cap))(hn:n=((ps++[z]).map bb).length)(hT:prw.OwnT w' w.heap.size (.slice ao n cap) ((ps++[z]).map bb))(hK:K≤s.size)(hS:ScB w' p s K):PiecesO w p s O e w':=by rw[h];rw[List.length_map]at hn;subst hn;exact⟨ho,ao,cap,K,he,hT,hK,rfl,hS⟩
theorem pieces_any (p:Nat)(s:ByteArray)(k:Nat)(st:Bool)(w:World)(h:Hid (ScB w p s k))(hk:k≤s.size)(hs:s.size≤1000000):
  Calls Tryz.prog 249 #[.pointer (some ⟨p,0,none⟩),.bool st] w (PiecesO w p s (piecesP st (rest s k))):=by
 obtain⟨O,hO⟩: ∃O,piecesP st (rest s k)=O:=⟨_,rfl⟩;have HG0:Hid (goP st [] [] (rest s k)=O):=by rw[←hO];exact goP_start st _
 rw[hO];clear hO;have hpB:=sc_lt h.out;have hBA:Below w.heap.size w (w.alloc (.cells #[.string ⟨#[]⟩] 9)):=(Below.refl _ _).alloc (Nat.le_refl _) _;have HS0:=Lib.hid (sc_below h.out hBA);have HO0:Hid (Off p w (w.alloc (.cells #[.string ⟨#[]⟩] 9))):=off_below hBA;have HL0:=Lib.hid (ownT_one w ⟨#[]⟩);clear hBA;go_enter Tryz.func249,Tryz.ntmps249;go_wp2_with fail;go_loopw [5] (fun lv wr=> ∃ (m:Nat) (ps:List T) (z:T),m≤s.size∧Hid (goP st ps z (rest s m)=O)∧ps.length≤m∧z.length≤m∧Hid (prw.OwnT wr w.heap.size lv ((ps++[z]).map bb))∧Hid (ScB wr p s m)∧Hid (Off p w wr)) (fun _ wr=>s.size-atOf wr p);case atStart=>exact⟨k,[],[],hk,HG0.out,Nat.zero_le _,Nat.zero_le _,HL0.out,HS0.out,HO0.out⟩
 case round=>
  obtain⟨m,ps,z,hm,hG,hps,hz,hL,hS,hO⟩:=hrel;obtain⟨c0,c1,f1⟩:=sc_cells hS.out;have HN:=Lib.hid (next_any p s m wr (Lib.hid hS.out) hm);obtain⟨ao,n,cap,rfl,hn⟩:=dnw.ownT_form hL.out;by_cases hlt:m<s.size
  ·obtain⟨c,hc⟩: ∃c,s[m]'hlt=c:=⟨_,rfl⟩;have hcI:nextI s m=(c.toNat:Int):=(by unfold nextI;rw[dif_pos hlt,hc]);have hrest:rest s m=c::rest s (m+1):=(by rw[rest_cons hlt,hc]);rw[hcI]at HN;rw[hrest]at hG;have hrest2:=Lib.hid hrest;have hge:decide (s.size≤m)=false:=decide_eq_false (by omega);have hlt':(m:Int)<(s.size:Int):=(by omega);clear hcI hrest;by_cases hcc:c=40
   ·subst hcc;have HOE:Hid (O=none):=(by rw[←hG.out];exact goP_bad _ _ _ _ _ (Or.inl rfl));rw[show(((40:UInt8)).toNat:Int)=40 from rfl]at HN;clear hG hc;go_wp2_with fail;refine HN.out.mono ?_;rintro e w2 ⟨rfl,hB2⟩;have HS2:=Lib.hid (sc_below hS.out hB2);have HO2:=Lib.hid (off_trans hO.out (off_below hB2));have HL2:=Lib.hid (dnw.ownT_below hL.out hB2);clear hB2 c0 c1 f1 HN;obtain⟨c0,c1,f1⟩:=sc_cells HS2.out;go_wp2_with fail;go_quiet (fail);generalize hw3:w2.drewN nq=w3;have HB:Hid (Below w2.heap.size w2 w3):=(by rw[←hw3];exact hx_drewN (Below.refl _ _) _);have HS3:=Lib.hid (sc_below HS2.out HB.out);have HO3:=Lib.hid (off_trans HO2.out (off_below HB.out));have HL3:=Lib.hid (dnw.ownT_below HL2.out HB.out);clear c0 c1 f1 hw3 HB HL2 HO2 HS2;obtain⟨c0,c1,f1⟩:=sc_cells HS3.out;go_wp2_with fail;exact⟨rfl,pcO_none HOE.out HO3.out ⟨m,by omega,rfl⟩⟩
   by_cases hcc0:c=0
   ·subst hcc0;clear hcc;have HOE:Hid (O=none):=(by rw[←hG.out];exact goP_bad _ _ _ _ _ (Or.inr rfl));rw[show(((0:UInt8)).toNat:Int)=0 from rfl]at HN;clear hG hc;go_wp2_with fail;refine HN.out.mono ?_;rintro e w2 ⟨rfl,hB2⟩;have HS2:=Lib.hid (sc_below hS.out hB2);have HO2:=Lib.hid (off_trans hO.out (off_below hB2));have HL2:=Lib.hid (dnw.ownT_below hL.out hB2);clear hB2 c0 c1 f1 HN;obtain⟨c0,c1,f1⟩:=sc_cells HS2.out;go_wp2_with fail;go_quiet (fail);generalize hw3:w2.drewN nq=w3;have HB:Hid (Below w2.heap.size w2 w3):=(by rw[←hw3];exact hx_drewN (Below.refl _ _) _);have HS3:=Lib.hid (sc_below HS2.out HB.out);have HO3:=Lib.hid (off_trans HO2.out (off_below HB.out));have HL3:=Lib.hid (dnw.ownT_below HL2.out HB.out);clear c0 c1 f1 hw3 HB HL2 HO2 HS2;obtain⟨c0,c1,f1⟩:=sc_cells HS3.out;go_wp2_with fail;exact⟨rfl,pcO_none HOE.out HO3.out ⟨m,by omega,rfl⟩⟩
   by_cases hcc1:c=41
   ·subst hcc1;clear hcc hcc0;have HOE:Hid (O=some (ps++[z],rest s m)):=(by rw[←hG.out,hrest2.out];exact goP_end _ _ _ _);rw[show(((41:UInt8)).toNat:Int)=41 from rfl]at HN;clear hG hc;go_wp2_with fail;refine HN.out.mono ?_;rintro e w2 ⟨rfl,hB2⟩;have HS2:=Lib.hid (sc_below hS.out hB2);have HO2:=Lib.hid (off_trans hO.out (off_below hB2));have HL2:=Lib.hid (dnw.ownT_below hL.out hB2);clear hB2 c0 c1 f1 HN;obtain⟨c0,c1,f1⟩:=sc_cells HS2.out;go_wp2_with fail;go_quiet (fail);generalize hw3:w2.drewN nq=w3;have HB:Hid (Below w2.heap.size w2 w3):=(by rw[←hw3];exact hx_drewN (Below.refl _ _) _);have HS3:=Lib.hid (sc_below HS2.out HB.out);have HO3:=Lib.hid (off_trans HO2.out (off_below HB.out));have HL3:=Lib.hid (dnw.ownT_below HL2.out HB.out);clear c0 c1 f1 hw3 HB HL2 HO2 HS2;obtain⟨c0,c1,f1⟩:=sc_cells HS3.out;go_wp2_with fail;go_ret;exact pcO_some HOE.out HO3.out rfl hn.out HL3.out hm HS3.out
   by_cases hcc2:c=42
   ·subst hcc2;clear hcc hcc0 hcc1;rw[show(((42:UInt8)).toNat:Int)=42 from rfl]at HN;cases st with
    | false=>have HOE:Hid (O=none):=(by rw[←hG.out];exact goP_starno _ _ _);clear hG hc;go_wp2_with fail;refine HN.out.mono ?_;rintro e w2 ⟨rfl,hB2⟩;have HS2:=Lib.hid (sc_below hS.out hB2);have HO2:=Lib.hid (off_trans hO.out (off_below hB2));have HL2:=Lib.hid (dnw.ownT_below hL.out hB2);clear hB2 c0 c1 f1 HN;obtain⟨c0,c1,f1⟩:=sc_cells HS2.out;go_wp2_with fail;go_quiet (fail);generalize hw3:w2.drewN nq=w3;have HB:Hid (Below w2.heap.size w2 w3):=(by rw[←hw3];exact hx_drewN (Below.refl _ _) _);have HS3:=Lib.hid (sc_below HS2.out HB.out);have HO3:=Lib.hid (off_trans HO2.out (off_below HB.out));have HL3:=Lib.hid (dnw.ownT_below HL2.out HB.out);clear c0 c1 f1 hw3 HB HL2 HO2 HS2;obtain⟨c0,c1,f1⟩:=sc_cells HS3.out;go_wp2_with fail;exact⟨rfl,pcO_none HOE.out HO3.out ⟨m,by omega,rfl⟩⟩
    | true=>
     have HG1:Hid (goP true (ps++[z]) [] (rest s (m+1))=O):=(by rw[←hG.out];exact(goP_star _ _ _).symm);clear hG hc;go_wp2_with fail;refine HN.out.mono ?_;rintro e w2 ⟨rfl,hB2⟩;have HS2:=Lib.hid (sc_below hS.out hB2);have HO2:=Lib.hid (off_trans hO.out (off_below hB2));have HL2:=Lib.hid (dnw.ownT_below hL.out hB2);clear hB2 c0 c1 f1 HN;obtain⟨c0,c1,f1⟩:=sc_cells HS2.out;go_wp2_with fail;go_quiet (fail);generalize hw3:w2.drewN nq=w3;have HB:Hid (Below w2.heap.size w2 w3):=(by rw[←hw3];exact hx_drewN (Below.refl _ _) _);have HS3:=Lib.hid (sc_below HS2.out HB.out);have HO3:=Lib.hid (off_trans HO2.out (off_below HB.out));have HL3:=Lib.hid (dnw.ownT_below HL2.out HB.out);clear c0 c1 f1 hw3 HB HL2 HO2 HS2;obtain⟨c0,c1,f1⟩:=sc_cells HS3.out;have hwb:w.heap.size≤w3.heap.size:=HO3.out.size;obtain⟨ao',n',cap',w4,hap,hT4,_,hB4⟩:=dnw.ownT_appG ⟨#[]⟩ HL3.out (by rw[List.length_map,List.length_append,List.length_singleton];omega) hwb;have HL4:Hid (prw.OwnT w4 w.heap.size (.slice ao' n' cap') (((ps++[z])++[[]]).map bb)):=(by have e:((ps++[z])++[[]]).map bb=(ps++[z]).map bb++[(⟨#[]⟩:ByteArray)]:=(by simp[bb]);rw[e];exact hT4);have HS4:Hid (ScB w4 p s m):=(hB4.block p hpB).trans HS3.out;have HO4:Hid (Off p w w4):=off_old HO3.out hB4 hpB;have hone:(m:Int)+1≤9223372036854775807:=(by omega);clear hT4 hB4 c0 c1 f1 hwb;obtain⟨c0,c1,f1⟩:=sc_cells HS4.out;go_wp2_with (at_builtin;refine Lib.wpList_append_run _ rfl _ _ _ _ rfl _ _ rfl rfl _ _ hap ?_);go_roundw;case rel=>exact⟨m+1,ps++[z],[],by omega,HG1.out,by rw[List.length_append,List.length_singleton];omega,Nat.zero_le _,ownT_sc HL4.out hpB,sc_inc HS4.out,off_trans HO4.out (off_set _ _ _ _)⟩
     case measure=>rw[atOf_sc hS.out,atOf_sc (sc_inc HS4.out)];omega
   obtain⟨j,hj⟩: ∃j,j=ps.length:=⟨_,rfl⟩;have HJ:=Lib.hid hj;have hnl:n=ps.length+1:=(by rw[hn.out,List.length_map,List.length_append,List.length_singleton]);have hjn:j<n:=(by omega);have hjI:(j:Int)<(n:Int):=(by omega);have hwr:IntKind.i64.wrap ((n:Int)-1)=(j:Int):=(by rw[IntWalk.i64_in _ (by omega)];omega);have hj0:(0:Int)≤(j:Int):=(by omega);clear hnl hj;by_cases hcc3:c=92
   ·subst hcc3;clear hcc hcc0 hcc1 hcc2;rw[show(((92:UInt8)).toNat:Int)=92 from rfl]at HN;have hrest3:rest s m=92::rest s (m+1):=hrest2.out;by_cases hdg: ∃a b u,rest s (m+1)=a::b::u∧0≤valI a∧0≤valI b
    ·obtain⟨a,b,u,hr,h1,h2⟩:=hdg;have hu:=hex_rest hr;obtain⟨y,hy⟩: ∃y,hexB a b=y:=⟨_,rfl⟩;have HOE:Hid (goP st ps (z++[y]) (rest s (m+3))=O):=(by rw[←hG.out,hr,hu,←hy];exact(goP_hex _ _ _ _ _ _ h1 h2).symm);have hm3:m+3≤s.size:=(by have:=congrArg List.length hr;rw[rest_len]at this;simp only[List.length_cons]at this;omega);have HBC:Hid (∀W,ScB W p s m→Calls Tryz.prog 283 #[.pointer (some ⟨p,0,none⟩)] W fun e w'=>e= .returned (.string ⟨#[y]⟩)∧Off p W w'∧ScB w' p s (m+3)):=fun W hW=>by rw[←hy];exact byte_ok p s m a b u W (Lib.hid hW) hlt hs hr h1 h2
     clear hG hc hr h1 h2 hu hy hrest3;go_wp2_with fail;refine HN.out.mono ?_;rintro e w2 ⟨rfl,hB2⟩;have HS2:=Lib.hid (sc_below hS.out hB2);have HO2:=Lib.hid (off_trans hO.out (off_below hB2));have HL2:=Lib.hid (dnw.ownT_below hL.out hB2);clear hB2 c0 c1 f1 HN;obtain⟨c0,c1,f1⟩:=sc_cells HS2.out;go_wp2_with fail;go_quiet (fail);generalize hw3:w2.drewN nq=w3;have HB:Hid (Below w2.heap.size w2 w3):=(by rw[←hw3];exact hx_drewN (Below.refl _ _) _);have HS3:=Lib.hid (sc_below HS2.out HB.out);have HO3:=Lib.hid (off_trans HO2.out (off_below HB.out));have HL3:=Lib.hid (dnw.ownT_below HL2.out HB.out);clear c0 c1 f1 hw3 HB HL2 HO2 HS2;obtain⟨c0,c1,f1⟩:=sc_cells HS3.out;obtain⟨g,rfl,hBg,hcap,hcell,hfz⟩:=ownT_last HL3.out hn.out j (by rw[HJ.out,List.length_map,List.length_append,List.length_singleton];omega);obtain⟨Z,hZ⟩: ∃Z,bb z=Z:=⟨_,rfl⟩;have hzj:((ps++[z]).map bb)[j]'(by rw[HJ.out,List.length_map,List.length_append,List.length_singleton];omega)=Z:=(by rw[←hZ];simp[HJ.out]);rw[hzj]at hcell;have hZs:Z.size≤1000000:=(by rw[←hZ,bb_size'];omega);have hpg:p≠g:=(by omega);have hgl:g<w3.heap.size:=World.block_lt_of_cell? w3 _ hcell;have HBC1:=Lib.hid (HBC.out w3.drew (sc_drew HS3.out));clear HBC;obtain⟨Y,hY⟩: ∃Y,bb (z++[y])=Y:=⟨_,rfl⟩;have hadd: ∀W,(Op.stringOp .add Z ⟨#[y]⟩).run Tryz.prog W= .ok (.string Y) W:=fun W=>by rw[←hY,bb_app,hZ];exact run_string_add_sum W _ _ (by show Z.size+1≤9223372036854775807;omega)
     have HYE:=Lib.hid hY;clear hZ hzj hY;go_wp2_with fail;refine wp_region_held_drew (S:=fun _=>True) (by kernel_rfl) trivial (fun hHeld=> ?_);refine tk 0 ⟨some 70,_,_,_,_,_⟩ rfl ?_;refine tk 1 ⟨some 71,_,_,_,_,_⟩ rfl ?_;refine tk 2 ⟨some 72,_,_,_,_,_⟩ rfl ?_;refine tk 3 ⟨some 73,_,_,_,_,_⟩ rfl ?_;refine tk 4 ⟨some 74,_,_,_,_,_⟩ rfl ?_;refine tk 6 ⟨some 76,_,_,_,_,_⟩ rfl ?_;refine wpAnyH_ready (rs:=[5,7]) (by kernel_rfl) (by simp) ?_;refine AllReadyH.cons (o:=⟨some 75,_,_,_,_,_⟩) rfl (fun K hK=> ?_) (AllReadyH.cons (o:=⟨some 77,_,_,_,_,_⟩) rfl (fun K hK=> ?_) AllReadyH.nil)
     ·go_simp;refine hK.out _ _ trivial (fun hHeld=> ?_);clear hK;try simp only[Act.put,List.setIfInBounds_toArray,List.set_cons_zero,List.set_cons_succ]
      refine etw.tc 7 ⟨some 77,_,_,_,_,_⟩ rfl (fun K hK=> ?_);go_simp
      (go_at_call 283;refine HBC1.out.mono ?_;rintro e w5 ⟨rfl,hO5,hS5⟩)
      refine hK.out _ _ trivial (fun hHeld=> ?_);clear hK;try simp only[Act.put,List.setIfInBounds_toArray,List.set_cons_zero,List.set_cons_succ]
      have hb5:w5.heap[g]? =w3.heap[g]? :=hO5.block g hgl (fun e=>hpg e.symm);have hc5:w5.cell? ⟨g,j,none⟩=some (.string Z):=(World.cell?_of_block (w:=w3) (a:=⟨g,j,none⟩) hb5).trans hcell;have hf5:w5.frozen? ⟨g,j,none⟩=false:=(World.frozen?_of_block (w:=w3) (a:=⟨g,j,none⟩) hb5).trans hfz;refine tk 8 ⟨some 78,_,_,_,_,_⟩ rfl ?_;refine tk 9 ⟨some 79,_,_,_,_,_⟩ rfl ?_;refine etw.tc 10 ⟨none,_,_,_,_,_⟩ rfl (fun K hK=> ?_);go_simp;refine hK.out _ _ trivial (fun hHeld=> ?_);clear hK;try simp only[Act.put,List.setIfInBounds_toArray,List.set_cons_zero,List.set_cons_succ]
      refine wpAnyH_done (by kernel_rfl) ?_ _;have HO5:Off p w w5:=off_trans HO3.out (off_trans (off_below (Below.refl _ _).drew) hO5);have HL5:=ownT_off (ownT_off HL3.out hpB (off_below (Below.refl _ _).drew)) hpB hO5;have HS6:Hid (ScB (w5.setCell ⟨g,j,none⟩ (.string Y)) p s (m+3)):=sc_other hS5 hpg;have HL6:Hid (prw.OwnT (w5.setCell ⟨g,j,none⟩ (.string Y)) w.heap.size (.slice (some ⟨g,0,none⟩) n cap) ((ps++[z++[y]]).map bb)):=(by have h5:=ownT_put HL5 j Y;rw[HJ.out,←HYE.out,set_last]at h5;rw[HJ.out,←HYE.out];exact h5);have HO6:Hid (Off p w (w5.setCell ⟨g,j,none⟩ (.string Y))):=off_new HO5 hBg;clear hHeld hcell hfz c0 c1 f1 hb5 hc5 hf5 hO5 hS5 HO5 HL5;go_wp2_with fail;go_roundw;case rel=>exact⟨m+3,ps,z++[y],hm3,HOE.out,by omega,by rw[List.length_append,List.length_singleton];omega,HL6.out,HS6.out,HO6.out⟩
      case measure=>exact ms_lt (atOf_sc hS.out) (atOf_sc HS6.out) hlt (by omega)
     ·go_simp
      (go_at_call 283;refine HBC1.out.mono ?_;rintro e w5 ⟨rfl,hO5,hS5⟩)
      refine hK.out _ _ trivial (fun hHeld=> ?_);clear hK;try simp only[Act.put,List.setIfInBounds_toArray,List.set_cons_zero,List.set_cons_succ]
      have hb5:w5.heap[g]? =w3.heap[g]? :=hO5.block g hgl (fun e=>hpg e.symm);have hc5:w5.cell? ⟨g,j,none⟩=some (.string Z):=(World.cell?_of_block (w:=w3) (a:=⟨g,j,none⟩) hb5).trans hcell;have hf5:w5.frozen? ⟨g,j,none⟩=false:=(World.frozen?_of_block (w:=w3) (a:=⟨g,j,none⟩) hb5).trans hfz;refine etw.tc 5 ⟨some 75,_,_,_,_,_⟩ rfl (fun K hK=> ?_);go_simp;refine hK.out _ _ trivial (fun hHeld=> ?_);clear hK;try simp only[Act.put,List.setIfInBounds_toArray,List.set_cons_zero,List.set_cons_succ]
      refine tk 8 ⟨some 78,_,_,_,_,_⟩ rfl ?_;refine tk 9 ⟨some 79,_,_,_,_,_⟩ rfl ?_;refine etw.tc 10 ⟨none,_,_,_,_,_⟩ rfl (fun K hK=> ?_);go_simp;refine hK.out _ _ trivial (fun hHeld=> ?_);clear hK;try simp only[Act.put,List.setIfInBounds_toArray,List.set_cons_zero,List.set_cons_succ]
      refine wpAnyH_done (by kernel_rfl) ?_ _;have HO5:Off p w w5:=off_trans HO3.out (off_trans (off_below (Below.refl _ _).drew) hO5);have HL5:=ownT_off (ownT_off HL3.out hpB (off_below (Below.refl _ _).drew)) hpB hO5;have HS6:Hid (ScB (w5.setCell ⟨g,j,none⟩ (.string Y)) p s (m+3)):=sc_other hS5 hpg;have HL6:Hid (prw.OwnT (w5.setCell ⟨g,j,none⟩ (.string Y)) w.heap.size (.slice (some ⟨g,0,none⟩) n cap) ((ps++[z++[y]]).map bb)):=(by have h5:=ownT_put HL5 j Y;rw[HJ.out,←HYE.out,set_last]at h5;rw[HJ.out,←HYE.out];exact h5);have HO6:Hid (Off p w (w5.setCell ⟨g,j,none⟩ (.string Y))):=off_new HO5 hBg;clear hHeld hcell hfz c0 c1 f1 hb5 hc5 hf5 hO5 hS5 HO5 HL5;go_wp2_with fail;go_roundw;case rel=>exact⟨m+3,ps,z++[y],hm3,HOE.out,by omega,by rw[List.length_append,List.length_singleton];omega,HL6.out,HS6.out,HO6.out⟩
      case measure=>exact ms_lt (atOf_sc hS.out) (atOf_sc HS6.out) hlt (by omega)
    ·have hno: ∀a b u,rest s (m+1)=a::b::u→valI a<0∨valI b<0:=by
      intro a b u hr;by_cases h1:valI a<0
      ·exact Or.inl h1
      ·by_cases h2:valI b<0
       ·exact Or.inr h2
       ·exact absurd ⟨a,b,u,hr,by omega,by omega⟩ hdg
     have HOE:Hid (O=none):=(by rw[←hG.out];exact goP_hexno _ _ _ _ hno);have HBC:Hid (∀W,ScB W p s m→Calls Tryz.prog 283 #[.pointer (some ⟨p,0,none⟩)] W fun e w'=>PanicE e∧Off p W w'):=fun W hW=>byte_no p s m W (Lib.hid hW) hlt hs hno;clear hG hc hrest3 hno hdg;go_wp2_with fail;refine HN.out.mono ?_;rintro e w2 ⟨rfl,hB2⟩;have HS2:=Lib.hid (sc_below hS.out hB2);have HO2:=Lib.hid (off_trans hO.out (off_below hB2));have HL2:=Lib.hid (dnw.ownT_below hL.out hB2);clear hB2 c0 c1 f1 HN;obtain⟨c0,c1,f1⟩:=sc_cells HS2.out;go_wp2_with fail;go_quiet (fail);generalize hw3:w2.drewN nq=w3;have HB:Hid (Below w2.heap.size w2 w3):=(by rw[←hw3];exact hx_drewN (Below.refl _ _) _);have HS3:=Lib.hid (sc_below HS2.out HB.out);have HO3:=Lib.hid (off_trans HO2.out (off_below HB.out));have HL3:=Lib.hid (dnw.ownT_below HL2.out HB.out);clear c0 c1 f1 hw3 HB HL2 HO2 HS2;obtain⟨c0,c1,f1⟩:=sc_cells HS3.out;obtain⟨g,rfl,hBg,hcap,hcell,hfz⟩:=ownT_last HL3.out hn.out j (by rw[HJ.out,List.length_map,List.length_append,List.length_singleton];omega);obtain⟨Z,hZ⟩: ∃Z,bb z=Z:=⟨_,rfl⟩;have hzj:((ps++[z]).map bb)[j]'(by rw[HJ.out,List.length_map,List.length_append,List.length_singleton];omega)=Z:=(by rw[←hZ];simp[HJ.out]);rw[hzj]at hcell;have hZs:Z.size≤1000000:=(by rw[←hZ,bb_size'];omega);have hpg:p≠g:=(by omega);have hgl:g<w3.heap.size:=World.block_lt_of_cell? w3 _ hcell;have HBC1:=Lib.hid (HBC.out w3.drew (sc_drew HS3.out));clear HBC;clear hZ hzj;go_wp2_with fail;refine wp_region_held_drew (S:=fun _=>True) (by kernel_rfl) trivial (fun hHeld=> ?_);refine tk 0 ⟨some 70,_,_,_,_,_⟩ rfl ?_;refine tk 1 ⟨some 71,_,_,_,_,_⟩ rfl ?_;refine tk 2 ⟨some 72,_,_,_,_,_⟩ rfl ?_;refine tk 3 ⟨some 73,_,_,_,_,_⟩ rfl ?_;refine tk 4 ⟨some 74,_,_,_,_,_⟩ rfl ?_;refine tk 6 ⟨some 76,_,_,_,_,_⟩ rfl ?_;refine wpAnyH_ready (rs:=[5,7]) (by kernel_rfl) (by simp) ?_;refine AllReadyH.cons (o:=⟨some 75,_,_,_,_,_⟩) rfl (fun K hK=> ?_) (AllReadyH.cons (o:=⟨some 77,_,_,_,_,_⟩) rfl (fun K hK=> ?_) AllReadyH.nil)
     ·go_simp;refine hK.out _ _ trivial (fun hHeld=> ?_);clear hK;try simp only[Act.put,List.setIfInBounds_toArray,List.set_cons_zero,List.set_cons_succ]
      refine etw.tc 7 ⟨some 77,_,_,_,_,_⟩ rfl (fun K hK=> ?_);go_simp;go_at_call 283;refine HBC1.out.mono ?_;rintro e w5 ⟨⟨q,hq,rfl⟩,hO5⟩;exact⟨rfl,pcO_none HOE.out (off_trans HO3.out (off_trans (off_below (Below.refl _ _).drew) hO5)) ⟨q,hq,rfl⟩⟩
     ·go_simp;go_at_call 283;refine HBC1.out.mono ?_;rintro e w5 ⟨⟨q,hq,rfl⟩,hO5⟩;exact⟨rfl,pcO_none HOE.out (off_trans HO3.out (off_trans (off_below (Below.refl _ _).drew) hO5)) ⟨q,hq,rfl⟩⟩
   ·have HOE:Hid (goP st ps (z++[c]) (rest s (m+1))=O):=(by rw[←hG.out];exact(goP_byte _ _ _ _ _ hcc0 hcc hcc1 hcc2 hcc3).symm);have e40:((c.toNat:Int)==40)=false:=(by rw[beq_eq_false_iff_ne];intro e;exact hcc (UInt8.toNat_inj.1 (by show c.toNat=40;omega)));have e0:((c.toNat:Int)==0)=false:=(by rw[beq_eq_false_iff_ne];intro e;exact hcc0 (UInt8.toNat_inj.1 (by show c.toNat=0;omega)));have e41:((c.toNat:Int)==41)=false:=(by rw[beq_eq_false_iff_ne];intro e;exact hcc1 (UInt8.toNat_inj.1 (by show c.toNat=41;omega)));have e42:((c.toNat:Int)==42)=false:=(by rw[beq_eq_false_iff_ne];intro e;exact hcc2 (UInt8.toNat_inj.1 (by show c.toNat=42;omega)));have e92:((c.toNat:Int)==92)=false:=(by rw[beq_eq_false_iff_ne];intro e;exact hcc3 (UInt8.toNat_inj.1 (by show c.toNat=92;omega)));have hcb:=c.toNat_lt;clear hG hc hcc hcc0 hcc1 hcc2 hcc3;go_wp2_with fail;refine HN.out.mono ?_;rintro e w2 ⟨rfl,hB2⟩;have HS2:=Lib.hid (sc_below hS.out hB2);have HO2:=Lib.hid (off_trans hO.out (off_below hB2));have HL2:=Lib.hid (dnw.ownT_below hL.out hB2);clear hB2 c0 c1 f1 HN;obtain⟨c0,c1,f1⟩:=sc_cells HS2.out;go_wp2_with fail;go_quiet (fail);generalize hw3:w2.drewN nq=w3;have HB:Hid (Below w2.heap.size w2 w3):=(by rw[←hw3];exact hx_drewN (Below.refl _ _) _);have HS3:=Lib.hid (sc_below HS2.out HB.out);have HO3:=Lib.hid (off_trans HO2.out (off_below HB.out));have HL3:=Lib.hid (dnw.ownT_below HL2.out HB.out);clear c0 c1 f1 hw3 HB HL2 HO2 HS2;obtain⟨c0,c1,f1⟩:=sc_cells HS3.out;obtain⟨g,rfl,hBg,hcap,hcell,hfz⟩:=ownT_last HL3.out hn.out j (by rw[HJ.out,List.length_map,List.length_append,List.length_singleton];omega);obtain⟨Z,hZ⟩: ∃Z,bb z=Z:=⟨_,rfl⟩;have hzj:((ps++[z]).map bb)[j]'(by rw[HJ.out,List.length_map,List.length_append,List.length_singleton];omega)=Z:=(by rw[←hZ];simp[HJ.out]);rw[hzj]at hcell;have hZs:Z.size≤1000000:=(by rw[←hZ,bb_size'];omega);obtain⟨Y,hY⟩: ∃Y,bb (z++[c])=Y:=⟨_,rfl⟩;have hadd: ∀W,(Op.stringOp .add Z ⟨#[c]⟩).run Tryz.prog W= .ok (.string Y) W:=fun W=>by rw[←hY,bb_app,hZ];exact run_string_add_sum W _ _ (by show Z.size+1≤9223372036854775807;omega)
    have HYE:=Lib.hid hY;clear hZ hzj hY;have hpg:p≠g:=(by omega);obtain⟨A,hA⟩: ∃A,w3.alloc (.cells #[.int .u8 (c.toNat:Int)] 5)=A:=⟨_,rfl⟩;have HBA:Below w3.heap.size w3 A:=(by rw[←hA];exact(Below.refl _ _).alloc (Nat.le_refl _) _);have hgl:g<w3.heap.size:=World.block_lt_of_cell? w3 _ hcell;have hcA:A.cell? ⟨g,j,none⟩=some (.string Z):=(HBA.cell (p:=⟨g,j,none⟩) hgl).trans hcell;have hfA:A.frozen? ⟨g,j,none⟩=false:=(HBA.frozen (p:=⟨g,j,none⟩) hgl).trans hfz;have hcv:(convert 131 9 (.slice (some ⟨w3.heap.size,0,none⟩) 1 1)).run Tryz.prog A.drew= .ok (.string ⟨#[c]⟩) A.drew:=(by refine run_convert_bytes_back A.drew 131 9 5 ⟨w3.heap.size,0,none⟩ 1 [c] Tryz.underlying131 Tryz.underlying5 Tryz.underlying9 (fun i hi=> ?_);have hi0:i=0:=(by simpa using hi);subst hi0;rw[kt.addr_add,←hA];show(w3.alloc _).cell? _=_;rw[World.cell?_alloc_new];simp);have HSA:=sc_below HS3.out HBA;have HLA:=dnw.ownT_below HL3.out HBA;have HOA:=off_trans HO3.out (off_below HBA);have HS5:Hid (ScB (A.setCell ⟨g,j,none⟩ (.string Y)).drew p s m):=sc_drew (sc_other HSA hpg);have HL5:Hid (prw.OwnT (A.setCell ⟨g,j,none⟩ (.string Y)).drew w.heap.size (.slice (some ⟨g,0,none⟩) n cap) ((ps++[z++[c]]).map bb)):=(by have h5:=ownT_put HLA j Y;rw[HJ.out,←HYE.out,set_last]at h5;rw[HJ.out,←HYE.out];exact h5);have HO5:Hid (Off p w (A.setCell ⟨g,j,none⟩ (.string Y)).drew):=off_trans (off_new HOA hBg) (off_below (Below.refl _ _).drew);have hone:(m:Int)+1≤9223372036854775807:=(by omega);clear HBA HSA HLA HOA;go_wp2_with fail;refine wp_region_held_drew (S:=fun _=>True) (by kernel_rfl) trivial (fun hHeld=> ?_);refine tk 0 ⟨some 10,_,_,_,_,_⟩ rfl ?_;refine tk 1 ⟨some 11,_,_,_,_,_⟩ rfl ?_;refine tk 2 ⟨some 12,_,_,_,_,_⟩ rfl ?_;refine tk 3 ⟨some 13,_,_,_,_,_⟩ rfl ?_;refine tk 4 ⟨some 14,_,_,_,_,_⟩ rfl ?_;refine tk 6 ⟨some 16,_,_,_,_,_⟩ rfl ?_;refine wpAnyH_ready (rs:=[5,7]) (by kernel_rfl) (by simp) ?_;refine AllReadyH.cons (o:=⟨some 15,_,_,_,_,_⟩) rfl (fun K hK=> ?_) (AllReadyH.cons (o:=⟨some 17,_,_,_,_,_⟩) rfl (fun K hK=> ?_) AllReadyH.nil)
    ·go_simp;refine hK.out _ _ trivial (fun hHeld=> ?_);clear hK;try simp only[Act.put,List.setIfInBounds_toArray,List.set_cons_zero,List.set_cons_succ]
     refine etw.tc 7 ⟨some 17,_,_,_,_,_⟩ rfl (fun K hK=> ?_);go_simp;refine hK.out _ _ trivial (fun hHeld=> ?_);clear hK;try simp only[Act.put,List.setIfInBounds_toArray,List.set_cons_zero,List.set_cons_succ]
     refine etw.tc 8 ⟨some 18,_,_,_,_,_⟩ rfl (fun K hK=> ?_);go_simp;refine hK.out _ _ trivial (fun hHeld=> ?_);clear hK;try simp only[Act.put,List.setIfInBounds_toArray,List.set_cons_zero,List.set_cons_succ]
     refine tk 9 ⟨some 19,_,_,_,_,_⟩ rfl ?_;refine tk 10 ⟨some 20,_,_,_,_,_⟩ rfl ?_;refine etw.tc 11 ⟨none,_,_,_,_,_⟩ rfl (fun K hK=> ?_);go_simp;refine hK.out _ _ trivial (fun hHeld=> ?_);clear hK;try simp only[Act.put,List.setIfInBounds_toArray,List.set_cons_zero,List.set_cons_succ]
     refine wpAnyH_done (by kernel_rfl) ?_ _;clear hHeld hcA hfA hcv hcell hfz c0 c1 f1;obtain⟨c0,c1,f1⟩:=sc_cells HS5.out;go_wp2_with fail;go_roundw;case rel=>exact⟨m+1,ps,z++[c],by omega,HOE.out,by omega,by rw[List.length_append,List.length_singleton];omega,ownT_sc HL5.out hpB,sc_inc HS5.out,off_trans HO5.out (off_set _ _ _ _)⟩
     case measure=>exact ms_lt (atOf_sc hS.out) (atOf_sc (sc_inc HS5.out)) hlt (Nat.lt_succ_self _)
    ·go_simp;refine hK.out _ _ trivial (fun hHeld=> ?_);clear hK;try simp only[Act.put,List.setIfInBounds_toArray,List.set_cons_zero,List.set_cons_succ]
     refine wpAnyH_ready (rs:=[5,8]) (by kernel_rfl) (by simp) ?_;refine AllReadyH.cons (o:=⟨some 15,_,_,_,_,_⟩) rfl (fun K hK=> ?_) (AllReadyH.cons (o:=⟨some 18,_,_,_,_,_⟩) rfl (fun K hK=> ?_) AllReadyH.nil)
     ·go_simp;refine hK.out _ _ trivial (fun hHeld=> ?_);clear hK;try simp only[Act.put,List.setIfInBounds_toArray,List.set_cons_zero,List.set_cons_succ]
      refine etw.tc 8 ⟨some 18,_,_,_,_,_⟩ rfl (fun K hK=> ?_);go_simp;refine hK.out _ _ trivial (fun hHeld=> ?_);clear hK;try simp only[Act.put,List.setIfInBounds_toArray,List.set_cons_zero,List.set_cons_succ]
      refine tk 9 ⟨some 19,_,_,_,_,_⟩ rfl ?_;refine tk 10 ⟨some 20,_,_,_,_,_⟩ rfl ?_;refine etw.tc 11 ⟨none,_,_,_,_,_⟩ rfl (fun K hK=> ?_);go_simp;refine hK.out _ _ trivial (fun hHeld=> ?_);clear hK;try simp only[Act.put,List.setIfInBounds_toArray,List.set_cons_zero,List.set_cons_succ]
      refine wpAnyH_done (by kernel_rfl) ?_ _;clear hHeld hcA hfA hcv hcell hfz c0 c1 f1;obtain⟨c0,c1,f1⟩:=sc_cells HS5.out;go_wp2_with fail;go_roundw;case rel=>exact⟨m+1,ps,z++[c],by omega,HOE.out,by omega,by rw[List.length_append,List.length_singleton];omega,ownT_sc HL5.out hpB,sc_inc HS5.out,off_trans HO5.out (off_set _ _ _ _)⟩
      case measure=>exact ms_lt (atOf_sc hS.out) (atOf_sc (sc_inc HS5.out)) hlt (Nat.lt_succ_self _)
     ·go_simp;refine hK.out _ _ trivial (fun hHeld=> ?_);clear hK;try simp only[Act.put,List.setIfInBounds_toArray,List.set_cons_zero,List.set_cons_succ]
      refine etw.tc 5 ⟨some 15,_,_,_,_,_⟩ rfl (fun K hK=> ?_);go_simp;refine hK.out _ _ trivial (fun hHeld=> ?_);clear hK;try simp only[Act.put,List.setIfInBounds_toArray,List.set_cons_zero,List.set_cons_succ]
      refine tk 9 ⟨some 19,_,_,_,_,_⟩ rfl ?_;refine tk 10 ⟨some 20,_,_,_,_,_⟩ rfl ?_;refine etw.tc 11 ⟨none,_,_,_,_,_⟩ rfl (fun K hK=> ?_);go_simp;refine hK.out _ _ trivial (fun hHeld=> ?_);clear hK;try simp only[Act.put,List.setIfInBounds_toArray,List.set_cons_zero,List.set_cons_succ]
      refine wpAnyH_done (by kernel_rfl) ?_ _;clear hHeld hcA hfA hcv hcell hfz c0 c1 f1;obtain⟨c0,c1,f1⟩:=sc_cells HS5.out;go_wp2_with fail;go_roundw;case rel=>exact⟨m+1,ps,z++[c],by omega,HOE.out,by omega,by rw[List.length_append,List.length_singleton];omega,ownT_sc HL5.out hpB,sc_inc HS5.out,off_trans HO5.out (off_set _ _ _ _)⟩
      case measure=>exact ms_lt (atOf_sc hS.out) (atOf_sc (sc_inc HS5.out)) hlt (Nat.lt_succ_self _)
  ·obtain rfl:m=s.size:=(by omega);have HOE:Hid (O=none):=(by rw[←hG.out,rest_end];rfl);have hcI:nextI s s.size=0:=dif_neg hlt;rw[hcI]at HN;have hge:decide (s.size≤s.size)=true:=decide_eq_true (Nat.le_refl _);have hge2:(s.size:Int)≤(s.size:Int):=Int.le_refl _;clear hG hlt hcI;go_wp2_with fail;refine HN.out.mono ?_;rintro e w2 ⟨rfl,hB2⟩;have HS2:=Lib.hid (sc_below hS.out hB2);have HO2:=Lib.hid (off_trans hO.out (off_below hB2));have HL2:=Lib.hid (dnw.ownT_below hL.out hB2);clear hB2 c0 c1 f1 HN;obtain⟨c0,c1,f1⟩:=sc_cells HS2.out;go_wp2_with fail;go_quiet (fail);generalize hw3:w2.drewN nq=w3;have HB:Hid (Below w2.heap.size w2 w3):=(by rw[←hw3];exact hx_drewN (Below.refl _ _) _);have HS3:=Lib.hid (sc_below HS2.out HB.out);have HO3:=Lib.hid (off_trans HO2.out (off_below HB.out));have HL3:=Lib.hid (dnw.ownT_below HL2.out HB.out);clear c0 c1 f1 hw3 HB HL2 HO2 HS2;obtain⟨c0,c1,f1⟩:=sc_cells HS3.out;go_wp2_with fail;exact⟨rfl,pcO_none HOE.out HO3.out ⟨s.size,by omega,rfl⟩⟩
end ftw
namespace flp
open atp etp
def FitH (F:Fl):Prop:=F.attr.size≤100000∧F.value.size≤100000∧F.first.size≤100000∧F.last.size≤100000∧F.any.length≤100000∧(∀x∈F.any,x.size≤100000)∧F.kids.length≤100000
def FitD:Nat→Fl→Prop
 | 0,_=>False
 | d+1,F=>FitH F∧ ∀k∈F.kids,FitD d k
theorem fit_ok: ∀ {d:Nat} {F:Fl},FitD d F→okD d F
 | 0,_,h=>h.elim
 | d+1,F,h=>fun k hk=>fit_ok (h.2 k hk)
def cap5 (n:Nat):Nat:=min n 5001
theorem sizes (n a b:Nat):min (min (n+a) 41+b) 41=min (n+(a+b)) 41:=by omega
end flp
open Go.RowKit
namespace etw
open atp atw etp
open dnw (Av Avas)
open tupw (Strs strs_below)
structure EnvE (w:World):Prop where
 e:prw.Env w
 t:dnw.Tabs w
 y:TyEnv w
theorem envE_below {w w':World}(h:EnvE w)(hb:Below w.heap.size w w'):EnvE w':=⟨prw.env_below h.e hb,dnw.tabs_below h.t hb,tyEnv_below h.y hb⟩
def ElemAt (w:World)(x:Value)(vs:List ByteArray):Prop:= ∃a c,x= .slice a vs.length c∧vs.length≤c∧Strs w a vs
def Ats (w:World)(ao:Option Addr)(l:List At):Prop:= ∀i (hi:i<l.length),∃b o a c,ao=some ⟨b,o,none⟩∧w.cell? ⟨b,o+i*2,none⟩=some (.string l[i].t)∧w.cell? ⟨b,o+i*2+1,none⟩=some (.slice a l[i].vs.length c)∧l[i].vs.length≤c∧Strs w a l[i].vs
theorem elem_below {w w':World}{x:Value}{vs:List ByteArray}(h:ElemAt w x vs)(hb:Below w.heap.size w w'):ElemAt w' x vs:=by obtain⟨a,c,h1,h2,h3⟩:=h;exact⟨a,c,h1,h2,strs_below h3 hb⟩
theorem ats_below {w w':World}{ao:Option Addr}{l:List At}(h:Ats w ao l)(hb:Below w.heap.size w w'):Ats w' ao l:=by intro i hi;obtain⟨b,o,a,c,h1,h2,h3,h4,h5⟩:=h i hi;exact⟨b,o,a,c,h1,(hb.cell (World.block_lt_of_cell? w _ h2)).trans h2,(hb.cell (World.block_lt_of_cell? w _ h3)).trans h3,h4,strs_below h5 hb⟩
theorem strs_same {w w':World}{a:Option Addr}{vs:List ByteArray}(h:Strs w a vs)(hb:vs≠[]→ ∀p,a=some p→w'.heap[p.block]? =w.heap[p.block]?):Strs w' a vs:=by intro i hi;obtain⟨b,o,e,hc⟩:=h i hi;exact⟨b,o,e,(World.cell?_of_block (w:=w) (a:=⟨b,o+i,none⟩) (hb (by intro e0;rw[e0]at hi;cases hi) ⟨b,o,none⟩ e)).trans hc⟩
theorem strs_lt {w:World}{a:Option Addr}{vs:List ByteArray}(h:Strs w a vs)(hv:vs≠[]): ∃b o,a=some ⟨b,o,none⟩∧b<w.heap.size:=by
 cases vs with
 | nil=>exact absurd rfl hv
 | cons x t=>obtain⟨b,o,e,hc⟩:=h 0 (by simp);exact⟨b,o,e,World.block_lt_of_cell? w _ hc⟩
abbrev AV:=At × Value
def acell (x:AV):List Value:=[.string x.1.t,x.2]
structure OwnA (w:World)(B:Nat)(v:Value)(l:List AV):Prop where
 outer:kt.SegX w B 43 2 v l.length (l.flatMap acell)
 inner: ∀x∈l,ElemAt w x.2 x.1.vs∧(x.1.vs≠[]→ ∀k,x.2.ownBlock=some k→v.ownBlock≠some k)
theorem ownA_nil (w:World)(B:Nat):OwnA w B (.slice none 0 0) []:=⟨kt.segX_nil _ _ _ _,fun x h=>by cases h⟩
theorem ownA_form {w:World}{B:Nat}{v:Value}{l:List AV}(h:OwnA w B v l): ∃ao n cap,v= .slice ao n cap∧Hid (n=l.length)∧n≤cap:=by obtain⟨ao,cap,hv,hc⟩:=kt.segX_slice h.outer;exact⟨ao,_,cap,hv,rfl,hc⟩
structure Bd (e:En):Prop where
 rl:e.rdn.length≤100000
 rs: ∀a∈e.rdn,a.t.size≤100000∧a.v.size≤100000
 al:e.ats.length≤100000
 as_: ∀a∈e.ats,a.t.size≤100000∧a.vs.length≤100000∧ ∀v∈a.vs,v.size≤100000
theorem bd_smalls {e:En}(h:Bd e):e.rdn.length≤4→dnw.Smalls e.rdn:=fun _ x hx=>⟨(h.rs x hx).1,by have:=(h.rs x hx).2;omega⟩
def EntV (w:World)(v:Value)(e:En):Prop:= ∃ro rc ao ac,v= .agg #[.slice ro e.rdn.length rc,.slice ao e.ats.length ac]∧e.rdn.length≤rc∧e.ats.length≤ac∧Avas w ro e.rdn∧Ats w ao e.ats
end etw
open Go.RowKit
namespace flw
open flp atp atw etp etw
open tupw (Strs strs_below)
def StrsO (ok:Nat→Prop)(w:World)(ao:Option Addr)(l:List ByteArray):Prop:=Strs w ao l∧(l≠[]→ ∀a,ao=some a→ok a.block)
structure CellsF (w:World)(b o:Nat)(F:Fl)(av kv:Value):Prop where
 c0:w.cell? ⟨b,o,none⟩=some (.int .i64 F.kind)
 c1:w.cell? ⟨b,o+1,none⟩=some (.string F.attr)
 c2:w.cell? ⟨b,o+2,none⟩=some (.string F.value)
 c3:w.cell? ⟨b,o+3,none⟩=some (.string F.first)
 c4:w.cell? ⟨b,o+4,none⟩=some av
 c5:w.cell? ⟨b,o+5,none⟩=some (.string F.last)
 c6:w.cell? ⟨b,o+6,none⟩=some kv
theorem cellsF_same {w w':World}{b o:Nat}{F:Fl}{av kv:Value}(h:CellsF w b o F av kv)(hb:w'.heap[b]? =w.heap[b]?):CellsF w' b o F av kv:=by have g: ∀i,w'.cell? ⟨b,i,none⟩=w.cell? ⟨b,i,none⟩:=fun i=>World.cell?_of_block (w:=w) (a:=⟨b,i,none⟩) hb;exact⟨(g _).trans h.c0,(g _).trans h.c1,(g _).trans h.c2,(g _).trans h.c3,(g _).trans h.c4,(g _).trans h.c5,(g _).trans h.c6⟩
theorem cellsF_lt {w:World}{b o:Nat}{F:Fl}{av kv:Value}(h:CellsF w b o F av kv):b<w.heap.size:=World.block_lt_of_cell? w _ h.c0
def OkA (xa:Option Addr)(n xc:Nat):Prop:=n≤xc∧(xa=none→xc=0)
def Kids (w:World)(ok:Nat→Prop):Nat→Option Addr→List Fl→Prop
 | 0,_,l=>l=[]
 | d+1,ao,l=> ∀i (hi:i<l.length),∃b o xa xc ka kc,ao=some ⟨b,o,none⟩∧ok b∧CellsF w b (o+i*7) l[i] (.slice xa l[i].any.length xc) (.slice ka l[i].kids.length kc)∧
   OkA xa l[i].any.length xc∧StrsO ok w xa l[i].any∧l[i].kids.length≤kc∧Kids w ok d ka l[i].kids
def flV (F:Fl)(av kv:Value):Value:= .agg #[.int .i64 F.kind,.string F.attr,.string F.value,.string F.first,av,.string F.last,kv]
def FlV (w:World)(ok:Nat→Prop)(d:Nat)(v:Value)(F:Fl):Prop:= ∃xa xc ka kc,v=flV F (.slice xa F.any.length xc) (.slice ka F.kids.length kc)∧OkA xa F.any.length xc∧StrsO ok w xa F.any∧F.kids.length≤kc∧Kids w ok d ka F.kids
def anyB (_:Nat):Prop:=True
theorem kids_nil (w:World)(ok:Nat→Prop)(d:Nat)(ao:Option Addr):Kids w ok d ao []:=by
 cases d with
 | zero=>rfl
 | succ d=>intro i hi;cases hi
theorem strsO_same {w w':World}{ok:Nat→Prop}{ao:Option Addr}{l:List ByteArray}(h:StrsO ok w ao l)(hb: ∀k,ok k→k<w.heap.size→w'.heap[k]? =w.heap[k]?):StrsO ok w' ao l:=⟨strs_same h.1 fun hl p hp=>by obtain⟨b,o,e,hlt⟩:=strs_lt h.1 hl;have hok:=h.2 hl p hp;rw[hp]at e;cases e;exact hb _ hok hlt,h.2⟩
theorem kids_same {w w':World}{ok:Nat→Prop}(hb: ∀k,ok k→k<w.heap.size→w'.heap[k]? =w.heap[k]?): ∀ {d:Nat} {ao:Option Addr} {l:List Fl},Kids w ok d ao l→Kids w' ok d ao l
 | 0,_,_,h=>h
 | d+1,ao,l,h=>fun i hi=>by obtain⟨b,o,xa,xc,ka,kc,e,hok,hc,h1,h2,h3,h4⟩:=h i hi;exact⟨b,o,xa,xc,ka,kc,e,hok,cellsF_same hc (hb b hok (cellsF_lt hc)),h1,strsO_same h2 hb,h3,kids_same hb h4⟩
theorem kids_below {w w':World}{ok:Nat→Prop}{d:Nat}{ao:Option Addr}{l:List Fl}(h:Kids w ok d ao l)(hb:Below w.heap.size w w'):Kids w' ok d ao l:=kids_same (fun k _ hlt=>hb.block k hlt) h
theorem flV_same {w w':World}{ok:Nat→Prop}{d:Nat}{v:Value}{F:Fl}(h:FlV w ok d v F)(hb: ∀k,ok k→k<w.heap.size→w'.heap[k]? =w.heap[k]?):FlV w' ok d v F:=by obtain⟨xa,xc,ka,kc,e,h1,h2,h3,h4⟩:=h;exact⟨xa,xc,ka,kc,e,h1,strsO_same h2 hb,h3,kids_same hb h4⟩
theorem flV_below {w w':World}{ok:Nat→Prop}{d:Nat}{v:Value}{F:Fl}(h:FlV w ok d v F)(hb:Below w.heap.size w w'):FlV w' ok d v F:=flV_same h fun k _ hlt=>hb.block k hlt
theorem strsO_imp {w:World}{p q:Nat→Prop}{ao:Option Addr}{l:List ByteArray}(h:StrsO p w ao l)(hpq: ∀k,p k→k<w.heap.size→q k):StrsO q w ao l:=⟨h.1,fun hl a ha=>by obtain⟨b,o,e,hlt⟩:=strs_lt h.1 hl;have hok:=h.2 hl a ha;rw[ha]at e;cases e;exact hpq _ hok hlt⟩
theorem kids_imp {w:World}{p q:Nat→Prop}(hpq: ∀k,p k→k<w.heap.size→q k): ∀ {d:Nat} {ao:Option Addr} {l:List Fl},Kids w p d ao l→Kids w q d ao l
 | 0,_,_,h=>h
 | d+1,ao,l,h=>fun i hi=>by obtain⟨b,o,xa,xc,ka,kc,e,hok,hc,h1,h2,h3,h4⟩:=h i hi;exact⟨b,o,xa,xc,ka,kc,e,hpq b hok (cellsF_lt hc),hc,h1,strsO_imp h2 hpq,h3,kids_imp hpq h4⟩
theorem flV_imp {w:World}{p q:Nat→Prop}{d:Nat}{v:Value}{F:Fl}(h:FlV w p d v F)(hpq: ∀k,p k→k<w.heap.size→q k):FlV w q d v F:=by obtain⟨xa,xc,ka,kc,e,h1,h2,h3,h4⟩:=h;exact⟨xa,xc,ka,kc,e,h1,strsO_imp h2 hpq,h3,kids_imp hpq h4⟩
theorem flV_any {w:World}{p:Nat→Prop}{d:Nat}{v:Value}{F:Fl}(h:FlV w p d v F):FlV w anyB d v F:=flV_imp h fun _ _ _=>trivial
theorem kids_mono {w:World}{ok:Nat→Prop}: ∀ {d e:Nat} {ao:Option Addr} {l:List Fl},Kids w ok d ao l→d≤e→Kids w ok e ao l
 | 0,e,ao,l,h,_=>by have h2:l=[]:=h;subst h2;exact kids_nil w ok e ao
 | d+1,0,_,_,_,h=>absurd h (by omega)
 | d+1,e+1,ao,l,h,he=>fun i hi=>by obtain⟨b,o,xa,xc,ka,kc,e1,hok,hc,h1,h2,h3,h4⟩:=h i hi;exact⟨b,o,xa,xc,ka,kc,e1,hok,hc,h1,h2,h3,kids_mono h4 (by omega)⟩
theorem flV_mono {w:World}{ok:Nat→Prop}{d e:Nat}{v:Value}{F:Fl}(h:FlV w ok d v F)(he:d≤e):FlV w ok e v F:=by obtain⟨xa,xc,ka,kc,e1,h1,h2,h3,h4⟩:=h;exact⟨xa,xc,ka,kc,e1,h1,h2,h3,kids_mono h4 he⟩
theorem kid_at {w:World}{ok:Nat→Prop}{d:Nat}{ao:Option Addr}{l:List Fl}(h:Kids w ok (d+1) ao l)(i:Nat)(hi:i<l.length):
  ∃b o xa xc ka kc,ao=some ⟨b,o,none⟩∧CellsF w b (o+i*7) l[i] (.slice xa l[i].any.length xc) (.slice ka l[i].kids.length kc)∧FlV w ok d (flV l[i] (.slice xa l[i].any.length xc) (.slice ka l[i].kids.length kc)) l[i]:=by
 obtain⟨b,o,xa,xc,ka,kc,e,hok,hc,h1,h2,h3,h4⟩:=h i hi;exact⟨b,o,xa,xc,ka,kc,e,hc,xa,xc,ka,kc,rfl,h1,h2,h3,h4⟩
abbrev FV:=Fl × Value × Value
def fcell (x:FV):List Value:=[.int .i64 x.1.kind,.string x.1.attr,.string x.1.value,.string x.1.first,x.2.1,.string x.1.last,x.2.2]
theorem infoFl:(Tryz.prog.info? 73).map (fun i=>(i.zero,i.size,i.bytes))=some (some (.agg #[.int .i64 0,.string ByteArray.empty,.string ByteArray.empty,.string ByteArray.empty,.slice none 0 0,.string ByteArray.empty,.slice none 0 0]),7,120):=by kernel_rfl
theorem flV_slices {w:World}{ok:Nat→Prop}{d:Nat}{F:Fl}{av kv:Value}(h:FlV w ok d (flV F av kv) F): ∃xa xc ka kc,av= .slice xa F.any.length xc∧kv= .slice ka F.kids.length kc∧OkA xa F.any.length xc∧StrsO ok w xa F.any∧F.kids.length≤kc∧Kids w ok d ka F.kids:=by obtain⟨xa,xc,ka,kc,e,h1,h2,h3,h4⟩:=h;unfold flV at e;simp only[Value.agg.injEq,Array.mk.injEq,List.cons.injEq,and_true,true_and]at e;exact⟨xa,xc,ka,kc,e.1,e.2,h1,h2,h3,h4⟩
end flw
open Go.RowKit
namespace etw
open atp atw etp
open tupw (Strs strs_below)
def Fit (l:List ByteArray):Prop:= ∀v∈l,v.size≤140737488351232
def VB (w:World)(p:Nat)(v:ByteArray):Prop:=w.heap[p]? =some (.cells #[.string v] 9 (0,0))
theorem vb_new (w:World)(v:ByteArray):VB (w.alloc (.cells #[.string v] 9)) w.heap.size v:=heap_alloc_new w _
theorem vb_cell {w:World}{p:Nat}{v:ByteArray}(h:VB w p v):w.cell? ⟨p,0,none⟩=some (.string v):=by rw[Lib.cell_of_heap h];rfl
theorem vb_below {w w':World}{p:Nat}{v:ByteArray}(h:VB w p v)(hb:Below w.heap.size w w'):VB w' p v:=(hb.block p (kt.bld_lt h)).trans h
theorem equal_alike (nm:ByteArray)(syn:Int)(sg:Bool)(a b:ByteArray)(w:World)(ha:a.size≤140737488351232)(hb:b.size≤140737488351232)(hE:EnvE w):
  ∃er:Int,(alike syn a b=true→er=0)∧Calls Tryz.prog 148 #[.agg #[.string nm,.int .i64 syn,.bool sg],.string a,.string b] w fun e w'=>e= .returned (.tuple #[.bool (alike syn a b),.int .i64 er])∧Below w.heap.size w w':=
 ⟨_,fun h=>alike_err h,equal_any nm syn sg a b w ha hb (Lib.hid hE.e) (Lib.hid hE.t)⟩
theorem clo_any (nm:ByteArray)(syn:Int)(sg:Bool)(v s:ByteArray)(bt bv:Nat)(w:World)(hs:s.size≤140737488351232)(hv:v.size≤140737488351232)(hE:Hid (EnvE w))(hT:Hid (TB w bt nm syn sg))(hV:Hid (VB w bv v)):
  Calls Tryz.prog 147 #[.string s,.pointer (some ⟨bt,0,none⟩),.pointer (some ⟨bv,0,none⟩)] w fun e w'=>e= .returned (.bool (alike syn s v))∧Below w.heap.size w w':=by
 obtain⟨er,her,CE⟩:=equal_alike nm syn sg s v w hs hv hE.out;have HC:=Lib.hid CE;obtain⟨k0,k1,k2⟩:=tb_cells hT.out;have k3:=vb_cell hV.out;clear CE;cases hal:alike syn s v with
 | true=>have h0:=her hal;subst h0;rw[hal]at HC;clear her hal;go_enter Tryz.func147,Tryz.ntmps147;go_wp2_with fail;refine HC.out.mono ?_;rintro e w1 ⟨rfl,hB1⟩;have HB1:=Lib.hid hB1;clear hB1 k0 k1 k2 k3;go_wp2_with fail;go_ret;exact⟨rfl,HB1.out⟩
 | false=>rw[hal]at HC;clear her hal;go_enter Tryz.func147,Tryz.ntmps147;go_wp2_with fail;refine HC.out.mono ?_;rintro e w1 ⟨rfl,hB1⟩;have HB1:=Lib.hid hB1;clear hB1 k0 k1 k2 k3;go_wp2_with fail;go_ret;exact⟨rfl,HB1.out⟩
theorem idx_any (syn:Int)(v:ByteArray)(bt bv:Nat)(ao:Option Addr)(cap:Nat)(l:List ByteArray)(w:World)(hl:Hid (Strs w ao l))(hn:l.length≤1000000)
  (hF:Hid (∀W,∀x∈l,Below w.heap.size w W→Calls Tryz.prog 147 #[.string x,.pointer (some ⟨bt,0,none⟩),.pointer (some ⟨bv,0,none⟩)] W fun e w'=>e= .returned (.bool (alike syn x v))∧Below W.heap.size W w')):
  Calls Tryz.prog 146 #[.slice ao l.length cap,.func (.func 147) #[] #[.pointer (some ⟨bt,0,none⟩),.pointer (some ⟨bv,0,none⟩)]] w fun e w'=>e= .returned (.int .i64 (likeI syn l v))∧Below w.heap.size w w':=by
 obtain⟨N,hN⟩: ∃N,l.length=N:=⟨_,rfl⟩;have HN:=Lib.hid hN;rw[hN];rw[hN]at hn;clear hN;go_enter Tryz.func146,Tryz.ntmps146;go_wp2_with fail;go_loopw [8] (fun iv wr=> ∃i:Nat,i≤N∧iv= .int .i64 (i:Int)∧Hid (Below w.heap.size w wr)∧Hid (∀j (hj:j<l.length),j<i→alike syn l[j] v=false)) (fun iv _=>N- (intOf iv).toNat);case atStart=>exact⟨0,Nat.zero_le _,rfl,Below.refl _ _,fun j hj h=>absurd h (Nat.not_lt_zero _)⟩
 case round=>
  obtain⟨i,hi,rfl,hB,hJ⟩:=hrel;have hsz:=hB.out.size;by_cases hlt:i<N
  ·have hltI:(i:Int)<(N:Int):=(by omega);have hil:i<l.length:=(by rw[HN.out];exact hlt);obtain⟨b,o,hao,hc0⟩:=(strs_below hl.out hB.out) i hil;subst hao;have HF:=Lib.hid (hF.out wr l[i] (List.getElem_mem _) hB.out);obtain⟨x,hx⟩: ∃x,l[i]=x:=⟨_,rfl⟩;have HX:=Lib.hid hx;rw[hx]at HF hc0;clear hx;cases hal:alike syn x v with
   | true=>rw[hal]at HF;have HR:Hid (likeI syn l v=(i:Int)):=likeI_hit hil (by rw[HX.out];exact hal) hJ.out;clear hal;go_wp2_with (go_at_call 147;refine HF.out.mono ?_;rintro e w1 ⟨rfl,hB1⟩);go_ret;exact⟨kt.ret_int HR.out.symm,hB.out.trans (‹Below wr.heap.size wr _›.mono hsz)⟩
   | false=>
    rw[hal]at HF;have HJ:Hid (∀j (hj:j<l.length),j<i+1→alike syn l[j] v=false):=by
     intro j hj h;by_cases e:j=i
     ·subst e;rw[HX.out];exact hal
     ·exact hJ.out j hj (by omega)
    clear hal;go_wp2_with (go_at_call 147;refine HF.out.mono ?_;rintro e w1 ⟨rfl,hB1⟩);go_roundw;case rel=>exact⟨i+1,by omega,by go_num,hB.out.trans (‹Below wr.heap.size wr _›.mono hsz),HJ⟩
    case measure=>simp[intOf];omega
  ·obtain rfl:N=i:=(by omega);have HR:Hid (likeI syn l v= -1):=likeI_none fun j hj=>hJ.out j hj (by rw[←HN.out];exact hj);go_wp2_with fail;go_ret;exact⟨kt.ret_int HR.out.symm,hB.out⟩
theorem like_any (nm:ByteArray)(syn:Int)(sg:Bool)(ao:Option Addr)(cap:Nat)(l:List ByteArray)(v:ByteArray)(w:World)(hl:Hid (Strs w ao l))(hn:l.length≤1000000)(hf:Hid (Fit l))(hv:v.size≤140737488351232)(hE:Hid (EnvE w)):
  Calls Tryz.prog 89 #[.agg #[.string nm,.int .i64 syn,.bool sg],.slice ao l.length cap,.string v] w fun e w'=>e= .returned (.int .i64 (likeI syn l v))∧Below w.heap.size w w':=by
 obtain⟨W1,hW1⟩: ∃W,w.alloc (.cells #[.string nm,.int .i64 syn,.bool sg] 108)=W:=⟨_,rfl⟩;have hB1:Below w.heap.size w W1:=by rw[←hW1];exact(Below.refl _ _).alloc (Nat.le_refl _) _
 have hT1:TB W1 w.heap.size nm syn sg:=by rw[←hW1];exact tb_new w nm syn sg
 obtain⟨W2,hW2⟩: ∃W,W1.alloc (.cells #[.string v] 9)=W:=⟨_,rfl⟩;have hB2:Below W1.heap.size W1 W2:=by rw[←hW2];exact(Below.refl _ _).alloc (Nat.le_refl _) _
 have hV2:VB W2 W1.heap.size v:=by rw[←hW2];exact vb_new W1 v
 have hB12:=hB1.trans (hB2.mono hB1.size);have HB12:=Lib.hid hB12;have hT2:=tb_below hT1 hB2;have HF:Hid (Calls Tryz.prog 146 #[.slice ao l.length cap,.func (.func 147) #[] #[.pointer (some ⟨w.heap.size,0,none⟩),.pointer (some ⟨W1.heap.size,0,none⟩)]] W2 fun e w'=>e= .returned (.int .i64 (likeI syn l v))∧Below W2.heap.size W2 w'):=
  idx_any syn v w.heap.size W1.heap.size ao cap l W2 (Lib.hid (strs_below hl.out hB12)) hn (Lib.hid fun W x hx hb=>clo_any nm syn sg v x w.heap.size W1.heap.size W (hf.out x hx) hv (Lib.hid (envE_below (envE_below hE.out hB12) hb)) (Lib.hid (tb_below hT2 hb)) (Lib.hid (vb_below hV2 hb)))
 have hz:=hB12.size;clear hB1 hB2 hT1 hT2 hV2 hB12;obtain⟨N,hN⟩: ∃N,l.length=N:=⟨_,rfl⟩;rw[hN]at HF ⊢;clear hN;generalize likeI syn l v=r at HF ⊢;go_enter Tryz.func89,Tryz.ntmps89;go_wp2_with fail;refine HF.out.mono ?_;rintro e w3 ⟨rfl,hB3⟩;go_wp2_with fail;go_ret;exact⟨rfl,HB12.out.trans (hB3.mono hz)⟩
end etw
open Go.RowKit
namespace etw
open atp atw etp
open dnw (Av Avas)
open tupw (Strs strs_below)
theorem room_any (nm:ByteArray)(syn:Int)(sg:Bool)(w:World):Calls Tryz.prog 123 #[.agg #[.string nm,.int .i64 syn,.bool sg]] w fun e w'=>e= .returned (.int .i64 (mostT sg:Int))∧Below w.heap.size w w':=by
 have hB:Below w.heap.size w (w.alloc (.cells #[.string nm,.int .i64 syn,.bool sg] 108)):=(Below.refl _ _).alloc (Nat.le_refl _) _;have HB:=Lib.hid hB;clear hB;cases sg;all_goals
  go_enter Tryz.func123,Tryz.ntmps123;go_wp2_with fail;go_ret;exact⟨rfl,HB.out⟩
theorem rvals_any (nm:ByteArray)(syn:Int)(sg:Bool)(ao:Option Addr)(cap:Nat)(l:List ByteArray)(w:World)(hl:Hid (Strs w ao l))(hn:l.length≤100000)(hcap:l.length≤cap)(hf:Hid (Fit l))(hE:Hid (EnvE w)):
  Calls Tryz.prog 133 #[.agg #[.string nm,.int .i64 syn,.bool sg],.slice ao l.length cap] w fun e w'=>e= .returned (.bool (decide (1≤l.length)&&decide (l.length≤mostT sg)&&fresh syn [] l))∧Below w.heap.size w w':=by
 obtain⟨W1,hW1⟩: ∃W,w.alloc (.cells #[.string nm,.int .i64 syn,.bool sg] 108)=W:=⟨_,rfl⟩;have hB1:Below w.heap.size w W1:=by rw[←hW1];exact(Below.refl _ _).alloc (Nat.le_refl _) _
 have HT1:Hid (TB W1 w.heap.size nm syn sg):=by rw[←hW1];exact tb_new w nm syn sg
 obtain⟨k0,k1,k2⟩:=tb_cells HT1.out;have HB1:=Lib.hid hB1;have hs1:=hB1.size;clear hB1;obtain⟨N,hN⟩: ∃N,l.length=N:=⟨_,rfl⟩;have HN:=Lib.hid hN;rw[hN]at hn hcap;rw[hN];clear hN;have HR:=Lib.hid (fun w=>room_any nm syn sg w);have hm20:mostT sg≤20:=by unfold mostT;split<;>omega
 have HMS:Hid (∃M,mostT sg=M):=⟨_,rfl⟩;generalize mostT sg=M at HR hm20 ⊢;clear HMS;by_cases h1:1≤N
 ·have d1:decide ((N:Int)<1)=false:=decide_eq_false (by omega);have d1':decide (N<1)=false:=decide_eq_false (by omega);by_cases h2:N≤M
  ·have d2:decide (M<N)=false:=decide_eq_false (by omega);have HRES:Hid ((decide (1≤N)&&decide (N≤M)&&fresh syn [] l)=fresh syn [] l):=(by show _=_;rw[decide_eq_true h1,decide_eq_true h2];rfl);rw[HRES.out];clear HRES;go_enter Tryz.func133,Tryz.ntmps133;go_wp2_with fail;refine(HR.out _).mono ?_;rintro e w2 ⟨rfl,hB2⟩;have HB2:=Lib.hid hB2;have HT2:=Lib.hid (tb_below HT1.out hB2);have HB02:=Lib.hid (HB1.out.trans (hB2.mono hs1));have hs2:=HB02.out.size;clear hB2 k0 k1 k2 hW1;go_wp2_with fail;go_loopw [19] (fun iv wr=> ∃i:Nat,i≤N∧iv= .int .i64 (i:Int)∧Hid (Below w2.heap.size w2 wr)∧Hid (fresh syn [] l=fresh syn (l.take i) (l.drop i))) (fun iv _=>N- (intOf iv).toNat);case atStart=>exact⟨0,Nat.zero_le _,rfl,Below.refl _ _,rfl⟩
   case round=>
    obtain⟨i,hi,rfl,hB,hJ⟩:=hrel;have hsz:=hB.out.size;have HBw:=Lib.hid (HB02.out.trans (hB.out.mono hs2));have hszw:=HBw.out.size;obtain⟨n0,n1,n2⟩:=tb_cells (tb_below HT2.out hB.out);have hl1:=World.block_lt_of_cell? wr _ n0;by_cases hlt:i<N
    ·have hltI:(i:Int)<(N:Int):=(by omega);have hil:i<l.length:=(by rw[HN.out];exact hlt);have hic:i≤cap:=(by omega);have HSt:=Lib.hid (strs_below hl.out HBw.out);obtain⟨b,o,hao,hc0⟩:=HSt.out i hil;subst hao;have HFR:Hid (fresh syn (l.take i) (l.drop i)=(okV syn l[i]&&decide (likeI syn (l.take i) l[i]<0)&&fresh syn (l.take (i+1)) (l.drop (i+1)))):=(by show _=_;rw[List.drop_eq_getElem_cons hil,List.take_succ_eq_append_getElem hil];rfl);have HST:Hid (Strs wr (some ⟨b,o,none⟩) (l.take i)):=(by intro j hj;rw[List.length_take]at hj;obtain⟨b',o',e,hc⟩:=HSt.out j (by omega);rw[List.getElem_take];exact⟨b',o',e,hc⟩);have HFT:Hid (Fit (l.take i)):=fun v hv=>hf.out v (List.mem_of_mem_take hv);have hti:(l.take i).length=i:=(by rw[List.length_take];omega);have hxs:l[i].size≤140737488351232:=hf.out _ (List.getElem_mem _);obtain⟨x,hx⟩: ∃x,l[i]=x:=⟨_,rfl⟩;rw[hx]at HFR hc0 hxs;clear hx;have HEr:=Lib.hid (envE_below hE.out HBw.out);have HC:Hid (∀W,Below wr.heap.size wr W→Calls Tryz.prog 145 #[.agg #[.string nm,.int .i64 syn,.bool sg],.string x] W fun e w'=>e= .returned (.int .i64 (normL syn x.data.toList).2)∧Below W.heap.size W w'):=fun W hb=>check_any nm syn sg x W hxs (Lib.hid (envE_below HEr.out hb).e) (Lib.hid (envE_below HEr.out hb).t);have HK:Hid (∀W,Below wr.heap.size wr W→Calls Tryz.prog 89 #[.agg #[.string nm,.int .i64 syn,.bool sg],.slice (some ⟨b,o,none⟩) i cap,.string x] W fun e w'=>e= .returned (.int .i64 (likeI syn (l.take i) x))∧Below W.heap.size W w'):=fun W hb=>by have:=like_any nm syn sg (some ⟨b,o,none⟩) cap (l.take i) x W (Lib.hid (strs_below HST.out hb)) (by omega) HFT hxs (Lib.hid (envE_below HEr.out hb));rw[hti]at this;exact this
     have HOK:Hid (okV syn x=decide ((normL syn x.data.toList).2=0)):=rfl;clear hti hxs;generalize(normL syn x.data.toList).2=er at HC HOK;generalize likeI syn (l.take i) x=lk at HK HFR;by_cases her:er=0
     ·have q:(er !=0)=false:=(by rw[bne_eq_false_iff_eq];exact her);have HO1:Hid (okV syn x=true):=(by rw[HOK.out];exact decide_eq_true her);clear her;by_cases hlk:lk<0
      ·have q2:decide ((0:Int)≤lk)=false:=decide_eq_false (by omega);have HJ:Hid (fresh syn [] l=fresh syn (l.take (i+1)) (l.drop (i+1))):=(by show _=_;rw[hJ.out,HFR.out,HO1.out,decide_eq_true hlk];rfl);go_wp2_with fail;refine wp_region_held_drew (S:=fun W=>W.cell? ⟨w.heap.size,0,none⟩=some (.string nm)∧W.cell? ⟨w.heap.size,1,none⟩=some (.int .i64 syn)∧W.cell? ⟨w.heap.size,2,none⟩=some (.bool sg)) (by kernel_rfl) (⟨n0,n1,n2⟩) (fun hHeld=> ?_);refine tk 0 ⟨some 24,_,_,_,_,_⟩ rfl ?_;refine tk 1 ⟨some 25,_,_,_,_,_⟩ rfl ?_;refine etw.tc 2 ⟨some 26,_,_,_,_,_⟩ rfl (fun K hK=> ?_);go_simp;go_at_call 145;refine(HC.out _ ((Below.refl wr.heap.size wr).drew)).mono ?_;rintro e w5 ⟨rfl,hB5⟩;refine hK.out _ _ (⟨(hB5.cell (p:=⟨w.heap.size,0,none⟩) hl1).trans (n0),(hB5.cell (p:=⟨w.heap.size,1,none⟩) hl1).trans (n1),(hB5.cell (p:=⟨w.heap.size,2,none⟩) hl1).trans (n2)⟩) (fun hHeld=> ?_);clear hK;try simp only[Act.put,List.setIfInBounds_toArray,List.set_cons_zero,List.set_cons_succ]
       refine tk 3 ⟨some 27,_,_,_,_,_⟩ rfl ?_;refine tk 4 ⟨some 28,_,_,_,_,_⟩ rfl ?_;refine tk 5 ⟨some 29,_,_,_,_,_⟩ rfl ?_;refine tk 6 ⟨some 30,_,_,_,_,_⟩ rfl ?_;refine tk 7 ⟨some 31,_,_,_,_,_⟩ rfl ?_;refine tk 8 ⟨some 32,_,_,_,_,_⟩ rfl ?_;refine tk 9 ⟨some 33,_,_,_,_,_⟩ rfl ?_;refine etw.tc 10 ⟨some 34,_,_,_,_,_⟩ rfl (fun K hK=> ?_);go_simp;go_at_call 89;refine(HK.out _ (((Below.refl wr.heap.size wr).drew).trans hB5)).mono ?_;rintro e w6 ⟨rfl,hB6⟩;refine hK.out _ _ (⟨(hB6.cell (p:=⟨w.heap.size,0,none⟩) (Nat.lt_of_lt_of_le hl1 hB5.size)).trans ((hB5.cell (p:=⟨w.heap.size,0,none⟩) hl1).trans (n0)),(hB6.cell (p:=⟨w.heap.size,1,none⟩) (Nat.lt_of_lt_of_le hl1 hB5.size)).trans ((hB5.cell (p:=⟨w.heap.size,1,none⟩) hl1).trans (n1)),(hB6.cell (p:=⟨w.heap.size,2,none⟩) (Nat.lt_of_lt_of_le hl1 hB5.size)).trans ((hB5.cell (p:=⟨w.heap.size,2,none⟩) hl1).trans (n2))⟩) (fun hHeld=> ?_);clear hK;try simp only[Act.put,List.setIfInBounds_toArray,List.set_cons_zero,List.set_cons_succ]
       refine tk 11 ⟨some 35,_,_,_,_,_⟩ rfl ?_;refine tk 12 ⟨some 36,_,_,_,_,_⟩ rfl ?_;refine wpAnyH_done (by kernel_rfl) ?_ _;have HB6:=Lib.hid (hB.out.trans ((((Below.refl wr.heap.size wr).drew.trans hB5).trans (hB6.mono hB5.size)).mono hsz));clear hB5 hB6 hHeld n0 n1 n2 hc0;go_wp2_with fail;go_roundw;case rel=>exact⟨i+1,by omega,by go_num,HB6,HJ⟩
       case measure=>simp[intOf];omega
      ·have q2:decide ((0:Int)≤lk)=true:=decide_eq_true (by omega);have HJ:Hid (fresh syn [] l=false):=(by show _=_;rw[hJ.out,HFR.out,decide_eq_false hlk,Bool.and_false,Bool.false_and]);go_wp2_with fail;refine wp_region_held_drew (S:=fun W=>W.cell? ⟨w.heap.size,0,none⟩=some (.string nm)∧W.cell? ⟨w.heap.size,1,none⟩=some (.int .i64 syn)∧W.cell? ⟨w.heap.size,2,none⟩=some (.bool sg)) (by kernel_rfl) (⟨n0,n1,n2⟩) (fun hHeld=> ?_);refine tk 0 ⟨some 24,_,_,_,_,_⟩ rfl ?_;refine tk 1 ⟨some 25,_,_,_,_,_⟩ rfl ?_;refine etw.tc 2 ⟨some 26,_,_,_,_,_⟩ rfl (fun K hK=> ?_);go_simp;go_at_call 145;refine(HC.out _ ((Below.refl wr.heap.size wr).drew)).mono ?_;rintro e w5 ⟨rfl,hB5⟩;refine hK.out _ _ (⟨(hB5.cell (p:=⟨w.heap.size,0,none⟩) hl1).trans (n0),(hB5.cell (p:=⟨w.heap.size,1,none⟩) hl1).trans (n1),(hB5.cell (p:=⟨w.heap.size,2,none⟩) hl1).trans (n2)⟩) (fun hHeld=> ?_);clear hK;try simp only[Act.put,List.setIfInBounds_toArray,List.set_cons_zero,List.set_cons_succ]
       refine tk 3 ⟨some 27,_,_,_,_,_⟩ rfl ?_;refine tk 4 ⟨some 28,_,_,_,_,_⟩ rfl ?_;refine tk 5 ⟨some 29,_,_,_,_,_⟩ rfl ?_;refine tk 6 ⟨some 30,_,_,_,_,_⟩ rfl ?_;refine tk 7 ⟨some 31,_,_,_,_,_⟩ rfl ?_;refine tk 8 ⟨some 32,_,_,_,_,_⟩ rfl ?_;refine tk 9 ⟨some 33,_,_,_,_,_⟩ rfl ?_;refine etw.tc 10 ⟨some 34,_,_,_,_,_⟩ rfl (fun K hK=> ?_);go_simp;go_at_call 89;refine(HK.out _ (((Below.refl wr.heap.size wr).drew).trans hB5)).mono ?_;rintro e w6 ⟨rfl,hB6⟩;refine hK.out _ _ (⟨(hB6.cell (p:=⟨w.heap.size,0,none⟩) (Nat.lt_of_lt_of_le hl1 hB5.size)).trans ((hB5.cell (p:=⟨w.heap.size,0,none⟩) hl1).trans (n0)),(hB6.cell (p:=⟨w.heap.size,1,none⟩) (Nat.lt_of_lt_of_le hl1 hB5.size)).trans ((hB5.cell (p:=⟨w.heap.size,1,none⟩) hl1).trans (n1)),(hB6.cell (p:=⟨w.heap.size,2,none⟩) (Nat.lt_of_lt_of_le hl1 hB5.size)).trans ((hB5.cell (p:=⟨w.heap.size,2,none⟩) hl1).trans (n2))⟩) (fun hHeld=> ?_);clear hK;try simp only[Act.put,List.setIfInBounds_toArray,List.set_cons_zero,List.set_cons_succ]
       refine tk 11 ⟨some 35,_,_,_,_,_⟩ rfl ?_;refine tk 12 ⟨some 36,_,_,_,_,_⟩ rfl ?_;refine wpAnyH_done (by kernel_rfl) ?_ _;have HB6:=Lib.hid (HBw.out.trans ((((Below.refl wr.heap.size wr).drew.trans hB5).trans (hB6.mono hB5.size)).mono hszw));clear hB5 hB6 hHeld n0 n1 n2 hc0;go_wp2_with fail;go_ret;exact⟨kt.ret_bool HJ.out.symm,HB6.out⟩
     ·have q:(er !=0)=true:=(by rw[bne_iff_ne];exact her);have HJ:Hid (fresh syn [] l=false):=(by show _=_;rw[hJ.out,HFR.out,HOK.out,decide_eq_false her];rfl);clear her;go_wp2_with fail;refine wp_region_held_drew (S:=fun W=>W.cell? ⟨w.heap.size,0,none⟩=some (.string nm)∧W.cell? ⟨w.heap.size,1,none⟩=some (.int .i64 syn)∧W.cell? ⟨w.heap.size,2,none⟩=some (.bool sg)) (by kernel_rfl) (⟨n0,n1,n2⟩) (fun hHeld=> ?_);refine tk 0 ⟨some 24,_,_,_,_,_⟩ rfl ?_;refine tk 1 ⟨some 25,_,_,_,_,_⟩ rfl ?_;refine etw.tc 2 ⟨some 26,_,_,_,_,_⟩ rfl (fun K hK=> ?_);go_simp;go_at_call 145;refine(HC.out _ ((Below.refl wr.heap.size wr).drew)).mono ?_;rintro e w5 ⟨rfl,hB5⟩;refine hK.out _ _ (⟨(hB5.cell (p:=⟨w.heap.size,0,none⟩) hl1).trans (n0),(hB5.cell (p:=⟨w.heap.size,1,none⟩) hl1).trans (n1),(hB5.cell (p:=⟨w.heap.size,2,none⟩) hl1).trans (n2)⟩) (fun hHeld=> ?_);clear hK;try simp only[Act.put,List.setIfInBounds_toArray,List.set_cons_zero,List.set_cons_succ]
      refine tk 3 ⟨some 27,_,_,_,_,_⟩ rfl ?_;refine tk 4 ⟨some 28,_,_,_,_,_⟩ rfl ?_;refine tu 5 ⟨some 29,_,_,_,_,_⟩ rfl ?_;refine tu 6 ⟨some 30,_,_,_,_,_⟩ rfl ?_;refine tu 7 ⟨some 31,_,_,_,_,_⟩ rfl ?_;refine tu 8 ⟨some 32,_,_,_,_,_⟩ rfl ?_;refine tu 9 ⟨some 33,_,_,_,_,_⟩ rfl ?_;refine tu 10 ⟨some 34,_,_,_,_,_⟩ rfl ?_;refine tu 11 ⟨some 35,_,_,_,_,_⟩ rfl ?_;refine tk 12 ⟨some 36,_,_,_,_,_⟩ rfl ?_;refine wpAnyH_done (by kernel_rfl) ?_ _;have HB5:=Lib.hid (HBw.out.trans (((Below.refl wr.heap.size wr).drew.trans hB5).mono hszw));clear hB5 hHeld n0 n1 n2 hc0;go_wp2_with fail;go_ret;exact⟨kt.ret_bool HJ.out.symm,HB5.out⟩
    ·obtain rfl:N=i:=(by omega);have HJ:Hid (fresh syn [] l=true):=(by show _=_;rw[hJ.out,←HN.out,List.drop_length];rfl);go_wp2_with fail;go_ret;exact⟨kt.ret_bool HJ.out.symm,HBw.out⟩
  ·have d2:decide (M<N)=true:=decide_eq_true (by omega);have HRES:Hid ((decide (1≤N)&&decide (N≤M)&&fresh syn [] l)=false):=(by show _=_;rw[decide_eq_false h2,Bool.and_false,Bool.false_and]);go_enter Tryz.func133,Tryz.ntmps133;go_wp2_with fail;refine(HR.out _).mono ?_;rintro e w2 ⟨rfl,hB2⟩;have HB02:=Lib.hid (HB1.out.trans (hB2.mono hs1));clear hB2 k0 k1 k2 hW1;go_wp2_with fail;go_ret;exact⟨kt.ret_bool HRES.out.symm,HB02.out⟩
 ·have d1:decide ((N:Int)<1)=true:=decide_eq_true (by omega);have d1':decide (N<1)=true:=decide_eq_true (by omega);have HRES:Hid ((decide (1≤N)&&decide (N≤M)&&fresh syn [] l)=false):=by show _=_;rw[decide_eq_false h1];rfl
  obtain rfl:N=0:=by omega
  clear h1;go_enter Tryz.func133,Tryz.ntmps133;go_wp2_with fail;go_ret;exact⟨kt.ret_bool HRES.out.symm,HB1.out⟩
end etw
open Go.RowKit
namespace dnw
open dnp
theorem dkey_any (ao:Option Addr)(cap:Nat)(l:List Av)(w:World)(hA:Hid (Avas w ao l))(hE:Hid (prw.Env w))(hT:Hid (Tabs w))(hS:Hid (l.length≤4→Smalls l))(hc:l.length≤cap):
  Calls Tryz.prog 132 #[.slice ao l.length cap] w fun e w'=>KeyE l e∧Below w.heap.size w w':=by
 have CR:=rightRdn_any ao cap l w hA hE hS hc;have CK:rdnOK l=true→Hid (∀W,Below w.heap.size w W→Calls Tryz.prog 191 #[.slice ao l.length cap] W fun e w'=>e= .returned (.string (bytes (keyL l)))∧Below W.heap.size W w'):=fun h W hb=>key_any ao cap l W (Lib.hid (avas_below hA.out hb)) (Lib.hid (prw.env_below hE.out hb)) (Lib.hid (tabs_below hT.out hb)) h;obtain⟨m,hm⟩: ∃m,m=l.length:=⟨_,rfl⟩;rw[←hm]at CR CK ⊢;clear hm hc;cases hok:rdnOK l with
 | false=>rw[hok]at CR;have HC:=Lib.hid CR;have HN:=Lib.hid (keyE_no hok);clear CR CK hok;go_enter Tryz.func132,Tryz.ntmps132;go_wp2_with fail;refine HC.out.mono ?_;rintro e w1 ⟨rfl,hB1⟩;go_wp2_with fail;go_ret2;exact⟨HN.out,hB1⟩
 | true=>rw[hok]at CR;have HC:=Lib.hid CR;have HN:=Lib.hid (keyE_yes hok);have HK:=CK hok;clear CR CK hok;go_enter Tryz.func132,Tryz.ntmps132;go_wp2_with fail;refine HC.out.mono ?_;rintro e w1 ⟨rfl,hB1⟩;have HK1:=Lib.hid (HK.out w1 hB1);go_wp2_with fail;refine HK1.out.mono ?_;rintro e w2 ⟨rfl,hB2⟩;go_wp2_with fail;go_ret2;exact⟨HN.out,hB1.trans (hB2.mono hB1.size)⟩
end dnw
end Go.Proofs.YtmnpfkbjpeaemaaGreatDoor
