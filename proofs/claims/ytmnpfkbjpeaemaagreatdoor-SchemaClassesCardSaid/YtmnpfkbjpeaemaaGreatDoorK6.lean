/- One text out of several: SchM, ParseV, NormP, NumW, NumV, PhoneW, KeysW, FormW, PartR, CmpP, LessW, RKeyW, RKeyX, RKeysW, SpecW, PairW. -/
import Derived.Test.YtmnpfkbjpeaemaaGreatDoorK5
import Derived.Lib.AtoiAll
import Derived.Test.YtmnpfkbjpeaemaaGreatDoorK1
import Derived.Test.YtmnpfkbjpeaemaaGreatDoorRows
import Derived.Test.YtmnpfkbjpeaemaaGreatDoorK2
import Derived.Test.YtmnpfkbjpeaemaaGreatDoorK4
import Derived.Lib.Bytealg
import Derived.Deep.QuietTactic
import Derived.BigQuiet
import Derived.ChangeKeysEq
set_option linter.unusedVariables false
set_option linter.unusedSimpArgs false
set_option maxRecDepth 20000
set_option maxHeartbeats 8000000
namespace Go.Proofs.YtmnpfkbjpeaemaaGreatDoor
open Go.RowKit
namespace scw
open scp atw etw
open Go.Sort
def rawMS (k:Nat):List T:=List.getD [[[111,98,106,101,99,116,99,108,97,115,115]],[[100,99],[111,98,106,101,99,116,99,108,97,115,115]],[[111],[111,98,106,101,99,116,99,108,97,115,115]],[[111,98,106,101,99,116,99,108,97,115,115],[111,117]],[[99,110],[111,98,106,101,99,116,99,108,97,115,115],[115,110]],[[99,110],[111,98,106,101,99,116,99,108,97,115,115],[115,110]],[[99,110],[111,98,106,101,99,116,99,108,97,115,115],[115,110]],[[111,98,106,101,99,116,99,108,97,115,115],[117,105,100]],[[99,110],[109,101,109,98,101,114],[111,98,106,101,99,116,99,108,97,115,115]],[[99,110],[111,98,106,101,99,116,99,108,97,115,115]],[[111,98,106,101,99,116,99,108,97,115,115],[117,105,100]],[[111,98,106,101,99,116,99,108,97,115,115]],[[111,98,106,101,99,116,99,108,97,115,115],[117,115,101,114,112,97,115,115,119,111,114,100]]] k []
def rawYS (k:Nat):List T:=List.getD [[],[[100,101,115,99,114,105,112,116,105,111,110],[108],[111],[115,101,101,97,108,115,111]],[[100,101,115,99,114,105,112,116,105,111,110],[108],[115,101,101,97,108,115,111],[116,101,108,101,112,104,111,110,101,110,117,109,98,101,114]],[[100,101,115,99,114,105,112,116,105,111,110],[108],[115,101,101,97,108,115,111],[116,101,108,101,112,104,111,110,101,110,117,109,98,101,114]],[[100,101,115,99,114,105,112,116,105,111,110],[115,101,101,97,108,115,111],[116,101,108,101,112,104,111,110,101,110,117,109,98,101,114],[117,115,101,114,112,97,115,115,119,111,114,100]],[[100,101,115,99,114,105,112,116,105,111,110],[108],[111,117],[115,101,101,97,108,115,111],[116,101,108,101,112,104,111,110,101,110,117,109,98,101,114],[116,105,116,108,101],[117,115,101,114,112,97,115,115,119,111,114,100]],[[100,101,115,99,114,105,112,116,105,111,110],[108],[109,97,105,108],[111],[111,117],[112,104,111,116,111],[115,101,101,97,108,115,111],[116,101,108,101,112,104,111,110,101,110,117,109,98,101,114],[116,105,116,108,101],[117,105,100],[117,115,101,114,112,97,115,115,119,111,114,100]],[[100,101,115,99,114,105,112,116,105,111,110],[108],[111],[111,117],[115,101,101,97,108,115,111]],[[100,101,115,99,114,105,112,116,105,111,110],[111],[111,117],[115,101,101,97,108,115,111]],[[100,101,115,99,114,105,112,116,105,111,110],[108],[111],[111,117],[115,101,101,97,108,115,111],[115,101,114,105,97,108,110,117,109,98,101,114]],[],[[101,110,97,98,108,101,100],[108,105,109,105,116],[117,105,100,110,117,109,98,101,114]],[]] k []
theorem rawM_perm: ∀k:Fin 13,((rawMust k.val).filter fun x=> !emptyL x).Perm (rawMS k.val):=by decide+kernel
theorem rawY_perm: ∀k:Fin 13,((rawMay k.val).filter fun x=> !emptyL x).Perm (rawYS k.val):=by decide+kernel
theorem rawM_sort: ∀k:Fin 13,(rawMS k.val).Pairwise (fun a b=>decide (a≤b)=true):=by decide+kernel
theorem rawY_sort: ∀k:Fin 13,(rawYS k.val).Pairwise (fun a b=>decide (a≤b)=true):=by decide+kernel
theorem rawM_comp: ∀k:Fin 13,Lib.compact (rawMS k.val)=mustK k.val:=by decide+kernel
theorem rawY_comp: ∀k:Fin 13,Lib.compact (rawYS k.val)=mayK k.val:=by decide+kernel
theorem tidy_of {l m r:List T}(h1:(l.filter fun x=> !emptyL x).Perm m)(h2:m.Pairwise (fun a b=>decide (a≤b)=true))(h3:Lib.compact m=r):tidyL l=r:=by
 unfold tidyL;rw[dnw.sortL_perm h1];have:dnw.sortL m=m:=by unfold dnw.sortL;exact List.mergeSort_of_pairwise h2
 rw[this,h3]
def mustN (n:T):List T:=match idx n with
 | some k=>mustK k
 | none=>[]
def mayN (n:T):List T:=match idx n with
 | some k=>mayK k
 | none=>[]
def aboveN (n:T):List T:=match idx n with
 | some k=>aboveK k
 | none=>[]
theorem tidy_must (n:T):tidyL ((lineN n).flatMap fun k=>(clsA k).must)=mustN n:=by
 unfold lineN mustN;cases h:idx n with
 | none=>exact tidy_of (m:=[]) (by decide) (by decide) (by decide)
 | some k=>exact tidy_of (rawM_perm ⟨k,idx_lt h⟩) (rawM_sort ⟨k,idx_lt h⟩) (rawM_comp ⟨k,idx_lt h⟩)
theorem tidy_may (n:T):tidyL ((lineN n).flatMap fun k=>(clsA k).may)=mayN n:=by
 unfold lineN mayN;cases h:idx n with
 | none=>exact tidy_of (m:=[]) (by decide) (by decide) (by decide)
 | some k=>exact tidy_of (rawY_perm ⟨k,idx_lt h⟩) (rawY_sort ⟨k,idx_lt h⟩) (rawY_comp ⟨k,idx_lt h⟩)
theorem line_lt {n:T}: ∀k∈lineN n,k<13:=by
 intro k hk;unfold lineN at hk;cases h:idx n with
 | none=>rw[h]at hk;cases hk
 | some j=>rw[h]at hk;exact lineK_lt ⟨j,idx_lt h⟩ k hk
theorem line_len (n:T):(lineN n).length≤4:=lineO_len _ fun k h=>idx_lt h
theorem ownC_at {w:World}{B:Nat}{ao:Option Addr}{n cap:Nat}{l:List Nat}(h:OwnC w B (.slice ao n cap) l){i:Nat}(hi:i<l.length): ∃g,ao=some ⟨g,0,none⟩∧CA w g (i*11) (clsA l[i]):=by
 have hn:n=l.length:=by have:=ownC_len h;exact this
 subst hn;obtain⟨g,rfl,hc,_⟩:=kt.rowS_some h (by omega);refine⟨g,rfl,fun j v hv=>hc _ _ ?_⟩;have hj:j<11:=(List.getElem?_eq_some_iff.1 hv).1;rw[kt.flat_get (fun k=>clsV (clsA k)) 11 (fun k=>rfl) l i j hi hj];exact hv
theorem ownS_below {w w':World}{B:Nat}{v:Value}{l:List T}(h:OwnS w B v l)(hb:Below w.heap.size w w'):OwnS w' B v l:=kt.row_below h hb
theorem ownS_mono {w:World}{B D:Nat}{v:Value}{l:List T}(h:OwnS w B v l)(hc:D≤B):OwnS w D v l:=by
 refine⟨h.1,?_⟩;rcases h.2 with h0 | ⟨g,cap,cur,hv,hBg,hr⟩
 ·exact Or.inl h0
 ·exact Or.inr ⟨g,cap,cur,hv,Nat.le_trans hc hBg,hr⟩
theorem ownS_nil (w:World)(B:Nat):OwnS w B (.slice none 0 0) []:=World.ownsRow_nil w B _ _
theorem ownS_appN {w:World}{B p o m c:Nat}{v:Value}{l:List T}(news:List T)(hm:news.length=m)(hc: ∀j x,news[j]? =some x→w.cell? ⟨p,o+j,none⟩=some (.string (bs x)))(h:OwnS w B v l)(hl:l.length+m≤100000000)(hB:B≤w.heap.size):
  ∃v' w1,(Builtin.append_ #[35,35] 35 #[v,.slice (some ⟨p,o,none⟩) m c]).run Tryz.prog w= .ok v' w1∧OwnS w1 B v' (l++news)∧Below B w w1:=by
 have hsl:(prw.scells (l.map bs)).length=l.length:=by rw[prw.scells_length,List.length_map]
 obtain⟨v',w1,h1,h2,_,h3⟩:=kt.appN (P:=Tryz.prog) (t:=35) (ty:=35) Tryz.underlying35 prw.infoStr rfl (xs:=prw.scells (l.map bs)) ⟨p,o,none⟩ m c (prw.scells (news.map bs)) (by rw[prw.scells_length,List.length_map];exact hm)
  (fun j u hj=>by
   rw[Addr.add_mid];unfold prw.scells at hj;rw[List.map_map,List.getElem?_map]at hj;cases hx:news[j]? with
   | none=>rw[hx]at hj;cases hj
   | some x=>rw[hx]at hj;cases hj;exact hc j x hx)
  (fun u hu=>by unfold prw.scells at hu;rw[List.map_map,List.mem_map]at hu;obtain⟨x,_,rfl⟩:=hu;rfl) h (by rw[hsl];unfold maxLen;omega) (by rw[hsl];omega) hB
 refine⟨v',w1,h1,?_,h3⟩;unfold OwnS prw.OwnT;have e:prw.scells ((l++news).map bs)=prw.scells (l.map bs)++prw.scells (news.map bs):=by simp[prw.scells]
 rw[e];exact h2
theorem must_two: ∀k:Fin 13,(clsA k.val).must=[(clsA k.val).must.getD 0 [],(clsA k.val).must.getD 1 []]:=by decide+kernel
theorem may_six: ∀k:Fin 13,(clsA k.val).may=[(clsA k.val).may.getD 0 [],(clsA k.val).may.getD 1 [],(clsA k.val).may.getD 2 [],(clsA k.val).may.getD 3 [],(clsA k.val).may.getD 4 [],(clsA k.val).may.getD 5 []]:=by decide+kernel
theorem must_cells {w:World}{p k:Nat}(hk:k<13)(h:CB w p (clsA k)): ∀j x,(clsA k).must[j]? =some x→w.cell? ⟨p,3+j,none⟩=some (.string (bs x)):=by
 intro j x hx;rw[must_two ⟨k,hk⟩]at hx;have hj:j<2:=(List.getElem?_eq_some_iff.1 hx).1;have hr:=h.1 (3+j);rw[Nat.zero_add]at hr;refine hr _ ?_;rcases j with _ | _ | j
 ·cases hx;rfl
 ·cases hx;rfl
 ·omega
theorem may_cells {w:World}{p k:Nat}(hk:k<13)(h:CB w p (clsA k)): ∀j x,(clsA k).may[j]? =some x→w.cell? ⟨p,5+j,none⟩=some (.string (bs x)):=by
 intro j x hx;rw[may_six ⟨k,hk⟩]at hx;have hj:j<6:=(List.getElem?_eq_some_iff.1 hx).1;have hr:=h.1 (5+j);rw[Nat.zero_add]at hr;refine hr _ ?_;rcases j with _ | _ | _ | _ | _ | _ | j
 ·cases hx;rfl
 ·cases hx;rfl
 ·cases hx;rfl
 ·cases hx;rfl
 ·cases hx;rfl
 ·cases hx;rfl
 ·omega
theorem must_len2: ∀k:Fin 13,(clsA k.val).must.length=2∧(clsA k.val).may.length=6:=by decide+kernel
theorem ownS_app1 {w:World}{B:Nat}{v:Value}{l:List T}(x:T)(h:OwnS w B v l)(hl:l.length≤1000000)(hB:B≤w.heap.size):
  ∃v' w1,(Builtin.append_ #[35,35] 35 #[v,.slice (some ⟨w.heap.size,0,none⟩) 1 1]).run Tryz.prog (w.alloc (.cells #[.string (bs x)] 9))= .ok v' w1∧OwnS w1 B v' (l++[x])∧Below B w w1:=by
 obtain⟨v',w1,h1,h2,h3⟩:=prw.ownT_app (bs x) h (by rw[List.length_map];omega) hB;refine⟨v',w1,h1,?_,h3⟩;unfold OwnS;rw[List.map_append];exact h2
theorem above_all: ∀k:Fin 13,aboveK k.val=((lineK k.val).filter fun j=>decide ((clsA j).name≠(clsA k.val).name)).map fun j=>(clsA j).name:=by decide+kernel
theorem above_filter (n:T):aboveN n=((lineN n).filter fun k=>decide ((clsA k).name≠n)).map fun k=>(clsA k).name:=by
 unfold aboveN lineN;cases h:idx n with
 | none=>rfl
 | some k=>have h2:=above_all ⟨k,idx_lt h⟩;rw[(idx_some h).2]at h2;exact h2
theorem lineC_any (n:ByteArray)(w:World):Calls Tryz.prog 83 #[.string n] w fun e w'=> ∃ao cap,e= .returned (.slice ao (lineN n.data.toList).length cap)∧OwnC w' w.heap.size (.slice ao (lineN n.data.toList).length cap) (lineN n.data.toList)∧Below w.heap.size w w':=(sline_any n w).mono fun e w' ⟨v,he,ho,hb⟩=>by obtain⟨ao,cap,rfl,_⟩:=kt.rowS_slice ho;exact⟨ao,cap,he,ho,hb⟩
theorem smust_any (n:ByteArray)(w:World)(hn:n.size≤10000000):
  Calls Tryz.prog 27 #[.string n] w fun e w'=> ∃v,e= .returned v∧OwnS w' w.heap.size v (mustN (sml.lowL n.data.toList))∧Below w.heap.size w w':=by
 obtain⟨nl,hnl⟩: ∃nl,sml.lowL n.data.toList=nl:=⟨_,rfl⟩;have HLO:Hid (∀W,Calls Tryz.prog 82 #[.string n] W fun e w'=>e= .returned (.string (bs nl))∧Below W.heap.size W w'):=fun W=>by rw[←hnl];exact slower_any n W hn
 have HLI:Hid (∀W,Calls Tryz.prog 83 #[.string (bs nl)] W fun e w'=> ∃ao cap,e= .returned (.slice ao (lineN nl).length cap)∧OwnC w' W.heap.size (.slice ao (lineN nl).length cap) (lineN nl)∧Below W.heap.size W w'):=fun W=>lineC_any (bs nl) W;have HRES:Hid (tidyL ((lineN nl).flatMap fun k=>(clsA k).must)=mustN nl):=tidy_must nl;rw[hnl,←HRES.out];have HLK:Hid (∀k∈lineN nl,k<13):=line_lt;have HL4:=line_len nl;clear HRES hnl;generalize lineN nl=ls at HLI HLK HL4 ⊢;obtain⟨N,hN⟩: ∃N,ls.length=N:=⟨_,rfl⟩;rw[hN]at HLI HL4;have HN:=Lib.hid hN;clear hN;go_enter Tryz.func27,Tryz.ntmps27;go_wp2_with fail;refine(HLO.out w).mono ?_;rintro e w1 ⟨rfl,hB1⟩;have HB1:=Lib.hid hB1;have HLI1:=Lib.hid (HLI.out w1);clear hB1 HLI HLO;go_wp2_with fail;refine HLI1.out.mono ?_;rintro e w2 ⟨ao,cap,rfl,hr,hB2⟩;have HB2:=Lib.hid (HB1.out.trans (hB2.mono HB1.out.size));have HR:=Lib.hid hr;clear hB2 hr HLI1;go_wp2_with fail;go_loopw [3,10] (fun lv iv wr=> ∃i:Nat,i≤N∧iv= .int .i64 (i:Int)∧Hid (OwnS wr w2.heap.size lv ((ls.take i).flatMap fun k=>(clsA k).must))∧Hid (Below w2.heap.size w2 wr)∧Hid (((ls.take i).flatMap fun k=>(clsA k).must).length≤6*i)) (fun _ iv _=>N- (intOf iv).toNat);case atStart=>exact⟨0,Nat.zero_le _,rfl,ownS_nil _ _,Below.refl _ _,Nat.le_refl _⟩
 case round=>
  obtain⟨i,hi,rfl,hO,hB,hS⟩:=hrel;have hsz:=hB.out.size;by_cases hlt:i<N
  ·skip
   have hlt':(i:Int)<(N:Int):=(by omega);have hil:i<ls.length:=(by rw[HN.out];exact hlt);obtain⟨g,hg,hca0⟩:=ownC_at HR.out hil;subst hg;have hk:=HLK.out ls[i] (List.getElem_mem _);have HTS:Hid (ls.take (i+1)=ls.take i++[ls[i]]):=(by show _=_;rw[List.take_succ_eq_append_getElem hil]);have hca:=ca_below hca0 hB.out;obtain⟨k,hk0⟩: ∃k,ls[i]=k:=⟨_,rfl⟩;rw[hk0]at hca hk HTS;obtain⟨c0,c1,c2,c3,c4,c5,c6,c7,c8,c9,c10,hv,hx0,hx1,hx2⟩:=cls_letters (clsA k);have HV:=Lib.hid hv;have HX0:=Lib.hid hx0;obtain⟨d0,d1,d2,d3,d4,d5,d6,d7,d8,d9,d10⟩:=ca_cells hca hv;obtain⟨W3,hW3⟩: ∃W,wr.alloc (.cells #[.string c0,.int .i64 c1,.string c2,.string c3,.string c4,.string c5,.string c6,.string c7,.string c8,.string c9,.string c10] 106)=W:=⟨_,rfl⟩;have hB3:Below wr.heap.size wr W3:=(by rw[←hW3];exact(Below.refl _ _).alloc (Nat.le_refl _) _);have HCB:Hid (CB W3 wr.heap.size (clsA k)):=(by rw[←hW3];have:=cb_new wr (clsA k);rw[hv]at this;exact this);obtain⟨g0,g1,g2,g3,g4,g5,g6,g7,g8,g9,g10⟩:=cb_cells HCB.out hv;have HO3:=Lib.hid (ownS_below hO.out hB3);have HB3:=Lib.hid (hB.out.trans (hB3.mono hsz));have hs3:=HB3.out.size;clear hk0 hv hx0 hx1 hx2 hca hca0 hB3;have HFM:Hid (((ls.take (i+1)).flatMap fun k=>(clsA k).must)=((ls.take i).flatMap fun k=>(clsA k).must)++(clsA k).must):=(by show _=_;rw[HTS.out,List.flatMap_append];simp);have hS1:=hS.out;have hlen:(clsA k).must.length=2:=(must_len2 ⟨k,hk⟩).1;obtain⟨v',w4,hrun,ho4,hB4⟩:=ownS_appN (w:=W3) (B:=w2.heap.size) (p:=wr.heap.size) (o:=3) (m:=2) (c:=2) (clsA k).must hlen (must_cells hk HCB.out) HO3.out (by omega) hs3;have HO4:Hid (OwnS w4 w2.heap.size v' ((ls.take (i+1)).flatMap fun k=>(clsA k).must)):=(by show OwnS _ _ _ _;rw[HFM.out];exact ho4);have HB4:=Lib.hid (HB3.out.trans hB4);have HS4:Hid (((ls.take (i+1)).flatMap fun k=>(clsA k).must).length≤6*(i+1)):=(by show _≤_;rw[HFM.out,List.length_append];omega);clear ho4 hB4 hlen hk hS1;go_wp2_with (refine Lib.wpList_append_run _ rfl _ _ _ _ rfl _ _ rfl rfl _ _ hrun ?_);go_roundw;case rel=>exact⟨i+1,by omega,by go_num,HO4,HB4,HS4⟩
   case measure=>simp[intOf];omega
  ·obtain rfl:N=i:=(by omega);have hO2:=hO.out;rw[←HN.out,List.take_length]at hO2;have hS2:=hS.out;rw[←HN.out,List.take_length]at hS2;have HT:=Lib.hid (tidy_any (Lib.hid hO2) (by have:=HN.out;omega) hsz);have HB5:=Lib.hid (HB2.out.trans (hB.out.mono HB2.out.size));have hw2:=HB2.out.size;clear hO2 hS2;go_wp2_with fail;refine HT.out.mono ?_;rintro e w5 ⟨v5,rfl,ho5,hB6⟩;have HO5:=Lib.hid (ownS_mono ho5 hw2);have HB6:=Lib.hid (HB5.out.trans (hB6.mono hw2));clear ho5 hB6;go_wp2_with fail;go_ret;exact⟨_,rfl,HO5.out,HB6.out⟩
theorem smay_any (n:ByteArray)(w:World)(hn:n.size≤10000000):
  Calls Tryz.prog 28 #[.string n] w fun e w'=> ∃v,e= .returned v∧OwnS w' w.heap.size v (mayN (sml.lowL n.data.toList))∧Below w.heap.size w w':=by
 obtain⟨nl,hnl⟩: ∃nl,sml.lowL n.data.toList=nl:=⟨_,rfl⟩;have HLO:Hid (∀W,Calls Tryz.prog 82 #[.string n] W fun e w'=>e= .returned (.string (bs nl))∧Below W.heap.size W w'):=fun W=>by rw[←hnl];exact slower_any n W hn
 have HLI:Hid (∀W,Calls Tryz.prog 83 #[.string (bs nl)] W fun e w'=> ∃ao cap,e= .returned (.slice ao (lineN nl).length cap)∧OwnC w' W.heap.size (.slice ao (lineN nl).length cap) (lineN nl)∧Below W.heap.size W w'):=fun W=>lineC_any (bs nl) W;have HRES:Hid (tidyL ((lineN nl).flatMap fun k=>(clsA k).may)=mayN nl):=tidy_may nl;rw[hnl,←HRES.out];have HLK:Hid (∀k∈lineN nl,k<13):=line_lt;have HL4:=line_len nl;clear HRES hnl;generalize lineN nl=ls at HLI HLK HL4 ⊢;obtain⟨N,hN⟩: ∃N,ls.length=N:=⟨_,rfl⟩;rw[hN]at HLI HL4;have HN:=Lib.hid hN;clear hN;go_enter Tryz.func28,Tryz.ntmps28;go_wp2_with fail;refine(HLO.out w).mono ?_;rintro e w1 ⟨rfl,hB1⟩;have HB1:=Lib.hid hB1;have HLI1:=Lib.hid (HLI.out w1);clear hB1 HLI HLO;go_wp2_with fail;refine HLI1.out.mono ?_;rintro e w2 ⟨ao,cap,rfl,hr,hB2⟩;have HB2:=Lib.hid (HB1.out.trans (hB2.mono HB1.out.size));have HR:=Lib.hid hr;clear hB2 hr HLI1;go_wp2_with fail;go_loopw [3,10] (fun lv iv wr=> ∃i:Nat,i≤N∧iv= .int .i64 (i:Int)∧Hid (OwnS wr w2.heap.size lv ((ls.take i).flatMap fun k=>(clsA k).may))∧Hid (Below w2.heap.size w2 wr)∧Hid (((ls.take i).flatMap fun k=>(clsA k).may).length≤6*i)) (fun _ iv _=>N- (intOf iv).toNat);case atStart=>exact⟨0,Nat.zero_le _,rfl,ownS_nil _ _,Below.refl _ _,Nat.le_refl _⟩
 case round=>
  obtain⟨i,hi,rfl,hO,hB,hS⟩:=hrel;have hsz:=hB.out.size;by_cases hlt:i<N
  ·skip
   have hlt':(i:Int)<(N:Int):=(by omega);have hil:i<ls.length:=(by rw[HN.out];exact hlt);obtain⟨g,hg,hca0⟩:=ownC_at HR.out hil;subst hg;have hk:=HLK.out ls[i] (List.getElem_mem _);have HTS:Hid (ls.take (i+1)=ls.take i++[ls[i]]):=(by show _=_;rw[List.take_succ_eq_append_getElem hil]);have hca:=ca_below hca0 hB.out;obtain⟨k,hk0⟩: ∃k,ls[i]=k:=⟨_,rfl⟩;rw[hk0]at hca hk HTS;obtain⟨c0,c1,c2,c3,c4,c5,c6,c7,c8,c9,c10,hv,hx0,hx1,hx2⟩:=cls_letters (clsA k);have HV:=Lib.hid hv;have HX0:=Lib.hid hx0;obtain⟨d0,d1,d2,d3,d4,d5,d6,d7,d8,d9,d10⟩:=ca_cells hca hv;obtain⟨W3,hW3⟩: ∃W,wr.alloc (.cells #[.string c0,.int .i64 c1,.string c2,.string c3,.string c4,.string c5,.string c6,.string c7,.string c8,.string c9,.string c10] 106)=W:=⟨_,rfl⟩;have hB3:Below wr.heap.size wr W3:=(by rw[←hW3];exact(Below.refl _ _).alloc (Nat.le_refl _) _);have HCB:Hid (CB W3 wr.heap.size (clsA k)):=(by rw[←hW3];have:=cb_new wr (clsA k);rw[hv]at this;exact this);obtain⟨g0,g1,g2,g3,g4,g5,g6,g7,g8,g9,g10⟩:=cb_cells HCB.out hv;have HO3:=Lib.hid (ownS_below hO.out hB3);have HB3:=Lib.hid (hB.out.trans (hB3.mono hsz));have hs3:=HB3.out.size;clear hk0 hv hx0 hx1 hx2 hca hca0 hB3;have HFM:Hid (((ls.take (i+1)).flatMap fun k=>(clsA k).may)=((ls.take i).flatMap fun k=>(clsA k).may)++(clsA k).may):=(by show _=_;rw[HTS.out,List.flatMap_append];simp);have hS1:=hS.out;have hlen:(clsA k).may.length=6:=(must_len2 ⟨k,hk⟩).2;obtain⟨v',w4,hrun,ho4,hB4⟩:=ownS_appN (w:=W3) (B:=w2.heap.size) (p:=wr.heap.size) (o:=5) (m:=6) (c:=6) (clsA k).may hlen (may_cells hk HCB.out) HO3.out (by omega) hs3;have HO4:Hid (OwnS w4 w2.heap.size v' ((ls.take (i+1)).flatMap fun k=>(clsA k).may)):=(by show OwnS _ _ _ _;rw[HFM.out];exact ho4);have HB4:=Lib.hid (HB3.out.trans hB4);have HS4:Hid (((ls.take (i+1)).flatMap fun k=>(clsA k).may).length≤6*(i+1)):=(by show _≤_;rw[HFM.out,List.length_append];omega);clear ho4 hB4 hlen hk hS1;go_wp2_with (refine Lib.wpList_append_run _ rfl _ _ _ _ rfl _ _ rfl rfl _ _ hrun ?_);go_roundw;case rel=>exact⟨i+1,by omega,by go_num,HO4,HB4,HS4⟩
   case measure=>simp[intOf];omega
  ·obtain rfl:N=i:=(by omega);have hO2:=hO.out;rw[←HN.out,List.take_length]at hO2;have hS2:=hS.out;rw[←HN.out,List.take_length]at hS2;have HT:=Lib.hid (tidy_any (Lib.hid hO2) (by have:=HN.out;omega) hsz);have HB5:=Lib.hid (HB2.out.trans (hB.out.mono HB2.out.size));have hw2:=HB2.out.size;clear hO2 hS2;go_wp2_with fail;refine HT.out.mono ?_;rintro e w5 ⟨v5,rfl,ho5,hB6⟩;have HO5:=Lib.hid (ownS_mono ho5 hw2);have HB6:=Lib.hid (HB5.out.trans (hB6.mono hw2));clear ho5 hB6;go_wp2_with fail;go_ret;exact⟨_,rfl,HO5.out,HB6.out⟩
theorem sabove_any (n:ByteArray)(w:World)(hn:n.size≤10000000):
  Calls Tryz.prog 29 #[.string n] w fun e w'=> ∃v,e= .returned v∧OwnS w' w.heap.size v (aboveN (sml.lowL n.data.toList))∧Below w.heap.size w w':=by
 obtain⟨nl,hnl⟩: ∃nl,sml.lowL n.data.toList=nl:=⟨_,rfl⟩;have HLO:Hid (∀W,Calls Tryz.prog 82 #[.string n] W fun e w'=>e= .returned (.string (bs nl))∧Below W.heap.size W w'):=fun W=>by rw[←hnl];exact slower_any n W hn
 have HLI:Hid (∀W,Calls Tryz.prog 83 #[.string (bs nl)] W fun e w'=> ∃ao cap,e= .returned (.slice ao (lineN nl).length cap)∧OwnC w' W.heap.size (.slice ao (lineN nl).length cap) (lineN nl)∧Below W.heap.size W w'):=fun W=>lineC_any (bs nl) W;have HRES:Hid (aboveN nl=((lineN nl).filter fun k=>decide ((clsA k).name≠nl)).map fun k=>(clsA k).name):=above_filter nl;rw[hnl,HRES.out];have HLK:Hid (∀k∈lineN nl,k<13):=line_lt;have HL4:=line_len nl;clear HRES hnl;generalize lineN nl=ls at HLI HLK HL4 ⊢;obtain⟨N,hN⟩: ∃N,ls.length=N:=⟨_,rfl⟩;rw[hN]at HLI HL4;have HN:=Lib.hid hN;have HLO1:=Lib.hid (HLO.out w);clear hN;go_enter Tryz.func29,Tryz.ntmps29;go_wp2_with fail;refine HLO1.out.mono ?_;rintro e w1 ⟨rfl,hB1⟩;have HB1:=Lib.hid hB1;have HLI1:=Lib.hid (HLI.out w1);clear hB1 HLI HLO1;go_wp2_with fail;refine HLI1.out.mono ?_;rintro e w2 ⟨ao,cap,rfl,hr,hB2⟩;have HB2:=Lib.hid (HB1.out.trans (hB2.mono HB1.out.size));have HR:=Lib.hid hr;clear hB2 hr HLI1;go_wp2_with fail;go_loopw [3,10] (fun lv iv wr=> ∃i:Nat,i≤N∧iv= .int .i64 (i:Int)∧Hid (OwnS wr w2.heap.size lv (((ls.take i).filter fun k=>decide ((clsA k).name≠nl)).map fun k=>(clsA k).name))∧Hid (Below w2.heap.size w2 wr)) (fun _ iv _=>N- (intOf iv).toNat);case atStart=>exact⟨0,Nat.zero_le _,rfl,ownS_nil _ _,Below.refl _ _⟩
 case round=>
  obtain⟨i,hi,rfl,hO,hB⟩:=hrel;have hsz:=hB.out.size;by_cases hlt:i<N
  ·skip
   have hlt':(i:Int)<(N:Int):=(by omega);have hil:i<ls.length:=(by rw[HN.out];exact hlt);obtain⟨g,hg,hca0⟩:=ownC_at HR.out hil;subst hg;have hk:=HLK.out ls[i] (List.getElem_mem _);have HTS:Hid (ls.take (i+1)=ls.take i++[ls[i]]):=(by show _=_;rw[List.take_succ_eq_append_getElem hil]);have hca:=ca_below hca0 hB.out;obtain⟨k,hk0⟩: ∃k,ls[i]=k:=⟨_,rfl⟩;rw[hk0]at hca hk HTS;obtain⟨c0,c1,c2,c3,c4,c5,c6,c7,c8,c9,c10,hv,hx0,hx1,hx2⟩:=cls_letters (clsA k);have HV:=Lib.hid hv;have HX0:=Lib.hid hx0;obtain⟨d0,d1,d2,d3,d4,d5,d6,d7,d8,d9,d10⟩:=ca_cells hca hv;obtain⟨W3,hW3⟩: ∃W,wr.alloc (.cells #[.string c0,.int .i64 c1,.string c2,.string c3,.string c4,.string c5,.string c6,.string c7,.string c8,.string c9,.string c10] 106)=W:=⟨_,rfl⟩;have hB3:Below wr.heap.size wr W3:=(by rw[←hW3];exact(Below.refl _ _).alloc (Nat.le_refl _) _);have HCB:Hid (CB W3 wr.heap.size (clsA k)):=(by rw[←hW3];have:=cb_new wr (clsA k);rw[hv]at this;exact this);obtain⟨g0,g1,g2,g3,g4,g5,g6,g7,g8,g9,g10⟩:=cb_cells HCB.out hv;have HO3:=Lib.hid (ownS_below hO.out hB3);have HB3:=Lib.hid (hB.out.trans (hB3.mono hsz));have hs3:=HB3.out.size;clear hk0 hv hx0 hx1 hx2 hca hca0 hB3;have HLO4:=Lib.hid (HLO.out W3.drew);have hl3:=World.block_lt_of_cell? W3 _ g0;have hbq:(c0.toList==(bs nl).toList)=decide ((clsA k).name=nl):=(by rw[HX0.out,bs_beq]);have hlen:(((ls.take i).filter fun k=>decide ((clsA k).name≠nl)).map fun k=>(clsA k).name).length≤13:=(by rw[List.length_map];have h1:=List.length_filter_le (fun k=>decide ((clsA k).name≠nl)) (ls.take i);rw[List.length_take]at h1;omega);by_cases he:(clsA k).name=nl
   ·rw[decide_eq_true he]at hbq;have HFM:Hid ((((ls.take (i+1)).filter fun k=>decide ((clsA k).name≠nl)).map fun k=>(clsA k).name)=(((ls.take i).filter fun k=>decide ((clsA k).name≠nl)).map fun k=>(clsA k).name)):=(by show _=_;rw[HTS.out,List.filter_append,List.map_append];simp[he]);clear he hlen hk;go_wp2_with fail;refine wp_region_held_drew (S:=fun W=>W.cell? ⟨wr.heap.size,0,none⟩=some (.string c0)) (by kernel_rfl) (g0) (fun hHeld=> ?_);refine tk 0 ⟨some 14,_,_,_,_,_⟩ rfl ?_;refine tk 1 ⟨some 15,_,_,_,_,_⟩ rfl ?_;refine tk 2 ⟨some 16,_,_,_,_,_⟩ rfl ?_;refine tc 3 ⟨some 17,_,_,_,_,_⟩ rfl (fun K hK=> ?_);go_simp;go_at_call 82;refine HLO4.out.mono ?_;rintro e w4 ⟨rfl,hB4⟩;refine hK.out _ _ ((((Below.refl W3.heap.size W3).drew.trans hB4).cell (p:=⟨wr.heap.size,0,none⟩) hl3).trans (g0)) (fun hHeld=> ?_);clear hK;try simp only[Act.put,List.setIfInBounds_toArray,List.set_cons_zero,List.set_cons_succ]
    refine tk 4 ⟨some 18,_,_,_,_,_⟩ rfl ?_;refine wpAnyH_done (by kernel_rfl) ?_ _;have hB45:=(Below.refl W3.heap.size W3).drew.trans hB4;have HO4:Hid (OwnS w4 w2.heap.size u3 (((ls.take (i+1)).filter fun k=>decide ((clsA k).name≠nl)).map fun k=>(clsA k).name)):=(by show OwnS _ _ _ _;rw[HFM.out];exact ownS_below HO3.out hB45);have HB4:=Lib.hid (HB3.out.trans (hB45.mono hs3));clear hB4 hB45 hHeld g0 g1 g2 g3 g4 g5 g6 g7 g8 g9 g10 d0 d1 d2 d3 d4 d5 d6 d7 d8 d9 d10;go_wp2_with fail;go_roundw;case rel=>exact⟨i+1,by omega,by go_num,HO4,HB4⟩
    case measure=>simp[intOf];omega
   ·rw[decide_eq_false he]at hbq;have HFM:Hid ((((ls.take (i+1)).filter fun k=>decide ((clsA k).name≠nl)).map fun k=>(clsA k).name)=(((ls.take i).filter fun k=>decide ((clsA k).name≠nl)).map fun k=>(clsA k).name)++[(clsA k).name]):=(by show _=_;rw[HTS.out,List.filter_append,List.map_append];simp[he]);clear he hk;go_wp2_with fail;refine wp_region_held_drew (S:=fun W=>W.cell? ⟨wr.heap.size,0,none⟩=some (.string c0)) (by kernel_rfl) (g0) (fun hHeld=> ?_);refine tk 0 ⟨some 14,_,_,_,_,_⟩ rfl ?_;refine tk 1 ⟨some 15,_,_,_,_,_⟩ rfl ?_;refine tk 2 ⟨some 16,_,_,_,_,_⟩ rfl ?_;refine tc 3 ⟨some 17,_,_,_,_,_⟩ rfl (fun K hK=> ?_);go_simp;go_at_call 82;refine HLO4.out.mono ?_;rintro e w4 ⟨rfl,hB4⟩;refine hK.out _ _ ((((Below.refl W3.heap.size W3).drew.trans hB4).cell (p:=⟨wr.heap.size,0,none⟩) hl3).trans (g0)) (fun hHeld=> ?_);clear hK;try simp only[Act.put,List.setIfInBounds_toArray,List.set_cons_zero,List.set_cons_succ]
    refine tk 4 ⟨some 18,_,_,_,_,_⟩ rfl ?_;refine wpAnyH_done (by kernel_rfl) ?_ _;have hB45:=(Below.refl W3.heap.size W3).drew.trans hB4;obtain⟨v',w5,hrun,ho5,hB5⟩:=ownS_app1 (w:=w4) (B:=w2.heap.size) (clsA k).name (ownS_below HO3.out hB45) (by omega) (Nat.le_trans hs3 hB45.size);rw[←HX0.out]at hrun;have HO4:Hid (OwnS w5 w2.heap.size v' (((ls.take (i+1)).filter fun k=>decide ((clsA k).name≠nl)).map fun k=>(clsA k).name)):=(by show OwnS _ _ _ _;rw[HFM.out];exact ho5);have HB5:=Lib.hid ((HB3.out.trans (hB45.mono hs3)).trans hB5);have q0:=hHeld;clear hB4 hB5 ho5 hB45 hlen;go_wp2_with (refine Lib.wpList_append_run _ rfl _ _ _ _ rfl _ _ rfl rfl _ _ hrun ?_);go_roundw;case rel=>exact⟨i+1,by omega,by go_num,HO4,HB5⟩
    case measure=>simp[intOf];omega
  ·obtain rfl:N=i:=(by omega);have hO2:=hO.out;rw[←HN.out,List.take_length]at hO2;have hw2:=HB2.out.size;have HB5:=Lib.hid (HB2.out.trans (hB.out.mono hw2));have HO5:=Lib.hid (ownS_mono hO2 hw2);clear hO2;go_wp2_with fail;go_ret;exact⟨_,rfl,HO5.out,HB5.out⟩
theorem sclass_any (n:ByteArray)(w:World)(hn:n.size≤10000000):
  Calls Tryz.prog 25 #[.string n] w fun e w'=>e= .returned (.bool (idx (sml.lowL n.data.toList)).isSome)∧Below w.heap.size w w':=by
 obtain⟨nl,hnl⟩: ∃nl,sml.lowL n.data.toList=nl:=⟨_,rfl⟩;have HLO:Hid (∀W,Calls Tryz.prog 82 #[.string n] W fun e w'=>e= .returned (.string (bs nl))∧Below W.heap.size W w'):=fun W=>by rw[←hnl];exact slower_any n W hn
 have HF:Hid (∀W,Calls Tryz.prog 81 #[.string (bs nl)] W fun e w'=>e= .returned (.tuple #[.agg (clsV (clsO (idx nl))).toArray,.bool (idx nl).isSome])∧Below W.heap.size W w'):=fun W=>by rw[←resC_eq];exact sfind_any (bs nl) W
 rw[hnl];clear hnl;generalize idx nl=r at HF ⊢;obtain⟨c0,c1,c2,c3,c4,c5,c6,c7,c8,c9,c10,hv,hx0,hx1,hx2⟩:=cls_letters (clsO r);rw[hv]at HF;generalize r.isSome=b at HF ⊢;clear hv hx0 hx1 hx2;go_enter Tryz.func25,Tryz.ntmps25;go_wp2_with fail;refine(HLO.out w).mono ?_;rintro e w1 ⟨rfl,hB1⟩;have HB1:=Lib.hid hB1;have HF1:=Lib.hid (HF.out w1);clear hB1 HF HLO;go_wp2_with fail;refine HF1.out.mono ?_;rintro e w2 ⟨rfl,hB2⟩;have HB2:=Lib.hid ((HB1.out.trans (hB2.mono HB1.out.size)).alloc (Nat.le_trans HB1.out.size hB2.size) (.cells #[.string c0,.int .i64 c1,.string c2,.string c3,.string c4,.string c5,.string c6,.string c7,.string c8,.string c9,.string c10] 106));clear hB2;go_wp2_with fail;go_ret;exact⟨rfl,HB2.out⟩
end scw
open Go.RowKit
namespace dnw
open dnp
theorem parseR_ok {l:List UInt8}{n:List (List Av)}(h:parseR l=some n):nameOK n=true:=by
 unfold parseR at h;split at h
 ·cases h;rfl
 ·split at h
  ·cases h
  ·split at h
   ·cases h;assumption
   ·cases h
def parseV (s:ByteArray):List (List Av) × Int:=if 1000<s.size then([],5)else match parseR s.data.toList with
 | none=>([],4)
 | some n=>(n,0)
theorem parseE_V {s:ByteArray}{w:World}{e:Ending}{w':World}(h:ParseE s w e w'):Below w.heap.size w w'∧ ∃ao cap,e= .returned (.tuple #[.slice ao (parseV s).1.length cap,.int .i64 (parseV s).2])∧Rdns w' ao (parseV s).1:=by
 obtain⟨h1,h2⟩:=h;refine⟨h1,?_⟩;unfold parseV;split at h2
 ·rename_i hl;rw[if_pos hl];exact⟨none,0,h2,fun i hi=>by simp at hi⟩
 ·rename_i hl;rw[if_neg hl];cases hp:parseR s.data.toList with
  | none=>rw[hp]at h2;exact⟨none,0,h2,fun i hi=>by simp at hi⟩
  | some n=>rw[hp]at h2;obtain⟨ao,cap,h3,_,h4,_⟩:=h2;exact⟨ao,cap,h3,h4⟩
end dnw
namespace atp
open atw (bs)
def tT:List UInt8:=[84,82,85,69]
def tF:List UInt8:=[70,65,76,83,69]
def ne0 (o:Option (List UInt8)):Option (List UInt8):=match o with
 | none=>none
 | some u=>if u=[]then none else some u
theorem ne0_some {u:List UInt8}(h:u≠[]):ne0 (some u)=some u:=by unfold ne0;exact if_neg h
def joinK (l:List ByteArray):List UInt8:=(l.map (·.data.toList)).flatten
def nameK (l:List UInt8):Option (List UInt8):=match dnw.parseR l with
 | none=>none
 | some n=>some (joinK (dnw.keysB n))
def formO (syn:Int)(l:List UInt8):Option (List UInt8):=
 if syn=1 then ne0 (prp.readyO l true)else if syn=2 then ne0 (prp.readyO l false)else if syn=7 then ne0 (prp.phoneO l)
 else if syn=4 then(if numOK l=true then some l else none)
 else if syn=5 then(if l=tT∨l=tF then some l else none)
 else if syn=6 then nameK l
 else some l
def normL (syn:Int)(l:List UInt8):List UInt8 × Int:=
 if¬ (1≤syn∧syn≤7)then([],14)else if 1000<l.length then([],5)else if l=[]then([],4)else match formO syn l with
  | none=>([],4)
  | some u=>(u,0)
theorem normL_bad {syn:Int}{l:List UInt8}(h: ¬ (1≤syn∧syn≤7)):normL syn l=([],14):=by unfold normL;rw[if_pos h]
theorem normL_long {syn:Int}{l:List UInt8}(h:1≤syn∧syn≤7)(h1:1000<l.length):normL syn l=([],5):=by unfold normL;rw[if_neg (not_not_intro h),if_pos h1]
theorem normL_nil {syn:Int}{l:List UInt8}(h:1≤syn∧syn≤7)(h1:l=[]):normL syn l=([],4):=by unfold normL;rw[if_neg (not_not_intro h),if_neg (by rw[h1];simp),if_pos h1]
theorem normL_form {syn:Int}{l:List UInt8}(h:1≤syn∧syn≤7)(h1:l.length≤1000)(h2:l≠[]):normL syn l=match formO syn l with
  | none=>([],4)
  | some u=>(u,0):=by unfold normL;rw[if_neg (not_not_intro h),if_neg (by omega),if_neg h2]
theorem name_smalls {n:List (List dnw.Av)}(h:dnw.nameOK n=true): ∀l∈n,dnw.Smalls l:=by intro l hl x hx;unfold dnw.nameOK at h;rw[Bool.and_eq_true]at h;have h1:=List.all_eq_true.1 h.2 l hl;unfold dnw.rdnOK at h1;simp only[Bool.and_eq_true]at h1;obtain⟨i,hi,rfl⟩:=List.mem_iff_getElem.1 hx;have h2:=List.all_eq_true.1 h1.2 i (List.mem_range.2 hi);rw[List.getElem?_eq_getElem hi]at h2;simp only at h2;unfold dnw.pairB at h2;simp only[Bool.and_eq_true]at h2;have h3:=(dnw.typeOK_iff _).1 h2.1.2;have h4:=h2.2;unfold dnw.valOK at h4;rw[Bool.and_eq_true,decide_eq_true_eq]at h4;have e1:=h3.2.1;have e2:=h4.1;rw[kt.size_len]at e1 e2;exact⟨by omega,by omega⟩
theorem parseR_ok {l:List UInt8}{n:List (List dnw.Av)}(h:dnw.parseR l=some n):dnw.nameOK n=true:=by
 unfold dnw.parseR at h;split at h
 ·cases h;decide
 ·split at h
  ·cases h
  ·split at h
   ·cases h;assumption
   ·cases h
theorem joinK_len (n:List (List dnw.Av))(h:dnw.nameOK n=true):(joinK (dnw.keysB n)).length≤200000:=by
 have hn:n.length≤12:=by unfold dnw.nameOK at h;rw[Bool.and_eq_true,decide_eq_true_eq]at h;exact h.1
 have hl: ∀l∈n,l.length≤4:=by intro l hl;unfold dnw.nameOK at h;rw[Bool.and_eq_true]at h;have h1:=List.all_eq_true.1 h.2 l hl;unfold dnw.rdnOK at h1;simp only[Bool.and_eq_true,decide_eq_true_eq]at h1;exact h1.1.2
 have h2:=dnw.flatten_len_le 16384 ((dnw.keysB n).map (·.data.toList)) (by intro x hx;unfold dnw.keysB at hx;rw[List.map_map]at hx;obtain⟨l,hl2,rfl⟩:=List.mem_map.1 hx;have:=dnw.keyL_len l;have:=hl l (List.mem_reverse.1 hl2);show(dnw.keyL l).length≤_;omega);unfold joinK;rw[List.length_map,dnw.keysB_len]at h2;omega
end atp
open Go.RowKit
namespace atw
open atp
theorem num_eq {l:List UInt8}(h:l≠[48]):numOK l=(decide (1≤(bare l).length)&&decide ((bare l).length≤18)&&decide ((bare l).head?≠some 48)&&(bare l).all digit):=by unfold numOK;rw[decide_eq_false h,Bool.false_or]
theorem num_len {l:List UInt8}(h:l≠[48])(h1:(bare l).length=0∨18<(bare l).length):false=numOK l:=by
 rw[num_eq h];rcases h1 with h1 | h1
 ·rw[h1];rfl
 ·rw[decide_eq_false (p:=(bare l).length≤18) (by omega)];simp
theorem num_zero {l:List UInt8}(h:l≠[48])(h1:(bare l).head?=some 48):false=numOK l:=by rw[num_eq h,h1];simp
theorem num_bad {l:List UInt8}{c:UInt8}(h:l≠[48])(hc:c∈bare l)(hd: ¬ (48≤(c.toNat:Int)∧(c.toNat:Int)≤57)):false=numOK l:=by
 rw[num_eq h];have:(bare l).all digit=false:=by rw[Bool.eq_false_iff];intro e;have:=List.all_eq_true.1 e c hc;unfold digit at this;rw[decide_eq_true_iff]at this;omega
 rw[this];simp
theorem num_yes {l:List UInt8}(h:l≠[48])(h1:1≤(bare l).length)(h2:(bare l).length≤18)(h3:(bare l).head?≠some 48)(h4: ∀c∈bare l,48≤(c.toNat:Int)∧(c.toNat:Int)≤57):true=numOK l:=by rw[num_eq h,decide_eq_true h1,decide_eq_true h2,decide_eq_true h3];symm;simp only[Bool.true_and];rw[List.all_eq_true];intro c hc;have:=h4 c hc;unfold digit;rw[decide_eq_true_iff];omega
theorem ne_s {s:ByteArray}(h:0<s.size): ∃t,s.data.toList=s[0]::t:=by refine⟨s.data.toList.drop 1,?_⟩;have:=List.drop_eq_getElem_cons (l:=s.data.toList) (i:=0) (by simpa using h);rw[List.drop_zero]at this;exact this
theorem head_s {s:ByteArray}(h:0<s.size):s.data.toList.head?=some s[0]:=by obtain⟨t,ht⟩:=ne_s h;rw[ht];rfl
theorem mem_s {s:ByteArray}{k:Nat}(h:k<s.size):s[k]∈s.data.toList:=by have:s.data.toList[k]'(by simpa using h)∈s.data.toList:=List.getElem_mem _;exact this
theorem zero_s {s:ByteArray}(h0:s.size=0):s=ByteArray.empty:=by
 apply kt.str_eq;have:s.data.toList.length=0:=by simpa using h0
 rw[List.eq_nil_of_length_eq_zero this];rfl
theorem u8_of {c:UInt8}{n:Nat}(hn:n<256)(h:(c.toNat:Int)=n):c=UInt8.ofNat n:=by apply UInt8.toNat_inj.1;rw[UInt8.toNat_ofNat'];omega
end atw
open Go.RowKit
namespace atw
open atp
theorem str_ne {s:ByteArray}(h:0<s.size):s.toList.isEmpty=false∧ ¬s.toList=[]:=by rw[Lib.toList_data];obtain⟨t,ht⟩:=ne_s h;rw[ht];exact⟨rfl,by simp⟩
theorem pre_one (l:List UInt8)(c:UInt8):Lib.hasPrefix l [c]=decide (l.head?=some c):=by
 unfold Lib.hasPrefix;cases l with
 | nil=>simp[List.isPrefixOf]
 | cons d t=>simp only[List.isPrefixOf,Bool.and_true,List.head?_cons,Option.some.injEq];rw[Bool.eq_iff_iff,beq_iff_eq,decide_eq_true_iff];exact eq_comm
theorem trim_45 (l:List UInt8):Lib.trimPrefix l [45]=bare l:=by
 unfold Lib.trimPrefix bare;rw[pre_one];by_cases h:l.head?=some 45
 ·rw[if_pos (by simpa using h),if_pos h];simp
 ·rw[if_neg (by simpa using h),if_neg h]
theorem number_any (s:ByteArray)(w:World)(hs:s.size≤1100000):Calls Tryz.prog 291 #[.string s] w fun e w'=>e= .returned (.bool (numOK s.data.toList))∧w=w':=by
  obtain⟨x,hx⟩: ∃x,x=bs (bare s.data.toList):=⟨_,rfl⟩;have HBX:Hid (bare s.data.toList=x.data.toList):=by rw[hx];rfl
  have hxs:x.size≤1100000:=by
    rw[hx,bs_size];unfold bare;split
    · rw[List.length_tail,kt.size_len];omega
    · rw[kt.size_len];exact hs
  have HTP:Hid (∀w,Calls Tryz.prog 315 #[.string s,.string ⟨#[45]⟩] w fun e w'=>e= .returned (.string x)∧w=w'):=by intro w;refine(Tryz.strings_TrimPrefix s ⟨#[45]⟩ w).mono ?_;rintro e w' ⟨rfl,rfl⟩;refine⟨?_,rfl⟩;rw[hx];show Ending.returned (.string (bs (Lib.trimPrefix s.data.toList [45])))=_;rw[trim_45]
  clear hx;by_cases h0:s.data.toList=[48]
  · have hne:=trivial;have hbx:bare s.data.toList=x.data.toList:=HBX.out;have hxs1:x.data.toList=[48]:=(by rw[←hbx,h0];rfl);have hx1s:x.size=1:=(by rw[←kt.size_len,hxs1];rfl);have hxp:0<x.size:=(by omega);obtain⟨xe1,xe2⟩:=str_ne hxp;have hxpI:(0:Int)<(x.size:Int):=(by omega);have hx1:decide ((18:Int)<(x.size:Int))=false:=(by rw[decide_eq_false_iff_not];omega);obtain⟨c0,hc0⟩: ∃c,x[0]'hxp=c:=⟨_,rfl⟩;have hc48:c0=48:=(by have:=head_s hxp;rw[hxs1,hc0]at this;simpa using this.symm);have q:((c0.toNat:Int)==48)=true:=(by rw[hc48];rfl);have q0:(s.toList==[48])=true:=(by rw[Lib.toList_data,h0];rfl);have HNY:Hid (true=numOK s.data.toList):=(by rw[h0];exact(by decide:true=numOK [48]));have HB:Hid (∀k (hk:k<x.size),¬ (48≤(x[k].toNat:Int)∧(x[k].toNat:Int)≤57)→false=numOK s.data.toList):=(by intro k hk h;exfalso;obtain rfl:k=0:=(by omega);rw[hc0,hc48]at h;exact h (by decide));have HY:Hid ((∀k (hk:k<x.size),48≤(x[k].toNat:Int)∧(x[k].toNat:Int)≤57)→true=numOK s.data.toList):=fun _=>HNY.out;have hxs9:=Lib.hid hx1s;clear h0 hxs1 hx1s hc48 hbx hne;go_enter Tryz.func291,Tryz.ntmps291;go_wp2_with fail;refine(HTP.out _).mono ?_;rintro e w1 ⟨rfl,rfl⟩;go_wp2_with fail;go_loop [4,25] (fun _ iv=> ∃k:Nat,k≤x.size∧iv= .int .i64 (k:Int)∧Hid (∀j (hj:j<x.size),j<k→48≤(x[j].toNat:Int)∧(x[j].toNat:Int)≤57)) (fun _ iv=>x.size- (intOf iv).toNat);case atStart=>exact⟨0,Nat.zero_le _,rfl,fun j hj h=>by omega⟩
    case round=>
      obtain⟨k,hk,rfl,hA⟩:=hrel;by_cases hlt:k<x.size
      · have hlt':(k:Int)<(x.size:Int):=(by omega);have HA:Hid (48≤((x[k]'hlt).toNat:Int)∧((x[k]'hlt).toNat:Int)≤57→ ∀j (hj:j<x.size),j<k+1→48≤(x[j].toNat:Int)∧(x[j].toNat:Int)≤57):=by
          intro ht j hj h;by_cases e:j=k
          · subst e;exact ht
          · exact hA.out j hj (by omega)
        have HN:=Lib.hid (HB.out k hlt);clear hc0;obtain⟨c,hc⟩: ∃c,x[k]'hlt=c:=⟨_,rfl⟩;rw[hc]at HA HN;have hcn:=c.toNat_lt;go_wp2_with fail;all_goals first
          | (go_ret;exact⟨kt.ret_bool (HN.out (by omega)),rfl⟩)
          | (go_round
             case rel=>exact⟨k+1,by omega,by go_num,HA.out (by omega)⟩
             case measure=>simp[intOf];omega)
          | (exfalso;simp only[Bool.not_eq_true',Bool.not_eq_false',Bool.or_eq_true,Bool.and_eq_true,Bool.or_eq_false_iff,Bool.and_eq_false_iff,decide_eq_true_eq,decide_eq_false_iff_not,beq_iff_eq,bne_iff_ne,bne_eq_false_iff_eq,beq_eq_false_iff_ne,ne_eq,Classical.not_not]at*;omega)
      · obtain rfl:k=x.size:=(by omega);have HE:=Lib.hid (HY.out (fun j hj=>hA.out j hj hj));clear hc0;go_wp2_with fail;go_ret;exact⟨kt.ret_bool HE.out,rfl⟩
  · have hne:=h0;have hbx:bare s.data.toList=x.data.toList:=HBX.out;have q0:(s.toList==[48])=false:=(by rw[Lib.toList_data];simpa using h0);clear h0;by_cases hx0:x.size=0
    · have HF:=Lib.hid (num_len hne (Or.inl (by rw[hbx,kt.size_len];exact hx0)));have hx1:x.toList=[]:=(by rw[zero_s hx0,Lib.toList_data];rfl);clear hx0 hbx hne;go_enter Tryz.func291,Tryz.ntmps291;go_wp2_with fail;refine(HTP.out _).mono ?_;rintro e w1 ⟨rfl,rfl⟩;go_wp2_with fail;go_ret;exact⟨kt.ret_bool HF.out,rfl⟩
    by_cases hx18:18<x.size
    · have HF:=Lib.hid (num_len hne (Or.inr (by rw[hbx,kt.size_len];exact hx18)));have hx1:(18:Int)<(x.size:Int):=(by omega);obtain⟨xe1,xe2⟩:=str_ne (s:=x) (by omega);clear hx0 hx18 hbx hne;go_enter Tryz.func291,Tryz.ntmps291;go_wp2_with fail;refine(HTP.out _).mono ?_;rintro e w1 ⟨rfl,rfl⟩;go_wp2_with fail;go_ret;exact⟨kt.ret_bool HF.out,rfl⟩
    have hxp:0<x.size:=(by omega);obtain⟨xe1,xe2⟩:=str_ne hxp;have hxpI:(0:Int)<(x.size:Int):=(by omega);have hx1:decide ((18:Int)<(x.size:Int))=false:=(by rw[decide_eq_false_iff_not];omega);have hx2:decide ((x.size:Int)<1)=false:=(by rw[decide_eq_false_iff_not];omega);obtain⟨c0,hc0⟩: ∃c,x[0]'hxp=c:=⟨_,rfl⟩;by_cases h48:(c0.toNat:Int)=48
    · have HF:=Lib.hid (num_zero hne (by rw[hbx,head_s hxp,hc0,u8_of (n:=48) (by omega) h48];rfl));have q:((c0.toNat:Int)==48)=true:=(by rw[beq_iff_eq];exact h48);clear hx0 hx18 hbx hne h48;go_enter Tryz.func291,Tryz.ntmps291;go_wp2_with fail;refine(HTP.out _).mono ?_;rintro e w1 ⟨rfl,rfl⟩;go_wp2_with fail;go_ret;exact⟨kt.ret_bool HF.out,rfl⟩
    have q:((c0.toNat:Int)==48)=false:=(by rw[beq_eq_false_iff_ne];exact h48);have HB:Hid (∀k (hk:k<x.size),¬ (48≤(x[k].toNat:Int)∧(x[k].toNat:Int)≤57)→false=numOK s.data.toList):=fun k hk h=>num_bad hne (by rw[hbx];exact mem_s hk) h;have HY:Hid ((∀k (hk:k<x.size),48≤(x[k].toNat:Int)∧(x[k].toNat:Int)≤57)→true=numOK s.data.toList):=(by intro h;refine num_yes hne (by rw[hbx,kt.size_len];omega) (by rw[hbx,kt.size_len];omega) (by rw[hbx,head_s hxp,hc0];intro e;apply h48;rw[Option.some.injEq]at e;rw[e];rfl) ?_;intro c hc;rw[hbx]at hc;obtain⟨k,hk,rfl⟩:=List.mem_iff_getElem.1 hc;exact h k (by simpa using hk));clear hx0 hx18 hbx hne h48;go_enter Tryz.func291,Tryz.ntmps291;go_wp2_with fail;refine(HTP.out _).mono ?_;rintro e w1 ⟨rfl,rfl⟩;go_wp2_with fail;go_loop [4,25] (fun _ iv=> ∃k:Nat,k≤x.size∧iv= .int .i64 (k:Int)∧Hid (∀j (hj:j<x.size),j<k→48≤(x[j].toNat:Int)∧(x[j].toNat:Int)≤57)) (fun _ iv=>x.size- (intOf iv).toNat);case atStart=>exact⟨0,Nat.zero_le _,rfl,fun j hj h=>by omega⟩
    case round=>
      obtain⟨k,hk,rfl,hA⟩:=hrel;by_cases hlt:k<x.size
      · have hlt':(k:Int)<(x.size:Int):=(by omega);have HA:Hid (48≤((x[k]'hlt).toNat:Int)∧((x[k]'hlt).toNat:Int)≤57→ ∀j (hj:j<x.size),j<k+1→48≤(x[j].toNat:Int)∧(x[j].toNat:Int)≤57):=by
          intro ht j hj h;by_cases e:j=k
          · subst e;exact ht
          · exact hA.out j hj (by omega)
        have HN:=Lib.hid (HB.out k hlt);clear hc0;obtain⟨c,hc⟩: ∃c,x[k]'hlt=c:=⟨_,rfl⟩;rw[hc]at HA HN;have hcn:=c.toNat_lt;go_wp2_with fail;all_goals first
          | (go_ret;exact⟨kt.ret_bool (HN.out (by omega)),rfl⟩)
          | (go_round
             case rel=>exact⟨k+1,by omega,by go_num,HA.out (by omega)⟩
             case measure=>simp[intOf];omega)
          | (exfalso;simp only[Bool.not_eq_true',Bool.not_eq_false',Bool.or_eq_true,Bool.and_eq_true,Bool.or_eq_false_iff,Bool.and_eq_false_iff,decide_eq_true_eq,decide_eq_false_iff_not,beq_iff_eq,bne_iff_ne,bne_eq_false_iff_eq,beq_eq_false_iff_ne,ne_eq,Classical.not_not]at*;omega)
      · obtain rfl:k=x.size:=(by omega);have HE:=Lib.hid (HY.out (fun j hj=>hA.out j hj hj));clear hc0;go_wp2_with fail;go_ret;exact⟨kt.ret_bool HE.out,rfl⟩
end atw
open Go.RowKit
namespace prw
open run prp
theorem replaceAll_len (c:UInt8)(l:List UInt8):(Lib.replaceAll l [c] []).length≤l.length:=by rw[replaceAll_filter];exact List.length_filter_le _ _
theorem phone_any (s:ByteArray)(w:World)(hs:s.size≤1100000)(hE:Hid (Env w)):Calls Tryz.prog 290 #[.string s] w fun e w'=>e= .returned (pairV (phoneO s.data.toList))∧Below w.heap.size w w':=by
 have CR:=ready_any s true w hs hE;have HM:=Lib.hid (phoneO_of_ready s.data.toList);cases hrs:readyO s.data.toList true with
 | none=>rw[hrs]at CR HM;have CH:=Lib.hid CR;clear hrs CR;go_enter Tryz.func290,Tryz.ntmps290;go_wp2_with fail;refine CH.out.mono ?_;rintro e w1 ⟨rfl,hB1⟩;unfold pairV;go_wp2_with fail;go_ret2;refine⟨?_,hB1⟩;rw[HM.out];rfl
 | some t=>
  have htl:=readyO_len hrs;rw[kt.size_len]at htl;rw[hrs]at CR HM;obtain⟨ta,hta⟩: ∃ta:ByteArray,ta=⟨t.toArray⟩:=⟨_,rfl⟩;have htd:ta.data.toList=t:=by rw[hta]
  rw[pairV_some,←hta]at CR;have CH:=Lib.hid CR;have hl1:=replaceAll_len 32 t;have hts:ta.size≤1100000:=by rw[←kt.size_len,htd];omega
  have CS1:Hid (∀ (W:World) (m:Int),W.cell? ⟨1,0,none⟩=some (.int .i64 m)→Calls Tryz.prog 284 #[.string ta,.string ⟨#[32]⟩,.string ⟨#[]⟩] W fun e w'=>e= .returned (.string ⟨(Lib.replaceAll t [32] []).toArray⟩)∧Below W.heap.size W w'):=by intro W m hm;have:=Tryz.strings_ReplaceAll ta ⟨#[32]⟩ ⟨#[]⟩ m W (by omega) hm (by decide) (by show ta.size+_*0≤_;omega);rw[htd]at this;exact this
  have CS2:Hid (∀ (W:World) (m:Int),W.cell? ⟨1,0,none⟩=some (.int .i64 m)→Calls Tryz.prog 284 #[.string ⟨(Lib.replaceAll t [32] []).toArray⟩,.string ⟨#[45]⟩,.string ⟨#[]⟩] W fun e w'=>e= .returned (.string ⟨(Lib.replaceAll (Lib.replaceAll t [32] []) [45] []).toArray⟩)∧Below W.heap.size W w'):=by intro W m hm;have hz:(⟨(Lib.replaceAll t [32] []).toArray⟩:ByteArray).size≤1100000:=(by rw[←kt.size_len];show(Lib.replaceAll t [32] []).length≤_;omega);exact Tryz.strings_ReplaceAll ⟨(Lib.replaceAll t [32] []).toArray⟩ ⟨#[45]⟩ ⟨#[]⟩ m W (by omega) hm (by decide) (by show _+_*0≤_;omega)
  clear hrs CR htd hl1 hts htl hta;generalize(⟨(Lib.replaceAll t [32] []).toArray⟩:ByteArray)=t1 at CS1 CS2;go_enter Tryz.func290,Tryz.ntmps290;go_wp2_with fail;refine CH.out.mono ?_;rintro e w1 ⟨rfl,hB1⟩;have hE1:=env_below hE.out hB1;obtain⟨m1,hm1⟩:=hE1;have C1:=Lib.hid (CS1.out w1 m1 hm1);clear hm1;go_wp2_with fail;refine C1.out.mono ?_;rintro e w2 ⟨rfl,hB2⟩;have hB12:=hB1.trans (hB2.mono hB1.size);have hE2:=env_below hE.out hB12;obtain⟨m2,hm2⟩:=hE2;have C2:=Lib.hid (CS2.out w2 m2 hm2);clear hm2;go_wp2_with fail;refine C2.out.mono ?_;rintro e w3 ⟨rfl,hB3⟩;go_wp2_with fail;go_ret2;refine⟨?_,hB12.trans (hB3.mono hB12.size)⟩;rw[HM.out];rfl
end prw
open Go.RowKit
namespace dnw
open dnp
def KeysE (n:List (List Av))(w:World)(e:Ending)(w':World):Prop:=Below w.heap.size w w'∧if nameOK n=true then∃ao cap,e= .returned (.tuple #[.slice ao n.length cap,.int .i64 0])∧n.length≤cap∧tupw.Strs w' ao (keysB n)else e= .returned (.tuple #[.slice none 0 0,.int .i64 4])
theorem ownT_strs {w:World}{B:Nat}{ao:Option Addr}{m cap:Nat}{l:List ByteArray}(h:prw.OwnT w B (.slice ao m cap) l):tupw.Strs w ao l∧m=l.length∧m≤cap:=by obtain⟨ao',cap',hv,hc,hcs⟩:=prw.ownT_cells h;simp only[Value.slice.injEq]at hv;obtain⟨rfl,rfl,rfl⟩:=hv;refine⟨fun i hi=> ?_,rfl,hc⟩;obtain⟨g,hg,_,hcell⟩:=hcs (by intro e;rw[e]at hi;simp at hi);exact⟨g,0,hg,hcell i _ (List.getElem?_eq_getElem hi)⟩
theorem revTake_step (n:List (List Av))(i:Nat)(hi:i<n.length):(n.reverse.take (i+1)).map (fun l=>bytes (keyL l))=(n.reverse.take i).map (fun l=>bytes (keyL l))++[bytes (keyL (n[n.length-1-i]'(by omega)))]:=by rw[List.take_succ_eq_append_getElem (by simpa using hi),List.map_append];simp only[List.getElem_reverse];rfl
theorem keys_any (ao:Option Addr)(cap:Nat)(n:List (List Av))(w:World)(hA:Hid (Rdns w ao n))(hE:Hid (prw.Env w))(hT:Hid (Tabs w))(hS:Hid (∀l∈n,l.length≤4→Smalls l)):
  Calls Tryz.prog 292 #[.slice ao n.length cap] w fun e w'=>KeysE n w e w':=by
 have CR:=right_any ao cap n w hA hE hS;obtain⟨m,hm⟩: ∃m,m=n.length:=⟨_,rfl⟩;have HM:=Lib.hid hm;rw[←hm]at CR ⊢;clear hm;cases hok:nameOK n with
 | false=>rw[hok]at CR;have HC:=Lib.hid CR;have HOK:=Lib.hid hok;clear CR hok;go_enter Tryz.func292,Tryz.ntmps292;go_wp2_with fail;refine HC.out.mono ?_;rintro e w1 ⟨rfl,hB1⟩;go_wp2_with fail;go_ret2;refine⟨hB1,?_⟩;rw[if_neg (by rw[HOK.out];simp)];rfl
 | true=>
  rw[hok]at CR;have HC:=Lib.hid CR;have HOK:=Lib.hid hok;have hf:=nameOK_facts hok;have hm12:m≤12:=by rw[HM.out];exact hf.1
  have HL:=Lib.hid hf.2;clear CR hok hf;go_enter Tryz.func292,Tryz.ntmps292;go_wp2_with fail;refine HC.out.mono ?_;rintro e w1 ⟨rfl,hB1⟩;have HB1:=Lib.hid hB1;have hsz1:=hB1.size;clear hB1 HC;go_wp2_with fail;go_loopw [4,5,11] (fun rv _ iv wr=> ∃ (i:Nat),i≤m∧iv= .int .i64 (i:Int)∧Hid (prw.OwnT wr w1.heap.size rv ((n.reverse.take i).map fun l=>bytes (keyL l)))∧Below w1.heap.size w1 wr) (fun _ _ iv _=>m- (intOf iv).toNat);case atStart=>exact⟨0,Nat.zero_le _,rfl,World.ownsRow_nil _ _ _ _,Below.refl _ _⟩
  case round=>
   obtain⟨i,hi,rfl,hO,hB⟩:=hrel;have hsz:=hB.size;obtain⟨aoR,mR,capR,rfl,hmR⟩:=ownT_form hO.out;by_cases hlt:i<m
   ·have hlt':(i:Int)<(m:Int):=(by omega);have hil:i<n.length:=(by rw[←HM.out];exact hlt);have HBT:=Lib.hid (HB1.out.trans (hB.mono hsz1));obtain⟨j,hj⟩: ∃j,j=m-1-i:=⟨_,rfl⟩;have hjl:j<n.length:=(by rw[←HM.out];omega);have hjm:(j:Int)<(m:Int):=(by omega);have hj0:(0:Int)≤(j:Int):=(by omega);have ej:(m:Int)-1- (i:Int)=(j:Int):=(by omega);have w1e:IntKind.i64.wrap ((m:Int)-1)=(m:Int)-1:=IntWalk.i64_in _ (by omega);have w2e:IntKind.i64.wrap ((m:Int)-1- (i:Int))=(j:Int):=(by rw[ej];exact IntWalk.i64_in _ (by omega));have HST:=revTake_step n i hil;have hje:n.length-1-i=j:=(by rw[←HM.out];exact hj.symm);have HST2:(n.reverse.take (i+1)).map (fun l=>bytes (keyL l))=(n.reverse.take i).map (fun l=>bytes (keyL l))++[bytes (keyL n[j])]:=(by rw[HST];congr 4;simp only[hje]);obtain⟨b,o,ao',cap',hao,hc0,hcc,hAv⟩:=(rdns_below hA.out HBT.out) j hjl;subst hao;have hro:=HL.out n[j] (List.getElem_mem hjl);have CK:=key_any ao' cap' n[j] wr (Lib.hid hAv) (Lib.hid (prw.env_below hE.out HBT.out)) (Lib.hid (tabs_below hT.out HBT.out)) hro;have hst:=Lib.hid HST2;generalize n[j]=l at hc0 CK hst;obtain⟨p,hp⟩: ∃p,p=l.length:=⟨_,rfl⟩;rw[←hp]at hc0 CK;have HCK:=Lib.hid CK;clear CK HST HST2 hje hro hAv hcc hp hj;go_wp2_with fail;refine HCK.out.mono ?_;rintro e w2 ⟨rfl,hB2⟩;obtain⟨ao7,m7,cap7,w8,hap,hO8,_,hB8⟩:=ownT_appG (bytes (keyL l)) (ownT_below hO.out hB2) (by rw[List.length_map,List.length_take,List.length_reverse];omega) (Nat.le_trans hsz hB2.size);have HO8:Hid (prw.OwnT w8 w1.heap.size (.slice ao7 m7 cap7) ((n.reverse.take (i+1)).map fun l=>bytes (keyL l))):=(by show prw.OwnT _ _ _ _;rw[hst.out];exact hO8);have HB8:=Lib.hid ((hB.trans (hB2.mono hsz)).trans hB8);clear hO8 hB8 hB2 HCK hst;generalize bytes (keyL l)=KB at hap ⊢;go_wp2_with (at_builtin;refine Lib.wpList_append_run _ rfl _ _ _ _ rfl _ _ rfl rfl _ _ hap ?_);go_roundw;case rel=>exact⟨i+1,by omega,by go_num,HO8,HB8.out⟩
    case measure=>simp[intOf]<;>omega
   ·obtain rfl:i=m:=(by omega);have hO1:=hO.out;rw[HM.out,List.take_of_length_le (by rw[List.length_reverse];exact Nat.le_refl _)]at hO1;obtain⟨hst,hml,hmc⟩:=ownT_strs hO1;rw[List.length_map,List.length_reverse]at hml;have HST:=Lib.hid hst;have HML:=Lib.hid hml;clear hO1 hst hml;go_wp2_with fail;go_ret2;refine⟨HB1.out.trans (hB.mono hsz1),?_⟩;rw[if_pos HOK.out];have h1:=HML.out;subst h1;exact⟨aoR,capR,rfl,hmc,HST.out⟩
end dnw
open Go.RowKit
namespace atw
open atp
theorem bs_ne {l:List UInt8}(h:l≠[]):(bs l).toList.isEmpty=false∧ ¬ (bs l).toList=[]:=by
 rw[Lib.toList_data,bs_data];refine⟨?_,h⟩;cases l with
 | nil=>exact absurd rfl h
 | cons a t=>rfl
def FormE (o:Option (List UInt8))(w:World)(e:Ending)(w':World):Prop:=Below w.heap.size w w'∧match o with
 | none=> ∃u,e= .returned (.tuple #[.string u,.bool false])
 | some u=>e= .returned (.tuple #[.string (bs u),.bool true])
theorem formE_none {o:Option (List UInt8)}{w w':World}{u:ByteArray}(h:o=none)(hb:Below w.heap.size w w'):FormE o w (.returned (.tuple #[.string u,.bool false])) w':=by subst h;exact⟨hb,u,rfl⟩
theorem formE_some {o:Option (List UInt8)}{w w':World}{u:List UInt8}(h:o=some u)(hb:Below w.heap.size w w'):FormE o w (.returned (.tuple #[.string (bs u),.bool true])) w':=by subst h;exact⟨hb,rfl⟩
theorem formE_is {o:Option (List UInt8)}{w w':World}{s:ByteArray}(h:o=some s.data.toList)(hb:Below w.heap.size w w'):FormE o w (.returned (.tuple #[.string s,.bool true])) w':=by subst h;refine⟨hb,?_⟩;show _=Ending.returned (.tuple #[.string (bs s.data.toList),.bool true]);rw[bs_of]
theorem join_flat (l:List (List UInt8)):Lib.join l []=l.flatten:=by
 cases l with
 | nil=>rfl
 | cons x r=>rw[Lib.join_cons];unfold Lib.joinTail;simp
theorem join_any (ao:Option Addr)(c:Nat)(l:List ByteArray)(w:World)(hS:Hid (tupw.Strs w ao l))(hc:l.length≤c)(hlen:l.length≤1000)(hb:(joinK l).length≤1100000):
  Calls Tryz.prog 165 #[.slice ao l.length c,.string ⟨#[]⟩] w fun e w'=>e= .returned (.string (bs (joinK l)))∧Below w.heap.size w w':=by
 by_cases h0:l=[]
 ·subst h0;refine(Tryz.strings_Join_none ao c ⟨#[]⟩ w).mono ?_;rintro e w' ⟨rfl,rfl⟩;exact⟨rfl,Below.refl _ _⟩
 ·have hl:0<l.length:=List.length_pos_iff.2 h0;obtain⟨b,o,rfl,hc0⟩:=hS.out 0 hl;have hlt:=World.block_lt_of_cell? w _ hc0;refine(Tryz.strings_Join b o c l ⟨#[]⟩ w (fun j x hj=> ?_) hlt (by omega) hc ?_).mono ?_
  ·obtain⟨hjl,rfl⟩:=List.getElem?_eq_some_iff.1 hj;obtain⟨b',o',e',h'⟩:=hS.out j hjl;simp only[Option.some.injEq,Addr.mk.injEq,and_true]at e';obtain⟨rfl,rfl⟩:=e';exact h'
  ·show(Lib.join (l.map (·.data.toList)) []).length≤_;rw[join_flat];unfold joinK at hb;omega
  ·rintro e w' ⟨rfl,hB⟩;refine⟨?_,hB⟩;show Ending.returned (.string (bs (Lib.join (l.map (·.data.toList)) [])))=_;rw[join_flat];rfl
theorem form_any (nm:ByteArray)(syn:Int)(sg:Bool)(s:ByteArray)(w:World)(hs:s.size≤1000)(h1:1≤syn)(h7:syn≤7)(hE:Hid (prw.Env w))(hT:Hid (dnw.Tabs w)):
  Calls Tryz.prog 261 #[.agg #[.string nm,.int .i64 syn,.bool sg],.string s] w (FormE (formO syn s.data.toList) w):=by
 obtain⟨W0,hW0⟩: ∃W,w.alloc (.cells #[.string nm,.int .i64 syn,.bool sg] 108)=W:=⟨_,rfl⟩;have hB0:Below w.heap.size w W0:=by rw[←hW0];exact(Below.refl _ _).alloc (Nat.le_refl _) _
 have HB0:=Lib.hid hB0;have hw0:w.heap.size≤W0.heap.size:=hB0.size;have HE0:=Lib.hid (prw.env_below hE.out hB0);have HT0:=Lib.hid (dnw.tabs_below hT.out hB0);have k1:W0.cell? ⟨w.heap.size,1,none⟩=some (.int .i64 syn):=by rw[←hW0,World.cell?_alloc_new];rfl
 clear hB0;have hcs:syn=1∨syn=2∨syn=3∨syn=4∨syn=5∨syn=6∨syn=7:=by omega
 clear h1 h7;rcases hcs with rfl | rfl | rfl | rfl | rfl | rfl | rfl
 ·have HF:formO 1 s.data.toList=ne0 (prp.readyO s.data.toList true):=rfl;rw[HF];have HC:Hid (Calls Tryz.prog 134 #[.string s,.bool true] W0 fun e w'=>e= .returned (prw.pairV (prp.readyO s.data.toList true))∧Below W0.heap.size W0 w'):=prw.ready_any s true W0 (by omega) HE0;clear HF;cases ho:prp.readyO s.data.toList true with
  | none=>rw[ho]at HC;rw[show prw.pairV none= .tuple #[.string ⟨#[]⟩,.int .i64 19]from rfl]at HC;clear ho;go_enter Tryz.func261,Tryz.ntmps261;go_wp2_with fail;refine HC.out.mono ?_;rintro e w1 ⟨rfl,hB1⟩;have HB1:=Lib.hid (HB0.out.trans (hB1.mono hw0));clear hB1;go_wp2_with fail;go_ret2;exact formE_none rfl HB1.out
  | some u=>
   rw[ho]at HC;have HC2:Hid (Calls Tryz.prog 134 #[.string s,.bool true] W0 fun e w'=>e= .returned (.tuple #[.string (bs u),.int .i64 0])∧Below W0.heap.size W0 w'):=HC;clear HC ho;by_cases hu:u=[]
   ·have hue:(bs u).toList=[]:=(by rw[hu,Lib.toList_data];rfl);have HN:Hid (ne0 (some u)=none):=(by show _=_;rw[hu];rfl);clear hu;go_enter Tryz.func261,Tryz.ntmps261;go_wp2_with fail;refine HC2.out.mono ?_;rintro e w1 ⟨rfl,hB1⟩;have HB1:=Lib.hid (HB0.out.trans (hB1.mono hw0));clear hB1;go_wp2_with fail;go_ret2;exact formE_none HN.out HB1.out
   ·have HN:Hid (ne0 (some u)=some u):=ne0_some hu;obtain⟨hu1,hu2⟩:=bs_ne hu;clear hu;go_enter Tryz.func261,Tryz.ntmps261;go_wp2_with fail;refine HC2.out.mono ?_;rintro e w1 ⟨rfl,hB1⟩;have HB1:=Lib.hid (HB0.out.trans (hB1.mono hw0));clear hB1;go_wp2_with fail;go_ret2;exact formE_some HN.out HB1.out
 ·have HF:formO 2 s.data.toList=ne0 (prp.readyO s.data.toList false):=rfl;rw[HF];have HC:Hid (Calls Tryz.prog 134 #[.string s,.bool false] W0 fun e w'=>e= .returned (prw.pairV (prp.readyO s.data.toList false))∧Below W0.heap.size W0 w'):=prw.ready_any s false W0 (by omega) HE0;clear HF;cases ho:prp.readyO s.data.toList false with
  | none=>rw[ho]at HC;rw[show prw.pairV none= .tuple #[.string ⟨#[]⟩,.int .i64 19]from rfl]at HC;clear ho;go_enter Tryz.func261,Tryz.ntmps261;go_wp2_with fail;refine HC.out.mono ?_;rintro e w1 ⟨rfl,hB1⟩;have HB1:=Lib.hid (HB0.out.trans (hB1.mono hw0));clear hB1;go_wp2_with fail;go_ret2;exact formE_none rfl HB1.out
  | some u=>
   rw[ho]at HC;have HC2:Hid (Calls Tryz.prog 134 #[.string s,.bool false] W0 fun e w'=>e= .returned (.tuple #[.string (bs u),.int .i64 0])∧Below W0.heap.size W0 w'):=HC;clear HC ho;by_cases hu:u=[]
   ·have hue:(bs u).toList=[]:=(by rw[hu,Lib.toList_data];rfl);have HN:Hid (ne0 (some u)=none):=(by show _=_;rw[hu];rfl);clear hu;go_enter Tryz.func261,Tryz.ntmps261;go_wp2_with fail;refine HC2.out.mono ?_;rintro e w1 ⟨rfl,hB1⟩;have HB1:=Lib.hid (HB0.out.trans (hB1.mono hw0));clear hB1;go_wp2_with fail;go_ret2;exact formE_none HN.out HB1.out
   ·have HN:Hid (ne0 (some u)=some u):=ne0_some hu;obtain⟨hu1,hu2⟩:=bs_ne hu;clear hu;go_enter Tryz.func261,Tryz.ntmps261;go_wp2_with fail;refine HC2.out.mono ?_;rintro e w1 ⟨rfl,hB1⟩;have HB1:=Lib.hid (HB0.out.trans (hB1.mono hw0));clear hB1;go_wp2_with fail;go_ret2;exact formE_some HN.out HB1.out
 ·go_enter Tryz.func261,Tryz.ntmps261;go_wp2_with fail;go_ret2;exact formE_is rfl HB0.out
 ·have HC:Hid (∀w,Calls Tryz.prog 291 #[.string s] w fun e w'=>e= .returned (.bool (numOK s.data.toList))∧w=w'):=fun w=>number_any s w (by omega);have HF:formO 4 s.data.toList=if numOK s.data.toList=true then some s.data.toList else none:=rfl;rw[HF];clear HF;cases hn:numOK s.data.toList with
  | true=>rw[hn]at HC;clear hn;go_enter Tryz.func261,Tryz.ntmps261;go_wp2_with fail;refine(HC.out _).mono ?_;rintro e w1 ⟨rfl,rfl⟩;go_wp2_with fail;go_ret2;exact formE_is rfl HB0.out
  | false=>rw[hn]at HC;clear hn;go_enter Tryz.func261,Tryz.ntmps261;go_wp2_with fail;refine(HC.out _).mono ?_;rintro e w1 ⟨rfl,rfl⟩;go_wp2_with fail;go_ret2;exact formE_none rfl HB0.out
 ·have HF:formO 5 s.data.toList=if s.data.toList=tT∨s.data.toList=tF then some s.data.toList else none:=rfl;rw[HF];clear HF;by_cases e1:s.data.toList=tT
  ·have q1:(s.toList==[84,82,85,69])=true:=(by rw[Lib.toList_data,e1];rfl);rw[if_pos (Or.inl e1)];clear e1;go_enter Tryz.func261,Tryz.ntmps261;go_wp2_with fail;go_ret2;exact formE_is rfl HB0.out
  ·have q1:(s.toList==[84,82,85,69])=false:=(by rw[Lib.toList_data];simpa[tT]using e1);by_cases e2:s.data.toList=tF
   ·have q2:(s.toList==[70,65,76,83,69])=true:=(by rw[Lib.toList_data,e2];rfl);rw[if_pos (Or.inr e2)];clear e1 e2;go_enter Tryz.func261,Tryz.ntmps261;go_wp2_with fail;go_ret2;exact formE_is rfl HB0.out
   ·have q2:(s.toList==[70,65,76,83,69])=false:=(by rw[Lib.toList_data];simpa[tF]using e2);rw[if_neg (by rintro(h | h);exact e1 h;exact e2 h)];clear e1 e2;go_enter Tryz.func261,Tryz.ntmps261;go_wp2_with fail;go_ret2;exact formE_none rfl HB0.out
 ·have HF:formO 6 s.data.toList=nameK s.data.toList:=rfl;rw[HF];clear HF;have HP:Hid (Calls Tryz.prog 94 #[.string s] W0 fun e w'=>Below W0.heap.size W0 w'∧ ∃ao cap,e= .returned (.tuple #[.slice ao (dnw.parseV s).1.length cap,.int .i64 (dnw.parseV s).2])∧dnw.Rdns w' ao (dnw.parseV s).1):=
   (dnw.parse_any s W0 (by omega) HE0 HT0).mono fun e w' h=>dnw.parseE_V h
  have hV:dnw.parseV s=match dnw.parseR s.data.toList with
    | none=>([],4)
    | some n=>(n,0):=by unfold dnw.parseV;rw[if_neg (by omega)]<;>cases dnw.parseR s.data.toList<;>rfl
  unfold nameK;cases hp:dnw.parseR s.data.toList with
  | none=>rw[hp]at hV;simp only at hV;rw[hV]at HP;simp only[List.length_nil]at HP;have HOKN:dnw.nameOK []=true:=(by decide);clear hV hp;go_enter Tryz.func261,Tryz.ntmps261;go_wp2_with fail;refine HP.out.mono ?_;rintro e w1 ⟨hB1,ao,cap,rfl,hR⟩;have HR:=Lib.hid hR;have HB1:=Lib.hid (HB0.out.trans (hB1.mono hw0));have HE1:=Lib.hid (prw.env_below HE0.out hB1);have HT1:=Lib.hid (dnw.tabs_below HT0.out hB1);clear hR hB1;go_wp2_with fail;refine(dnw.keys_any ao cap [] w1 HR HE1 HT1 (fun l hl=>by cases hl)).mono ?_;intro e w2 hK;obtain⟨hB2,hK2⟩:=hK;rw[if_pos HOKN]at hK2;obtain⟨ao2,cap2,rfl,_,hS⟩:=hK2;have HB2:=Lib.hid (HB1.out.trans (hB2.mono HB1.out.size));clear hB2 hS HOKN;go_wp2_with fail;refine(Tryz.strings_Join_none ao2 cap2 ⟨#[]⟩ w2).mono ?_;rintro e w3 ⟨rfl,hw3⟩;have HB3:Hid (Below w.heap.size w w3):=(by rw[hw3];exact HB2.out);clear hw3;go_wp2_with fail;go_ret2;exact formE_none rfl HB3.out
  | some n=>rw[hp]at hV;simp only at hV;rw[hV]at HP;simp only at HP;have hok:=parseR_ok hp;have HSM:Hid (∀l∈n,l.length≤4→dnw.Smalls l):=fun l hl _=>name_smalls hok l hl;have HJL:=Lib.hid (joinK_len n hok);have HNL:Hid (n.length≤12):=(by show _≤_;unfold dnw.nameOK at hok;rw[Bool.and_eq_true,decide_eq_true_eq]at hok;exact hok.1);have HOKN:=Lib.hid hok;obtain⟨m,hm⟩: ∃m,m=n.length:=⟨_,rfl⟩;have HM:=Lib.hid hm;rw[←hm]at HP;have HKA:Hid (∀ao cap w,dnw.Rdns w ao n→prw.Env w→dnw.Tabs w→Calls Tryz.prog 292 #[.slice ao m cap] w fun e w'=>Below w.heap.size w w'∧ ∃ao2 cap2,e= .returned (.tuple #[.slice ao2 m cap2,.int .i64 0])∧m≤cap2∧tupw.Strs w' ao2 (dnw.keysB n)):=(by intro ao cap w h1 h2 h3;rw[hm];refine(dnw.keys_any ao cap n w (Lib.hid h1) (Lib.hid h2) (Lib.hid h3) HSM).mono fun e w' h=> ?_;obtain⟨k1,k2⟩:=h;rw[if_pos HOKN.out]at k2;exact⟨k1,k2⟩);have HJ:Hid (∀ao cap w,tupw.Strs w ao (dnw.keysB n)→m≤cap→Calls Tryz.prog 165 #[.slice ao m cap,.string ⟨#[]⟩] w fun e w'=>e= .returned (.string (bs (joinK (dnw.keysB n))))∧Below w.heap.size w w'):=(by intro ao cap w h1 h2;have hl:(dnw.keysB n).length=m:=(by rw[dnw.keysB_len,hm]);have:=join_any ao cap (dnw.keysB n) w (Lib.hid h1) (by rw[hl];exact h2) (by have:=HNL.out;omega) (by have:=HJL.out;omega);rw[hl]at this;exact this);clear hV hp hok hm;go_enter Tryz.func261,Tryz.ntmps261;go_wp2_with fail;refine HP.out.mono ?_;rintro e w1 ⟨hB1,ao,cap,rfl,hR⟩;have HR:=Lib.hid hR;have HB1:=Lib.hid (HB0.out.trans (hB1.mono hw0));have HE1:=Lib.hid (prw.env_below HE0.out hB1);have HT1:=Lib.hid (dnw.tabs_below HT0.out hB1);clear hR hB1;go_wp2_with fail;refine(HKA.out _ _ _ HR.out HE1.out HT1.out).mono ?_;rintro e w2 ⟨hB2,ao2,cap2,rfl,hc2,hS⟩;have HS:=Lib.hid hS;have HB2:=Lib.hid (HB1.out.trans (hB2.mono HB1.out.size));clear hB2 hS;go_wp2_with fail;refine(HJ.out _ _ _ HS.out hc2).mono ?_;rintro e w3 ⟨rfl,hB3⟩;have HB3:=Lib.hid (HB2.out.trans (hB3.mono HB2.out.size));clear hB3;go_wp2_with fail;go_ret2;exact formE_some rfl HB3.out
 ·have HF:formO 7 s.data.toList=ne0 (prp.phoneO s.data.toList):=rfl;rw[HF];have HC:Hid (Calls Tryz.prog 290 #[.string s] W0 fun e w'=>e= .returned (prw.pairV (prp.phoneO s.data.toList))∧Below W0.heap.size W0 w'):=prw.phone_any s W0 (by omega) HE0;clear HF;cases ho:prp.phoneO s.data.toList with
  | none=>rw[ho]at HC;rw[show prw.pairV none= .tuple #[.string ⟨#[]⟩,.int .i64 19]from rfl]at HC;clear ho;go_enter Tryz.func261,Tryz.ntmps261;go_wp2_with fail;refine HC.out.mono ?_;rintro e w1 ⟨rfl,hB1⟩;have HB1:=Lib.hid (HB0.out.trans (hB1.mono hw0));clear hB1;go_wp2_with fail;go_ret2;exact formE_none rfl HB1.out
  | some u=>
   rw[ho]at HC;have HC2:Hid (Calls Tryz.prog 290 #[.string s] W0 fun e w'=>e= .returned (.tuple #[.string (bs u),.int .i64 0])∧Below W0.heap.size W0 w'):=HC;clear HC ho;by_cases hu:u=[]
   ·have hue:(bs u).toList=[]:=(by rw[hu,Lib.toList_data];rfl);have HN:Hid (ne0 (some u)=none):=(by show _=_;rw[hu];rfl);clear hu;go_enter Tryz.func261,Tryz.ntmps261;go_wp2_with fail;refine HC2.out.mono ?_;rintro e w1 ⟨rfl,hB1⟩;have HB1:=Lib.hid (HB0.out.trans (hB1.mono hw0));clear hB1;go_wp2_with fail;go_ret2;exact formE_none HN.out HB1.out
   ·have HN:Hid (ne0 (some u)=some u):=ne0_some hu;obtain⟨hu1,hu2⟩:=bs_ne hu;clear hu;go_enter Tryz.func261,Tryz.ntmps261;go_wp2_with fail;refine HC2.out.mono ?_;rintro e w1 ⟨rfl,hB1⟩;have HB1:=Lib.hid (HB0.out.trans (hB1.mono hw0));clear hB1;go_wp2_with fail;go_ret2;exact formE_some HN.out HB1.out
def normV (o:List UInt8 × Int):Value:= .tuple #[.string (bs o.1),.int .i64 o.2]
theorem known_any (nm:ByteArray)(syn:Int)(sg:Bool)(w:World):Calls Tryz.prog 260 #[.agg #[.string nm,.int .i64 syn,.bool sg]] w fun e w'=>e= .returned (.bool (decide (1≤syn∧syn≤7)))∧Below w.heap.size w w':=by
 obtain⟨W0,hW0⟩: ∃W,w.alloc (.cells #[.string nm,.int .i64 syn,.bool sg] 108)=W:=⟨_,rfl⟩;have HB0:Hid (Below w.heap.size w W0):=by rw[←hW0];exact(Below.refl _ _).alloc (Nat.le_refl _) _
 have k1:W0.cell? ⟨w.heap.size,1,none⟩=some (.int .i64 syn):=by rw[←hW0,World.cell?_alloc_new];rfl
 by_cases h1:1≤syn
 ·by_cases h7:syn≤7
  ·have HD:Hid (decide (1≤syn∧syn≤7)=true):=decide_eq_true ⟨h1,h7⟩;go_enter Tryz.func260,Tryz.ntmps260;go_wp2_with fail;go_ret;first | exact⟨by rw[HD.out];rfl,HB0.out⟩ | exact⟨rfl,HB0.out⟩
  ·have HD:Hid (decide (1≤syn∧syn≤7)=false):=decide_eq_false (fun h=>h7 h.2);have q:decide (syn≤7)=false:=decide_eq_false h7;clear h7;go_enter Tryz.func260,Tryz.ntmps260;go_wp2_with fail;go_ret;first | exact⟨by rw[HD.out];rfl,HB0.out⟩ | exact⟨rfl,HB0.out⟩
 ·have HD:Hid (decide (1≤syn∧syn≤7)=false):=decide_eq_false (fun h=>h1 h.1);have q:decide (1≤syn)=false:=decide_eq_false h1;go_enter Tryz.func260,Tryz.ntmps260;go_wp2_with fail;go_ret;first | exact⟨by rw[HD.out];rfl,HB0.out⟩ | exact⟨rfl,HB0.out⟩
theorem normal_any (nm:ByteArray)(syn:Int)(sg:Bool)(s:ByteArray)(w:World)(hs:s.size≤140737488351232)(hE:Hid (prw.Env w))(hT:Hid (dnw.Tabs w)):
  Calls Tryz.prog 200 #[.agg #[.string nm,.int .i64 syn,.bool sg],.string s] w fun e w'=>e= .returned (normV (normL syn s.data.toList))∧Below w.heap.size w w':=by
 obtain⟨W0,hW0⟩: ∃W,w.alloc (.cells #[.string nm,.int .i64 syn,.bool sg] 108)=W:=⟨_,rfl⟩;have hB0:Below w.heap.size w W0:=by rw[←hW0];exact(Below.refl _ _).alloc (Nat.le_refl _) _
 have HB0:=Lib.hid hB0;have hw0:w.heap.size<W0.heap.size:=by rw[←hW0];simp
 have HE0:=Lib.hid (prw.env_below hE.out hB0);have HT0:=Lib.hid (dnw.tabs_below hT.out hB0);have k0:W0.cell? ⟨w.heap.size,0,none⟩=some (.string nm):=by rw[←hW0,World.cell?_alloc_new];rfl
 have k1:W0.cell? ⟨w.heap.size,1,none⟩=some (.int .i64 syn):=by rw[←hW0,World.cell?_alloc_new];rfl
 have k2:W0.cell? ⟨w.heap.size,2,none⟩=some (.bool sg):=by rw[←hW0,World.cell?_alloc_new];rfl
 have HK:Hid (∀w,Calls Tryz.prog 260 #[.agg #[.string nm,.int .i64 syn,.bool sg]] w fun e w'=>e= .returned (.bool (decide (1≤syn∧syn≤7)))∧Below w.heap.size w w'):=fun w=>known_any nm syn sg w;clear hB0;by_cases hsy:1≤syn∧syn≤7
 ·rw[decide_eq_true hsy]at HK;by_cases hlong:1000<s.size
  ·rw[normL_long hsy (by rw[kt.size_len];exact hlong)];have hlI:(1000:Int)<(s.size:Int):=(by omega);clear hlong hsy;go_enter Tryz.func200,Tryz.ntmps200;go_wp2_with fail;refine(HK.out _).mono ?_;rintro e w1 ⟨rfl,hB1⟩;have HB1:=Lib.hid (HB0.out.trans (hB1.mono (Nat.le_of_lt hw0)));clear hB1 hW0;go_wp2_with fail;go_ret2;exact⟨rfl,HB1.out⟩
  ·have hlI: ¬ (1000:Int)<(s.size:Int):=(by omega);by_cases h0:s.data.toList=[]
   ·rw[normL_nil hsy h0];have hz:s.toList=[]:=(by rw[Lib.toList_data];exact h0);clear hsy hlong h0;go_enter Tryz.func200,Tryz.ntmps200;go_wp2_with fail;refine(HK.out _).mono ?_;rintro e w1 ⟨rfl,hB1⟩;have HB1:=Lib.hid (HB0.out.trans (hB1.mono (Nat.le_of_lt hw0)));clear hB1 hW0;go_wp2_with fail;go_ret2;exact⟨rfl,HB1.out⟩
   ·have HNF:=Lib.hid (normL_form hsy (by rw[kt.size_len];omega) h0);have HFM:Hid (∀w,prw.Env w→dnw.Tabs w→Calls Tryz.prog 261 #[.agg #[.string nm,.int .i64 syn,.bool sg],.string s] w (FormE (formO syn s.data.toList) w)):=fun w h1 h2=>form_any nm syn sg s w (by omega) hsy.1 hsy.2 (Lib.hid h1) (Lib.hid h2);obtain⟨z1,z2⟩:=str_ne (s:=s) (by
     rcases Nat.eq_zero_or_pos s.size with h | h
     ·exact absurd (by rw[zero_s h];rfl) h0
     ·exact h)
    clear hsy hlong h0;go_enter Tryz.func200,Tryz.ntmps200;go_wp2_with fail;refine(HK.out _).mono ?_;rintro e w1 ⟨rfl,hB1⟩;have HB1:=Lib.hid (HB0.out.trans (hB1.mono (Nat.le_of_lt hw0)));have HE1:=Lib.hid (prw.env_below HE0.out hB1);have HT1:=Lib.hid (dnw.tabs_below HT0.out hB1);have m0:=(hB1.cell (p:=⟨w.heap.size,0,none⟩) hw0).trans k0;have m1:=(hB1.cell (p:=⟨w.heap.size,1,none⟩) hw0).trans k1;have m2:=(hB1.cell (p:=⟨w.heap.size,2,none⟩) hw0).trans k2;clear hB1 hW0 k0 k1 k2;go_wp2_with fail;refine(HFM.out _ HE1.out HT1.out).mono ?_;intro e w2 hF;cases ho:formO syn s.data.toList with
    | none=>rw[ho]at hF;obtain⟨hB2,u,rfl⟩:=hF;have HB2:=Lib.hid (HB1.out.trans (hB2.mono HB1.out.size));have HO:=Lib.hid ho;clear hB2 ho;go_wp2_with fail;go_ret2;exact⟨by rw[HNF.out,HO.out];rfl,HB2.out⟩
    | some u=>rw[ho]at hF;obtain⟨hB2,rfl⟩:=hF;have HB2:=Lib.hid (HB1.out.trans (hB2.mono HB1.out.size));have HO:=Lib.hid ho;clear hB2 ho;go_wp2_with fail;go_ret2;exact⟨by rw[HNF.out,HO.out];rfl,HB2.out⟩
 ·rw[normL_bad hsy];rw[decide_eq_false hsy]at HK;clear hsy;go_enter Tryz.func200,Tryz.ntmps200;go_wp2_with fail;refine(HK.out _).mono ?_;rintro e w1 ⟨rfl,hB1⟩;have HB1:=Lib.hid (HB0.out.trans (hB1.mono (Nat.le_of_lt hw0)));clear hB1 hW0;go_wp2_with fail;go_ret2;exact⟨rfl,HB1.out⟩
theorem check_any (nm:ByteArray)(syn:Int)(sg:Bool)(s:ByteArray)(w:World)(hs:s.size≤140737488351232)(hE:Hid (prw.Env w))(hT:Hid (dnw.Tabs w)):
  Calls Tryz.prog 145 #[.agg #[.string nm,.int .i64 syn,.bool sg],.string s] w fun e w'=>e= .returned (.int .i64 (normL syn s.data.toList).2)∧Below w.heap.size w w':=by
 obtain⟨W0,hW0⟩: ∃W,w.alloc (.cells #[.string nm,.int .i64 syn,.bool sg] 108)=W:=⟨_,rfl⟩;have hB0:Below w.heap.size w W0:=by rw[←hW0];exact(Below.refl _ _).alloc (Nat.le_refl _) _
 have HB0:=Lib.hid hB0;have hw0:w.heap.size<W0.heap.size:=by rw[←hW0];simp
 have HE0:=Lib.hid (prw.env_below hE.out hB0);have HT0:=Lib.hid (dnw.tabs_below hT.out hB0);have k0:W0.cell? ⟨w.heap.size,0,none⟩=some (.string nm):=by rw[←hW0,World.cell?_alloc_new];rfl
 have k1:W0.cell? ⟨w.heap.size,1,none⟩=some (.int .i64 syn):=by rw[←hW0,World.cell?_alloc_new];rfl
 have k2:W0.cell? ⟨w.heap.size,2,none⟩=some (.bool sg):=by rw[←hW0,World.cell?_alloc_new];rfl
 have HN:Hid (∀w,prw.Env w→dnw.Tabs w→Calls Tryz.prog 200 #[.agg #[.string nm,.int .i64 syn,.bool sg],.string s] w fun e w'=>e= .returned (normV (normL syn s.data.toList))∧Below w.heap.size w w'):=fun w h1 h2=>normal_any nm syn sg s w hs (Lib.hid h1) (Lib.hid h2);obtain⟨uo,huo⟩: ∃u,normL syn s.data.toList=u:=⟨_,rfl⟩;rw[huo]at HN ⊢;clear huo;obtain⟨u,er⟩:=uo;obtain⟨ub,hub⟩: ∃ub,bs u=ub:=⟨_,rfl⟩;have HN2:Hid (∀w,prw.Env w→dnw.Tabs w→Calls Tryz.prog 200 #[.agg #[.string nm,.int .i64 syn,.bool sg],.string s] w fun e w'=>e= .returned (.tuple #[.string ub,.int .i64 er])∧Below w.heap.size w w'):=by rw[←hub];exact HN
 clear HN hub hB0;go_enter Tryz.func145,Tryz.ntmps145;go_wp2_with fail;refine(HN2.out _ HE0.out HT0.out).mono ?_;rintro e w1 ⟨rfl,hB1⟩;have HB1:=Lib.hid (HB0.out.trans (hB1.mono (Nat.le_of_lt hw0)));clear hB1;go_wp2_with fail;go_ret;exact⟨rfl,HB1.out⟩
end atw
open Go.RowKit
namespace tup
end tup
namespace prt
open tupw
def OwnB (w:World)(B:Nat)(v:Value)(l:List UInt8):Prop:=w.ownsRow B 5 1 v (Lib.byteCells l).length (Lib.byteCells l)
end prt
namespace fldw
theorem infoByte:(Tryz.prog.info? 5).map (fun i=>(i.zero,i.size,i.bytes))=some (some (.int .u8 0),1,1):=bld.infoByte
end fldw
namespace ord
open Go.Lib
theorem cmp_cons (a b:UInt8)(s t:List UInt8):compareBytes (a::s) (b::t)=if a<b then-1 else if b<a then 1 else compareBytes s t:=rfl
theorem cmp_same (a:UInt8)(s t:List UInt8):compareBytes (a::s) (a::t)=compareBytes s t:=by rw[cmp_cons];simp
theorem cmp_lt {a b:UInt8}(h:a<b)(s t:List UInt8):compareBytes (a::s) (b::t)= -1:=by rw[cmp_cons,if_pos h]
theorem cmp_gt {a b:UInt8}(h:b<a)(s t:List UInt8):compareBytes (a::s) (b::t)=1:=by rw[cmp_cons,if_neg (fun h'=>absurd h (by have h1:=UInt8.lt_iff_toNat_lt.1 h';intro h2;have h3:=UInt8.lt_iff_toNat_lt.1 h2;omega)),if_pos h]
theorem cmp_cases (a b:UInt8):a<b∨b<a∨a=b:=by
 rcases Nat.lt_trichotomy a.toNat b.toNat with h | h | h
 ·exact Or.inl (UInt8.lt_iff_toNat_lt.2 h)
 ·exact Or.inr (Or.inr (UInt8.toNat_inj.1 h))
 ·exact Or.inr (Or.inl (UInt8.lt_iff_toNat_lt.2 h))
theorem cmp_three: ∀a b:List UInt8,compareBytes a b= -1∨compareBytes a b=0∨compareBytes a b=1
 | [],[]=>Or.inr (Or.inl rfl)
 | [],_::_=>Or.inl rfl
 | _::_,[]=>Or.inr (Or.inr rfl)
 | a::s,b::t=>by
  rcases cmp_cases a b with h | h | rfl
  ·exact Or.inl (cmp_lt h s t)
  ·exact Or.inr (Or.inr (cmp_gt h s t))
  ·rw[cmp_same];exact cmp_three s t
theorem cmp_neg: ∀a b:List UInt8,compareBytes b a= -compareBytes a b
 | [],[]=>rfl
 | [],_::_=>rfl
 | _::_,[]=>rfl
 | a::s,b::t=>by
  rcases cmp_cases a b with h | h | rfl
  ·rw[cmp_lt h,cmp_gt h];rfl
  ·rw[cmp_gt h,cmp_lt h]
  ·rw[cmp_same,cmp_same];exact cmp_neg s t
theorem cmp_end (a b:List UInt8)(i:Nat)(hi:i≤a.length)(hb:i≤b.length)(h:a.length≤i∨b.length≤i):compareBytes (a.drop i) (b.drop i)=if a.length<b.length then-1 else if b.length<a.length then 1 else 0:=by
 by_cases h1:a.length≤i
 ·rw[List.drop_eq_nil_of_le h1];by_cases h2:b.length≤i
  ·rw[List.drop_eq_nil_of_le h2,if_neg (by omega),if_neg (by omega)];rfl
  ·rw[List.drop_eq_getElem_cons (by omega),if_pos (by omega)];rfl
 ·rw[List.drop_eq_nil_of_le (show b.length≤i by omega),List.drop_eq_getElem_cons (by omega),if_neg (by omega),if_pos (by omega)];rfl
end ord
open Go.RowKit
namespace ordw
open ord
theorem dr (s:ByteArray)(k:Nat)(h:k<s.size):s.data.toList.drop k=s[k]::s.data.toList.drop (k+1):=by rw[List.drop_eq_getElem_cons (by rw[kt.size_len];exact h)];rfl
theorem less_any (a b:ByteArray)(w:World)(ha:a.size≤1100000):
  Calls Tryz.prog 139 #[.string a,.string b] w fun e w'=>e= .returned (.int .i64 (Lib.compareBytes a.data.toList b.data.toList))∧ ∃n,w'=w.drewN n:=by
 go_enter Tryz.func139,Tryz.ntmps139;go_wp2_with fail;go_loopw [5] (fun iv wr=> ∃ (i:Nat),i≤a.size∧i≤b.size∧iv= .int .i64 i∧Hid (Lib.compareBytes a.data.toList b.data.toList=Lib.compareBytes (a.data.toList.drop i) (b.data.toList.drop i))∧ ∃n,wr=w.drewN n) (fun iv _=>a.size- (intOf iv).toNat);case atStart=>exact⟨0,Nat.zero_le _,Nat.zero_le _,rfl,rfl,0,rfl⟩
 case round=>
  obtain⟨i,hia,hib,rfl,hE,n,rfl⟩:=hrel;by_cases h:i<a.size∧i<b.size
  ·obtain⟨h1,h2⟩:=h;have h1':(i:Int)<(a.size:Int):=(by omega);have h2':(i:Int)<(b.size:Int):=(by omega);obtain⟨x,hx⟩: ∃x:UInt8,Hid (x=a[i]'h1):=⟨a[i]'h1,rfl⟩;obtain⟨y,hy⟩: ∃y:UInt8,Hid (y=b[i]'h2):=⟨b[i]'h2,rfl⟩;have ex:(a[i]'h1).toNat=x.toNat:=(by rw[hx.out]);have ey:(b[i]'h2).toNat=y.toNat:=(by rw[hy.out]);have he:=hE.out;rw[dr a i h1,dr b i h2,←hx.out,←hy.out]at he;rcases cmp_cases x y with c | c | c
   ·rw[cmp_lt c]at he;have HE:=Lib.hid he;have c':(x.toNat:Int)<(y.toNat:Int):=(by have:=UInt8.lt_iff_toNat_lt.1 c;omega);clear he c;go_wp2_with fail;go_quiet (fail);go_wp2_with fail;go_ret;exact⟨by rw[HE.out];rfl,_,World.drewN_drewN _ _ _⟩
   ·rw[cmp_gt c]at he;have HE:=Lib.hid he;have c': ¬ (x.toNat:Int)<(y.toNat:Int):=(by have:=UInt8.lt_iff_toNat_lt.1 c;omega);have c'':(y.toNat:Int)<(x.toNat:Int):=(by have:=UInt8.lt_iff_toNat_lt.1 c;omega);clear he c;go_wp2_with fail;go_quiet (fail);go_wp2_with fail;go_quiet (fail);go_wp2_with fail;go_ret;exact⟨by rw[HE.out];rfl,_,by rw[World.drewN_drewN,World.drewN_drewN]⟩
   ·subst c;rw[cmp_same]at he;have HE:=Lib.hid he;have c': ¬ (x.toNat:Int)<(x.toNat:Int):=(by omega);have hh1:=Lib.hid h1;have hh2:=Lib.hid h2;clear he;go_wp2_with fail;go_quiet (fail);go_wp2_with fail;go_quiet (fail);go_wp2_with fail;go_roundw;case rel=>exact⟨i+1,hh1.out,hh2.out,by go_num,HE,_,rfl⟩
    case measure=>have:=hh1.out;simp[intOf];omega
  ·have he:=hE.out;rw[cmp_end _ _ i (by rw[kt.size_len];exact hia) (by rw[kt.size_len];exact hib) (by rw[kt.size_len,kt.size_len];omega),kt.size_len,kt.size_len]at he;have hq:(decide ((i:Int)<(a.size:Int))&&decide ((i:Int)<(b.size:Int)))=false:=(by rw[Bool.and_eq_false_iff,decide_eq_false_iff_not,decide_eq_false_iff_not];omega);by_cases l1:a.size<b.size
   ·rw[if_pos l1]at he;have HE:=Lib.hid he;have l1':(a.size:Int)<(b.size:Int):=(by omega);have i1: ¬ (i:Int)<(a.size:Int):=(by omega);clear he h;go_wp2_with fail;go_ret;exact⟨by rw[HE.out];rfl,_,rfl⟩
   ·rw[if_neg l1]at he;have l1': ¬ (a.size:Int)<(b.size:Int):=(by omega);by_cases l2:b.size<a.size
    ·rw[if_pos l2]at he;have HE:=Lib.hid he;have l2':(b.size:Int)<(a.size:Int):=(by omega);have i1:(i:Int)<(a.size:Int):=(by omega);have i2: ¬ (i:Int)<(b.size:Int):=(by omega);clear he h;go_wp2_with fail;go_ret;exact⟨by rw[HE.out];rfl,_,rfl⟩
    ·rw[if_neg l2]at he;have HE:=Lib.hid he;have l2': ¬ (b.size:Int)<(a.size:Int):=(by omega);have i1: ¬ (i:Int)<(a.size:Int):=(by omega);clear he h;go_wp2_with fail;go_ret;exact⟨by rw[HE.out];rfl,_,rfl⟩
end ordw
open Go.RowKit
namespace dnw
open dnp
def KeyE (l:List Av)(e:Ending):Prop:=e=if rdnOK l=true then .returned (.tuple #[.string (bytes (keyL l)),.int .i64 0])else .returned (.tuple #[.string ⟨#[]⟩,.int .i64 4])
end dnw
open Go.RowKit
namespace dnw
open dnp
structure ApR (P:Program)(t tn ty:TypeId)(vs vx:Value)(w:World)(v':Value)(w':World):Prop where
 run:(Builtin.append_ #[t,tn] ty #[vs,vx]).run P w= .ok v' w'
theorem wp_apR {P:Program}{w:World}{ops:Array Oper}{rest:List Oper}{o:Oper}{a:Act}{Q:Exit→Act→World→Prop}(hgd:o.guard=none)(s x:Operand)(t tn:TypeId)
  (ho:o.op= .call {callee:= .builtin .append,args:=#[s,x],argTypes:=#[t,tn]}) (v':Value) (w':World) (hr:ApR P t tn o.type (a.eval s) (a.eval x) w v' w') (h:wpList P ops Q rest (a.put o.dst v') w'):wpList P ops Q (o::rest) a w:=
 Lib.wpList_append_run w hgd s x t tn ho _ _ rfl rfl v' w' hr.run h
end dnw
open Go.RowKit
namespace dnw
open dnp
theorem keyE_yes {l:List Av}(h:rdnOK l=true):KeyE l (.returned (.tuple #[.string (bytes (keyL l)),.int .i64 0])):=by unfold KeyE;rw[if_pos h]
theorem keyE_no {l:List Av}(h:rdnOK l=false):KeyE l (.returned (.tuple #[.string ⟨#[]⟩,.int .i64 4])):=by unfold KeyE;rw[if_neg (by rw[h];simp)]
end dnw
open Go.RowKit
namespace dnw
open dnp
def scell (x:Sg):List Value:=[.int .u8 (x.1.toNat:Int),.bool x.2]
def scells (l:List Sg):List Value:=l.flatMap scell
def OwnS (w:World)(B:Nat)(v:Value)(l:List Sg):Prop:=kt.SegX w B 194 2 v l.length (scells l)
theorem ownS_below {w w':World}{B:Nat}{v:Value}{l:List Sg}(h:OwnS w B v l)(hb:Below w.heap.size w w'):OwnS w' B v l:=kt.segX_below h hb
end dnw
open Go.RowKit
namespace dnw
open dnp
theorem take_next (A:List Sg)(k:Nat)(h:k<A.length):A.take (k+1)=A.take k++[A[k]]:=List.take_succ_eq_append_getElem h
theorem low_nat (c:UInt8):((low c).toNat:Int)=if 65≤(c.toNat:Int)∧(c.toNat:Int)≤90 then(c.toNat:Int)+32 else(c.toNat:Int):=by
 have all: ∀m:Fin 256,((low (UInt8.ofNat m.val)).toNat:Int)=if 65≤(m.val:Int)∧(m.val:Int)≤90 then(m.val:Int)+32 else(m.val:Int):=by decide+kernel
 have h:=all ⟨c.toNat,c.toNat_lt⟩;simp only[UInt8.ofNat_toNat]at h;exact h
end dnw
end Go.Proofs.YtmnpfkbjpeaemaaGreatDoor
