/- One text out of several: SchT, SchM, FilN, FilT, BdW, ELongW, SchD, SchE, SchG, FilL, OpenS, StrsOf, EntO, FilO, FilX. -/
import Derived.Shelf.SlicesE.DeleteFunc
import Derived.Shelf.SlicesE.IndexFunc
import Derived.Test.YtmnpfkbjpeaemaaGreatDoorProg
import Derived.Test.YtmnpfkbjpeaemaaGreatDoorL5
import Derived.Test.YtmnpfkbjpeaemaaGreatDoorL11
import Derived.Test.YtmnpfkbjpeaemaaGreatDoorL7
import Derived.Test.YtmnpfkbjpeaemaaGreatDoorL9
import Derived.Lib.SmallJoins
import Derived.Test.YtmnpfkbjpeaemaaGreatDoorL8
import Derived.Test.YtmnpfkbjpeaemaaGreatDoorL6
import Derived.Test.YtmnpfkbjpeaemaaGreatDoorRows
import Derived.Deep.QuietTactic
import Derived.BigQuiet
import Derived.Test.YtmnpfkbjpeaemaaGreatDoorL1
import Derived.Test.YtmnpfkbjpeaemaaGreatDoorL4
import Derived.Deep.Slices
import Derived.Deep.Fields
import Derived.ChangeSame
import Derived.SliceStrings
import Derived.Deep.MidRow
set_option linter.unusedVariables false
set_option linter.unusedSimpArgs false
set_option maxRecDepth 20000
set_option maxHeartbeats 8000000
namespace Go.Proofs.YtmnpfkbjpeaemaaGreatDoor
open Go.RowKit
namespace scw
open scp atw
open Go.Sort
theorem scells_ss (l:List (List UInt8)):prw.scells (l.map bs)=l.map encStr:=by unfold prw.scells;rw[List.map_map];rfl
def OwnS (w:World)(B:Nat)(v:Value)(l:List (List UInt8)):Prop:=prw.OwnT w B v (l.map bs)
theorem put_own {w:World}{B g cap q m:Nat}{cur:Array Value}(ts:List (List UInt8))(hBg:B≤g)(hg:w.heap[g]? =some (.cells cur 9 (0,0)))(h2:cap≤maxLen)(h3:cur.size=cap*1)(ht:ts.length≤cap)(hm:m≤ts.length):
  OwnS (putRow encStr (Sort.ahead w q) g 0 ts.toArray) B (.slice (some ⟨g,0,none⟩) m cap) (ts.take m)∧w.grownBy (putRow encStr (Sort.ahead w q) g 0 ts.toArray) (some g):=by
 have hb':=heap_sorted (os:=#[]) (n:=q) ts.toArray hg;have hgr:=grownBy_sorted (w:=w) (g:=g) (n:=q) (os:=#[]) ts.toArray;rw[grow_empty]at hb' hgr;refine⟨?_,hgr⟩;have htk:=take_putCells cur ts (by omega);have hml:((ts.take m).map bs).length=m:=by rw[List.length_map,List.length_take];omega
 unfold OwnS prw.OwnT;refine⟨(Nat.mul_one _).symm,.inr ⟨g,cap,_,?_,hBg,hb',?_,h2,?_,?_⟩⟩
 ·rw[prw.scells_length,hml]
 ·rw[prw.scells_length,hml];omega
 ·simp[putCells,h3]
 ·rw[Nat.mul_one,prw.scells_length,hml,scells_ss];have e3:=congrArg (List.take m) htk;rw[List.take_take,Nat.min_eq_left hm]at e3;rw[e3,List.map_take]
theorem ownS_cases {w:World}{B:Nat}{v:Value}{l:List (List UInt8)}(h:OwnS w B v l):(v= .slice none 0 0∧l=[])∨ ∃g cap cur,v= .slice (some ⟨g,0,none⟩) l.length cap∧B≤g∧g<w.heap.size∧w.heap[g]? =some (.cells cur 9 (0,0))∧l.length≤cap∧cap≤maxLen∧cur.size=cap*1∧Holds encStr w g 0 l.toArray:=by
 unfold OwnS prw.OwnT at h;rw[scells_ss,List.length_map]at h;rcases h.2 with⟨hv,h0⟩ | ⟨g,cap,cur,hv,hBg,hg,h1,h2,h3,h4⟩
 ·exact Or.inl ⟨hv,List.eq_nil_of_length_eq_zero h0⟩
 ·rw[Nat.mul_one]at h4;exact Or.inr ⟨g,cap,cur,hv,hBg,kt.bld_lt hg,hg,h1,h2,h3,holds_of_block hg h4⟩
theorem compact_len (zs:List (List UInt8)):(Lib.compact zs).length≤zs.length:=by unfold Lib.compact Lib.compactUpTo;rw[List.length_map];exact Nat.le_trans (List.length_filter_le _ _) (by simp)
theorem compactT {w:World}{B:Nat}{v:Value}{l:List (List UInt8)}(h:OwnS w B v l)(hl:l.length≤1000000)(hB:B≤w.heap.size):
  Calls Tryz.prog 117 #[v] w fun e w'=> ∃v',e= .returned v'∧OwnS w' B v' (Lib.compact l)∧Below B w w':=by
 rcases ownS_cases h with⟨rfl,rfl⟩ | ⟨g,cap,cur,rfl,hBg,hgl,hg,h1,h2,h3,hH⟩
 ·refine(Tryz.slices_Compact_string_empty none 0 w).mono ?_;rintro e w1 ⟨rfl,h1⟩;have h1:w1=w:=by first | exact h1 | exact h1.symm
  subst h1;exact⟨_,rfl,h,Below.refl _ _⟩
 ·refine(Tryz.slices_Compact_string g 0 cap l w hH (by omega) h1).mono ?_;rintro e w' ⟨rfl,q,rfl⟩;have hfl:(Lib.compact l).length≤l.length:=compact_len l;obtain⟨ho,hgr⟩:=put_own (w:=w) (q:=q) (m:=(Lib.compact l).length) (Lib.compact l++List.replicate (l.length- (Lib.compact l).length) []) hBg hg h2 h3 (by rw[List.length_append,List.length_replicate];omega) (by rw[List.length_append];omega);rw[List.take_left' rfl]at ho;exact⟨_,rfl,ho,(Below.refl B w).grown hgr hB (fun k hk=>by cases hk;exact hBg)⟩
theorem sortS {w:World}{B:Nat}{v:Value}{l:List (List UInt8)}(h:OwnS w B v l)(hl:l.length≤1000000)(hB:B≤w.heap.size):
  Calls Tryz.prog 116 #[v] w fun e w'=>e= .returned (.tuple #[])∧OwnS w' B v (dnw.sortL l)∧Below B w w':=by
 obtain⟨ao,cap,rfl,_,_⟩:=prw.ownT_cells h;have:=dnw.sortT h (by rw[List.length_map];omega) hB;refine this.mono ?_;rintro e w' ⟨he,ho,hb⟩;refine⟨he,?_,hb⟩;have e1:(l.map bs).map (·.data.toList)=l:=by
  rw[List.map_map];conv=>rhs;rw[←List.map_id l]
  exact List.map_congr_left fun x _=>rfl
 rw[e1]at ho;exact ho
end scw
open Go.RowKit
namespace scw
open scp atw etw
open Go.Sort
theorem ownS_below {w w':World}{B:Nat}{v:Value}{l:List T}(h:OwnS w B v l)(hb:Below w.heap.size w w'):OwnS w' B v l:=kt.row_below h hb
theorem ownS_nil (w:World)(B:Nat):OwnS w B (.slice none 0 0) []:=World.ownsRow_nil w B _ _
end scw
open Go.RowKit
namespace flw
open flp atp atw etp etw scw scp
open tupw (Strs strs_below)
theorem ask_len: ∀ (d:Nat) (F:Fl),(flp.ask d F).length≤cntN d F
 | 0,_=>Nat.le_refl _
 | d+1,F=>by
  have key: ∀l:List Fl,(l.flatMap (flp.ask d)).length≤(l.map (cntN d)).sum:=by
   intro l;induction l with
   | nil=>exact Nat.le_refl _
   | cons k r ih=>rw[List.flatMap_cons,List.length_append,List.map_cons,List.sum_cons];have:=ask_len d k;omega
  unfold flp.ask cntN;rw[List.length_append];have:=key F.kids;split
  ·simp only[List.length_cons,List.length_nil];omega
  ·simp only[List.length_nil];omega
theorem flat_ask_len (d:Nat): ∀l:List Fl,(l.flatMap (flp.ask d)).length≤(l.map (cntN d)).sum
 | []=>Nat.le_refl _
 | k::r=>by rw[List.flatMap_cons,List.length_append,List.map_cons,List.sum_cons];have:=ask_len d k;have:=flat_ask_len d r;omega
def own1 (F:Fl):List (List UInt8):=match findS (sml.lowL F.attr.data.toList)with
 | some t=>[t.name]
 | none=>[]
theorem ask_succ (d:Nat)(F:Fl):flp.ask (d+1) F=own1 F++F.kids.flatMap (flp.ask d):=rfl
theorem flat_take {d i:Nat}{l:List Fl}(hi:i<l.length):(l.take (i+1)).flatMap (flp.ask d)=(l.take i).flatMap (flp.ask d)++flp.ask d l[i]:=by rw[List.take_succ_eq_append_getElem hi,List.flatMap_append];simp
theorem ownS_appG {w:World}{B:Nat}{v:Value}{l:List T}(x:T)(h:OwnS w B v l)(hl:l.length≤1000000)(hB:B≤w.heap.size):
  ∃v' w1,(Builtin.append_ #[35,35] 35 #[v,.slice (some ⟨w.heap.size,0,none⟩) 1 1]).run Tryz.prog (w.alloc (.cells #[.string (bs x)] 9))= .ok v' w1∧OwnS w1 B v' (l++[x])∧Below B w w1∧w.grownBy w1 v.ownBlock:=by
 have h':w.ownsRow B 9 1 v (prw.scells (l.map bs)).length (prw.scells (l.map bs)):=h;obtain⟨v',w1,h1,h2,h3,h4⟩:=kt.app1 (P:=Tryz.prog) (t:=35) (ty:=35) Tryz.underlying35 prw.infoStr rfl (.string (bs x)) rfl h' (by rw[prw.scells_length,List.length_map];unfold maxLen;omega) (by rw[prw.scells_length,List.length_map];omega) hB;refine⟨v',w1,h1,?_,h4,h3⟩;unfold OwnS prw.OwnT;have e:prw.scells ((l++[x]).map bs)=prw.scells (l.map bs)++[.string (bs x)]:=by simp[prw.scells]
 rw[e];exact h2
theorem ownS_block {w:World}{B:Nat}{v:Value}{l:List T}(h:OwnS w B v l):v.ownBlock≠some w.heap.size:=by
 rcases ownS_cases h with⟨rfl,_⟩ | ⟨g,cap,cur,rfl,_,hg,_⟩
 ·intro e;cases e
 ·intro e;have:g=w.heap.size:=by simpa[Value.ownBlock]using e
  omega
theorem names_any (w0:World): ∀ (d:Nat) (F:Fl) (v lv:Value) (l:List (List UInt8)) (w:World),Below w0.heap.size w0 w→l.length+cntN d F≤900000→okD d F→Hid (FlX w0 v F)→Hid (FitX F)→Hid (EnvE w0)→Hid (OwnS w w0.heap.size lv l)→
  Calls Tryz.prog 115 #[v,lv] w fun e w'=> ∃u,e= .returned u∧OwnS w' w0.heap.size u (l++flp.ask d F)∧Below w0.heap.size w w':=by
 intro d;induction d with
 | zero=>intro F v lv l w hb hn hd hv hf hE hO;exact hd.elim
 | succ d ih=>
  intro F v lv l w hb hn hd hv hf hE hO;have IH:Hid (∀ (G:Fl) (u nv:Value) (m:List (List UInt8)) (W:World),Below w0.heap.size w0 W→m.length+cntN d G≤900000→G∈F.kids→FlX w0 u G→FitX G→OwnS W w0.heap.size nv m→Calls Tryz.prog 115 #[u,nv] W fun e w'=> ∃u,e= .returned u∧OwnS w' w0.heap.size u (m++flp.ask d G)∧Below w0.heap.size W w'):=fun G u nv m W h1 h2 h3 h4 h5 h6=>ih G u nv m W h1 h2 (hd G h3) (Lib.hid h4) (Lib.hid h5) hE (Lib.hid h6);have HFI:Hid (∀W,Below w0.heap.size w0 W→Calls Tryz.prog 74 #[.string F.attr] W fun e w'=>e= .returned (resT (findS (sml.lowL F.attr.data.toList)))∧Below W.heap.size W w'):=fun W h=>find_any F.attr W (by have:=(fitX_head hf.out).1;omega) (Lib.hid (envE_below hE.out h).y);have HAS:=Lib.hid (ask_succ d F);have HO1:Hid (own1 F=match findS (sml.lowL F.attr.data.toList)with
   | some t=>[t.name]
   | none=>[]):=rfl
  have HCS:=Lib.hid (show cntN (d+1) F=1+(F.kids.map (cntN d)).sum from rfl);have HNN:Hid (l.length+cntN (d+1) F≤900000):=hn;have HB0:=Lib.hid hb;have hz0:=hb.size;clear ih hd hn hb;rw[HAS.out];obtain⟨xa,xc,ka,kc,rfl,HX,HK,hxc,hkc⟩:=flX_form hv.out;unfold flV;obtain⟨N,hN⟩: ∃N,F.kids.length=N:=⟨_,rfl⟩;have HN:=Lib.hid hN;obtain⟨M,hM⟩: ∃M,F.any.length=M:=⟨_,rfl⟩;have hNb:N≤100000:=by rw[←hN];exact(fitX_head hf.out).2.2.2.2.2.2
  rw[hN]at hkc ⊢;rw[hM]at hxc ⊢;clear hN hM;obtain⟨W1,hW1⟩: ∃W,w.alloc (.cells #[.int .i64 F.kind,.string F.attr,.string F.value,.string F.first,.slice xa M xc,.string F.last,.slice ka N kc] 73)=W:=⟨_,rfl⟩;have hB1:Below w.heap.size w W1:=by rw[←hW1];exact(Below.refl _ _).alloc (Nat.le_refl _) _
  have HF1:Hid (R7 W1 w.heap.size (.int .i64 F.kind) (.string F.attr) (.string F.value) (.string F.first) (.slice xa M xc) (.string F.last) (.slice ka N kc)):=by rw[←hW1];exact r7_new _ _ _ _ _ _ _ _
  obtain⟨k0,k1,k2,k3,k4,k5,k6⟩:=r7_cells HF1.out;have HB1:=Lib.hid (HB0.out.trans (hB1.mono hz0));have HO2:=Lib.hid (ownS_below hO.out hB1);have HFI1:=Lib.hid (HFI.out W1 HB1.out);have HBw1:=Lib.hid (hB1.mono hz0);clear hB1 HFI;go_enter Tryz.func115,Tryz.ntmps115;go_wp2_with fail;refine HFI1.out.mono ?_;rintro e w2 ⟨hfr,hB2⟩;have HBw2:=Lib.hid (HBw1.out.trans (hB2.mono HB1.out.size));have HF2:=Lib.hid (r7_below HF1.out hB2);have HO3:=Lib.hid (ownS_below HO2.out hB2);clear hB2 k0 k1 k2 k3 k4 k5 k6 HFI1 hW1 HBw1 HB1;cases hfe:findS (sml.lowL F.attr.data.toList)with
  | none=>
   rw[hfe]at hfr HO1;have hfr2:e= .returned (.tuple #[.agg #[.string ⟨#[]⟩,.int .i64 0,.bool false],.bool false]):=hfr;subst hfr2;have HOW:Hid (own1 F=[]):=HO1.out;clear hfr hfe HO1;have hB4:Below w2.heap.size w2 (w2.alloc (.cells #[.string ⟨#[]⟩,.int .i64 0,.bool false] 108)):=(Below.refl _ _).alloc (Nat.le_refl _) _;have HB4:=Lib.hid (HBw2.out.trans (hB4.mono (Nat.le_trans hz0 HBw2.out.size)));have HF4:=Lib.hid (r7_below HF2.out hB4);have HO4:Hid (OwnS (w2.alloc (.cells #[.string ⟨#[]⟩,.int .i64 0,.bool false] 108)) w0.heap.size lv (l++own1 F)):=(by show OwnS _ _ _ _;rw[HOW.out,List.append_nil];exact ownS_below HO3.out hB4);have hl4:(l++own1 F).length≤l.length+1:=(by rw[HOW.out];simp);have HO5:=HO4;have HB5:=HB4;obtain⟨k0,k1,k2,k3,k4,k5,k6⟩:=r7_cells HF4.out;clear hB4;go_wp2_with fail;clear k0 k1 k2 k3 k4 k5 k6;go_loopw [1,24] (fun lw iv wr=> ∃i:Nat,i≤N∧iv= .int .i64 (i:Int)∧Hid (OwnS wr w0.heap.size lw ((l++own1 F)++(F.kids.take i).flatMap (flp.ask d)))∧Hid (Below w0.heap.size w wr)) (fun _ iv _=>N- (intOf iv).toNat);case atStart=>exact⟨0,Nat.zero_le _,rfl,(by show OwnS _ _ _ _;rw[List.take_zero,List.flatMap_nil,List.append_nil];exact HO5.out),HB5.out⟩
   case round=>
    obtain⟨i,hi,rfl,hO,hB⟩:=hrel;have hsz:=hB.out.size;have HBz:=Lib.hid (HB0.out.trans hB.out);by_cases hlt:i<N
    ·have hltI:(i:Int)<(N:Int):=(by omega);have hil:i<F.kids.length:=(by rw[HN.out];exact hlt);obtain⟨b,o,ya,yc,la,lc,hao,hc,hkX⟩:=kidsX_at HK.out i hil;subst hao;have HFK:=Lib.hid (fitX_kid hf.out (List.getElem_mem hil));have HMEM:=Lib.hid (List.getElem_mem hil);have HFT:=Lib.hid (flat_take (d:=d) hil);have HCT:=Lib.hid (cnt_step (d:=d) hil);have HCL:=Lib.hid (cnt_take (d:=d) F.kids (i+1));have HCA:Hid (((F.kids.take i).flatMap (flp.ask d)).length≤((F.kids.take i).map (cntN d)).sum):=flat_ask_len d _;obtain⟨G,hG⟩: ∃G,F.kids[i]=G:=⟨_,rfl⟩;rw[hG]at hc hkX HFK HMEM HFT HCT;clear hG;unfold flV at hkX;generalize G.any.length=m' at hc hkX;generalize G.kids.length=n' at hc hkX;have hc2:=cellsF_same hc (HBz.out.block b (cellsF_lt hc));obtain⟨c0,c1,c2,c3,c4,c5,c6⟩:=hc2;have HKX:=Lib.hid hkX;clear hkX hc;obtain⟨Wa,hWa⟩: ∃W,wr.alloc (.cells #[.int .i64 G.kind,.string G.attr,.string G.value,.string G.first,.slice ya m' yc,.string G.last,.slice la n' lc] 73)=W:=⟨_,rfl⟩;have hBA:Below wr.heap.size wr Wa:=(by rw[←hWa];exact(Below.refl _ _).alloc (Nat.le_refl _) _);have HTA:Hid (R7 Wa wr.heap.size (.int .i64 G.kind) (.string G.attr) (.string G.value) (.string G.first) (.slice ya m' yc) (.string G.last) (.slice la n' lc)):=(by rw[←hWa];exact r7_new _ _ _ _ _ _ _ _);obtain⟨x0,x1,x2,x3,x4,x5,x6⟩:=r7_cells HTA.out;have HBA:=Lib.hid (hBA.mono (Nat.le_trans hz0 hsz));have HOA:=Lib.hid (ownS_below hO.out hBA);clear hBA;have hlen:((l++own1 F)++(F.kids.take i).flatMap (flp.ask d)).length+cntN d G≤900000:=(by have h1:=HNN.out;have h2:=HCS.out;have h3:=HCT.out;have h4:=HCL.out;have h5:=HCA.out;rw[List.length_append];omega);have HC:=Lib.hid (IH.out G _ u1 _ Wa (HBz.out.trans HBA.out) hlen HMEM.out HKX.out HFK.out HOA.out);clear hlen;go_wp2_with fail;refine HC.out.mono ?_;rintro e w3 ⟨u3,rfl,hO3,hB3⟩;have HO3':Hid (OwnS w3 w0.heap.size u3 ((l++own1 F)++(F.kids.take (i+1)).flatMap (flp.ask d))):=(by show OwnS _ _ _ _;rw[HFT.out,←List.append_assoc];exact hO3);have HB3:=Lib.hid (hB.out.trans (HBA.out.trans hB3));clear hB3 hO3 x0 x1 x2 x3 x4 x5 x6 c0 c1 c2 c3 c4 c5 c6;go_wp2_with fail;go_roundw;case rel=>exact⟨i+1,by omega,by go_num,HO3'.out,HB3.out⟩
     case measure=>simp[intOf];omega
    ·obtain rfl:N=i:=(by omega);have HOE:Hid (OwnS wr w0.heap.size u1 (l++(own1 F++F.kids.flatMap (flp.ask d)))):=(by have h:=hO.out;rw[←HN.out,List.take_length,List.append_assoc]at h;exact h);go_wp2_with fail;go_ret;exact⟨_,rfl,HOE.out,hB.out⟩
  | some ty=>
   rw[hfe]at hfr HO1;have hfr2:e= .returned (.tuple #[.agg #[.string (bs ty.name),.int .i64 ty.syn,.bool ty.single],.bool true]):=hfr;subst hfr2;have HOW:Hid (own1 F=[ty.name]):=HO1.out;clear hfr hfe HO1;obtain⟨w3,hw3⟩: ∃W,w2.alloc (.cells #[.string (bs ty.name),.int .i64 ty.syn,.bool ty.single] 108)=W:=⟨_,rfl⟩;have hB3:Below w2.heap.size w2 w3:=(by rw[←hw3];exact(Below.refl _ _).alloc (Nat.le_refl _) _);obtain⟨tb,htb⟩: ∃tb,w2.heap.size=tb:=⟨_,rfl⟩;have HY3:Hid (TB w3 tb (bs ty.name) ty.syn ty.single):=(by rw[←hw3,←htb];exact tb_new _ _ _ _);have HB3:=Lib.hid (HBw2.out.trans (hB3.mono (Nat.le_trans hz0 HBw2.out.size)));have HF3:=Lib.hid (r7_below HF2.out hB3);have HO4:=Lib.hid (ownS_below HO3.out hB3);clear hB3;obtain⟨lv2,w4,hap,hO5,hB5,hgr⟩:=ownS_appG ty.name HO4.out (by have:=HNN.out;omega) (Nat.le_trans hz0 HB3.out.size);have HF5:Hid (R7 w4 w.heap.size (.int .i64 F.kind) (.string F.attr) (.string F.value) (.string F.first) (.slice xa M xc) (.string F.last) (.slice ka N kc)):=(hgr.block w.heap.size (r7_lt HF3.out) (fun e=>ownS_block hO.out e.symm)).trans HF3.out;have HB5:=Lib.hid (HB3.out.trans hB5);have hl4:(l++own1 F).length≤l.length+1:=(by rw[HOW.out];simp);have HO5:Hid (OwnS w4 w0.heap.size lv2 (l++own1 F)):=(by show OwnS _ _ _ _;rw[HOW.out];exact hO5);clear hO5 hB5 hgr;obtain⟨k0,k1,k2,k3,k4,k5,k6⟩:=r7_cells HF5.out;obtain⟨y0,y1,y2⟩:=tb_cells HY3.out;go_wp2_with (at_builtin;refine Lib.wpList_append_run _ rfl _ _ _ _ rfl _ _ rfl rfl _ _ hap ?_);clear k0 k1 k2 k3 k4 k5 k6 y0 y1 y2;go_loopw [1,24] (fun lw iv wr=> ∃i:Nat,i≤N∧iv= .int .i64 (i:Int)∧Hid (OwnS wr w0.heap.size lw ((l++own1 F)++(F.kids.take i).flatMap (flp.ask d)))∧Hid (Below w0.heap.size w wr)) (fun _ iv _=>N- (intOf iv).toNat);case atStart=>exact⟨0,Nat.zero_le _,rfl,(by show OwnS _ _ _ _;rw[List.take_zero,List.flatMap_nil,List.append_nil];exact HO5.out),HB5.out⟩
   case round=>
    obtain⟨i,hi,rfl,hO,hB⟩:=hrel;have hsz:=hB.out.size;have HBz:=Lib.hid (HB0.out.trans hB.out);by_cases hlt:i<N
    ·have hltI:(i:Int)<(N:Int):=(by omega);have hil:i<F.kids.length:=(by rw[HN.out];exact hlt);obtain⟨b,o,ya,yc,la,lc,hao,hc,hkX⟩:=kidsX_at HK.out i hil;subst hao;have HFK:=Lib.hid (fitX_kid hf.out (List.getElem_mem hil));have HMEM:=Lib.hid (List.getElem_mem hil);have HFT:=Lib.hid (flat_take (d:=d) hil);have HCT:=Lib.hid (cnt_step (d:=d) hil);have HCL:=Lib.hid (cnt_take (d:=d) F.kids (i+1));have HCA:Hid (((F.kids.take i).flatMap (flp.ask d)).length≤((F.kids.take i).map (cntN d)).sum):=flat_ask_len d _;obtain⟨G,hG⟩: ∃G,F.kids[i]=G:=⟨_,rfl⟩;rw[hG]at hc hkX HFK HMEM HFT HCT;clear hG;unfold flV at hkX;generalize G.any.length=m' at hc hkX;generalize G.kids.length=n' at hc hkX;have hc2:=cellsF_same hc (HBz.out.block b (cellsF_lt hc));obtain⟨c0,c1,c2,c3,c4,c5,c6⟩:=hc2;have HKX:=Lib.hid hkX;clear hkX hc;obtain⟨Wa,hWa⟩: ∃W,wr.alloc (.cells #[.int .i64 G.kind,.string G.attr,.string G.value,.string G.first,.slice ya m' yc,.string G.last,.slice la n' lc] 73)=W:=⟨_,rfl⟩;have hBA:Below wr.heap.size wr Wa:=(by rw[←hWa];exact(Below.refl _ _).alloc (Nat.le_refl _) _);have HTA:Hid (R7 Wa wr.heap.size (.int .i64 G.kind) (.string G.attr) (.string G.value) (.string G.first) (.slice ya m' yc) (.string G.last) (.slice la n' lc)):=(by rw[←hWa];exact r7_new _ _ _ _ _ _ _ _);obtain⟨x0,x1,x2,x3,x4,x5,x6⟩:=r7_cells HTA.out;have HBA:=Lib.hid (hBA.mono (Nat.le_trans hz0 hsz));have HOA:=Lib.hid (ownS_below hO.out hBA);clear hBA;have hlen:((l++own1 F)++(F.kids.take i).flatMap (flp.ask d)).length+cntN d G≤900000:=(by have h1:=HNN.out;have h2:=HCS.out;have h3:=HCT.out;have h4:=HCL.out;have h5:=HCA.out;rw[List.length_append];omega);have HC:=Lib.hid (IH.out G _ u1 _ Wa (HBz.out.trans HBA.out) hlen HMEM.out HKX.out HFK.out HOA.out);clear hlen;go_wp2_with fail;refine HC.out.mono ?_;rintro e w3 ⟨u3,rfl,hO3,hB3⟩;have HO3':Hid (OwnS w3 w0.heap.size u3 ((l++own1 F)++(F.kids.take (i+1)).flatMap (flp.ask d))):=(by show OwnS _ _ _ _;rw[HFT.out,←List.append_assoc];exact hO3);have HB3:=Lib.hid (hB.out.trans (HBA.out.trans hB3));clear hB3 hO3 x0 x1 x2 x3 x4 x5 x6 c0 c1 c2 c3 c4 c5 c6;go_wp2_with fail;go_roundw;case rel=>exact⟨i+1,by omega,by go_num,HO3'.out,HB3.out⟩
     case measure=>simp[intOf];omega
    ·obtain rfl:N=i:=(by omega);have HOE:Hid (OwnS wr w0.heap.size u1 (l++(own1 F++F.kids.flatMap (flp.ask d)))):=(by have h:=hO.out;rw[←HN.out,List.take_length,List.append_assoc]at h;exact h);go_wp2_with fail;go_ret;exact⟨_,rfl,HOE.out,hB.out⟩
def asked (F:Fl):List (List UInt8):=if rightF F=true then(flp.ask 8 F).foldl putL []else[]
theorem attrs_any (F:Fl)(v:Value)(w:World)(hv:Hid (FlX w v F))(hf:Hid (FitX F))(hE:Hid (EnvE w)):
  Calls Tryz.prog 55 #[v] w fun e w'=> ∃u,e= .returned u∧OwnS w' w.heap.size u (asked F)∧Below w.heap.size w w':=by
 have HR0:Hid (∀W,Below w.heap.size w W→Calls Tryz.prog 49 #[v] W fun e w'=>e= .returned (.bool (rightF F))∧Below W.heap.size W w'):=fun W h=>right_any F v W (Lib.hid (flX_below hv.out h)) hf;have HNA0:Hid (rightF F=true→ ∀W,Below w.heap.size w W→Calls Tryz.prog 115 #[v,.slice none 0 0] W fun e w'=> ∃u,e= .returned u∧OwnS w' w.heap.size u (flp.ask 8 F)∧Below w.heap.size W w'):=by intro hr W h;obtain⟨h1,h2⟩:=(rightF_iff F).1 hr;exact names_any w 8 F v (.slice none 0 0) [] W h (by simp;omega) (rightD_ok h1) hv hf hE (Lib.hid (ownS_nil W w.heap.size))
 have HLN:Hid (rightF F=true→(flp.ask 8 F).length≤40):=fun hr=>by have:=ask_len 8 F;have:=((rightF_iff F).1 hr).2;omega
 have HV:Hid (asked F=if rightF F=true then Lib.compact (dnw.sortL (flp.ask 8 F))else[]):=by show _=_;rw[flr.names_eq];rfl
 generalize asked F=R at HV ⊢;generalize flp.ask 8 F=l at HNA0 HLN HV;generalize rightF F=rb at HR0 HNA0 HLN HV;obtain⟨xa,xc,ka,kc,rfl,HX,HK,hxc,hkc⟩:=flX_form hv.out;unfold flV;try unfold flV at HR0
 try unfold flV at HNA0
 obtain⟨N,hN⟩: ∃N,F.kids.length=N:=⟨_,rfl⟩;have HN:=Lib.hid hN;obtain⟨M,hM⟩: ∃M,F.any.length=M:=⟨_,rfl⟩;have HM:=Lib.hid hM;have HFH:=Lib.hid (fitX_head hf.out);have hNb:N≤100000:=by rw[←hN];exact HFH.out.2.2.2.2.2.2
 have hMb:M≤100000:=by rw[←hM];exact HFH.out.2.2.2.2.1
 rw[hN]at hkc ⊢;try rw[hN]at HR0
 try rw[hN]at HNA0
 rw[hM]at hxc ⊢;try rw[hM]at HR0
 try rw[hM]at HNA0
 clear hN hM;obtain⟨W1,hW1⟩: ∃W,w.alloc (.cells #[.int .i64 F.kind,.string F.attr,.string F.value,.string F.first,.slice xa M xc,.string F.last,.slice ka N kc] 73)=W:=⟨_,rfl⟩;have hB1:Below w.heap.size w W1:=by rw[←hW1];exact(Below.refl _ _).alloc (Nat.le_refl _) _
 have HF1:Hid (R7 W1 w.heap.size (.int .i64 F.kind) (.string F.attr) (.string F.value) (.string F.first) (.slice xa M xc) (.string F.last) (.slice ka N kc)):=by rw[←hW1];exact r7_new _ _ _ _ _ _ _ _
 obtain⟨k0,k1,k2,k3,k4,k5,k6⟩:=r7_cells HF1.out;have HB1:=Lib.hid hB1;have hs1:=hB1.size;clear hB1;have HR1:=Lib.hid (HR0.out W1 HB1.out);clear HR0;cases rb with
 | false=>have HR:Hid (R=[]):=HV.out;go_enter Tryz.func55,Tryz.ntmps55;go_wp2_with fail;refine HR1.out.mono ?_;rintro e w2 ⟨rfl,hB2⟩;have HB2:=Lib.hid (HB1.out.trans (hB2.mono hs1));clear hB2 k0 k1 k2 k3 k4 k5 k6;go_wp2_with fail;go_ret;exact⟨_,rfl,by rw[HR.out];exact ownS_nil _ _,HB2.out⟩
 | true=>
  have HR:Hid (R=Lib.compact (dnw.sortL l)):=HV.out;have HN1:=Lib.hid (HNA0.out rfl);have hl40:=HLN.out rfl;clear HNA0 HLN;go_enter Tryz.func55,Tryz.ntmps55;go_wp2_with fail;refine HR1.out.mono ?_;rintro e w2 ⟨rfl,hB2⟩;have HB2:=Lib.hid (HB1.out.trans (hB2.mono hs1));have HF2:=Lib.hid (r7_below HF1.out hB2);have HN2:=Lib.hid (HN1.out w2 HB2.out);clear hB2 k0 k1 k2 k3 k4 k5 k6;obtain⟨k0,k1,k2,k3,k4,k5,k6⟩:=r7_cells HF2.out;go_wp2_with fail;refine HN2.out.mono ?_;rintro e w3 ⟨u3,rfl,hO3,hB3⟩;have HB3:=Lib.hid (HB2.out.trans hB3);have HS3:=Lib.hid (sortS hO3 (by omega) HB3.out.size);clear hB3 hO3 k0 k1 k2 k3 k4 k5 k6;go_wp2_with fail;refine HS3.out.mono ?_;rintro e w4 ⟨rfl,hO4,hB4⟩;have HB4:=Lib.hid (HB3.out.trans hB4);have hsl:(dnw.sortL l).length=l.length:=by unfold dnw.sortL;simp
  have HC4:=Lib.hid (compactT hO4 (by omega) HB4.out.size);clear hB4 hO4 hsl;go_wp2_with fail;refine HC4.out.mono ?_;rintro e w5 ⟨u5,rfl,hO5,hB5⟩;have HB5:=Lib.hid (HB4.out.trans hB5);have HO5:=Lib.hid hO5;clear hB5 hO5;go_wp2_with fail;go_ret;exact⟨_,rfl,by rw[HR.out];exact HO5.out,HB5.out⟩
end flw
open Go.RowKit
namespace flw
open flp atp atw etp etw
open tupw (Strs strs_below)
theorem cap_min (n:Nat):min (n:Int) 5001=((cap5 n:Nat):Int):=by unfold cap5;omega
theorem weigh_any: ∀ (d:Nat) (F:Fl) (v:Value) (n dp:Nat) (w:World),n≤5000→dp+d=61→Hid (FlX w v F)→
  Calls Tryz.prog 111 #[v,.int .i64 (n:Int),.int .i64 (dp:Int)] w fun e w'=>e= .returned (.int .i64 ((weighF d F n:Nat):Int))∧Below w.heap.size w w':=by
 intro d;induction d with
 | zero=>
  intro F v n dp w hn hd hv;obtain rfl:dp=61:=by omega
  obtain⟨xa,xc,ka,kc,rfl,HX,HK,hxc,hkc⟩:=flX_form hv.out;unfold flV;obtain⟨N,hN⟩: ∃N,F.kids.length=N:=⟨_,rfl⟩;have HN:=Lib.hid hN;obtain⟨M,hM⟩: ∃M,F.any.length=M:=⟨_,rfl⟩;have HM:=Lib.hid hM;rw[hN]at hkc ⊢;rw[hM]at hxc ⊢;clear hN hM;obtain⟨W1,hW1⟩: ∃W,w.alloc (.cells #[.int .i64 F.kind,.string F.attr,.string F.value,.string F.first,.slice xa M xc,.string F.last,.slice ka N kc] 73)=W:=⟨_,rfl⟩;have hB1:Below w.heap.size w W1:=by rw[←hW1];exact(Below.refl _ _).alloc (Nat.le_refl _) _
  have HF1:Hid (R7 W1 w.heap.size (.int .i64 F.kind) (.string F.attr) (.string F.value) (.string F.first) (.slice xa M xc) (.string F.last) (.slice ka N kc)):=by rw[←hW1];exact r7_new _ _ _ _ _ _ _ _
  obtain⟨k0,k1,k2,k3,k4,k5,k6⟩:=r7_cells HF1.out;have HB1:=Lib.hid hB1;have hs1:=hB1.size;clear hB1;go_enter Tryz.func111,Tryz.ntmps111;go_wp2_with fail;go_ret;exact⟨rfl,HB1.out⟩
 | succ d ih=>
  intro F v n dp w hn hd hv;have hdp: ¬ (60:Int)<(dp:Int):=by omega
  have hdp0:(dp:Int)≤60:=by omega
  have IH:Hid (∀ (G:Fl) (u:Value) (r:Nat) (W:World),r≤5000→FlX W u G→Calls Tryz.prog 111 #[u,.int .i64 (r:Int),.int .i64 ((dp:Int)+1)] W fun e w'=>e= .returned (.int .i64 ((weighF d G r:Nat):Int))∧Below W.heap.size W w'):=by intro G u r W hr hu;have:=ih G u r (dp+1) W hr (by omega) (Lib.hid hu);rw[show((dp+1:Nat):Int)=(dp:Int)+1 from by omega]at this;exact this
  have HLE:Hid (∀ (G:Fl) (r:Nat),r≤5000→weighF d G r≤60000):=fun G r h=>weigh_le d G r h;clear ih hd;have HR:Hid (weighF (d+1) F n=kidsW (weighF d) (anyW (n+headW F) F.any) F.kids):=rfl;obtain⟨R,hR⟩: ∃R,weighF (d+1) F n=R:=⟨_,rfl⟩;rw[hR]at HR ⊢;clear hR;have e1:=cap_min F.attr.size;have e2:=cap_min F.value.size;have e3:=cap_min F.first.size;have e4:=cap_min F.last.size;have b1:=cap5_le F.attr.size;have b2:=cap5_le F.value.size;have b3:=cap5_le F.first.size;have b4:=cap5_le F.last.size;have HH:Hid (headW F=1+cap5 F.attr.size+cap5 F.value.size+cap5 F.first.size+cap5 F.last.size):=rfl;generalize cap5 F.attr.size=a1 at e1 b1 HH;generalize cap5 F.value.size=a2 at e2 b2 HH;generalize cap5 F.first.size=a3 at e3 b3 HH;generalize cap5 F.last.size=a4 at e4 b4 HH;generalize headW F=h0 at HH HR;obtain⟨xa,xc,ka,kc,rfl,HX,HK,hxc,hkc⟩:=flX_form hv.out;unfold flV;obtain⟨N,hN⟩: ∃N,F.kids.length=N:=⟨_,rfl⟩;have HN:=Lib.hid hN;obtain⟨M,hM⟩: ∃M,F.any.length=M:=⟨_,rfl⟩;have HM:=Lib.hid hM;rw[hN]at hkc ⊢;rw[hM]at hxc ⊢;clear hN hM;obtain⟨W1,hW1⟩: ∃W,w.alloc (.cells #[.int .i64 F.kind,.string F.attr,.string F.value,.string F.first,.slice xa M xc,.string F.last,.slice ka N kc] 73)=W:=⟨_,rfl⟩;have hB1:Below w.heap.size w W1:=by rw[←hW1];exact(Below.refl _ _).alloc (Nat.le_refl _) _
  have HF1:Hid (R7 W1 w.heap.size (.int .i64 F.kind) (.string F.attr) (.string F.value) (.string F.first) (.slice xa M xc) (.string F.last) (.slice ka N kc)):=by rw[←hW1];exact r7_new _ _ _ _ _ _ _ _
  obtain⟨k0,k1,k2,k3,k4,k5,k6⟩:=r7_cells HF1.out;have HB1:=Lib.hid hB1;have hs1:=hB1.size;clear hB1;go_enter Tryz.func111,Tryz.ntmps111;go_wp2_with fail;clear k0 k1 k2 k3 k4 k5 k6 e1 e2 e3 e4;go_loopw [1,7] (fun lv iv wr=> ∃ (i a:Nat),i≤M∧i≤a∧a≤26000∧lv= .int .i64 (a:Int)∧iv= .int .i64 (i:Int)∧Hid (Below w.heap.size w wr)∧Hid (R7 wr w.heap.size (.int .i64 F.kind) (.string F.attr) (.string F.value) (.string F.first) (.slice xa M xc) (.string F.last) (.slice ka N kc))∧Hid (R=kidsW (weighF d) (anyW a (F.any.drop i)) F.kids)) (fun _ iv _=>M- (intOf iv).toNat);case atStart=>exact⟨0,n+h0,Nat.zero_le _,Nat.zero_le _,(by have:=HH.out;omega),congrArg (Value.int .i64) (by have:=HH.out;omega),rfl,HB1.out,HF1.out,HR.out⟩
  case round=>
   obtain⟨i,a,hi,hia,ha,rfl,rfl,hB,hT,hJ⟩:=hrel;have HBw:=hB;have hsw:=hB.out.size;clear hB;obtain⟨k0,k1,k2,k3,k4,k5,k6⟩:=r7_cells hT.out;by_cases hlt:i<M
   ·have hltI:(i:Int)<(M:Int):=(by omega);by_cases h5:a≤5000
    ·have h5I:(a:Int)≤5000:=(by omega);have hil:i<F.any.length:=(by rw[HM.out];exact hlt);obtain⟨b,o,hao,hc0⟩:=(strs_below HX.out HBw.out) i hil;subst hao;have HST:=Lib.hid (anyW_step h5 hil);obtain⟨x,hx⟩: ∃x,F.any[i]=x:=⟨_,rfl⟩;rw[hx]at hc0 HST;clear hx;have e1:=cap_min x.size;have b1:=cap5_le x.size;generalize cap5 x.size=c1 at e1 b1 HST;have HJ2:Hid (R=kidsW (weighF d) (anyW (a+1+c1) (F.any.drop (i+1))) F.kids):=(by show _=_;rw[hJ.out,HST.out]);go_wp2_with fail;go_roundw;case rel=>exact⟨i+1,a+1+c1,by omega,by omega,by omega,congrArg (Value.int .i64) (by omega),by go_num,HBw.out,hT.out,HJ2.out⟩
     case measure=>simp[intOf];omega
    ·have h5I: ¬ (a:Int)≤5000:=(by omega);have HK1:Hid (R=a):=(by show _=_;rw[hJ.out,anyW_stop h5,kidsW_stop h5]);clear hJ;go_wp2_with fail;clear k0 k1 k2 k3 k4 k5 k6;go_loopw [1,8] (fun lv iv wi=>lv= .int .i64 (a:Int)∧iv= .int .i64 ((0:Nat):Int)∧Hid (Below w.heap.size w wi)∧Hid (R7 wi w.heap.size (.int .i64 F.kind) (.string F.attr) (.string F.value) (.string F.first) (.slice xa M xc) (.string F.last) (.slice ka N kc))) (fun _ iv _=>0);case atStart=>exact⟨rfl,rfl,HBw.out,hT.out⟩
     case round=>
      obtain⟨rfl,rfl,hB,hT⟩:=hrel;obtain⟨k0,k1,k2,k3,k4,k5,k6⟩:=r7_cells hT.out;by_cases hN0:0<N
      ·have hN1:(0:Int)<(N:Int):=(by omega);go_wp2_with fail;go_ret;exact⟨kt.ret_int (by rw[HK1.out]),hB.out⟩
      ·have hN1: ¬ (0:Int)<(N:Int):=(by omega);go_wp2_with fail;go_ret;exact⟨kt.ret_int (by rw[HK1.out]),hB.out⟩
   ·obtain rfl:M=i:=(by omega);have HJ2:Hid (R=kidsW (weighF d) a F.kids):=(by show _=_;rw[hJ.out,←HM.out,List.drop_length];rfl);clear hJ;go_wp2_with fail;clear k0 k1 k2 k3 k4 k5 k6;go_loopw [1,8] (fun lv iv wi=> ∃ (i a:Nat),i≤N∧i≤a∧a≤60000∧lv= .int .i64 (a:Int)∧iv= .int .i64 (i:Int)∧Hid (Below w.heap.size w wi)∧Hid (R7 wi w.heap.size (.int .i64 F.kind) (.string F.attr) (.string F.value) (.string F.first) (.slice xa M xc) (.string F.last) (.slice ka N kc))∧Hid (R=kidsW (weighF d) a (F.kids.drop i))) (fun _ iv _=>N- (intOf iv).toNat);case atStart=>exact⟨0,a,Nat.zero_le _,Nat.zero_le _,by omega,rfl,rfl,HBw.out,hT.out,HJ2.out⟩
    case round=>
     obtain⟨i,a,hi,hia,ha,rfl,rfl,hB,hT,hJ⟩:=hrel;clear HBw;have HBw:=hB;have hsw:=hB.out.size;clear hB;obtain⟨k0,k1,k2,k3,k4,k5,k6⟩:=r7_cells hT.out;by_cases hlt:i<N
     ·by_cases h5:a≤5000
      ·have h5I:(a:Int)≤5000:=(by omega);have hltI:(i:Int)<(N:Int):=(by omega);have hil:i<F.kids.length:=(by rw[HN.out];exact hlt);obtain⟨b,o,ya,yc,la,lc,hao,hc,hkX⟩:=kidsX_at (kidsX_below HK.out HBw.out) i hil;subst hao;obtain⟨G,hG⟩: ∃G,F.kids[i]=G:=⟨_,rfl⟩;have HG:=Lib.hid hG;rw[hG]at hc hkX;clear hG;unfold flV at hkX;generalize G.any.length=m' at hc hkX;generalize G.kids.length=n' at hc hkX;obtain⟨c0,c1,c2,c3,c4,c5,c6⟩:=hc;have HKX:=Lib.hid hkX;clear hkX;have HST:=Lib.hid (kidsW_step (f:=weighF d) h5 hil);rw[HG.out]at HST;have HC:Hid (Calls Tryz.prog 111 #[.agg #[.int .i64 G.kind,.string G.attr,.string G.value,.string G.first,.slice ya m' yc,.string G.last,.slice la n' lc],.int .i64 (a:Int),.int .i64 ((dp:Int)+1)] wr fun e w'=>e= .returned (.int .i64 ((weighF d G a:Nat):Int))∧Below wr.heap.size wr w'):=IH.out G _ a wr h5 HKX.out;have hb:=HLE.out G a h5;have HGE:Hid (weighF d G a≤5000→a+1≤weighF d G a):=fun h=>by have:=weigh_fit d G a h;omega
       obtain⟨c,hc⟩: ∃c,weighF d G a=c:=⟨_,rfl⟩;rw[hc]at HC HST hb HGE;have hac:i+1≤c:=by
        by_cases h6:c≤5000
        ·have:=HGE.out h6;omega
        ·omega
       have HJ2:Hid (R=kidsW (weighF d) c (F.kids.drop (i+1))):=(by show _=_;rw[hJ.out,HST.out]);clear hc;go_wp2_with fail;refine HC.out.mono ?_;rintro e w3 ⟨rfl,hB3⟩;have HB3:=Lib.hid (HBw.out.trans (hB3.mono hsw));have HT3:=Lib.hid (r7_below hT.out hB3);clear hB3 c0 c1 c2 c3 c4 c5 c6 k0 k1 k2 k3 k4 k5 k6;go_wp2_with fail;go_roundw;case rel=>exact⟨i+1,c,by omega,hac,hb,rfl,by go_num,HB3.out,HT3.out,HJ2.out⟩
       case measure=>simp[intOf];omega
      ·have h5I: ¬ (a:Int)≤5000:=(by omega);have hltI:(i:Int)<(N:Int):=(by omega);have HR2:Hid (R=a):=(by show _=_;rw[hJ.out,kidsW_stop h5]);go_wp2_with fail;go_ret;exact⟨kt.ret_int (by rw[HR2.out]),HBw.out⟩
     ·obtain rfl:N=i:=(by omega);have HR2:Hid (R=a):=(by show _=_;rw[hJ.out,←HN.out,List.drop_length];rfl);go_wp2_with fail;go_ret;exact⟨kt.ret_int (by rw[HR2.out]),HBw.out⟩
theorem long_any (F:Fl)(v:Value)(w:World)(hv:Hid (FlX w v F)):
  Calls Tryz.prog 46 #[v] w fun e w'=>e= .returned (.bool (longF F))∧Below w.heap.size w w':=by
 have HC0:Hid (∀W,Below w.heap.size w W→Calls Tryz.prog 111 #[v,.int .i64 0,.int .i64 1] W fun e w'=>e= .returned (.int .i64 ((weighF 60 F 0:Nat):Int))∧Below W.heap.size W w'):=fun W h=>weigh_any 60 F v 0 1 W (by omega) rfl (Lib.hid (flX_below hv.out h));have HR:Hid (decide ((5000:Int)<((weighF 60 F 0:Nat):Int))=longF F):=by show _=_;unfold longF;rw[decide_eq_decide];omega
 generalize weighF 60 F 0=c at HC0 HR;generalize longF F=R at HR ⊢;obtain⟨xa,xc,ka,kc,rfl,HX,HK,hxc,hkc⟩:=flX_form hv.out;unfold flV;try unfold flV at HC0
 obtain⟨N,hN⟩: ∃N,F.kids.length=N:=⟨_,rfl⟩;have HN:=Lib.hid hN;obtain⟨M,hM⟩: ∃M,F.any.length=M:=⟨_,rfl⟩;have HM:=Lib.hid hM;rw[hN]at hkc ⊢;try rw[hN]at HC0
 rw[hM]at hxc ⊢;try rw[hM]at HC0
 clear hN hM;obtain⟨W1,hW1⟩: ∃W,w.alloc (.cells #[.int .i64 F.kind,.string F.attr,.string F.value,.string F.first,.slice xa M xc,.string F.last,.slice ka N kc] 73)=W:=⟨_,rfl⟩;have hB1:Below w.heap.size w W1:=by rw[←hW1];exact(Below.refl _ _).alloc (Nat.le_refl _) _
 have HF1:Hid (R7 W1 w.heap.size (.int .i64 F.kind) (.string F.attr) (.string F.value) (.string F.first) (.slice xa M xc) (.string F.last) (.slice ka N kc)):=by rw[←hW1];exact r7_new _ _ _ _ _ _ _ _
 obtain⟨k0,k1,k2,k3,k4,k5,k6⟩:=r7_cells HF1.out;have HB1:=Lib.hid hB1;have hs1:=hB1.size;clear hB1;have HC:=Lib.hid (HC0.out W1 HB1.out);clear HC0;have hq:=HR.out;cases R;all_goals
  go_enter Tryz.func46,Tryz.ntmps46;go_wp2_with fail;refine HC.out.mono ?_;rintro e w2 ⟨rfl,hB2⟩;have HB2:=Lib.hid (HB1.out.trans (hB2.mono hs1));clear hB2 k0 k1 k2 k3 k4 k5 k6;go_wp2_with fail;go_ret;exact⟨rfl,HB2.out⟩
end flw
open Go.RowKit
namespace etw
open atp atw etp
open dnw (Av Avas)
structure Bk (k:Nat)(e:En):Prop where
 rl:e.rdn.length≤1000
 rs: ∀a∈e.rdn,a.t.size≤1000∧a.v.size≤1200
 al:e.ats.length≤k
 as_: ∀a∈e.ats,a.t.size≤1000∧a.vs.length≤50∧ ∀v∈a.vs,v.size≤1200
end etw
open Go.RowKit
namespace etw
open atp atw etp
open dnw (Av Avas)
open tupw (Strs strs_below)
def bigV (v:ByteArray):Bool:=decide (1100<v.size)
def longL (l:List ByteArray):Bool:=decide (40<l.length)||l.any bigV
def bigR (a:Av):Bool:=decide (600<a.t.size)||decide (600<a.v.size)
def bigA (a:At):Bool:=decide (600<a.t.size)||longL a.vs
def longE (e:En):Bool:=decide (20<e.rdn.length)||decide (30<e.ats.length)||e.rdn.any bigR||e.ats.any bigA
theorem longL_no {l:List ByteArray}(h:longL l=false):l.length≤40∧ ∀v∈l,v.size≤1100:=by unfold longL at h;rw[Bool.or_eq_false_iff,decide_eq_false_iff_not,List.any_eq_false]at h;refine⟨by omega,fun v hv=> ?_⟩;have:=h.2 v hv;unfold bigV at this;simp at this;omega
theorem longE_no {e:En}(h:longE e=false):Bk 30 e:=by
 unfold longE at h;rw[Bool.or_eq_false_iff,Bool.or_eq_false_iff,Bool.or_eq_false_iff,decide_eq_false_iff_not,decide_eq_false_iff_not,List.any_eq_false,List.any_eq_false]at h;obtain⟨⟨⟨h1,h2⟩,h3⟩,h4⟩:=h;refine⟨by omega,fun a ha=> ?_,by omega,fun a ha=> ?_⟩
 ·have:=h3 a ha;unfold bigR at this;simp at this;omega
 ·have:=h4 a ha;unfold bigA at this;simp only[Bool.or_eq_true,decide_eq_true_eq,not_or,Bool.not_eq_true]at this;have h5:=longL_no this.2;refine⟨by omega,by omega,fun v hv=> ?_⟩;have:=h5.2 v hv;omega
theorem any_step {α:Type}{f:α→Bool}{l:List α}{i:Nat}(h:i<l.length):(l.drop i).any f=(f l[i]||(l.drop (i+1)).any f):=by rw[List.drop_eq_getElem_cons h,List.any_cons]
theorem longL_any (ao:Option Addr)(cap:Nat)(l:List ByteArray)(w:World)(hl:Hid (Strs w ao l)):Calls Tryz.prog 70 #[.slice ao l.length cap] w fun e w'=>e= .returned (.bool (longL l))∧w=w':=by
 have HLD:Hid (longL l=(decide (40<l.length)||l.any bigV)):=rfl;rw[HLD.out];clear HLD;obtain⟨N,hN⟩: ∃N,l.length=N:=⟨_,rfl⟩;have HN:=Lib.hid hN;rw[hN];clear hN;by_cases h40:40<N
 ·have d1:decide (40<N)=true:=decide_eq_true h40;have h40':(40:Int)<(N:Int):=by omega
  rw[d1,Bool.true_or];go_enter Tryz.func70,Tryz.ntmps70;go_wp2_with fail;go_ret;exact⟨rfl,rfl⟩
 ·have d1:decide (40<N)=false:=decide_eq_false h40;have h40': ¬ (40:Int)<(N:Int):=by omega
  rw[d1,Bool.false_or];go_enter Tryz.func70,Tryz.ntmps70;go_wp2_with fail;go_loop [3] (fun iv=> ∃i:Nat,i≤N∧iv= .int .i64 (i:Int)∧Hid (l.any bigV=(l.drop i).any bigV)) (fun iv=>N- (intOf iv).toNat);case atStart=>exact⟨0,Nat.zero_le _,rfl,rfl⟩
  case round=>
   obtain⟨i,hi,rfl,hJ⟩:=hrel;by_cases hlt:i<N
   ·have hltI:(i:Int)<(N:Int):=(by omega);have hil:i<l.length:=(by rw[HN.out];exact hlt);obtain⟨b,o,hao,hc0⟩:=hl.out i hil;subst hao;have HST:=Lib.hid (any_step (f:=bigV) hil);obtain⟨x,hx⟩: ∃x,l[i]=x:=⟨_,rfl⟩;rw[hx]at hc0 HST;clear hx;by_cases hb:1100<x.size
    ·have d2:decide (1100<x.size)=true:=decide_eq_true hb;have hb':(1100:Int)<(x.size:Int):=(by omega);have HJ:Hid (l.any bigV=true):=(by show _=_;rw[hJ.out,HST.out,show bigV x=true from d2];rfl);go_wp2_with fail;go_ret;exact⟨kt.ret_bool HJ.out.symm,rfl⟩
    ·have d2:decide (1100<x.size)=false:=decide_eq_false hb;have hb': ¬ (1100:Int)<(x.size:Int):=(by omega);have HJ:Hid (l.any bigV=(l.drop (i+1)).any bigV):=(by show _=_;rw[hJ.out,HST.out,show bigV x=false from d2];rfl);go_wp2_with fail;go_round;case rel=>exact⟨i+1,by omega,by go_num,HJ⟩
     case measure=>simp[intOf];omega
   ·obtain rfl:N=i:=(by omega);have HJ:Hid (l.any bigV=false):=(by show _=_;rw[hJ.out,←HN.out,List.drop_length];rfl);go_wp2_with fail;go_ret;exact⟨kt.ret_bool HJ.out.symm,rfl⟩
theorem longE_any (v:Value)(E:En)(w:World)(hv:Hid (EntV w v E)):Calls Tryz.prog 18 #[v] w fun e w'=>e= .returned (.bool (longE E))∧Below w.heap.size w w':=by
 have HLD:Hid (longE E=(decide (20<E.rdn.length)||decide (30<E.ats.length)||E.rdn.any bigR||E.ats.any bigA)):=rfl;rw[HLD.out];clear HLD;obtain⟨ro,rc,ao,ac,Nr,N,rfl,HN,HA,hac,HNr,HAv,hrc⟩:=ent_form hv.out;obtain⟨rdn,L⟩:=E;simp only at HN HA HNr HAv ⊢;rw[HN.out,HNr.out];obtain⟨W1,hW1⟩: ∃W,w.alloc (.cells #[.slice ro Nr rc,.slice ao N ac] 26)=W:=⟨_,rfl⟩;have hB1:Below w.heap.size w W1:=by rw[←hW1];exact(Below.refl _ _).alloc (Nat.le_refl _) _
 have HT1:Hid (EntB W1 w.heap.size (.slice ro Nr rc) (.slice ao N ac)):=by rw[←hW1];exact entB_new _ _ _
 obtain⟨k0,k1⟩:=entB_cells HT1.out;have HB1:=Lib.hid hB1;have HA1:=Lib.hid (ats_below HA.out hB1);have HAv1:=Lib.hid (dnw.avas_below HAv.out hB1);clear hB1 hv HA HAv HT1;by_cases h20:20<Nr
 ·have d1:decide (20<Nr)=true:=decide_eq_true h20;have h20':(20:Int)<(Nr:Int):=by omega
  rw[d1,Bool.true_or,Bool.true_or,Bool.true_or];go_enter Tryz.func18,Tryz.ntmps18;go_wp2_with fail;go_ret;exact⟨rfl,HB1.out⟩
 ·have d1:decide (20<Nr)=false:=decide_eq_false h20;have h20': ¬ (20:Int)<(Nr:Int):=by omega
  rw[d1,Bool.false_or];by_cases h30:30<N
  ·have d2:decide (30<N)=true:=decide_eq_true h30;have h30':(30:Int)<(N:Int):=(by omega);rw[d2,Bool.true_or,Bool.true_or];go_enter Tryz.func18,Tryz.ntmps18;go_wp2_with fail;go_ret;exact⟨rfl,HB1.out⟩
  ·have d2:decide (30<N)=false:=decide_eq_false h30;have h30': ¬ (30:Int)<(N:Int):=(by omega);rw[d2,Bool.false_or];go_enter Tryz.func18,Tryz.ntmps18;go_wp2_with fail;go_loop [3] (fun iv=> ∃i:Nat,i≤Nr∧iv= .int .i64 (i:Int)∧Hid (rdn.any bigR=(rdn.drop i).any bigR)) (fun iv=>Nr- (intOf iv).toNat);case atStart=>exact⟨0,Nat.zero_le _,rfl,rfl⟩
   case round=>
    obtain⟨i,hi,rfl,hJ⟩:=hrel;by_cases hlt:i<Nr
    ·have hltI:(i:Int)<(Nr:Int):=(by omega);have hil:i<rdn.length:=(by rw[HNr.out];exact hlt);obtain⟨b,o,hro,q0,q1⟩:=HAv1.out i hil;subst hro;have HST:=Lib.hid (any_step (f:=bigR) hil);obtain⟨a,ha⟩: ∃a,rdn[i]=a:=⟨_,rfl⟩;rw[ha]at HST q0 q1;clear ha;have HBR:Hid (bigR a=(decide (600<a.t.size)||decide (600<a.v.size))):=rfl;by_cases ht:600<a.t.size
     ·have d3:decide (600<a.t.size)=true:=decide_eq_true ht;have ht':(600:Int)<(a.t.size:Int):=(by omega);have HJ:Hid ((rdn.any bigR||L.any bigA)=true):=(by show _=_;rw[hJ.out,HST.out,HBR.out,d3];simp);go_wp2_with fail;go_ret;exact⟨kt.ret_bool HJ.out.symm,HB1.out⟩
     ·have d3:decide (600<a.t.size)=false:=decide_eq_false ht;have ht': ¬ (600:Int)<(a.t.size:Int):=(by omega);by_cases hvv:600<a.v.size
      ·have d4:decide (600<a.v.size)=true:=decide_eq_true hvv;have hv':(600:Int)<(a.v.size:Int):=(by omega);have HJ:Hid ((rdn.any bigR||L.any bigA)=true):=(by show _=_;rw[hJ.out,HST.out,HBR.out,d3,d4];simp);go_wp2_with fail;go_ret;exact⟨kt.ret_bool HJ.out.symm,HB1.out⟩
      ·have d4:decide (600<a.v.size)=false:=decide_eq_false hvv;have hv': ¬ (600:Int)<(a.v.size:Int):=(by omega);have HJ:Hid (rdn.any bigR=(rdn.drop (i+1)).any bigR):=(by show _=_;rw[hJ.out,HST.out,HBR.out,d3,d4];rfl);go_wp2_with fail;go_round;case rel=>exact⟨i+1,by omega,by go_num,HJ⟩
       case measure=>simp[intOf];omega
    ·obtain rfl:Nr=i:=(by omega);have HR0:Hid (rdn.any bigR=false):=(by show _=_;rw[hJ.out,←HNr.out,List.drop_length];rfl);go_wp2_with fail;go_loop [4] (fun iv=> ∃i:Nat,i≤N∧iv= .int .i64 (i:Int)∧Hid (L.any bigA=(L.drop i).any bigA)) (fun iv=>N- (intOf iv).toNat);case atStart=>exact⟨0,Nat.zero_le _,rfl,rfl⟩
     case round=>
      obtain⟨i,hi2,rfl,hJ2⟩:=hrel;by_cases hlt2:i<N
      ·have hltI:(i:Int)<(N:Int):=(by omega);have hil:i<L.length:=(by rw[HN.out];exact hlt2);obtain⟨b,o,ax,cx,hao,q0,q1,hcx,hST⟩:=HA1.out i hil;subst hao;have HST:=Lib.hid (any_step (f:=bigA) hil);obtain⟨a,ha⟩: ∃a,L[i]=a:=⟨_,rfl⟩;rw[ha]at HST q0 q1 hcx hST;clear ha;have HLL:=Lib.hid (longL_any ax cx a.vs W1 (Lib.hid hST));have HBA:Hid (bigA a=(decide (600<a.t.size)||longL a.vs)):=rfl;obtain⟨M,hM⟩: ∃M,a.vs.length=M:=⟨_,rfl⟩;rw[hM]at q1 HLL;clear hM hST hcx;by_cases ht:600<a.t.size
       ·have d3:decide (600<a.t.size)=true:=decide_eq_true ht;have ht':(600:Int)<(a.t.size:Int):=(by omega);have HJ:Hid ((rdn.any bigR||L.any bigA)=true):=(by show _=_;rw[hJ2.out,HST.out,HBA.out,d3];simp);go_wp2_with fail;go_ret;exact⟨kt.ret_bool HJ.out.symm,HB1.out⟩
       ·have d3:decide (600<a.t.size)=false:=decide_eq_false ht;have ht': ¬ (600:Int)<(a.t.size:Int):=(by omega);cases hll:longL a.vs with
        | true=>rw[hll]at HLL HBA;have HJ:Hid ((rdn.any bigR||L.any bigA)=true):=(by show _=_;rw[hJ2.out,HST.out,HBA.out,d3];simp);clear hll;go_wp2_with fail;refine HLL.out.mono ?_;rintro e w2 ⟨rfl,rfl⟩;go_wp2_with fail;go_ret;exact⟨kt.ret_bool HJ.out.symm,HB1.out⟩
        | false=>
         rw[hll]at HLL HBA;have HJ:Hid (L.any bigA=(L.drop (i+1)).any bigA):=(by show _=_;rw[hJ2.out,HST.out,HBA.out,d3];rfl);clear hll;go_wp2_with fail;refine HLL.out.mono ?_;rintro e w2 ⟨rfl,rfl⟩;go_wp2_with fail;go_round;case rel=>exact⟨i+1,by omega,by go_num,HJ⟩
         case measure=>simp[intOf];omega
      ·obtain rfl:N=i:=(by omega);have HJ:Hid ((rdn.any bigR||L.any bigA)=false):=(by show _=_;rw[HR0.out,hJ2.out,←HN.out,List.drop_length];rfl);go_wp2_with fail;go_ret;exact⟨kt.ret_bool HJ.out.symm,HB1.out⟩
end etw
open Go.RowKit
namespace scw
open scp atp atw etp etw
open tupw (Strs strs_below)
theorem ownS_elem {w:World}{B:Nat}{v:Value}{l:List T}(h:OwnS w B v l):ElemAt w v (l.map bs):=own_elem h
end scw
open Go.RowKit
namespace scw
open scp atp atw etp etw
open tupw (Strs strs_below)
def ownMO:Option Nat→List T
 | some k=>ownMust k
 | none=>[]
def ownYO:Option Nat→List T
 | some k=>ownMay k
 | none=>[]
def OwnR (r:Option Nat)(W:World)(e:Ending)(w':World):Prop:= ∃vm vy,e= .returned (.tuple #[.string (bs (clsO r).above),.int .i64 (clsO r).kind,vm,vy,.bool r.isSome])∧ElemAt w' vm ((ownMO r).map bs)∧ElemAt w' vy ((ownYO r).map bs)∧Below W.heap.size W w'
end scw
open Go.RowKit
namespace scw
open scp atp atw etp etw
open tupw (Strs strs_below)
theorem has_in (ao:Option Addr)(cap:Nat)(l:List T)(s:T)(w:World)(hl:Hid (Strs w ao (l.map bs)))(hn:l.length≤100000000):
  Calls Tryz.prog 33 #[.slice ao l.length cap,.string (bs s)] w fun e w'=>e= .returned (.bool (decide (s∈l)))∧w=w':=by
 obtain⟨N,hN⟩: ∃N,l.length=N:=⟨_,rfl⟩;have HN:=Lib.hid hN;rw[hN];rw[hN]at hn;clear hN;go_enter Tryz.func33,Tryz.ntmps33;go_wp2_with fail;go_loopw [5] (fun iv wr=> ∃i:Nat,i≤N∧iv= .int .i64 (i:Int)∧Hid (∀j (hj:j<l.length),j<i→l[j]≠s)∧w=wr) (fun iv _=>N- (intOf iv).toNat);case atStart=>exact⟨0,Nat.zero_le _,rfl,fun j hj h=>absurd h (Nat.not_lt_zero _),rfl⟩
 case round=>
  obtain⟨i,hi,rfl,hJ,rfl⟩:=hrel;by_cases hlt:i<N
  ·have hltI:(i:Int)<(N:Int):=(by omega);have hil:i<l.length:=(by rw[HN.out];exact hlt);obtain⟨b,o,hao,hc⟩:=hl.out i (by rw[List.length_map];exact hil);subst hao;rw[List.getElem_map]at hc;have HM:Hid (l[i]∈l):=List.getElem_mem _;have HNX:Hid (l[i]≠s→ ∀j (hj:j<l.length),j<i+1→l[j]≠s):=fun h j hj hji=>by
    by_cases e:j=i
    ·subst e;exact h
    ·exact hJ.out j hj (by omega)
   obtain⟨x,hx⟩: ∃x,l[i]=x:=⟨_,rfl⟩;rw[hx]at hc HM HNX;clear hx;by_cases hxs:x=s
   ·have hbq:((bs x).toList==(bs s).toList)=true:=(by rw[bs_beq];exact decide_eq_true hxs);have HR:Hid (decide (s∈l)=true):=decide_eq_true (hxs▸HM.out);clear hxs;go_wp2_with fail;go_ret;exact⟨kt.ret_bool HR.out.symm,rfl⟩
   ·have hbq:((bs x).toList==(bs s).toList)=false:=(by rw[bs_beq];exact decide_eq_false hxs);have HN2:=Lib.hid (HNX.out hxs);clear hxs;go_wp2_with fail;go_roundw;case rel=>exact⟨i+1,by omega,by go_num,HN2,trivial⟩
    case measure=>simp[intOf];omega
  ·obtain rfl:N=i:=(by omega);have HR:Hid (decide (s∈l)=false):=decide_eq_false fun hm=>by obtain⟨j,hj,e⟩:=List.mem_iff_getElem.1 hm;exact hJ.out j hj (by rw[←HN.out];exact hj) e
   go_wp2_with fail;go_ret;exact⟨kt.ret_bool HR.out.symm,rfl⟩
end scw
open Go.RowKit
namespace flw
open flp atp atw etp etw scw scp
open tupw (Strs strs_below)
theorem asked_len (F:Fl):(asked F).length≤40:=by
 unfold asked;by_cases hr:rightF F=true
 ·rw[if_pos hr];have h1:=ask_len 8 F;have h2:=((rightF_iff F).1 hr).2;have key: ∀ (A M:List T),(A.foldl putL M).length≤M.length+A.length:=by
   intro A;induction A with
   | nil=>intro M;exact Nat.le_refl _
   | cons a r ih=>
    intro M;rw[List.foldl_cons];have h3:=ih (putL M a);have h4:(putL M a).length≤M.length+1:=by
     unfold putL;split
     ·omega
     ·have h5:=congrArg List.length (List.takeWhile_append_dropWhile (p:=fun x=>ltT x a) (l:=M));rw[List.length_append]at h5;rw[List.length_append,List.length_cons];omega
    rw[List.length_cons];omega
  have h6:=key (flp.ask 8 F) [];rw[List.length_nil]at h6;omega
 ·rw[if_neg hr];exact Nat.zero_le _
theorem entV_ats {w:World}{ao:Option Addr}{cap:Nat}{L:List At}(h:Ats w ao L)(hc:L.length≤cap):EntV w (.agg #[.slice none 0 0,.slice ao L.length cap]) ⟨[],L⟩:=⟨none,0,ao,cap,rfl,Nat.le_refl _,hc,fun i hi=>absurd hi (Nat.not_lt_zero i),h⟩
theorem long_fitL {L:List At}(h:longE ⟨[],L⟩=false):FitL L:=by have hb:=longE_no h;refine⟨by have h2:L.length≤30:=hb.al;omega,fun a ha=> ?_⟩;have:=hb.as_ a ha;exact⟨by omega,fun v hv=>by have:=this.2.2 v hv;omega⟩
theorem far_any (F:Fl)(v:Value)(ao:Option Addr)(cap:Nat)(L:List At)(w:World)(hv:Hid (FlX w v F))(hA:Hid (Ats w ao L))(hc:L.length≤cap):
  Calls Tryz.prog 54 #[v,.slice ao L.length cap] w fun e w'=>e= .returned (.bool (longF F||longE ⟨[],L⟩))∧Below w.heap.size w w':=by
 have HLF0:Hid (∀W,Below w.heap.size w W→Calls Tryz.prog 46 #[v] W fun e w'=>e= .returned (.bool (longF F))∧Below W.heap.size W w'):=fun W h=>long_any F v W (Lib.hid (flX_below hv.out h));have HLE0:Hid (∀W,Below w.heap.size w W→Calls Tryz.prog 18 #[.agg #[.slice none 0 0,.slice ao L.length cap]] W fun e w'=>e= .returned (.bool (longE ⟨[],L⟩))∧Below W.heap.size W w'):=fun W h=>longE_any _ _ W (Lib.hid (entV_ats (ats_below hA.out h) hc));generalize longE ⟨[],L⟩=b2 at HLE0 ⊢;generalize longF F=b1 at HLF0 ⊢;generalize L.length=NL at HLE0 hc ⊢;obtain⟨xa,xc,ka,kc,rfl,HX,HK,hxc,hkc⟩:=flX_form hv.out;unfold flV;try unfold flV at HLF0
 obtain⟨N,hN⟩: ∃N,F.kids.length=N:=⟨_,rfl⟩;have HN:=Lib.hid hN;obtain⟨M,hM⟩: ∃M,F.any.length=M:=⟨_,rfl⟩;have HM:=Lib.hid hM;rw[hN]at hkc ⊢;try rw[hN]at HLF0
 rw[hM]at hxc ⊢;try rw[hM]at HLF0
 clear hN hM;obtain⟨W1,hW1⟩: ∃W,w.alloc (.cells #[.int .i64 F.kind,.string F.attr,.string F.value,.string F.first,.slice xa M xc,.string F.last,.slice ka N kc] 73)=W:=⟨_,rfl⟩;have hB1:Below w.heap.size w W1:=by rw[←hW1];exact(Below.refl _ _).alloc (Nat.le_refl _) _
 have HF1:Hid (R7 W1 w.heap.size (.int .i64 F.kind) (.string F.attr) (.string F.value) (.string F.first) (.slice xa M xc) (.string F.last) (.slice ka N kc)):=by rw[←hW1];exact r7_new _ _ _ _ _ _ _ _
 obtain⟨k0,k1,k2,k3,k4,k5,k6⟩:=r7_cells HF1.out;have HB1:=Lib.hid hB1;have hs1:=hB1.size;clear hB1;have HL1:=Lib.hid (HLF0.out W1 HB1.out);clear HLF0;cases b1 with
 | true=>go_enter Tryz.func54,Tryz.ntmps54;go_wp2_with fail;refine HL1.out.mono ?_;rintro e w2 ⟨rfl,hB2⟩;have HB2:=Lib.hid (HB1.out.trans (hB2.mono hs1));clear hB2 k0 k1 k2 k3 k4 k5 k6;go_wp2_with fail;go_ret;exact⟨rfl,HB2.out⟩
 | false=>
  cases b2;all_goals
   go_enter Tryz.func54,Tryz.ntmps54;go_wp2_with fail;refine HL1.out.mono ?_;rintro e w2 ⟨rfl,hB2⟩;have HB2:=Lib.hid (HB1.out.trans (hB2.mono hs1));clear hB2 k0 k1 k2 k3 k4 k5 k6;go_wp2_with fail;refine(HLE0.out w2 HB2.out).mono ?_;rintro e w3 ⟨rfl,hB3⟩;have HB3:=Lib.hid (HB2.out.trans (hB3.mono HB2.out.size));clear hB3;go_wp2_with fail;go_ret;exact⟨rfl,HB3.out⟩
theorem asks19_law (F:Fl)(v:Value)(ao:Option Addr)(cap:Nat)(L:List At)(w:World)(hv:Hid (FlX w v F))(hA:Hid (Ats w ao L))(hc:L.length≤cap)(hE:Hid (EnvE w)):
  Calls Tryz.prog 10 #[v,.slice ao L.length cap] w fun e w'=>e= .returned (.bool true)∧Below w.heap.size w w':=by
 have HAW0:Hid (∀W,Below w.heap.size w W→Calls Tryz.prog 45 #[] W fun e w'=>e= .returned (.bool true)∧Below W.heap.size W w'):=fun W h=>awake19_any W (Lib.hid (envE_below hE.out h));have HFA0:Hid (∀W,Below w.heap.size w W→Calls Tryz.prog 54 #[v,.slice ao L.length cap] W fun e w'=>e= .returned (.bool (longF F||longE ⟨[],L⟩))∧Below W.heap.size W w'):=fun W h=>far_any F v ao cap L W (Lib.hid (flX_below hv.out h)) (Lib.hid (ats_below hA.out h)) hc;have HAT0:Hid ((longF F||longE ⟨[],L⟩)=false→ ∀W,Below w.heap.size w W→Calls Tryz.prog 55 #[v] W fun e w'=> ∃u,e= .returned u∧OwnS w' W.heap.size u (asked F)∧Below W.heap.size W w'):=fun hl W h=>attrs_any F v W (Lib.hid (flX_below hv.out h)) (Lib.hid ⟨60,(long_no (Bool.or_eq_false_iff.1 hl).1).1⟩) (Lib.hid (envE_below hE.out h));have HEV0:Hid ((longF F||longE ⟨[],L⟩)=false→ ∀ (J:List At) (jo:Option Addr) (jc:Nat) W,FitL J→Ats W jo J→Below w.heap.size w W→Calls Tryz.prog 51 #[v,.slice jo J.length jc] W fun e w'=>e= .returned (.int .i64 (evalE F J))∧Below W.heap.size W w'):=fun hl J jo jc W h1 h2 h=>evalE_any jo jc J F v W (Lib.hid h2) (Lib.hid h1) (Lib.hid (envE_below hE.out h)) (Lib.hid (flX_below hv.out h)) (Lib.hid ⟨60,(long_no (Bool.or_eq_false_iff.1 hl).1).1⟩);have HFL:Hid ((longF F||longE ⟨[],L⟩)=false→FitL L):=fun hl=>long_fitL (Bool.or_eq_false_iff.1 hl).2;have HAL:Hid ((longF F||longE ⟨[],L⟩)=false→(asked F).length≤40):=fun hl=>asked_len F;have HEQ:Hid (evalE F (L.filter fun a=>decide (a.t.data.toList∈asked F))=evalE F L):=by refine eval_asked F L fun hr n hn a ha=> ?_;rw[decide_eq_true_iff,ha,bs_data];unfold asked;rw[if_pos hr];exact(flr.mem_names _ _).2 hn
 generalize(longF F||longE ⟨[],L⟩)=lg at HFA0 HAT0 HEV0 HFL HAL;generalize asked F=ns at HAT0 HAL HEQ;obtain⟨NL,hNL⟩: ∃n,L.length=n:=⟨_,rfl⟩;have HNL:=Lib.hid hNL;rw[hNL]at HFA0 hc ⊢;clear hNL;obtain⟨xa,xc,ka,kc,rfl,HX,HK,hxc,hkc⟩:=flX_form hv.out;unfold flV;try unfold flV at HFA0
 try unfold flV at HAT0
 try unfold flV at HEV0
 obtain⟨N,hN⟩: ∃N,F.kids.length=N:=⟨_,rfl⟩;have HN:=Lib.hid hN;obtain⟨M,hM⟩: ∃M,F.any.length=M:=⟨_,rfl⟩;have HM:=Lib.hid hM;rw[hN]at hkc ⊢;try rw[hN]at HFA0
 try rw[hN]at HAT0
 try rw[hN]at HEV0
 rw[hM]at hxc ⊢;try rw[hM]at HFA0
 try rw[hM]at HAT0
 try rw[hM]at HEV0
 clear hN hM;obtain⟨W1,hW1⟩: ∃W,w.alloc (.cells #[.int .i64 F.kind,.string F.attr,.string F.value,.string F.first,.slice xa M xc,.string F.last,.slice ka N kc] 73)=W:=⟨_,rfl⟩;have hB1:Below w.heap.size w W1:=by rw[←hW1];exact(Below.refl _ _).alloc (Nat.le_refl _) _
 have HF1:Hid (R7 W1 w.heap.size (.int .i64 F.kind) (.string F.attr) (.string F.value) (.string F.first) (.slice xa M xc) (.string F.last) (.slice ka N kc)):=by rw[←hW1];exact r7_new _ _ _ _ _ _ _ _
 obtain⟨k0,k1,k2,k3,k4,k5,k6⟩:=r7_cells HF1.out;have HB1:=Lib.hid hB1;have hs1:=hB1.size;clear hB1;have HAW:=Lib.hid (HAW0.out W1 HB1.out);clear HAW0;go_enter Tryz.func10,Tryz.ntmps10;go_wp2_with fail;refine HAW.out.mono ?_;rintro e w2 ⟨rfl,hB2⟩;have HB2:=Lib.hid (HB1.out.trans (hB2.mono hs1));have HF2:=Lib.hid (r7_below HF1.out hB2);clear hB2 k0 k1 k2 k3 k4 k5 k6 hW1 HAW;obtain⟨k0,k1,k2,k3,k4,k5,k6⟩:=r7_cells HF2.out;go_wp2_with fail;refine(HFA0.out w2 HB2.out).mono ?_;rintro e w3 ⟨rfl,hB3⟩;have HB3:=Lib.hid (HB2.out.trans (hB3.mono HB2.out.size));have HF3:=Lib.hid (r7_below HF2.out hB3);clear hB3 k0 k1 k2 k3 k4 k5 k6 HFA0;obtain⟨k0,k1,k2,k3,k4,k5,k6⟩:=r7_cells HF3.out;cases lg with
 | true=>go_wp2_with fail;go_ret;exact⟨rfl,HB3.out⟩
 | false=>
  have HAT:=Lib.hid (HAT0.out rfl w3 HB3.out);have HEV:=Lib.hid (HEV0.out rfl);have HLL:=Lib.hid (HFL.out rfl);have hal:=HAL.out rfl;clear HAT0 HEV0 HFL HAL;go_wp2_with fail;refine HAT.out.mono ?_;rintro e w4 ⟨u4,rfl,hO4,hB4⟩;have HB4:=Lib.hid (HB3.out.trans (hB4.mono HB3.out.size));have HF4:=Lib.hid (r7_below HF3.out hB4);obtain⟨no,nc,hu4,hnc,HNS0⟩:=ownS_elem hO4;subst hu4;have HNS:=Lib.hid HNS0;clear hB4 hO4 HNS0 k0 k1 k2 k3 k4 k5 k6;rw[List.length_map]at hnc ⊢;obtain⟨NN,hNN⟩: ∃n,ns.length=n:=⟨_,rfl⟩;have HNN:=Lib.hid hNN;rw[hNN]at hnc hal ⊢;clear hNN;have HHS:Hid (∀ (s:List UInt8) W,Below w4.heap.size w4 W→Calls Tryz.prog 33 #[.slice no NN nc,.string (bs s)] W fun e w'=>e= .returned (.bool (decide (s∈ns)))∧W=w'):=by intro s W h;have:=has_in no nc ns s W (Lib.hid (strs_below HNS.out h)) (by rw[HNN.out];omega);rw[HNN.out]at this;exact this
  obtain⟨p,hp⟩: ∃p,w4.heap.size=p:=⟨_,rfl⟩;obtain⟨w5,hw5⟩: ∃W,w4.alloc (.cells #[] 43)=W:=⟨_,rfl⟩;have hB5:Below w4.heap.size w4 w5:=by rw[←hw5];exact(Below.refl _ _).alloc (Nat.le_refl _) _
  have HO5:Hid (OwnA w5 p (.slice (some ⟨p,0,none⟩) 0 0) []):=by rw[←hw5,←hp];exact⟨kt.segX_of_row (World.ownsRow_made w4 #[] 0 (Nat.le_refl _) (by unfold maxLen;omega) rfl),fun x hx=>by cases hx⟩
  have HB45:=Lib.hid hB5;have HZ4:Hid (p=w4.heap.size):=hp.symm;clear hB5;go_wp2_with fail;go_loopw [6,7] (fun fv iv wr=> ∃ (i:Nat) (J:List AV),i≤NL∧iv= .int .i64 (i:Int)∧Hid (OwnA wr p fv J)∧Hid (J.map Prod.fst=(L.take i).filter fun a=>decide (a.t.data.toList∈ns))∧Hid (Below w4.heap.size w4 wr)) (fun _ iv _=>NL- (intOf iv).toNat);case atStart=>exact⟨0,[],Nat.zero_le _,rfl,HO5.out,rfl,HB45.out⟩
  case round=>
   obtain⟨i,J,hi,rfl,hO,hJ,hB⟩:=hrel;have hsz:=hB.out.size;have HBz:=Lib.hid (HB4.out.trans (hB.out.mono HB4.out.size));have hJl:J.length≤NL:=(by have h1:=congrArg List.length hJ.out;rw[List.length_map]at h1;have h2:=List.length_filter_le (fun a:At=>decide (a.t.data.toList∈ns)) (L.take i);rw[List.length_take]at h2;omega);have hNL5:NL≤100000:=(by rw[←HNL.out];exact HLL.out.1);obtain⟨fo,fn,fc,hfv,hfn,hfc⟩:=ownA_form hO.out;subst hfv;by_cases hlt:i<NL
   ·have hltI:(i:Int)<(NL:Int):=(by omega);have hil:i<L.length:=(by rw[HNL.out];exact hlt);obtain⟨b,o,ax,cx,hao,q0,q1,hcx,hST⟩:=(ats_below hA.out HBz.out) i hil;obtain⟨b',o',ax',cx',hao',q0',q1',_,hST'⟩:=hA.out i hil;subst hao;cases hao';have HTS:Hid (L.take (i+1)=L.take i++[L[i]]):=(by show _=_;rw[List.take_succ_eq_append_getElem hil]);obtain⟨a,ha⟩: ∃a,L[i]=a:=⟨_,rfl⟩;rw[ha]at HTS q0 q1 hcx hST hST' q1';have hax:(Value.slice ax a.vs.length cx)= .slice ax' a.vs.length cx':=(by have h1:=(HBz.out.cell (World.block_lt_of_cell? w _ q1')).trans q1';rw[q1]at h1;exact Option.some.inj h1);have HLT:Hid (a.vs≠[]→ ∀k,(Value.slice ax a.vs.length cx).ownBlock=some k→(Value.slice fo fn fc).ownBlock≠some k):=(by intro hne k hk e2;rw[hax]at hk;obtain⟨b2,o2,e3,hlt2⟩:=strs_lt hST' hne;rw[e3]at hk;have h5:b2=k:=(by simpa[Value.ownBlock]using hk);have h6:=(kt.segX_lt hO.out.outer k e2).1;have h7:=HZ4.out;have h8:=HB4.out.size;omega);have HHS1:Hid (Calls Tryz.prog 33 #[.slice no NN nc,.string a.t] wr fun e w'=>e= .returned (.bool (decide (a.t.data.toList∈ns)))∧wr=w'):=(by have:=HHS.out a.t.data.toList wr hB.out;rw[bs_of a.t]at this;exact this);have HFT:Hid ((L.take (i+1)).filter (fun a=>decide (a.t.data.toList∈ns))=(L.take i).filter (fun a=>decide (a.t.data.toList∈ns))++if decide (a.t.data.toList∈ns)=true then[a]else[]):=by
     show _=_;rw[HTS.out,List.filter_append];congr 1;by_cases h:decide (a.t.data.toList∈ns)=true
     ·rw[if_pos h];exact List.filter_cons_of_pos (p:=fun a:At=>decide (a.t.data.toList∈ns)) (l:=[]) h
     ·rw[if_neg h];exact List.filter_cons_of_neg (p:=fun a:At=>decide (a.t.data.toList∈ns)) (l:=[]) h
    have HEA:Hid (ElemAt wr (.slice ax a.vs.length cx) a.vs):=⟨ax,cx,rfl,hcx,hST⟩;generalize decide (a.t.data.toList∈ns)=bb at HHS1 HFT;clear hax q0' q1' hST' hST ha;obtain⟨m,hm⟩: ∃m,a.vs.length=m:=⟨_,rfl⟩;rw[hm]at q1 HLT HEA;clear hm;cases bb with
    | false=>
     have HJ2:Hid (J.map Prod.fst=(L.take (i+1)).filter fun a=>decide (a.t.data.toList∈ns)):=(by show _=_;rw[hJ.out,HFT.out];simp);go_wp2_with fail;refine HHS1.out.mono ?_;rintro e w7 ⟨rfl,rfl⟩;go_wp2_with fail;go_roundw;case rel=>exact⟨i+1,J,by omega,by go_num,hO.out,HJ2.out,hB.out⟩
     case measure=>simp[intOf];omega
    | true=>
     have HJ2:Hid ((J++[((⟨a.t,a.vs⟩:At),Value.slice ax m cx)]).map Prod.fst=(L.take (i+1)).filter fun a=>decide (a.t.data.toList∈ns)):=(by show _=_;rw[List.map_append,hJ.out,HFT.out,if_pos rfl];rfl);obtain⟨go,gn,gc,w7,hap,hO7,hB7,hgn,hgc,hg3⟩:=ownA_app a.t (.slice ax m cx) a.vs hO.out HEA.out HLT.out (by omega) (by have:=HZ4.out;omega);have HO7:=Lib.hid hO7;have HB7:=Lib.hid (hB.out.trans (by rw[HZ4.out]at hB7;exact hB7));clear hO7 hB7 hgn hgc hg3;go_wp2_with fail;refine HHS1.out.mono ?_;rintro e w8 ⟨rfl,rfl⟩;go_wp2_with (at_builtin;refine Lib.wpList_append_run _ rfl _ _ _ _ rfl _ _ rfl rfl _ _ hap ?_);go_roundw;case rel=>exact⟨i+1,_,by omega,by go_num,HO7.out,HJ2.out,HB7.out⟩
     case measure=>simp[intOf];omega
   ·obtain rfl:NL=i:=(by omega);have HJE:Hid (J.map Prod.fst=L.filter fun a=>decide (a.t.data.toList∈ns)):=(by have h:=hJ.out;rw[←HNL.out,List.take_length]at h;exact h);have HFJ:Hid (FitL (J.map Prod.fst)):=(by show FitL _;rw[HJE.out];exact⟨Nat.le_trans (List.length_filter_le _ _) HLL.out.1,fun a ha=>HLL.out.2 a (List.mem_filter.1 ha).1⟩);have HAJ:=Lib.hid (ownA_ats hO.out);have hfl:fn=(J.map Prod.fst).length:=(by rw[List.length_map];exact hfn.out);have HV1:Hid (∀W,Below wr.heap.size wr W→Calls Tryz.prog 51 #[.agg #[.int .i64 F.kind,.string F.attr,.string F.value,.string F.first,.slice xa M xc,.string F.last,.slice ka N kc],.slice fo fn fc] W fun e w'=>e= .returned (.int .i64 (evalE F L))∧Below W.heap.size W w'):=(by intro W h;have:=HEV.out (J.map Prod.fst) fo fc W HFJ.out (ats_below HAJ.out h) (HBz.out.trans (h.mono HBz.out.size));rw[←hfl,HJE.out,HEQ.out]at this;exact this);have HV2:Hid (∀W,Below wr.heap.size wr W→Calls Tryz.prog 51 #[.agg #[.int .i64 F.kind,.string F.attr,.string F.value,.string F.first,.slice xa M xc,.string F.last,.slice ka N kc],.slice ao NL cap] W fun e w'=>e= .returned (.int .i64 (evalE F L))∧Below W.heap.size W w'):=(by intro W h;have:=HEV.out L ao cap W HLL.out (ats_below hA.out (HBz.out.trans (h.mono HBz.out.size))) (HBz.out.trans (h.mono HBz.out.size));rw[HNL.out]at this;exact this);generalize evalE F L=n at HV1 HV2;have HFr:=Lib.hid (r7_below HF4.out hB.out);obtain⟨k0,k1,k2,k3,k4,k5,k6⟩:=r7_cells HFr.out;have hlk:=World.block_lt_of_cell? wr _ k0;clear hfl hJl;go_wp2_with fail;refine wp_region_held_drew (S:=fun W=>W.cell? ⟨w.heap.size,0,none⟩=some (.int .i64 F.kind)∧W.cell? ⟨w.heap.size,1,none⟩=some (.string F.attr)∧W.cell? ⟨w.heap.size,2,none⟩=some (.string F.value)∧W.cell? ⟨w.heap.size,3,none⟩=some (.string F.first)∧W.cell? ⟨w.heap.size,4,none⟩=some (.slice xa M xc)∧W.cell? ⟨w.heap.size,5,none⟩=some (.string F.last)∧W.cell? ⟨w.heap.size,6,none⟩=some (.slice ka N kc)) (by kernel_rfl) (⟨k0,k1,k2,k3,k4,k5,k6⟩) (fun hHeld=> ?_);refine tk 0 ⟨some 36,_,_,_,_,_⟩ rfl ?_;refine tk 1 ⟨some 37,_,_,_,_,_⟩ rfl ?_;refine tk 3 ⟨some 39,_,_,_,_,_⟩ rfl ?_;refine tk 4 ⟨some 40,_,_,_,_,_⟩ rfl ?_;refine tc 2 ⟨some 38,_,_,_,_,_⟩ rfl (fun K hK=> ?_);go_simp;go_at_call 51;refine(HV1.out _ ((Below.refl wr.heap.size wr).drew)).mono ?_;rintro e w5 ⟨rfl,hB5⟩;refine hK.out _ _ (⟨(hB5.cell (p:=⟨w.heap.size,0,none⟩) hlk).trans (k0),(hB5.cell (p:=⟨w.heap.size,1,none⟩) hlk).trans (k1),(hB5.cell (p:=⟨w.heap.size,2,none⟩) hlk).trans (k2),(hB5.cell (p:=⟨w.heap.size,3,none⟩) hlk).trans (k3),(hB5.cell (p:=⟨w.heap.size,4,none⟩) hlk).trans (k4),(hB5.cell (p:=⟨w.heap.size,5,none⟩) hlk).trans (k5),(hB5.cell (p:=⟨w.heap.size,6,none⟩) hlk).trans (k6)⟩) (fun hHeld=> ?_);clear hK;try simp only[Act.put,List.setIfInBounds_toArray,List.set_cons_zero,List.set_cons_succ]
    refine tc 5 ⟨some 41,_,_,_,_,_⟩ rfl (fun K hK=> ?_);go_simp;go_at_call 51;refine(HV2.out _ (((Below.refl wr.heap.size wr).drew).trans hB5)).mono ?_;rintro e w6 ⟨rfl,hB6⟩;refine hK.out _ _ (⟨(hB6.cell (p:=⟨w.heap.size,0,none⟩) (Nat.lt_of_lt_of_le hlk hB5.size)).trans ((hB5.cell (p:=⟨w.heap.size,0,none⟩) hlk).trans (k0)),(hB6.cell (p:=⟨w.heap.size,1,none⟩) (Nat.lt_of_lt_of_le hlk hB5.size)).trans ((hB5.cell (p:=⟨w.heap.size,1,none⟩) hlk).trans (k1)),(hB6.cell (p:=⟨w.heap.size,2,none⟩) (Nat.lt_of_lt_of_le hlk hB5.size)).trans ((hB5.cell (p:=⟨w.heap.size,2,none⟩) hlk).trans (k2)),(hB6.cell (p:=⟨w.heap.size,3,none⟩) (Nat.lt_of_lt_of_le hlk hB5.size)).trans ((hB5.cell (p:=⟨w.heap.size,3,none⟩) hlk).trans (k3)),(hB6.cell (p:=⟨w.heap.size,4,none⟩) (Nat.lt_of_lt_of_le hlk hB5.size)).trans ((hB5.cell (p:=⟨w.heap.size,4,none⟩) hlk).trans (k4)),(hB6.cell (p:=⟨w.heap.size,5,none⟩) (Nat.lt_of_lt_of_le hlk hB5.size)).trans ((hB5.cell (p:=⟨w.heap.size,5,none⟩) hlk).trans (k5)),(hB6.cell (p:=⟨w.heap.size,6,none⟩) (Nat.lt_of_lt_of_le hlk hB5.size)).trans ((hB5.cell (p:=⟨w.heap.size,6,none⟩) hlk).trans (k6))⟩) (fun hHeld=> ?_);clear hK;try simp only[Act.put,List.setIfInBounds_toArray,List.set_cons_zero,List.set_cons_succ]
    refine tk 6 ⟨some 42,_,_,_,_,_⟩ rfl ?_;refine tk 7 ⟨some 4,_,_,_,_,_⟩ rfl ?_;refine wpAnyH_done (by kernel_rfl) ?_ _;have HB6:=Lib.hid (HBz.out.trans ((((Below.refl wr.heap.size wr).drew.trans hB5).trans (hB6.mono ((Below.refl wr.heap.size wr).drew.trans hB5).size)).mono HBz.out.size));clear hHeld hB5 hB6 k0 k1 k2 k3 k4 k5 k6 hlk;go_wp2_with fail;go_ret;exact⟨rfl,HB6.out⟩
end flw
open Go.RowKit Go.ChangeShapes Go.WideShapes Go.Deep
namespace opn
theorem cell_spot {w:World}{b o:Nat}{sp:Option Nat}{v:Value}(h:w.cell? ⟨b,o,sp⟩=some v):sp=none:=by
 cases sp with
 | none=>rfl
 | some x=>unfold World.cell? at h;simp at h;split at h<;>cases h
theorem list_of {α:Type}{Q:Nat→α→Prop}: ∀ (n:Nat),(∀i,i<n→ ∃c,Q i c)→ ∃l:List α,l.length=n∧ ∀i (h:i<l.length),Q i l[i]:=by
 intro n;induction n with
 | zero=>intro _;exact⟨[],rfl,fun i h=>by simp at h⟩
 | succ n ih=>
  intro h;obtain⟨l,hl,hq⟩:=ih (fun i hi=>h i (by omega));obtain⟨c,hc⟩:=h n (by omega);refine⟨l++[c],by simp[hl],fun i hi=> ?_⟩;by_cases e:i<l.length
  ·rw[List.getElem_append_left e];exact hq i e
  ·have:i=n:=(by simp at hi;omega);subst this;rw[List.getElem_append_right (by omega)];simpa using hc
section
variable {H : Type} {enc : TypeId × Value → H} {P : Program} {w : World} {base : Nat} {spare : Nat → Bool} {held : Bool}
theorem open_slice_fields {t e:TypeId}{fs:Array Field}{fuel:Nat}{cs:List Value}{x:DataW H × List MemPlace}(ht:P.underlying t=some (.slice e))(he:P.underlying e=some (.struct fs))
  (hone:oneCellFields P fs=true) (hC:P.cellsOf e=fs.size) (h:DataW.trod enc P w base spare held fuel t cs=some x):
  (cs=[.slice none 0 0]∧x=(.nil,[]))∨
  ∃ (a:Addr) (len cap m:Nat) (D:Nat→DataW H) (Pl:Nat→List MemPlace),cs=[.slice (some a) len cap]∧base≤a.block∧len≤cap∧cap≤maxLen∧m=(if spare a.block then cap else len)∧
   x=(.slice ((List.range len).map D) ((List.range (m-len)).map fun j=>D (len+j)),MemPlace.row a (m*fs.size)++(List.range m).flatMap Pl)∧
   ∀i,i<m→ ∃ (ys:List (DataW H × List MemPlace)) (n:Nat),D i= .agg (ys.map (·.1))∧Pl i=ys.flatMap (·.2)∧ys.length=fs.size∧
    ∀ (j:Nat) (f:Field),fs[j]? =some f→ ∃ (v:Value) (y:DataW H × List MemPlace),w.cell? (a.add (i*fs.size+j))=some v∧ys[j]? =some y∧DataW.trod enc P w base spare held n f.type [v]=some y:=by
 rcases open_slice ht h with h0 | ⟨a,len,cap,m,n,D,Pl,hcs,hb,hl,hm,hmm,hx,hi⟩
 ·exact .inl h0
 ·refine .inr ⟨a,len,cap,m,D,Pl,hcs,hb,hl,hm,hmm,by rw[hC]at hx;exact hx,fun i him=> ?_⟩;obtain⟨cs',hc,ht'⟩:=hi i him;rw[hC]at hc;obtain⟨ys,n',hn',hy,hlen,hyl,hf⟩:=DataW.trod_struct he ht';obtain⟨_,hcl,hat⟩:=World.cells?_some hc;simp only[Prod.mk.injEq]at hy;refine⟨ys,n',hy.1,hy.2,hyl,fun j f hj=> ?_⟩;obtain⟨ho,hk⟩:=hone_of hone j f hj;have hjl:j<fs.size:=(Array.getElem?_eq_some_iff.1 hj).1;have hcell:=hat j hjl;have hv:cs'[j]? =some (cs'[j]'(by omega)):=List.getElem?_eq_getElem (by omega);have h1:=hf j f hj;rw[ho,hk]at h1;have hone':(cs'.drop j).take 1=[cs'[j]'(by omega)]:=by rw[List.drop_eq_getElem_cons (by omega)];rfl
  rw[hone']at h1;have hys:ys[j]? =some (ys[j]'(by omega)):=List.getElem?_eq_getElem (by omega);refine⟨_,_,?_,hys,h1.trans hys⟩;rw[←Go.Deep.add_add,hcell,hv]
end
end opn
open Go.RowKit
namespace tupo
open tupw
theorem cell_spot {w:World}{b o:Nat}{sp:Option Nat}{v:Value}(h:w.cell? ⟨b,o,sp⟩=some v):sp=none:=by
 cases sp with
 | none=>rfl
 | some x=>unfold World.cell? at h;simp at h;split at h<;>cases h
theorem texts_of {H:Type}{enc:TypeId × Value→H}{P:Program}{w:World}{base:Nat}{sp:Nat→Bool}{held:Bool}{t e:TypeId}{d:DataW H}{p:List MemPlace}{ao:Option Addr}{len cap:Nat}
  (ht:P.underlying t=some (.slice e)) (he:P.underlying e=some .string) (hc:P.cellsOf e=1)
  (h: ∃fuel,DataW.trod enc P w base sp held fuel t [.slice ao len cap]=some (d,p)): ∃l:List ByteArray,len=l.length∧Strs w ao l∧(∀s∈l,s.size≤maxLen)∧len≤maxLen∧len≤cap∧(ao=none→len=0∧cap=0):=by
 obtain⟨fuel,h⟩:=h;rcases ChangeShapes.open_strings ht he hc h with⟨hcs,_⟩ | ⟨a,len',cap',ss,hcs,_,hlc,hcm,hlen,_,hcell,hsm⟩
 ·simp at hcs;obtain⟨rfl,rfl,rfl⟩:=hcs;exact⟨[],rfl,fun i hi=>by simp at hi,fun s hs=>by simp at hs,by omega,by omega,fun _=>⟨rfl,rfl⟩⟩
 ·simp at hcs;obtain⟨rfl,rfl,rfl⟩:=hcs;have hle:len≤ss.length:=by rw[hlen];split<;>omega
  refine⟨ss.take len,by simp;omega,fun i hi=> ?_,fun s hs=>hsm s (List.mem_of_mem_take hs),by omega,hlc,fun e=>by simp at e⟩;have hi':i<len:=by simp at hi;omega
  have hc2:=hcell i (by omega);obtain⟨b,o,spt⟩:=a;have hsp:spt=none:=by
   cases spt with
   | none=>rfl
   | some x=>exfalso;have hz:=hcell 0 (by omega);have e0:(⟨b,o,some x⟩:Addr).add 0=⟨b,o,some x⟩:=(by unfold Addr.add;rfl);rw[e0]at hz;exact absurd (cell_spot hz) (by simp)
  subst hsp;refine⟨b,o,rfl,?_⟩;rw[Addr.add_mid]at hc2;rw[hc2,List.getElem_take];simp[List.getD,List.getElem?_eq_getElem (show i<ss.length by omega)]
end tupo
open Go.RowKit Go.ChangeShapes Go.WideShapes Go.Deep
namespace etw
open etp
open dnw (Av Avas)
open tupw (Strs)
theorem strs_any {H:Type}{enc:TypeId × Value→H}{w:World}{base:Nat}{sp:Nat→Bool}{held:Bool}{cs:List Value}{x:DataW H × List MemPlace}{fuel:Nat}
  (h:DataW.trod enc Tryz.prog w base sp held fuel 35 cs=some x): ∃ (ao:Option Addr) (l:List ByteArray) (cap:Nat),cs=[.slice ao l.length cap]∧l.length≤cap∧l.length≤9223372036854775807∧Strs w ao l:=by
 obtain⟨ao,len,cap,hcs⟩: ∃ao len cap,cs=[.slice ao len cap]:=by
  rcases ChangeShapes.open_strings Tryz.underlying35 Tryz.underlying9 (by kernel_rfl) h with⟨hcs,_⟩ | ⟨a,len',cap',ss,hcs,_⟩
  ·exact⟨_,_,_,hcs⟩
  ·exact⟨_,_,_,hcs⟩
 subst hcs;obtain⟨d,p⟩:=x;obtain⟨l,hlen,hS,_,hm,hc,_⟩:=tupo.texts_of Tryz.underlying35 Tryz.underlying9 (by kernel_rfl) ⟨fuel,h⟩;subst hlen;unfold maxLen at hm;exact⟨ao,l,cap,rfl,hc,by omega,hS⟩
theorem ats_of {H:Type}{enc:TypeId × Value→H}{w:World}{base:Nat}{sp:Nat→Bool}{held:Bool}{cs:List Value}{x:DataW H × List MemPlace}{fuel:Nat}
  (h:DataW.trod enc Tryz.prog w base sp held fuel 24 cs=some x): ∃ (ao:Option Addr) (l:List At) (cap:Nat),cs=[.slice ao l.length cap]∧l.length≤cap∧l.length≤9223372036854775807∧Ats w ao l∧ ∀a∈l,a.vs.length≤9223372036854775807:=by
 rcases opn.open_slice_fields Tryz.underlying24 Tryz.underlying43 (by kernel_rfl) (by kernel_rfl) h with⟨hcs,_⟩ | ⟨a,len,cap,m,D,Pl,hcs,_,hlc,hcm,hm,_,hf⟩
 ·exact⟨none,[],0,hcs,Nat.le_refl _,by simp,fun i hi=>by simp at hi,fun a ha=>by simp at ha⟩
 ·have hlm:len≤m:=by rw[hm];split<;>omega
  have hlmax:len≤9223372036854775807:=by unfold maxLen at hcm;omega
  have key: ∀i,i<len→ ∃c:At,(∃b o ax cx,some a=some ⟨b,o,none⟩∧w.cell? ⟨b,o+i*2,none⟩=some (.string c.t)∧w.cell? ⟨b,o+i*2+1,none⟩=some (.slice ax c.vs.length cx)∧c.vs.length≤cx∧Strs w ax c.vs)∧c.vs.length≤9223372036854775807:=by
   intro i hi;obtain⟨ys,n,_,_,_,hfs⟩:=hf i (by omega);obtain⟨v0,y0,c0,_,t0⟩:=hfs 0 _ rfl;obtain⟨v1,y1,c1,_,t1⟩:=hfs 1 _ rfl;obtain⟨k,e0,_⟩:=DataW.trod_string Tryz.underlying9 t0;obtain⟨ax,vs,cx,e1,g1,g2,g3⟩:=strs_any t1;simp only[List.cons.injEq,and_true]at e0 e1;subst e0 e1;have hcell: ∃b o,a=⟨b,o,none⟩:=(by obtain⟨ys0,n0,_,_,_,hfs0⟩:=hf 0 (by omega);obtain⟨v,y,c,_,_⟩:=hfs0 0 _ rfl;obtain⟨b,o,s⟩:=a;have e0:(⟨b,o,s⟩:Addr).add (0*2+0)=⟨b,o,s⟩:=(by unfold Addr.add;rfl);have hc:w.cell? ((⟨b,o,s⟩:Addr).add (0*2+0))=some v:=c;rw[e0]at hc;obtain rfl:=opn.cell_spot hc;exact⟨b,o,rfl⟩);obtain⟨b,o',rfl⟩:=hcell;have ad: ∀j,(⟨b,o',none⟩:Addr).add j=⟨b,o'+j,none⟩:=fun j=>by rw[Addr.add_mid]
   have d0:w.cell? ((⟨b,o',none⟩:Addr).add (i*2+0))=_:=c0;have d1:w.cell? ((⟨b,o',none⟩:Addr).add (i*2+1))=_:=c1;rw[ad]at d0 d1;exact⟨⟨k,vs⟩,⟨b,o',ax,cx,rfl,d0,by rw[Nat.add_assoc];exact d1,g1,g3⟩,g2⟩
  obtain⟨l,hl,hq⟩:=opn.list_of len key;subst hl;refine⟨some a,l,cap,hcs,hlc,hlmax,fun i hi=>(hq i hi).1,fun c hc=> ?_⟩;obtain⟨i,hi,rfl⟩:=List.mem_iff_getElem.1 hc;exact(hq i hi).2
end etw
open Go.RowKit Go.ChangeShapes Go.WideShapes Go.Deep
namespace flw
open flp etp etw
open tupw (Strs)
theorem array7 {α:Type}{cs:Array α}(h:cs.size=7): ∃c0 c1 c2 c3 c4 c5 c6,cs=#[c0,c1,c2,c3,c4,c5,c6]:=by
 obtain⟨l⟩:=cs
 match l,h with
 | [c0,c1,c2,c3,c4,c5,c6],_=>exact⟨c0,c1,c2,c3,c4,c5,c6,rfl⟩
theorem list7 {α:Type}{l:List α}(h:l.length=7): ∃c0 c1 c2 c3 c4 c5 c6,l=[c0,c1,c2,c3,c4,c5,c6]:=by
 match l,h with
 | [c0,c1,c2,c3,c4,c5,c6],_=>exact⟨c0,c1,c2,c3,c4,c5,c6,rfl⟩
theorem cellsFl:Tryz.prog.cellsOf 73=7:=by kernel_rfl
section
variable {H : Type} {enc : TypeId × Value → H} {w : World} {base : Nat} {sp : Nat → Bool} {held : Bool}
theorem fields_of {fuel:Nat}{v0 v1 v2 v3 v4 v5 v6:Value}{x:DataW H × List MemPlace}(h:DataW.trod enc Tryz.prog w base sp held fuel 73 [v0,v1,v2,v3,v4,v5,v6]=some x):
  ∃ (n:Nat) (y0 y1 y2 y3 y4 y5 y6:DataW H × List MemPlace),fuel=n+1∧DataW.trod enc Tryz.prog w base sp held n 3 [v0]=some y0∧DataW.trod enc Tryz.prog w base sp held n 9 [v1]=some y1∧DataW.trod enc Tryz.prog w base sp held n 9 [v2]=some y2∧DataW.trod enc Tryz.prog w base sp held n 9 [v3]=some y3∧
   DataW.trod enc Tryz.prog w base sp held n 35 [v4]=some y4∧DataW.trod enc Tryz.prog w base sp held n 9 [v5]=some y5∧DataW.trod enc Tryz.prog w base sp held n 70 [v6]=some y6:=by
 obtain⟨xs,n,hn,_,_,hlen,hf⟩:=DataW.trod_struct Tryz.underlying73 h;obtain⟨y0,y1,y2,y3,y4,y5,y6,rfl⟩:=list7 (hlen.trans rfl);exact⟨n,y0,y1,y2,y3,y4,y5,y6,hn,hf 0 _ rfl,hf 1 _ rfl,hf 2 _ rfl,hf 3 _ rfl,hf 4 _ rfl,hf 5 _ rfl,hf 6 _ rfl⟩
theorem nil_cap {fuel:Nat}{ao:Option Addr}{n cap:Nat}{x:DataW H × List MemPlace}(h:DataW.trod enc Tryz.prog w base sp held fuel 35 [.slice ao n cap]=some x):ao=none→cap=0:=by
 rcases DataW.trod_slice Tryz.underlying35 h with⟨hcs,_⟩ | ⟨a,len,cap',elems,rest,m,_,hcs,_⟩
 ·simp only[List.cons.injEq,Value.slice.injEq,and_true]at hcs;exact fun _=>hcs.2.2
 ·simp only[List.cons.injEq,Value.slice.injEq,and_true]at hcs;intro e;rw[e]at hcs;cases hcs.1
theorem kids_of: ∀ (fuel:Nat) {cs:List Value} {x:DataW H × List MemPlace},DataW.trod enc Tryz.prog w base sp held fuel 70 cs=some x→
  ∃ (ao:Option Addr) (l:List Fl) (cap:Nat),cs=[.slice ao l.length cap]∧l.length≤cap∧l.length≤9223372036854775807∧Kids w anyB fuel ao l:=by
 intro fuel;induction fuel using Nat.strongRecOn with
 | ind fuel ih=>
  intro cs x h;rcases DataW.trod_slice Tryz.underlying70 h with⟨hcs,_⟩ | ⟨a,len,cap,elems,rest,n,hn,hcs,_,hb,hl,hm,hlen,hel,_,_⟩
  ·exact⟨none,[],0,hcs,Nat.le_refl _,by simp,kids_nil _ _ _ _⟩
  ·have hspot:0<len→ ∃b o,a=⟨b,o,none⟩:=(by intro h0;have h1:=hel 0 h0;rw[List.getElem?_eq_getElem (by omega),cellsFl,Option.bind_eq_some_iff]at h1;obtain⟨cs',hc,_⟩:=h1;obtain⟨_,hcl,hcell⟩:=World.cells?_some hc;obtain⟨v0,v1,v2,v3,v4,v5,v6,rfl⟩:=list7 hcl;obtain⟨b,o,s⟩:=a;have c0:=hcell 0 (by omega);have e:((⟨b,o,s⟩:Addr).add (0*7)).add 0=⟨b,o,s⟩:=(by unfold Addr.add;rfl);rw[e]at c0;obtain rfl:=opn.cell_spot c0;exact⟨b,o,rfl⟩);have key: ∀i,i<len→ ∃F:Fl,∃b o xa xc ka kc,a=⟨b,o,none⟩∧CellsF w b (o+i*7) F (.slice xa F.any.length xc) (.slice ka F.kids.length kc)∧OkA xa F.any.length xc∧Strs w xa F.any∧F.kids.length≤kc∧Kids w anyB n ka F.kids:=by
    intro i hi;have h1:=hel i hi;have hi2:i<elems.length:=(by omega);rw[List.getElem?_eq_getElem hi2,cellsFl,Option.bind_eq_some_iff]at h1;obtain⟨cs',hc,ht⟩:=h1;obtain⟨_,hcl,hcell⟩:=World.cells?_some hc;obtain⟨v0,v1,v2,v3,v4,v5,v6,rfl⟩:=list7 hcl;obtain⟨n',y0,y1,y2,y3,y4,y5,y6,hn',t0,t1,t2,t3,t4,t5,t6⟩:=fields_of ht;obtain⟨kd,e0,_⟩:=DataW.trod_int Tryz.underlying3 t0;obtain⟨s1,e1,_⟩:=DataW.trod_string Tryz.underlying9 t1;obtain⟨s2,e2,_⟩:=DataW.trod_string Tryz.underlying9 t2;obtain⟨s3,e3,_⟩:=DataW.trod_string Tryz.underlying9 t3;obtain⟨xa,m,xc,e4,g1,_,g2⟩:=strs_any t4;obtain⟨s5,e5,_⟩:=DataW.trod_string Tryz.underlying9 t5;obtain⟨ka,ks,kc,e6,k1,_,k2⟩:=ih n' (by omega) t6;simp only[List.cons.injEq,and_true]at e0 e1 e2 e3 e4 e5 e6;subst e0 e1 e2 e3 e4 e5 e6;have gn:=nil_cap t4;have c0:=hcell 0 (by omega);have c1:=hcell 1 (by omega);have c2:=hcell 2 (by omega);have c3:=hcell 3 (by omega);have c4:=hcell 4 (by omega);have c5:=hcell 5 (by omega);have c6:=hcell 6 (by omega);obtain⟨b,o,rfl⟩:=hspot (by omega);have ad: ∀j,((⟨b,o,none⟩:Addr).add (i*7)).add j=⟨b,o+i*7+j,none⟩:=fun j=>by rw[Addr.add_mid,Addr.add_mid]
    rw[ad]at c0 c1 c2 c3 c4 c5 c6;exact⟨.mk kd s1 s2 s3 m s5 ks,b,o,xa,xc,ka,kc,rfl,⟨c0,c1,c2,c3,c4,c5,c6⟩,⟨g1,gn⟩,g2,k1,kids_mono k2 (by omega)⟩
   obtain⟨l,hll,hq⟩:=opn.list_of len key;subst hll;subst hn;unfold maxLen at hm;refine⟨some a,l,cap,hcs,hl,by omega,fun i hi=> ?_⟩;obtain⟨b,o,xa,xc,ka,kc,e,hc,h1,h2,h3,h4⟩:=hq i hi;exact⟨b,o,xa,xc,ka,kc,by rw[e],trivial,hc,h1,⟨h2,fun _ _ _=>trivial⟩,h3,h4⟩
theorem fl_of {r:Reach}{b0:Nat}{v:Value}{d:DataW H}{p:List MemPlace}(hv:Value.okWide Tryz.prog w r b0 73 v)(h:DataW.Trod enc Tryz.prog w base sp held 73 v d p): ∃ (F:Fl) (n:Nat),FlV w anyB n v F:=by obtain⟨cs,rfl,hsz⟩:=okWide_struct Tryz.underlying73 hv;obtain⟨v0,v1,v2,v3,v4,v5,v6,rfl⟩:=array7 (hsz.trans cellsFl);obtain⟨fuel,hf⟩:=h;obtain⟨n,y0,y1,y2,y3,y4,y5,y6,_,t0,t1,t2,t3,t4,t5,t6⟩:=fields_of (by simpa[Value.cells]using hf);obtain⟨kd,e0,_⟩:=DataW.trod_int Tryz.underlying3 t0;obtain⟨s1,e1,_⟩:=DataW.trod_string Tryz.underlying9 t1;obtain⟨s2,e2,_⟩:=DataW.trod_string Tryz.underlying9 t2;obtain⟨s3,e3,_⟩:=DataW.trod_string Tryz.underlying9 t3;obtain⟨xa,m,xc,e4,g1,_,g2⟩:=strs_any t4;obtain⟨s5,e5,_⟩:=DataW.trod_string Tryz.underlying9 t5;obtain⟨ka,ks,kc,e6,k1,_,k2⟩:=kids_of n t6;simp only[List.cons.injEq,and_true]at e0 e1 e2 e3 e4 e5 e6;subst e0 e1 e2 e3 e4 e5 e6;exact⟨.mk kd s1 s2 s3 m s5 ks,n,xa,xc,ka,kc,rfl,⟨g1,nil_cap t4⟩,⟨g2,fun _ _ _=>trivial⟩,k1,k2⟩
end
end flw
open Go.RowKit Go.ChangeShapes Go.WideShapes Go.Deep
namespace flw
open flp etp etw
theorem ats_form {H:Type}{enc:TypeId × Value→H}{w:World}{base:Nat}{sp:Nat→Bool}{held:Bool}{d:DataW H}{p:List MemPlace}{ao:Option Addr}{len cap:Nat}
  (h: ∃fuel,DataW.trod enc Tryz.prog w base sp held fuel 24 [.slice ao len cap]=some (d,p)): ∃l:List At,len=l.length∧Ats w ao l∧len≤cap:=by
 obtain⟨fuel,h⟩:=h;obtain⟨ao',l,cap',hcs,h1,_,h3,_⟩:=ats_of h;simp only[List.cons.injEq,and_true,Value.slice.injEq]at hcs;obtain⟨rfl,rfl,rfl⟩:=hcs;exact⟨l,rfl,h3,h1⟩
end flw
end Go.Proofs.YtmnpfkbjpeaemaaGreatDoor
