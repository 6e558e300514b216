/- One text out of several: LbR, LbN, LbX, SegU, LdRowM, LdNameW, LdRef. -/
import Derived.Test.YtmnpfkbjpeaemaaGreatDoorRows
import Derived.Deep.QuietTactic
import Derived.BigQuiet
import Derived.Test.YtmnpfkbjpeaemaaGreatDoorS1
import Derived.Test.YtmnpfkbjpeaemaaGreatDoorS4
import Derived.Test.YtmnpfkbjpeaemaaGreatDoorS6
import Derived.Test.YtmnpfkbjpeaemaaGreatDoorS7
import Derived.Test.YtmnpfkbjpeaemaaGreatDoorS8
import Derived.Test.YtmnpfkbjpeaemaaGreatDoorS9
import Derived.Test.YtmnpfkbjpeaemaaGreatDoorS11
import Derived.Laws.OwnMore
import Derived.Test.YtmnpfkbjpeaemaaGreatDoorS2
import Derived.Test.YtmnpfkbjpeaemaaGreatDoorS5
import Derived.WalkSmall
set_option linter.unusedVariables false
set_option linter.unusedSimpArgs false
set_option maxRecDepth 20000
set_option maxHeartbeats 8000000
namespace Go.Proofs.YtmnpfkbjpeaemaaGreatDoor
open Go.RowKit
namespace lbw
open lbp atw etp etw
open dnw (Av Avas Rdns parseV nameOK printR)
open tupw (Strs strs_below)
theorem recB_set0 {w:World}{p:Nat}{nm:ByteArray}{v:Value}(h:RecB w p nm v)(u:ByteArray):RecB (w.setCell ⟨p,0,none⟩ (.string u)) p u v:=Joins.block_setCell h _
theorem recB_set1 {w:World}{p:Nat}{nm:ByteArray}{v:Value}(h:RecB w p nm v)(u:Value):RecB (w.setCell ⟨p,1,none⟩ u) p nm u:=Joins.block_setCell h u
theorem ownP_app {w:World}{B:Nat}{v:Value}{l:List Av}(x:Av)(h:dnw.OwnA w B v l)(hl:l.length≤1100000)(hB:B≤w.heap.size):
  ∃ao n cap w1,(Builtin.append_ #[23,23] 23 #[v,.slice (some ⟨w.heap.size,0,none⟩) 1 1]).run Tryz.prog (w.alloc (.cells #[.string x.t,.string x.v] 51))= .ok (.slice ao n cap) w1∧dnw.OwnA w1 B (.slice ao n cap) (l++[x])∧Below B w w1∧Hid (n=l.length+1)∧n≤cap∧(∀k,k<w.heap.size→v.ownBlock≠some k→w1.heap[k]? =w.heap[k]? ∧(Value.slice ao n cap).ownBlock≠some k):=by
 have hn:dnw.OwnA (w.alloc (.cells #[.string x.t,.string x.v] 51)) B v l:=kt.segX_below h ((Below.refl _ _).alloc (Nat.le_refl _) _);obtain⟨v',w1,h1,h2,h3,h4⟩:=kt.segX_append (P:=Tryz.prog) (t:=23) (ty:=23) Tryz.underlying23 dnw.infoAva rfl (by omega) ⟨w.heap.size,0,none⟩ 1 1 (dnw.acell x) rfl (fun j u hj=>by rw[kt.addr_add,World.cell?_alloc_new];simpa[dnw.acell]using hj) (by intro u hu;simp[dnw.acell]at hu;rcases hu with rfl | rfl<;>rfl) hn (by unfold maxLen;omega) (by omega) (by simp;omega);obtain⟨ao,cap,rfl,hc⟩:=kt.segX_slice h2;refine⟨ao,_,cap,w1,h1,?_,((Below.refl B w).alloc hB _).trans (dnw.below_of_gr h3 (by simp;omega) (fun k hk=>(dnw.ownA_lt hn k hk).1)),rfl,hc,fun k hk hne=>⟨?_,fun e=> ?_⟩⟩
 rotate_left 1
 ·exact(h3.block k (by simp;omega) (fun e=>hne e.symm)).trans (((Below.refl w.heap.size w).alloc (Nat.le_refl _) _).block k hk)
 ·rcases h4 k e with e4 | e4
  ·exact hne e4
  ·simp at e4;omega
 unfold dnw.OwnA;rw[List.length_append,dnw.acells_append];have e:dnw.acells [x]=dnw.acell x:=by simp[dnw.acells]
 rw[e];exact h2
theorem ownP_set {w:World}{B g:Nat}{v u:Value}{l:List Av}{j:Nat}(h:dnw.OwnA w B v l)(hg:g<B):dnw.OwnA (w.setCell ⟨g,j,none⟩ u) B v l:=dnw.ownA_same h fun k hk=>Below.heap_setCell _ _ _ _ (by have:=(dnw.ownA_lt h k hk).1;show k≠g;omega)
def RecR (r:Except Int (ByteArray × List Av))(w:World)(e:Ending)(w':World):Prop:=Below w.heap.size w w'∧match r with
 | .ok x=> ∃po pc,e= .returned (.tuple #[.agg #[.string x.1,.slice po x.2.length pc],.int .i64 0])∧Avas w' po x.2∧x.2.length≤pc
 | .error f=>e= .returned (.tuple #[.agg #[.string ⟨#[]⟩,.slice none 0 0],.int .i64 f])
theorem pairsV_snoc {L:List At}{i:Nat}(hi:i<L.length):pairsV (L.take (i+1))=pairsV (L.take i)++(L[i].vs.map fun v=>⟨L[i].t,v⟩):=by unfold pairsV;rw[List.take_succ_eq_append_getElem hi,List.flatMap_append];simp
theorem pairsV_take_le (L:List At)(i:Nat):(pairsV (L.take i)).length≤(pairsV L).length:=by
 conv=>rhs;rw[←List.take_append_drop i L]
 unfold pairsV;rw[List.flatMap_append,List.length_append];omega
theorem avas_rec {w:World}{B q g:Nat}{v u u':Value}{ao:Option Addr}{l:List Av}{c:Nat}(h:dnw.OwnA w B (.slice ao l.length c) l)(hq:q<B):Avas ((w.setCell ⟨q,0,none⟩ u).setCell ⟨q,1,none⟩ u') ao l:=dnw.ownA_avas (ownP_set (ownP_set h hq) hq)
theorem record_any (no:Option Addr)(nc:Nat)(n:List (List Av))(v:Value)(E:En)(w:World)(hN:Hid (Rdns w no n))(hn:n.length≤1000)(hS:Hid (∀l∈n,l.length≤4→dnw.Smalls l))(hv:Hid (EntV w v E))(hb:Hid (Bd E))(hvs:Hid ((pairsV E.ats).length≤1000000))(hE:Hid (EnvE w)):
  Calls Tryz.prog 39 #[.slice no n.length nc,v] w fun e w'=>RecR (recE n E) w e w':=by
 have HRN0:Hid (∀W,Below w.heap.size w W→Calls Tryz.prog 97 #[.slice no n.length nc] W fun e w'=>e= .returned (.bool (nameOK n))∧Below W.heap.size W w'):=fun W h=>dnw.right_any no nc n W (Lib.hid (dnw.rdns_below hN.out h)) (Lib.hid (envE_below hE.out h).e) hS;have HRE0:Hid (∀W,Below w.heap.size w W→Calls Tryz.prog 71 #[v] W fun e w'=>e= .returned (.bool (rightE E))∧Below W.heap.size W w'):=fun W h=>right_any v E W (Lib.hid (entV_below hv.out h)) hb (Lib.hid (envE_below hE.out h));have HPR0:Hid (∀W,Below w.heap.size w W→Calls Tryz.prog 98 #[.slice no n.length nc] W fun e w'=>e= .returned (.tuple #[.string (dnw.bytes (printR n).1),.int .i64 (printR n).2])∧Below W.heap.size W w'):=fun W h=>dnw.print_any no nc n W (Lib.hid (dnw.rdns_below hN.out h)) (Lib.hid (envE_below hE.out h).e) hS;have HRES:Hid (recE n E=if n=[]then .error 18 else if nameOK n=false∨rightE E=false then .error 4 else if(printR n).2≠0 then .error ((printR n).2:Int)else .ok (dnw.bytes (printR n).1,pairsV E.ats)):=rfl;obtain⟨RR,hRR⟩: ∃r,recE n E=r:=⟨_,rfl⟩;rw[hRR]at HRES ⊢;have HN0:Hid (n=[]↔n.length=0):=List.length_eq_zero_iff.symm;generalize nameOK n=nok at HRN0 HRES;generalize rightE E=rok at HRE0 HRES;generalize(printR n).2=pc at HPR0 HRES;generalize dnw.bytes (printR n).1=nm at HPR0 HRES;obtain⟨M,hM⟩: ∃m,n.length=m:=⟨_,rfl⟩;rw[hM]at HRN0 HPR0 HN0 hn ⊢;clear hRR hM;obtain⟨ro,rc,ao,ac,Nr,N,rfl,HN,HA,hac,HNr,HAv,hrc⟩:=ent_form hv.out;have hNb:N≤100000:=by rw[←HN.out];exact hb.out.al
 obtain⟨W1,hW1⟩: ∃W,w.alloc (.cells #[.slice ro Nr rc,.slice ao N ac] 26)=W:=⟨_,rfl⟩;have hB1:Below w.heap.size w W1:=by rw[←hW1];exact(Below.refl _ _).alloc (Nat.le_refl _) _
 obtain⟨p,hp⟩: ∃p,w.heap.size=p:=⟨_,rfl⟩;have hT1:EntB W1 p (.slice ro Nr rc) (.slice ao N ac):=by rw[←hW1,←hp];exact entB_new _ _ _
 obtain⟨W2,hW2⟩: ∃W,W1.alloc (.cells #[.string ⟨#[]⟩,.slice none 0 0] 54)=W:=⟨_,rfl⟩;have hB2:Below W1.heap.size W1 W2:=by rw[←hW2];exact(Below.refl _ _).alloc (Nat.le_refl _) _
 obtain⟨q,hqq⟩: ∃q,W1.heap.size=q:=⟨_,rfl⟩;have hqw:w.heap.size≤q:=by rw[←hqq];exact hB1.size
 have HQ2:Hid (RecB W2 q ⟨#[]⟩ (.slice none 0 0)):=by rw[←hW2,←hqq];exact recB_new _ _ _
 have HB2:=Lib.hid (hB1.trans (hB2.mono hB1.size));have HT2:=Lib.hid (entB_below hT1 hB2);clear hB1 hB2 hT1 hv;by_cases hM0:M=0
 ·have HR:Hid (.error 18=RR):=by show _=_;rw[HRES.out,if_pos (HN0.out.2 hM0)]
  subst hM0;clear HRES;have HQ:=HQ2;have HBX:=HB2;go_enter Tryz.func39,Tryz.ntmps39;obtain⟨v0,v1⟩:=recB_cells HQ.out;have f0:=Lib.frozen_of_heap HQ.out 0;have f1:=Lib.frozen_of_heap HQ.out 1;have hq1:=recB_set0 HQ.out ⟨#[]⟩;have hq2:=recB_set1 hq1 (.slice none 0 0);have HQC:=Lib.hid (recB_cells hq2);have HBF:=Lib.hid ((HBX.out.setCell (p:=⟨q,0,none⟩) hqw (.string ⟨#[]⟩)).setCell (p:=⟨q,1,none⟩) hqw (.slice none 0 0));clear hq1 hq2;go_wp2_with fail;obtain⟨r0,r1⟩:=HQC.out;refine bodyPost_ret (v:= .tuple #[.agg #[.string ⟨#[]⟩,.slice none 0 0],.int .i64 18]) (by rw[results_cell_tmp rfl];go_simp) rfl ?_;exact⟨HBF.out,by rw[←HR.out]⟩
 ·have HRES2:Hid (RR=if nok=false∨rok=false then .error 4 else if pc≠0 then .error (pc:Int)else .ok (nm,pairsV E.ats)):=by show _=_;rw[HRES.out,if_neg fun h=>hM0 (HN0.out.1 h)]
  clear HRES;have hM1:((M:Int)==0)=false:=by rw[beq_eq_false_iff_ne];omega
  have HRN:=Lib.hid (HRN0.out W2 HB2.out);clear HRN0;go_enter Tryz.func39,Tryz.ntmps39;go_wp2_with fail;clear hW1 hW2 hqq hp;refine HRN.out.mono ?_;rintro e w3 ⟨rfl,hB3⟩;have HB3:=Lib.hid (HB2.out.trans (hB3.mono HB2.out.size));have HT3:=Lib.hid (entB_below HT2.out hB3);have HQ3:=Lib.hid (recB_below HQ2.out hB3);clear hB3 HRN;cases nok with
  | false=>have HR:Hid (.error 4=RR):=(by show _=_;rw[HRES2.out,if_pos (Or.inl rfl)]);have HQ:=HQ3;have HBX:=HB3;obtain⟨v0,v1⟩:=recB_cells HQ.out;have f0:=Lib.frozen_of_heap HQ.out 0;have f1:=Lib.frozen_of_heap HQ.out 1;have hq1:=recB_set0 HQ.out ⟨#[]⟩;have hq2:=recB_set1 hq1 (.slice none 0 0);have HQC:=Lib.hid (recB_cells hq2);have HBF:=Lib.hid ((HBX.out.setCell (p:=⟨q,0,none⟩) hqw (.string ⟨#[]⟩)).setCell (p:=⟨q,1,none⟩) hqw (.slice none 0 0));clear hq1 hq2;go_wp2_with fail;obtain⟨r0,r1⟩:=HQC.out;refine bodyPost_ret (v:= .tuple #[.agg #[.string ⟨#[]⟩,.slice none 0 0],.int .i64 4]) (by rw[results_cell_tmp rfl];go_simp) rfl ?_;exact⟨HBF.out,by rw[←HR.out]⟩
  | true=>
   have HRE:=Lib.hid (HRE0.out w3 HB3.out);clear HRE0;obtain⟨k0,k1⟩:=entB_cells HT3.out;go_wp2_with fail;refine HRE.out.mono ?_;rintro e w4 ⟨rfl,hB4⟩;have HB4:=Lib.hid (HB3.out.trans (hB4.mono HB3.out.size));have HT4:=Lib.hid (entB_below HT3.out hB4);have HQ4:=Lib.hid (recB_below HQ3.out hB4);clear hB4 HRE k0 k1;cases rok with
   | false=>have HR:Hid (.error 4=RR):=(by show _=_;rw[HRES2.out,if_pos (Or.inr rfl)]);have HQ:=HQ4;have HBX:=HB4;obtain⟨v0,v1⟩:=recB_cells HQ.out;have f0:=Lib.frozen_of_heap HQ.out 0;have f1:=Lib.frozen_of_heap HQ.out 1;have hq1:=recB_set0 HQ.out ⟨#[]⟩;have hq2:=recB_set1 hq1 (.slice none 0 0);have HQC:=Lib.hid (recB_cells hq2);have HBF:=Lib.hid ((HBX.out.setCell (p:=⟨q,0,none⟩) hqw (.string ⟨#[]⟩)).setCell (p:=⟨q,1,none⟩) hqw (.slice none 0 0));clear hq1 hq2;go_wp2_with fail;obtain⟨r0,r1⟩:=HQC.out;refine bodyPost_ret (v:= .tuple #[.agg #[.string ⟨#[]⟩,.slice none 0 0],.int .i64 4]) (by rw[results_cell_tmp rfl];go_simp) rfl ?_;exact⟨HBF.out,by rw[←HR.out]⟩
   | true=>
    have HRES3:Hid (RR=if pc≠0 then .error (pc:Int)else .ok (nm,pairsV E.ats)):=(by show _=_;rw[HRES2.out,if_neg (by simp)]);have HPR:=Lib.hid (HPR0.out w4 HB4.out);clear HRES2 HPR0;go_wp2_with fail;refine HPR.out.mono ?_;rintro e w5 ⟨rfl,hB5⟩;have HB5:=Lib.hid (HB4.out.trans (hB5.mono HB4.out.size));have HT5:=Lib.hid (entB_below HT4.out hB5);have HQ5:=Lib.hid (recB_below HQ4.out hB5);clear hB5 HPR HQ2 HQ3 HQ4 HT2 HT3 HT4 HB2 HB3 HB4;by_cases hpc:pc=0
    ·subst hpc;have HR0:Hid (.ok (nm,pairsV E.ats)=RR):=(by show _=_;rw[HRES3.out,if_neg (by simp)]);clear HRES3;have hB6:Below w5.heap.size w5 (w5.alloc (.cells #[.string nm,.slice none 0 0] 54)):=(Below.refl _ _).alloc (Nat.le_refl _) _;have HG6:Hid (RecB (w5.alloc (.cells #[.string nm,.slice none 0 0] 54)) w5.heap.size nm (.slice none 0 0)):=recB_new _ _ _;have HT6:=Lib.hid (entB_below HT5.out hB6);have HB56:=Lib.hid hB6;obtain⟨k0,k1⟩:=entB_cells HT6.out;have hN0:0≤N:=Nat.zero_le _;clear hB6;go_wp2_with fail;clear k0 k1;obtain⟨W6,hW6⟩: ∃W,w5.alloc (.cells #[.string nm,.slice none 0 0] 54)=W:=⟨_,rfl⟩;obtain⟨g,hg⟩: ∃g,w5.heap.size=g:=⟨_,rfl⟩;have HG5:Hid (w5.heap.size=g):=hg;rw[hW6]at HG6 HB56 HT6 ⊢;rw[hg]at HG6 ⊢;have HQG:Hid (q<g):=(by show q<g;rw[←hg];exact kt.bld_lt HQ5.out);have hgs:g+1≤W6.heap.size:=kt.bld_lt HG6.out;have HOW6:Hid (dnw.OwnA W6 (g+1) (.slice none 0 0) []):=dnw.ownA_nil _ _;clear hW6 hg;go_loopw [42] (fun iv wr=> ∃ (i:Nat) (P:List Av) (po:Option Addr) (pn pcap:Nat),i≤N∧iv= .int .i64 (i:Int)∧Hid (P=pairsV (E.ats.take i))∧Hid (RecB wr g nm (.slice po pn pcap))∧Hid (dnw.OwnA wr (g+1) (.slice po pn pcap) P)∧Hid (pn=P.length)∧pn≤pcap∧Hid (Below w5.heap.size w5 wr)) (fun iv _=>N- (intOf iv).toNat);case atStart=>exact⟨0,[],none,0,0,Nat.zero_le _,rfl,rfl,HG6.out,HOW6.out,rfl,Nat.le_refl _,HB56.out⟩
     case round=>
      clear HG6 HOW6 HB56 HT6;obtain⟨i,P,po,pn,pcap,hi,rfl,hP,hG,hO,hpn,hpcap,hB⟩:=hrel;have HGr:=hG;have HOr:=hO;have hgsz:g<wr.heap.size:=kt.bld_lt hG.out;have HBr:=Lib.hid (HB5.out.trans (hB.out.mono HB5.out.size));have HQr:=Lib.hid (recB_below HQ5.out hB.out);clear hG hO;by_cases hlt:i<N
      ·have hltI:(i:Int)<(N:Int):=(by omega);have hil:i<E.ats.length:=(by rw[HN.out];exact hlt);obtain⟨b,o,ca,cc,hao,hc0',hc1',hcc,hSV⟩:=HA.out i hil;subst hao;have hc0:=(HBr.out.cell (World.block_lt_of_cell? w _ hc0')).trans hc0';have hc1:=(HBr.out.cell (World.block_lt_of_cell? w _ hc1')).trans hc1';clear hc0' hc1';have HPS:=Lib.hid (pairsV_snoc hil);have HPL:Hid ((pairsV (E.ats.take i)).length+E.ats[i].vs.length≤(pairsV E.ats).length):=(by show _≤_;have h1:=pairsV_snoc hil;have h2:=congrArg List.length h1;rw[List.length_append,List.length_map]at h2;have h3:=pairsV_take_le E.ats (i+1);omega);obtain⟨a,ha⟩: ∃a,E.ats[i]=a:=⟨_,rfl⟩;rw[ha]at hc0 hc1 hSV HPS HPL;have HSV:=Lib.hid hSV;obtain⟨m,hm⟩: ∃m,a.vs.length=m:=⟨_,rfl⟩;have HMV:=Lib.hid hm;rw[hm]at hc1 HPL;have hmb:m≤1000000:=(by have:=HPL.out;have:=hvs.out;omega);obtain⟨W7,hW7⟩: ∃W,wr.alloc (.cells #[.string a.t,.slice ca m cc] 43)=W:=⟨_,rfl⟩;have hB7:Below wr.heap.size wr W7:=(by rw[←hW7];exact(Below.refl _ _).alloc (Nat.le_refl _) _);obtain⟨z,hz⟩: ∃z,wr.heap.size=z:=⟨_,rfl⟩;have HA7:Hid (AttrB W7 z a.t (.slice ca m cc)):=(by rw[←hW7,←hz];exact attrB_new _ _ _);have HZ:Hid (wr.heap.size=z):=hz;obtain⟨y0,y1⟩:=attrB_cells HA7.out;have HG7:=Lib.hid (recB_below HGr.out hB7);have HO7:=Lib.hid (dnw.ownA_same HOr.out (w':=W7) fun k hk=>hB7.block k (dnw.ownA_lt HOr.out k hk).2);have HB57:=Lib.hid (hB.out.trans (hB7.mono hB.out.size));have hm0:0≤m:=Nat.zero_le _;have HGz:Hid (g<wr.heap.size):=hgsz;have HOZ:Hid ((Value.slice po pn pcap).ownBlock≠some z):=(by intro e;have h1:=(dnw.ownA_lt HOr.out z e).2;have h2:=HZ.out;omega);clear ha hm hB7 hSV hcc;go_wp2_with fail;clear hc0 hc1 y0 y1 hW7 hz;go_loopw [49] (fun jv wi=> ∃ (j:Nat) (P2:List Av) (po:Option Addr) (pn pcap:Nat),j≤m∧jv= .int .i64 (j:Int)∧Hid (P2=P++(a.vs.take j).map fun v=>⟨a.t,v⟩)∧Hid (RecB wi g nm (.slice po pn pcap))∧Hid (dnw.OwnA wi (g+1) (.slice po pn pcap) P2)∧Hid (pn=P2.length)∧pn≤pcap∧Hid (AttrB wi z a.t (.slice ca m cc))∧Hid ((Value.slice po pn pcap).ownBlock≠some z)∧Hid (Below w5.heap.size w5 wi)) (fun jv _=>m- (intOf jv).toNat);case atStart=>exact⟨0,P,po,pn,pcap,Nat.zero_le _,rfl,(by show _=_;simp),HG7.out,HO7.out,hpn.out,hpcap,HA7.out,HOZ.out,HB57.out⟩
       case round=>
        clear HG7 HO7 HA7 HOZ HB57 hpn hpcap;obtain⟨j,P2,po,pn,pcap,hj,rfl,hP2,hG,hO,hpn,hpcap,hAB,hOZ,hB⟩:=hrel;have HBi:=Lib.hid (HB5.out.trans (hB.out.mono HB5.out.size));have hgsz:g<wr.heap.size:=kt.bld_lt hG.out;by_cases hjt:j<m
        ·have hjt':(j:Int)<(m:Int):=(by omega);have hjl:j<a.vs.length:=(by rw[HMV.out];exact hjt);obtain⟨b3,o3,hca,c0⟩:=(strs_below HSV.out HBi.out) j hjl;subst hca;have HTJ:Hid (a.vs.take (j+1)=a.vs.take j++[a.vs[j]]):=(by show _=_;rw[List.take_succ_eq_append_getElem hjl]);obtain⟨x,hx⟩: ∃x,a.vs[j]=x:=⟨_,rfl⟩;rw[hx]at c0 HTJ;have hPl:P2.length≤1100000:=(by rw[hP2.out,List.length_append,List.length_map,List.length_take,hP.out];have h1:=HPL.out;have h2:=hvs.out;omega);obtain⟨po',pn',pc',w8,hap,hO8,hB8,hpn8,hpc8,hk8⟩:=ownP_app ⟨a.t,x⟩ hO.out hPl (by omega);have hap:=dnw.ApR.mk hap;have hg8:RecB w8 g nm (.slice po pn pcap):=(hB8.block g (Nat.lt_succ_self g)).trans hG.out;have hz8:=hk8 z (kt.bld_lt hAB.out) hOZ.out;obtain⟨g0,g1⟩:=recB_cells hG.out;obtain⟨s0,s1⟩:=recB_cells hg8;have sf1:=Lib.frozen_of_heap hg8 1;obtain⟨y0,y1⟩:=attrB_cells hAB.out;have HG9:=Lib.hid (recB_set1 hg8 (.slice po' pn' pc'));have HO9:=Lib.hid (ownP_set (g:=g) (j:=1) (u:= .slice po' pn' pc') hO8 (Nat.lt_succ_self g));have hzg:z≠g:=(by have:=HZ.out;have:=HGz.out;omega);have HA9:Hid (AttrB (w8.setCell ⟨g,1,none⟩ (.slice po' pn' pc')) z a.t (.slice (some ⟨b3,o3,none⟩) m cc)):=attrB_set (hz8.1.trans hAB.out) hzg _;have HZ9:=Lib.hid hz8.2;have HP9:Hid (P2++[⟨a.t,x⟩]=P++(a.vs.take (j+1)).map fun v=>⟨a.t,v⟩):=(by show _=_;rw[hP2.out,HTJ.out,List.map_append,List.append_assoc];rfl);have HL9:Hid (pn'=(P2++[(⟨a.t,x⟩:Av)]).length):=(by show _=_;rw[hpn8.out,List.length_append];rfl);have HB9:Hid (Below w5.heap.size w5 (w8.setCell ⟨g,1,none⟩ (.slice po' pn' pc'))):=(by have h1:Below w5.heap.size wr w8:=hB8.mono (by have:=HG5.out;omega);exact(hB.out.trans h1).setCell (by show _≤g;have:=HG5.out;omega) _);clear hx hO8 hB8 hpn8 hk8 hg8 hz8 hzg hPl;go_wp2_with (at_builtin;refine dnw.wp_apR rfl _ _ _ _ rfl _ _ hap ?_);clear c0 y0 y1 g0 g1 s0 s1 sf1;go_roundw;case rel=>exact⟨j+1,_,po',pn',pc',by omega,by go_num,HP9.out,HG9.out,HO9.out,HL9.out,hpc8,HA9.out,HZ9.out,HB9.out⟩
         case measure=>simp[intOf];omega
        ·obtain rfl:m=j:=(by omega);have HP3:Hid (P2=pairsV (E.ats.take (i+1))):=(by show _=_;rw[hP2.out,←HMV.out,List.take_length,HPS.out,hP.out]);go_wp2_with fail;go_roundw;case rel=>exact⟨i+1,P2,po,pn,pcap,by omega,by go_num,HP3.out,hG.out,hO.out,hpn.out,hpcap,hB.out⟩
         case measure=>simp[intOf];omega
      ·obtain rfl:N=i:=(by omega);have HPF:Hid (P=pairsV E.ats):=(by show _=_;rw[hP.out,←HN.out,List.take_length]);have HRF:Hid (.ok (nm,P)=RR):=(by show _=_;rw[←HR0.out,HPF.out]);obtain⟨n0,n1⟩:=recB_cells HQr.out;have qf0:=Lib.frozen_of_heap HQr.out 0;have qf1:=Lib.frozen_of_heap HQr.out 1;obtain⟨e0,e1⟩:=recB_cells HGr.out;have hq1:=recB_set0 HQr.out nm;have HQF:=Lib.hid (recB_set1 hq1 (.slice po pn pcap));have hqB:q<g+1:=(by have:=HQG.out;omega);have HPA:Hid (pn=P.length):=hpn.out;have HAF:Hid (Avas ((wr.setCell ⟨q,0,none⟩ (.string nm)).setCell ⟨q,1,none⟩ (.slice po pn pcap)) po P):=(by have h:=HOr.out;rw[HPA.out]at h ⊢;exact avas_rec (g:=g) (v:= .slice none 0 0) h hqB);have HBF:=Lib.hid ((HBr.out.setCell (p:=⟨q,0,none⟩) hqw (.string nm)).setCell (p:=⟨q,1,none⟩) hqw (.slice po pn pcap));clear hq1;go_wp2_with fail;obtain⟨r0,r1⟩:=recB_cells HQF.out;refine bodyPost_ret (v:= .tuple #[.agg #[.string nm,.slice po pn pcap],.int .i64 0]) (by rw[results_cell_tmp rfl];go_simp) rfl ?_;refine⟨HBF.out,?_⟩;rw[←HRF.out];exact⟨po,pcap,by rw[HPA.out],HAF.out,by rw[←HPA.out];exact hpcap⟩
    ·have hpc2:((pc:Int) !=0)=true:=(by rw[bne_iff_ne];omega);have HR:Hid (.error (pc:Int)=RR):=(by show _=_;rw[HRES3.out,if_pos hpc]);have HQ:=HQ5;have HBX:=HB5;clear hpc HRES3;obtain⟨v0,v1⟩:=recB_cells HQ.out;have f0:=Lib.frozen_of_heap HQ.out 0;have f1:=Lib.frozen_of_heap HQ.out 1;have hq1:=recB_set0 HQ.out ⟨#[]⟩;have hq2:=recB_set1 hq1 (.slice none 0 0);have HQC:=Lib.hid (recB_cells hq2);have HBF:=Lib.hid ((HBX.out.setCell (p:=⟨q,0,none⟩) hqw (.string ⟨#[]⟩)).setCell (p:=⟨q,1,none⟩) hqw (.slice none 0 0));clear hq1 hq2;go_wp2_with fail;obtain⟨r0,r1⟩:=HQC.out;refine bodyPost_ret (v:= .tuple #[.agg #[.string ⟨#[]⟩,.slice none 0 0],.int .i64 (pc:Int)]) (by rw[results_cell_tmp rfl];go_simp) rfl ?_;exact⟨HBF.out,by rw[←HR.out]⟩
end lbw
open Go.RowKit
namespace lbk
open bld ldp
def lineB (k v:ByteArray):ByteArray:=⟨(lineL k.data.toList v.data.toList).toArray⟩
theorem foldT_short {s:List UInt8}(h:s.length≤76):foldT s=s++[10]:=by unfold foldT;rw[List.take_of_length_le h,List.drop_eq_nil_of_le h];cases s.length<;>rfl
theorem foldT_long (s:List UInt8):foldT s=(s.take 76++[10])++cont (cut75 (s.drop 76)):=by unfold foldT cut75;rw[cutF_fuel s.length (s.drop 76).length _ (by rw[List.length_drop];omega) (Nat.le_refl _)];simp
theorem cont_take (ps:List (List UInt8))(k:Nat)(hk:k<ps.length):cont (ps.take (k+1))=cont (ps.take k)++(32::(ps[k]++[10])):=by unfold cont;rw[List.take_succ_eq_append_getElem hk,List.flatMap_append];simp
theorem cont_len: ∀ (ts:List ByteArray),(∀p∈ts,p.size≤75)→ ∀k,(cont ((ts.map fun x=>x.data.toList).take k)).length≤ts.length*77
 | [],h,k=>by simp[cont]
 | p::ts,h,0=>by simp[cont]
 | p::ts,h,k+1=>by have ih:=cont_len ts (fun q hq=>h q (List.mem_cons_of_mem _ hq)) k;have hp:=h p List.mem_cons_self;unfold cont at ih ⊢;rw[List.map_cons,List.take_succ_cons,List.flatMap_cons,List.length_append,List.length_cons,List.length_append,kt.size_len];simp only[List.length_cons,List.length_nil];omega
theorem body_mid (k v:List UInt8)(h:v≠[])(hp:plainOK v=true∧v.getLast?≠some 32):body k v=k++58::(32::v):=by unfold body;rw[if_neg h,if_pos hp]
theorem body_enc (k v:List UInt8)(h:v≠[])(hp: ¬ (plainOK v=true∧v.getLast?≠some 32)):body k v=k++58::(58::32::b64p.enc v):=by unfold body;rw[if_neg h,if_neg hp]
theorem body_nil (k:List UInt8):body k []=k++[58]:=by unfold body;rw[if_pos rfl]
theorem suffix_sp (v:List UInt8):Lib.hasSuffix v [32]=decide (v.getLast?=some 32):=by
 unfold Lib.hasSuffix;rw[Bool.eq_iff_iff,decide_eq_true_iff];constructor
 ·intro h;obtain⟨t,ht⟩:=List.isSuffixOf_iff_suffix.1 h;rw[←ht];simp
 ·intro h;obtain⟨t,ht⟩:=List.getLast?_eq_some_iff.1 h;exact List.isSuffixOf_iff_suffix.2 ⟨t,ht.symm⟩
theorem arr_mk (s:ByteArray)(l:List UInt8)(h:s.data.toList=l):s=⟨l.toArray⟩:=by subst h;rfl
theorem dt_app (a b:ByteArray):(a++b).data.toList=a.data.toList++b.data.toList:=by simp
theorem enc_size (v:ByteArray)(h:v.size≤1200):(b64p.enc v.data.toList).length≤2402:=by have:=(b64p.enc_length _ v.data.toList (Nat.le_refl _)).1;rw[kt.size_len]at this;omega
def LineE (k v:ByteArray)(w:World)(e:Ending)(w':World):Prop:=e= .returned (.string (lineB k v))∧Below w.heap.size w w'
theorem line_nil (k:ByteArray)(w:World)(hk:k.size≤100):Calls Tryz.prog 102 #[.string k,.string ByteArray.empty] w (LineE k ByteArray.empty w):=by
 obtain⟨T,hT⟩: ∃T,T=k++(⟨#[58]⟩:ByteArray):=⟨_,rfl⟩;have hTs:T.size=k.size+1:=by rw[hT,ByteArray.size_append];rfl
 have HT:Hid (T.data.toList=k.data.toList++[58]):=by show _=_;rw[hT,dt_app]
 have hadd1: ∀W,(Op.stringOp .add k ⟨#[58]⟩).run Tryz.prog W= .ok (.string T) W:=fun W=>by rw[hT];exact run_string_add_sum W _ _ (by show k.size+1≤9223372036854775807;omega)
 clear hT;obtain⟨S,hS⟩: ∃S,S=T:=⟨_,rfl⟩;subst hS;have HS:Hid (S.data.toList=body k.data.toList ByteArray.empty.data.toList):=by show _=_;rw[HT.out];exact(body_nil _).symm
 have hSs:S.size≤2000:=by omega
 clear HT hTs;go_enter Tryz.func102,Tryz.ntmps102;by_cases h76:S.size≤76
 ·have h76I:(S.size:Int)≤76:=by omega
  obtain⟨R,hR⟩: ∃R,R=S++(⟨#[10]⟩:ByteArray):=⟨_,rfl⟩;have hadd9: ∀W,(Op.stringOp .add S ⟨#[10]⟩).run Tryz.prog W= .ok (.string R) W:=fun W=>by rw[hR];exact run_string_add_sum W _ _ (by show S.size+1≤9223372036854775807;omega)
  have HR:Hid (R=lineB k ByteArray.empty):=by show R=_;refine arr_mk _ _ ?_;unfold lineL;rw[←HS.out,foldT_short (by rw[kt.size_len];exact h76),hR,dt_app]
  clear hR;go_wp2_with fail;go_ret;exact⟨by rw[HR.out];rfl,Below.refl _ _⟩
 ·have h76I: ¬ (S.size:Int)≤76:=by omega
  have h76J:(76:Int)≤(S.size:Int):=by omega
  obtain⟨U,hU⟩: ∃U,U=S.extract 0 76++(⟨#[10]⟩:ByteArray):=⟨_,rfl⟩;have hUs:U.size=77:=by rw[←kt.size_len,hU,dt_app,head_dt,List.length_append,List.length_take,kt.size_len];show min 76 S.size+1=77;omega
  have hadd9: ∀W,(Op.stringOp .add (S.extract 0 76) ⟨#[10]⟩).run Tryz.prog W= .ok (.string U) W:=fun W=>by rw[hU];exact run_string_add_sum W _ _ (by rw[←ByteArray.size_append,←hU,hUs];decide)
  have HU:Hid (U.data.toList=S.data.toList.take 76++[10]):=by show _=_;rw[hU,dt_app,head_dt]
  clear hU;have HX:=Lib.hid (fun W=>wrap_any (S.extract 76 S.size) W (by rw[rest_sz];omega));have HW1:=Lib.hid (writeString_k w.heap.size w.heap.size [] U (w.alloc (.cells #[.pointer none,.slice none 0 0] 133)) (bld.fresh w) (by rw[hUs];decide) (by simp));have HBW:Hid (Below w.heap.size w w):=Below.refl _ _;have hlt1:w.heap.size<(w.alloc (.cells #[.pointer none,.slice none 0 0] 133)).heap.size:=by simp
  have HBA:Hid (Below w.heap.size w (w.alloc (.cells #[.pointer none,.slice none 0 0] 133))):=(Below.refl _ _).alloc (Nat.le_refl _) _;go_wp2_with fail;refine HW1.out.mono ?_;rintro e w2 ⟨rfl,hI2,hB2,hK2⟩;have HI2:=Lib.hid hI2;have hlt2:w.heap.size<w2.heap.size:=Nat.lt_of_lt_of_le hlt1 hB2.size;have HB2:=Lib.hid (HBA.out.trans hB2);clear hI2 hB2 hK2 HW1 HBA;go_wp2_with fail;refine(HX.out w2).mono ?_;rintro e w3 ⟨v3,ts,rfl,hO3,hB3,hT3⟩;obtain⟨ao3,m3,cap3,rfl,hm3⟩:=dnw.ownT_form hO3;obtain rfl:m3=ts.length:=hm3.out;have HO3:=Lib.hid hO3;have HT3:=Lib.hid hT3;have HI3:=Lib.hid (tupw.is_below HI2.out hB3);have HB3:=Lib.hid (HB2.out.trans (hB3.mono (Nat.le_of_lt hlt2)));obtain⟨B,hB⟩: ∃B,Hid (B=w.heap.size):=⟨_,rfl⟩;have hsz0:w.heap.size≤B:=by rw[hB.out];exact HBW.out.size
  rw[←hB.out]at HI3 HB3 hlt2;have hszB:B≤w3.heap.size:=Nat.le_trans (Nat.le_of_lt hlt2) hB3.size;have HBW2:Hid (Below w.heap.size w w3):=HBW.out.trans (HB3.out.mono hsz0);have hts:ts.length≤3000:=by have h1:=(cut75_len _ (S.extract 76 S.size).data.toList (Nat.le_refl _)).1;rw[←hT3,List.length_map,kt.size_len,rest_sz]at h1;omega
  have HP:Hid (∀p∈ts,p.size≤75):=by intro p hp;have h2:=(cut75_len _ (S.extract 76 S.size).data.toList (Nat.le_refl _)).2 p.data.toList (by rw[←hT3];exact List.mem_map_of_mem hp);rwa[kt.size_len]at h2
  clear hO3 hT3 hB3 HX HI2 HB2 HBW;rw[←hB.out];go_wp2_with fail;go_loopw [8,44] (fun _ iv wr=> ∃k:Nat,k≤ts.length∧iv= .int .i64 (k:Int)∧Hid (Is B B (U.data.toList++cont ((ts.map fun x=>x.data.toList).take k)) wr)∧Hid (Below B w3 wr)∧Hid (Lib.OthersKept 5 (some B) w3 wr)) (fun _ iv _=>ts.length- (intOf iv).toNat);case atStart=>exact⟨0,Nat.zero_le _,rfl,by show Is _ _ _ _;simpa[cont]using HI3.out,Below.refl _ _,Lib.OthersKept.refl _ _ _⟩
  case round=>
   obtain⟨k,hk,rfl,hI,hBr,hK⟩:=hrel;have hszr:=hBr.out.size;by_cases hlt:k<ts.length
   ·have hltI:(k:Int)<(ts.length:Int):=(by omega);obtain⟨q,o,hao,hc⟩:=strs_kept HO3.out hK.out hlt2 k hlt;subst hao;have HCT:=cont_take (ts.map fun x=>x.data.toList) k (by rw[List.length_map];exact hlt);rw[List.getElem_map]at HCT;have hps:=HP.out ts[k] (List.getElem_mem hlt);generalize ts[k]=p at hc HCT hps;have hlen:(U.data.toList++cont ((ts.map fun x=>x.data.toList).take k)).length+(p.size+2)≤140737488355328:=(by have h1:=cont_len _ HP.out k;rw[List.length_append,kt.size_len];omega);obtain⟨T1,hT1⟩: ∃T1,T1=(⟨#[32]⟩:ByteArray)++p:=⟨_,rfl⟩;obtain⟨T2,hT2⟩: ∃T2,T2=T1++(⟨#[10]⟩:ByteArray):=⟨_,rfl⟩;have hT1s:T1.size=p.size+1:=(by rw[hT1,ByteArray.size_append,Nat.add_comm];rfl);have hT2s:T2.size=p.size+2:=(by rw[hT2,ByteArray.size_append,hT1s];rfl);have HT2:Hid (T2.data.toList=32::(p.data.toList++[10])):=(by show _=_;rw[hT2,dt_app,hT1,dt_app];rfl);have haddA: ∀W,(Op.stringOp .add ⟨#[32]⟩ p).run Tryz.prog W= .ok (.string T1) W:=fun W=>by rw[hT1];exact run_string_add_sum W _ _ (by show 1+p.size≤9223372036854775807;omega)
    have haddB: ∀W,(Op.stringOp .add T1 ⟨#[10]⟩).run Tryz.prog W= .ok (.string T2) W:=fun W=>by rw[hT2];exact run_string_add_sum W _ _ (by show T1.size+1≤9223372036854775807;omega)
    have HWk:=Lib.hid (writeString_k B B _ T2 wr hI.out (by rw[hT2s];exact hlen) (by omega));have HCT:=Lib.hid HCT;clear hT1 hT2 hT1s hT2s hlen;go_wp2_with fail;refine HWk.out.mono ?_;rintro e w4 ⟨rfl,hI4,hB4,hK4⟩;go_wp2_with fail;go_roundw;case rel=>
     refine⟨k+1,by omega,by go_num,?_,hBr.out.trans hB4,hK.out.trans hK4⟩;show Is _ _ _ _;rw[HCT.out,←HT2.out,←List.append_assoc];exact hI4
    case measure=>simp[intOf];omega
   ·obtain rfl:k=ts.length:=(by omega);have hI5:=hI.out;rw[List.take_of_length_le (by rw[List.length_map];exact Nat.le_refl _)]at hI5;have HX:=Lib.hid (Tryz.Builder_String_any B B _ wr hI5 (by omega));go_wp2_with fail;refine HX.out.mono ?_;rintro e w5 ⟨rfl,hB5⟩;go_wp2_with fail;go_ret;refine⟨?_,HBW2.out.trans ((hBr.out.trans hB5).mono hsz0)⟩;unfold lineB lineL;rw[←HS.out,foldT_long,HU.out,HT3.out,rest_dt];rfl
theorem line_plain (k v:ByteArray)(w:World)(hk:k.size≤100)(hv:v.size≤1200)(h0: ¬v.size=0)(hp:plainOK v.data.toList=true∧v.data.toList.getLast?≠some 32):Calls Tryz.prog 102 #[.string k,.string v] w (LineE k v w):=by
 have hne:v.toList.isEmpty=false:=by
  rw[Lib.toList_data];cases h:v.data.toList with
  | nil=>exact absurd (by rw[←kt.size_len,h];rfl) h0
  | cons a l=>rfl
 obtain⟨T,hT⟩: ∃T,T=k++(⟨#[58]⟩:ByteArray):=⟨_,rfl⟩;have hTs:T.size=k.size+1:=by rw[hT,ByteArray.size_append];rfl
 have HT:Hid (T.data.toList=k.data.toList++[58]):=by show _=_;rw[hT,dt_app]
 have hadd1: ∀W,(Op.stringOp .add k ⟨#[58]⟩).run Tryz.prog W= .ok (.string T) W:=fun W=>by rw[hT];exact run_string_add_sum W _ _ (by show k.size+1≤9223372036854775807;omega)
 clear hT;obtain⟨Y,hY⟩: ∃Y,Y=(⟨#[32]⟩:ByteArray)++v:=⟨_,rfl⟩;have hYs:Y.size=v.size+1:=by rw[hY,ByteArray.size_append,Nat.add_comm];rfl
 have hadd2: ∀W,(Op.stringOp .add ⟨#[32]⟩ v).run Tryz.prog W= .ok (.string Y) W:=fun W=>by rw[hY];exact run_string_add_sum W _ _ (by show 1+v.size≤9223372036854775807;omega)
 obtain⟨S,hS⟩: ∃S,S=T++Y:=⟨_,rfl⟩;have hSs:S.size≤3000:=by rw[hS,ByteArray.size_append];omega
 have hadd3: ∀W,(Op.stringOp .add T Y).run Tryz.prog W= .ok (.string S) W:=fun W=>by rw[hS];exact run_string_add_sum W _ _ (by omega)
 have HS:Hid (S.data.toList=body k.data.toList v.data.toList):=by show _=_;rw[hS,dt_app,HT.out,hY,dt_app,body_mid _ _ (nonempty v h0) hp,List.append_assoc];rfl
 have HPL:Hid (Calls Tryz.prog 168 #[.string v] w fun e w'=>e= .returned (.bool true)∧w=w'):=by have:=ldw.plain_any v w (by omega);rw[hp.1]at this;exact this
 have HSF:Hid (Calls Tryz.prog 169 #[.string v,.string ⟨#[32]⟩] w fun e w'=>e= .returned (.bool false)∧w'=w):=by have:=Tryz.strings_HasSuffix v ⟨#[32]⟩ w (by omega);rw[show Lib.hasSuffix v.data.toList (⟨#[32]⟩:ByteArray).data.toList=false from by rw[show(⟨#[32]⟩:ByteArray).data.toList=[32]from rfl,suffix_sp];exact decide_eq_false hp.2]at this;exact this
 clear HT hTs hS hY hYs hp h0;go_enter Tryz.func102,Tryz.ntmps102;by_cases h76:S.size≤76
 ·have h76I:(S.size:Int)≤76:=by omega
  go_wp2_with fail;refine HPL.out.mono ?_;rintro e wa ⟨rfl,hw⟩;subst hw;go_wp2_with fail;refine HSF.out.mono ?_;rintro e wb ⟨rfl,hw⟩;have hw:=hw.symm;subst hw;obtain⟨R,hR⟩: ∃R,R=S++(⟨#[10]⟩:ByteArray):=⟨_,rfl⟩;have hadd9: ∀W,(Op.stringOp .add S ⟨#[10]⟩).run Tryz.prog W= .ok (.string R) W:=fun W=>by rw[hR];exact run_string_add_sum W _ _ (by show S.size+1≤9223372036854775807;omega)
  have HR:Hid (R=lineB k v):=by show R=_;refine arr_mk _ _ ?_;unfold lineL;rw[←HS.out,foldT_short (by rw[kt.size_len];exact h76),hR,dt_app]
  clear hR;go_wp2_with fail;go_ret;exact⟨by rw[HR.out];rfl,Below.refl _ _⟩
 ·have h76I: ¬ (S.size:Int)≤76:=by omega
  have h76J:(76:Int)≤(S.size:Int):=by omega
  go_wp2_with fail;refine HPL.out.mono ?_;rintro e wa ⟨rfl,hw⟩;subst hw;go_wp2_with fail;refine HSF.out.mono ?_;rintro e wb ⟨rfl,hw⟩;have hw:=hw.symm;subst hw;obtain⟨U,hU⟩: ∃U,U=S.extract 0 76++(⟨#[10]⟩:ByteArray):=⟨_,rfl⟩;have hUs:U.size=77:=by rw[←kt.size_len,hU,dt_app,head_dt,List.length_append,List.length_take,kt.size_len];show min 76 S.size+1=77;omega
  have hadd9: ∀W,(Op.stringOp .add (S.extract 0 76) ⟨#[10]⟩).run Tryz.prog W= .ok (.string U) W:=fun W=>by rw[hU];exact run_string_add_sum W _ _ (by rw[←ByteArray.size_append,←hU,hUs];decide)
  have HU:Hid (U.data.toList=S.data.toList.take 76++[10]):=by show _=_;rw[hU,dt_app,head_dt]
  clear hU;have HX:=Lib.hid (fun W=>wrap_any (S.extract 76 S.size) W (by rw[rest_sz];omega));have HW1:=Lib.hid (writeString_k w.heap.size w.heap.size [] U (w.alloc (.cells #[.pointer none,.slice none 0 0] 133)) (bld.fresh w) (by rw[hUs];decide) (by simp));have HBW:Hid (Below w.heap.size w w):=Below.refl _ _;have hlt1:w.heap.size<(w.alloc (.cells #[.pointer none,.slice none 0 0] 133)).heap.size:=by simp
  have HBA:Hid (Below w.heap.size w (w.alloc (.cells #[.pointer none,.slice none 0 0] 133))):=(Below.refl _ _).alloc (Nat.le_refl _) _;go_wp2_with fail;refine HW1.out.mono ?_;rintro e w2 ⟨rfl,hI2,hB2,hK2⟩;have HI2:=Lib.hid hI2;have hlt2:w.heap.size<w2.heap.size:=Nat.lt_of_lt_of_le hlt1 hB2.size;have HB2:=Lib.hid (HBA.out.trans hB2);clear hI2 hB2 hK2 HW1 HBA;go_wp2_with fail;refine(HX.out w2).mono ?_;rintro e w3 ⟨v3,ts,rfl,hO3,hB3,hT3⟩;obtain⟨ao3,m3,cap3,rfl,hm3⟩:=dnw.ownT_form hO3;obtain rfl:m3=ts.length:=hm3.out;have HO3:=Lib.hid hO3;have HT3:=Lib.hid hT3;have HI3:=Lib.hid (tupw.is_below HI2.out hB3);have HB3:=Lib.hid (HB2.out.trans (hB3.mono (Nat.le_of_lt hlt2)));obtain⟨B,hB⟩: ∃B,Hid (B=w.heap.size):=⟨_,rfl⟩;have hsz0:w.heap.size≤B:=by rw[hB.out];exact HBW.out.size
  rw[←hB.out]at HI3 HB3 hlt2;have hszB:B≤w3.heap.size:=Nat.le_trans (Nat.le_of_lt hlt2) hB3.size;have HBW2:Hid (Below w.heap.size w w3):=HBW.out.trans (HB3.out.mono hsz0);have hts:ts.length≤3000:=by have h1:=(cut75_len _ (S.extract 76 S.size).data.toList (Nat.le_refl _)).1;rw[←hT3,List.length_map,kt.size_len,rest_sz]at h1;omega
  have HP:Hid (∀p∈ts,p.size≤75):=by intro p hp;have h2:=(cut75_len _ (S.extract 76 S.size).data.toList (Nat.le_refl _)).2 p.data.toList (by rw[←hT3];exact List.mem_map_of_mem hp);rwa[kt.size_len]at h2
  clear hO3 hT3 hB3 HX HI2 HB2 HBW;rw[←hB.out];go_wp2_with fail;go_loopw [8,44] (fun _ iv wr=> ∃k:Nat,k≤ts.length∧iv= .int .i64 (k:Int)∧Hid (Is B B (U.data.toList++cont ((ts.map fun x=>x.data.toList).take k)) wr)∧Hid (Below B w3 wr)∧Hid (Lib.OthersKept 5 (some B) w3 wr)) (fun _ iv _=>ts.length- (intOf iv).toNat);case atStart=>exact⟨0,Nat.zero_le _,rfl,by show Is _ _ _ _;simpa[cont]using HI3.out,Below.refl _ _,Lib.OthersKept.refl _ _ _⟩
  case round=>
   obtain⟨k,hk,rfl,hI,hBr,hK⟩:=hrel;have hszr:=hBr.out.size;by_cases hlt:k<ts.length
   ·have hltI:(k:Int)<(ts.length:Int):=(by omega);obtain⟨q,o,hao,hc⟩:=strs_kept HO3.out hK.out hlt2 k hlt;subst hao;have HCT:=cont_take (ts.map fun x=>x.data.toList) k (by rw[List.length_map];exact hlt);rw[List.getElem_map]at HCT;have hps:=HP.out ts[k] (List.getElem_mem hlt);generalize ts[k]=p at hc HCT hps;have hlen:(U.data.toList++cont ((ts.map fun x=>x.data.toList).take k)).length+(p.size+2)≤140737488355328:=(by have h1:=cont_len _ HP.out k;rw[List.length_append,kt.size_len];omega);obtain⟨T1,hT1⟩: ∃T1,T1=(⟨#[32]⟩:ByteArray)++p:=⟨_,rfl⟩;obtain⟨T2,hT2⟩: ∃T2,T2=T1++(⟨#[10]⟩:ByteArray):=⟨_,rfl⟩;have hT1s:T1.size=p.size+1:=(by rw[hT1,ByteArray.size_append,Nat.add_comm];rfl);have hT2s:T2.size=p.size+2:=(by rw[hT2,ByteArray.size_append,hT1s];rfl);have HT2:Hid (T2.data.toList=32::(p.data.toList++[10])):=(by show _=_;rw[hT2,dt_app,hT1,dt_app];rfl);have haddA: ∀W,(Op.stringOp .add ⟨#[32]⟩ p).run Tryz.prog W= .ok (.string T1) W:=fun W=>by rw[hT1];exact run_string_add_sum W _ _ (by show 1+p.size≤9223372036854775807;omega)
    have haddB: ∀W,(Op.stringOp .add T1 ⟨#[10]⟩).run Tryz.prog W= .ok (.string T2) W:=fun W=>by rw[hT2];exact run_string_add_sum W _ _ (by show T1.size+1≤9223372036854775807;omega)
    have HWk:=Lib.hid (writeString_k B B _ T2 wr hI.out (by rw[hT2s];exact hlen) (by omega));have HCT:=Lib.hid HCT;clear hT1 hT2 hT1s hT2s hlen;go_wp2_with fail;refine HWk.out.mono ?_;rintro e w4 ⟨rfl,hI4,hB4,hK4⟩;go_wp2_with fail;go_roundw;case rel=>
     refine⟨k+1,by omega,by go_num,?_,hBr.out.trans hB4,hK.out.trans hK4⟩;show Is _ _ _ _;rw[HCT.out,←HT2.out,←List.append_assoc];exact hI4
    case measure=>simp[intOf];omega
   ·obtain rfl:k=ts.length:=(by omega);have hI5:=hI.out;rw[List.take_of_length_le (by rw[List.length_map];exact Nat.le_refl _)]at hI5;have HX:=Lib.hid (Tryz.Builder_String_any B B _ wr hI5 (by omega));go_wp2_with fail;refine HX.out.mono ?_;rintro e w5 ⟨rfl,hB5⟩;go_wp2_with fail;go_ret;refine⟨?_,HBW2.out.trans ((hBr.out.trans hB5).mono hsz0)⟩;unfold lineB lineL;rw[←HS.out,foldT_long,HU.out,HT3.out,rest_dt];rfl
theorem line_code (k v:ByteArray)(w:World)(hk:k.size≤100)(hv:v.size≤1200)(h0: ¬v.size=0)(hp:plainOK v.data.toList=false):Calls Tryz.prog 102 #[.string k,.string v] w (LineE k v w):=by
 have hne:v.toList.isEmpty=false:=by
  rw[Lib.toList_data];cases h:v.data.toList with
  | nil=>exact absurd (by rw[←kt.size_len,h];rfl) h0
  | cons a l=>rfl
 obtain⟨T,hT⟩: ∃T,T=k++(⟨#[58]⟩:ByteArray):=⟨_,rfl⟩;have hTs:T.size=k.size+1:=by rw[hT,ByteArray.size_append];rfl
 have HT:Hid (T.data.toList=k.data.toList++[58]):=by show _=_;rw[hT,dt_app]
 have hadd1: ∀W,(Op.stringOp .add k ⟨#[58]⟩).run Tryz.prog W= .ok (.string T) W:=fun W=>by rw[hT];exact run_string_add_sum W _ _ (by show k.size+1≤9223372036854775807;omega)
 clear hT;obtain⟨X,hX⟩: ∃X,X=(⟨(b64p.enc v.data.toList).toArray⟩:ByteArray):=⟨_,rfl⟩;have hXs:X.size≤2402:=by rw[hX,←kt.size_len];exact enc_size v hv
 obtain⟨Y,hY⟩: ∃Y,Y=(⟨#[58,32]⟩:ByteArray)++X:=⟨_,rfl⟩;have hYs:Y.size=X.size+2:=by rw[hY,ByteArray.size_append,Nat.add_comm];rfl
 have hadd2: ∀W,(Op.stringOp .add ⟨#[58,32]⟩ X).run Tryz.prog W= .ok (.string Y) W:=fun W=>by rw[hY];exact run_string_add_sum W _ _ (by show 2+X.size≤9223372036854775807;omega)
 obtain⟨S,hS⟩: ∃S,S=T++Y:=⟨_,rfl⟩;have hSs:S.size≤3000:=by rw[hS,ByteArray.size_append];omega
 have hadd3: ∀W,(Op.stringOp .add T Y).run Tryz.prog W= .ok (.string S) W:=fun W=>by rw[hS];exact run_string_add_sum W _ _ (by omega)
 have HS:Hid (S.data.toList=body k.data.toList v.data.toList):=by show _=_;rw[hS,dt_app,HT.out,hY,dt_app,body_enc _ _ (nonempty v h0) (fun h=>by rw[hp]at h;exact absurd h.1 (by decide)),List.append_assoc,hX];rfl
 have HEN:Hid (∀W,Calls Tryz.prog 170 #[.string v] W fun e w'=>e= .returned (.string X)∧Below W.heap.size W w'):=by intro W;rw[hX];exact encode_any v W (by omega)
 have HPL:Hid (Calls Tryz.prog 168 #[.string v] w fun e w'=>e= .returned (.bool false)∧w=w'):=by have:=ldw.plain_any v w (by omega);rw[hp]at this;exact this
 clear HT hTs hS hY hYs hp h0 hX hXs;go_enter Tryz.func102,Tryz.ntmps102;by_cases h76:S.size≤76
 ·have h76I:(S.size:Int)≤76:=by omega
  go_wp2_with fail;refine HPL.out.mono ?_;rintro e wa ⟨rfl,hw⟩;subst hw;go_wp2_with fail;refine(HEN.out _).mono ?_;rintro e wc ⟨rfl,hBc⟩;obtain⟨R,hR⟩: ∃R,R=S++(⟨#[10]⟩:ByteArray):=⟨_,rfl⟩;have hadd9: ∀W,(Op.stringOp .add S ⟨#[10]⟩).run Tryz.prog W= .ok (.string R) W:=fun W=>by rw[hR];exact run_string_add_sum W _ _ (by show S.size+1≤9223372036854775807;omega)
  have HR:Hid (R=lineB k v):=by show R=_;refine arr_mk _ _ ?_;unfold lineL;rw[←HS.out,foldT_short (by rw[kt.size_len];exact h76),hR,dt_app]
  clear hR;go_wp2_with fail;go_ret;exact⟨by rw[HR.out];rfl,hBc⟩
 ·have h76I: ¬ (S.size:Int)≤76:=by omega
  have h76J:(76:Int)≤(S.size:Int):=by omega
  go_wp2_with fail;refine HPL.out.mono ?_;rintro e wa ⟨rfl,hw⟩;subst hw;go_wp2_with fail;refine(HEN.out _).mono ?_;rintro e wc ⟨rfl,hBc⟩;obtain⟨U,hU⟩: ∃U,U=S.extract 0 76++(⟨#[10]⟩:ByteArray):=⟨_,rfl⟩;have hUs:U.size=77:=by rw[←kt.size_len,hU,dt_app,head_dt,List.length_append,List.length_take,kt.size_len];show min 76 S.size+1=77;omega
  have hadd9: ∀W,(Op.stringOp .add (S.extract 0 76) ⟨#[10]⟩).run Tryz.prog W= .ok (.string U) W:=fun W=>by rw[hU];exact run_string_add_sum W _ _ (by rw[←ByteArray.size_append,←hU,hUs];decide)
  have HU:Hid (U.data.toList=S.data.toList.take 76++[10]):=by show _=_;rw[hU,dt_app,head_dt]
  clear hU;have HX:=Lib.hid (fun W=>wrap_any (S.extract 76 S.size) W (by rw[rest_sz];omega));have HW1:=Lib.hid (writeString_k wc.heap.size wc.heap.size [] U (wc.alloc (.cells #[.pointer none,.slice none 0 0] 133)) (bld.fresh wc) (by rw[hUs];decide) (by simp));have HBW:Hid (Below w.heap.size w wc):=hBc;have hlt1:wc.heap.size<(wc.alloc (.cells #[.pointer none,.slice none 0 0] 133)).heap.size:=by simp
  have HBA:Hid (Below wc.heap.size wc (wc.alloc (.cells #[.pointer none,.slice none 0 0] 133))):=(Below.refl _ _).alloc (Nat.le_refl _) _;go_wp2_with fail;refine HW1.out.mono ?_;rintro e w2 ⟨rfl,hI2,hB2,hK2⟩;have HI2:=Lib.hid hI2;have hlt2:wc.heap.size<w2.heap.size:=Nat.lt_of_lt_of_le hlt1 hB2.size;have HB2:=Lib.hid (HBA.out.trans hB2);clear hI2 hB2 hK2 HW1 HBA;go_wp2_with fail;refine(HX.out w2).mono ?_;rintro e w3 ⟨v3,ts,rfl,hO3,hB3,hT3⟩;obtain⟨ao3,m3,cap3,rfl,hm3⟩:=dnw.ownT_form hO3;obtain rfl:m3=ts.length:=hm3.out;have HO3:=Lib.hid hO3;have HT3:=Lib.hid hT3;have HI3:=Lib.hid (tupw.is_below HI2.out hB3);have HB3:=Lib.hid (HB2.out.trans (hB3.mono (Nat.le_of_lt hlt2)));obtain⟨B,hB⟩: ∃B,Hid (B=wc.heap.size):=⟨_,rfl⟩;have hsz0:w.heap.size≤B:=by rw[hB.out];exact HBW.out.size
  rw[←hB.out]at HI3 HB3 hlt2;have hszB:B≤w3.heap.size:=Nat.le_trans (Nat.le_of_lt hlt2) hB3.size;have HBW2:Hid (Below w.heap.size w w3):=HBW.out.trans (HB3.out.mono hsz0);have hts:ts.length≤3000:=by have h1:=(cut75_len _ (S.extract 76 S.size).data.toList (Nat.le_refl _)).1;rw[←hT3,List.length_map,kt.size_len,rest_sz]at h1;omega
  have HP:Hid (∀p∈ts,p.size≤75):=by intro p hp;have h2:=(cut75_len _ (S.extract 76 S.size).data.toList (Nat.le_refl _)).2 p.data.toList (by rw[←hT3];exact List.mem_map_of_mem hp);rwa[kt.size_len]at h2
  clear hO3 hT3 hB3 HX HI2 HB2 HBW;rw[←hB.out];go_wp2_with fail;go_loopw [8,44] (fun _ iv wr=> ∃k:Nat,k≤ts.length∧iv= .int .i64 (k:Int)∧Hid (Is B B (U.data.toList++cont ((ts.map fun x=>x.data.toList).take k)) wr)∧Hid (Below B w3 wr)∧Hid (Lib.OthersKept 5 (some B) w3 wr)) (fun _ iv _=>ts.length- (intOf iv).toNat);case atStart=>exact⟨0,Nat.zero_le _,rfl,by show Is _ _ _ _;simpa[cont]using HI3.out,Below.refl _ _,Lib.OthersKept.refl _ _ _⟩
  case round=>
   obtain⟨k,hk,rfl,hI,hBr,hK⟩:=hrel;have hszr:=hBr.out.size;by_cases hlt:k<ts.length
   ·have hltI:(k:Int)<(ts.length:Int):=(by omega);obtain⟨q,o,hao,hc⟩:=strs_kept HO3.out hK.out hlt2 k hlt;subst hao;have HCT:=cont_take (ts.map fun x=>x.data.toList) k (by rw[List.length_map];exact hlt);rw[List.getElem_map]at HCT;have hps:=HP.out ts[k] (List.getElem_mem hlt);generalize ts[k]=p at hc HCT hps;have hlen:(U.data.toList++cont ((ts.map fun x=>x.data.toList).take k)).length+(p.size+2)≤140737488355328:=(by have h1:=cont_len _ HP.out k;rw[List.length_append,kt.size_len];omega);obtain⟨T1,hT1⟩: ∃T1,T1=(⟨#[32]⟩:ByteArray)++p:=⟨_,rfl⟩;obtain⟨T2,hT2⟩: ∃T2,T2=T1++(⟨#[10]⟩:ByteArray):=⟨_,rfl⟩;have hT1s:T1.size=p.size+1:=(by rw[hT1,ByteArray.size_append,Nat.add_comm];rfl);have hT2s:T2.size=p.size+2:=(by rw[hT2,ByteArray.size_append,hT1s];rfl);have HT2:Hid (T2.data.toList=32::(p.data.toList++[10])):=(by show _=_;rw[hT2,dt_app,hT1,dt_app];rfl);have haddA: ∀W,(Op.stringOp .add ⟨#[32]⟩ p).run Tryz.prog W= .ok (.string T1) W:=fun W=>by rw[hT1];exact run_string_add_sum W _ _ (by show 1+p.size≤9223372036854775807;omega)
    have haddB: ∀W,(Op.stringOp .add T1 ⟨#[10]⟩).run Tryz.prog W= .ok (.string T2) W:=fun W=>by rw[hT2];exact run_string_add_sum W _ _ (by show T1.size+1≤9223372036854775807;omega)
    have HWk:=Lib.hid (writeString_k B B _ T2 wr hI.out (by rw[hT2s];exact hlen) (by omega));have HCT:=Lib.hid HCT;clear hT1 hT2 hT1s hT2s hlen;go_wp2_with fail;refine HWk.out.mono ?_;rintro e w4 ⟨rfl,hI4,hB4,hK4⟩;go_wp2_with fail;go_roundw;case rel=>
     refine⟨k+1,by omega,by go_num,?_,hBr.out.trans hB4,hK.out.trans hK4⟩;show Is _ _ _ _;rw[HCT.out,←HT2.out,←List.append_assoc];exact hI4
    case measure=>simp[intOf];omega
   ·obtain rfl:k=ts.length:=(by omega);have hI5:=hI.out;rw[List.take_of_length_le (by rw[List.length_map];exact Nat.le_refl _)]at hI5;have HX:=Lib.hid (Tryz.Builder_String_any B B _ wr hI5 (by omega));go_wp2_with fail;refine HX.out.mono ?_;rintro e w5 ⟨rfl,hB5⟩;go_wp2_with fail;go_ret;refine⟨?_,HBW2.out.trans ((hBr.out.trans hB5).mono hsz0)⟩;unfold lineB lineL;rw[←HS.out,foldT_long,HU.out,HT3.out,rest_dt];rfl
theorem line_sp (k v:ByteArray)(w:World)(hk:k.size≤100)(hv:v.size≤1200)(h0: ¬v.size=0)(hp:plainOK v.data.toList=true∧v.data.toList.getLast?=some 32):Calls Tryz.prog 102 #[.string k,.string v] w (LineE k v w):=by
 have hne:v.toList.isEmpty=false:=by
  rw[Lib.toList_data];cases h:v.data.toList with
  | nil=>exact absurd (by rw[←kt.size_len,h];rfl) h0
  | cons a l=>rfl
 obtain⟨T,hT⟩: ∃T,T=k++(⟨#[58]⟩:ByteArray):=⟨_,rfl⟩;have hTs:T.size=k.size+1:=by rw[hT,ByteArray.size_append];rfl
 have HT:Hid (T.data.toList=k.data.toList++[58]):=by show _=_;rw[hT,dt_app]
 have hadd1: ∀W,(Op.stringOp .add k ⟨#[58]⟩).run Tryz.prog W= .ok (.string T) W:=fun W=>by rw[hT];exact run_string_add_sum W _ _ (by show k.size+1≤9223372036854775807;omega)
 clear hT;obtain⟨X,hX⟩: ∃X,X=(⟨(b64p.enc v.data.toList).toArray⟩:ByteArray):=⟨_,rfl⟩;have hXs:X.size≤2402:=by rw[hX,←kt.size_len];exact enc_size v hv
 obtain⟨Y,hY⟩: ∃Y,Y=(⟨#[58,32]⟩:ByteArray)++X:=⟨_,rfl⟩;have hYs:Y.size=X.size+2:=by rw[hY,ByteArray.size_append,Nat.add_comm];rfl
 have hadd2: ∀W,(Op.stringOp .add ⟨#[58,32]⟩ X).run Tryz.prog W= .ok (.string Y) W:=fun W=>by rw[hY];exact run_string_add_sum W _ _ (by show 2+X.size≤9223372036854775807;omega)
 obtain⟨S,hS⟩: ∃S,S=T++Y:=⟨_,rfl⟩;have hSs:S.size≤3000:=by rw[hS,ByteArray.size_append];omega
 have hadd3: ∀W,(Op.stringOp .add T Y).run Tryz.prog W= .ok (.string S) W:=fun W=>by rw[hS];exact run_string_add_sum W _ _ (by omega)
 have HS:Hid (S.data.toList=body k.data.toList v.data.toList):=by show _=_;rw[hS,dt_app,HT.out,hY,dt_app,body_enc _ _ (nonempty v h0) (fun h=>h.2 hp.2),List.append_assoc,hX];rfl
 have HEN:Hid (∀W,Calls Tryz.prog 170 #[.string v] W fun e w'=>e= .returned (.string X)∧Below W.heap.size W w'):=by intro W;rw[hX];exact encode_any v W (by omega)
 have HPL:Hid (Calls Tryz.prog 168 #[.string v] w fun e w'=>e= .returned (.bool true)∧w=w'):=by have:=ldw.plain_any v w (by omega);rw[hp.1]at this;exact this
 have HSF:Hid (Calls Tryz.prog 169 #[.string v,.string ⟨#[32]⟩] w fun e w'=>e= .returned (.bool true)∧w'=w):=by have:=Tryz.strings_HasSuffix v ⟨#[32]⟩ w (by omega);rw[show Lib.hasSuffix v.data.toList (⟨#[32]⟩:ByteArray).data.toList=true from by rw[show(⟨#[32]⟩:ByteArray).data.toList=[32]from rfl,suffix_sp];exact decide_eq_true hp.2]at this;exact this
 clear HT hTs hS hY hYs hp h0 hX hXs;go_enter Tryz.func102,Tryz.ntmps102;by_cases h76:S.size≤76
 ·have h76I:(S.size:Int)≤76:=by omega
  go_wp2_with fail;refine HPL.out.mono ?_;rintro e wa ⟨rfl,hw⟩;subst hw;go_wp2_with fail;refine HSF.out.mono ?_;rintro e wb ⟨rfl,hw⟩;have hw:=hw.symm;subst hw;go_wp2_with fail;refine(HEN.out _).mono ?_;rintro e wc ⟨rfl,hBc⟩;obtain⟨R,hR⟩: ∃R,R=S++(⟨#[10]⟩:ByteArray):=⟨_,rfl⟩;have hadd9: ∀W,(Op.stringOp .add S ⟨#[10]⟩).run Tryz.prog W= .ok (.string R) W:=fun W=>by rw[hR];exact run_string_add_sum W _ _ (by show S.size+1≤9223372036854775807;omega)
  have HR:Hid (R=lineB k v):=by show R=_;refine arr_mk _ _ ?_;unfold lineL;rw[←HS.out,foldT_short (by rw[kt.size_len];exact h76),hR,dt_app]
  clear hR;go_wp2_with fail;go_ret;exact⟨by rw[HR.out];rfl,hBc⟩
 ·have h76I: ¬ (S.size:Int)≤76:=by omega
  have h76J:(76:Int)≤(S.size:Int):=by omega
  go_wp2_with fail;refine HPL.out.mono ?_;rintro e wa ⟨rfl,hw⟩;subst hw;go_wp2_with fail;refine HSF.out.mono ?_;rintro e wb ⟨rfl,hw⟩;have hw:=hw.symm;subst hw;go_wp2_with fail;refine(HEN.out _).mono ?_;rintro e wc ⟨rfl,hBc⟩;obtain⟨U,hU⟩: ∃U,U=S.extract 0 76++(⟨#[10]⟩:ByteArray):=⟨_,rfl⟩;have hUs:U.size=77:=by rw[←kt.size_len,hU,dt_app,head_dt,List.length_append,List.length_take,kt.size_len];show min 76 S.size+1=77;omega
  have hadd9: ∀W,(Op.stringOp .add (S.extract 0 76) ⟨#[10]⟩).run Tryz.prog W= .ok (.string U) W:=fun W=>by rw[hU];exact run_string_add_sum W _ _ (by rw[←ByteArray.size_append,←hU,hUs];decide)
  have HU:Hid (U.data.toList=S.data.toList.take 76++[10]):=by show _=_;rw[hU,dt_app,head_dt]
  clear hU;have HX:=Lib.hid (fun W=>wrap_any (S.extract 76 S.size) W (by rw[rest_sz];omega));have HW1:=Lib.hid (writeString_k wc.heap.size wc.heap.size [] U (wc.alloc (.cells #[.pointer none,.slice none 0 0] 133)) (bld.fresh wc) (by rw[hUs];decide) (by simp));have HBW:Hid (Below w.heap.size w wc):=hBc;have hlt1:wc.heap.size<(wc.alloc (.cells #[.pointer none,.slice none 0 0] 133)).heap.size:=by simp
  have HBA:Hid (Below wc.heap.size wc (wc.alloc (.cells #[.pointer none,.slice none 0 0] 133))):=(Below.refl _ _).alloc (Nat.le_refl _) _;go_wp2_with fail;refine HW1.out.mono ?_;rintro e w2 ⟨rfl,hI2,hB2,hK2⟩;have HI2:=Lib.hid hI2;have hlt2:wc.heap.size<w2.heap.size:=Nat.lt_of_lt_of_le hlt1 hB2.size;have HB2:=Lib.hid (HBA.out.trans hB2);clear hI2 hB2 hK2 HW1 HBA;go_wp2_with fail;refine(HX.out w2).mono ?_;rintro e w3 ⟨v3,ts,rfl,hO3,hB3,hT3⟩;obtain⟨ao3,m3,cap3,rfl,hm3⟩:=dnw.ownT_form hO3;obtain rfl:m3=ts.length:=hm3.out;have HO3:=Lib.hid hO3;have HT3:=Lib.hid hT3;have HI3:=Lib.hid (tupw.is_below HI2.out hB3);have HB3:=Lib.hid (HB2.out.trans (hB3.mono (Nat.le_of_lt hlt2)));obtain⟨B,hB⟩: ∃B,Hid (B=wc.heap.size):=⟨_,rfl⟩;have hsz0:w.heap.size≤B:=by rw[hB.out];exact HBW.out.size
  rw[←hB.out]at HI3 HB3 hlt2;have hszB:B≤w3.heap.size:=Nat.le_trans (Nat.le_of_lt hlt2) hB3.size;have HBW2:Hid (Below w.heap.size w w3):=HBW.out.trans (HB3.out.mono hsz0);have hts:ts.length≤3000:=by have h1:=(cut75_len _ (S.extract 76 S.size).data.toList (Nat.le_refl _)).1;rw[←hT3,List.length_map,kt.size_len,rest_sz]at h1;omega
  have HP:Hid (∀p∈ts,p.size≤75):=by intro p hp;have h2:=(cut75_len _ (S.extract 76 S.size).data.toList (Nat.le_refl _)).2 p.data.toList (by rw[←hT3];exact List.mem_map_of_mem hp);rwa[kt.size_len]at h2
  clear hO3 hT3 hB3 HX HI2 HB2 HBW;rw[←hB.out];go_wp2_with fail;go_loopw [8,44] (fun _ iv wr=> ∃k:Nat,k≤ts.length∧iv= .int .i64 (k:Int)∧Hid (Is B B (U.data.toList++cont ((ts.map fun x=>x.data.toList).take k)) wr)∧Hid (Below B w3 wr)∧Hid (Lib.OthersKept 5 (some B) w3 wr)) (fun _ iv _=>ts.length- (intOf iv).toNat);case atStart=>exact⟨0,Nat.zero_le _,rfl,by show Is _ _ _ _;simpa[cont]using HI3.out,Below.refl _ _,Lib.OthersKept.refl _ _ _⟩
  case round=>
   obtain⟨k,hk,rfl,hI,hBr,hK⟩:=hrel;have hszr:=hBr.out.size;by_cases hlt:k<ts.length
   ·have hltI:(k:Int)<(ts.length:Int):=(by omega);obtain⟨q,o,hao,hc⟩:=strs_kept HO3.out hK.out hlt2 k hlt;subst hao;have HCT:=cont_take (ts.map fun x=>x.data.toList) k (by rw[List.length_map];exact hlt);rw[List.getElem_map]at HCT;have hps:=HP.out ts[k] (List.getElem_mem hlt);generalize ts[k]=p at hc HCT hps;have hlen:(U.data.toList++cont ((ts.map fun x=>x.data.toList).take k)).length+(p.size+2)≤140737488355328:=(by have h1:=cont_len _ HP.out k;rw[List.length_append,kt.size_len];omega);obtain⟨T1,hT1⟩: ∃T1,T1=(⟨#[32]⟩:ByteArray)++p:=⟨_,rfl⟩;obtain⟨T2,hT2⟩: ∃T2,T2=T1++(⟨#[10]⟩:ByteArray):=⟨_,rfl⟩;have hT1s:T1.size=p.size+1:=(by rw[hT1,ByteArray.size_append,Nat.add_comm];rfl);have hT2s:T2.size=p.size+2:=(by rw[hT2,ByteArray.size_append,hT1s];rfl);have HT2:Hid (T2.data.toList=32::(p.data.toList++[10])):=(by show _=_;rw[hT2,dt_app,hT1,dt_app];rfl);have haddA: ∀W,(Op.stringOp .add ⟨#[32]⟩ p).run Tryz.prog W= .ok (.string T1) W:=fun W=>by rw[hT1];exact run_string_add_sum W _ _ (by show 1+p.size≤9223372036854775807;omega)
    have haddB: ∀W,(Op.stringOp .add T1 ⟨#[10]⟩).run Tryz.prog W= .ok (.string T2) W:=fun W=>by rw[hT2];exact run_string_add_sum W _ _ (by show T1.size+1≤9223372036854775807;omega)
    have HWk:=Lib.hid (writeString_k B B _ T2 wr hI.out (by rw[hT2s];exact hlen) (by omega));have HCT:=Lib.hid HCT;clear hT1 hT2 hT1s hT2s hlen;go_wp2_with fail;refine HWk.out.mono ?_;rintro e w4 ⟨rfl,hI4,hB4,hK4⟩;go_wp2_with fail;go_roundw;case rel=>
     refine⟨k+1,by omega,by go_num,?_,hBr.out.trans hB4,hK.out.trans hK4⟩;show Is _ _ _ _;rw[HCT.out,←HT2.out,←List.append_assoc];exact hI4
    case measure=>simp[intOf];omega
   ·obtain rfl:k=ts.length:=(by omega);have hI5:=hI.out;rw[List.take_of_length_le (by rw[List.length_map];exact Nat.le_refl _)]at hI5;have HX:=Lib.hid (Tryz.Builder_String_any B B _ wr hI5 (by omega));go_wp2_with fail;refine HX.out.mono ?_;rintro e w5 ⟨rfl,hB5⟩;go_wp2_with fail;go_ret;refine⟨?_,HBW2.out.trans ((hBr.out.trans hB5).mono hsz0)⟩;unfold lineB lineL;rw[←HS.out,foldT_long,HU.out,HT3.out,rest_dt];rfl
theorem line_any (k v:ByteArray)(w:World)(hk:k.size≤100)(hv:v.size≤1200):Calls Tryz.prog 102 #[.string k,.string v] w (LineE k v w):=by
 by_cases h0:v.size=0
 ·have hem:v=ByteArray.empty:=kt.str_eq (List.eq_nil_of_length_eq_zero (by rw[kt.size_len];exact h0));subst hem;exact line_nil k w hk
 ·cases hp:plainOK v.data.toList with
  | false=>exact line_code k v w hk hv h0 hp
  | true=>
   by_cases hl:v.data.toList.getLast?=some 32
   ·exact line_sp k v w hk hv h0 ⟨hp,hl⟩
   ·exact line_plain k v w hk hv h0 ⟨hp,hl⟩
end lbk
open Go.RowKit
namespace lbk
open bld ldp lbp lbw
open dnw (Av Avas avas_below)
theorem cont_length: ∀ps:List (List UInt8),(cont ps).length=ps.flatten.length+2*ps.length
 | []=>rfl
 | p::ps=>by have ih:=cont_length ps;unfold cont at ih ⊢;rw[List.flatMap_cons,List.length_append,ih];simp only[List.length_cons,List.length_append,List.flatten_cons,List.length_nil];omega
theorem body_len (k v:List UInt8):(body k v).length≤k.length+2*v.length+6:=by
 unfold body;have h:=(b64p.enc_length _ v (Nat.le_refl _)).1;rw[List.length_append,List.length_cons];split
 ·simp only[List.length_nil];omega
 ·split
  ·simp only[List.length_cons];omega
  ·simp only[List.length_cons];omega
theorem lineL_len (k v:List UInt8):(lineL k v).length≤3*(k.length+2*v.length+6)+80:=by
 unfold lineL;have hb:=body_len k v;generalize body k v=s at hb ⊢;rw[foldT_long,List.length_append,List.length_append,List.length_take,cont_length];have h1:=(cut75_len _ (s.drop 76) (Nat.le_refl _)).1;have h2:(cut75 (s.drop 76)).flatten.length=(s.drop 76).length:=by unfold cut75;rw[cutF_flat _ _ (Nat.le_refl _)]
 rw[h2];rw[List.length_drop]at h1 ⊢;simp only[List.length_cons,List.length_nil];omega
def linesL (ps:List Av):List UInt8:=ps.flatMap fun p=>lineL p.t.data.toList p.v.data.toList
theorem linesL_take {ps:List Av}{j:Nat}(hj:j<ps.length):linesL (ps.take (j+1))=linesL (ps.take j)++lineL ps[j].t.data.toList ps[j].v.data.toList:=by unfold linesL;rw[List.take_succ_eq_append_getElem hj,List.flatMap_append];simp
theorem linesL_len: ∀ (ps:List Av),(∀p∈ps,p.t.size≤64∧p.v.size≤1200)→ ∀j,(linesL (ps.take j)).length≤ps.length*8000
 | [],h,j=>by simp[linesL]
 | p::ps,h,0=>by simp[linesL]
 | p::ps,h,j+1=>by have ih:=linesL_len ps (fun q hq=>h q (List.mem_cons_of_mem _ hq)) j;have hp:=h p List.mem_cons_self;have hl:=lineL_len p.t.data.toList p.v.data.toList;rw[kt.size_len,kt.size_len]at hl;unfold linesL at ih ⊢;rw[List.take_succ_cons,List.flatMap_cons,List.length_append,List.length_cons];omega
theorem recL_eq (nm:ByteArray)(ps:List Av):recL (recOf nm ps)=lineL dnT nm.data.toList++linesL ps++[10]:=by unfold recL recOf linesL;rw[List.flatMap_map,List.append_assoc]
def recT (nm:ByteArray)(ps:List Av):ByteArray:=⟨(recL (recOf nm ps)).toArray⟩
theorem lineB_dt (k v:ByteArray):(lineB k v).data.toList=lineL k.data.toList v.data.toList:=rfl
theorem lineB_size (k v:ByteArray)(hk:k.size≤64)(hv:v.size≤1200):(lineB k v).size≤8000:=by have h:=lineL_len k.data.toList v.data.toList;rw[kt.size_len,kt.size_len]at h;rw[←kt.size_len,lineB_dt];omega
theorem print1_any (q0:Nat)(cap:Nat)(nm:ByteArray)(po:Option Addr)(pc:Nat)(ps:List Av)(w:World)(h0:w.cell? ⟨q0,0,none⟩=some (.string nm))(h1:w.cell? ⟨q0,1,none⟩=some (.slice po ps.length pc))(hc1:1≤cap)(hpc:ps.length≤pc)
  (hA:Hid (Avas w po ps)) (hnm:nm.size≤1000) (hps:ps.length≤2000) (HP:Hid (∀p∈ps,typeOK p.t.data.toList=true∧isDn p.t.data.toList=false∧p.v.size≤1200)):
  Calls Tryz.prog 43 #[.slice (some ⟨q0,0,none⟩) 1 cap] w fun e w'=>e= .returned (.tuple #[.string (recT nm ps),.int .i64 0])∧Below w.heap.size w w':=by
 obtain⟨m,hm⟩: ∃m,m=ps.length:=⟨_,rfl⟩;have HM:=Lib.hid hm;rw[←hm]at h1 hpc hps;have HT64:Hid (∀p∈ps,p.t.size≤64∧p.v.size≤1200):=fun p hp=>by have h:=HP.out p hp;have h2:=of_decide_eq_true (p:=_) (show decide _=true from h.1);have h3:=h2.2.1;rw[kt.size_len]at h3;exact⟨h3,h.2.2⟩
 clear hm;have HLN:=Lib.hid (linesL_len ps HT64.out);have hlN:(lineL dnT nm.data.toList).length≤8000:=by have h:=lineL_len dnT nm.data.toList;rw[kt.size_len]at h;have:dnT.length=2:=rfl;omega
 obtain⟨LN,hLN⟩: ∃L,Hid (L=lineB ⟨#[100,110]⟩ nm):=⟨_,rfl⟩;have hLNd:Hid (LN.data.toList=lineL dnT nm.data.toList):=by show _=_;rw[hLN.out];rfl
 have hLNs:LN.size≤8000:=by rw[←kt.size_len,hLNd.out];exact hlN
 have HLINE:Hid (∀W,Calls Tryz.prog 102 #[.string ⟨#[100,110]⟩,.string nm] W fun e w'=>e= .returned (.string LN)∧Below W.heap.size W w'):=by intro W;rw[hLN.out];exact line_any ⟨#[100,110]⟩ nm W (by decide) (by omega)
 clear hLN hlN;have hq0:=World.block_lt_of_cell? w _ h0;go_enter Tryz.func43,Tryz.ntmps43;go_wp2_with fail;have HI0:=Lib.hid (bld.fresh w);have HBA:Hid (Below w.heap.size w (w.alloc (.cells #[.pointer none,.slice none 0 0] 133))):=(Below.refl _ _).alloc (Nat.le_refl _) _;have hltA:w.heap.size<(w.alloc (.cells #[.pointer none,.slice none 0 0] 133)).heap.size:=by simp
 generalize w.alloc (.cells #[.pointer none,.slice none 0 0] 133)=wA at HI0 HBA hltA ⊢;obtain⟨B,hB⟩: ∃B,Hid (B=w.heap.size):=⟨_,rfl⟩;have HBA':Hid (Below B w wA):=by rw[hB.out];exact HBA
 have HA':Hid (Below w.heap.size w wA):=HBA;have hBw:w.heap.size≤B:=by rw[hB.out];exact Nat.le_refl _
 rw[←hB.out]at HI0 hltA hq0 ⊢;clear HBA;go_loopw [11] (fun iv wr=> ∃i:Nat,i≤1∧iv= .int .i64 (i:Int)∧Hid (Is B B (if i=0 then[]else recL (recOf nm ps)) wr)∧Hid (Below B wA wr)) (fun iv _=>1- (intOf iv).toNat);case atStart=>exact⟨0,Nat.zero_le _,rfl,HI0.out,Below.refl _ _⟩
 case round=>
  obtain⟨i,hi,rfl,hI,hBr⟩:=hrel;have HBw:Hid (Below B w wr):=HBA'.out.trans hBr.out;have hszr:B<wr.heap.size:=Nat.lt_of_lt_of_le hltA hBr.out.size;by_cases hlt:i=0
  ·subst hlt;have d0:=(HBw.out.cell (p:=⟨q0,0,none⟩) hq0).trans h0;have d1:=(HBw.out.cell (p:=⟨q0,1,none⟩) hq0).trans h1;have hI0:Is B B [] wr:=hI.out;clear hI;have HIa:=Lib.hid (hI0);clear hI0;have HR0:Hid (RecB (wr.alloc (.cells #[.string nm,.slice po m pc] 54)) wr.heap.size nm (.slice po m pc)):=recB_new wr nm _;have HBx:Hid (Below wr.heap.size wr (wr.alloc (.cells #[.string nm,.slice po m pc] 54))):=(Below.refl _ _).alloc (Nat.le_refl _) _;have hltx:wr.heap.size<(wr.alloc (.cells #[.string nm,.slice po m pc] 54)).heap.size:=(by simp);go_wp2_with fail;generalize wr.alloc (.cells #[.string nm,.slice po m pc] 54)=wx at HR0 HBx hltx ⊢;have hIx:=tupw.is_below HIa.out HBx.out;have HBx2:Hid (Below B wr wx):=HBx.out.mono (Nat.le_of_lt hszr);obtain⟨p,hp⟩: ∃p,Hid (p=wr.heap.size):=⟨_,rfl⟩;rw[←hp.out]at HR0 hltx hszr ⊢;clear HBx;refine(HLINE.out wx).mono ?_;rintro e w2 ⟨rfl,hB2⟩;have HR2:=Lib.hid (recB_below HR0.out hB2);have hI2:=tupw.is_below hIx hB2;have hlt2:p<w2.heap.size:=Nat.lt_of_lt_of_le hltx hB2.size;have HB2:Hid (Below B wr w2):=HBx2.out.trans (hB2.mono (by omega));have HW2:=Lib.hid (writeString_k B B [] LN w2 hI2 (by simp only[List.length_nil];omega) (by omega));clear hI2 hIx hB2 HLINE HBx2;go_wp2_with fail;refine HW2.out.mono ?_;rintro e w3 ⟨rfl,hI3,hB3,hK3⟩;have hR3:RecB w3 p nm (.slice po m pc):=heap_kept hK3 HR2.out (by decide) (by omega);obtain⟨c0,c1⟩:=recB_cells hR3;rw[List.nil_append,hLNd.out]at hI3;have HI3:=Lib.hid hI3;have HB3:Hid (Below B wr w3):=HB2.out.trans hB3;have hsz3:B<w3.heap.size:=(by have:=hB3.size;omega);have HBw3:Hid (Below B w w3):=HBw.out.trans HB3.out;have HAv:Hid (∀W,Below B w W→Avas W po ps):=fun W hW=>by rw[hB.out]at hW;exact avas_below hA.out hW
   clear hI3 hB3 hK3 hR3 HW2 HR2 HB2;go_wp2_with fail;obtain⟨wo,rfl⟩: ∃x,x=wr:=⟨_,rfl⟩;go_loopw [22] (fun jv wq=> ∃j:Nat,j≤m∧jv= .int .i64 (j:Int)∧Hid (Is B B (lineL dnT nm.data.toList++linesL (ps.take j)) wq)∧Hid (Below B w3 wq)) (fun jv _=>m- (intOf jv).toNat);case atStart=>exact⟨0,Nat.zero_le _,rfl,by show Is _ _ _ _;simpa[linesL]using HI3.out,Below.refl _ _⟩
   case round=>
    obtain⟨j,hj,rfl,hIq,hBq⟩:=hrel;have hszq:B<wr.heap.size:=Nat.lt_of_lt_of_le hsz3 hBq.out.size;have hln:(lineL dnT nm.data.toList++linesL (ps.take j)).length≤100000000:=(by have h1:=HLN.out j;have h2:=hLNd.out;have h3:=congrArg List.length h2;rw[kt.size_len]at h3;rw[List.length_append,←h3];have h4:=HM.out;rw[←h4]at h1;have:m*8000≤2000*8000:=Nat.mul_le_mul_right _ hps;omega);by_cases hlt:j<m
    ·have hltI:(j:Int)<(m:Int):=(by omega);have hjl:j<ps.length:=(by rw[←HM.out];exact hlt);obtain⟨b,o,hao,e0,e1⟩:=HAv.out wr (HBw3.out.trans hBq.out) j hjl;subst hao;have HLT:=linesL_take hjl;have hx:=HP.out ps[j] (List.getElem_mem hjl);have hx64:=HT64.out ps[j] (List.getElem_mem hjl);generalize ps[j]=x at e0 e1 HLT hx hx64;have HLT:=Lib.hid HLT;have HRT:Hid (∀W,Calls Tryz.prog 103 #[.string x.t] W fun e w'=>e= .returned (.bool true)∧W=w'):=fun W=>by have:=ldw.rightType_any x.t W (by omega);rw[hx.1]at this;exact this
     have HNM:Hid (∀W,Calls Tryz.prog 104 #[.string x.t] W fun e w'=>e= .returned (.bool false)∧W=w'):=fun W=>by have:=ldw.isName_any x.t W (by omega);rw[hx.2.1]at this;exact this
     obtain⟨LX,hLX⟩: ∃L,Hid (L=lineB x.t x.v):=⟨_,rfl⟩;have HLX:Hid (LX.data.toList=lineL x.t.data.toList x.v.data.toList):=(by show _=_;rw[hLX.out];rfl);have hLXs:LX.size≤8000:=(by rw[hLX.out];exact lineB_size _ _ hx64.1 hx64.2);have HLI:Hid (∀W,Calls Tryz.prog 102 #[.string x.t,.string x.v] W fun e w'=>e= .returned (.string LX)∧Below W.heap.size W w'):=fun W=>by rw[hLX.out];exact line_any x.t x.v W (by omega) hx64.2
     have HP0:Hid (PairB (wr.alloc (.cells #[.string x.t,.string x.v] 51)) wr.heap.size x.t x.v):=heap_alloc_new wr _;have HBy:Hid (Below wr.heap.size wr (wr.alloc (.cells #[.string x.t,.string x.v] 51))):=(Below.refl _ _).alloc (Nat.le_refl _) _;have hlty:wr.heap.size<(wr.alloc (.cells #[.string x.t,.string x.v] 51)).heap.size:=(by simp);have y0:(wr.alloc (.cells #[.string x.t,.string x.v] 51)).cell? ⟨wr.heap.size,0,none⟩=some (.string x.t):=(by rw[World.cell?_alloc_new];rfl);have y1:(wr.alloc (.cells #[.string x.t,.string x.v] 51)).cell? ⟨wr.heap.size,1,none⟩=some (.string x.v):=(by rw[World.cell?_alloc_new];rfl);clear hx hLX;go_wp2_with fail;generalize wr.alloc (.cells #[.string x.t,.string x.v] 51)=wy at HP0 HBy hlty y0 y1 ⊢;refine(HRT.out wy).mono ?_;rintro e wa ⟨rfl,hw⟩;subst hw;go_wp2_with fail;refine(HNM.out wy).mono ?_;rintro e wa ⟨rfl,hw⟩;subst hw;go_wp2_with fail;refine(HLI.out wy).mono ?_;rintro e w4 ⟨rfl,hB4⟩;have hI4:=tupw.is_below (tupw.is_below hIq.out HBy.out) hB4;have HB4:Hid (Below B wr w4):=(HBy.out.mono (by omega)).trans (hB4.mono (by omega));have HW4:=Lib.hid (writeString_k B B _ LX w4 hI4 (by omega) (by have:=HB4.out.size;omega));clear hI4 hB4 HLI HNM HRT HBy HP0;go_wp2_with fail;refine HW4.out.mono ?_;rintro e w5 ⟨rfl,hI5,hB5,hK5⟩;go_wp2_with fail;go_roundw;case rel=>
      refine⟨j+1,by omega,by go_num,?_,hBq.out.trans (HB4.out.trans hB5)⟩;show Is _ _ _ _;rw[HLT.out,←HLX.out,←List.append_assoc];exact hI5
     case measure=>simp[intOf];omega
    ·obtain rfl:j=m:=(by omega);have hI6:=hIq.out;rw[HM.out,List.take_length]at hI6;have HW6:=Lib.hid (writeString_k B B _ ⟨#[10]⟩ wr hI6 (by rw[HM.out,List.take_length]at hln;show _+1≤_;omega) (by omega));clear hI6;go_wp2_with fail;refine HW6.out.mono ?_;rintro e w7 ⟨rfl,hI7,hB7,hK7⟩;go_wp2_with fail;go_roundw;case rel=>
      refine⟨1,Nat.le_refl _,by go_num,?_,hBr.out.trans (HB3.out.trans (hBq.out.trans hB7))⟩;show Is _ _ _ _;rw[if_neg (by decide),recL_eq];exact hI7
     case measure=>simp[intOf]
  ·obtain rfl:i=1:=(by omega);have HX:=Lib.hid (Tryz.Builder_String_any B B _ wr hI.out (by omega));go_wp2_with fail;refine HX.out.mono ?_;rintro e w5 ⟨rfl,hB5⟩;go_wp2_with fail;go_ret2;exact⟨rfl,HA'.out.trans ((hBr.out.trans hB5).mono hBw)⟩
end lbk
open Go.RowKit
namespace kt
theorem segX_set {w:World}{B n:Nat}{e:TypeId}{sz g o cap:Nat}{xs:List Value}(h:SegX w B e sz (.slice (some ⟨g,o,none⟩) n cap) n xs)(j:Nat)(hj:j<xs.length)(u:Value):
  SegX (w.setCell ⟨g,o+j,none⟩ u) B e sz (.slice (some ⟨g,o,none⟩) n cap) n (xs.set j u)∧w.grownBy (w.setCell ⟨g,o+j,none⟩ u) (some g):=by
 rcases h.2 with⟨h',_⟩ | ⟨g',o',cap',pre,post,hv,hB,hg,hp,hr⟩
 ·simp at h'
 ·simp only[Value.slice.injEq,Option.some.injEq,Addr.mk.injEq,and_true,true_and]at hv;obtain⟨⟨rfl,rfl⟩,rfl⟩:=hv;refine⟨⟨by simpa using h.1,Or.inr ⟨g,o,cap,pre,post,rfl,hB,?_,hp,hr⟩⟩,⟨rfl,rfl,rfl,by simp,fun k _ hk=>heap_setCell_other w ⟨g,o+j,none⟩ k u (fun e=>hk (by simp[e]))⟩⟩;rw[heap_setCell_same w g (o+j) _ e u hg];congr 3;simp only[List.setIfInBounds_toArray];congr 1;rw[List.append_assoc,List.set_append_right _ _ (by omega),show o+j-pre.length=j by omega,List.set_append_left _ _ hj,List.append_assoc]
theorem segX_at {w:World}{B n:Nat}{e:TypeId}{sz g o cap:Nat}{xs:List Value}(h:SegX w B e sz (.slice (some ⟨g,o,none⟩) n cap) n xs):B≤g∧g<w.heap.size∧(∀ (j:Nat) (x:Value),xs[j]? =some x→w.cell? ⟨g,o+j,none⟩=some x)∧(∀j,w.frozen? ⟨g,j,none⟩=false):=by
 rcases h.2 with⟨h',_⟩ | ⟨g',o',cap',pre,post,hv,hB,hg,hp,hr⟩
 ·simp at h'
 ·simp only[Value.slice.injEq,Option.some.injEq,Addr.mk.injEq,and_true,true_and]at hv;obtain⟨⟨rfl,rfl⟩,rfl⟩:=hv;refine⟨hB,bld_lt hg,fun j x hx=> ?_,fun j=>Lib.frozen_of_heap hg j⟩;have hj:=(List.getElem?_eq_some_iff.1 hx).1;rw[Lib.cell_of_heap hg];simp only[List.getElem?_toArray];rw[List.append_assoc,List.getElem?_append_right (by omega),show o+j-pre.length=j by omega,List.getElem?_append_left hj];exact hx
theorem segX_addr {w:World}{B n:Nat}{e:TypeId}{sz cap:Nat}{ao:Option Addr}{xs:List Value}(h:SegX w B e sz (.slice ao n cap) n xs)(hn:0<n): ∃g o,ao=some ⟨g,o,none⟩:=by obtain⟨g,o,cap',hv,_⟩:=segX_cell h hn;simp only[Value.slice.injEq]at hv;exact⟨g,o,hv.1⟩
end kt
open Go.RowKit
namespace ldw
open ldp
def bs (l:List UInt8):ByteArray:=⟨l.toArray⟩
theorem bs_data (l:List UInt8):(bs l).data.toList=l:=rfl
theorem bs_of (s:ByteArray):bs s.data.toList=s:=kt.str_eq rfl
def wcell (r:Row):List Value:=[.string (bs r.text),.int .i64 (r.no:Int)]
theorem infoW:(Tryz.prog.info? 144).map (fun i=>(i.zero,i.size,i.bytes))=some (some (.agg #[.string ByteArray.empty,.int .i64 0]),2,24):=by kernel_rfl
def WRow (w:World)(B:Nat)(v:Value)(l:List Row):Prop:=kt.SegX w B 144 2 v l.length (l.flatMap wcell)
theorem wrow_below {w w':World}{B:Nat}{v:Value}{l:List Row}(h:WRow w B v l)(hb:Below w.heap.size w w'):WRow w' B v l:=kt.segX_below h hb
theorem wrow_form {w:World}{B:Nat}{v:Value}{l:List Row}(h:WRow w B v l): ∃ao n cap,v= .slice ao n cap∧Hid (n=l.length)∧n≤cap:=by obtain⟨ao,cap,hv,hc⟩:=kt.segX_slice h;exact⟨ao,_,cap,hv,rfl,hc⟩
theorem wrow_app {w:World}{B:Nat}{v:Value}{l:List Row}(x:Row)(t:ByteArray)(ht:bs x.text=t)(h:WRow w B v l)(hl:l.length≤1000000)(hB:B≤w.heap.size):
  ∃ao n cap w1,(Builtin.append_ #[139,139] 139 #[v,.slice (some ⟨w.heap.size,0,none⟩) 1 1]).run Tryz.prog (w.alloc (.cells #[.string t,.int .i64 (x.no:Int)] 144))= .ok (.slice ao n cap) w1∧WRow w1 B (.slice ao n cap) (l++[x])∧Below B w w1:=by
 subst ht;have hn:=kt.segX_below h (w':=w.alloc (.cells #[.string (bs x.text),.int .i64 (x.no:Int)] 144)) ((Below.refl _ _).alloc (Nat.le_refl _) _);obtain⟨v',w1,h1,h2,h3,h4⟩:=kt.segX_append (P:=Tryz.prog) (t:=139) (ty:=139) Tryz.underlying139 infoW rfl (by omega) ⟨w.heap.size,0,none⟩ 1 1 (wcell x) rfl (fun j u hj=>by rw[kt.addr_add,World.cell?_alloc_new];simpa[wcell]using hj) (by intro u hu;simp[wcell]at hu;rcases hu with rfl | rfl<;>rfl) hn (by unfold maxLen;omega) (by omega) (by simp;omega);obtain⟨ao,cap,rfl,_⟩:=kt.segX_slice h2;refine⟨ao,_,cap,w1,h1,?_,((Below.refl B w).alloc hB _).trans ((Below.refl B _).grown h3 (by simp;omega) (fun k hk=>(kt.segX_lt hn k hk).1))⟩;unfold WRow;rw[List.length_append,List.flatMap_append];simpa using h2
theorem wrow_last {w:World}{B n cap:Nat}{ao:Option Addr}{l:List Row}{x:Row}(h:WRow w B (.slice ao n cap) (l++[x]))(hn:n=l.length+1):
  ∃g o,ao=some ⟨g,o,none⟩∧B≤g∧w.cell? ⟨g,o+l.length*2,none⟩=some (.string (bs x.text))∧w.frozen? ⟨g,o+l.length*2,none⟩=false∧
   ∀t (b:Bool),WRow (w.setCell ⟨g,o+l.length*2,none⟩ (.string (bs t))) B (.slice ao n cap) (l++[⟨t,x.no,b⟩]):=by
 subst hn;have h0:=h;unfold WRow at h0;rw[List.length_append]at h0;have h1:kt.SegX w B 144 2 (.slice ao (l.length+1) cap) (l.length+1) ((l++[x]).flatMap wcell):=h0;obtain⟨g,o,rfl⟩:=kt.segX_addr h1 (by omega);obtain⟨hB,hlt,hc,hf⟩:=kt.segX_at h1;have hlen:(l.flatMap wcell).length=l.length*2:=kt.flat_len wcell 2 (fun _=>rfl) l;have hx:((l++[x]).flatMap wcell)[l.length*2]? =some (.string (bs x.text)):=by rw[List.flatMap_append,List.getElem?_append_right (by omega),hlen];simp[wcell]
 refine⟨g,o,rfl,hB,hc _ _ hx,hf _,fun t b=> ?_⟩;have h2:=(kt.segX_set h1 (l.length*2) (by rw[kt.flat_len wcell 2 (fun _=>rfl)];simp) (.string (bs t))).1;unfold WRow;rw[List.length_append];have e:((l++[x]).flatMap wcell).set (l.length*2) (.string (bs t))=(l++[(⟨t,x.no,b⟩:Row)]).flatMap wcell:=by rw[List.flatMap_append,List.flatMap_append,List.set_append_right _ _ (by omega),hlen];simp[wcell]
 rw[←e];exact h2
theorem wrow_at {w:World}{B n cap:Nat}{ao:Option Addr}{l:List Row}(h:WRow w B (.slice ao n cap) l)(i:Nat)(hi:i<l.length):
  ∃g o,ao=some ⟨g,o,none⟩∧g<w.heap.size∧w.cell? ⟨g,o+i*2,none⟩=some (.string (bs l[i].text))∧w.cell? ⟨g,o+i*2+1,none⟩=some (.int .i64 (l[i].no:Int)):=by
 have h1:=h;unfold WRow at h1;obtain⟨ao',cap',hv,_⟩:=kt.segX_slice h1;simp only[Value.slice.injEq]at hv;obtain⟨rfl,rfl,rfl⟩:=hv;obtain⟨g,o,rfl⟩:=kt.segX_addr h1 (by omega);obtain⟨hB,hlt,hc,hf⟩:=kt.segX_at h1;have f0:=kt.flat_get wcell 2 (fun _=>rfl) l i 0 hi (by omega);have f1:=kt.flat_get wcell 2 (fun _=>rfl) l i 1 hi (by omega);exact⟨g,o,rfl,hlt,hc _ _ f0,by rw[Nat.add_assoc];exact hc _ _ f1⟩
end ldw
open Go.RowKit
namespace ldw
open ldp
theorem nm_drewN {B:Nat}{a b:World}(h:Below B a b)(n:Nat):Below B a (b.drewN n):=⟨h.os,h.tape,h.output,h.size,h.block⟩
theorem ix_hit {A R:List UInt8}{c:UInt8}(h:c∉A):Lib.indexByte (A++c::R) c=A.length:=by
 refine b64p.indexByte_hit _ _ A.length (fun m hm=> ?_) (by simp) (by simp[List.getD]);intro e;have e2:(A++c::R).getD m 0=A[m]:=by rw[List.getD_eq_getElem?_getD,List.getElem?_append_left hm];simp[hm]
 rw[e2]at e;exact h (e▸List.getElem_mem hm)
theorem ix_miss {A:List UInt8}{c:UInt8}(h:c∉A):Lib.indexByte A c= -1:=by
 refine b64p.indexByte_miss _ _ (fun m hm=> ?_);intro e;have e2:A.getD m 0=A[m]:=by simp[List.getD,hm]
 rw[e2]at e;exact h (e▸List.getElem_mem hm)
theorem cut_hit (s:ByteArray)(c:UInt8)(A R:List UInt8)(w:World)(hs:s.size≤100000000)(h:s.data.toList=A++c::R)(hA:c∉A):Calls Tryz.prog 172 #[.string s,.string ⟨#[c]⟩] w fun e w'=>e= .returned (.tuple #[.string ⟨A.toArray⟩,.string ⟨R.toArray⟩,.bool true])∧Below w.heap.size w w':=by
 have hl:s.size=A.length+R.length+1:=by rw[←kt.size_len,h];simp;omega
 obtain⟨i,hi⟩: ∃i,Hid (i=A.length):=⟨_,rfl⟩;have hi1:i+1≤s.size:=by rw[hi.out];omega
 have e1:s.extract 0 i=⟨A.toArray⟩:=by apply kt.str_eq;rw[Lib.extract_data,h,hi.out];simp
 have e2:s.extract (i+1) s.size=⟨R.toArray⟩:=by apply kt.str_eq;rw[Lib.extract_to_end,h,hi.out];simp
 have HC:Hid (Calls Tryz.prog 267 #[.string s,.string ⟨#[c]⟩] w fun e w'=>e= .returned (.int .i64 (i:Int))∧w=w'):=by refine(Tryz.stringslite_Index_one s c w).mono ?_;rintro e w' ⟨rfl,rfl⟩;refine⟨?_,rfl⟩;rw[h,ix_hit hA,hi.out]
 obtain⟨a,ha⟩: ∃a:ByteArray,Hid (a=⟨A.toArray⟩):=⟨_,rfl⟩;obtain⟨r,hr⟩: ∃a:ByteArray,Hid (a=⟨R.toArray⟩):=⟨_,rfl⟩;rw[←ha.out]at e1 ⊢;rw[←hr.out]at e2 ⊢;have i1:((i:Int)+1).toNat=i+1:=by omega
 have i2:(i:Int)+1≤(s.size:Int):=by omega
 have i3:(i:Int)≤(s.size:Int):=by omega
 have i4:IntKind.i64.wrap ((i:Int)+1)=(i:Int)+1:=IntWalk.i64_in _ (by omega);clear hl h hA;go_enter Tryz.func172,Tryz.ntmps172;go_wp2_with fail;have C:Calls Tryz.prog 216 #[.string s,.string ⟨#[c]⟩] w fun e w'=>e= .returned (.tuple #[.string a,.string r,.bool true])∧Below w.heap.size w w':=by go_enter Tryz.func216,Tryz.ntmps216;go_wp2_with fail;refine HC.out.mono ?_;rintro e w' ⟨rfl,rfl⟩;go_wp2_with fail;go_quiet (fail);go_wp2_with fail;go_ret3;exact⟨rfl,nm_drewN (Below.refl _ _) _⟩
 refine C.mono ?_;rintro e w' ⟨rfl,hB⟩;go_wp2_with fail;go_ret3;exact⟨rfl,hB⟩
theorem cut_miss (s:ByteArray)(c:UInt8)(w:World)(hA:c∉s.data.toList):Calls Tryz.prog 172 #[.string s,.string ⟨#[c]⟩] w fun e w'=>e= .returned (.tuple #[.string s,.string ⟨#[]⟩,.bool false])∧Below w.heap.size w w':=by
 have HC:Hid (Calls Tryz.prog 267 #[.string s,.string ⟨#[c]⟩] w fun e w'=>e= .returned (.int .i64 (-1))∧w=w'):=by refine(Tryz.stringslite_Index_one s c w).mono ?_;rintro e w' ⟨rfl,rfl⟩;refine⟨?_,rfl⟩;rw[ix_miss hA]
 clear hA;go_enter Tryz.func172,Tryz.ntmps172;go_wp2_with fail;have C:Calls Tryz.prog 216 #[.string s,.string ⟨#[c]⟩] w fun e w'=>e= .returned (.tuple #[.string s,.string ⟨#[]⟩,.bool false])∧Below w.heap.size w w':=by go_enter Tryz.func216,Tryz.ntmps216;go_wp2_with fail;refine HC.out.mono ?_;rintro e w' ⟨rfl,rfl⟩;go_wp2_with fail;go_ret3;exact⟨rfl,Below.refl _ _⟩
 refine C.mono ?_;rintro e w' ⟨rfl,hB⟩;go_wp2_with fail;go_ret3;exact⟨rfl,hB⟩
end ldw
open Go.RowKit
theorem emptyRow (w:World)(e:TypeId):(w.alloc (.cells #[] e)).ownsRow w.heap.size e 1 (.slice (some ⟨w.heap.size,0,none⟩) 0 0) ([]:List Value).length []:=World.ownsRow_made w #[] 0 (Nat.le_refl _) (by unfold maxLen;omega) rfl
end Go.Proofs.YtmnpfkbjpeaemaaGreatDoor
