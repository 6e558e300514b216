/- One text out of several: SchK, SchF, SchL, SchS, SchT, SchM, FilN. -/
import Derived.Deep.MidRow
import Derived.Lib.SlBuf
import Derived.Test.YtmnpfkbjpeaemaaGreatDoorM1
import Derived.Test.YtmnpfkbjpeaemaaGreatDoorM2
import Derived.Test.YtmnpfkbjpeaemaaGreatDoorM11
import Derived.Test.YtmnpfkbjpeaemaaGreatDoorM5
import Derived.Deep.Upon
import Derived.Shelf.SlicesE.DeleteFunc
import Derived.Shelf.SlicesE.IndexFunc
import Derived.Test.YtmnpfkbjpeaemaaGreatDoorProg
import Derived.Test.YtmnpfkbjpeaemaaGreatDoorM6
import Derived.Test.YtmnpfkbjpeaemaaGreatDoorM7
import Derived.Test.YtmnpfkbjpeaemaaGreatDoorM9
set_option linter.unusedVariables false
set_option linter.unusedSimpArgs false
set_option maxRecDepth 20000
set_option maxHeartbeats 8000000
namespace Go.Proofs.YtmnpfkbjpeaemaaGreatDoor
open Go.RowKit
namespace scw
open scp atw
def clsV (c:Cls):List Value:=[.string (bs c.name),.int .i64 c.kind,.string (bs c.above),.string (bs (c.must.getD 0 [])),.string (bs (c.must.getD 1 [])),.string (bs (c.may.getD 0 [])),.string (bs (c.may.getD 1 [])),.string (bs (c.may.getD 2 [])),.string (bs (c.may.getD 3 [])),.string (bs (c.may.getD 4 [])),.string (bs (c.may.getD 5 []))]
theorem clsV_len (c:Cls):(clsV c).length=11:=rfl
theorem cinfo:(Tryz.prog.info? 106).map (·.size)=some 11:=by kernel_rfl
def CA (w:World)(b o:Nat)(c:Cls):Prop:=w.rangeAt b o (clsV c)
def CB (w:World)(p:Nat)(c:Cls):Prop:=w.rangeAt p 0 (clsV c)∧w.there p 0 11
theorem ca_lt {w:World}{b o:Nat}{c:Cls}(h:CA w b o c):b<w.heap.size:=World.block_lt_of_cell? w _ (h 0 _ rfl)
theorem ca_below {w w':World}{b o:Nat}{c:Cls}(h:CA w b o c)(hb:Below w.heap.size w w'):CA w' b o c:=fun j u hj=>(hb.cell (World.block_lt_of_cell? w _ (h j u hj))).trans (h j u hj)
theorem cb_lt {w:World}{p:Nat}{c:Cls}(h:CB w p c):p<w.heap.size:=ca_lt h.1
theorem frozen_below {w w':World}{p o:Nat}(hp:p<w.heap.size)(hb:Below w.heap.size w w'):w'.frozen? ⟨p,o,none⟩=w.frozen? ⟨p,o,none⟩:=by unfold World.frozen?;show(match w'.heap[p]? with | _=>_)=_;rw[hb.block p hp]
theorem cb_below {w w':World}{p:Nat}{c:Cls}(h:CB w p c)(hb:Below w.heap.size w w'):CB w' p c:=by refine⟨ca_below h.1 hb,fun j hj=> ?_⟩;obtain⟨h1,h2⟩:=h.2 j hj;obtain⟨u,hu⟩:=Option.isSome_iff_exists.1 h1;refine⟨by rw[hb.cell (World.block_lt_of_cell? w _ hu),hu];rfl,?_⟩;rw[frozen_below (World.block_lt_of_cell? w _ hu) hb];exact h2
theorem cb_new (w:World)(c:Cls):CB (w.alloc (.cells (clsV c).toArray 106)) w.heap.size c:=by
 have key: ∀j v,(clsV c)[j]? =some v→(w.alloc (.cells (clsV c).toArray 106)).cell? ⟨w.heap.size,0+j,none⟩=some v:=by intro j v hv;rw[Nat.zero_add,World.cell?_alloc_new];simpa using hv
 refine⟨key,fun j hj=>⟨?_,Lib.frozen_of_heap (heap_alloc_new w _) _⟩⟩;have hj':j<(clsV c).length:=hj;rw[key j _ (List.getElem?_eq_getElem hj')];rfl
theorem cb_set {w:World}{p:Nat}{c:Cls}(h:CB w p c)(d:Cls):CB (w.setCells p 0 (clsV d)) p d:=⟨World.rangeAt_setCells_same w p 0 (clsV d) h.2,World.there_setCells h.2 p 0 (clsV d)⟩
theorem res_cls {fn:Func}{p u:Tmp}{ty:TypeId}(h:fn.results=#[.cell p ty,.tmp u])(tmps:Array Value)(P:Program)(w:World)(b:Nat)(cs:List Value)(d:TypeDesc)(x:Value)(hp:tmps.getD p undef= .pointer (some ⟨b,0,none⟩))(hc:w.rangeAt b 0 cs)
  (hu:P.underlying ty=some d) (hd:d.isRow=true) (hi:(P.info? ty).map (·.size)=some cs.length) (hx:tmps.getD u undef=x):
  (results fn tmps).run P w= .ok (.tuple #[.agg cs.toArray,x]) w:=by
 rw[results_cell_tmp h,hp,hx];simp[asAddr,run_loadVar_mid w b 0 ty cs d hc hu hd hi]
def tabV:List Value:=clsL.flatMap clsV
theorem tab_at (w:World)(i:Nat)(hi:i<13):CA (w.alloc (.cells tabV.toArray 106)) w.heap.size (i*11) (clsA i):=by
 intro j v hv;have hj:j<11:=(List.getElem?_eq_some_iff.1 hv).1;rw[World.cell?_alloc_new];have h1:=kt.flat_get clsV 11 clsV_len clsL i j hi hj;have h2:clsL[i]'hi=clsA i:=by unfold clsA;rw[List.getD_eq_getElem?_getD,List.getElem?_eq_getElem (show i<clsL.length from hi)];rfl
 rw[h2,hv]at h1;simpa[tabV]using h1
theorem classes_any (w:World):
  Calls Tryz.prog 142 #[] w fun e w'=>e= .returned (.slice (some ⟨w.heap.size,0,none⟩) 13 13)∧w'=w.alloc (.cells tabV.toArray 106):=by
 go_enter Tryz.func142,Tryz.ntmps142;go_wp2_with fail;go_ret;exact⟨rfl,rfl⟩
end scw
open Go.RowKit
namespace scw
open scp atw
def resC:Option Nat→Value
 | some k=> .tuple #[.agg (clsV (clsA k)).toArray,.bool true]
 | none=> .tuple #[.agg (clsV noCls).toArray,.bool false]
theorem classes_at (w:World):
  Calls Tryz.prog 142 #[] w fun e w'=> ∃g,e= .returned (.slice (some ⟨g,0,none⟩) 13 13)∧(∀i,i<13→CA w' g (i*11) (clsA i))∧Below w.heap.size w w':=
 (classes_any w).mono fun e w' ⟨he,hw⟩=>⟨_,he,fun i hi=>by rw[hw];exact tab_at w i hi,by rw[hw];exact(Below.refl _ _).alloc (Nat.le_refl _) _⟩
theorem cls_letters (c:Cls): ∃a0 i1 a2 a3 a4 a5 a6 a7 a8 a9 a10,clsV c=[.string a0,.int .i64 i1,.string a2,.string a3,.string a4,.string a5,.string a6,.string a7,.string a8,.string a9,.string a10]∧a0=bs c.name∧i1=c.kind∧a2=bs c.above:=⟨_,_,_,_,_,_,_,_,_,_,_,rfl,rfl,rfl,rfl⟩
theorem ca_cells {w:World}{b o:Nat}{c:Cls}{a0 a2 a3 a4 a5 a6 a7 a8 a9 a10:ByteArray}{i1:Int}(h:CA w b o c)(hc:clsV c=[.string a0,.int .i64 i1,.string a2,.string a3,.string a4,.string a5,.string a6,.string a7,.string a8,.string a9,.string a10]):
  w.cell? ⟨b,o,none⟩=some (.string a0)∧w.cell? ⟨b,o+1,none⟩=some (.int .i64 i1)∧w.cell? ⟨b,o+2,none⟩=some (.string a2)∧w.cell? ⟨b,o+3,none⟩=some (.string a3)∧w.cell? ⟨b,o+4,none⟩=some (.string a4)∧w.cell? ⟨b,o+5,none⟩=some (.string a5)∧w.cell? ⟨b,o+6,none⟩=some (.string a6)∧w.cell? ⟨b,o+7,none⟩=some (.string a7)∧w.cell? ⟨b,o+8,none⟩=some (.string a8)∧w.cell? ⟨b,o+9,none⟩=some (.string a9)∧w.cell? ⟨b,o+10,none⟩=some (.string a10):=by
 unfold CA at h;rw[hc]at h;exact⟨h 0 _ rfl,h 1 _ rfl,h 2 _ rfl,h 3 _ rfl,h 4 _ rfl,h 5 _ rfl,h 6 _ rfl,h 7 _ rfl,h 8 _ rfl,h 9 _ rfl,h 10 _ rfl⟩
theorem cb_cells {w:World}{p:Nat}{c:Cls}{a0 a2 a3 a4 a5 a6 a7 a8 a9 a10:ByteArray}{i1:Int}(h:CB w p c)(hc:clsV c=[.string a0,.int .i64 i1,.string a2,.string a3,.string a4,.string a5,.string a6,.string a7,.string a8,.string a9,.string a10]):
  w.cell? ⟨p,0,none⟩=some (.string a0)∧w.cell? ⟨p,1,none⟩=some (.int .i64 i1)∧w.cell? ⟨p,2,none⟩=some (.string a2)∧w.cell? ⟨p,3,none⟩=some (.string a3)∧w.cell? ⟨p,4,none⟩=some (.string a4)∧w.cell? ⟨p,5,none⟩=some (.string a5)∧w.cell? ⟨p,6,none⟩=some (.string a6)∧w.cell? ⟨p,7,none⟩=some (.string a7)∧w.cell? ⟨p,8,none⟩=some (.string a8)∧w.cell? ⟨p,9,none⟩=some (.string a9)∧w.cell? ⟨p,10,none⟩=some (.string a10):=by
 have:=ca_cells h.1 hc;simpa only[Nat.zero_add]using this
theorem cls_name: ∀k:Fin 13,(clsA k.val).name≠[]:=by decide+kernel
theorem sfind_any (n:ByteArray)(w:World):
  Calls Tryz.prog 81 #[.string n] w fun e w'=>e= .returned (resC (idx n.data.toList))∧Below w.heap.size w w':=by
 have HZ0:=Lib.hid (cb_new w noCls);have HC:Hid (∀W,Calls Tryz.prog 142 #[] W fun e w'=> ∃g,e= .returned (.slice (some ⟨g,0,none⟩) 13 13)∧(∀i,i<13→CA w' g (i*11) (clsA i))∧Below W.heap.size W w'):=classes_at;have HBZ:Hid (Below w.heap.size w (w.alloc (.cells (clsV noCls).toArray 106))):=(Below.refl _ _).alloc (Nat.le_refl _) _;go_enter Tryz.func81,Tryz.ntmps81;go_wp2_with fail;refine(HC.out _).mono ?_;rintro e w1 ⟨g,rfl,hT,hB1⟩;have HT1:=Lib.hid hT;have HB1:Hid (Below w.heap.size w w1):=HBZ.out.trans (hB1.mono HBZ.out.size);have HZ1:Hid (CB w1 w.heap.size noCls):=cb_below HZ0.out hB1;clear hB1 hT HBZ;go_wp2_with fail;go_loopw [8] (fun iv wr=> ∃i:Nat,i≤13∧iv= .int .i64 (i:Int)∧Hid (∀j,j<i→(clsA j).name≠n.data.toList)∧Hid (Below w1.heap.size w1 wr)) (fun iv _=>13- (intOf iv).toNat);case atStart=>exact⟨0,by omega,rfl,fun j h=>absurd h (Nat.not_lt_zero _),Below.refl _ _⟩
 case round=>
  obtain⟨i,hi,rfl,hN,hB⟩:=hrel;have hsz:=hB.out.size;have HZr:Hid (CB wr w.heap.size noCls):=cb_below HZ1.out hB.out;have HBw:=Lib.hid (HB1.out.trans (hB.out.mono HB1.out.size));have hwr:w.heap.size<wr.heap.size:=cb_lt HZr.out;by_cases hlt:i<13
  ·have hlt':(i:Int)<13:=(by omega);obtain⟨c,hc⟩: ∃c,clsA i=c:=⟨_,rfl⟩;have hcn:=cls_name ⟨i,hlt⟩;have HIX:=Lib.hid (fun h1 h2=>idx_hit (n:=n.data.toList) hlt h1 h2);have hca:=ca_below (HT1.out i hlt) hB.out;have hcn2:c.name≠[]:=(by rw[←hc];exact hcn);have HN2:Hid (c.name≠n.data.toList→ ∀j,j<i+1→(clsA j).name≠n.data.toList):=fun h j hj=>by
    by_cases e:j=i
    ·subst e;rw[hc];exact h
    ·exact hN.out j (by omega)
   rw[hc]at HIX hca;have HCI:Hid (clsA i=c):=hc;obtain⟨a0,i1,a2,a3,a4,a5,a6,a7,a8,a9,a10,hv,h0,hx1,hx2⟩:=cls_letters c;obtain⟨c0,c1,c2,c3,c4,c5,c6,c7,c8,c9,c10⟩:=ca_cells hca hv;have HV:=Lib.hid hv;have H0:=Lib.hid h0;clear hc hcn hca hv hx1 hx2;obtain⟨W2,hW2⟩: ∃W,wr.alloc (.cells #[.string a0,.int .i64 i1,.string a2,.string a3,.string a4,.string a5,.string a6,.string a7,.string a8,.string a9,.string a10] 106)=W:=⟨_,rfl⟩;have hB2:Below wr.heap.size wr W2:=(by rw[←hW2];exact(Below.refl _ _).alloc (Nat.le_refl _) _);have hcb:CB W2 wr.heap.size c:=(by rw[←hW2];have:=cb_new wr c;rw[HV.out]at this;exact this);obtain⟨d0,d1,d2,d3,d4,d5,d6,d7,d8,d9,d10⟩:=cb_cells hcb HV.out;have HZ2:=Lib.hid (cb_below HZr.out hB2);have HB2:=Lib.hid (HBw.out.trans (hB2.mono HBw.out.size));have HB12:=Lib.hid (hB.out.trans (hB2.mono hsz));by_cases hn:c.name=n.data.toList
   ·have e1:(a0.toList==n.toList)=true:=(by rw[h0,←bs_of n,bs_beq];exact decide_eq_true hn);have e2:n.toList.isEmpty=false:=(by rw[Lib.toList_data,←hn];exact List.isEmpty_eq_false_iff.2 hcn2);have HF:Hid (idx n.data.toList=some i):=HIX.out hn hN.out;have HEND:Hid (CB (W2.setCells w.heap.size 0 (clsV c)) w.heap.size c):=cb_set HZ2.out c;have HBE:Hid (Below w.heap.size w (W2.setCells w.heap.size 0 (clsV c))):=Lib.below_setCells _ (Nat.le_refl _) _ _ HB2.out;have hth:=HZ2.out.2;clear hn hcn2 HIX hB2 hcb h0;go_wp2_with (refine wpList_store_mid rfl 106 _ _ rfl w.heap.size 0 #[.string a0,.int .i64 i1,.string a2,.string a3,.string a4,.string a5,.string a6,.string a7,.string a8,.string a9,.string a10] rfl rfl hth cinfo (by simp[Value.oneCell']) ?_);obtain⟨W3,hW3⟩: ∃W,W2.setCells w.heap.size 0 (clsV c)=W:=⟨_,rfl⟩;rw[hW3]at HEND HBE;rw[HV.out]at hW3;refine bodyPost_ret (v:= .tuple #[.agg #[.string a0,.int .i64 i1,.string a2,.string a3,.string a4,.string a5,.string a6,.string a7,.string a8,.string a9,.string a10],.bool true]) (by exact res_cls rfl _ _ _ w.heap.size [.string a0,.int .i64 i1,.string a2,.string a3,.string a4,.string a5,.string a6,.string a7,.string a8,.string a9,.string a10] _ (.bool true) rfl (by have:=HEND.out.1;rw[HV.out]at this;rw[←hW3]at this;exact this) Tryz.underlying106 rfl cinfo rfl) rfl ?_;refine⟨?_,?_⟩
    ·rw[HF.out];show _=Ending.returned (.tuple #[.agg (clsV (clsA i)).toArray,.bool true]);rw[HCI.out,HV.out]
    ·have:=HBE.out;rw[←hW3]at this;exact this
   ·have e1:(a0.toList==n.toList)=false:=(by rw[h0,←bs_of n,bs_beq];exact decide_eq_false hn);have HN3:=Lib.hid (HN2.out hn);clear hn hcn2 HIX hB2 hcb h0 HN2;go_wp2_with fail;go_roundw;case rel=>exact⟨i+1,by omega,by go_num,HN3,HB12⟩
    case measure=>simp[intOf];omega
  ·obtain rfl:i=13:=(by omega);have HF:Hid (idx n.data.toList=none):=idx_no fun j hj=>hN.out j hj;have hth:=HZr.out.2;have HEND:Hid (CB (wr.setCells w.heap.size 0 (clsV noCls)) w.heap.size noCls):=cb_set HZr.out noCls;have HBE:Hid (Below w.heap.size w (wr.setCells w.heap.size 0 (clsV noCls))):=Lib.below_setCells _ (Nat.le_refl _) _ _ HBw.out;go_wp2_with (refine wpList_store_mid rfl 106 _ _ rfl w.heap.size 0 (clsV noCls).toArray rfl rfl hth cinfo (by simp[clsV,Value.oneCell']) ?_);refine bodyPost_ret (v:= .tuple #[.agg (clsV noCls).toArray,.bool false]) (by exact res_cls rfl _ _ _ w.heap.size (clsV noCls) _ (.bool false) rfl HEND.out.1 Tryz.underlying106 rfl cinfo rfl) rfl ?_;exact⟨by rw[HF.out];rfl,HBE.out⟩
end scw
open Go.RowKit
namespace scw
open scp atw
theorem slower_any (s:ByteArray)(w:World)(hs:s.size≤10000000):
    Calls Tryz.prog 82 #[.string s] w fun e w'=>e= .returned (.string (bs (sml.lowL s.data.toList)))∧Below w.heap.size w w':=by
  obtain⟨W1,cap,hrun,hrow,hB1⟩:=kt.bytes_of (P:=Tryz.prog) (src:=9) (dst:=131) (e:=5) Tryz.underlying9 Tryz.underlying131 Tryz.underlying5 w s;have HB1:=Lib.hid hB1;have HROW:=Lib.hid hrow;obtain⟨B,hB⟩: ∃B,w.heap.size=B:=⟨_,rfl⟩;rw[hB]at hrun HROW;have HBB:=Lib.hid hB;have hsl:s.data.toList.length=s.size:=kt.size_len s;have HSL:=Lib.hid hsl;clear hB1 hrow hB hsl;go_enter Tryz.func82,Tryz.ntmps82;go_wp2_with fail;go_loopw [4,5,10] (fun _ _ iv wr=> ∃k:Nat,k≤s.size∧iv= .int .i64 (k:Int)∧Hid (kt.ByteRow wr B (midL s.data.toList k))∧Hid (Below w.heap.size w wr)) (fun _ _ iv _=>s.size- (intOf iv).toNat);case atStart=>exact⟨0,Nat.zero_le _,rfl,(by show kt.ByteRow _ _ _;unfold midL;simpa using HROW.out),HB1.out⟩
  case round=>
    clear hrun;obtain⟨k,hk,rfl,hR,hB⟩:=hrel;by_cases hlt:k<s.size
    · have hlt':(k:Int)<(s.size:Int):=(by omega);have hkl:k<s.data.toList.length:=(by rw[HSL.out];exact hlt);obtain⟨c0,f0⟩:=hR.out k (by rw[midL_len];exact hkl);rw[midL_at hkl]at c0;have HSET:=Lib.hid (midL_set hkl);have HKEEP:=Lib.hid (midL_keep hkl);have hset:=fun x=>kt.byterow_set hR.out k x;generalize s.data.toList[k]=c at c0 HSET HKEEP;have hcn:=c.toNat_lt;have hlow:=sml.low_nat c;by_cases hup:65≤(c.toNat:Int)∧(c.toNat:Int)≤90
      · rw[if_pos hup]at hlow;obtain⟨u1,u2⟩:=hup;have r1:IntKind.u8.wrap ((c.toNat:Int)+32)=(c.toNat:Int)+32:=IntWalk.u8_in _ (by omega);have h2:=hset (sml.low c);rw[hlow,HSET.out]at h2;have H2:=Lib.hid h2;clear hlow hset h2;go_wp2_with fail;go_roundw;case rel=>exact⟨k+1,by omega,by go_num,H2,hB.out.setCell (p:=⟨B,k,none⟩) (by rw[HBB.out];exact Nat.le_refl _) _⟩
        case measure=>simp[intOf];omega
      · rw[if_neg hup]at hlow;have hl:sml.low c=c:=(by apply UInt8.toNat_inj.1;omega);have H2:Hid (kt.ByteRow wr B (midL s.data.toList (k+1))):=(by show kt.ByteRow _ _ _;rw[←HKEEP.out hl];exact hR.out);clear hlow hset hl;go_wp2_with fail;all_goals first
          | (go_roundw
             case rel=>exact⟨k+1,by omega,by go_num,H2,hB⟩
             case measure=>simp[intOf];omega)
          | (exfalso;simp only[decide_eq_true_eq]at*;omega)
    · obtain rfl:k=s.size:=(by omega);have hst:=kt.byterow_str (P:=Tryz.prog) (n:=s.size) (cap:=cap) Tryz.underlying131 Tryz.underlying5 Tryz.underlying9 hR.out (by rw[midL_len,HSL.out]);have hm:midL s.data.toList s.size=sml.lowL s.data.toList:=(by unfold midL sml.lowL;rw[List.take_of_length_le (by simp),List.drop_of_length_le (by simp),List.append_nil]);rw[hm]at hst;have hst2:(convert 131 9 (.slice (some ⟨B,0,none⟩) s.size cap)).run Tryz.prog wr= .ok (.string (bs (sml.lowL s.data.toList))) wr:=hst;clear hst hm;go_wp2_with fail;go_ret;exact⟨rfl,hB.out⟩
def OwnC (w:World)(B:Nat)(v:Value)(l:List Nat):Prop:=w.ownsRow B 106 11 v l.length (l.flatMap fun k=>clsV (clsA k))
def vlen:Value→Nat
 | .slice _ n _=>n
 | _=>0
theorem ownC_len {w:World}{B:Nat}{v:Value}{l:List Nat}(h:OwnC w B v l):vlen v=l.length:=by obtain⟨ao,cap,rfl,_⟩:=kt.rowS_slice h;rfl
theorem cinfo3:(Tryz.prog.info? 106).map (fun i=>(i.zero,i.size,i.bytes))=some (some (.agg (clsV noCls).toArray),11,168):=by kernel_rfl
theorem clsV_one' (c:Cls): ∀u∈clsV c,u.oneCell'=true:=by intro u hu;simp only[clsV,List.mem_cons,List.not_mem_nil,or_false]at hu;rcases hu with rfl | rfl | rfl | rfl | rfl | rfl | rfl | rfl | rfl | rfl | rfl<;>rfl
theorem ownC_app {w:World}{B:Nat}{v:Value}{l:List Nat}(k:Nat)(h:OwnC w B v l)(hl:l.length≤100000)(hB:B≤w.heap.size):
  ∃v' w1,(Builtin.append_ #[99,99] 99 #[v,.slice (some ⟨w.heap.size,0,none⟩) 1 1]).run Tryz.prog (w.alloc (.cells (clsV (clsA k)).toArray 106))= .ok v' w1∧OwnC w1 B v' (l++[k])∧w.grownBy w1 v.ownBlock∧Below B w w1:=by
 obtain⟨v',w1,h1,h2,h3,h4⟩:=kt.appS (P:=Tryz.prog) (t:=99) (ty:=99) Tryz.underlying99 cinfo3 rfl (by decide) (clsV (clsA k)) rfl (clsV_one' _) h (by unfold maxLen;omega) (by omega) hB;refine⟨v',w1,h1,?_,h3,h4⟩;unfold OwnC;rw[List.flatMap_append,List.length_append];simpa using h2
theorem ownC_mono {w:World}{B C:Nat}{v:Value}{l:List Nat}(h:OwnC w B v l)(hc:C≤B):OwnC w C v l:=by
 refine⟨h.1,?_⟩;rcases h.2 with h0 | ⟨g,cap,cur,hv,hBg,hr⟩
 ·exact Or.inl h0
 ·exact Or.inr ⟨g,cap,cur,hv,Nat.le_trans hc hBg,hr⟩
theorem ownC_below {w w':World}{B:Nat}{v:Value}{l:List Nat}(h:OwnC w B v l)(hb:Below w.heap.size w w'):OwnC w' B v l:=kt.rowS_below h hb
theorem cb_same {w w':World}{p:Nat}{c:Cls}(h:CB w p c)(he:w'.heap[p]? =w.heap[p]?):CB w' p c:=by
 have hc: ∀o,w'.cell? ⟨p,o,none⟩=w.cell? ⟨p,o,none⟩:=fun o=>by unfold World.cell?;show(match w'.heap[p]? with | _=>_)=_;rw[he]
 have hf: ∀o,w'.frozen? ⟨p,o,none⟩=w.frozen? ⟨p,o,none⟩:=fun o=>by unfold World.frozen?;show(match w'.heap[p]? with | _=>_)=_;rw[he]
 exact⟨fun j u hj=>by rw[hc];exact h.1 j u hj,fun j hj=>by rw[hc,hf];exact h.2 j hj⟩
theorem ownC_other {w w':World}{B:Nat}{v:Value}{l:List Nat}(h:OwnC w B v l)(he: ∀k,v.ownBlock=some k→w'.heap[k]? =w.heap[k]?):OwnC w' B v l:=by
 refine⟨h.1,?_⟩;rcases h.2 with h0 | ⟨g,cap,cur,hv,hBg,hg,h1,h2,h3,h4⟩
 ·exact Or.inl h0
 ·exact Or.inr ⟨g,cap,cur,hv,hBg,by rw[he g (by rw[hv];rfl)];exact hg,h1,h2,h3,h4⟩
def clsO:Option Nat→Cls
 | some k=>clsA k
 | none=>noCls
theorem resC_eq (r:Option Nat):resC r= .tuple #[.agg (clsV (clsO r)).toArray,.bool r.isSome]:=by cases r<;>rfl
def lineO:Option Nat→List Nat
 | some k=>lineK k
 | none=>[]
def lineN (n:List UInt8):List Nat:=lineO (idx n)
theorem lineO_len (r:Option Nat)(h: ∀k,r=some k→k<13):(lineO r).length≤4:=by
 cases r with
 | none=>simp[lineO]
 | some k=>exact lineK_len ⟨k,h k rfl⟩
theorem idx_lt {n:List UInt8}{k:Nat}(h:idx n=some k):k<13:=(idx_some h).1
theorem sline_any (n:ByteArray)(w:World):
  Calls Tryz.prog 83 #[.string n] w fun e w'=> ∃v,e= .returned v∧OwnC w' w.heap.size v (lineN n.data.toList)∧Below w.heap.size w w':=by
 have HF0:Hid (∀ (m:ByteArray) W,Calls Tryz.prog 81 #[.string m] W fun e w'=>e= .returned (.tuple #[.agg (clsV (clsO (idx m.data.toList))).toArray,.bool (idx m.data.toList).isSome])∧Below W.heap.size W w'):=fun m W=>by rw[←resC_eq];exact sfind_any m W
 have HF:=Lib.hid (HF0.out n w);have HLT:Hid (∀k,idx n.data.toList=some k→k<13):=fun k h=>idx_lt h;have HLN:Hid (lineN n.data.toList=lineO (idx n.data.toList)):=rfl;rw[HLN.out];generalize idx n.data.toList=r0 at HF HLT ⊢;obtain⟨a0,a1,a2,a3,a4,a5,a6,a7,a8,a9,a10,hv,hx0,hx1,hx2⟩:=cls_letters (clsO r0);have HV:=Lib.hid hv;rw[hv]at HF;clear hv hx0 hx1 hx2 HLN;obtain⟨b0,hb0⟩: ∃b,r0.isSome=b:=⟨_,rfl⟩;rw[hb0]at HF;have HB0:=Lib.hid hb0;clear hb0;go_enter Tryz.func83,Tryz.ntmps83;go_wp2_with fail;refine HF.out.mono ?_;rintro e w1 ⟨rfl,hB1⟩;obtain⟨W2,hW2⟩: ∃W,w1.alloc (.cells #[.string a0,.int .i64 a1,.string a2,.string a3,.string a4,.string a5,.string a6,.string a7,.string a8,.string a9,.string a10] 106)=W:=⟨_,rfl⟩;have hB2:Below w1.heap.size w1 W2:=by rw[←hW2];exact(Below.refl _ _).alloc (Nat.le_refl _) _
 obtain⟨p,hp⟩: ∃p,w1.heap.size=p:=⟨_,rfl⟩;have HCB:Hid (CB W2 p (clsO r0)):=by rw[←hW2,←hp];have:=cb_new w1 (clsO r0);rw[HV.out]at this;exact this
 have HB2:=Lib.hid (hB1.trans (hB2.mono hB1.size));have hpw:w.heap.size≤p:=by rw[←hp];exact hB1.size
 obtain⟨q,hq⟩: ∃q,W2.heap.size=q:=⟨_,rfl⟩;have hpq:p<q:=by rw[←hq];exact cb_lt HCB.out
 have HQ:=Lib.hid hq;clear hq hB1 hB2 HF;go_wp2_with fail;clear hW2 hp;go_loopw [3,5] (fun lv bv wr=> ∃ (pre:List Nat) (r:Option Nat),bv= .bool r.isSome∧Hid (OwnC wr q lv pre)∧Hid (lineO r0=pre++lineO r)∧Hid (∀k,r=some k→k<13)∧Hid (CB wr p (clsO r))∧Hid (Below w.heap.size w wr)∧Hid (q≤wr.heap.size)) (fun lv _ _=>5-vlen lv);case atStart=>exact⟨[],r0,by rw[HB0.out],kt.row_nil _ _ _ _,rfl,HLT.out,HCB.out,HB2.out,Nat.le_of_eq HQ.out.symm⟩
 case round=>
  obtain⟨pre,r,rfl,hO,hL,hK,hC,hB,hD⟩:=hrel;clear HV HB0 HCB HB2 HQ;cases r with
  | none=>have HL:Hid (lineO r0=pre):=(by show _=_;rw[hL.out];simp[lineO]);go_wp2_with fail;go_ret;exact⟨_,rfl,by rw[HL.out];exact ownC_mono hO.out (by omega),hB.out⟩
  | some k=>
   have hk:=hK.out k rfl;have hlen:=lineO_len r0 HLT.out;rw[hL.out,List.length_append]at hlen;have hlk:0<(lineO (some k)).length:=(by show 0<(lineK k).length;rw[lineK_step ⟨k,hk⟩];simp);have hstep:lineO (some k)=k::lineO (idx (clsA k).above):=(by show lineK k=_;rw[lineK_step ⟨k,hk⟩];cases idx (clsA k).above<;>rfl);have HL2:Hid (lineO r0=(pre++[k])++lineO (idx (clsA k).above)):=(by show _=_;rw[hL.out,hstep];simp);have hpl:pre.length≤3:=(by omega);have hD1:=hD.out;obtain⟨v',wa,hrun,hO2,hg,hBa⟩:=ownC_app k hO.out (by omega) hD1;have HC0:Hid (CB wr p (clsA k)):=hC.out;have HC1:Hid (CB wa p (clsA k)):=cb_same HC0.out (hBa.block p hpq);obtain⟨c0,c1,c2,c3,c4,c5,c6,c7,c8,c9,c10,hv,hx0,hx1,hx2⟩:=cls_letters (clsA k);have hx2':idx (clsA k).above=idx c2.data.toList:=(by rw[hx2];rfl);rw[hx2']at HL2;obtain⟨d0,d1,d2,d3,d4,d5,d6,d7,d8,d9,d10⟩:=cb_cells HC0.out hv;obtain⟨g0,g1,g2,g3,g4,g5,g6,g7,g8,g9,g10⟩:=cb_cells HC1.out hv;rw[hv]at hrun;have hva:vlen v'=pre.length+1:=(by rw[ownC_len hO2,List.length_append];rfl);have hvl:vlen u3=pre.length:=ownC_len hO.out;have HVA:=Lib.hid hva;have HVL:=Lib.hid hvl;have HO2:=Lib.hid hO2;have hsa:=hBa.size;have HBa:=Lib.hid (hB.out.trans (hBa.mono (by omega)));have HFA:=Lib.hid (HF0.out c2 wa);have HKL:Hid (∀j,idx c2.data.toList=some j→j<13):=fun j h=>idx_lt h;generalize idx c2.data.toList=r at HL2 HFA HKL;obtain⟨e0,e1,e2,e3,e4,e5,e6,e7,e8,e9,e10,hv2,hy0,hy1,hy2⟩:=cls_letters (clsO r);have HV2:=Lib.hid hv2;rw[hv2]at HFA;clear hv hv2 hx0 hx1 hx2 hx2' hlen hlk hstep hy0 hy1 hy2 hBa hO2 hva hvl hg;go_wp2_with (refine Lib.wpList_append_run _ rfl _ _ _ _ rfl _ _ rfl rfl _ _ hrun ?_);refine HFA.out.mono ?_;rintro e w5 ⟨rfl,hB5⟩;have HC5:=Lib.hid (cb_below HC1.out hB5);have hth:=HC5.out.2;have HO5:Hid (OwnC (w5.setCells p 0 (clsV (clsO r))) q v' (pre++[k])):=ownC_other (ownC_below HO2.out hB5) fun b hb=>World.heap_setCells_other _ _ _ _ (Nat.lt_of_lt_of_le (HO2.out.lt b hb).2 hB5.size) (by have:=(HO2.out.lt b hb).1;omega);have HCB:Hid (CB (w5.setCells p 0 (clsV (clsO r))) p (clsO r)):=cb_set HC5.out _;have HB5:Hid (Below w.heap.size w (w5.setCells p 0 (clsV (clsO r)))):=Lib.below_setCells p hpw _ _ (HBa.out.trans (hB5.mono HBa.out.size));have HS5:Hid (q≤(w5.setCells p 0 (clsV (clsO r))).heap.size):=(by show _≤_;exact Nat.le_trans (Nat.le_trans (Nat.le_trans hD1 hsa) hB5.size) (Lib.below_setCells (B:=p) p (Nat.le_refl _) (clsV (clsO r)) 0 (Below.refl p w5)).size);rw[HV2.out]at HO5 HCB HB5 HS5;clear hB5 d0 d1 d2 d3 d4 d5 d6 d7 d8 d9 d10 g0 g1 g2 g3 g4 g5 g6 g7 g8 g9 g10 hrun HFA;go_wp2_with (refine wpList_store_mid rfl 106 _ _ rfl p 0 #[.string e0,.int .i64 e1,.string e2,.string e3,.string e4,.string e5,.string e6,.string e7,.string e8,.string e9,.string e10] rfl rfl hth cinfo (by simp[Value.oneCell']) ?_);go_roundw;case rel=>exact⟨pre++[k],r,rfl,HO5,HL2,HKL,HCB,HB5,HS5⟩
   case measure=>show 5-vlen v'<5-vlen u3;rw[HVA.out,HVL.out];omega
end scw
end Go.Proofs.YtmnpfkbjpeaemaaGreatDoor
namespace Go.Proofs
def Tryz.laysSlH6_f146_ren:Go.Shelf.Ren:=⟨fun | 6=>146 | n=>n,fun | 22=>35 | 23=>9 | 25=>31 | 3=>3 | 0=>0 | 4=>4 | n=>n,fun | n=>n⟩
theorem Tryz.laysSlH6_f146:Go.Proofs.SlLaysH.n6 Tryz.prog Tryz.laysSlH6_f146_ren:={
 mixed:=by kernel_rfl
 f6:=⟨Tryz.f146.name,by decide,Tryz.func146.trans (congrArg some (by kernel_rfl))⟩
 t0:=Tryz.underlying0
 a0:=Tryz.isAgg0
 z0:=Tryz.sizeOf0
 v0:=Tryz.zeroValue0
 t3:=Tryz.underlying3
 a3:=Tryz.isAgg3
 z3:=Tryz.sizeOf3
 v3:=Tryz.zeroValue3
 t4:=Tryz.underlying4
 a4:=Tryz.isAgg4
 z4:=Tryz.sizeOf4
 v4:=Tryz.zeroValue4
 t22:=Tryz.underlying35
 a22:=Tryz.isAgg35
 z22:=Tryz.sizeOf35
 v22:=Tryz.zeroValue35
 a23:=Tryz.isAgg9
 z23:=Tryz.sizeOf9
 t25:=Tryz.underlying31
 a25:=Tryz.isAgg31
 z25:=Tryz.sizeOf31
 v25:=Tryz.zeroValue31}
open Go.RowKit Go.Lib in
theorem Tryz.slices_IndexFunc_empty {α:Type}[Inhabited α](a:Option Addr)(c:Nat)(fv:Value)(w:World):
  Calls Tryz.prog 146 #[.slice a 0 c,fv] w fun e w'=>e= .returned (.int .i64 (-1))∧w'=w:=AnyE.slices_IndexFunc_empty Tryz.laysSlH6_f146 a c fv w
def Tryz.laysSlH10_f143_ren:Go.Shelf.Ren:=⟨fun | 10=>143 | 6=>146 | n=>n,fun | 22=>35 | 23=>9 | 25=>31 | 3=>3 | 4=>4 | 0=>0 | n=>n,fun | n=>n⟩
theorem Tryz.laysSlH10_f143:Go.Proofs.SlLaysH.n10 Tryz.prog Tryz.laysSlH10_f143_ren:={
 mixed:=by kernel_rfl
 f6:=⟨Tryz.f146.name,by decide,Tryz.func146.trans (congrArg some (by kernel_rfl))⟩
 f10:=⟨Tryz.f143.name,by decide,Tryz.func143.trans (congrArg some (by kernel_rfl))⟩
 t0:=Tryz.underlying0
 a0:=Tryz.isAgg0
 z0:=Tryz.sizeOf0
 v0:=Tryz.zeroValue0
 t3:=Tryz.underlying3
 a3:=Tryz.isAgg3
 z3:=Tryz.sizeOf3
 v3:=Tryz.zeroValue3
 t4:=Tryz.underlying4
 a4:=Tryz.isAgg4
 z4:=Tryz.sizeOf4
 v4:=Tryz.zeroValue4
 t22:=Tryz.underlying35
 a22:=Tryz.isAgg35
 z22:=Tryz.sizeOf35
 v22:=Tryz.zeroValue35
 a23:=Tryz.isAgg9
 z23:=Tryz.sizeOf9
 t25:=Tryz.underlying31
 a25:=Tryz.isAgg31
 z25:=Tryz.sizeOf31
 v25:=Tryz.zeroValue31}
open Go.RowKit Go.Lib Go.Sort in
theorem Tryz.slices_DeleteFunc {α:Type}[Inhabited α](enc:α→Value)(hO:OneCell enc)(p:α→Bool)(g:Nat)(lb:Array Value)(eg: ∀args w,(callFunc g args).run Tryz.prog w= .ok (.enter g args) w)(zr:α)(v23: ∀w,(zeroValue 9).run Tryz.prog w= .ok (enc zr) w)(blk off cap:Nat)(d:Array α)(w:World)(hp:PredAt Tryz.prog g lb enc p w)(hpo:PredOver Tryz.prog g lb enc p blk off d.size w)(hH:Holds enc w blk off d)(hsz:d.size≤9223372036854775807)(hcap:d.size≤cap):
  Calls Tryz.prog 143 #[.slice (some ⟨blk,off,none⟩) d.size cap,.func (.func g) #[] lb] w fun e w'=>e= .returned (.slice (some ⟨blk,off,none⟩) (d.toList.filter fun x=> !p x).length cap)∧ ∃q,w'=putRow enc (Sort.ahead w q) blk off ((d.toList.filter fun x=> !p x)++List.replicate (d.size- (d.toList.filter fun x=> !p x).length) zr).toArray:=AnyE.slices_DeleteFunc Tryz.laysSlH10_f143 enc hO p g lb eg zr v23 blk off cap d w hp hpo hH hsz hcap
end Go.Proofs
namespace Go.Proofs.YtmnpfkbjpeaemaaGreatDoor
open Go.RowKit
namespace scw
open scp atw
open Go.Sort
theorem scells_ss (l:List (List UInt8)):prw.scells (l.map bs)=l.map encStr:=by unfold prw.scells;rw[List.map_map];rfl
def OwnS (w:World)(B:Nat)(v:Value)(l:List (List UInt8)):Prop:=prw.OwnT w B v (l.map bs)
theorem put_own {w:World}{B g cap q m:Nat}{cur:Array Value}(ts:List (List UInt8))(hBg:B≤g)(hg:w.heap[g]? =some (.cells cur 9 (0,0)))(h2:cap≤maxLen)(h3:cur.size=cap*1)(ht:ts.length≤cap)(hm:m≤ts.length):
  OwnS (putRow encStr (Sort.ahead w q) g 0 ts.toArray) B (.slice (some ⟨g,0,none⟩) m cap) (ts.take m)∧w.grownBy (putRow encStr (Sort.ahead w q) g 0 ts.toArray) (some g):=by
 have hb':=heap_sorted (os:=#[]) (n:=q) ts.toArray hg;have hgr:=grownBy_sorted (w:=w) (g:=g) (n:=q) (os:=#[]) ts.toArray;rw[grow_empty]at hb' hgr;refine⟨?_,hgr⟩;have htk:=take_putCells cur ts (by omega);have hml:((ts.take m).map bs).length=m:=by rw[List.length_map,List.length_take];omega
 unfold OwnS prw.OwnT;refine⟨(Nat.mul_one _).symm,.inr ⟨g,cap,_,?_,hBg,hb',?_,h2,?_,?_⟩⟩
 ·rw[prw.scells_length,hml]
 ·rw[prw.scells_length,hml];omega
 ·simp[putCells,h3]
 ·rw[Nat.mul_one,prw.scells_length,hml,scells_ss];have e3:=congrArg (List.take m) htk;rw[List.take_take,Nat.min_eq_left hm]at e3;rw[e3,List.map_take]
theorem ownS_cases {w:World}{B:Nat}{v:Value}{l:List (List UInt8)}(h:OwnS w B v l):(v= .slice none 0 0∧l=[])∨ ∃g cap cur,v= .slice (some ⟨g,0,none⟩) l.length cap∧B≤g∧g<w.heap.size∧w.heap[g]? =some (.cells cur 9 (0,0))∧l.length≤cap∧cap≤maxLen∧cur.size=cap*1∧Holds encStr w g 0 l.toArray:=by
 unfold OwnS prw.OwnT at h;rw[scells_ss,List.length_map]at h;rcases h.2 with⟨hv,h0⟩ | ⟨g,cap,cur,hv,hBg,hg,h1,h2,h3,h4⟩
 ·exact Or.inl ⟨hv,List.eq_nil_of_length_eq_zero h0⟩
 ·rw[Nat.mul_one]at h4;exact Or.inr ⟨g,cap,cur,hv,hBg,kt.bld_lt hg,hg,h1,h2,h3,holds_of_block hg h4⟩
theorem compact_len (zs:List (List UInt8)):(Lib.compact zs).length≤zs.length:=by unfold Lib.compact Lib.compactUpTo;rw[List.length_map];exact Nat.le_trans (List.length_filter_le _ _) (by simp)
def emptyL (x:List UInt8):Bool:=x.isEmpty
theorem tclo_any (x:List UInt8)(W:World):Calls Tryz.prog 144 #[encStr x] W fun e w'=>e= .returned (.bool (emptyL x))∧ ∃q,w'=W.drewN q:=by show Calls _ _ #[.string ⟨x.toArray⟩] _ _;go_enter Tryz.func144,Tryz.ntmps144;go_wp2_with fail;go_ret;exact⟨rfl,0,rfl⟩
theorem delfT {w:World}{B:Nat}{v:Value}{l:List (List UInt8)}(h:OwnS w B v l)(hl:l.length≤1000000)(hB:B≤w.heap.size):
  Calls Tryz.prog 143 #[v,.func (.func 144) #[] #[]] w fun e w'=> ∃v',e= .returned v'∧OwnS w' B v' (l.filter fun x=> !emptyL x)∧Below B w w':=by
 rcases ownS_cases h with⟨rfl,rfl⟩ | ⟨g,cap,cur,rfl,hBg,hgl,hg,h1,h2,h3,hH⟩
 ·have HIF:=Lib.hid (Tryz.slices_IndexFunc_empty (α:=List UInt8) none 0 (.func (.func 144) #[] #[]) w);have HO:=Lib.hid h;clear h;go_enter Tryz.func143,Tryz.ntmps143;go_wp2_with fail;refine HIF.out.mono ?_;rintro e w1 ⟨rfl,h1⟩;have h1:w1=w:=by first | exact h1 | exact h1.symm
  subst h1;go_wp2_with fail;go_ret;exact⟨_,rfl,HO.out,Below.refl _ _⟩
 ·have hp:PredAt Tryz.prog 144 #[] encStr emptyL w:=fun W x _=>by unfold FnGives;exact tclo_any x W
  have hpo:PredOver Tryz.prog 144 #[] encStr emptyL g 0 l.toArray.size w:=fun n os dk x _=>by unfold FnGives;exact tclo_any x _
  have C:=Tryz.slices_DeleteFunc encStr (fun x=>rfl) emptyL 144 #[] (fun args w=>by first | rfl | exact enters_of Tryz.func144 args w) [] (fun w=>by rfl) g 0 cap l.toArray w hp hpo hH (by simp;omega) (by simpa using h1);simp only[List.size_toArray]at C;refine C.mono ?_;rintro e w' ⟨rfl,q,rfl⟩;have hfl:(l.filter fun x=> !emptyL x).length≤l.length:=List.length_filter_le _ _;obtain⟨ho,hgr⟩:=put_own (w:=w) (q:=q) (m:=(l.filter fun x=> !emptyL x).length) ((l.filter fun x=> !emptyL x)++List.replicate (l.length- (l.filter fun x=> !emptyL x).length) []) hBg hg h2 h3 (by rw[List.length_append,List.length_replicate];omega) (by rw[List.length_append];omega);rw[List.take_left' rfl]at ho;exact⟨_,rfl,ho,(Below.refl B w).grown hgr hB (fun k hk=>by cases hk;exact hBg)⟩
theorem compactT {w:World}{B:Nat}{v:Value}{l:List (List UInt8)}(h:OwnS w B v l)(hl:l.length≤1000000)(hB:B≤w.heap.size):
  Calls Tryz.prog 117 #[v] w fun e w'=> ∃v',e= .returned v'∧OwnS w' B v' (Lib.compact l)∧Below B w w':=by
 rcases ownS_cases h with⟨rfl,rfl⟩ | ⟨g,cap,cur,rfl,hBg,hgl,hg,h1,h2,h3,hH⟩
 ·refine(Tryz.slices_Compact_string_empty none 0 w).mono ?_;rintro e w1 ⟨rfl,h1⟩;have h1:w1=w:=by first | exact h1 | exact h1.symm
  subst h1;exact⟨_,rfl,h,Below.refl _ _⟩
 ·refine(Tryz.slices_Compact_string g 0 cap l w hH (by omega) h1).mono ?_;rintro e w' ⟨rfl,q,rfl⟩;have hfl:(Lib.compact l).length≤l.length:=compact_len l;obtain⟨ho,hgr⟩:=put_own (w:=w) (q:=q) (m:=(Lib.compact l).length) (Lib.compact l++List.replicate (l.length- (Lib.compact l).length) []) hBg hg h2 h3 (by rw[List.length_append,List.length_replicate];omega) (by rw[List.length_append];omega);rw[List.take_left' rfl]at ho;exact⟨_,rfl,ho,(Below.refl B w).grown hgr hB (fun k hk=>by cases hk;exact hBg)⟩
def tidyL (l:List (List UInt8)):List (List UInt8):=Lib.compact (dnw.sortL (l.filter fun x=> !emptyL x))
theorem sortS {w:World}{B:Nat}{v:Value}{l:List (List UInt8)}(h:OwnS w B v l)(hl:l.length≤1000000)(hB:B≤w.heap.size):
  Calls Tryz.prog 116 #[v] w fun e w'=>e= .returned (.tuple #[])∧OwnS w' B v (dnw.sortL l)∧Below B w w':=by
 obtain⟨ao,cap,rfl,_,_⟩:=prw.ownT_cells h;have:=dnw.sortT h (by rw[List.length_map];omega) hB;refine this.mono ?_;rintro e w' ⟨he,ho,hb⟩;refine⟨he,?_,hb⟩;have e1:(l.map bs).map (·.data.toList)=l:=by
  rw[List.map_map];conv=>rhs;rw[←List.map_id l]
  exact List.map_congr_left fun x _=>rfl
 rw[e1]at ho;exact ho
theorem tidy_any {w:World}{B:Nat}{v:Value}{l:List (List UInt8)}(h:Hid (OwnS w B v l))(hl:l.length≤1000000)(hB:B≤w.heap.size):
  Calls Tryz.prog 84 #[v] w fun e w'=> ∃v',e= .returned v'∧OwnS w' B v' (tidyL l)∧Below B w w':=by
 have HD:=Lib.hid (delfT h.out hl hB);have hfl:(l.filter fun x=> !emptyL x).length≤l.length:=List.length_filter_le _ _;have HT:Hid (tidyL l=Lib.compact (dnw.sortL (l.filter fun x=> !emptyL x))):=rfl;rw[HT.out];clear HT;generalize(l.filter fun x=> !emptyL x)=m at HD hfl ⊢;have hsl:(dnw.sortL m).length=m.length:=by unfold dnw.sortL;simp
 go_enter Tryz.func84,Tryz.ntmps84;go_wp2_with fail;refine HD.out.mono ?_;rintro e w1 ⟨v1,rfl,h1,hB1⟩;have HS:=Lib.hid (sortS h1 (by omega) (Nat.le_trans hB hB1.size));have HB1:=Lib.hid hB1;clear h1 hB1;go_wp2_with fail;refine HS.out.mono ?_;rintro e w2 ⟨rfl,h2,hB2⟩;have HB2:=Lib.hid (HB1.out.trans hB2);have HC:=Lib.hid (compactT h2 (by omega) (Nat.le_trans hB HB2.out.size));clear h2 hB2;go_wp2_with fail;refine HC.out.mono ?_;rintro e w3 ⟨v3,rfl,h3,hB3⟩;have HB3:=Lib.hid (HB2.out.trans hB3);have HO:=Lib.hid h3;clear h3 hB3;go_wp2_with fail;go_ret;exact⟨_,rfl,HO.out,HB3.out⟩
end scw
open Go.RowKit
namespace scw
open scp atw etw
open Go.Sort
def rawMS (k:Nat):List T:=List.getD [[[111,98,106,101,99,116,99,108,97,115,115]],[[100,99],[111,98,106,101,99,116,99,108,97,115,115]],[[111],[111,98,106,101,99,116,99,108,97,115,115]],[[111,98,106,101,99,116,99,108,97,115,115],[111,117]],[[99,110],[111,98,106,101,99,116,99,108,97,115,115],[115,110]],[[99,110],[111,98,106,101,99,116,99,108,97,115,115],[115,110]],[[99,110],[111,98,106,101,99,116,99,108,97,115,115],[115,110]],[[111,98,106,101,99,116,99,108,97,115,115],[117,105,100]],[[99,110],[109,101,109,98,101,114],[111,98,106,101,99,116,99,108,97,115,115]],[[99,110],[111,98,106,101,99,116,99,108,97,115,115]],[[111,98,106,101,99,116,99,108,97,115,115],[117,105,100]],[[111,98,106,101,99,116,99,108,97,115,115]],[[111,98,106,101,99,116,99,108,97,115,115],[117,115,101,114,112,97,115,115,119,111,114,100]]] k []
def rawYS (k:Nat):List T:=List.getD [[],[[100,101,115,99,114,105,112,116,105,111,110],[108],[111],[115,101,101,97,108,115,111]],[[100,101,115,99,114,105,112,116,105,111,110],[108],[115,101,101,97,108,115,111],[116,101,108,101,112,104,111,110,101,110,117,109,98,101,114]],[[100,101,115,99,114,105,112,116,105,111,110],[108],[115,101,101,97,108,115,111],[116,101,108,101,112,104,111,110,101,110,117,109,98,101,114]],[[100,101,115,99,114,105,112,116,105,111,110],[115,101,101,97,108,115,111],[116,101,108,101,112,104,111,110,101,110,117,109,98,101,114],[117,115,101,114,112,97,115,115,119,111,114,100]],[[100,101,115,99,114,105,112,116,105,111,110],[108],[111,117],[115,101,101,97,108,115,111],[116,101,108,101,112,104,111,110,101,110,117,109,98,101,114],[116,105,116,108,101],[117,115,101,114,112,97,115,115,119,111,114,100]],[[100,101,115,99,114,105,112,116,105,111,110],[108],[109,97,105,108],[111],[111,117],[112,104,111,116,111],[115,101,101,97,108,115,111],[116,101,108,101,112,104,111,110,101,110,117,109,98,101,114],[116,105,116,108,101],[117,105,100],[117,115,101,114,112,97,115,115,119,111,114,100]],[[100,101,115,99,114,105,112,116,105,111,110],[108],[111],[111,117],[115,101,101,97,108,115,111]],[[100,101,115,99,114,105,112,116,105,111,110],[111],[111,117],[115,101,101,97,108,115,111]],[[100,101,115,99,114,105,112,116,105,111,110],[108],[111],[111,117],[115,101,101,97,108,115,111],[115,101,114,105,97,108,110,117,109,98,101,114]],[],[[101,110,97,98,108,101,100],[108,105,109,105,116],[117,105,100,110,117,109,98,101,114]],[]] k []
theorem rawM_perm: ∀k:Fin 13,((rawMust k.val).filter fun x=> !emptyL x).Perm (rawMS k.val):=by decide+kernel
theorem rawY_perm: ∀k:Fin 13,((rawMay k.val).filter fun x=> !emptyL x).Perm (rawYS k.val):=by decide+kernel
theorem rawM_sort: ∀k:Fin 13,(rawMS k.val).Pairwise (fun a b=>decide (a≤b)=true):=by decide+kernel
theorem rawY_sort: ∀k:Fin 13,(rawYS k.val).Pairwise (fun a b=>decide (a≤b)=true):=by decide+kernel
theorem rawM_comp: ∀k:Fin 13,Lib.compact (rawMS k.val)=mustK k.val:=by decide+kernel
theorem rawY_comp: ∀k:Fin 13,Lib.compact (rawYS k.val)=mayK k.val:=by decide+kernel
theorem tidy_of {l m r:List T}(h1:(l.filter fun x=> !emptyL x).Perm m)(h2:m.Pairwise (fun a b=>decide (a≤b)=true))(h3:Lib.compact m=r):tidyL l=r:=by
 unfold tidyL;rw[dnw.sortL_perm h1];have:dnw.sortL m=m:=by unfold dnw.sortL;exact List.mergeSort_of_pairwise h2
 rw[this,h3]
def mustN (n:T):List T:=match idx n with
 | some k=>mustK k
 | none=>[]
def mayN (n:T):List T:=match idx n with
 | some k=>mayK k
 | none=>[]
def aboveN (n:T):List T:=match idx n with
 | some k=>aboveK k
 | none=>[]
theorem tidy_must (n:T):tidyL ((lineN n).flatMap fun k=>(clsA k).must)=mustN n:=by
 unfold lineN mustN;cases h:idx n with
 | none=>exact tidy_of (m:=[]) (by decide) (by decide) (by decide)
 | some k=>exact tidy_of (rawM_perm ⟨k,idx_lt h⟩) (rawM_sort ⟨k,idx_lt h⟩) (rawM_comp ⟨k,idx_lt h⟩)
theorem tidy_may (n:T):tidyL ((lineN n).flatMap fun k=>(clsA k).may)=mayN n:=by
 unfold lineN mayN;cases h:idx n with
 | none=>exact tidy_of (m:=[]) (by decide) (by decide) (by decide)
 | some k=>exact tidy_of (rawY_perm ⟨k,idx_lt h⟩) (rawY_sort ⟨k,idx_lt h⟩) (rawY_comp ⟨k,idx_lt h⟩)
theorem line_lt {n:T}: ∀k∈lineN n,k<13:=by
 intro k hk;unfold lineN at hk;cases h:idx n with
 | none=>rw[h]at hk;cases hk
 | some j=>rw[h]at hk;exact lineK_lt ⟨j,idx_lt h⟩ k hk
theorem line_len (n:T):(lineN n).length≤4:=lineO_len _ fun k h=>idx_lt h
theorem ownC_at {w:World}{B:Nat}{ao:Option Addr}{n cap:Nat}{l:List Nat}(h:OwnC w B (.slice ao n cap) l){i:Nat}(hi:i<l.length): ∃g,ao=some ⟨g,0,none⟩∧CA w g (i*11) (clsA l[i]):=by
 have hn:n=l.length:=by have:=ownC_len h;exact this
 subst hn;obtain⟨g,rfl,hc,_⟩:=kt.rowS_some h (by omega);refine⟨g,rfl,fun j v hv=>hc _ _ ?_⟩;have hj:j<11:=(List.getElem?_eq_some_iff.1 hv).1;rw[kt.flat_get (fun k=>clsV (clsA k)) 11 (fun k=>rfl) l i j hi hj];exact hv
theorem ownS_below {w w':World}{B:Nat}{v:Value}{l:List T}(h:OwnS w B v l)(hb:Below w.heap.size w w'):OwnS w' B v l:=kt.row_below h hb
theorem ownS_mono {w:World}{B D:Nat}{v:Value}{l:List T}(h:OwnS w B v l)(hc:D≤B):OwnS w D v l:=by
 refine⟨h.1,?_⟩;rcases h.2 with h0 | ⟨g,cap,cur,hv,hBg,hr⟩
 ·exact Or.inl h0
 ·exact Or.inr ⟨g,cap,cur,hv,Nat.le_trans hc hBg,hr⟩
theorem ownS_nil (w:World)(B:Nat):OwnS w B (.slice none 0 0) []:=World.ownsRow_nil w B _ _
theorem ownS_appN {w:World}{B p o m c:Nat}{v:Value}{l:List T}(news:List T)(hm:news.length=m)(hc: ∀j x,news[j]? =some x→w.cell? ⟨p,o+j,none⟩=some (.string (bs x)))(h:OwnS w B v l)(hl:l.length+m≤100000000)(hB:B≤w.heap.size):
  ∃v' w1,(Builtin.append_ #[35,35] 35 #[v,.slice (some ⟨p,o,none⟩) m c]).run Tryz.prog w= .ok v' w1∧OwnS w1 B v' (l++news)∧Below B w w1:=by
 have hsl:(prw.scells (l.map bs)).length=l.length:=by rw[prw.scells_length,List.length_map]
 obtain⟨v',w1,h1,h2,_,h3⟩:=kt.appN (P:=Tryz.prog) (t:=35) (ty:=35) Tryz.underlying35 prw.infoStr rfl (xs:=prw.scells (l.map bs)) ⟨p,o,none⟩ m c (prw.scells (news.map bs)) (by rw[prw.scells_length,List.length_map];exact hm)
  (fun j u hj=>by
   rw[Addr.add_mid];unfold prw.scells at hj;rw[List.map_map,List.getElem?_map]at hj;cases hx:news[j]? with
   | none=>rw[hx]at hj;cases hj
   | some x=>rw[hx]at hj;cases hj;exact hc j x hx)
  (fun u hu=>by unfold prw.scells at hu;rw[List.map_map,List.mem_map]at hu;obtain⟨x,_,rfl⟩:=hu;rfl) h (by rw[hsl];unfold maxLen;omega) (by rw[hsl];omega) hB
 refine⟨v',w1,h1,?_,h3⟩;unfold OwnS prw.OwnT;have e:prw.scells ((l++news).map bs)=prw.scells (l.map bs)++prw.scells (news.map bs):=by simp[prw.scells]
 rw[e];exact h2
theorem must_two: ∀k:Fin 13,(clsA k.val).must=[(clsA k.val).must.getD 0 [],(clsA k.val).must.getD 1 []]:=by decide+kernel
theorem may_six: ∀k:Fin 13,(clsA k.val).may=[(clsA k.val).may.getD 0 [],(clsA k.val).may.getD 1 [],(clsA k.val).may.getD 2 [],(clsA k.val).may.getD 3 [],(clsA k.val).may.getD 4 [],(clsA k.val).may.getD 5 []]:=by decide+kernel
theorem must_cells {w:World}{p k:Nat}(hk:k<13)(h:CB w p (clsA k)): ∀j x,(clsA k).must[j]? =some x→w.cell? ⟨p,3+j,none⟩=some (.string (bs x)):=by
 intro j x hx;rw[must_two ⟨k,hk⟩]at hx;have hj:j<2:=(List.getElem?_eq_some_iff.1 hx).1;have hr:=h.1 (3+j);rw[Nat.zero_add]at hr;refine hr _ ?_;rcases j with _ | _ | j
 ·cases hx;rfl
 ·cases hx;rfl
 ·omega
theorem may_cells {w:World}{p k:Nat}(hk:k<13)(h:CB w p (clsA k)): ∀j x,(clsA k).may[j]? =some x→w.cell? ⟨p,5+j,none⟩=some (.string (bs x)):=by
 intro j x hx;rw[may_six ⟨k,hk⟩]at hx;have hj:j<6:=(List.getElem?_eq_some_iff.1 hx).1;have hr:=h.1 (5+j);rw[Nat.zero_add]at hr;refine hr _ ?_;rcases j with _ | _ | _ | _ | _ | _ | j
 ·cases hx;rfl
 ·cases hx;rfl
 ·cases hx;rfl
 ·cases hx;rfl
 ·cases hx;rfl
 ·cases hx;rfl
 ·omega
theorem must_len2: ∀k:Fin 13,(clsA k.val).must.length=2∧(clsA k.val).may.length=6:=by decide+kernel
theorem ownS_app1 {w:World}{B:Nat}{v:Value}{l:List T}(x:T)(h:OwnS w B v l)(hl:l.length≤1000000)(hB:B≤w.heap.size):
  ∃v' w1,(Builtin.append_ #[35,35] 35 #[v,.slice (some ⟨w.heap.size,0,none⟩) 1 1]).run Tryz.prog (w.alloc (.cells #[.string (bs x)] 9))= .ok v' w1∧OwnS w1 B v' (l++[x])∧Below B w w1:=by
 obtain⟨v',w1,h1,h2,h3⟩:=prw.ownT_app (bs x) h (by rw[List.length_map];omega) hB;refine⟨v',w1,h1,?_,h3⟩;unfold OwnS;rw[List.map_append];exact h2
theorem above_all: ∀k:Fin 13,aboveK k.val=((lineK k.val).filter fun j=>decide ((clsA j).name≠(clsA k.val).name)).map fun j=>(clsA j).name:=by decide+kernel
theorem above_filter (n:T):aboveN n=((lineN n).filter fun k=>decide ((clsA k).name≠n)).map fun k=>(clsA k).name:=by
 unfold aboveN lineN;cases h:idx n with
 | none=>rfl
 | some k=>have h2:=above_all ⟨k,idx_lt h⟩;rw[(idx_some h).2]at h2;exact h2
theorem lineC_any (n:ByteArray)(w:World):Calls Tryz.prog 83 #[.string n] w fun e w'=> ∃ao cap,e= .returned (.slice ao (lineN n.data.toList).length cap)∧OwnC w' w.heap.size (.slice ao (lineN n.data.toList).length cap) (lineN n.data.toList)∧Below w.heap.size w w':=(sline_any n w).mono fun e w' ⟨v,he,ho,hb⟩=>by obtain⟨ao,cap,rfl,_⟩:=kt.rowS_slice ho;exact⟨ao,cap,he,ho,hb⟩
theorem smust_any (n:ByteArray)(w:World)(hn:n.size≤10000000):
  Calls Tryz.prog 27 #[.string n] w fun e w'=> ∃v,e= .returned v∧OwnS w' w.heap.size v (mustN (sml.lowL n.data.toList))∧Below w.heap.size w w':=by
 obtain⟨nl,hnl⟩: ∃nl,sml.lowL n.data.toList=nl:=⟨_,rfl⟩;have HLO:Hid (∀W,Calls Tryz.prog 82 #[.string n] W fun e w'=>e= .returned (.string (bs nl))∧Below W.heap.size W w'):=fun W=>by rw[←hnl];exact slower_any n W hn
 have HLI:Hid (∀W,Calls Tryz.prog 83 #[.string (bs nl)] W fun e w'=> ∃ao cap,e= .returned (.slice ao (lineN nl).length cap)∧OwnC w' W.heap.size (.slice ao (lineN nl).length cap) (lineN nl)∧Below W.heap.size W w'):=fun W=>lineC_any (bs nl) W;have HRES:Hid (tidyL ((lineN nl).flatMap fun k=>(clsA k).must)=mustN nl):=tidy_must nl;rw[hnl,←HRES.out];have HLK:Hid (∀k∈lineN nl,k<13):=line_lt;have HL4:=line_len nl;clear HRES hnl;generalize lineN nl=ls at HLI HLK HL4 ⊢;obtain⟨N,hN⟩: ∃N,ls.length=N:=⟨_,rfl⟩;rw[hN]at HLI HL4;have HN:=Lib.hid hN;clear hN;go_enter Tryz.func27,Tryz.ntmps27;go_wp2_with fail;refine(HLO.out w).mono ?_;rintro e w1 ⟨rfl,hB1⟩;have HB1:=Lib.hid hB1;have HLI1:=Lib.hid (HLI.out w1);clear hB1 HLI HLO;go_wp2_with fail;refine HLI1.out.mono ?_;rintro e w2 ⟨ao,cap,rfl,hr,hB2⟩;have HB2:=Lib.hid (HB1.out.trans (hB2.mono HB1.out.size));have HR:=Lib.hid hr;clear hB2 hr HLI1;go_wp2_with fail;go_loopw [3,10] (fun lv iv wr=> ∃i:Nat,i≤N∧iv= .int .i64 (i:Int)∧Hid (OwnS wr w2.heap.size lv ((ls.take i).flatMap fun k=>(clsA k).must))∧Hid (Below w2.heap.size w2 wr)∧Hid (((ls.take i).flatMap fun k=>(clsA k).must).length≤6*i)) (fun _ iv _=>N- (intOf iv).toNat);case atStart=>exact⟨0,Nat.zero_le _,rfl,ownS_nil _ _,Below.refl _ _,Nat.le_refl _⟩
 case round=>
  obtain⟨i,hi,rfl,hO,hB,hS⟩:=hrel;have hsz:=hB.out.size;by_cases hlt:i<N
  ·skip
   have hlt':(i:Int)<(N:Int):=(by omega);have hil:i<ls.length:=(by rw[HN.out];exact hlt);obtain⟨g,hg,hca0⟩:=ownC_at HR.out hil;subst hg;have hk:=HLK.out ls[i] (List.getElem_mem _);have HTS:Hid (ls.take (i+1)=ls.take i++[ls[i]]):=(by show _=_;rw[List.take_succ_eq_append_getElem hil]);have hca:=ca_below hca0 hB.out;obtain⟨k,hk0⟩: ∃k,ls[i]=k:=⟨_,rfl⟩;rw[hk0]at hca hk HTS;obtain⟨c0,c1,c2,c3,c4,c5,c6,c7,c8,c9,c10,hv,hx0,hx1,hx2⟩:=cls_letters (clsA k);have HV:=Lib.hid hv;have HX0:=Lib.hid hx0;obtain⟨d0,d1,d2,d3,d4,d5,d6,d7,d8,d9,d10⟩:=ca_cells hca hv;obtain⟨W3,hW3⟩: ∃W,wr.alloc (.cells #[.string c0,.int .i64 c1,.string c2,.string c3,.string c4,.string c5,.string c6,.string c7,.string c8,.string c9,.string c10] 106)=W:=⟨_,rfl⟩;have hB3:Below wr.heap.size wr W3:=(by rw[←hW3];exact(Below.refl _ _).alloc (Nat.le_refl _) _);have HCB:Hid (CB W3 wr.heap.size (clsA k)):=(by rw[←hW3];have:=cb_new wr (clsA k);rw[hv]at this;exact this);obtain⟨g0,g1,g2,g3,g4,g5,g6,g7,g8,g9,g10⟩:=cb_cells HCB.out hv;have HO3:=Lib.hid (ownS_below hO.out hB3);have HB3:=Lib.hid (hB.out.trans (hB3.mono hsz));have hs3:=HB3.out.size;clear hk0 hv hx0 hx1 hx2 hca hca0 hB3;have HFM:Hid (((ls.take (i+1)).flatMap fun k=>(clsA k).must)=((ls.take i).flatMap fun k=>(clsA k).must)++(clsA k).must):=(by show _=_;rw[HTS.out,List.flatMap_append];simp);have hS1:=hS.out;have hlen:(clsA k).must.length=2:=(must_len2 ⟨k,hk⟩).1;obtain⟨v',w4,hrun,ho4,hB4⟩:=ownS_appN (w:=W3) (B:=w2.heap.size) (p:=wr.heap.size) (o:=3) (m:=2) (c:=2) (clsA k).must hlen (must_cells hk HCB.out) HO3.out (by omega) hs3;have HO4:Hid (OwnS w4 w2.heap.size v' ((ls.take (i+1)).flatMap fun k=>(clsA k).must)):=(by show OwnS _ _ _ _;rw[HFM.out];exact ho4);have HB4:=Lib.hid (HB3.out.trans hB4);have HS4:Hid (((ls.take (i+1)).flatMap fun k=>(clsA k).must).length≤6*(i+1)):=(by show _≤_;rw[HFM.out,List.length_append];omega);clear ho4 hB4 hlen hk hS1;go_wp2_with (refine Lib.wpList_append_run _ rfl _ _ _ _ rfl _ _ rfl rfl _ _ hrun ?_);go_roundw;case rel=>exact⟨i+1,by omega,by go_num,HO4,HB4,HS4⟩
   case measure=>simp[intOf];omega
  ·obtain rfl:N=i:=(by omega);have hO2:=hO.out;rw[←HN.out,List.take_length]at hO2;have hS2:=hS.out;rw[←HN.out,List.take_length]at hS2;have HT:=Lib.hid (tidy_any (Lib.hid hO2) (by have:=HN.out;omega) hsz);have HB5:=Lib.hid (HB2.out.trans (hB.out.mono HB2.out.size));have hw2:=HB2.out.size;clear hO2 hS2;go_wp2_with fail;refine HT.out.mono ?_;rintro e w5 ⟨v5,rfl,ho5,hB6⟩;have HO5:=Lib.hid (ownS_mono ho5 hw2);have HB6:=Lib.hid (HB5.out.trans (hB6.mono hw2));clear ho5 hB6;go_wp2_with fail;go_ret;exact⟨_,rfl,HO5.out,HB6.out⟩
theorem smay_any (n:ByteArray)(w:World)(hn:n.size≤10000000):
  Calls Tryz.prog 28 #[.string n] w fun e w'=> ∃v,e= .returned v∧OwnS w' w.heap.size v (mayN (sml.lowL n.data.toList))∧Below w.heap.size w w':=by
 obtain⟨nl,hnl⟩: ∃nl,sml.lowL n.data.toList=nl:=⟨_,rfl⟩;have HLO:Hid (∀W,Calls Tryz.prog 82 #[.string n] W fun e w'=>e= .returned (.string (bs nl))∧Below W.heap.size W w'):=fun W=>by rw[←hnl];exact slower_any n W hn
 have HLI:Hid (∀W,Calls Tryz.prog 83 #[.string (bs nl)] W fun e w'=> ∃ao cap,e= .returned (.slice ao (lineN nl).length cap)∧OwnC w' W.heap.size (.slice ao (lineN nl).length cap) (lineN nl)∧Below W.heap.size W w'):=fun W=>lineC_any (bs nl) W;have HRES:Hid (tidyL ((lineN nl).flatMap fun k=>(clsA k).may)=mayN nl):=tidy_may nl;rw[hnl,←HRES.out];have HLK:Hid (∀k∈lineN nl,k<13):=line_lt;have HL4:=line_len nl;clear HRES hnl;generalize lineN nl=ls at HLI HLK HL4 ⊢;obtain⟨N,hN⟩: ∃N,ls.length=N:=⟨_,rfl⟩;rw[hN]at HLI HL4;have HN:=Lib.hid hN;clear hN;go_enter Tryz.func28,Tryz.ntmps28;go_wp2_with fail;refine(HLO.out w).mono ?_;rintro e w1 ⟨rfl,hB1⟩;have HB1:=Lib.hid hB1;have HLI1:=Lib.hid (HLI.out w1);clear hB1 HLI HLO;go_wp2_with fail;refine HLI1.out.mono ?_;rintro e w2 ⟨ao,cap,rfl,hr,hB2⟩;have HB2:=Lib.hid (HB1.out.trans (hB2.mono HB1.out.size));have HR:=Lib.hid hr;clear hB2 hr HLI1;go_wp2_with fail;go_loopw [3,10] (fun lv iv wr=> ∃i:Nat,i≤N∧iv= .int .i64 (i:Int)∧Hid (OwnS wr w2.heap.size lv ((ls.take i).flatMap fun k=>(clsA k).may))∧Hid (Below w2.heap.size w2 wr)∧Hid (((ls.take i).flatMap fun k=>(clsA k).may).length≤6*i)) (fun _ iv _=>N- (intOf iv).toNat);case atStart=>exact⟨0,Nat.zero_le _,rfl,ownS_nil _ _,Below.refl _ _,Nat.le_refl _⟩
 case round=>
  obtain⟨i,hi,rfl,hO,hB,hS⟩:=hrel;have hsz:=hB.out.size;by_cases hlt:i<N
  ·skip
   have hlt':(i:Int)<(N:Int):=(by omega);have hil:i<ls.length:=(by rw[HN.out];exact hlt);obtain⟨g,hg,hca0⟩:=ownC_at HR.out hil;subst hg;have hk:=HLK.out ls[i] (List.getElem_mem _);have HTS:Hid (ls.take (i+1)=ls.take i++[ls[i]]):=(by show _=_;rw[List.take_succ_eq_append_getElem hil]);have hca:=ca_below hca0 hB.out;obtain⟨k,hk0⟩: ∃k,ls[i]=k:=⟨_,rfl⟩;rw[hk0]at hca hk HTS;obtain⟨c0,c1,c2,c3,c4,c5,c6,c7,c8,c9,c10,hv,hx0,hx1,hx2⟩:=cls_letters (clsA k);have HV:=Lib.hid hv;have HX0:=Lib.hid hx0;obtain⟨d0,d1,d2,d3,d4,d5,d6,d7,d8,d9,d10⟩:=ca_cells hca hv;obtain⟨W3,hW3⟩: ∃W,wr.alloc (.cells #[.string c0,.int .i64 c1,.string c2,.string c3,.string c4,.string c5,.string c6,.string c7,.string c8,.string c9,.string c10] 106)=W:=⟨_,rfl⟩;have hB3:Below wr.heap.size wr W3:=(by rw[←hW3];exact(Below.refl _ _).alloc (Nat.le_refl _) _);have HCB:Hid (CB W3 wr.heap.size (clsA k)):=(by rw[←hW3];have:=cb_new wr (clsA k);rw[hv]at this;exact this);obtain⟨g0,g1,g2,g3,g4,g5,g6,g7,g8,g9,g10⟩:=cb_cells HCB.out hv;have HO3:=Lib.hid (ownS_below hO.out hB3);have HB3:=Lib.hid (hB.out.trans (hB3.mono hsz));have hs3:=HB3.out.size;clear hk0 hv hx0 hx1 hx2 hca hca0 hB3;have HFM:Hid (((ls.take (i+1)).flatMap fun k=>(clsA k).may)=((ls.take i).flatMap fun k=>(clsA k).may)++(clsA k).may):=(by show _=_;rw[HTS.out,List.flatMap_append];simp);have hS1:=hS.out;have hlen:(clsA k).may.length=6:=(must_len2 ⟨k,hk⟩).2;obtain⟨v',w4,hrun,ho4,hB4⟩:=ownS_appN (w:=W3) (B:=w2.heap.size) (p:=wr.heap.size) (o:=5) (m:=6) (c:=6) (clsA k).may hlen (may_cells hk HCB.out) HO3.out (by omega) hs3;have HO4:Hid (OwnS w4 w2.heap.size v' ((ls.take (i+1)).flatMap fun k=>(clsA k).may)):=(by show OwnS _ _ _ _;rw[HFM.out];exact ho4);have HB4:=Lib.hid (HB3.out.trans hB4);have HS4:Hid (((ls.take (i+1)).flatMap fun k=>(clsA k).may).length≤6*(i+1)):=(by show _≤_;rw[HFM.out,List.length_append];omega);clear ho4 hB4 hlen hk hS1;go_wp2_with (refine Lib.wpList_append_run _ rfl _ _ _ _ rfl _ _ rfl rfl _ _ hrun ?_);go_roundw;case rel=>exact⟨i+1,by omega,by go_num,HO4,HB4,HS4⟩
   case measure=>simp[intOf];omega
  ·obtain rfl:N=i:=(by omega);have hO2:=hO.out;rw[←HN.out,List.take_length]at hO2;have hS2:=hS.out;rw[←HN.out,List.take_length]at hS2;have HT:=Lib.hid (tidy_any (Lib.hid hO2) (by have:=HN.out;omega) hsz);have HB5:=Lib.hid (HB2.out.trans (hB.out.mono HB2.out.size));have hw2:=HB2.out.size;clear hO2 hS2;go_wp2_with fail;refine HT.out.mono ?_;rintro e w5 ⟨v5,rfl,ho5,hB6⟩;have HO5:=Lib.hid (ownS_mono ho5 hw2);have HB6:=Lib.hid (HB5.out.trans (hB6.mono hw2));clear ho5 hB6;go_wp2_with fail;go_ret;exact⟨_,rfl,HO5.out,HB6.out⟩
theorem sabove_any (n:ByteArray)(w:World)(hn:n.size≤10000000):
  Calls Tryz.prog 29 #[.string n] w fun e w'=> ∃v,e= .returned v∧OwnS w' w.heap.size v (aboveN (sml.lowL n.data.toList))∧Below w.heap.size w w':=by
 obtain⟨nl,hnl⟩: ∃nl,sml.lowL n.data.toList=nl:=⟨_,rfl⟩;have HLO:Hid (∀W,Calls Tryz.prog 82 #[.string n] W fun e w'=>e= .returned (.string (bs nl))∧Below W.heap.size W w'):=fun W=>by rw[←hnl];exact slower_any n W hn
 have HLI:Hid (∀W,Calls Tryz.prog 83 #[.string (bs nl)] W fun e w'=> ∃ao cap,e= .returned (.slice ao (lineN nl).length cap)∧OwnC w' W.heap.size (.slice ao (lineN nl).length cap) (lineN nl)∧Below W.heap.size W w'):=fun W=>lineC_any (bs nl) W;have HRES:Hid (aboveN nl=((lineN nl).filter fun k=>decide ((clsA k).name≠nl)).map fun k=>(clsA k).name):=above_filter nl;rw[hnl,HRES.out];have HLK:Hid (∀k∈lineN nl,k<13):=line_lt;have HL4:=line_len nl;clear HRES hnl;generalize lineN nl=ls at HLI HLK HL4 ⊢;obtain⟨N,hN⟩: ∃N,ls.length=N:=⟨_,rfl⟩;rw[hN]at HLI HL4;have HN:=Lib.hid hN;have HLO1:=Lib.hid (HLO.out w);clear hN;go_enter Tryz.func29,Tryz.ntmps29;go_wp2_with fail;refine HLO1.out.mono ?_;rintro e w1 ⟨rfl,hB1⟩;have HB1:=Lib.hid hB1;have HLI1:=Lib.hid (HLI.out w1);clear hB1 HLI HLO1;go_wp2_with fail;refine HLI1.out.mono ?_;rintro e w2 ⟨ao,cap,rfl,hr,hB2⟩;have HB2:=Lib.hid (HB1.out.trans (hB2.mono HB1.out.size));have HR:=Lib.hid hr;clear hB2 hr HLI1;go_wp2_with fail;go_loopw [3,10] (fun lv iv wr=> ∃i:Nat,i≤N∧iv= .int .i64 (i:Int)∧Hid (OwnS wr w2.heap.size lv (((ls.take i).filter fun k=>decide ((clsA k).name≠nl)).map fun k=>(clsA k).name))∧Hid (Below w2.heap.size w2 wr)) (fun _ iv _=>N- (intOf iv).toNat);case atStart=>exact⟨0,Nat.zero_le _,rfl,ownS_nil _ _,Below.refl _ _⟩
 case round=>
  obtain⟨i,hi,rfl,hO,hB⟩:=hrel;have hsz:=hB.out.size;by_cases hlt:i<N
  ·skip
   have hlt':(i:Int)<(N:Int):=(by omega);have hil:i<ls.length:=(by rw[HN.out];exact hlt);obtain⟨g,hg,hca0⟩:=ownC_at HR.out hil;subst hg;have hk:=HLK.out ls[i] (List.getElem_mem _);have HTS:Hid (ls.take (i+1)=ls.take i++[ls[i]]):=(by show _=_;rw[List.take_succ_eq_append_getElem hil]);have hca:=ca_below hca0 hB.out;obtain⟨k,hk0⟩: ∃k,ls[i]=k:=⟨_,rfl⟩;rw[hk0]at hca hk HTS;obtain⟨c0,c1,c2,c3,c4,c5,c6,c7,c8,c9,c10,hv,hx0,hx1,hx2⟩:=cls_letters (clsA k);have HV:=Lib.hid hv;have HX0:=Lib.hid hx0;obtain⟨d0,d1,d2,d3,d4,d5,d6,d7,d8,d9,d10⟩:=ca_cells hca hv;obtain⟨W3,hW3⟩: ∃W,wr.alloc (.cells #[.string c0,.int .i64 c1,.string c2,.string c3,.string c4,.string c5,.string c6,.string c7,.string c8,.string c9,.string c10] 106)=W:=⟨_,rfl⟩;have hB3:Below wr.heap.size wr W3:=(by rw[←hW3];exact(Below.refl _ _).alloc (Nat.le_refl _) _);have HCB:Hid (CB W3 wr.heap.size (clsA k)):=(by rw[←hW3];have:=cb_new wr (clsA k);rw[hv]at this;exact this);obtain⟨g0,g1,g2,g3,g4,g5,g6,g7,g8,g9,g10⟩:=cb_cells HCB.out hv;have HO3:=Lib.hid (ownS_below hO.out hB3);have HB3:=Lib.hid (hB.out.trans (hB3.mono hsz));have hs3:=HB3.out.size;clear hk0 hv hx0 hx1 hx2 hca hca0 hB3;have HLO4:=Lib.hid (HLO.out W3.drew);have hl3:=World.block_lt_of_cell? W3 _ g0;have hbq:(c0.toList==(bs nl).toList)=decide ((clsA k).name=nl):=(by rw[HX0.out,bs_beq]);have hlen:(((ls.take i).filter fun k=>decide ((clsA k).name≠nl)).map fun k=>(clsA k).name).length≤13:=(by rw[List.length_map];have h1:=List.length_filter_le (fun k=>decide ((clsA k).name≠nl)) (ls.take i);rw[List.length_take]at h1;omega);by_cases he:(clsA k).name=nl
   ·rw[decide_eq_true he]at hbq;have HFM:Hid ((((ls.take (i+1)).filter fun k=>decide ((clsA k).name≠nl)).map fun k=>(clsA k).name)=(((ls.take i).filter fun k=>decide ((clsA k).name≠nl)).map fun k=>(clsA k).name)):=(by show _=_;rw[HTS.out,List.filter_append,List.map_append];simp[he]);clear he hlen hk;go_wp2_with fail;refine wp_region_held_drew (S:=fun W=>W.cell? ⟨wr.heap.size,0,none⟩=some (.string c0)) (by kernel_rfl) (g0) (fun hHeld=> ?_);refine tk 0 ⟨some 14,_,_,_,_,_⟩ rfl ?_;refine tk 1 ⟨some 15,_,_,_,_,_⟩ rfl ?_;refine tk 2 ⟨some 16,_,_,_,_,_⟩ rfl ?_;refine tc 3 ⟨some 17,_,_,_,_,_⟩ rfl (fun K hK=> ?_);go_simp;go_at_call 82;refine HLO4.out.mono ?_;rintro e w4 ⟨rfl,hB4⟩;refine hK.out _ _ ((((Below.refl W3.heap.size W3).drew.trans hB4).cell (p:=⟨wr.heap.size,0,none⟩) hl3).trans (g0)) (fun hHeld=> ?_);clear hK;try simp only[Act.put,List.setIfInBounds_toArray,List.set_cons_zero,List.set_cons_succ]
    refine tk 4 ⟨some 18,_,_,_,_,_⟩ rfl ?_;refine wpAnyH_done (by kernel_rfl) ?_ _;have hB45:=(Below.refl W3.heap.size W3).drew.trans hB4;have HO4:Hid (OwnS w4 w2.heap.size u3 (((ls.take (i+1)).filter fun k=>decide ((clsA k).name≠nl)).map fun k=>(clsA k).name)):=(by show OwnS _ _ _ _;rw[HFM.out];exact ownS_below HO3.out hB45);have HB4:=Lib.hid (HB3.out.trans (hB45.mono hs3));clear hB4 hB45 hHeld g0 g1 g2 g3 g4 g5 g6 g7 g8 g9 g10 d0 d1 d2 d3 d4 d5 d6 d7 d8 d9 d10;go_wp2_with fail;go_roundw;case rel=>exact⟨i+1,by omega,by go_num,HO4,HB4⟩
    case measure=>simp[intOf];omega
   ·rw[decide_eq_false he]at hbq;have HFM:Hid ((((ls.take (i+1)).filter fun k=>decide ((clsA k).name≠nl)).map fun k=>(clsA k).name)=(((ls.take i).filter fun k=>decide ((clsA k).name≠nl)).map fun k=>(clsA k).name)++[(clsA k).name]):=(by show _=_;rw[HTS.out,List.filter_append,List.map_append];simp[he]);clear he hk;go_wp2_with fail;refine wp_region_held_drew (S:=fun W=>W.cell? ⟨wr.heap.size,0,none⟩=some (.string c0)) (by kernel_rfl) (g0) (fun hHeld=> ?_);refine tk 0 ⟨some 14,_,_,_,_,_⟩ rfl ?_;refine tk 1 ⟨some 15,_,_,_,_,_⟩ rfl ?_;refine tk 2 ⟨some 16,_,_,_,_,_⟩ rfl ?_;refine tc 3 ⟨some 17,_,_,_,_,_⟩ rfl (fun K hK=> ?_);go_simp;go_at_call 82;refine HLO4.out.mono ?_;rintro e w4 ⟨rfl,hB4⟩;refine hK.out _ _ ((((Below.refl W3.heap.size W3).drew.trans hB4).cell (p:=⟨wr.heap.size,0,none⟩) hl3).trans (g0)) (fun hHeld=> ?_);clear hK;try simp only[Act.put,List.setIfInBounds_toArray,List.set_cons_zero,List.set_cons_succ]
    refine tk 4 ⟨some 18,_,_,_,_,_⟩ rfl ?_;refine wpAnyH_done (by kernel_rfl) ?_ _;have hB45:=(Below.refl W3.heap.size W3).drew.trans hB4;obtain⟨v',w5,hrun,ho5,hB5⟩:=ownS_app1 (w:=w4) (B:=w2.heap.size) (clsA k).name (ownS_below HO3.out hB45) (by omega) (Nat.le_trans hs3 hB45.size);rw[←HX0.out]at hrun;have HO4:Hid (OwnS w5 w2.heap.size v' (((ls.take (i+1)).filter fun k=>decide ((clsA k).name≠nl)).map fun k=>(clsA k).name)):=(by show OwnS _ _ _ _;rw[HFM.out];exact ho5);have HB5:=Lib.hid ((HB3.out.trans (hB45.mono hs3)).trans hB5);have q0:=hHeld;clear hB4 hB5 ho5 hB45 hlen;go_wp2_with (refine Lib.wpList_append_run _ rfl _ _ _ _ rfl _ _ rfl rfl _ _ hrun ?_);go_roundw;case rel=>exact⟨i+1,by omega,by go_num,HO4,HB5⟩
    case measure=>simp[intOf];omega
  ·obtain rfl:N=i:=(by omega);have hO2:=hO.out;rw[←HN.out,List.take_length]at hO2;have hw2:=HB2.out.size;have HB5:=Lib.hid (HB2.out.trans (hB.out.mono hw2));have HO5:=Lib.hid (ownS_mono hO2 hw2);clear hO2;go_wp2_with fail;go_ret;exact⟨_,rfl,HO5.out,HB5.out⟩
end scw
open Go.RowKit
namespace flw
open flp atp atw etp etw scw scp
open tupw (Strs strs_below)
theorem ask_len: ∀ (d:Nat) (F:Fl),(flp.ask d F).length≤cntN d F
 | 0,_=>Nat.le_refl _
 | d+1,F=>by
  have key: ∀l:List Fl,(l.flatMap (flp.ask d)).length≤(l.map (cntN d)).sum:=by
   intro l;induction l with
   | nil=>exact Nat.le_refl _
   | cons k r ih=>rw[List.flatMap_cons,List.length_append,List.map_cons,List.sum_cons];have:=ask_len d k;omega
  unfold flp.ask cntN;rw[List.length_append];have:=key F.kids;split
  ·simp only[List.length_cons,List.length_nil];omega
  ·simp only[List.length_nil];omega
theorem flat_ask_len (d:Nat): ∀l:List Fl,(l.flatMap (flp.ask d)).length≤(l.map (cntN d)).sum
 | []=>Nat.le_refl _
 | k::r=>by rw[List.flatMap_cons,List.length_append,List.map_cons,List.sum_cons];have:=ask_len d k;have:=flat_ask_len d r;omega
def own1 (F:Fl):List (List UInt8):=match findS (sml.lowL F.attr.data.toList)with
 | some t=>[t.name]
 | none=>[]
theorem ask_succ (d:Nat)(F:Fl):flp.ask (d+1) F=own1 F++F.kids.flatMap (flp.ask d):=rfl
theorem flat_take {d i:Nat}{l:List Fl}(hi:i<l.length):(l.take (i+1)).flatMap (flp.ask d)=(l.take i).flatMap (flp.ask d)++flp.ask d l[i]:=by rw[List.take_succ_eq_append_getElem hi,List.flatMap_append];simp
theorem nm_len (t:Ty)(h:t∈tys):t.name.length≤1000:=by
 obtain⟨i,hi,rfl⟩:=List.mem_iff_getElem.1 h;have: ∀j:Fin 20,(tys[j.val]'(j.isLt)).name.length≤1000:=by decide+kernel
 exact this ⟨i,hi⟩
theorem ownS_appG {w:World}{B:Nat}{v:Value}{l:List T}(x:T)(h:OwnS w B v l)(hl:l.length≤1000000)(hB:B≤w.heap.size):
  ∃v' w1,(Builtin.append_ #[35,35] 35 #[v,.slice (some ⟨w.heap.size,0,none⟩) 1 1]).run Tryz.prog (w.alloc (.cells #[.string (bs x)] 9))= .ok v' w1∧OwnS w1 B v' (l++[x])∧Below B w w1∧w.grownBy w1 v.ownBlock:=by
 have h':w.ownsRow B 9 1 v (prw.scells (l.map bs)).length (prw.scells (l.map bs)):=h;obtain⟨v',w1,h1,h2,h3,h4⟩:=kt.app1 (P:=Tryz.prog) (t:=35) (ty:=35) Tryz.underlying35 prw.infoStr rfl (.string (bs x)) rfl h' (by rw[prw.scells_length,List.length_map];unfold maxLen;omega) (by rw[prw.scells_length,List.length_map];omega) hB;refine⟨v',w1,h1,?_,h4,h3⟩;unfold OwnS prw.OwnT;have e:prw.scells ((l++[x]).map bs)=prw.scells (l.map bs)++[.string (bs x)]:=by simp[prw.scells]
 rw[e];exact h2
theorem ownS_block {w:World}{B:Nat}{v:Value}{l:List T}(h:OwnS w B v l):v.ownBlock≠some w.heap.size:=by
 rcases ownS_cases h with⟨rfl,_⟩ | ⟨g,cap,cur,rfl,_,hg,_⟩
 ·intro e;cases e
 ·intro e;have:g=w.heap.size:=by simpa[Value.ownBlock]using e
  omega
theorem names_any (w0:World): ∀ (d:Nat) (F:Fl) (v lv:Value) (l:List (List UInt8)) (w:World),Below w0.heap.size w0 w→l.length+cntN d F≤900000→okD d F→Hid (FlX w0 v F)→Hid (FitX F)→Hid (EnvE w0)→Hid (OwnS w w0.heap.size lv l)→
  Calls Tryz.prog 115 #[v,lv] w fun e w'=> ∃u,e= .returned u∧OwnS w' w0.heap.size u (l++flp.ask d F)∧Below w0.heap.size w w':=by
 intro d;induction d with
 | zero=>intro F v lv l w hb hn hd hv hf hE hO;exact hd.elim
 | succ d ih=>
  intro F v lv l w hb hn hd hv hf hE hO;have IH:Hid (∀ (G:Fl) (u nv:Value) (m:List (List UInt8)) (W:World),Below w0.heap.size w0 W→m.length+cntN d G≤900000→G∈F.kids→FlX w0 u G→FitX G→OwnS W w0.heap.size nv m→Calls Tryz.prog 115 #[u,nv] W fun e w'=> ∃u,e= .returned u∧OwnS w' w0.heap.size u (m++flp.ask d G)∧Below w0.heap.size W w'):=fun G u nv m W h1 h2 h3 h4 h5 h6=>ih G u nv m W h1 h2 (hd G h3) (Lib.hid h4) (Lib.hid h5) hE (Lib.hid h6);have HFI:Hid (∀W,Below w0.heap.size w0 W→Calls Tryz.prog 74 #[.string F.attr] W fun e w'=>e= .returned (resT (findS (sml.lowL F.attr.data.toList)))∧Below W.heap.size W w'):=fun W h=>find_any F.attr W (by have:=(fitX_head hf.out).1;omega) (Lib.hid (envE_below hE.out h).y);have HAS:=Lib.hid (ask_succ d F);have HO1:Hid (own1 F=match findS (sml.lowL F.attr.data.toList)with
   | some t=>[t.name]
   | none=>[]):=rfl
  have HCS:=Lib.hid (show cntN (d+1) F=1+(F.kids.map (cntN d)).sum from rfl);have HNN:Hid (l.length+cntN (d+1) F≤900000):=hn;have HB0:=Lib.hid hb;have hz0:=hb.size;clear ih hd hn hb;rw[HAS.out];obtain⟨xa,xc,ka,kc,rfl,HX,HK,hxc,hkc⟩:=flX_form hv.out;unfold flV;obtain⟨N,hN⟩: ∃N,F.kids.length=N:=⟨_,rfl⟩;have HN:=Lib.hid hN;obtain⟨M,hM⟩: ∃M,F.any.length=M:=⟨_,rfl⟩;have hNb:N≤100000:=by rw[←hN];exact(fitX_head hf.out).2.2.2.2.2.2
  rw[hN]at hkc ⊢;rw[hM]at hxc ⊢;clear hN hM;obtain⟨W1,hW1⟩: ∃W,w.alloc (.cells #[.int .i64 F.kind,.string F.attr,.string F.value,.string F.first,.slice xa M xc,.string F.last,.slice ka N kc] 73)=W:=⟨_,rfl⟩;have hB1:Below w.heap.size w W1:=by rw[←hW1];exact(Below.refl _ _).alloc (Nat.le_refl _) _
  have HF1:Hid (R7 W1 w.heap.size (.int .i64 F.kind) (.string F.attr) (.string F.value) (.string F.first) (.slice xa M xc) (.string F.last) (.slice ka N kc)):=by rw[←hW1];exact r7_new _ _ _ _ _ _ _ _
  obtain⟨k0,k1,k2,k3,k4,k5,k6⟩:=r7_cells HF1.out;have HB1:=Lib.hid (HB0.out.trans (hB1.mono hz0));have HO2:=Lib.hid (ownS_below hO.out hB1);have HFI1:=Lib.hid (HFI.out W1 HB1.out);have HBw1:=Lib.hid (hB1.mono hz0);clear hB1 HFI;go_enter Tryz.func115,Tryz.ntmps115;go_wp2_with fail;refine HFI1.out.mono ?_;rintro e w2 ⟨hfr,hB2⟩;have HBw2:=Lib.hid (HBw1.out.trans (hB2.mono HB1.out.size));have HF2:=Lib.hid (r7_below HF1.out hB2);have HO3:=Lib.hid (ownS_below HO2.out hB2);clear hB2 k0 k1 k2 k3 k4 k5 k6 HFI1 hW1 HBw1 HB1;cases hfe:findS (sml.lowL F.attr.data.toList)with
  | none=>
   rw[hfe]at hfr HO1;have hfr2:e= .returned (.tuple #[.agg #[.string ⟨#[]⟩,.int .i64 0,.bool false],.bool false]):=hfr;subst hfr2;have HOW:Hid (own1 F=[]):=HO1.out;clear hfr hfe HO1;have hB4:Below w2.heap.size w2 (w2.alloc (.cells #[.string ⟨#[]⟩,.int .i64 0,.bool false] 108)):=(Below.refl _ _).alloc (Nat.le_refl _) _;have HB4:=Lib.hid (HBw2.out.trans (hB4.mono (Nat.le_trans hz0 HBw2.out.size)));have HF4:=Lib.hid (r7_below HF2.out hB4);have HO4:Hid (OwnS (w2.alloc (.cells #[.string ⟨#[]⟩,.int .i64 0,.bool false] 108)) w0.heap.size lv (l++own1 F)):=(by show OwnS _ _ _ _;rw[HOW.out,List.append_nil];exact ownS_below HO3.out hB4);have hl4:(l++own1 F).length≤l.length+1:=(by rw[HOW.out];simp);have HO5:=HO4;have HB5:=HB4;obtain⟨k0,k1,k2,k3,k4,k5,k6⟩:=r7_cells HF4.out;clear hB4;go_wp2_with fail;clear k0 k1 k2 k3 k4 k5 k6;go_loopw [1,24] (fun lw iv wr=> ∃i:Nat,i≤N∧iv= .int .i64 (i:Int)∧Hid (OwnS wr w0.heap.size lw ((l++own1 F)++(F.kids.take i).flatMap (flp.ask d)))∧Hid (Below w0.heap.size w wr)) (fun _ iv _=>N- (intOf iv).toNat);case atStart=>exact⟨0,Nat.zero_le _,rfl,(by show OwnS _ _ _ _;rw[List.take_zero,List.flatMap_nil,List.append_nil];exact HO5.out),HB5.out⟩
   case round=>
    obtain⟨i,hi,rfl,hO,hB⟩:=hrel;have hsz:=hB.out.size;have HBz:=Lib.hid (HB0.out.trans hB.out);by_cases hlt:i<N
    ·have hltI:(i:Int)<(N:Int):=(by omega);have hil:i<F.kids.length:=(by rw[HN.out];exact hlt);obtain⟨b,o,ya,yc,la,lc,hao,hc,hkX⟩:=kidsX_at HK.out i hil;subst hao;have HFK:=Lib.hid (fitX_kid hf.out (List.getElem_mem hil));have HMEM:=Lib.hid (List.getElem_mem hil);have HFT:=Lib.hid (flat_take (d:=d) hil);have HCT:=Lib.hid (cnt_step (d:=d) hil);have HCL:=Lib.hid (cnt_take (d:=d) F.kids (i+1));have HCA:Hid (((F.kids.take i).flatMap (flp.ask d)).length≤((F.kids.take i).map (cntN d)).sum):=flat_ask_len d _;obtain⟨G,hG⟩: ∃G,F.kids[i]=G:=⟨_,rfl⟩;rw[hG]at hc hkX HFK HMEM HFT HCT;clear hG;unfold flV at hkX;generalize G.any.length=m' at hc hkX;generalize G.kids.length=n' at hc hkX;have hc2:=cellsF_same hc (HBz.out.block b (cellsF_lt hc));obtain⟨c0,c1,c2,c3,c4,c5,c6⟩:=hc2;have HKX:=Lib.hid hkX;clear hkX hc;obtain⟨Wa,hWa⟩: ∃W,wr.alloc (.cells #[.int .i64 G.kind,.string G.attr,.string G.value,.string G.first,.slice ya m' yc,.string G.last,.slice la n' lc] 73)=W:=⟨_,rfl⟩;have hBA:Below wr.heap.size wr Wa:=(by rw[←hWa];exact(Below.refl _ _).alloc (Nat.le_refl _) _);have HTA:Hid (R7 Wa wr.heap.size (.int .i64 G.kind) (.string G.attr) (.string G.value) (.string G.first) (.slice ya m' yc) (.string G.last) (.slice la n' lc)):=(by rw[←hWa];exact r7_new _ _ _ _ _ _ _ _);obtain⟨x0,x1,x2,x3,x4,x5,x6⟩:=r7_cells HTA.out;have HBA:=Lib.hid (hBA.mono (Nat.le_trans hz0 hsz));have HOA:=Lib.hid (ownS_below hO.out hBA);clear hBA;have hlen:((l++own1 F)++(F.kids.take i).flatMap (flp.ask d)).length+cntN d G≤900000:=(by have h1:=HNN.out;have h2:=HCS.out;have h3:=HCT.out;have h4:=HCL.out;have h5:=HCA.out;rw[List.length_append];omega);have HC:=Lib.hid (IH.out G _ u1 _ Wa (HBz.out.trans HBA.out) hlen HMEM.out HKX.out HFK.out HOA.out);clear hlen;go_wp2_with fail;refine HC.out.mono ?_;rintro e w3 ⟨u3,rfl,hO3,hB3⟩;have HO3':Hid (OwnS w3 w0.heap.size u3 ((l++own1 F)++(F.kids.take (i+1)).flatMap (flp.ask d))):=(by show OwnS _ _ _ _;rw[HFT.out,←List.append_assoc];exact hO3);have HB3:=Lib.hid (hB.out.trans (HBA.out.trans hB3));clear hB3 hO3 x0 x1 x2 x3 x4 x5 x6 c0 c1 c2 c3 c4 c5 c6;go_wp2_with fail;go_roundw;case rel=>exact⟨i+1,by omega,by go_num,HO3'.out,HB3.out⟩
     case measure=>simp[intOf];omega
    ·obtain rfl:N=i:=(by omega);have HOE:Hid (OwnS wr w0.heap.size u1 (l++(own1 F++F.kids.flatMap (flp.ask d)))):=(by have h:=hO.out;rw[←HN.out,List.take_length,List.append_assoc]at h;exact h);go_wp2_with fail;go_ret;exact⟨_,rfl,HOE.out,hB.out⟩
  | some ty=>
   rw[hfe]at hfr HO1;have hfr2:e= .returned (.tuple #[.agg #[.string (bs ty.name),.int .i64 ty.syn,.bool ty.single],.bool true]):=hfr;subst hfr2;have HOW:Hid (own1 F=[ty.name]):=HO1.out;clear hfr hfe HO1;obtain⟨w3,hw3⟩: ∃W,w2.alloc (.cells #[.string (bs ty.name),.int .i64 ty.syn,.bool ty.single] 108)=W:=⟨_,rfl⟩;have hB3:Below w2.heap.size w2 w3:=(by rw[←hw3];exact(Below.refl _ _).alloc (Nat.le_refl _) _);obtain⟨tb,htb⟩: ∃tb,w2.heap.size=tb:=⟨_,rfl⟩;have HY3:Hid (TB w3 tb (bs ty.name) ty.syn ty.single):=(by rw[←hw3,←htb];exact tb_new _ _ _ _);have HB3:=Lib.hid (HBw2.out.trans (hB3.mono (Nat.le_trans hz0 HBw2.out.size)));have HF3:=Lib.hid (r7_below HF2.out hB3);have HO4:=Lib.hid (ownS_below HO3.out hB3);clear hB3;obtain⟨lv2,w4,hap,hO5,hB5,hgr⟩:=ownS_appG ty.name HO4.out (by have:=HNN.out;omega) (Nat.le_trans hz0 HB3.out.size);have HF5:Hid (R7 w4 w.heap.size (.int .i64 F.kind) (.string F.attr) (.string F.value) (.string F.first) (.slice xa M xc) (.string F.last) (.slice ka N kc)):=(hgr.block w.heap.size (r7_lt HF3.out) (fun e=>ownS_block hO.out e.symm)).trans HF3.out;have HB5:=Lib.hid (HB3.out.trans hB5);have hl4:(l++own1 F).length≤l.length+1:=(by rw[HOW.out];simp);have HO5:Hid (OwnS w4 w0.heap.size lv2 (l++own1 F)):=(by show OwnS _ _ _ _;rw[HOW.out];exact hO5);clear hO5 hB5 hgr;obtain⟨k0,k1,k2,k3,k4,k5,k6⟩:=r7_cells HF5.out;obtain⟨y0,y1,y2⟩:=tb_cells HY3.out;go_wp2_with (at_builtin;refine Lib.wpList_append_run _ rfl _ _ _ _ rfl _ _ rfl rfl _ _ hap ?_);clear k0 k1 k2 k3 k4 k5 k6 y0 y1 y2;go_loopw [1,24] (fun lw iv wr=> ∃i:Nat,i≤N∧iv= .int .i64 (i:Int)∧Hid (OwnS wr w0.heap.size lw ((l++own1 F)++(F.kids.take i).flatMap (flp.ask d)))∧Hid (Below w0.heap.size w wr)) (fun _ iv _=>N- (intOf iv).toNat);case atStart=>exact⟨0,Nat.zero_le _,rfl,(by show OwnS _ _ _ _;rw[List.take_zero,List.flatMap_nil,List.append_nil];exact HO5.out),HB5.out⟩
   case round=>
    obtain⟨i,hi,rfl,hO,hB⟩:=hrel;have hsz:=hB.out.size;have HBz:=Lib.hid (HB0.out.trans hB.out);by_cases hlt:i<N
    ·have hltI:(i:Int)<(N:Int):=(by omega);have hil:i<F.kids.length:=(by rw[HN.out];exact hlt);obtain⟨b,o,ya,yc,la,lc,hao,hc,hkX⟩:=kidsX_at HK.out i hil;subst hao;have HFK:=Lib.hid (fitX_kid hf.out (List.getElem_mem hil));have HMEM:=Lib.hid (List.getElem_mem hil);have HFT:=Lib.hid (flat_take (d:=d) hil);have HCT:=Lib.hid (cnt_step (d:=d) hil);have HCL:=Lib.hid (cnt_take (d:=d) F.kids (i+1));have HCA:Hid (((F.kids.take i).flatMap (flp.ask d)).length≤((F.kids.take i).map (cntN d)).sum):=flat_ask_len d _;obtain⟨G,hG⟩: ∃G,F.kids[i]=G:=⟨_,rfl⟩;rw[hG]at hc hkX HFK HMEM HFT HCT;clear hG;unfold flV at hkX;generalize G.any.length=m' at hc hkX;generalize G.kids.length=n' at hc hkX;have hc2:=cellsF_same hc (HBz.out.block b (cellsF_lt hc));obtain⟨c0,c1,c2,c3,c4,c5,c6⟩:=hc2;have HKX:=Lib.hid hkX;clear hkX hc;obtain⟨Wa,hWa⟩: ∃W,wr.alloc (.cells #[.int .i64 G.kind,.string G.attr,.string G.value,.string G.first,.slice ya m' yc,.string G.last,.slice la n' lc] 73)=W:=⟨_,rfl⟩;have hBA:Below wr.heap.size wr Wa:=(by rw[←hWa];exact(Below.refl _ _).alloc (Nat.le_refl _) _);have HTA:Hid (R7 Wa wr.heap.size (.int .i64 G.kind) (.string G.attr) (.string G.value) (.string G.first) (.slice ya m' yc) (.string G.last) (.slice la n' lc)):=(by rw[←hWa];exact r7_new _ _ _ _ _ _ _ _);obtain⟨x0,x1,x2,x3,x4,x5,x6⟩:=r7_cells HTA.out;have HBA:=Lib.hid (hBA.mono (Nat.le_trans hz0 hsz));have HOA:=Lib.hid (ownS_below hO.out hBA);clear hBA;have hlen:((l++own1 F)++(F.kids.take i).flatMap (flp.ask d)).length+cntN d G≤900000:=(by have h1:=HNN.out;have h2:=HCS.out;have h3:=HCT.out;have h4:=HCL.out;have h5:=HCA.out;rw[List.length_append];omega);have HC:=Lib.hid (IH.out G _ u1 _ Wa (HBz.out.trans HBA.out) hlen HMEM.out HKX.out HFK.out HOA.out);clear hlen;go_wp2_with fail;refine HC.out.mono ?_;rintro e w3 ⟨u3,rfl,hO3,hB3⟩;have HO3':Hid (OwnS w3 w0.heap.size u3 ((l++own1 F)++(F.kids.take (i+1)).flatMap (flp.ask d))):=(by show OwnS _ _ _ _;rw[HFT.out,←List.append_assoc];exact hO3);have HB3:=Lib.hid (hB.out.trans (HBA.out.trans hB3));clear hB3 hO3 x0 x1 x2 x3 x4 x5 x6 c0 c1 c2 c3 c4 c5 c6;go_wp2_with fail;go_roundw;case rel=>exact⟨i+1,by omega,by go_num,HO3'.out,HB3.out⟩
     case measure=>simp[intOf];omega
    ·obtain rfl:N=i:=(by omega);have HOE:Hid (OwnS wr w0.heap.size u1 (l++(own1 F++F.kids.flatMap (flp.ask d)))):=(by have h:=hO.out;rw[←HN.out,List.take_length,List.append_assoc]at h;exact h);go_wp2_with fail;go_ret;exact⟨_,rfl,HOE.out,hB.out⟩
def asked (F:Fl):List (List UInt8):=if rightF F=true then(flp.ask 8 F).foldl putL []else[]
theorem attrs_any (F:Fl)(v:Value)(w:World)(hv:Hid (FlX w v F))(hf:Hid (FitX F))(hE:Hid (EnvE w)):
  Calls Tryz.prog 55 #[v] w fun e w'=> ∃u,e= .returned u∧OwnS w' w.heap.size u (asked F)∧Below w.heap.size w w':=by
 have HR0:Hid (∀W,Below w.heap.size w W→Calls Tryz.prog 49 #[v] W fun e w'=>e= .returned (.bool (rightF F))∧Below W.heap.size W w'):=fun W h=>right_any F v W (Lib.hid (flX_below hv.out h)) hf;have HNA0:Hid (rightF F=true→ ∀W,Below w.heap.size w W→Calls Tryz.prog 115 #[v,.slice none 0 0] W fun e w'=> ∃u,e= .returned u∧OwnS w' w.heap.size u (flp.ask 8 F)∧Below w.heap.size W w'):=by intro hr W h;obtain⟨h1,h2⟩:=(rightF_iff F).1 hr;exact names_any w 8 F v (.slice none 0 0) [] W h (by simp;omega) (rightD_ok h1) hv hf hE (Lib.hid (ownS_nil W w.heap.size))
 have HLN:Hid (rightF F=true→(flp.ask 8 F).length≤40):=fun hr=>by have:=ask_len 8 F;have:=((rightF_iff F).1 hr).2;omega
 have HV:Hid (asked F=if rightF F=true then Lib.compact (dnw.sortL (flp.ask 8 F))else[]):=by show _=_;rw[flr.names_eq];rfl
 generalize asked F=R at HV ⊢;generalize flp.ask 8 F=l at HNA0 HLN HV;generalize rightF F=rb at HR0 HNA0 HLN HV;obtain⟨xa,xc,ka,kc,rfl,HX,HK,hxc,hkc⟩:=flX_form hv.out;unfold flV;try unfold flV at HR0
 try unfold flV at HNA0
 obtain⟨N,hN⟩: ∃N,F.kids.length=N:=⟨_,rfl⟩;have HN:=Lib.hid hN;obtain⟨M,hM⟩: ∃M,F.any.length=M:=⟨_,rfl⟩;have HM:=Lib.hid hM;have HFH:=Lib.hid (fitX_head hf.out);have hNb:N≤100000:=by rw[←hN];exact HFH.out.2.2.2.2.2.2
 have hMb:M≤100000:=by rw[←hM];exact HFH.out.2.2.2.2.1
 rw[hN]at hkc ⊢;try rw[hN]at HR0
 try rw[hN]at HNA0
 rw[hM]at hxc ⊢;try rw[hM]at HR0
 try rw[hM]at HNA0
 clear hN hM;obtain⟨W1,hW1⟩: ∃W,w.alloc (.cells #[.int .i64 F.kind,.string F.attr,.string F.value,.string F.first,.slice xa M xc,.string F.last,.slice ka N kc] 73)=W:=⟨_,rfl⟩;have hB1:Below w.heap.size w W1:=by rw[←hW1];exact(Below.refl _ _).alloc (Nat.le_refl _) _
 have HF1:Hid (R7 W1 w.heap.size (.int .i64 F.kind) (.string F.attr) (.string F.value) (.string F.first) (.slice xa M xc) (.string F.last) (.slice ka N kc)):=by rw[←hW1];exact r7_new _ _ _ _ _ _ _ _
 obtain⟨k0,k1,k2,k3,k4,k5,k6⟩:=r7_cells HF1.out;have HB1:=Lib.hid hB1;have hs1:=hB1.size;clear hB1;have HR1:=Lib.hid (HR0.out W1 HB1.out);clear HR0;cases rb with
 | false=>have HR:Hid (R=[]):=HV.out;go_enter Tryz.func55,Tryz.ntmps55;go_wp2_with fail;refine HR1.out.mono ?_;rintro e w2 ⟨rfl,hB2⟩;have HB2:=Lib.hid (HB1.out.trans (hB2.mono hs1));clear hB2 k0 k1 k2 k3 k4 k5 k6;go_wp2_with fail;go_ret;exact⟨_,rfl,by rw[HR.out];exact ownS_nil _ _,HB2.out⟩
 | true=>
  have HR:Hid (R=Lib.compact (dnw.sortL l)):=HV.out;have HN1:=Lib.hid (HNA0.out rfl);have hl40:=HLN.out rfl;clear HNA0 HLN;go_enter Tryz.func55,Tryz.ntmps55;go_wp2_with fail;refine HR1.out.mono ?_;rintro e w2 ⟨rfl,hB2⟩;have HB2:=Lib.hid (HB1.out.trans (hB2.mono hs1));have HF2:=Lib.hid (r7_below HF1.out hB2);have HN2:=Lib.hid (HN1.out w2 HB2.out);clear hB2 k0 k1 k2 k3 k4 k5 k6;obtain⟨k0,k1,k2,k3,k4,k5,k6⟩:=r7_cells HF2.out;go_wp2_with fail;refine HN2.out.mono ?_;rintro e w3 ⟨u3,rfl,hO3,hB3⟩;have HB3:=Lib.hid (HB2.out.trans hB3);have HS3:=Lib.hid (sortS hO3 (by omega) HB3.out.size);clear hB3 hO3 k0 k1 k2 k3 k4 k5 k6;go_wp2_with fail;refine HS3.out.mono ?_;rintro e w4 ⟨rfl,hO4,hB4⟩;have HB4:=Lib.hid (HB3.out.trans hB4);have hsl:(dnw.sortL l).length=l.length:=by unfold dnw.sortL;simp
  have HC4:=Lib.hid (compactT hO4 (by omega) HB4.out.size);clear hB4 hO4 hsl;go_wp2_with fail;refine HC4.out.mono ?_;rintro e w5 ⟨u5,rfl,hO5,hB5⟩;have HB5:=Lib.hid (HB4.out.trans hB5);have HO5:=Lib.hid hO5;clear hB5 hO5;go_wp2_with fail;go_ret;exact⟨_,rfl,by rw[HR.out];exact HO5.out,HB5.out⟩
end flw
end Go.Proofs.YtmnpfkbjpeaemaaGreatDoor
