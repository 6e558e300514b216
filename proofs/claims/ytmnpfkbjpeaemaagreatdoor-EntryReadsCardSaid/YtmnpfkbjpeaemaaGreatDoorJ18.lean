/- One text out of several: Same17W, ResX, ReadsW, TyF. -/
import Derived.Test.YtmnpfkbjpeaemaaGreatDoorJ1
import Derived.Test.YtmnpfkbjpeaemaaGreatDoorJ13
import Derived.Test.YtmnpfkbjpeaemaaGreatDoorJ17
import Derived.Lib.LaidU8
import Derived.Deep.Strs
import Derived.Test.YtmnpfkbjpeaemaaGreatDoorJ6
set_option linter.unusedVariables false
set_option linter.unusedSimpArgs false
set_option maxRecDepth 20000
set_option maxHeartbeats 8000000
namespace Go.Proofs.YtmnpfkbjpeaemaaGreatDoor
open Go.RowKit
namespace etw
open atp atw etp
open dnw (Av Avas)
open tupw (Strs strs_below)
theorem same17_eq (v1 v2:Value)(E:En)(w:World)(h1:Hid (EntV w v1 E))(h2:Hid (EntV w v2 E))(hb:Hid (Bd E)):
  Calls Tryz.prog 16 #[v1,v2] w fun e w'=>e= .returned (.bool true)∧Below w.heap.size w w':=by
 obtain⟨ro,rc,ao,ac,Nr,N,rfl,HN,HA,hac,HNr,HAv,hrc⟩:=ent_form h1.out;obtain⟨ro2,rc2,ao2,ac2,Nr2,N2,rfl,HN2,HA2,hac2,HNr2,HAv2,hrc2⟩:=ent_form h2.out;have e1:Nr=Nr2:=by rw[←HNr.out,←HNr2.out]
 have e2:N=N2:=by rw[←HN.out,←HN2.out]
 subst e1 e2;have hNrb:Nr≤100000:=by rw[←HNr.out];exact hb.out.rl
 have hNb:N≤100000:=by rw[←HN.out];exact hb.out.al
 have HVS:=Lib.hid hb.out.as_;obtain⟨rdn,L⟩:=E;simp only at HN HA HNr HAv HN2 HA2 HNr2 HAv2 HVS;obtain⟨W1,hW1⟩: ∃W,w.alloc (.cells #[.slice ro Nr rc,.slice ao N ac] 26)=W:=⟨_,rfl⟩;have hB1:Below w.heap.size w W1:=by rw[←hW1];exact(Below.refl _ _).alloc (Nat.le_refl _) _
 have hT1:EntB W1 w.heap.size (.slice ro Nr rc) (.slice ao N ac):=by rw[←hW1];exact entB_new _ _ _
 obtain⟨W2,hW2⟩: ∃W,W1.alloc (.cells #[.slice ro2 Nr rc2,.slice ao2 N ac2] 26)=W:=⟨_,rfl⟩;have hB2:Below W1.heap.size W1 W2:=by rw[←hW2];exact(Below.refl _ _).alloc (Nat.le_refl _) _
 obtain⟨q,hqq⟩: ∃q,W1.heap.size=q:=⟨_,rfl⟩;have hQ2:EntB W2 q (.slice ro2 Nr rc2) (.slice ao2 N ac2):=by rw[←hW2,←hqq];exact entB_new _ _ _
 have HB2:=Lib.hid (hB1.trans (hB2.mono hB1.size));have HT2:=Lib.hid (entB_below hT1 hB2);have HQ2:=Lib.hid hQ2;obtain⟨k0,k1⟩:=entB_cells HT2.out;obtain⟨m0,m1⟩:=entB_cells HQ2.out;have hz2:=HB2.out.size;clear hB1 hB2 hT1 hQ2 h1 h2 hb;go_enter Tryz.func16,Tryz.ntmps16;go_wp2_with fail;clear k0 k1 m0 m1 hW1 hW2 hqq;go_loopw [5] (fun iv wr=> ∃i:Nat,i≤Nr∧iv= .int .i64 (i:Int)∧Hid (Below W2.heap.size W2 wr)) (fun iv _=>Nr- (intOf iv).toNat);case atStart=>exact⟨0,Nat.zero_le _,rfl,Below.refl _ _⟩
 case round=>
  obtain⟨i,hi,rfl,hBr⟩:=hrel;have HBr:=Lib.hid (HB2.out.trans (hBr.out.mono hz2));obtain⟨k0,k1⟩:=entB_cells (entB_below HT2.out hBr.out);obtain⟨m0,m1⟩:=entB_cells (entB_below HQ2.out hBr.out);by_cases hlt:i<Nr
  ·have hltI:(i:Int)<(Nr:Int):=(by omega);have hil:i<rdn.length:=(by rw[HNr.out];exact hlt);obtain⟨b,o,hbo,x0,x1⟩:=(dnw.avas_below HAv.out HBr.out) i hil;obtain⟨b2,o2,hbo2,y0,y1⟩:=(dnw.avas_below HAv2.out HBr.out) i hil;subst hbo hbo2;generalize rdn[i]=a at x0 x1 y0 y1;go_wp2_with fail;go_quiet (fail);have HBQ:=Lib.hid (same.below_drewN hBr.out nq);clear k0 k1 m0 m1 x0 x1 y0 y1;go_wp2_with fail;go_roundw;case rel=>exact⟨i+1,by omega,by go_num,HBQ⟩
   case measure=>simp[intOf];omega
  ·obtain rfl:Nr=i:=(by omega);go_wp2_with fail;clear k0 k1 m0 m1;have HB0:=hBr;go_loopw [6] (fun iv wr=> ∃i:Nat,i≤N∧iv= .int .i64 (i:Int)∧Hid (Below W2.heap.size W2 wr)) (fun iv _=>N- (intOf iv).toNat);case atStart=>exact⟨0,Nat.zero_le _,rfl,HB0.out⟩
   case round=>
    clear HBr hBr HB0;obtain⟨i,hi,rfl,hBr⟩:=hrel;have HBr:=Lib.hid (HB2.out.trans (hBr.out.mono hz2));obtain⟨k0,z1⟩:=entB_cells (entB_below HT2.out hBr.out);obtain⟨m0,u1⟩:=entB_cells (entB_below HQ2.out hBr.out);clear k0 m0;by_cases hlt:i<N
    ·have hltI:(i:Int)<(N:Int):=(by omega);have hil:i<L.length:=(by rw[HN.out];exact hlt);obtain⟨b,o,ax,cx,hbo,x0,x1,hcx,hs1⟩:=(ats_below HA.out HBr.out) i hil;obtain⟨b2,o2,ay,cy,hbo2,y0,y1,hcy,hs2⟩:=(ats_below HA2.out HBr.out) i hil;subst hbo hbo2;have hvl:=(HVS.out L[i] (List.getElem_mem _)).2.1;obtain⟨tt,htt⟩: ∃tt,L[i].t=tt:=⟨_,rfl⟩;obtain⟨vs,hvs⟩: ∃vs,L[i].vs=vs:=⟨_,rfl⟩;rw[htt]at x0 y0;rw[hvs]at x1 y1 hcx hcy hs1 hs2 hvl;clear htt hvs;obtain⟨M,hM⟩: ∃M,vs.length=M:=⟨_,rfl⟩;have HS1:=Lib.hid hs1;have HS2:=Lib.hid hs2;have HSM:Hid (∀W,Below wr.heap.size wr W→Calls Tryz.prog 26 #[.slice ax M cx,.slice ay M cy] W fun e w'=>e= .returned (.bool true)∧Below W.heap.size W w'):=(by intro W h;have:=same.same_any ax ay cx cy vs vs W (Lib.hid (strs_below HS1.out h)) (Lib.hid (strs_below HS2.out h)) (by omega);rw[hM,decide_eq_true rfl]at this;exact this);rw[hM]at x1 y1;clear hM hcx hcy hs1 hs2 hvl HS1 HS2;have hz1:=World.block_lt_of_cell? wr _ z1;have hu1:=World.block_lt_of_cell? wr _ u1;have hx0:=World.block_lt_of_cell? wr _ x0;have hx1:=World.block_lt_of_cell? wr _ x1;have hy0:=World.block_lt_of_cell? wr _ y0;have hy1:=World.block_lt_of_cell? wr _ y1;go_wp2_with fail;refine wp_region_held_drew (S:=fun W=>W.cell? ⟨w.heap.size,1,none⟩=some (.slice (some ⟨b,o,none⟩) N ac)∧W.cell? ⟨q,1,none⟩=some (.slice (some ⟨b2,o2,none⟩) N ac2)∧W.cell? ⟨b,o+i*2,none⟩=some (.string tt)∧W.cell? ⟨b,o+i*2+1,none⟩=some (.slice ax M cx)∧W.cell? ⟨b2,o2+i*2,none⟩=some (.string tt)∧W.cell? ⟨b2,o2+i*2+1,none⟩=some (.slice ay M cy)) (by kernel_rfl) (⟨z1,u1,x0,x1,y0,y1⟩) (fun hHeld=> ?_);refine tk 0 ⟨some 48,_,_,_,_,_⟩ rfl ?_;refine tk 1 ⟨some 49,_,_,_,_,_⟩ rfl ?_;refine tk 2 ⟨some 50,_,_,_,_,_⟩ rfl ?_;refine tk 3 ⟨some 51,_,_,_,_,_⟩ rfl ?_;refine tk 4 ⟨some 52,_,_,_,_,_⟩ rfl ?_;refine tk 5 ⟨some 53,_,_,_,_,_⟩ rfl ?_;refine tk 6 ⟨some 54,_,_,_,_,_⟩ rfl ?_;refine tk 7 ⟨some 55,_,_,_,_,_⟩ rfl ?_;refine tk 8 ⟨some 56,_,_,_,_,_⟩ rfl ?_;refine tk 9 ⟨some 57,_,_,_,_,_⟩ rfl ?_;refine tk 10 ⟨some 58,_,_,_,_,_⟩ rfl ?_;refine tk 11 ⟨some 59,_,_,_,_,_⟩ rfl ?_;refine tk 12 ⟨some 60,_,_,_,_,_⟩ rfl ?_;refine tk 13 ⟨some 61,_,_,_,_,_⟩ rfl ?_;refine tk 14 ⟨some 62,_,_,_,_,_⟩ rfl ?_;refine tk 15 ⟨some 63,_,_,_,_,_⟩ rfl ?_;refine tk 16 ⟨some 64,_,_,_,_,_⟩ rfl ?_;refine tk 17 ⟨some 65,_,_,_,_,_⟩ rfl ?_;refine tk 18 ⟨some 66,_,_,_,_,_⟩ rfl ?_;refine tk 19 ⟨some 67,_,_,_,_,_⟩ rfl ?_;refine tk 20 ⟨some 68,_,_,_,_,_⟩ rfl ?_;refine tk 21 ⟨some 69,_,_,_,_,_⟩ rfl ?_;refine tk 22 ⟨some 70,_,_,_,_,_⟩ rfl ?_;refine tk 23 ⟨some 71,_,_,_,_,_⟩ rfl ?_;refine tk 24 ⟨some 72,_,_,_,_,_⟩ rfl ?_;refine tk 25 ⟨some 73,_,_,_,_,_⟩ rfl ?_;refine tc 26 ⟨some 74,_,_,_,_,_⟩ rfl (fun K hK=> ?_);go_simp;go_at_call 26;refine(HSM.out _ ((Below.refl wr.heap.size wr).drew)).mono ?_;rintro e w6 ⟨rfl,hB6⟩;refine hK.out _ _ (⟨(hB6.cell (p:=⟨w.heap.size,1,none⟩) hz1).trans (z1),(hB6.cell (p:=⟨q,1,none⟩) hu1).trans (u1),(hB6.cell (p:=⟨b,o+i*2,none⟩) hx0).trans (x0),(hB6.cell (p:=⟨b,o+i*2+1,none⟩) hx1).trans (x1),(hB6.cell (p:=⟨b2,o2+i*2,none⟩) hy0).trans (y0),(hB6.cell (p:=⟨b2,o2+i*2+1,none⟩) hy1).trans (y1)⟩) (fun hHeld=> ?_);clear hK;try simp only[Act.put,List.setIfInBounds_toArray,List.set_cons_zero,List.set_cons_succ]
     refine tk 27 ⟨some 75,_,_,_,_,_⟩ rfl ?_;refine tk 28 ⟨some 76,_,_,_,_,_⟩ rfl ?_;refine wpAnyH_done (by kernel_rfl) ?_ _;have HB6:=Lib.hid (hBr.out.trans (((Below.refl wr.heap.size wr).drew.trans hB6).mono hBr.out.size));clear hHeld hB6 x0 x1 y0 y1 z1 u1;go_wp2_with fail;go_roundw;case rel=>exact⟨i+1,by omega,by go_num,HB6⟩
     case measure=>simp[intOf];omega
    ·obtain rfl:N=i:=(by omega);go_wp2_with fail;go_ret;exact⟨rfl,HBr.out⟩
end etw
open Go.RowKit
namespace etw
open atp atw etp
open dnw (Av Avas)
open tupw (Strs strs_below)
def valE:Except Int En→En
 | .ok E=>E
 | .error _=>⟨[],[]⟩
def codeE:Except Int En→Int
 | .ok _=>0
 | .error f=>f
def ResX (X:En)(f:Int)(W:World)(e:Ending)(w':World):Prop:= ∃r1 n1 c1 r2 n2 c2,e= .returned (.tuple #[.agg #[.slice r1 n1 c1,.slice r2 n2 c2],.int .i64 f])∧EntV w' (.agg #[.slice r1 n1 c1,.slice r2 n2 c2]) X∧Below W.heap.size W w'
theorem entV_zero (w:World):EntV w (.agg #[.slice none 0 0,.slice none 0 0]) ⟨[],[]⟩:=⟨none,0,none,0,rfl,Nat.le_refl _,Nat.le_refl _,fun i hi=>absurd hi (Nat.not_lt_zero _),fun i hi=>absurd hi (Nat.not_lt_zero _)⟩
theorem resX_of {r:Except Int En}{W:World}{e:Ending}{w':World}(h:ResE r W e w'):ResX (valE r) (codeE r) W e w':=by
 obtain⟨hb,h⟩:=h;cases r with
 | ok E=>obtain⟨v,rfl,hv⟩:=h;obtain⟨r1,n1,c1,r2,n2,c2,rfl⟩:=ent_agg hv;exact⟨_,_,_,_,_,_,rfl,hv,hb⟩
 | error f=>have h2:e= .returned (.tuple #[.agg #[.slice none 0 0,.slice none 0 0],.int .i64 f]):=h;subst h2;exact⟨_,_,_,_,_,_,rfl,entV_zero w',hb⟩
theorem bd_zero:Bd ⟨[],[]⟩:=⟨by simp,by simp,by simp,by simp⟩
end etw
open Go.RowKit
namespace etw
open atp atw etp
open dnw (Av Avas)
open tupw (Strs strs_below)
theorem flat_le {α β:Type}{f:α→List β}{l:List α}{a:α}(h:a∈l):(f a).length≤(l.flatMap f).length:=by obtain⟨p,q,rfl⟩:=List.append_of_mem h;rw[List.flatMap_append,List.flatMap_cons,List.length_append,List.length_append];omega
theorem unp_bd {s:ByteArray}{r:Except Int En}(h:UnpE s.data.toList r):Bd (valE r):=by
 cases r with
 | error f=>exact bd_zero
 | ok E=>
  obtain⟨h1,h2⟩:=h.1 E rfl;obtain⟨_,h3,h4⟩:=pack_ok h1;have key: ∀ (x:List UInt8) (L:List UInt8),x.length≤L.length→L.length≤4000→x.length≤100000:=fun x L a b=>by omega
  have hl:(packB E).length≤4000:=by rw[h3];exact h4
  have hR:(etp.encR E.rdn).length≤4000:=by have:(packB E).length=1+((etp.encR E.rdn).length+(1+(encL E.ats).length)):=(by unfold packB;simp only[List.length_cons,List.length_append];omega);omega
  have hL:(encL E.ats).length≤4000:=by have:(packB E).length=1+((etp.encR E.rdn).length+(1+(encL E.ats).length)):=(by unfold packB;simp only[List.length_cons,List.length_append];omega);omega
  refine⟨Nat.le_trans h2.1 (by omega),fun a ha=> ?_,Nat.le_trans h2.2.1 (by omega),fun a ha=>⟨?_,Nat.le_trans (h2.2.2 a ha) (by omega),fun v hv=> ?_⟩⟩
  ·have h5:(txt a.t++txt a.v).length≤(etp.encR E.rdn).length:=(by unfold etp.encR;exact flat_le (f:=fun a:Av=>txt a.t++txt a.v) ha);rw[List.length_append,txt_len,txt_len]at h5;omega
  ·have h5:(encA a).length≤(encL E.ats).length:=(by unfold encL;exact flat_le ha);unfold encA at h5;rw[List.length_append,txt_len]at h5;omega
  ·have h5:(encA a).length≤(encL E.ats).length:=(by unfold encL;exact flat_le ha);have h6:(txt v).length≤(encV a.vs).length:=(by unfold encV;exact flat_le hv);unfold encA at h5;rw[List.length_append,List.length_cons]at h5;rw[txt_len]at h6;omega
theorem reads_law (s:ByteArray)(w:World)(hs:s.size≤140737488351232)(hE:Hid (EnvE w)):
  Calls Tryz.prog 3 #[.string s] w fun e w'=>e= .returned (.bool true)∧Below w.heap.size w w':=by
 have HAW:=Lib.hid (eawake_any w hE);by_cases h5:5000<s.size
 ·have h5':(5000:Int)<(s.size:Int):=by omega
  clear h5;go_enter Tryz.func3,Tryz.ntmps3;go_wp2_with fail;refine HAW.out.mono ?_;rintro e w1 ⟨rfl,hB1⟩;have HB1:=Lib.hid hB1;clear hB1;go_wp2_with fail;go_ret;exact⟨rfl,HB1.out⟩
 ·have h5': ¬ (5000:Int)<(s.size:Int):=by omega
  clear h5;go_enter Tryz.func3,Tryz.ntmps3;go_wp2_with fail;refine HAW.out.mono ?_;rintro e w1 ⟨rfl,hB1⟩;have HB1:=Lib.hid hB1;have HU1:=Lib.hid (unpack_any s w1 hs (Lib.hid (envE_below hE.out hB1)));clear hB1;go_wp2_with fail;refine HU1.out.mono ?_;rintro e w2 ⟨r,hr,hres⟩;obtain⟨r1,n1,c1,r2,n2,c2,he,hv2,hB2⟩:=resX_of hres;subst he;obtain⟨w3,hw3⟩: ∃W,w2.alloc (.cells #[.slice r1 n1 c1,.slice r2 n2 c2] 26)=W:=⟨_,rfl⟩;have hB3:Below w2.heap.size w2 w3:=by rw[←hw3];exact(Below.refl _ _).alloc (Nat.le_refl _) _
  obtain⟨q,hqq⟩: ∃q,w2.heap.size=q:=⟨_,rfl⟩;have HX3:Hid (EntB w3 q (.slice r1 n1 c1) (.slice r2 n2 c2)):=by rw[←hw3,←hqq];exact entB_new _ _ _
  have HB3:=Lib.hid (HB1.out.trans ((hB2.trans (hB3.mono hB2.size)).mono HB1.out.size));have HV3:=Lib.hid (entV_below hv2 hB3);have HU2:=Lib.hid (runpack_any s w3 hs);have HUR:=Lib.hid hr;have HBDD:=Lib.hid (unp_bd hr);generalize hX:valE r=X at HV3 HBDD hv2;generalize hF:codeE r=F;have HX:=Lib.hid hX;have HF:=Lib.hid hF;clear hB2 hB3 hv2 hres hr HU1 hX hF;go_wp2_with fail;refine HU2.out.mono ?_;rintro e w4 ⟨r',hr',hres'⟩;have hrr:=unp_same hr' HUR.out;obtain⟨s1,m1,d1,s2,m2,d2,he,hv4,hB4⟩:=resX_of hres';rw[hrr,HX.out]at hv4;rw[hrr,HF.out]at he;subst he;obtain⟨w5,hw5⟩: ∃W,w4.alloc (.cells #[.slice s1 m1 d1,.slice s2 m2 d2] 26)=W:=⟨_,rfl⟩;have hB5:Below w4.heap.size w4 w5:=by rw[←hw5];exact(Below.refl _ _).alloc (Nat.le_refl _) _
  obtain⟨q2,hq2⟩: ∃q,w4.heap.size=q:=⟨_,rfl⟩;have HY5:Hid (EntB w5 q2 (.slice s1 m1 d1) (.slice s2 m2 d2)):=by rw[←hw5,←hq2];exact entB_new _ _ _
  have hB45:=hB4.trans (hB5.mono hB4.size);have HB5:=Lib.hid (HB3.out.trans (hB45.mono HB3.out.size));have HS:=Lib.hid (same17_eq _ _ X w5 (Lib.hid (entV_below HV3.out hB45)) (Lib.hid (entV_below hv4 hB5)) HBDD);obtain⟨x0,x1⟩:=entB_cells (entB_below HX3.out hB45);obtain⟨y0,y1⟩:=entB_cells HY5.out;clear hB4 hB5 hB45 hv4 hres' hr' hrr HU2 hw3 hqq;go_wp2_with fail;refine HS.out.mono ?_;rintro e w6 ⟨rfl,hB6⟩;have HBE:=Lib.hid (HB5.out.trans (hB6.mono HB5.out.size));clear hB6 x0 x1 y0 y1 hw5 hq2;go_wp2_with fail;go_ret;exact⟨rfl,HBE.out⟩
end etw
open Go.RowKit
namespace atw
open atp
def tyData:DataW Unit:= .agg (tys.map fun t=> .agg [.lit (.string t.name),.lit (.int .i64 t.syn),.lit (.bool t.single)])
theorem rows_take {α β:Type}(f:β→List α)(n:Nat): ∀ (l:List β) (cs:List α),(∀i (h:i<l.length),(cs.drop (i*n)).take n=f l[i])→cs.take (l.length*n)=l.flatMap f:=by
 intro l;induction l with
 | nil=>intro cs _;simp
 | cons b r ih=>intro cs h;have h0:=h 0 (by simp);rw[Nat.zero_mul,List.drop_zero]at h0;have h1:=ih (cs.drop n) (by intro i hi;have:=h (i+1) (by simp;omega);rw[List.drop_drop,show n+i*n=(i+1)*n by rw[Nat.add_mul,Nat.one_mul,Nat.add_comm]];exact this);rw[List.flatMap_cons,List.length_cons,show(r.length+1)*n=n+r.length*n by rw[Nat.add_mul,Nat.one_mul,Nat.add_comm],List.take_add,h0,h1];rfl
theorem trod_ty {H:Type}{enc:TypeId × Value→H}{w:World}{base:Nat}{sp:Nat→Bool}{held:Bool}{fuel:Nat}{cs:List Value}{q:List MemPlace}{t:Ty}
  (h:DataW.trod enc Tryz.prog w base sp held fuel 108 cs=some (.agg [.lit (.string t.name),.lit (.int .i64 t.syn),.lit (.bool t.single)],q)):cs=tval t:=by
 obtain⟨y0,y1,y2,n,hx,hl,h0,h1,h2⟩:=Deep.trod_struct3 Tryz.underlying108 h;obtain⟨s,e0,rfl,_⟩:=DataW.trod_string Tryz.underlying9 h0;obtain⟨z,e1,rfl,_⟩:=DataW.trod_int Tryz.underlying3 h1;obtain⟨b,e2,rfl⟩:=DataW.trod_bool Tryz.underlying4 h2;have hx1:=congrArg Prod.fst hx;simp only[DataW.agg.injEq,List.cons.injEq,DataW.lit.injEq,Lit.string.injEq,Lit.int.injEq,Lit.bool.injEq,true_and,and_true]at hx1;obtain⟨x0,x1,x2⟩:=hx1;have k0:Tryz.prog.cellsOf 9=1:=by kernel_rfl
 have k1:Tryz.prog.cellsOf 3=1:=by kernel_rfl
 have k2:Tryz.prog.cellsOf 4=1:=by kernel_rfl
 have k3:Tryz.prog.cellsOf 108=3:=by kernel_rfl
 rw[k3]at hl;obtain⟨a,b',c,rfl⟩: ∃a b' c,cs=[a,b',c]:=by
  match cs,hl with
  | [a,b',c],_=>exact⟨a,b',c,rfl⟩
 ·skip
  have e0':[a]=[Value.string s]:=by simpa[k0]using e0
  have e1':[b']=[Value.int .i64 z]:=by simpa[k1]using e1
  have e2':[c]=[Value.bool b]:=by simpa[k2]using e2
  cases e0';cases e1';cases e2';unfold tval bs;rw[x0,x1,x2]
theorem tyEnv_of_reads {w:World}(h:Lib.VarReads Tryz.prog w "rollbook/attr.types" tyData):Hid (TyEnv w):=by
 obtain⟨g,t,cs,fuel,p,hg,hty,hvar,hd⟩:=h;obtain rfl:=Option.some.inj ((show Tryz.prog.globalNamed "rollbook/attr.types" =some 0 by kernel_rfl).symm.trans hg);obtain rfl:=Option.some.inj ((show(Tryz.prog.globals[0]?).map (·.type)=some 169 by kernel_rfl).symm.trans hty);have k3:Tryz.prog.cellsOf 108=3:=by kernel_rfl
 have hall:=rows_take tval 3 tys cs.toList (by intro i hi;obtain⟨fuel',d,q,hdi,he⟩:=Lib.array_elem Tryz.underlying169 hd i hi;rw[List.getElem?_map,List.getElem?_eq_getElem hi]at hdi;simp only[Option.map_some,Option.some.injEq]at hdi;subst hdi;rw[k3]at he;exact trod_ty he);intro j v hj;have hlt:j<60:=by
  have h1:=(List.getElem?_eq_some_iff.1 hj).1;have h2:tcells.length=60:=by kernel_rfl
  omega
 have hj2:(cs.toList.take (tys.length*3))[j]? =some v:=by rw[hall];exact hj
 rw[List.getElem?_take,if_pos (by rw[tys_len];omega)]at hj2;rw[Nat.zero_add,World.var?_cell hg hvar j,←Array.getElem?_toList];exact hj2
end atw
end Go.Proofs.YtmnpfkbjpeaemaaGreatDoor
