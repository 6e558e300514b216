/- One text out of several: FilS, SchC, SchI, Same, SchJ, FilU, FilUa. -/
import Derived.Test.YtmnpfkbjpeaemaaGreatDoorM9
import Derived.Test.YtmnpfkbjpeaemaaGreatDoorM13
import Derived.Lib.SmallJoins
import Derived.Test.YtmnpfkbjpeaemaaGreatDoorM7
import Derived.Test.YtmnpfkbjpeaemaaGreatDoorM8
import Derived.Deep.QuietTactic
import Derived.BigQuiet
import Derived.Test.YtmnpfkbjpeaemaaGreatDoorM6
import Derived.Test.YtmnpfkbjpeaemaaGreatDoorM14
set_option linter.unusedVariables false
set_option linter.unusedSimpArgs false
set_option maxRecDepth 20000
set_option maxHeartbeats 16000000
namespace Go.Proofs.YtmnpfkbjpeaemaaGreatDoor
open Go.RowKit
namespace flw
open flp atp atw etp etw
open tupw (Strs strs_below)
theorem sum_kids (d:Nat)(F:Fl):cntN (d+1) F=1+(F.kids.map (cntN d)).sum:=rfl
theorem size_any: ∀ (d:Nat) (F:Fl) (v:Value) (n:Nat) (w:World),n≤40→okD d F→Hid (FlX w v F)→Hid (FitX F)→
  Calls Tryz.prog 119 #[v,.int .i64 (n:Int)] w fun e w'=>e= .returned (.int .i64 ((min (n+cntN d F) 41:Nat):Int))∧Below w.heap.size w w':=by
 intro d;induction d with
 | zero=>intro F v n w hn hd hv hf;exact hd.elim
 | succ d ih=>
  intro F v n w hn hd hv hf;have IH:Hid (∀ (G:Fl) (u:Value) (r:Nat) (W:World),G∈F.kids→r≤40→FlX W u G→FitX G→Calls Tryz.prog 119 #[u,.int .i64 (r:Int)] W fun e w'=>e= .returned (.int .i64 ((min (r+cntN d G) 41:Nat):Int))∧Below W.heap.size W w'):=fun G u r W hG hr hu hg=>ih G u r W hr (hd G hG) (Lib.hid hu) (Lib.hid hg);clear ih hd;have HS:=Lib.hid (sum_kids d F);obtain⟨R,hR⟩: ∃R,min (n+cntN (d+1) F) 41=R:=⟨_,rfl⟩;rw[hR];have HR:=Lib.hid hR;clear hR;obtain⟨n1,hn1⟩: ∃x,n+1=x:=⟨_,rfl⟩;have en:(n:Int)+1=(n1:Int):=by omega
  have HN1:=Lib.hid hn1;have hn41:n1≤41:=by omega
  clear hn1;obtain⟨xa,xc,ka,kc,rfl,HX,HK,hxc,hkc⟩:=flX_form hv.out;unfold flV;obtain⟨N,hN⟩: ∃N,F.kids.length=N:=⟨_,rfl⟩;have HN:=Lib.hid hN;obtain⟨M,hM⟩: ∃M,F.any.length=M:=⟨_,rfl⟩;have HM:=Lib.hid hM;have HFH:=Lib.hid (fitX_head hf.out);have hNb:N≤100000:=by rw[←hN];exact HFH.out.2.2.2.2.2.2
  have hMb:M≤100000:=by rw[←hM];exact HFH.out.2.2.2.2.1
  rw[hN]at hkc ⊢;rw[hM]at hxc ⊢;clear hN hM;obtain⟨W1,hW1⟩: ∃W,w.alloc (.cells #[.int .i64 F.kind,.string F.attr,.string F.value,.string F.first,.slice xa M xc,.string F.last,.slice ka N kc] 73)=W:=⟨_,rfl⟩;have hB1:Below w.heap.size w W1:=by rw[←hW1];exact(Below.refl _ _).alloc (Nat.le_refl _) _
  have HF1:Hid (R7 W1 w.heap.size (.int .i64 F.kind) (.string F.attr) (.string F.value) (.string F.first) (.slice xa M xc) (.string F.last) (.slice ka N kc)):=by rw[←hW1];exact r7_new _ _ _ _ _ _ _ _
  obtain⟨k0,k1,k2,k3,k4,k5,k6⟩:=r7_cells HF1.out;have HB1:=Lib.hid hB1;have hs1:=hB1.size;clear hB1;go_enter Tryz.func119,Tryz.ntmps119;go_wp2_with fail;have HF1':=HF1;clear k0 k1 k2 k3 k4 k5 k6;go_loopw [1,12] (fun lv iv wr=> ∃ (i a:Nat),i≤N∧a≤41∧lv= .int .i64 (a:Int)∧iv= .int .i64 (i:Int)∧Hid (Below w.heap.size w wr)∧Hid (a=min (n+(1+((F.kids.take i).map (cntN d)).sum)) 41)) (fun _ iv _=>N- (intOf iv).toNat);case atStart=>exact⟨0,n1,Nat.zero_le _,hn41,rfl,rfl,HB1.out,(by have:=HN1.out;show _=_;simp;omega)⟩
  case round=>
   obtain⟨i,a,hi,ha,rfl,rfl,hB,hJ⟩:=hrel;have HBw:=hB;have hsw:=hB.out.size;clear hB;have hmin:min (a:Int) 41=(a:Int):=(by omega);by_cases hlt:i<N
   ·have hltI:(i:Int)<(N:Int):=(by omega);have hil:i<F.kids.length:=(by rw[HN.out];exact hlt);obtain⟨b,o,ya,yc,la,lc,hao,hc,hkX⟩:=kidsX_at (kidsX_below HK.out HBw.out) i hil;subst hao;have HFK:=Lib.hid (fitX_kid hf.out (List.getElem_mem hil));obtain⟨G,hG⟩: ∃G,F.kids[i]=G:=⟨_,rfl⟩;have HG:=Lib.hid hG;rw[hG]at hc hkX HFK;clear hG;unfold flV at hkX;generalize G.any.length=m' at hc hkX;generalize G.kids.length=n' at hc hkX;obtain⟨c0,c1,c2,c3,c4,c5,c6⟩:=hc;have HKX:=Lib.hid hkX;clear hkX;have HST:=Lib.hid (cnt_step (d:=d) hil);have HTK:=Lib.hid (cnt_take (d:=d) F.kids i);have HMEM:=Lib.hid (List.getElem_mem hil);rw[HG.out]at HST HMEM;obtain⟨Wa,hWa⟩: ∃W,wr.alloc (.cells #[.int .i64 G.kind,.string G.attr,.string G.value,.string G.first,.slice ya m' yc,.string G.last,.slice la n' lc] 73)=W:=⟨_,rfl⟩;have hBA:Below wr.heap.size wr Wa:=(by rw[←hWa];exact(Below.refl _ _).alloc (Nat.le_refl _) _);have HTA:Hid (R7 Wa wr.heap.size (.int .i64 G.kind) (.string G.attr) (.string G.value) (.string G.first) (.slice ya m' yc) (.string G.last) (.slice la n' lc)):=(by rw[←hWa];exact r7_new _ _ _ _ _ _ _ _);obtain⟨x0,x1,x2,x3,x4,x5,x6⟩:=r7_cells HTA.out;have HBA:=Lib.hid hBA;have HKA:=Lib.hid (flX_below HKX.out hBA);clear hBA;by_cases h40:(40:Int)<(a:Int)
    ·have HR2:Hid (R=a):=(by have h1:=HR.out;have h2:=HS.out;have h3:=HTK.out;have h4:=hJ.out;show _=_;omega);go_wp2_with fail;go_ret;exact⟨kt.ret_int (by rw[HR2.out]),HBw.out.trans (HBA.out.mono hsw)⟩
    ·have HC:Hid (Calls Tryz.prog 119 #[.agg #[.int .i64 G.kind,.string G.attr,.string G.value,.string G.first,.slice ya m' yc,.string G.last,.slice la n' lc],.int .i64 (a:Int)] Wa fun e w'=>e= .returned (.int .i64 ((min (a+cntN d G) 41:Nat):Int))∧Below Wa.heap.size Wa w'):=IH.out G _ a Wa HMEM.out (by omega) HKA.out HFK.out;obtain⟨c,hc⟩: ∃c,min (a+cntN d G) 41=c:=⟨_,rfl⟩;rw[hc]at HC;have HJ2:Hid (c=min (n+(1+((F.kids.take (i+1)).map (cntN d)).sum)) 41):=(by have h4:=hJ.out;have h5:=HST.out;show _=_;omega);have hc41:c≤41:=(by omega);clear hc;go_wp2_with fail;refine HC.out.mono ?_;rintro e w3 ⟨rfl,hB3⟩;have HB3:=Lib.hid (HBw.out.trans ((HBA.out.trans (hB3.mono HBA.out.size)).mono hsw));clear hB3 x0 x1 x2 x3 x4 x5 x6 c0 c1 c2 c3 c4 c5 c6;go_wp2_with fail;go_roundw;case rel=>exact⟨i+1,c,by omega,hc41,rfl,by go_num,HB3.out,HJ2.out⟩
     case measure=>simp[intOf];omega
   ·obtain rfl:N=i:=(by omega);have HR2:Hid (R=a):=(by have h1:=HR.out;have h2:=HS.out;have h4:=hJ.out;rw[←HN.out,List.take_length]at h4;show _=_;omega);go_wp2_with fail;go_ret;exact⟨kt.ret_int (by rw[HR2.out]),HBw.out⟩
theorem sizeF_any (d:Nat)(F:Fl)(v:Value)(w:World)(hd:okD d F)(hv:Hid (FlX w v F))(hf:Hid (FitX F)):
  Calls Tryz.prog 57 #[v] w fun e w'=>e= .returned (.int .i64 ((min (cntN d F) 41:Nat):Int))∧Below w.heap.size w w':=by
 have HC0:Hid (∀W,Below w.heap.size w W→Calls Tryz.prog 119 #[v,.int .i64 0] W fun e w'=>e= .returned (.int .i64 ((min (cntN d F) 41:Nat):Int))∧Below W.heap.size W w'):=by intro W h;have:=size_any d F v 0 W (by omega) hd (Lib.hid (flX_below hv.out h)) hf;rw[Nat.zero_add]at this;exact this
 clear hd;generalize min (cntN d F) 41=R at HC0 ⊢;obtain⟨xa,xc,ka,kc,rfl,HX,HK,hxc,hkc⟩:=flX_form hv.out;unfold flV;try unfold flV at HC0
 obtain⟨N,hN⟩: ∃N,F.kids.length=N:=⟨_,rfl⟩;have HN:=Lib.hid hN;obtain⟨M,hM⟩: ∃M,F.any.length=M:=⟨_,rfl⟩;have HM:=Lib.hid hM;have HFH:=Lib.hid (fitX_head hf.out);have hNb:N≤100000:=by rw[←hN];exact HFH.out.2.2.2.2.2.2
 have hMb:M≤100000:=by rw[←hM];exact HFH.out.2.2.2.2.1
 rw[hN]at hkc ⊢;try rw[hN]at HC0
 rw[hM]at hxc ⊢;try rw[hM]at HC0
 clear hN hM;obtain⟨W1,hW1⟩: ∃W,w.alloc (.cells #[.int .i64 F.kind,.string F.attr,.string F.value,.string F.first,.slice xa M xc,.string F.last,.slice ka N kc] 73)=W:=⟨_,rfl⟩;have hB1:Below w.heap.size w W1:=by rw[←hW1];exact(Below.refl _ _).alloc (Nat.le_refl _) _
 have HF1:Hid (R7 W1 w.heap.size (.int .i64 F.kind) (.string F.attr) (.string F.value) (.string F.first) (.slice xa M xc) (.string F.last) (.slice ka N kc)):=by rw[←hW1];exact r7_new _ _ _ _ _ _ _ _
 obtain⟨k0,k1,k2,k3,k4,k5,k6⟩:=r7_cells HF1.out;have HB1:=Lib.hid hB1;have hs1:=hB1.size;clear hB1;have HC:=Lib.hid (HC0.out W1 HB1.out);clear HC0;go_enter Tryz.func57,Tryz.ntmps57;go_wp2_with fail;refine HC.out.mono ?_;rintro e w2 ⟨rfl,hB2⟩;have HB2:=Lib.hid (HB1.out.trans (hB2.mono hs1));clear hB2 k0 k1 k2 k3 k4 k5 k6;go_wp2_with fail;go_ret;exact⟨rfl,HB2.out⟩
theorem lcount_any: ∀ (d:Nat) (F:Fl) (v:Value) (n:Nat) (w:World),n+cntN d F≤1000000→okD d F→Hid (FlX w v F)→Hid (FitX F)→
  Calls Tryz.prog 48 #[v,.int .i64 (n:Int)] w fun e w'=>e= .returned (.int .i64 ((n+cntN d F:Nat):Int))∧Below w.heap.size w w':=by
 intro d;induction d with
 | zero=>intro F v n w hn hd hv hf;exact hd.elim
 | succ d ih=>
  intro F v n w hn hd hv hf;have IH:Hid (∀ (G:Fl) (u:Value) (r:Nat) (W:World),G∈F.kids→r+cntN d G≤1000000→FlX W u G→FitX G→Calls Tryz.prog 48 #[u,.int .i64 (r:Int)] W fun e w'=>e= .returned (.int .i64 ((r+cntN d G:Nat):Int))∧Below W.heap.size W w'):=fun G u r W hG hr hu hg=>ih G u r W hr (hd G hG) (Lib.hid hu) (Lib.hid hg);clear ih hd;have HS:=Lib.hid (sum_kids d F);obtain⟨R,hR⟩: ∃R,n+cntN (d+1) F=R:=⟨_,rfl⟩;rw[hR]at hn;rw[hR];have HR:=Lib.hid hR;clear hR;obtain⟨n1,hn1⟩: ∃x,n+1=x:=⟨_,rfl⟩;have en:(n:Int)+1=(n1:Int):=by omega
  have HN1:=Lib.hid hn1;have hnb:n≤1000000:=by have:=HR.out;omega
  have hn41:n1≤1000001:=by omega
  clear hn1;obtain⟨xa,xc,ka,kc,rfl,HX,HK,hxc,hkc⟩:=flX_form hv.out;unfold flV;obtain⟨N,hN⟩: ∃N,F.kids.length=N:=⟨_,rfl⟩;have HN:=Lib.hid hN;obtain⟨M,hM⟩: ∃M,F.any.length=M:=⟨_,rfl⟩;have HM:=Lib.hid hM;have HFH:=Lib.hid (fitX_head hf.out);have hNb:N≤100000:=by rw[←hN];exact HFH.out.2.2.2.2.2.2
  have hMb:M≤100000:=by rw[←hM];exact HFH.out.2.2.2.2.1
  rw[hN]at hkc ⊢;rw[hM]at hxc ⊢;clear hN hM;obtain⟨W1,hW1⟩: ∃W,w.alloc (.cells #[.int .i64 F.kind,.string F.attr,.string F.value,.string F.first,.slice xa M xc,.string F.last,.slice ka N kc] 73)=W:=⟨_,rfl⟩;have hB1:Below w.heap.size w W1:=by rw[←hW1];exact(Below.refl _ _).alloc (Nat.le_refl _) _
  have HF1:Hid (R7 W1 w.heap.size (.int .i64 F.kind) (.string F.attr) (.string F.value) (.string F.first) (.slice xa M xc) (.string F.last) (.slice ka N kc)):=by rw[←hW1];exact r7_new _ _ _ _ _ _ _ _
  obtain⟨k0,k1,k2,k3,k4,k5,k6⟩:=r7_cells HF1.out;have HB1:=Lib.hid hB1;have hs1:=hB1.size;clear hB1;go_enter Tryz.func48,Tryz.ntmps48;go_wp2_with fail;clear k0 k1 k2 k3 k4 k5 k6;go_loopw [1,5] (fun lv iv wr=> ∃ (i a:Nat),i≤N∧a≤1000001∧lv= .int .i64 (a:Int)∧iv= .int .i64 (i:Int)∧Hid (Below w.heap.size w wr)∧Hid (R7 wr w.heap.size (.int .i64 F.kind) (.string F.attr) (.string F.value) (.string F.first) (.slice xa M xc) (.string F.last) (.slice ka N kc))∧Hid (a=n+(1+((F.kids.take i).map (cntN d)).sum))) (fun _ iv _=>N- (intOf iv).toNat);case atStart=>exact⟨0,n1,Nat.zero_le _,hn41,rfl,rfl,HB1.out,HF1.out,(by have:=HN1.out;show _=_;simp;omega)⟩
  case round=>
   obtain⟨i,a,hi,ha,rfl,rfl,hB,hT,hJ⟩:=hrel;have HBw:=hB;have hsw:=hB.out.size;clear hB;obtain⟨k0,k1,k2,k3,k4,k5,k6⟩:=r7_cells hT.out;by_cases hlt:i<N
   ·have hltI:(i:Int)<(N:Int):=(by omega);have hil:i<F.kids.length:=(by rw[HN.out];exact hlt);obtain⟨b,o,ya,yc,la,lc,hao,hc,hkX⟩:=kidsX_at (kidsX_below HK.out HBw.out) i hil;subst hao;have HFK:=Lib.hid (fitX_kid hf.out (List.getElem_mem hil));obtain⟨G,hG⟩: ∃G,F.kids[i]=G:=⟨_,rfl⟩;have HG:=Lib.hid hG;rw[hG]at hc hkX HFK;clear hG;unfold flV at hkX;generalize G.any.length=m' at hc hkX;generalize G.kids.length=n' at hc hkX;obtain⟨c0,c1,c2,c3,c4,c5,c6⟩:=hc;have HKX:=Lib.hid hkX;clear hkX;have HST:=Lib.hid (cnt_step (d:=d) hil);have HTK:=Lib.hid (cnt_take (d:=d) F.kids (i+1));have HMEM:=Lib.hid (List.getElem_mem hil);rw[HG.out]at HST HMEM;have HKF:Hid (a+cntN d G≤1000000):=(by have h1:=HR.out;have h2:=HS.out;have h3:=HTK.out;have h4:=hJ.out;have h5:=HST.out;show _≤_;omega);have HC:Hid (Calls Tryz.prog 48 #[.agg #[.int .i64 G.kind,.string G.attr,.string G.value,.string G.first,.slice ya m' yc,.string G.last,.slice la n' lc],.int .i64 (a:Int)] wr fun e w'=>e= .returned (.int .i64 ((a+cntN d G:Nat):Int))∧Below wr.heap.size wr w'):=IH.out G _ a wr HMEM.out HKF.out HKX.out HFK.out;obtain⟨c,hc⟩: ∃c,a+cntN d G=c:=⟨_,rfl⟩;rw[hc]at HC;have HJ2:Hid (c=n+(1+((F.kids.take (i+1)).map (cntN d)).sum)):=(by have h4:=hJ.out;have h5:=HST.out;show _=_;omega);have hc41:c≤1000001:=(by have:=HKF.out;omega);clear hc;go_wp2_with fail;refine HC.out.mono ?_;rintro e w3 ⟨rfl,hB3⟩;have HB3:=Lib.hid (HBw.out.trans (hB3.mono hsw));have HT3:=Lib.hid (r7_below hT.out hB3);clear hB3 c0 c1 c2 c3 c4 c5 c6 k0 k1 k2 k3 k4 k5 k6;go_wp2_with fail;go_roundw;case rel=>exact⟨i+1,c,by omega,hc41,rfl,by go_num,HB3.out,HT3.out,HJ2.out⟩
    case measure=>simp[intOf];omega
   ·obtain rfl:N=i:=(by omega);have HR2:Hid (R=a):=(by have h1:=HR.out;have h2:=HS.out;have h4:=hJ.out;rw[←HN.out,List.take_length]at h4;show _=_;omega);go_wp2_with fail;go_ret;exact⟨kt.ret_int (by rw[HR2.out]),HBw.out⟩
end flw
open Go.RowKit
namespace scw
open scp atp atw etp etw
open tupw (Strs strs_below)
def mustA (ks:List Nat):List T:=ks.flatMap mustK
def mayA (ks:List Nat):List T:=ks.flatMap mayK
def lacks (E:En)(m:T):Bool:=(valsA E.ats (bs m)).isEmpty
def odd (ks:List Nat)(a:At):Bool:= !decide (a.t.data.toList∈mustA ks)&& !decide (a.t.data.toList∈mayA ks)
def checkE (E:En):Int:=
 if rightE E=false then 4 else match clsOf (valsA E.ats (bs ocL))with
  | none=>15
  | some ks=>if chainK ks=false then 15 else if(mustA ks).any (lacks E)=true then 15 else if E.ats.any (odd ks)=true then 15 else if namedE E=false then 18 else 0
theorem must_name: ∀k:Fin 13,∀m∈mustK k.val,(findS (sml.lowL m)).map (·.name)=some m:=by decide+kernel
theorem must_at {ks:List Nat}(h: ∀k∈ks,k<13){m:T}(hm:m∈mustA ks): ∃ty,findS (sml.lowL m)=some ty∧ty.name=m:=by obtain⟨k,hk,hm⟩:=List.mem_flatMap.1 hm;have:=must_name ⟨k,h k hk⟩ m hm;rw[Option.map_eq_some_iff]at this;exact this
theorem mustK_len {k:Nat}(hk:k<13):(mustK k).length≤10∧(mayK k).length≤20:=must_len ⟨k,hk⟩
theorem mustA_len {ks:List Nat}(h: ∀k∈ks,k<13):(mustA ks).length≤10*ks.length∧(mayA ks).length≤20*ks.length:=by
 induction ks with
 | nil=>exact⟨Nat.le_refl _,Nat.le_refl _⟩
 | cons k r ih=>have h1:=mustK_len (h k (by simp));have h2:=ih fun j hj=>h j (by simp[hj]);unfold mustA mayA at*;rw[List.flatMap_cons,List.flatMap_cons,List.length_append,List.length_append,List.length_cons];omega
theorem must_msize: ∀k:Fin 13,∀m∈mustK k.val,m.length≤100:=by decide+kernel
theorem mustN_name {k:Nat}(hk:k<13):mustN (sml.lowL (clsA k).name)=mustK k∧mayN (sml.lowL (clsA k).name)=mayK k:=by rw[name_low ⟨k,hk⟩];unfold mustN mayN;rw[idx_name ⟨k,hk⟩];exact⟨rfl,rfl⟩
theorem values_must {E:En}(hr:rightE E=true){m:T}{ty:Ty}(hf:findS (sml.lowL m)=some ty)(hn:ty.name=m):valuesE E (bs m).data.toList=valsA E.ats (bs m):=by unfold valuesE;rw[bs_data,hf];simp only;rw[if_pos hr,hn]
theorem at_name {E:En}(hr:rightE E=true){a:At}(ha:a∈E.ats): ∃ty,findS (sml.lowL a.t.data.toList)=some ty∧bs ty.name=a.t:=by
 have h1:=((atsF_iff _ _).1 (right_iff.1 hr).2).1 a ha;unfold atOK tyOf at h1;cases hf:findS a.t.data.toList with
 | none=>rw[hf]at h1;cases h1
 | some ty=>refine⟨ty,find_small hf,kt.str_eq ?_⟩;rw[bs_data];exact(findS_some hf).2
theorem check_any (v:Value)(E:En)(w:World)(hv:Hid (EntV w v E))(hb:Hid (Bd E))(hE:Hid (EnvE w)):
  Calls Tryz.prog 19 #[v] w fun e w'=>e= .returned (.int .i64 (checkE E))∧Below w.heap.size w w':=by
 have HRT0:Hid (∀W,Below w.heap.size w W→Calls Tryz.prog 71 #[v] W fun e w'=>e= .returned (.bool (rightE E))∧Below W.heap.size W w'):=fun W h=>right_any v E W (Lib.hid (entV_below hv.out h)) hb (Lib.hid (envE_below hE.out h));have HNC0:Hid (rightE E=true→ ∀W,Below w.heap.size w W→Calls Tryz.prog 72 #[v] W fun e w'=>NamE (clsOf (valsA E.ats (bs ocL))) W e w'):=fun hr W h=>named_cls v E W (Lib.hid (entV_below hv.out h)) hb (Lib.hid (envE_below hE.out h)) hr;have HVA0:Hid (rightE E=true→ ∀ (m:T) ty,findS (sml.lowL m)=some ty→ty.name=m→m.length≤100→ ∀W,Below w.heap.size w W→Calls Tryz.prog 31 #[v,.string (bs m)] W fun e w'=>ValsE (valsA E.ats (bs m)) W e w'):=by intro hr m ty hf hn hm W h;have:=values_any v E (bs m) W (Lib.hid (entV_below hv.out h)) hb (by rw[bs_size];omega) (Lib.hid (envE_below hE.out h));rw[values_must hr hf hn]at this;exact this
 have HFD0:Hid (∀ (x:ByteArray) W,x.size≤100000→Below w.heap.size w W→Calls Tryz.prog 74 #[.string x] W fun e w'=>e= .returned (resT (findS (sml.lowL x.data.toList)))∧Below W.heap.size W w'):=fun x W hx h=>find_any x W (by omega) (Lib.hid (envE_below hE.out h).y);have HNM0:Hid (∀W,Below w.heap.size w W→Calls Tryz.prog 63 #[v] W fun e w'=>e= .returned (.bool (namedE E))∧Below W.heap.size W w'):=fun W h=>named_any v E W (Lib.hid (entV_below hv.out h)) hb (Lib.hid (envE_below hE.out h));have HVL:=Lib.hid (vals_len hb.out (bs ocL)).1;have HLN:=Lib.hid (fun ks h=>(clsOf_lt (l:=valsA E.ats (bs ocL)) (ks:=ks) h));have HATS:=Lib.hid hb.out.as_;have HATN:=Lib.hid (fun h a ha=>at_name (E:=E) h (a:=a) ha);have HCE:Hid (checkE E=if rightE E=false then 4 else match clsOf (valsA E.ats (bs ocL))with
  | none=>15
  | some ks=>if chainK ks=false then 15 else if(mustA ks).any (lacks E)=true then 15 else if E.ats.any (odd ks)=true then 15 else if namedE E=false then 18 else 0):=rfl
 obtain⟨R,hR⟩: ∃R,checkE E=R:=⟨_,rfl⟩;rw[hR]at HCE;obtain⟨ro,rc,ao,ac,Nr,N,rfl,HN,HA,hac,HNr,HAv,hrc⟩:=ent_form hv.out;have hNb:N≤100000:=by rw[←HN.out];exact hb.out.al
 obtain⟨W1,hW1⟩: ∃W,w.alloc (.cells #[.slice ro Nr rc,.slice ao N ac] 26)=W:=⟨_,rfl⟩;have hB1:Below w.heap.size w W1:=by rw[←hW1];exact(Below.refl _ _).alloc (Nat.le_refl _) _
 have HT1:Hid (EntB W1 w.heap.size (.slice ro Nr rc) (.slice ao N ac)):=by rw[←hW1];exact entB_new _ _ _
 obtain⟨k0,k1⟩:=entB_cells HT1.out;have HB1:=Lib.hid hB1;have HRT:=Lib.hid (HRT0.out W1 hB1);rw[hR];clear hB1 HRT0 hR hv hac hrc;cases hr:rightE E with
 | false=>rw[hr]at HRT HCE;have HR:Hid (R=4):=HCE.out;clear hr HCE HNC0 HVA0 HFD0 HNM0;rw[HR.out];go_enter Tryz.func19,Tryz.ntmps19;go_wp2_with fail;refine HRT.out.mono ?_;rintro e w2 ⟨rfl,hB2⟩;have HB2:=Lib.hid (HB1.out.trans (hB2.mono HB1.out.size));clear hB2 k0 k1 hW1;go_wp2_with fail;go_ret;exact⟨rfl,HB2.out⟩
 | true=>
  rw[hr]at HRT HCE;have HNC:=Lib.hid (HNC0.out hr);have HVA:=Lib.hid (HVA0.out hr);have HATM:=Lib.hid (HATN.out hr);have HCE2:Hid (R=match clsOf (valsA E.ats (bs ocL))with
   | none=>15
   | some ks=>if chainK ks=false then 15 else if(mustA ks).any (lacks E)=true then 15 else if E.ats.any (odd ks)=true then 15 else if namedE E=false then 18 else 0):=HCE.out
  clear hr HCE HNC0 HVA0 HATN;generalize namedE E=nb at HNM0 HCE2;go_enter Tryz.func19,Tryz.ntmps19;go_wp2_with fail;refine HRT.out.mono ?_;rintro e w2 ⟨rfl,hB2⟩;have HB2:=Lib.hid (HB1.out.trans (hB2.mono HB1.out.size));have HT2:=Lib.hid (entB_below HT1.out hB2);have HNC1:=Lib.hid (HNC.out w2 HB2.out);clear hB2 k0 k1 hW1 HNC HRT;obtain⟨k0,k1⟩:=entB_cells HT2.out;cases hcl:clsOf (valsA E.ats (bs ocL))with
  | none=>rw[hcl]at HNC1 HCE2;have HR:Hid (R=15):=HCE2.out;have HNC2:Hid (Calls Tryz.prog 72 #[.agg #[.slice ro Nr rc,.slice ao N ac]] w2 fun e w'=>e= .returned (.tuple #[.slice none 0 0,.bool false])∧Below w2.heap.size w2 w'):=HNC1.out.mono fun e w' h=>⟨h.2,h.1⟩;clear hcl HNC1 HCE2;go_wp2_with fail;refine HNC2.out.mono ?_;rintro e w3 ⟨rfl,hB3⟩;have HB3:=Lib.hid (HB2.out.trans (hB3.mono HB2.out.size));clear hB3 k0 k1;go_wp2_with fail;go_ret;exact⟨kt.ret_int HR.out.symm,HB3.out⟩
  | some ks=>
   rw[hcl]at HNC1 HCE2;have HCE3:Hid (R=if chainK ks=false then 15 else if(mustA ks).any (lacks E)=true then 15 else if E.ats.any (odd ks)=true then 15 else if nb=false then 18 else 0):=HCE2.out;have HNC2:Hid (Calls Tryz.prog 72 #[.agg #[.slice ro Nr rc,.slice ao N ac]] w2 fun e w'=> ∃a c,e= .returned (.tuple #[.slice a ks.length c,.bool true])∧OwnC w' w2.heap.size (.slice a ks.length c) ks∧Below w2.heap.size w2 w'):=HNC1.out.mono fun e w' h=>by obtain⟨hB,v,he,ho⟩:=h;obtain⟨a,c,rfl,_⟩:=kt.rowS_slice ho;exact⟨a,c,he,ho,hB⟩
   obtain⟨hk13,hkl⟩:=HLN.out ks hcl;have HK:=Lib.hid hk13;obtain⟨M,hM⟩: ∃M,ks.length=M:=⟨_,rfl⟩;have hMb:M≤100000:=(by rw[←hM,hkl];exact HVL.out);have HM:=Lib.hid hM;have hmal:=mustA_len hk13;rw[hM]at HNC2 hmal;have HMAL:=Lib.hid hmal;clear hcl HNC1 HCE2 hk13 hkl hM hmal HLN;go_wp2_with fail;refine HNC2.out.mono ?_;rintro e w3 ⟨la,lc,rfl,ho,hB3⟩;have HB3:=Lib.hid (HB2.out.trans (hB3.mono HB2.out.size));have HT3:=Lib.hid (entB_below HT2.out hB3);have HO:=Lib.hid ho;have HCH:Hid (Calls Tryz.prog 73 #[.slice la M lc] w3 fun e w'=>e= .returned (.bool (chainK ks))∧Below w3.heap.size w3 w'):=(by have:=chain_any la lc w2.heap.size ks w3 (Lib.hid (by rw[HM.out];exact ho)) HK (by rw[HM.out];exact hMb);rw[HM.out]at this;exact this);clear hB3 ho k0 k1 HNC2;cases hch:chainK ks with
   | false=>rw[hch]at HCH HCE3;have HR:Hid (R=15):=HCE3.out;clear hch HCE3;go_wp2_with fail;refine HCH.out.mono ?_;rintro e w4 ⟨rfl,hB4⟩;have HB4:=Lib.hid (HB3.out.trans (hB4.mono HB3.out.size));clear hB4;go_wp2_with fail;go_ret;exact⟨kt.ret_int HR.out.symm,HB4.out⟩
   | true=>
    rw[hch]at HCH HCE3;have HCE4:Hid (R=if(mustA ks).any (lacks E)=true then 15 else if E.ats.any (odd ks)=true then 15 else if nb=false then 18 else 0):=HCE3.out;clear hch HCE3;go_wp2_with fail;refine HCH.out.mono ?_;rintro e w4 ⟨rfl,hB4⟩;have HB4:=Lib.hid (HB3.out.trans (hB4.mono HB3.out.size));have HT4:=Lib.hid (entB_below HT3.out hB4);have HO4:=Lib.hid (ownC_below HO.out hB4);obtain⟨q,hq⟩: ∃q,w4.heap.size=q:=⟨_,rfl⟩;have HQ:=Lib.hid hq;have hqw:w.heap.size≤q:=(by rw[←hq];exact HB4.out.size);clear hB4 HCH HT3 HO hq;go_wp2_with fail;go_loopw [5,6,32] (fun mv yv iv wr=> ∃i:Nat,i≤M∧iv= .int .i64 (i:Int)∧Hid (Tw wr q mv yv (mustA (ks.take i)) (mayA (ks.take i)))∧Hid (Below q w4 wr)) (fun _ _ iv _=>M- (intOf iv).toNat);case atStart=>exact⟨0,Nat.zero_le _,rfl,tw_nil _ _,by rw[←HQ.out];exact Below.refl _ _⟩
    case round=>
     obtain⟨i,hi,rfl,hTW,hB⟩:=hrel;have hq2:=HQ.out;have hB':Below w4.heap.size w4 wr:=(by rw[hq2];exact hB.out);have hsz:q≤wr.heap.size:=(by rw[←hq2];exact hB'.size);have HBw:=Lib.hid (HB4.out.trans (hB'.mono HB4.out.size));have HBq:=Lib.hid hB';clear hq2 hB';by_cases hlt:i<M
     ·have hlt':(i:Int)<(M:Int):=(by omega);have hil:i<ks.length:=(by rw[HM.out];exact hlt);obtain⟨g,hg,hca0⟩:=ownC_at HO4.out hil;subst hg;have hka:=HK.out ks[i] (List.getElem_mem _);have HTS:Hid (ks.take (i+1)=ks.take i++[ks[i]]):=(by show _=_;rw[List.take_succ_eq_append_getElem hil]);have hca:=ca_below hca0 HBq.out;obtain⟨a,ha⟩: ∃a,ks[i]=a:=⟨_,rfl⟩;rw[ha]at hca hka HTS;obtain⟨a0,a1,a2,a3,a4,a5,a6,a7,a8,a9,a10,hva,hax0,hax1,hax2⟩:=cls_letters (clsA a);obtain⟨ae0,ae1,ae2,ae3,ae4,ae5,ae6,ae7,ae8,ae9,ae10⟩:=ca_cells hca hva;obtain⟨W5,hW5⟩: ∃W,wr.alloc (.cells #[.string a0,.int .i64 a1,.string a2,.string a3,.string a4,.string a5,.string a6,.string a7,.string a8,.string a9,.string a10] 106)=W:=⟨_,rfl⟩;have hBW5:Below wr.heap.size wr W5:=(by rw[←hW5];exact(Below.refl _ _).alloc (Nat.le_refl _) _);obtain⟨pa,hpa⟩: ∃p,wr.heap.size=p:=⟨_,rfl⟩;have HPA:=Lib.hid hpa;have HCB:Hid (CB W5 pa (clsA a)):=(by rw[←hW5,←hpa];have:=cb_new wr (clsA a);rw[hva]at this;exact this);obtain⟨ga0,ga1,ga2,ga3,ga4,ga5,ga6,ga7,ga8,ga9,ga10⟩:=cb_cells HCB.out hva;have HVa:=Lib.hid hva;have HB5:=Lib.hid (hB.out.trans (hBW5.mono hsz));have hs5:q≤W5.heap.size:=Nat.le_trans hsz hBW5.size;have HTW5:=Lib.hid (tw_below hTW.out hBW5);have HMU:Hid (∀W,Calls Tryz.prog 27 #[.string a0] W fun e w'=> ∃v,e= .returned v∧OwnS w' W.heap.size v (mustK a)∧Below W.heap.size W w'):=(by intro W;rw[hax0,←(mustN_name hka).1];exact smust_any _ W (name_size hka));have HYA:Hid (∀W,Calls Tryz.prog 28 #[.string a0] W fun e w'=> ∃v,e= .returned v∧OwnS w' W.heap.size v (mayK a)∧Below W.heap.size W w'):=(by intro W;rw[hax0,←(mustN_name hka).2];exact smay_any _ W (name_size hka));have HMA:Hid (mustA (ks.take (i+1))=mustA (ks.take i)++mustK a∧mayA (ks.take (i+1))=mayA (ks.take i)++mayK a):=(by show _∧_;rw[HTS.out];unfold mustA mayA;rw[List.flatMap_append,List.flatMap_append];simp);have hlen1:=mustK_len hka;have hlen2:=mustA_len (ks:=ks.take i) (fun k hk=>HK.out k (List.mem_of_mem_take hk));have hlen3:(ks.take i).length≤100000:=(by rw[List.length_take];omega);have HMU5:=Lib.hid (HMU.out W5);clear ha hca hca0 hva hax0 hax1 hax2 hBW5 HMU;go_wp2_with fail;clear hW5 hpa ae0 ae1 ae2 ae3 ae4 ae5 ae6 ae7 ae8 ae9 ae10;refine HMU5.out.mono ?_;rintro e w6 ⟨v6,rfl,ho6,hB6⟩;have hs6:q≤w6.heap.size:=Nat.le_trans hs5 hB6.size;obtain⟨v7,w7,hrun7,htw7,hB7,hg7⟩:=tw_app (tw_below HTW5.out hB6) (ownS_elem ho6) (by omega) (by omega) hs6;have HB7:=Lib.hid ((HB5.out.trans (hB6.mono hs5)).trans hB7);have HTW7:=Lib.hid htw7;have hs7:q≤w7.heap.size:=Nat.le_trans hs6 hB7.size;have HCB7:Hid (CB w7 pa (clsA a)):=(by have hc6:=cb_below HCB.out hB6;refine cb_same hc6 (hg7.block pa (cb_lt hc6) (fun e=> ?_));have h1:=(kt.segX_lt hTW.out.1 pa e.symm).2;have h2:=HPA.out;omega);have HYA7:=Lib.hid (HYA.out w7);clear hB6 ho6 hB7 htw7 hg7 ga0 ga1 ga2 ga3 ga4 ga5 ga6 ga7 ga8 ga9 ga10 HMU5 HYA;obtain⟨ga0,ga1,ga2,ga3,ga4,ga5,ga6,ga7,ga8,ga9,ga10⟩:=cb_cells HCB7.out HVa.out;go_wp2_with (refine Lib.wpList_append_run _ rfl _ _ _ _ rfl _ _ rfl rfl _ _ hrun7 ?_);refine HYA7.out.mono ?_;rintro e w8 ⟨v8,rfl,ho8,hB8⟩;have hs8:q≤w8.heap.size:=Nat.le_trans hs7 hB8.size;obtain⟨v9,w9,hrun9,htw9,hB9⟩:=tw_app2 (tw_below HTW7.out hB8) (ownS_elem ho8) (by omega) (by omega) hs8;have HB9:=Lib.hid ((HB7.out.trans (hB8.mono hs7)).trans hB9);have HTW9:Hid (Tw w9 q v7 v9 (mustA (ks.take (i+1))) (mayA (ks.take (i+1)))):=(by show Tw _ _ _ _ _ _;rw[HMA.out.1,HMA.out.2];exact htw9);clear hB8 ho8 hB9 htw9 ga0 ga1 ga2 ga3 ga4 ga5 ga6 ga7 ga8 ga9 ga10 hrun7 HYA7 hlen1 hlen2 hlen3;go_wp2_with (refine Lib.wpList_append_run _ rfl _ _ _ _ rfl _ _ rfl rfl _ _ hrun9 ?_);go_roundw;case rel=>exact⟨i+1,by omega,by go_num,HTW9,HB9⟩
      case measure=>simp[intOf];omega
     ·obtain rfl:M=i:=(by omega);have hTW2:=hTW.out;rw[←HM.out,List.take_length]at hTW2;have HTM:=Lib.hid (segT_elem hTW2.1);have HTY:=Lib.hid (segT_elem hTW2.2.1);have HMR:=Lib.hid (fun m hm=>must_at HK.out (m:=m) hm);have HMS:Hid (∀m∈mustA ks,m.length≤100):=(by intro m hm;obtain⟨k,hk,hm⟩:=List.mem_flatMap.1 hm;exact must_msize ⟨k,HK.out k hk⟩ m hm);have hTT:=entB_below HT4.out HBq.out;have HTT:=Lib.hid hTT;clear hTW2 hTT;obtain⟨a1,n1,c1,hv1,hn1,hc1,hs1⟩:=elem_form HTM.out;obtain⟨a2,n2,c2,hv2,hn2,hc2,hs2⟩:=elem_form HTY.out;subst hv1 hv2;have hn1':=hn1.out;rw[List.length_map]at hn1';have HL1:=Lib.hid hn1';have HS1:=Lib.hid hs1;have hn1b:n1≤10000000:=(by have:=HMAL.out.1;omega);clear hn1' hs1 hs2 hn1;go_wp2_with fail;obtain⟨w10,hw10⟩: ∃W,wr=W:=⟨_,rfl⟩;rw[hw10]at HBw HTT HS1 ⊢;have HTYw:Hid (ElemAt w10 (.slice a2 n2 c2) ((mayA ks).map bs)):=(by rw[←hw10];exact HTY.out);have HTMw:Hid (ElemAt w10 (.slice a1 n1 c1) ((mustA ks).map bs)):=(by rw[←hw10];exact HTM.out);have HBX:=HBw;clear hw10 HTY HTM hTW hB HBq HBw hsz;go_loopw [49] (fun jv wi=> ∃j:Nat,j≤n1∧jv= .int .i64 (j:Int)∧Hid (((mustA ks).take j).any (lacks E)=false)∧Hid (Below w10.heap.size w10 wi)) (fun jv _=>n1- (intOf jv).toNat);case atStart=>exact⟨0,Nat.zero_le _,rfl,rfl,Below.refl _ _⟩
      case round=>
       obtain⟨j,hj,rfl,hQ,hB⟩:=hrel;have HBw:=Lib.hid (HBX.out.trans (hB.out.mono HBX.out.size));have HTr:=Lib.hid (entB_below HTT.out hB.out);obtain⟨k0,k1⟩:=entB_cells HTr.out;by_cases hjt:j<n1
       ·have hjt':(j:Int)<(n1:Int):=(by omega);have hjl:j<(mustA ks).length:=(by rw[←HL1.out];exact hjt);obtain⟨b,o,hao,hc⟩:=(strs_below HS1.out hB.out) j (by rw[List.length_map];exact hjl);subst hao;rw[List.getElem_map]at hc;have HTJ:Hid ((mustA ks).take (j+1)=(mustA ks).take j++[(mustA ks)[j]]):=(by show _=_;rw[List.take_succ_eq_append_getElem hjl]);have HMM:Hid ((mustA ks)[j]∈mustA ks):=List.getElem_mem _;obtain⟨ty,hty,htn⟩:=HMR.out (mustA ks)[j] (List.getElem_mem _);have hms:=HMS.out (mustA ks)[j] (List.getElem_mem _);obtain⟨m,hm⟩: ∃m,(mustA ks)[j]=m:=⟨_,rfl⟩;rw[hm]at hc HTJ HMM hty htn hms;have HVJ:=Lib.hid (HVA.out m ty hty htn hms wr HBw.out);have HLK:Hid (lacks E m=(valsA E.ats (bs m)).isEmpty):=rfl;clear hm hty htn hms;generalize valsA E.ats (bs m)=vs at HVJ HLK;cases vs with
        | nil=>have HR:Hid (R=15):=(by show _=_;rw[HCE4.out,if_pos];exact List.any_eq_true.2 ⟨m,HMM.out,HLK.out⟩);go_wp2_with fail;refine HVJ.out.mono ?_;rintro e w11 ⟨x,rfl,hx,hB11⟩;obtain⟨ax,cx,rfl,_,_⟩:=hx;have HB11:=Lib.hid (HBw.out.trans (hB11.mono HBw.out.size));clear hB11 hc k0 k1 HVJ;go_wp2_with fail;go_ret;exact⟨kt.ret_int HR.out.symm,HB11.out⟩
        | cons v0 vr=>
         have HQ2:Hid (((mustA ks).take (j+1)).any (lacks E)=false):=(by show _=_;rw[HTJ.out,List.any_append,hQ.out];simp[HLK.out]);go_wp2_with fail;refine HVJ.out.mono ?_;rintro e w11 ⟨x,rfl,hx,hB11⟩;obtain⟨ax,nx,cx,rfl,hnx,_,_⟩:=elem_form hx;have hn0:=hnx.out;rw[List.length_cons]at hn0;have hn1: ¬ (nx:Int)=0:=(by omega);have HB11:=Lib.hid (hB.out.trans (hB11.mono hB.out.size));clear hB11 hc k0 k1 HVJ hx hnx hn0;go_wp2_with fail;go_roundw;case rel=>exact⟨j+1,by omega,by go_num,HQ2,HB11⟩
         case measure=>simp[intOf];omega
       ·obtain rfl:n1=j:=(by omega);have hQ2:=hQ.out;rw[HL1.out,List.take_length]at hQ2;have HCE5:Hid (R=if E.ats.any (odd ks)=true then 15 else if nb=false then 18 else 0):=(by show _=_;rw[HCE4.out,hQ2,if_neg (by decide)]);have HTYr:=Lib.hid (elem_below HTYw.out hB.out);have HTMr:=Lib.hid (elem_below HTMw.out hB.out);clear hQ hQ2 HCE4 HS1 HTYw HTMw HTT HMR HMS HVA;have hMA:=HMAL.out;have hMb2:(mustA ks).length≤10000000∧(mayA ks).length≤10000000:=(by omega);clear hMA;go_wp2_with fail;obtain⟨w12,hw12⟩: ∃W,wr=W:=⟨_,rfl⟩;rw[hw12]at HBw HTr HTYr HTMr hB ⊢;have HBX2:=HBw;clear hw12 k0 k1 hB HBw;go_loopw [62] (fun jv wi=> ∃j:Nat,j≤N∧jv= .int .i64 (j:Int)∧Hid ((E.ats.take j).any (odd ks)=false)∧Hid (Below w12.heap.size w12 wi)) (fun jv _=>N- (intOf jv).toNat);case atStart=>exact⟨0,Nat.zero_le _,rfl,rfl,Below.refl _ _⟩
        case round=>
         obtain⟨j,hj,rfl,hQ,hB⟩:=hrel;have hszr:=hB.out.size;have HBw:=Lib.hid (HBX2.out.trans (hB.out.mono HBX2.out.size));have HTq:=Lib.hid (entB_below HTr.out hB.out);by_cases hjt:j<N
         ·have hjt':(j:Int)<(N:Int):=(by omega);have hjl:j<E.ats.length:=(by rw[HN.out];exact hjt);obtain⟨b,o,ca,cc,hao,hc0,hc1,_,_⟩:=(ats_below HA.out HBw.out) j hjl;subst hao;have HTJ:Hid (E.ats.take (j+1)=E.ats.take j++[E.ats[j]]):=(by show _=_;rw[List.take_succ_eq_append_getElem hjl]);have HMM:Hid (E.ats[j]∈E.ats):=List.getElem_mem _;obtain⟨ty,hty,htn⟩:=HATM.out E.ats[j] (List.getElem_mem _);have hts:=(HATS.out E.ats[j] (List.getElem_mem _)).1;obtain⟨a,ha⟩: ∃a,E.ats[j]=a:=⟨_,rfl⟩;rw[ha]at hc0 hc1 HTJ HMM hty htn hts;have hFD:=HFD0.out a.t wr hts HBw.out;rw[hty]at hFD;have hFD2:Calls Tryz.prog 74 #[.string a.t] wr fun e w'=>e= .returned (.tuple #[.agg #[.string (bs ty.name),.int .i64 ty.syn,.bool ty.single],.bool true])∧Below wr.heap.size wr w':=hFD;rw[htn]at hFD2;obtain⟨W13,hW13⟩: ∃W,wr.alloc (.cells #[.string a.t,.slice ca a.vs.length cc] 43)=W:=⟨_,rfl⟩;have hB13:Below wr.heap.size wr W13:=(by rw[←hW13];exact(Below.refl _ _).alloc (Nat.le_refl _) _);obtain⟨y0,y1⟩:=attrB_cells (w:=W13) (p:=wr.heap.size) (t:=a.t) (v:= .slice ca a.vs.length cc) (by rw[←hW13];exact attrB_new _ _ _);have HFD3:Hid (Calls Tryz.prog 74 #[.string a.t] W13 fun e w'=>e= .returned (.tuple #[.agg #[.string a.t,.int .i64 ty.syn,.bool ty.single],.bool true])∧Below W13.heap.size W13 w'):=(by have hFD:=HFD0.out a.t W13 hts (HBw.out.trans (hB13.mono HBw.out.size));rw[hty]at hFD;have hFD2:Calls Tryz.prog 74 #[.string a.t] W13 fun e w'=>e= .returned (.tuple #[.agg #[.string (bs ty.name),.int .i64 ty.syn,.bool ty.single],.bool true])∧Below W13.heap.size W13 w':=hFD;rw[htn]at hFD2;exact hFD2);have HB13:=Lib.hid (hB.out.trans (hB13.mono hszr));have HODD:Hid (odd ks a=(!decide (a.t.data.toList∈mustA ks)&& !decide (a.t.data.toList∈mayA ks))):=rfl;have HC1:Hid (∀W,Below w12.heap.size w12 W→Calls Tryz.prog 75 #[.slice a1 n1 c1,.string a.t] W fun e w'=>e= .returned (.bool (decide (a.t.data.toList∈mustA ks)))∧Below W.heap.size W w'):=(by intro W h;rw[←bs_of a.t];exact(contE _ (elem_below HTMr.out h) (by omega)).mono fun e w' ⟨h1,h2⟩=>⟨h1,by rw[h2];exact Below.refl _ _⟩);have HC2:Hid (∀W,Below w12.heap.size w12 W→Calls Tryz.prog 75 #[.slice a2 n2 c2,.string a.t] W fun e w'=>e= .returned (.bool (decide (a.t.data.toList∈mayA ks)))∧Below W.heap.size W w'):=(by intro W h;rw[←bs_of a.t];exact(contE _ (elem_below HTYr.out h) (by omega)).mono fun e w' ⟨h1,h2⟩=>⟨h1,by rw[h2];exact Below.refl _ _⟩);generalize decide (a.t.data.toList∈mustA ks)=x1 at HODD HC1;generalize decide (a.t.data.toList∈mayA ks)=x2 at HODD HC2;generalize ty.syn=syn at HFD3;generalize ty.single=sg at HFD3;have hs13:=HB13.out.size;clear ha hty htn hts hFD hFD2 hB13;go_wp2_with fail;clear hc0 hc1 hW13 y0 y1;refine HFD3.out.mono ?_;rintro e w14 ⟨rfl,hB14⟩;obtain⟨W15,hW15⟩: ∃W,w14.alloc (.cells #[.string a.t,.int .i64 syn,.bool sg] 108)=W:=⟨_,rfl⟩;have hB15:Below w14.heap.size w14 W15:=(by rw[←hW15];exact(Below.refl _ _).alloc (Nat.le_refl _) _);have HTB:Hid (TB W15 w14.heap.size a.t syn sg):=(by rw[←hW15];exact tb_new _ _ _ _);obtain⟨t0,t1,t2⟩:=tb_cells HTB.out;have HB15:=Lib.hid (HB13.out.trans ((hB14.trans (hB15.mono hB14.size)).mono hs13));have HC3:=Lib.hid (HC1.out W15 HB15.out);clear HC1 hB14 HFD3;cases x1 with
          | true=>
           have HQ2:Hid ((E.ats.take (j+1)).any (odd ks)=false):=(by show _=_;rw[HTJ.out,List.any_append,hQ.out];simp[HODD.out]);go_wp2_with fail;clear hW15;refine HC3.out.mono ?_;rintro e w16 ⟨rfl,hB16⟩;have HB16:=Lib.hid (HB15.out.trans (hB16.mono HB15.out.size));clear hB16 hB15 t0 t1 t2;go_wp2_with fail;go_roundw;case rel=>exact⟨j+1,by omega,by go_num,HQ2,HB16⟩
           case measure=>simp[intOf];omega
          | false=>
           go_wp2_with fail;clear hW15;refine HC3.out.mono ?_;rintro e w16 ⟨rfl,hB16⟩;have HB16:=Lib.hid (HB15.out.trans (hB16.mono HB15.out.size));have HC4:=Lib.hid (HC2.out w16 HB16.out);clear t0 t1 t2;obtain⟨t0,t1,t2⟩:=tb_cells (tb_below HTB.out hB16);clear hB16 hB15 HC3;cases x2 with
           | true=>
            have HQ2:Hid ((E.ats.take (j+1)).any (odd ks)=false):=(by show _=_;rw[HTJ.out,List.any_append,hQ.out];simp[HODD.out]);go_wp2_with fail;refine HC4.out.mono ?_;rintro e w17 ⟨rfl,hB17⟩;have HB17:=Lib.hid (HB16.out.trans (hB17.mono HB16.out.size));clear hB17 t0 t1 t2;go_wp2_with fail;go_roundw;case rel=>exact⟨j+1,by omega,by go_num,HQ2,HB17⟩
            case measure=>simp[intOf];omega
           | false=>have HR:Hid (R=15):=(by show _=_;rw[HCE5.out,if_pos];exact List.any_eq_true.2 ⟨a,HMM.out,by rw[HODD.out];rfl⟩);go_wp2_with fail;refine HC4.out.mono ?_;rintro e w17 ⟨rfl,hB17⟩;have HB17:=Lib.hid (HBX2.out.trans ((HB16.out.trans (hB17.mono HB16.out.size)).mono HBX2.out.size));clear hB17 t0 t1 t2;go_wp2_with fail;go_ret;exact⟨kt.ret_int HR.out.symm,HB17.out⟩
         ·obtain rfl:N=j:=(by omega);have hQ2:=hQ.out;rw[←HN.out,List.take_length]at hQ2;have HCE6:Hid (R=if nb=false then 18 else 0):=(by show _=_;rw[HCE5.out,hQ2,if_neg (by decide)]);have HNM:=Lib.hid (HNM0.out wr HBw.out);clear hQ hQ2 HCE5;obtain⟨k0,k1⟩:=entB_cells HTq.out;cases nb with
          | true=>have HR:Hid (R=0):=HCE6.out;go_wp2_with fail;refine HNM.out.mono ?_;rintro e w18 ⟨rfl,hB18⟩;have HB18:=Lib.hid (HBw.out.trans (hB18.mono HBw.out.size));clear hB18 k0 k1;go_wp2_with fail;go_ret;exact⟨kt.ret_int HR.out.symm,HB18.out⟩
          | false=>have HR:Hid (R=18):=HCE6.out;go_wp2_with fail;refine HNM.out.mono ?_;rintro e w18 ⟨rfl,hB18⟩;have HB18:=Lib.hid (HBw.out.trans (hB18.mono HBw.out.size));clear hB18 k0 k1;go_wp2_with fail;go_ret;exact⟨kt.ret_int HR.out.symm,HB18.out⟩
end scw
open Go.RowKit
namespace scw
open scp atp atw etp etw
open dnw (Av Avas)
open tupw (Strs strs_below)
def bB:ByteArray:=⟨#[98]⟩
end scw
open Go.RowKit
namespace same
open tupw
theorem str_ne {x y:ByteArray}(h: ¬x=y):(x.toList==y.toList)=false:=by rw[beq_eq_false_iff_ne];intro e;exact h (kt.str_eq (by rw[←Lib.toList_data,←Lib.toList_data,e]))
theorem take_next {l m:List ByteArray}{i:Nat}(h1:i<l.length)(h2:i<m.length)(h:l.take i=m.take i)(he:l[i]=m[i]):l.take (i+1)=m.take (i+1):=by rw[List.take_succ_eq_append_getElem h1,List.take_succ_eq_append_getElem h2,h,he]
theorem ne_at {l m:List ByteArray}{i:Nat}(h1:i<l.length)(h2:i<m.length)(he: ¬l[i]=m[i]): ¬l=m:=by rintro rfl;exact he rfl
theorem below_drewN {B:Nat}{a b:World}(h:Below B a b)(n:Nat):Below B a (b.drewN n):=⟨h.os,h.tape,h.output,h.size,h.block⟩
theorem same_any (a1 a2:Option Addr)(c1 c2:Nat)(l m:List ByteArray)(w:World)(h1:Hid (Strs w a1 l))(h2:Hid (Strs w a2 m))(hm:m.length≤1100000):
  Calls Tryz.prog 26 #[.slice a1 l.length c1,.slice a2 m.length c2] w fun e w'=>e= .returned (.bool (decide (l=m)))∧Below w.heap.size w w':=by
 by_cases hl:l.length=m.length
 ·rw[hl];go_enter Tryz.func26,Tryz.ntmps26;go_wp2_with fail;go_loopw [5] (fun iv wr=> ∃i:Nat,i≤m.length∧iv= .int .i64 i∧Hid (l.take i=m.take i)∧Below w.heap.size w wr) (fun iv _=>m.length- (intOf iv).toNat);case atStart=>exact⟨0,Nat.zero_le _,rfl,by show _=_;simp,Below.refl _ _⟩
  case round=>
   obtain⟨i,hi,rfl,hE,hB⟩:=hrel;by_cases c:i<m.length
   ·have c':(i:Int)<(m.length:Int):=(by omega);have cl:i<l.length:=(by omega);have hcc:=Lib.hid c;obtain⟨b1,o1,e1,f1⟩:=h1.out i cl;obtain⟨b2,o2,e2,f2⟩:=h2.out i c;have g1:=(hB.cell (World.block_lt_of_cell? w _ f1)).trans f1;have g2:=(hB.cell (World.block_lt_of_cell? w _ f2)).trans f2;obtain⟨x,hx⟩: ∃x:ByteArray,Hid (x=l[i]'cl):=⟨l[i]'cl,rfl⟩;obtain⟨y,hy⟩: ∃y:ByteArray,Hid (y=m[i]'c):=⟨m[i]'c,rfl⟩;rw[←hx.out]at g1;rw[←hy.out]at g2;clear f1 f2;subst e1 e2;by_cases hxy:x=y
    ·have hn:Hid (l.take (i+1)=m.take (i+1)):=take_next cl c hE.out (by rw[←hx.out,←hy.out,hxy]);subst hxy;go_wp2_with fail;go_quiet (fail);go_wp2_with fail;go_roundw;case rel=>exact⟨i+1,hcc.out,by go_num,hn,below_drewN hB nq⟩
     case measure=>have:=hcc.out;simp[intOf];omega
    ·have hr:decide (l=m)=false:=(by rw[decide_eq_false_iff_not];exact ne_at cl c (by rw[←hx.out,←hy.out];exact hxy));have HR:=Lib.hid hr;have hne:=str_ne hxy;clear hr hxy;go_wp2_with fail;go_quiet (fail);go_wp2_with fail;go_ret;exact⟨by rw[HR.out];rfl,below_drewN hB nq⟩
   ·obtain rfl:i=m.length:=(by omega);have c': ¬ (m.length:Int)<(m.length:Int):=(by omega);have hr:decide (l=m)=true:=(by rw[decide_eq_true_iff];have:=hE.out;rw[List.take_of_length_le (Nat.le_refl _),List.take_of_length_le (by omega)]at this;exact this);have HR:=Lib.hid hr;clear hr;go_wp2_with fail;go_ret;exact⟨by rw[HR.out];rfl,hB⟩
 ·have hr:decide (l=m)=false:=by rw[decide_eq_false_iff_not];rintro rfl;exact hl rfl
  have HR:=Lib.hid hr;have hl':((l.length:Int)==(m.length:Int))=false:=by rw[beq_eq_false_iff_ne];omega
  clear hr hl;go_enter Tryz.func26,Tryz.ntmps26;go_wp2_with fail;go_ret;exact⟨by rw[HR.out];rfl,Below.refl _ _⟩
end same
open Go.RowKit
namespace scw
open scp atp atw etp etw
open tupw (Strs strs_below)
theorem sameE_any {w:World}{x y:Value}{l:List T}(h1:ElemAt w x (l.map bs))(h2:ElemAt w y (l.map bs))(hl:l.length≤1000000):
  Calls Tryz.prog 26 #[x,y] w fun e w'=>e= .returned (.bool true)∧Below w.heap.size w w':=by
 obtain⟨a,c,rfl,_,hs⟩:=h1;obtain⟨a2,c2,rfl,_,hs2⟩:=h2;have:=same.same_any a a2 c c2 (l.map bs) (l.map bs) w (Lib.hid hs) (Lib.hid hs2) (by rw[List.length_map];omega);refine this.mono fun e w' ⟨he,hb⟩=>⟨?_,hb⟩;rw[he];congr 2;exact decide_eq_true rfl
end scw
open Go.RowKit
namespace flw
open flp atp atw etp etw
open tupw (Strs strs_below)
theorem pieces_any (F:Fl)(v:Value)(w:World)(hv:Hid (FlX w v F))(hf:Hid (FitX F)):
  Calls Tryz.prog 225 #[v] w fun e w'=>e= .returned (.bool (piecesF F))∧Below w.heap.size w w':=by
 have HR0:Hid (piecesF F=((F.any.any fun x=> !isE x)|| !isE F.first|| !isE F.last)):=rfl;obtain⟨R,hR⟩: ∃R,piecesF F=R:=⟨_,rfl⟩;rw[hR]at HR0 ⊢;clear hR;have q3:=isE_list F.first;have q5:=isE_list F.last;generalize isE F.first=y3 at q3 HR0;generalize isE F.last=y5 at q5 HR0;obtain⟨xa,xc,ka,kc,rfl,HX,HK,hxc,hkc⟩:=flX_form hv.out;unfold flV;obtain⟨N,hN⟩: ∃N,F.kids.length=N:=⟨_,rfl⟩;have HN:=Lib.hid hN;obtain⟨M,hM⟩: ∃M,F.any.length=M:=⟨_,rfl⟩;have HM:=Lib.hid hM;have HFH:=Lib.hid (fitX_head hf.out);have hNb:N≤100000:=by rw[←hN];exact HFH.out.2.2.2.2.2.2
 have hMb:M≤100000:=by rw[←hM];exact HFH.out.2.2.2.2.1
 rw[hN]at hkc ⊢;rw[hM]at hxc ⊢;clear hN hM;obtain⟨W1,hW1⟩: ∃W,w.alloc (.cells #[.int .i64 F.kind,.string F.attr,.string F.value,.string F.first,.slice xa M xc,.string F.last,.slice ka N kc] 73)=W:=⟨_,rfl⟩;have hB1:Below w.heap.size w W1:=by rw[←hW1];exact(Below.refl _ _).alloc (Nat.le_refl _) _
 have HF1:Hid (R7 W1 w.heap.size (.int .i64 F.kind) (.string F.attr) (.string F.value) (.string F.first) (.slice xa M xc) (.string F.last) (.slice ka N kc)):=by rw[←hW1];exact r7_new _ _ _ _ _ _ _ _
 obtain⟨k0,k1,k2,k3,k4,k5,k6⟩:=r7_cells HF1.out;have HB1:=Lib.hid hB1;have hs1:=hB1.size;clear hB1;go_enter Tryz.func225,Tryz.ntmps225;go_wp2_with fail;clear k0 k1 k2 k3 k4 k5 k6;go_loopw [3] (fun iv wr=> ∃i:Nat,i≤M∧iv= .int .i64 (i:Int)∧Hid (Below w.heap.size w wr)∧Hid (R7 wr w.heap.size (.int .i64 F.kind) (.string F.attr) (.string F.value) (.string F.first) (.slice xa M xc) (.string F.last) (.slice ka N kc))∧Hid ((F.any.take i).any (fun x=> !isE x)=false)) (fun iv _=>M- (intOf iv).toNat);case atStart=>exact⟨0,Nat.zero_le _,rfl,HB1.out,HF1.out,rfl⟩
 case round=>
  obtain⟨i,hi,rfl,hB,hT,hJ⟩:=hrel;obtain⟨k0,k1,k2,k3,k4,k5,k6⟩:=r7_cells hT.out;by_cases hlt:i<M
  ·have hltI:(i:Int)<(M:Int):=(by omega);have hil:i<F.any.length:=(by rw[HM.out];exact hlt);obtain⟨b,o,hao,hc0⟩:=(strs_below HX.out hB.out) i hil;subst hao;have HTS:Hid (F.any.take (i+1)=F.any.take i++[F.any[i]]):=(by show _=_;rw[List.take_succ_eq_append_getElem hil]);have HMEM:=Lib.hid (List.getElem_mem hil);obtain⟨x,hx⟩: ∃x,F.any[i]=x:=⟨_,rfl⟩;rw[hx]at hc0 HTS HMEM;clear hx;have qx:=isE_list x;have HXE:Hid (isE x=isE x):=rfl;obtain⟨bx,hbx⟩: ∃b,isE x=b:=⟨_,rfl⟩;rw[hbx]at qx;have HBX:=Lib.hid hbx;clear hbx HXE;cases bx with
   | false=>have HR:Hid (R=true):=(by show _=_;rw[HR0.out,List.any_eq_true.2 ⟨x,HMEM.out,by rw[HBX.out];rfl⟩];rfl);go_wp2_with fail;go_ret;exact⟨kt.ret_bool HR.out.symm,hB.out⟩
   | true=>
    have HJ2:Hid ((F.any.take (i+1)).any (fun x=> !isE x)=false):=(by show _=_;rw[HTS.out,List.any_append,hJ.out,List.any_cons,HBX.out];rfl);go_wp2_with fail;go_roundw;case rel=>exact⟨i+1,by omega,by go_num,hB.out,hT.out,HJ2.out⟩
    case measure=>simp[intOf];omega
  ·obtain rfl:M=i:=(by omega);have HR:Hid (R=(false|| !y3|| !y5)):=(by have h:=hJ.out;rw[←HM.out,List.take_length]at h;show _=_;rw[HR0.out,h]);clear hJ HR0;cases y3 with
   | false=>go_wp2_with fail;go_ret;exact⟨kt.ret_bool HR.out.symm,hB.out⟩
   | true=>
    cases y5;all_goals
     go_wp2_with fail;go_ret;exact⟨kt.ret_bool HR.out.symm,hB.out⟩
section
variable (F : Fl)
theorem rn01 (h:F.kind=0∨F.kind=1):oneF F=(isE F.attr&&isE F.value&& !(!isE F.first||decide (0<F.any.length)|| !isE F.last)):=by unfold oneF;exact if_pos h
theorem rn2 (h:F.kind=2):oneF F=(isE F.attr&&isE F.value&& !(!isE F.first||decide (0<F.any.length)|| !isE F.last)&&decide (F.kids.length=1)):=by unfold oneF;rw[if_neg (show¬ (F.kind=0∨F.kind=1)from by show¬ (F.kind=0∨F.kind=1);omega)];exact if_pos h
theorem rn3 (h:F.kind=3∨F.kind=5∨F.kind=6∨F.kind=8):oneF F=(decide (1≤F.attr.size)&&decide (F.attr.size≤64)&& !(!isE F.first||decide (0<F.any.length)|| !isE F.last)&&decide (F.kids.length=0)):=by unfold oneF;rw[if_neg (show¬ (F.kind=0∨F.kind=1)from by show¬ (F.kind=0∨F.kind=1);omega),if_neg (show¬ (F.kind=2)from by show¬ (F.kind=2);omega)];exact if_pos h
theorem rn4 (h:F.kind=4):oneF F=(decide (1≤F.attr.size)&&decide (F.attr.size≤64)&&isE F.value&&piecesF F&&decide (F.any.length≤8)&&decide (F.kids.length=0)):=by unfold oneF;rw[if_neg (show¬ (F.kind=0∨F.kind=1)from by show¬ (F.kind=0∨F.kind=1);omega),if_neg (show¬ (F.kind=2)from by show¬ (F.kind=2);omega),if_neg (show¬ (F.kind=3∨F.kind=5∨F.kind=6∨F.kind=8)from by show¬ (F.kind=3∨F.kind=5∨F.kind=6∨F.kind=8);omega)];exact if_pos h
theorem rn7 (h:F.kind=7):oneF F=(decide (1≤F.attr.size)&&decide (F.attr.size≤64)&&isE F.value&& !(!isE F.first||decide (0<F.any.length)|| !isE F.last)&&decide (F.kids.length=0)):=by unfold oneF;rw[if_neg (show¬ (F.kind=0∨F.kind=1)from by show¬ (F.kind=0∨F.kind=1);omega),if_neg (show¬ (F.kind=2)from by show¬ (F.kind=2);omega),if_neg (show¬ (F.kind=3∨F.kind=5∨F.kind=6∨F.kind=8)from by show¬ (F.kind=3∨F.kind=5∨F.kind=6∨F.kind=8);omega),if_neg (show¬ (F.kind=4)from by show¬ (F.kind=4);omega)];exact if_pos h
theorem rn_no (h: ¬ (0≤F.kind∧F.kind≤8)):oneF F=false:=by have:=one_no F.kind F.attr F.value F.first F.last F.any F.kids h;rw[←Fl.eta F]at this;exact this
end
end flw
open Go.RowKit
namespace flw
open flp atp atw etp etw
open tupw (Strs strs_below)
theorem one_k0 (F:Fl)(v:Value)(w:World)(hv:Hid (FlX w v F))(hf:Hid (FitX F))(hkd:F.kind=0):
  Calls Tryz.prog 179 #[v] w fun e w'=>e= .returned (.bool (oneF F))∧Below w.heap.size w w':=by
 have HR:=Lib.hid (rn01 F (Or.inl hkd));obtain⟨R,hR⟩: ∃R,oneF F=R:=⟨_,rfl⟩;rw[hR]at HR ⊢;clear hR;have q1:=isE_list F.attr;generalize isE F.attr=y1 at q1 HR;have q2:=isE_list F.value;generalize isE F.value=y2 at q2 HR;have q3:=isE_list F.first;generalize isE F.first=y3 at q3 HR;have q5:=isE_list F.last;generalize isE F.last=y5 at q5 HR;have qM:=(show decide ((0:Int)<(F.any.length:Int))=decide (0<F.any.length)from by rw[decide_eq_decide];omega);obtain⟨yM,qMn⟩: ∃b,decide (0<F.any.length)=b:=⟨_,rfl⟩;rw[qMn]at qM HR;obtain⟨xa,xc,ka,kc,rfl,HX,HK,hxc,hkc⟩:=flX_form hv.out;unfold flV;try unfold flV at qM
 try unfold flV at qMn
 obtain⟨N,hN⟩: ∃N,F.kids.length=N:=⟨_,rfl⟩;have HN:=Lib.hid hN;obtain⟨M,hM⟩: ∃M,F.any.length=M:=⟨_,rfl⟩;have HM:=Lib.hid hM;have HFH:=Lib.hid (fitX_head hf.out);have hNb:N≤100000:=by rw[←hN];exact HFH.out.2.2.2.2.2.2
 have hMb:M≤100000:=by rw[←hM];exact HFH.out.2.2.2.2.1
 rw[hN]at hkc ⊢;try rw[hN]at qM
 try rw[hN]at qMn
 rw[hM]at hxc ⊢;try rw[hM]at qM
 try rw[hM]at qMn
 clear hN hM;obtain⟨W1,hW1⟩: ∃W,w.alloc (.cells #[.int .i64 F.kind,.string F.attr,.string F.value,.string F.first,.slice xa M xc,.string F.last,.slice ka N kc] 73)=W:=⟨_,rfl⟩;have hB1:Below w.heap.size w W1:=by rw[←hW1];exact(Below.refl _ _).alloc (Nat.le_refl _) _
 have HF1:Hid (R7 W1 w.heap.size (.int .i64 F.kind) (.string F.attr) (.string F.value) (.string F.first) (.slice xa M xc) (.string F.last) (.slice ka N kc)):=by rw[←hW1];exact r7_new _ _ _ _ _ _ _ _
 obtain⟨k0,k1,k2,k3,k4,k5,k6⟩:=r7_cells HF1.out;have HB1:=Lib.hid hB1;have hs1:=hB1.size;clear hB1;have HF2:=HF1;rw[hkd]at HF2 hW1 ⊢;clear HF1 k0 k1 k2 k3 k4 k5 k6 hkd;have HF1:=HF2;clear HF2;obtain⟨k0,k1,k2,k3,k4,k5,k6⟩:=r7_cells HF1.out;cases y3 with
 | false=>
  cases y1 with
  | false=>go_enter Tryz.func179,Tryz.ntmps179;go_wp2_with fail;go_ret;exact⟨kt.ret_bool HR.out.symm,HB1.out⟩
  | true=>
   cases y2 with
   | false=>go_enter Tryz.func179,Tryz.ntmps179;go_wp2_with fail;go_ret;exact⟨kt.ret_bool HR.out.symm,HB1.out⟩
   | true=>go_enter Tryz.func179,Tryz.ntmps179;go_wp2_with fail;go_ret;exact⟨kt.ret_bool HR.out.symm,HB1.out⟩
 | true=>
  cases yM with
  | true=>
   cases y1 with
   | false=>go_enter Tryz.func179,Tryz.ntmps179;go_wp2_with fail;go_ret;exact⟨kt.ret_bool HR.out.symm,HB1.out⟩
   | true=>
    cases y2 with
    | false=>go_enter Tryz.func179,Tryz.ntmps179;go_wp2_with fail;go_ret;exact⟨kt.ret_bool HR.out.symm,HB1.out⟩
    | true=>go_enter Tryz.func179,Tryz.ntmps179;go_wp2_with fail;go_ret;exact⟨kt.ret_bool HR.out.symm,HB1.out⟩
  | false=>
   cases y5 with
   | false=>
    cases y1 with
    | false=>go_enter Tryz.func179,Tryz.ntmps179;go_wp2_with fail;go_ret;exact⟨kt.ret_bool HR.out.symm,HB1.out⟩
    | true=>
     cases y2 with
     | false=>go_enter Tryz.func179,Tryz.ntmps179;go_wp2_with fail;go_ret;exact⟨kt.ret_bool HR.out.symm,HB1.out⟩
     | true=>go_enter Tryz.func179,Tryz.ntmps179;go_wp2_with fail;go_ret;exact⟨kt.ret_bool HR.out.symm,HB1.out⟩
   | true=>
    cases y1 with
    | false=>go_enter Tryz.func179,Tryz.ntmps179;go_wp2_with fail;go_ret;exact⟨kt.ret_bool HR.out.symm,HB1.out⟩
    | true=>
     cases y2 with
     | false=>go_enter Tryz.func179,Tryz.ntmps179;go_wp2_with fail;go_ret;exact⟨kt.ret_bool HR.out.symm,HB1.out⟩
     | true=>go_enter Tryz.func179,Tryz.ntmps179;go_wp2_with fail;go_ret;exact⟨kt.ret_bool HR.out.symm,HB1.out⟩
theorem one_k1 (F:Fl)(v:Value)(w:World)(hv:Hid (FlX w v F))(hf:Hid (FitX F))(hkd:F.kind=1):
  Calls Tryz.prog 179 #[v] w fun e w'=>e= .returned (.bool (oneF F))∧Below w.heap.size w w':=by
 have HR:=Lib.hid (rn01 F (Or.inr hkd));obtain⟨R,hR⟩: ∃R,oneF F=R:=⟨_,rfl⟩;rw[hR]at HR ⊢;clear hR;have q1:=isE_list F.attr;generalize isE F.attr=y1 at q1 HR;have q2:=isE_list F.value;generalize isE F.value=y2 at q2 HR;have q3:=isE_list F.first;generalize isE F.first=y3 at q3 HR;have q5:=isE_list F.last;generalize isE F.last=y5 at q5 HR;have qM:=(show decide ((0:Int)<(F.any.length:Int))=decide (0<F.any.length)from by rw[decide_eq_decide];omega);obtain⟨yM,qMn⟩: ∃b,decide (0<F.any.length)=b:=⟨_,rfl⟩;rw[qMn]at qM HR;obtain⟨xa,xc,ka,kc,rfl,HX,HK,hxc,hkc⟩:=flX_form hv.out;unfold flV;try unfold flV at qM
 try unfold flV at qMn
 obtain⟨N,hN⟩: ∃N,F.kids.length=N:=⟨_,rfl⟩;have HN:=Lib.hid hN;obtain⟨M,hM⟩: ∃M,F.any.length=M:=⟨_,rfl⟩;have HM:=Lib.hid hM;have HFH:=Lib.hid (fitX_head hf.out);have hNb:N≤100000:=by rw[←hN];exact HFH.out.2.2.2.2.2.2
 have hMb:M≤100000:=by rw[←hM];exact HFH.out.2.2.2.2.1
 rw[hN]at hkc ⊢;try rw[hN]at qM
 try rw[hN]at qMn
 rw[hM]at hxc ⊢;try rw[hM]at qM
 try rw[hM]at qMn
 clear hN hM;obtain⟨W1,hW1⟩: ∃W,w.alloc (.cells #[.int .i64 F.kind,.string F.attr,.string F.value,.string F.first,.slice xa M xc,.string F.last,.slice ka N kc] 73)=W:=⟨_,rfl⟩;have hB1:Below w.heap.size w W1:=by rw[←hW1];exact(Below.refl _ _).alloc (Nat.le_refl _) _
 have HF1:Hid (R7 W1 w.heap.size (.int .i64 F.kind) (.string F.attr) (.string F.value) (.string F.first) (.slice xa M xc) (.string F.last) (.slice ka N kc)):=by rw[←hW1];exact r7_new _ _ _ _ _ _ _ _
 obtain⟨k0,k1,k2,k3,k4,k5,k6⟩:=r7_cells HF1.out;have HB1:=Lib.hid hB1;have hs1:=hB1.size;clear hB1;have HF2:=HF1;rw[hkd]at HF2 hW1 ⊢;clear HF1 k0 k1 k2 k3 k4 k5 k6 hkd;have HF1:=HF2;clear HF2;obtain⟨k0,k1,k2,k3,k4,k5,k6⟩:=r7_cells HF1.out;cases y3 with
 | false=>
  cases y1 with
  | false=>go_enter Tryz.func179,Tryz.ntmps179;go_wp2_with fail;go_ret;exact⟨kt.ret_bool HR.out.symm,HB1.out⟩
  | true=>
   cases y2 with
   | false=>go_enter Tryz.func179,Tryz.ntmps179;go_wp2_with fail;go_ret;exact⟨kt.ret_bool HR.out.symm,HB1.out⟩
   | true=>go_enter Tryz.func179,Tryz.ntmps179;go_wp2_with fail;go_ret;exact⟨kt.ret_bool HR.out.symm,HB1.out⟩
 | true=>
  cases yM with
  | true=>
   cases y1 with
   | false=>go_enter Tryz.func179,Tryz.ntmps179;go_wp2_with fail;go_ret;exact⟨kt.ret_bool HR.out.symm,HB1.out⟩
   | true=>
    cases y2 with
    | false=>go_enter Tryz.func179,Tryz.ntmps179;go_wp2_with fail;go_ret;exact⟨kt.ret_bool HR.out.symm,HB1.out⟩
    | true=>go_enter Tryz.func179,Tryz.ntmps179;go_wp2_with fail;go_ret;exact⟨kt.ret_bool HR.out.symm,HB1.out⟩
  | false=>
   cases y5 with
   | false=>
    cases y1 with
    | false=>go_enter Tryz.func179,Tryz.ntmps179;go_wp2_with fail;go_ret;exact⟨kt.ret_bool HR.out.symm,HB1.out⟩
    | true=>
     cases y2 with
     | false=>go_enter Tryz.func179,Tryz.ntmps179;go_wp2_with fail;go_ret;exact⟨kt.ret_bool HR.out.symm,HB1.out⟩
     | true=>go_enter Tryz.func179,Tryz.ntmps179;go_wp2_with fail;go_ret;exact⟨kt.ret_bool HR.out.symm,HB1.out⟩
   | true=>
    cases y1 with
    | false=>go_enter Tryz.func179,Tryz.ntmps179;go_wp2_with fail;go_ret;exact⟨kt.ret_bool HR.out.symm,HB1.out⟩
    | true=>
     cases y2 with
     | false=>go_enter Tryz.func179,Tryz.ntmps179;go_wp2_with fail;go_ret;exact⟨kt.ret_bool HR.out.symm,HB1.out⟩
     | true=>go_enter Tryz.func179,Tryz.ntmps179;go_wp2_with fail;go_ret;exact⟨kt.ret_bool HR.out.symm,HB1.out⟩
theorem one_k2 (F:Fl)(v:Value)(w:World)(hv:Hid (FlX w v F))(hf:Hid (FitX F))(hkd:F.kind=2):
  Calls Tryz.prog 179 #[v] w fun e w'=>e= .returned (.bool (oneF F))∧Below w.heap.size w w':=by
 have HR:=Lib.hid (rn2 F hkd);obtain⟨R,hR⟩: ∃R,oneF F=R:=⟨_,rfl⟩;rw[hR]at HR ⊢;clear hR;have q1:=isE_list F.attr;generalize isE F.attr=y1 at q1 HR;have q2:=isE_list F.value;generalize isE F.value=y2 at q2 HR;have q3:=isE_list F.first;generalize isE F.first=y3 at q3 HR;have q5:=isE_list F.last;generalize isE F.last=y5 at q5 HR;have qM:=(show decide ((0:Int)<(F.any.length:Int))=decide (0<F.any.length)from by rw[decide_eq_decide];omega);obtain⟨yM,qMn⟩: ∃b,decide (0<F.any.length)=b:=⟨_,rfl⟩;rw[qMn]at qM HR;have qn1:=(show((F.kids.length:Int)==1)=decide (F.kids.length=1)from by rw[Bool.eq_iff_iff,beq_iff_eq,decide_eq_true_iff];omega);obtain⟨yn1,qn1n⟩: ∃b,decide (F.kids.length=1)=b:=⟨_,rfl⟩;rw[qn1n]at qn1 HR;obtain⟨xa,xc,ka,kc,rfl,HX,HK,hxc,hkc⟩:=flX_form hv.out;unfold flV;try unfold flV at qM
 try unfold flV at qMn
 try unfold flV at qn1
 try unfold flV at qn1n
 obtain⟨N,hN⟩: ∃N,F.kids.length=N:=⟨_,rfl⟩;have HN:=Lib.hid hN;obtain⟨M,hM⟩: ∃M,F.any.length=M:=⟨_,rfl⟩;have HM:=Lib.hid hM;have HFH:=Lib.hid (fitX_head hf.out);have hNb:N≤100000:=by rw[←hN];exact HFH.out.2.2.2.2.2.2
 have hMb:M≤100000:=by rw[←hM];exact HFH.out.2.2.2.2.1
 rw[hN]at hkc ⊢;try rw[hN]at qM
 try rw[hN]at qMn
 try rw[hN]at qn1
 try rw[hN]at qn1n
 rw[hM]at hxc ⊢;try rw[hM]at qM
 try rw[hM]at qMn
 try rw[hM]at qn1
 try rw[hM]at qn1n
 clear hN hM;obtain⟨W1,hW1⟩: ∃W,w.alloc (.cells #[.int .i64 F.kind,.string F.attr,.string F.value,.string F.first,.slice xa M xc,.string F.last,.slice ka N kc] 73)=W:=⟨_,rfl⟩;have hB1:Below w.heap.size w W1:=by rw[←hW1];exact(Below.refl _ _).alloc (Nat.le_refl _) _
 have HF1:Hid (R7 W1 w.heap.size (.int .i64 F.kind) (.string F.attr) (.string F.value) (.string F.first) (.slice xa M xc) (.string F.last) (.slice ka N kc)):=by rw[←hW1];exact r7_new _ _ _ _ _ _ _ _
 obtain⟨k0,k1,k2,k3,k4,k5,k6⟩:=r7_cells HF1.out;have HB1:=Lib.hid hB1;have hs1:=hB1.size;clear hB1;have HF2:=HF1;rw[hkd]at HF2 hW1 ⊢;clear HF1 k0 k1 k2 k3 k4 k5 k6 hkd;have HF1:=HF2;clear HF2;obtain⟨k0,k1,k2,k3,k4,k5,k6⟩:=r7_cells HF1.out;cases y3 with
 | false=>
  cases y1 with
  | false=>go_enter Tryz.func179,Tryz.ntmps179;go_wp2_with fail;go_ret;exact⟨kt.ret_bool HR.out.symm,HB1.out⟩
  | true=>
   cases y2 with
   | false=>go_enter Tryz.func179,Tryz.ntmps179;go_wp2_with fail;go_ret;exact⟨kt.ret_bool HR.out.symm,HB1.out⟩
   | true=>go_enter Tryz.func179,Tryz.ntmps179;go_wp2_with fail;go_ret;exact⟨kt.ret_bool HR.out.symm,HB1.out⟩
 | true=>
  cases yM with
  | true=>
   cases y1 with
   | false=>go_enter Tryz.func179,Tryz.ntmps179;go_wp2_with fail;go_ret;exact⟨kt.ret_bool HR.out.symm,HB1.out⟩
   | true=>
    cases y2 with
    | false=>go_enter Tryz.func179,Tryz.ntmps179;go_wp2_with fail;go_ret;exact⟨kt.ret_bool HR.out.symm,HB1.out⟩
    | true=>go_enter Tryz.func179,Tryz.ntmps179;go_wp2_with fail;go_ret;exact⟨kt.ret_bool HR.out.symm,HB1.out⟩
  | false=>
   cases y5 with
   | false=>
    cases y1 with
    | false=>go_enter Tryz.func179,Tryz.ntmps179;go_wp2_with fail;go_ret;exact⟨kt.ret_bool HR.out.symm,HB1.out⟩
    | true=>
     cases y2 with
     | false=>go_enter Tryz.func179,Tryz.ntmps179;go_wp2_with fail;go_ret;exact⟨kt.ret_bool HR.out.symm,HB1.out⟩
     | true=>go_enter Tryz.func179,Tryz.ntmps179;go_wp2_with fail;go_ret;exact⟨kt.ret_bool HR.out.symm,HB1.out⟩
   | true=>
    cases y1 with
    | false=>go_enter Tryz.func179,Tryz.ntmps179;go_wp2_with fail;go_ret;exact⟨kt.ret_bool HR.out.symm,HB1.out⟩
    | true=>
     cases y2 with
     | false=>go_enter Tryz.func179,Tryz.ntmps179;go_wp2_with fail;go_ret;exact⟨kt.ret_bool HR.out.symm,HB1.out⟩
     | true=>
      cases yn1 with
      | false=>go_enter Tryz.func179,Tryz.ntmps179;go_wp2_with fail;go_ret;exact⟨kt.ret_bool HR.out.symm,HB1.out⟩
      | true=>go_enter Tryz.func179,Tryz.ntmps179;go_wp2_with fail;go_ret;exact⟨kt.ret_bool HR.out.symm,HB1.out⟩
end flw
end Go.Proofs.YtmnpfkbjpeaemaaGreatDoor
