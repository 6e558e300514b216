/- One text out of several: FtM, FilC, FtT, FtU, FtV. -/
import Derived.Test.YtffkghkkobmhaaaP1
import Derived.Test.YtffkghkkobmhaaaP3
set_option linter.unusedVariables false
set_option linter.unusedSimpArgs false
set_option maxRecDepth 20000
set_option maxHeartbeats 8000000
namespace Go.Proofs.Ytffkghkkobmhaaa
open Go.RowKit
namespace ftw
open ftp
theorem named_any (s:ByteArray)(w:World)(hs:s.size≤1000000):Calls Try.prog 19 #[.string s] w fun e w'=>e= .returned (.bool (nameL s.data.toList))∧w=w':=by
 go_enter Try.func19,Try.ntmps19;go_wp2_with fail;go_loop [6] (fun iv=> ∃k:Nat,k≤s.size∧iv= .int .i64 (k:Int)∧Hid (∀j (hj:j<s.size),j<k→nameCh s[j] (decide (j=0))=true)) (fun iv=>s.size- (intOf iv).toNat);case atStart=>exact⟨0,Nat.zero_le _,rfl,fun j hj h=>by omega⟩
 case round=>
  obtain⟨k,hk,rfl,hA⟩:=hrel;by_cases hlt:k<s.size
  ·have hlt':(k:Int)<(s.size:Int):=(by omega);have HA:Hid (nameCh (s[k]'hlt) (decide (k=0))=true→ ∀j (hj:j<s.size),j<k+1→nameCh s[j] (decide (j=0))=true):=by
    intro ht j hj h;by_cases e:j=k
    ·subst e;exact ht
    ·exact hA.out j hj (by omega)
   have HN:Hid (nameCh (s[k]'hlt) (decide (k=0))=false→false=nameL s.data.toList):=fun h=>nameL_no hlt h;have HC:Hid (Calls Try.prog 30 #[.int .u8 ((s[k]'hlt).toNat:Int),.bool (decide ((k:Int)=0))] w fun e w'=>e= .returned (.bool (nameCh (s[k]'hlt) (decide (k=0))))∧w=w'):=(by rw[show decide ((k:Int)=0)=decide (k=0)from by rw[Bool.eq_iff_iff,decide_eq_true_iff,decide_eq_true_iff];omega];exact nameByte_any _ _ w);have hcn:=(s[k]'hlt).toNat_lt;have hb0:((k:Int)==0)=decide ((k:Int)=0):=rfl;generalize nameCh (s[k]'hlt) (decide (k=0))=r at HA HN HC;clear hb0;go_wp2_with fail;refine HC.out.mono ?_;rintro e wa ⟨rfl,hw⟩;subst hw;cases r with
   | true=>
    have HA1:=Lib.hid (HA.out rfl);clear HA HN;go_wp2_with fail;go_round;case rel=>exact⟨k+1,by omega,by go_num,HA1.out⟩
    case measure=>simp[intOf];omega
   | false=>have HN1:=Lib.hid (HN.out rfl);clear HA HN;go_wp2_with fail;go_ret;exact⟨kt.ret_bool HN1.out,rfl⟩
  ·obtain rfl:k=s.size:=(by omega);by_cases h0:s.size=0
   ·have hem:s=ByteArray.empty:=kt.str_eq (List.eq_nil_of_length_eq_zero (by rw[kt.size_len];exact h0));subst hem;go_wp2_with fail;go_ret;exact⟨rfl,rfl⟩
   ·have HE:Hid (true=nameL s.data.toList):=nameL_end (fun j hj=>hA.out j hj hj) h0;have hne:s.toList.isEmpty=false:=by
     rw[Lib.toList_data];cases h:s.data.toList with
     | nil=>exact absurd (by rw[←kt.size_len,h];rfl) h0
     | cons a l=>rfl
    clear hA;go_wp2_with fail;go_ret;exact⟨kt.ret_bool HE.out,rfl⟩
end ftw
open Go.RowKit
namespace flw
open flp atp atw etp etw
open tupw (Strs strs_below)
def KidsX (w:World)(ao:Option Addr)(l:List Fl):Prop:= ∃e,Kids w anyB e ao l
def FlX (w:World)(v:Value)(F:Fl):Prop:= ∃e,FlV w anyB e v F
def FitX (F:Fl):Prop:= ∃d,FitD d F
theorem kidsX_below {w w':World}{ao:Option Addr}{l:List Fl}(h:KidsX w ao l)(hb:Below w.heap.size w w'):KidsX w' ao l:=h.imp fun _ h=>kids_below h hb
theorem flX_below {w w':World}{v:Value}{F:Fl}(h:FlX w v F)(hb:Below w.heap.size w w'):FlX w' v F:=h.imp fun _ h=>flV_below h hb
theorem flX_form {w:World}{v:Value}{F:Fl}(h:FlX w v F): ∃xa xc ka kc,v=flV F (.slice xa F.any.length xc) (.slice ka F.kids.length kc)∧Hid (Strs w xa F.any)∧Hid (KidsX w ka F.kids)∧OkA xa F.any.length xc∧F.kids.length≤kc:=by obtain⟨e,xa,xc,ka,kc,h0,h1,h2,h3,h4⟩:=h;exact⟨xa,xc,ka,kc,h0,h2.1,⟨e,h4⟩,h1,h3⟩
theorem kidsX_at {w:World}{ao:Option Addr}{l:List Fl}(h:KidsX w ao l)(i:Nat)(hi:i<l.length):
  ∃b o xa xc ka kc,ao=some ⟨b,o,none⟩∧CellsF w b (o+i*7) l[i] (.slice xa l[i].any.length xc) (.slice ka l[i].kids.length kc)∧FlX w (flV l[i] (.slice xa l[i].any.length xc) (.slice ka l[i].kids.length kc)) l[i]:=by
 obtain⟨e,h⟩:=h;cases e with
 | zero=>have h2:l=[]:=h;rw[h2]at hi;cases hi
 | succ e=>obtain⟨b,o,xa,xc,ka,kc,h1,h2,h3⟩:=kid_at h i hi;exact⟨b,o,xa,xc,ka,kc,h1,h2,e,h3⟩
theorem fitX_head {F:Fl}(h:FitX F):FitH F:=by
 obtain⟨d,h⟩:=h;cases d with
 | zero=>exact h.elim
 | succ d=>exact h.1
theorem fitX_kid {F k:Fl}(h:FitX F)(hk:k∈F.kids):FitX k:=by
 obtain⟨d,h⟩:=h;cases d with
 | zero=>exact h.elim
 | succ d=>exact⟨d,h.2 k hk⟩
def cntI (d:Nat)(F:Fl)(m:Nat):Int:=match cntR d F m with
 | some r=>(r:Int)
 | none=> -1
def foldI (d:Nat)(l:List Fl)(m:Nat):Int:=match l.foldlM (fun l k=>cntR d k l) m with
 | some r=>(r:Int)
 | none=> -1
theorem cntI_one {d m:Nat}{F:Fl}(h:oneF F=true):cntI (d+1) F (m+1)=foldI d F.kids m:=by
 have e:cntR (d+1) F (m+1)=F.kids.foldlM (fun l k=>cntR d k l) m:=by show(if oneF F=true then _ else none)=_;rw[if_pos h]
 unfold cntI foldI;rw[e]
theorem cntI_no {d m:Nat}{F:Fl}(h:oneF F=false):cntI (d+1) F (m+1)= -1:=by
 have e:cntR (d+1) F (m+1)=none:=by show(if oneF F=true then _ else none)=_;rw[if_neg (by rw[h];decide)]
 unfold cntI;rw[e]
theorem cntI_zero (d:Nat)(F:Fl):cntI d F 0= -1:=by cases d<;>rfl
theorem foldI_step {d m i:Nat}{l:List Fl}(hi:i<l.length):foldI d (l.drop i) m=match cntR d l[i] m with
  | some r=>foldI d (l.drop (i+1)) r
  | none=> -1:=by
 rw[List.drop_eq_getElem_cons hi];unfold foldI;rw[List.foldlM_cons];cases cntR d l[i] m<;>rfl
theorem foldI_nil (d m:Nat):foldI d [] m=(m:Int):=rfl
theorem cntR_le {d m r:Nat}{F:Fl}(h:cntR d F m=some r):r≤m:=by have:=((cntR_iff d F m r).1 h).2;omega
theorem rone_any (F:Fl)(v:Value)(w:World)(hv:Hid (FlX w v F))(hf:Hid (FitX F)):Calls Try.prog 28 #[v] w fun e w'=>e= .returned (.bool (oneF F))∧Below w.heap.size w w':=by obtain⟨xa,xc,ka,kc,rfl,HX,HK,hxc,hkc⟩:=flX_form hv.out;have hH:=fitX_head hf.out;have h:=rone_x F.kind F.attr F.value F.first F.last F.any F.kids xa ka xc kc w HX (by have:=hH.2.2.2.2.1;omega);rw[←Fl.eta F]at h;exact h
theorem count_any: ∀ (d:Nat) (F:Fl) (v:Value) (dp m:Nat) (w:World),dp+d=9→m≤40→Hid (FlX w v F)→Hid (FitX F)→
  Calls Try.prog 17 #[v,.int .i64 (dp:Int),.int .i64 (m:Int)] w fun e w'=>e= .returned (.int .i64 (cntI d F m))∧Below w.heap.size w w':=by
 intro d;induction d with
 | zero=>
  intro F v dp m w hd hm hv hf;obtain rfl:dp=9:=by omega
  obtain⟨xa,xc,ka,kc,rfl,HX,HK,hxc,hkc⟩:=flX_form hv.out;unfold flV;obtain⟨N,hN⟩: ∃N,F.kids.length=N:=⟨_,rfl⟩;have HN:=Lib.hid hN;obtain⟨M,hM⟩: ∃M,F.any.length=M:=⟨_,rfl⟩;have HM:=Lib.hid hM;have HFH:=Lib.hid (fitX_head hf.out);have hNb:N≤100000:=by rw[←hN];exact HFH.out.2.2.2.2.2.2
  have hMb:M≤100000:=by rw[←hM];exact HFH.out.2.2.2.2.1
  rw[hN]at hkc ⊢;rw[hM]at hxc ⊢;clear hN hM;obtain⟨W1,hW1⟩: ∃W,w.alloc (.cells #[.int .i64 F.kind,.string F.attr,.string F.value,.string F.first,.slice xa M xc,.string F.last,.slice ka N kc] 25)=W:=⟨_,rfl⟩;have hB1:Below w.heap.size w W1:=by rw[←hW1];exact(Below.refl _ _).alloc (Nat.le_refl _) _
  have HF1:Hid (R7 W1 w.heap.size (.int .i64 F.kind) (.string F.attr) (.string F.value) (.string F.first) (.slice xa M xc) (.string F.last) (.slice ka N kc)):=by rw[←hW1];exact r7_new _ _ _ _ _ _ _ _
  obtain⟨k0,k1,k2,k3,k4,k5,k6⟩:=r7_cells HF1.out;have HB1:=Lib.hid hB1;have hs1:=hB1.size;clear hB1;have HR:Hid (cntI 0 F m= -1):=rfl;obtain⟨R,hR⟩: ∃R,cntI 0 F m=R:=⟨_,rfl⟩;rw[hR]at HR ⊢;clear hR;by_cases h0:m=0
  ·subst h0;go_enter Try.func17,Try.ntmps17;go_wp2_with fail;go_ret;exact⟨kt.ret_int HR.out.symm,HB1.out⟩
  ·have hp: ¬ (m:Int)-1<0:=(by omega);clear h0;go_enter Try.func17,Try.ntmps17;go_wp2_with fail;go_ret;exact⟨kt.ret_int HR.out.symm,HB1.out⟩
 | succ d ih=>
  intro F v dp m w hd hm hv hf;have hdp: ¬ (8:Int)<(dp:Int):=by omega
  have hdp0:(dp:Int)≤8:=by omega
  have IH:Hid (∀ (G:Fl) (u:Value) (r:Nat) (W:World),r≤40→FlX W u G→FitX G→Calls Try.prog 17 #[u,.int .i64 ((dp:Int)+1),.int .i64 (r:Int)] W fun e w'=>e= .returned (.int .i64 (cntI d G r))∧Below W.heap.size W w'):=by intro G u r W hr hu hg;have:=ih G u (dp+1) r W (by omega) hr (Lib.hid hu) (Lib.hid hg);rw[show((dp+1:Nat):Int)=(dp:Int)+1 from by omega]at this;exact this
  clear ih hd;have HO0:Hid (∀W,Below w.heap.size w W→Calls Try.prog 28 #[v] W fun e w'=>e= .returned (.bool (oneF F))∧Below W.heap.size W w'):=fun W h=>rone_any F v W (Lib.hid (flX_below hv.out h)) hf;cases m with
  | zero=>have HR:=Lib.hid (cntI_zero (d+1) F);obtain⟨R,hR⟩: ∃R,cntI (d+1) F 0=R:=⟨_,rfl⟩;rw[hR]at HR ⊢;clear hR;obtain⟨xa,xc,ka,kc,rfl,HX,HK,hxc,hkc⟩:=flX_form hv.out;unfold flV;obtain⟨N,hN⟩: ∃N,F.kids.length=N:=⟨_,rfl⟩;have HN:=Lib.hid hN;obtain⟨M,hM⟩: ∃M,F.any.length=M:=⟨_,rfl⟩;have HM:=Lib.hid hM;have HFH:=Lib.hid (fitX_head hf.out);have hNb:N≤100000:=(by rw[←hN];exact HFH.out.2.2.2.2.2.2);have hMb:M≤100000:=(by rw[←hM];exact HFH.out.2.2.2.2.1);rw[hN]at hkc ⊢;rw[hM]at hxc ⊢;clear hN hM;obtain⟨W1,hW1⟩: ∃W,w.alloc (.cells #[.int .i64 F.kind,.string F.attr,.string F.value,.string F.first,.slice xa M xc,.string F.last,.slice ka N kc] 25)=W:=⟨_,rfl⟩;have hB1:Below w.heap.size w W1:=(by rw[←hW1];exact(Below.refl _ _).alloc (Nat.le_refl _) _);have HF1:Hid (R7 W1 w.heap.size (.int .i64 F.kind) (.string F.attr) (.string F.value) (.string F.first) (.slice xa M xc) (.string F.last) (.slice ka N kc)):=(by rw[←hW1];exact r7_new _ _ _ _ _ _ _ _);obtain⟨k0,k1,k2,k3,k4,k5,k6⟩:=r7_cells HF1.out;have HB1:=Lib.hid hB1;have hs1:=hB1.size;clear hB1;go_enter Try.func17,Try.ntmps17;go_wp2_with fail;go_ret;exact⟨kt.ret_int HR.out.symm,HB1.out⟩
  | succ m=>
   have hm1:m≤40:=(by omega);have em:((m+1:Nat):Int)-1=(m:Int):=(by omega);have hm0: ¬ (m:Int)<0:=(by omega);obtain⟨m1,hmm⟩: ∃x:Int,((m+1:Nat):Int)=x:=⟨_,rfl⟩;rw[hmm]at em ⊢;have hm2:m1≤41:=(by omega);have hm3:0<m1:=(by omega);have HR1:=Lib.hid (fun h=>cntI_one (d:=d) (m:=m) (F:=F) h);have HR0:=Lib.hid (fun h=>cntI_no (d:=d) (m:=m) (F:=F) h);obtain⟨R,hR⟩: ∃R,cntI (d+1) F (m+1)=R:=⟨_,rfl⟩;rw[hR]at HR1 HR0 ⊢;clear hR hmm;obtain⟨xa,xc,ka,kc,rfl,HX,HK,hxc,hkc⟩:=flX_form hv.out;unfold flV;try unfold flV at HO0
   obtain⟨N,hN⟩: ∃N,F.kids.length=N:=⟨_,rfl⟩;have HN:=Lib.hid hN;obtain⟨M,hM⟩: ∃M,F.any.length=M:=⟨_,rfl⟩;have HM:=Lib.hid hM;have HFH:=Lib.hid (fitX_head hf.out);have hNb:N≤100000:=(by rw[←hN];exact HFH.out.2.2.2.2.2.2);have hMb:M≤100000:=(by rw[←hM];exact HFH.out.2.2.2.2.1);rw[hN]at hkc ⊢;try rw[hN]at HO0
   rw[hM]at hxc ⊢;try rw[hM]at HO0
   clear hN hM;obtain⟨W1,hW1⟩: ∃W,w.alloc (.cells #[.int .i64 F.kind,.string F.attr,.string F.value,.string F.first,.slice xa M xc,.string F.last,.slice ka N kc] 25)=W:=⟨_,rfl⟩;have hB1:Below w.heap.size w W1:=(by rw[←hW1];exact(Below.refl _ _).alloc (Nat.le_refl _) _);have HF1:Hid (R7 W1 w.heap.size (.int .i64 F.kind) (.string F.attr) (.string F.value) (.string F.first) (.slice xa M xc) (.string F.last) (.slice ka N kc)):=(by rw[←hW1];exact r7_new _ _ _ _ _ _ _ _);obtain⟨k0,k1,k2,k3,k4,k5,k6⟩:=r7_cells HF1.out;have HB1:=Lib.hid hB1;have hs1:=hB1.size;clear hB1;have HO:=Lib.hid (HO0.out W1 HB1.out);clear HO0;have HOF:=Lib.hid (rfl:oneF F=oneF F);obtain⟨ob,hob⟩: ∃b,oneF F=b:=⟨_,rfl⟩;rw[hob]at HO;have HOB:=Lib.hid hob;clear hob HOF;cases ob with
   | false=>have HR:Hid (R= -1):=HR0.out HOB.out;go_enter Try.func17,Try.ntmps17;go_wp2_with fail;refine HO.out.mono ?_;rintro e w2 ⟨rfl,hB2⟩;have HB2:=Lib.hid (HB1.out.trans (hB2.mono hs1));clear hB2 k0 k1 k2 k3 k4 k5 k6;go_wp2_with fail;go_ret;exact⟨kt.ret_int HR.out.symm,HB2.out⟩
   | true=>
    have HR:Hid (R=foldI d F.kids m):=HR1.out HOB.out;go_enter Try.func17,Try.ntmps17;go_wp2_with fail;refine HO.out.mono ?_;rintro e w2 ⟨rfl,hB2⟩;have HB2:=Lib.hid (HB1.out.trans (hB2.mono hs1));have HF2:=Lib.hid (r7_below HF1.out hB2);clear hB2 k0 k1 k2 k3 k4 k5 k6 HO;obtain⟨k0,k1,k2,k3,k4,k5,k6⟩:=r7_cells HF2.out;go_wp2_with fail;clear k0 k1 k2 k3 k4 k5 k6;go_loopw [2,25] (fun lv iv wr=> ∃ (i r:Nat),i≤N∧r≤40∧lv= .int .i64 (r:Int)∧iv= .int .i64 (i:Int)∧Hid (Below w.heap.size w wr)∧Hid (R=foldI d (F.kids.drop i) r)) (fun _ iv _=>N- (intOf iv).toNat);case atStart=>exact⟨0,m,Nat.zero_le _,hm1,rfl,rfl,HB2.out,HR.out⟩
    case round=>
     obtain⟨i,r,hi,hr,rfl,rfl,hB,hJ⟩:=hrel;have HBw:=hB;have hsw:=hB.out.size;clear hB;by_cases hlt:i<N
     ·have hltI:(i:Int)<(N:Int):=(by omega);have hil:i<F.kids.length:=(by rw[HN.out];exact hlt);obtain⟨b,o,ya,yc,la,lc,hao,hc,hkX⟩:=kidsX_at (kidsX_below HK.out HBw.out) i hil;subst hao;have HFK:=Lib.hid (fitX_kid hf.out (List.getElem_mem hil));obtain⟨G,hG⟩: ∃G,F.kids[i]=G:=⟨_,rfl⟩;have HG:=Lib.hid hG;rw[hG]at hc hkX HFK;clear hG;unfold flV at hkX;generalize G.any.length=m' at hc hkX;generalize G.kids.length=n' at hc hkX;obtain⟨c0,c1,c2,c3,c4,c5,c6⟩:=hc;have HKX:=Lib.hid hkX;clear hkX;have HST:=Lib.hid (foldI_step (d:=d) (m:=r) hil);rw[HG.out]at HST;obtain⟨Wa,hWa⟩: ∃W,wr.alloc (.cells #[.int .i64 G.kind,.string G.attr,.string G.value,.string G.first,.slice ya m' yc,.string G.last,.slice la n' lc] 25)=W:=⟨_,rfl⟩;have hBA:Below wr.heap.size wr Wa:=(by rw[←hWa];exact(Below.refl _ _).alloc (Nat.le_refl _) _);have HTA:Hid (R7 Wa wr.heap.size (.int .i64 G.kind) (.string G.attr) (.string G.value) (.string G.first) (.slice ya m' yc) (.string G.last) (.slice la n' lc)):=(by rw[←hWa];exact r7_new _ _ _ _ _ _ _ _);obtain⟨x0,x1,x2,x3,x4,x5,x6⟩:=r7_cells HTA.out;have HBA:=Lib.hid hBA;have HKA:=Lib.hid (flX_below HKX.out hBA);clear hBA;have HC:Hid (Calls Try.prog 17 #[.agg #[.int .i64 G.kind,.string G.attr,.string G.value,.string G.first,.slice ya m' yc,.string G.last,.slice la n' lc],.int .i64 ((dp:Int)+1),.int .i64 (r:Int)] Wa fun e w'=>e= .returned (.int .i64 (cntI d G r))∧Below Wa.heap.size Wa w'):=IH.out G _ r Wa hr HKA.out HFK.out;have HCI:Hid (cntI d G r=match cntR d G r with
       | some r=>(r:Int)
       | none=> -1):=rfl
      have HLE:=Lib.hid (fun q h=>cntR_le (d:=d) (m:=r) (r:=q) (F:=G) h);generalize cntI d G r=cv at HC HCI;cases hq:cntR d G r with
      | none=>rw[hq]at HST HCI;have hcv:cv= -1:=HCI.out;subst hcv;have HR2:Hid (R= -1):=hJ.out.trans HST.out;clear hq;go_wp2_with fail;refine HC.out.mono ?_;rintro e w3 ⟨rfl,hB3⟩;have HB3:=Lib.hid (HBw.out.trans ((HBA.out.trans (hB3.mono HBA.out.size)).mono hsw));clear hB3 x0 x1 x2 x3 x4 x5 x6 c0 c1 c2 c3 c4 c5 c6;go_wp2_with fail;go_ret;exact⟨kt.ret_int HR2.out.symm,HB3.out⟩
      | some r2=>
       rw[hq]at HST HCI;have hr2:r2≤40:=(by have:=HLE.out r2 hq;omega);have hcv:cv=(r2:Int):=HCI.out;subst hcv;have HR2:Hid (R=foldI d (F.kids.drop (i+1)) r2):=hJ.out.trans HST.out;have hn0: ¬ (r2:Int)<0:=(by omega);clear hq;go_wp2_with fail;refine HC.out.mono ?_;rintro e w3 ⟨rfl,hB3⟩;have HB3:=Lib.hid (HBw.out.trans ((HBA.out.trans (hB3.mono HBA.out.size)).mono hsw));clear hB3 x0 x1 x2 x3 x4 x5 x6 c0 c1 c2 c3 c4 c5 c6;go_wp2_with fail;go_roundw;case rel=>exact⟨i+1,r2,by omega,hr2,rfl,by go_num,HB3.out,HR2.out⟩
       case measure=>simp[intOf];omega
     ·obtain rfl:N=i:=(by omega);have HR2:Hid (R=(r:Int)):=(by show _=_;rw[hJ.out,←HN.out,List.drop_length,foldI_nil]);go_wp2_with fail;go_ret;exact⟨kt.ret_int HR2.out.symm,HBw.out⟩
theorem right_any (F:Fl)(v:Value)(w:World)(hv:Hid (FlX w v F))(hf:Hid (FitX F)):
  Calls Try.prog 11 #[v] w fun e w'=>e= .returned (.bool (rightF F))∧Below w.heap.size w w':=by
 have HC0:Hid (∀W,Below w.heap.size w W→Calls Try.prog 17 #[v,.int .i64 1,.int .i64 40] W fun e w'=>e= .returned (.int .i64 (cntI 8 F 40))∧Below W.heap.size W w'):=fun W h=>count_any 8 F v 1 40 W rfl (by omega) (Lib.hid (flX_below hv.out h)) hf;have HR:Hid (decide ((0:Int)≤cntI 8 F 40)=rightF F):=by
  show _=_;unfold cntI rightF;cases cntR 8 F 40 with
  | none=>rfl
  | some r=>exact decide_eq_true (by show(0:Int)≤(r:Int);omega)
 generalize cntI 8 F 40=c at HC0 HR;generalize rightF F=R at HR ⊢;obtain⟨xa,xc,ka,kc,rfl,HX,HK,hxc,hkc⟩:=flX_form hv.out;unfold flV;try unfold flV at HC0
 obtain⟨N,hN⟩: ∃N,F.kids.length=N:=⟨_,rfl⟩;have HN:=Lib.hid hN;obtain⟨M,hM⟩: ∃M,F.any.length=M:=⟨_,rfl⟩;have HM:=Lib.hid hM;have HFH:=Lib.hid (fitX_head hf.out);have hNb:N≤100000:=by rw[←hN];exact HFH.out.2.2.2.2.2.2
 have hMb:M≤100000:=by rw[←hM];exact HFH.out.2.2.2.2.1
 rw[hN]at hkc ⊢;try rw[hN]at HC0
 rw[hM]at hxc ⊢;try rw[hM]at HC0
 clear hN hM;obtain⟨W1,hW1⟩: ∃W,w.alloc (.cells #[.int .i64 F.kind,.string F.attr,.string F.value,.string F.first,.slice xa M xc,.string F.last,.slice ka N kc] 25)=W:=⟨_,rfl⟩;have hB1:Below w.heap.size w W1:=by rw[←hW1];exact(Below.refl _ _).alloc (Nat.le_refl _) _
 have HF1:Hid (R7 W1 w.heap.size (.int .i64 F.kind) (.string F.attr) (.string F.value) (.string F.first) (.slice xa M xc) (.string F.last) (.slice ka N kc)):=by rw[←hW1];exact r7_new _ _ _ _ _ _ _ _
 obtain⟨k0,k1,k2,k3,k4,k5,k6⟩:=r7_cells HF1.out;have HB1:=Lib.hid hB1;have hs1:=hB1.size;clear hB1;have HC:=Lib.hid (HC0.out W1 HB1.out);clear HC0;have hq:=HR.out;cases R;all_goals
  go_enter Try.func11,Try.ntmps11;go_wp2_with fail;refine HC.out.mono ?_;rintro e w2 ⟨rfl,hB2⟩;have HB2:=Lib.hid (HB1.out.trans (hB2.mono hs1));clear hB2 k0 k1 k2 k3 k4 k5 k6;go_wp2_with fail;go_ret;exact⟨rfl,HB2.out⟩
end flw
open Go.RowKit
namespace ftw
open ftp flp flw
open tupw (Strs strs_below)
def Small1 (F:Fl):Prop:=F.attr.size≤1000000∧F.value.size≤1000000∧F.first.size≤1000000∧F.last.size≤1000000∧F.any.length≤1000000∧ ∀p∈F.any,p.size≤1000000
def itemBy (F:Fl):ByteArray:=⟨(itemT F).toArray⟩
theorem item_any (F:Fl)(v:Value)(w:World)(hv:Hid (FlX w v F))(hs:Hid (Small1 F))(hk:F.kind=3∨F.kind=4∨F.kind=5∨F.kind=6∨F.kind=7∨F.kind=8):
  Calls Try.prog 18 #[v] w fun e w'=>e= .returned (.string (itemBy F))∧Below w.heap.size w w':=by
 obtain⟨xa,xc,ka,kc,rfl,hS,_,_,_⟩:=flX_form hv.out;obtain⟨s1,s2,s3,s4,s5,s6⟩:=hs.out;unfold flV itemBy itemT bodyT;rcases hk with h | h | h | h | h | h
 ·rw[h];exact item_3 _ _ _ _ _ _ w s1 s2
 ·rw[h];exact item_4 _ _ _ _ _ _ _ _ w s1 s3 s4 s5 (Lib.hid s6) hS
 ·rw[h];exact item_5 _ _ _ _ _ _ w s1 s2
 ·rw[h];exact item_6 _ _ _ _ _ _ w s1 s2
 ·rw[h];exact item_7 _ _ _ _ _ _ w s1
 ·rw[h];exact item_8 _ _ _ _ _ _ w s1 s2
end ftw
open Go.RowKit
namespace ftw
open ftp flp flw
open tupw (Strs strs_below)
theorem text_leaf (F:Fl)(v:Value)(w:World)(hv:Hid (FlX w v F))(hs:Hid (Small1 F))(hk:F.kind=3∨F.kind=4∨F.kind=5∨F.kind=6∨F.kind=7∨F.kind=8):
  Calls Try.prog 12 #[v] w fun e w'=>e= .returned (.tuple #[.string (itemBy F),.bool (nameL (tx F.attr))])∧Below w.heap.size w w':=by
 have HIT:Hid (∀W,Below w.heap.size w W→Calls Try.prog 18 #[v] W fun e w'=>e= .returned (.string (itemBy F))∧Below W.heap.size W w'):=fun W h=>item_any F v W (Lib.hid (flX_below hv.out h)) hs hk;have HNM:Hid (∀W,Calls Try.prog 19 #[.string F.attr] W fun e w'=>e= .returned (.bool (nameL (tx F.attr)))∧W=w'):=fun W=>named_any F.attr W hs.out.1;obtain⟨xa,xc,ka,kc,rfl,hS,_,_,_⟩:=flX_form hv.out;unfold flV at HIT ⊢;have q0: ¬F.kind=0:=by omega
 have q1: ¬F.kind=1:=by omega
 have q2: ¬F.kind=2:=by omega
 generalize itemBy F=I at HIT ⊢;generalize nameL (tx F.attr)=r at HNM ⊢;generalize F.kind=K at HIT q0 q1 q2 ⊢;generalize F.attr=s1 at HIT HNM ⊢;generalize F.value=s2 at HIT ⊢;generalize F.first=s3 at HIT ⊢;generalize F.last=s5 at HIT ⊢;generalize(Value.slice xa F.any.length xc)=x at HIT ⊢;generalize(Value.slice ka F.kids.length kc)=y at HIT ⊢;have z0:(K==0)=false:=by rw[beq_eq_false_iff_ne];exact q0
 have z1:(K==1)=false:=by rw[beq_eq_false_iff_ne];exact q1
 have z2:(K==2)=false:=by rw[beq_eq_false_iff_ne];exact q2
 clear hv hs hk hS;have HR:Hid (R7 (w.alloc (.cells #[.int .i64 K,.string s1,.string s2,.string s3,x,.string s5,y] 25)) w.heap.size (.int .i64 K) (.string s1) (.string s2) (.string s3) x (.string s5) y):=r7_new _ _ _ _ _ _ _ _;have HB:Hid (Below w.heap.size w (w.alloc (.cells #[.int .i64 K,.string s1,.string s2,.string s3,x,.string s5,y] 25))):=(Below.refl _ _).alloc (Nat.le_refl _) _;obtain⟨w1,hw1⟩: ∃W,w.alloc (.cells #[.int .i64 K,.string s1,.string s2,.string s3,x,.string s5,y] 25)=W:=⟨_,rfl⟩;rw[hw1]at HR HB;obtain⟨p,hp⟩: ∃p,w.heap.size=p:=⟨_,rfl⟩;have HRp:Hid (R7 w1 p (.int .i64 K) (.string s1) (.string s2) (.string s3) x (.string s5) y):=by rw[←hp];exact HR
 clear HR;obtain⟨k0,k1,k2,k3,k4,k5,k6⟩:=r7_cells HRp.out;have HIT1:=Lib.hid (HIT.out w1.drew HB.out.drew);clear HIT;go_enter Try.func12,Try.ntmps12;go_wp2_with fail;go_region_held3 (fun W=>W.cell? ⟨p,0,none⟩=some (.int .i64 K)∧W.cell? ⟨p,1,none⟩=some (.string s1)∧W.cell? ⟨p,2,none⟩=some (.string s2)∧W.cell? ⟨p,3,none⟩=some (.string s3)∧W.cell? ⟨p,4,none⟩=some x∧W.cell? ⟨p,5,none⟩=some (.string s5)∧W.cell? ⟨p,6,none⟩=some y) (first
   | exact⟨k0,k1,k2,k3,k4,k5,k6⟩
   | exact r7_cells (r7_below HRp.out ((Below.refl _ _).drew.trans hB2)))
  (first
   | (go_at_call 18;refine HIT1.out.mono ?_;rintro e w2 ⟨rfl,hB2⟩)
   | (go_at_call 19;refine(HNM.out _).mono ?_;rintro e w3 ⟨rfl,hw3⟩;subst hw3))
 all_goals go_wp2_with fail;go_ret2;exact⟨rfl,HB.out.trans (((Below.refl _ _).drew.trans hB2).mono HB.out.size)⟩
end ftw
open Go.RowKit
namespace ftw
open ftp flp flw
open tupw (Strs strs_below)
def TxB:Nat→Fl→Prop
 | 0,_=>True
 | d+1,F=>Small1 F∧F.kids.length≤1000∧(∀t,textF (d+1) F=some t→t.length≤1000000000)∧ ∀k∈F.kids,TxB d k
def TextE (o:Option T)(w:World)(e:Ending)(w':World):Prop:=Below w.heap.size w w'∧match o with
 | some t=>e= .returned (.tuple #[.string ⟨t.toArray⟩,.bool true])
 | none=> ∃s,e= .returned (.tuple #[.string s,.bool false])
theorem catO_snoc: ∀ (l:List (Option T)) (t:T),catO (l++[some t])=(catO l).map fun u=>u++t
 | [],t=>by simp[catO]
 | none::r,t=>rfl
 | some a::r,t=>by rw[List.cons_append,catO,catO,catO_snoc r t];cases catO r<;>simp
theorem catO_none: ∀ {l:List (Option T)},none∈l→catO l=none
 | [],h=>by cases h
 | none::r,h=>rfl
 | some a::r,h=>by rw[catO,catO_none (by simpa using h)];rfl
theorem text_0 (d:Nat)(ks:List Fl)(s1 s2 s3 s5:ByteArray)(x:Value)(ka:Option Addr)(kc:Nat)(w:World)(hK:Hid (KidsX w ka ks))(hn:ks.length≤1000)
  (IH:Hid (∀k∈ks,∀v W,FlX W v k→Calls Try.prog 12 #[v] W (TextE (textF d k) W))) (hL:Hid (∀k∈ks,∀t,textF d k=some t→t.length≤1000000000)):
  Calls Try.prog 12 #[.agg #[.int .i64 0,.string s1,.string s2,.string s3,x,.string s5,.slice ka ks.length kc]] w (TextE ((catO (ks.map (textF d))).map fun t=>40::38::(t++[41])) w):=by
 obtain⟨O,hO⟩: ∃O,Hid (((catO (ks.map (textF d))).map fun t=>40::38::(t++[41]))=O):=⟨_,Lib.hid rfl⟩;rw[hO.out];obtain⟨n,hnn⟩: ∃n,ks.length=n:=⟨_,rfl⟩;have HN:=Lib.hid hnn;rw[hnn]at hn ⊢;clear hnn;have HR:Hid (R7 (w.alloc (.cells #[.int .i64 0,.string s1,.string s2,.string s3,x,.string s5,.slice ka n kc] 25)) w.heap.size (.int .i64 0) (.string s1) (.string s2) (.string s3) x (.string s5) (.slice ka n kc)):=r7_new _ _ _ _ _ _ _ _;have HB:Hid (Below w.heap.size w (w.alloc (.cells #[.int .i64 0,.string s1,.string s2,.string s3,x,.string s5,.slice ka n kc] 25))):=(Below.refl _ _).alloc (Nat.le_refl _) _;obtain⟨w1,hw1⟩: ∃W,w.alloc (.cells #[.int .i64 0,.string s1,.string s2,.string s3,x,.string s5,.slice ka n kc] 25)=W:=⟨_,rfl⟩;rw[hw1]at HR HB;obtain⟨p,hp⟩: ∃p,w.heap.size=p:=⟨_,rfl⟩;have HRp:Hid (R7 w1 p (.int .i64 0) (.string s1) (.string s2) (.string s3) x (.string s5) (.slice ka n kc)):=by rw[←hp];exact HR
 clear HR;obtain⟨k0,k1,k2,k3,k4,k5,k6⟩:=r7_cells HRp.out;have HI0:=Lib.hid (bld.fresh w1);have HBA:Hid (Below w1.heap.size w1 (w1.alloc (.cells #[.pointer none,.slice none 0 0] 47))):=(Below.refl _ _).alloc (Nat.le_refl _) _;have hltA:w1.heap.size<(w1.alloc (.cells #[.pointer none,.slice none 0 0] 47)).heap.size:=by simp
 have HWs:=Lib.hid (bld.writeString_any w1.heap.size w1.heap.size [] ((⟨#[40]⟩:ByteArray)++⟨#[38]⟩) _ HI0.out (by decide) (by omega));go_enter Try.func12,Try.ntmps12;go_wp2_with fail;refine HWs.out.mono ?_;rintro e w2 ⟨rfl,hI2,hB2⟩;have hI2:bld.Is w1.heap.size w1.heap.size [40,38] w2:=hI2;obtain⟨B,hBB⟩: ∃B,w1.heap.size=B:=⟨_,rfl⟩;rw[hBB]at hI2 hB2 HBA hltA ⊢;have HB2:Hid (Below B w1 w2):=HBA.out.trans hB2;have hszB:B<w2.heap.size:=Nat.lt_of_lt_of_le hltA hB2.size;have hw1B:w.heap.size≤B:=by rw[←hBB];exact HB.out.size
 have HBw:Hid (Below w.heap.size w w2):=HB.out.trans (HB2.out.mono hw1B);have HI2:=Lib.hid hI2;have hpB:p<B:=by rw[←hBB];exact r7_lt HRp.out
 have hR2:R7 w2 p (.int .i64 0) (.string s1) (.string s2) (.string s3) x (.string s5) (.slice ka n kc):=(HB2.out.block p hpB).trans HRp.out;clear hI2 hB2 HWs HBA hltA HI0 k0 k1 k2 k3 k4 k5 k6 hw1 hp hBB;obtain⟨k0,k1,k2,k3,k4,k5,k6⟩:=r7_cells hR2;go_wp2_with fail;clear k0 k1 k2 k3 k4 k5 k6 hR2 HRp;go_loopw [29] (fun iv wr=> ∃ (k:Nat) (us:T),k≤n∧iv= .int .i64 (k:Int)∧us.length≤k*1000000000∧Hid (catO ((ks.take k).map (textF d))=some us)∧Hid (bld.Is B B (40::38::us) wr)∧Hid (Below B w2 wr)) (fun iv _=>n- (intOf iv).toNat);case atStart=>exact⟨0,[],Nat.zero_le _,rfl,Nat.zero_le _,rfl,HI2.out,Below.refl _ _⟩
 case round=>
  obtain⟨k,us,hk,rfl,hus,hC,hI,hBr⟩:=hrel;have HBx:Hid (Below w.heap.size w wr):=HBw.out.trans (hBr.out.mono hw1B);have hszr:B<wr.heap.size:=Nat.lt_of_lt_of_le hszB hBr.out.size;by_cases hlt:k<n
  ·have hltI:(k:Int)<(n:Int):=(by omega);have hkl:k<ks.length:=(by rw[HN.out];exact hlt);obtain⟨b,o,xa,xc,kb,kcc,hao,hcf,hfx⟩:=kidsX_at (kidsX_below hK.out HBx.out) k hkl;subst hao;have c0:=hcf.c0;have c1:=hcf.c1;have c2:=hcf.c2;have c3:=hcf.c3;have c4:=hcf.c4;have c5:=hcf.c5;have c6:=hcf.c6;have hmem:ks[k]∈ks:=List.getElem_mem hkl;have hIH:=IH.out ks[k] hmem;have hLk:=hL.out ks[k] hmem;have HCs: ∀t,textF d ks[k]=some t→catO ((ks.take (k+1)).map (textF d))=some (us++t):=(by intro t ht;rw[List.take_succ_eq_append_getElem hkl,List.map_append,List.map_singleton,ht,catO_snoc,hC.out];rfl);have HCn:textF d ks[k]=none→O=none:=(by intro h;rw[←hO.out,catO_none (List.mem_map.2 ⟨ks[k],hmem,h⟩)];rfl);generalize ks[k]=F at c0 c1 c2 c3 c4 c5 c6 hIH hLk HCs HCn hfx;have HQ:Hid (R7 (wr.alloc (.cells #[.int .i64 F.kind,.string F.attr,.string F.value,.string F.first,.slice xa F.any.length xc,.string F.last,.slice kb F.kids.length kcc] 25)) wr.heap.size (.int .i64 F.kind) (.string F.attr) (.string F.value) (.string F.first) (.slice xa F.any.length xc) (.string F.last) (.slice kb F.kids.length kcc)):=r7_new _ _ _ _ _ _ _ _;have HBq:Hid (Below wr.heap.size wr (wr.alloc (.cells #[.int .i64 F.kind,.string F.attr,.string F.value,.string F.first,.slice xa F.any.length xc,.string F.last,.slice kb F.kids.length kcc] 25))):=(Below.refl _ _).alloc (Nat.le_refl _) _;have HT:=Lib.hid (hIH _ _ (flX_below hfx HBq.out));unfold flV at HT;generalize textF d F=o at HT hLk HCs HCn;have HLk:=Lib.hid hLk;have HCs:=Lib.hid HCs;have HCn:=Lib.hid HCn;obtain⟨q0,q1,q2,q3,q4,q5,q6⟩:=r7_cells HQ.out;clear hIH hLk hfx hcf hmem HQ;go_wp2_with fail;refine HT.out.mono ?_;rintro e w3 ⟨hB3,hE⟩;have HB3:Hid (Below wr.heap.size wr w3):=HBq.out.trans (hB3.mono HBq.out.size);clear hB3 q0 q1 q2 q3 q4 q5 q6 c0 c1 c2 c3 c4 c5 c6 HT HBq;cases o with
   | none=>obtain⟨s,rfl⟩:=hE;have hOn:=Lib.hid (HCn.out rfl);go_wp2_with fail;go_ret2;rw[hOn.out];exact⟨HBx.out.trans (HB3.out.mono HBx.out.size),_,rfl⟩
   | some t=>
    subst hE;have hC2:=Lib.hid (HCs.out t rfl);have hl2:=HLk.out t rfl;clear HCs HCn HLk;obtain⟨Tt,hTt⟩: ∃x:ByteArray,Hid (x=⟨t.toArray⟩):=⟨_,Lib.hid rfl⟩;have hTs:Tt.size=t.length:=(by rw[hTt.out,←kt.size_len]);rw[←hTt.out];have HW:=Lib.hid (bld.writeString_any B B _ Tt w3 (tupw.is_below hI.out HB3.out) (by simp only[List.length_cons];omega) (by have:=HB3.out.size;omega));go_wp2_with fail;refine HW.out.mono ?_;rintro e w4 ⟨rfl,hI4,hB4⟩;have hI4:bld.Is B B (40::38::(us++t)) w4:=(by rw[hTt.out]at hI4;simpa using hI4);go_wp2_with fail;go_roundw;case rel=>exact⟨k+1,us++t,by omega,by go_num,by rw[List.length_append];omega,hC2,hI4,hBr.out.trans ((HB3.out.mono (by omega)).trans hB4)⟩
    case measure=>simp[intOf];omega
  ·obtain rfl:k=n:=(by omega);have hC5:=hC.out;rw[List.take_of_length_le (by rw[HN.out];exact Nat.le_refl _)]at hC5;have hOs:Hid (O=some (40::38::(us++[41]))):=(by show O=_;rw[←hO.out,hC5];rfl);have HX:=Lib.hid (Try.Builder_String_any B B _ wr hI.out (by omega));obtain⟨S,hS⟩: ∃x:ByteArray,Hid (x=⟨(40::38::us).toArray⟩):=⟨_,Lib.hid rfl⟩;rw[←hS.out]at HX;have hSs:S.size=us.length+2:=(by rw[hS.out,←kt.size_len];rfl);obtain⟨Z,hZ⟩: ∃Z,Z=S++(⟨#[41]⟩:ByteArray):=⟨_,rfl⟩;have hadd: ∀W,(Op.stringOp .add S ⟨#[41]⟩).run Try.prog W= .ok (.string Z) W:=fun W=>by rw[hZ];exact run_string_add_sum W _ _ (by show S.size+1≤9223372036854775807;omega)
   have HZ:Hid (Z=⟨(40::38::(us++[41])).toArray⟩):=(by refine arr_mk _ _ ?_;rw[hZ,dt_app,hS.out];rfl);clear hZ hS hC5 hC;go_wp2_with fail;refine HX.out.mono ?_;rintro e w5 ⟨rfl,hB5⟩;go_wp2_with fail;go_ret2;rw[hOs.out];exact⟨HBx.out.trans (hB5.mono (by have:=HBx.out.size;omega)),by show _=Ending.returned (.tuple #[.string ⟨(40::38::(us++[41])).toArray⟩,.bool true]);rw[←HZ.out];rfl⟩
theorem text_1 (d:Nat)(ks:List Fl)(s1 s2 s3 s5:ByteArray)(x:Value)(ka:Option Addr)(kc:Nat)(w:World)(hK:Hid (KidsX w ka ks))(hn:ks.length≤1000)
  (IH:Hid (∀k∈ks,∀v W,FlX W v k→Calls Try.prog 12 #[v] W (TextE (textF d k) W))) (hL:Hid (∀k∈ks,∀t,textF d k=some t→t.length≤1000000000)):
  Calls Try.prog 12 #[.agg #[.int .i64 1,.string s1,.string s2,.string s3,x,.string s5,.slice ka ks.length kc]] w (TextE ((catO (ks.map (textF d))).map fun t=>40::124::(t++[41])) w):=by
 obtain⟨O,hO⟩: ∃O,Hid (((catO (ks.map (textF d))).map fun t=>40::124::(t++[41]))=O):=⟨_,Lib.hid rfl⟩;rw[hO.out];obtain⟨n,hnn⟩: ∃n,ks.length=n:=⟨_,rfl⟩;have HN:=Lib.hid hnn;rw[hnn]at hn ⊢;clear hnn;have HR:Hid (R7 (w.alloc (.cells #[.int .i64 1,.string s1,.string s2,.string s3,x,.string s5,.slice ka n kc] 25)) w.heap.size (.int .i64 1) (.string s1) (.string s2) (.string s3) x (.string s5) (.slice ka n kc)):=r7_new _ _ _ _ _ _ _ _;have HB:Hid (Below w.heap.size w (w.alloc (.cells #[.int .i64 1,.string s1,.string s2,.string s3,x,.string s5,.slice ka n kc] 25))):=(Below.refl _ _).alloc (Nat.le_refl _) _;obtain⟨w1,hw1⟩: ∃W,w.alloc (.cells #[.int .i64 1,.string s1,.string s2,.string s3,x,.string s5,.slice ka n kc] 25)=W:=⟨_,rfl⟩;rw[hw1]at HR HB;obtain⟨p,hp⟩: ∃p,w.heap.size=p:=⟨_,rfl⟩;have HRp:Hid (R7 w1 p (.int .i64 1) (.string s1) (.string s2) (.string s3) x (.string s5) (.slice ka n kc)):=by rw[←hp];exact HR
 clear HR;obtain⟨k0,k1,k2,k3,k4,k5,k6⟩:=r7_cells HRp.out;have HI0:=Lib.hid (bld.fresh w1);have HBA:Hid (Below w1.heap.size w1 (w1.alloc (.cells #[.pointer none,.slice none 0 0] 47))):=(Below.refl _ _).alloc (Nat.le_refl _) _;have hltA:w1.heap.size<(w1.alloc (.cells #[.pointer none,.slice none 0 0] 47)).heap.size:=by simp
 have HWs:=Lib.hid (bld.writeString_any w1.heap.size w1.heap.size [] ((⟨#[40]⟩:ByteArray)++⟨#[124]⟩) _ HI0.out (by decide) (by omega));go_enter Try.func12,Try.ntmps12;go_wp2_with fail;refine HWs.out.mono ?_;rintro e w2 ⟨rfl,hI2,hB2⟩;have hI2:bld.Is w1.heap.size w1.heap.size [40,124] w2:=hI2;obtain⟨B,hBB⟩: ∃B,w1.heap.size=B:=⟨_,rfl⟩;rw[hBB]at hI2 hB2 HBA hltA ⊢;have HB2:Hid (Below B w1 w2):=HBA.out.trans hB2;have hszB:B<w2.heap.size:=Nat.lt_of_lt_of_le hltA hB2.size;have hw1B:w.heap.size≤B:=by rw[←hBB];exact HB.out.size
 have HBw:Hid (Below w.heap.size w w2):=HB.out.trans (HB2.out.mono hw1B);have HI2:=Lib.hid hI2;have hpB:p<B:=by rw[←hBB];exact r7_lt HRp.out
 have hR2:R7 w2 p (.int .i64 1) (.string s1) (.string s2) (.string s3) x (.string s5) (.slice ka n kc):=(HB2.out.block p hpB).trans HRp.out;clear hI2 hB2 HWs HBA hltA HI0 k0 k1 k2 k3 k4 k5 k6 hw1 hp hBB;obtain⟨k0,k1,k2,k3,k4,k5,k6⟩:=r7_cells hR2;go_wp2_with fail;clear k0 k1 k2 k3 k4 k5 k6 hR2 HRp;go_loopw [29] (fun iv wr=> ∃ (k:Nat) (us:T),k≤n∧iv= .int .i64 (k:Int)∧us.length≤k*1000000000∧Hid (catO ((ks.take k).map (textF d))=some us)∧Hid (bld.Is B B (40::124::us) wr)∧Hid (Below B w2 wr)) (fun iv _=>n- (intOf iv).toNat);case atStart=>exact⟨0,[],Nat.zero_le _,rfl,Nat.zero_le _,rfl,HI2.out,Below.refl _ _⟩
 case round=>
  obtain⟨k,us,hk,rfl,hus,hC,hI,hBr⟩:=hrel;have HBx:Hid (Below w.heap.size w wr):=HBw.out.trans (hBr.out.mono hw1B);have hszr:B<wr.heap.size:=Nat.lt_of_lt_of_le hszB hBr.out.size;by_cases hlt:k<n
  ·have hltI:(k:Int)<(n:Int):=(by omega);have hkl:k<ks.length:=(by rw[HN.out];exact hlt);obtain⟨b,o,xa,xc,kb,kcc,hao,hcf,hfx⟩:=kidsX_at (kidsX_below hK.out HBx.out) k hkl;subst hao;have c0:=hcf.c0;have c1:=hcf.c1;have c2:=hcf.c2;have c3:=hcf.c3;have c4:=hcf.c4;have c5:=hcf.c5;have c6:=hcf.c6;have hmem:ks[k]∈ks:=List.getElem_mem hkl;have hIH:=IH.out ks[k] hmem;have hLk:=hL.out ks[k] hmem;have HCs: ∀t,textF d ks[k]=some t→catO ((ks.take (k+1)).map (textF d))=some (us++t):=(by intro t ht;rw[List.take_succ_eq_append_getElem hkl,List.map_append,List.map_singleton,ht,catO_snoc,hC.out];rfl);have HCn:textF d ks[k]=none→O=none:=(by intro h;rw[←hO.out,catO_none (List.mem_map.2 ⟨ks[k],hmem,h⟩)];rfl);generalize ks[k]=F at c0 c1 c2 c3 c4 c5 c6 hIH hLk HCs HCn hfx;have HQ:Hid (R7 (wr.alloc (.cells #[.int .i64 F.kind,.string F.attr,.string F.value,.string F.first,.slice xa F.any.length xc,.string F.last,.slice kb F.kids.length kcc] 25)) wr.heap.size (.int .i64 F.kind) (.string F.attr) (.string F.value) (.string F.first) (.slice xa F.any.length xc) (.string F.last) (.slice kb F.kids.length kcc)):=r7_new _ _ _ _ _ _ _ _;have HBq:Hid (Below wr.heap.size wr (wr.alloc (.cells #[.int .i64 F.kind,.string F.attr,.string F.value,.string F.first,.slice xa F.any.length xc,.string F.last,.slice kb F.kids.length kcc] 25))):=(Below.refl _ _).alloc (Nat.le_refl _) _;have HT:=Lib.hid (hIH _ _ (flX_below hfx HBq.out));unfold flV at HT;generalize textF d F=o at HT hLk HCs HCn;have HLk:=Lib.hid hLk;have HCs:=Lib.hid HCs;have HCn:=Lib.hid HCn;obtain⟨q0,q1,q2,q3,q4,q5,q6⟩:=r7_cells HQ.out;clear hIH hLk hfx hcf hmem HQ;go_wp2_with fail;refine HT.out.mono ?_;rintro e w3 ⟨hB3,hE⟩;have HB3:Hid (Below wr.heap.size wr w3):=HBq.out.trans (hB3.mono HBq.out.size);clear hB3 q0 q1 q2 q3 q4 q5 q6 c0 c1 c2 c3 c4 c5 c6 HT HBq;cases o with
   | none=>obtain⟨s,rfl⟩:=hE;have hOn:=Lib.hid (HCn.out rfl);go_wp2_with fail;go_ret2;rw[hOn.out];exact⟨HBx.out.trans (HB3.out.mono HBx.out.size),_,rfl⟩
   | some t=>
    subst hE;have hC2:=Lib.hid (HCs.out t rfl);have hl2:=HLk.out t rfl;clear HCs HCn HLk;obtain⟨Tt,hTt⟩: ∃x:ByteArray,Hid (x=⟨t.toArray⟩):=⟨_,Lib.hid rfl⟩;have hTs:Tt.size=t.length:=(by rw[hTt.out,←kt.size_len]);rw[←hTt.out];have HW:=Lib.hid (bld.writeString_any B B _ Tt w3 (tupw.is_below hI.out HB3.out) (by simp only[List.length_cons];omega) (by have:=HB3.out.size;omega));go_wp2_with fail;refine HW.out.mono ?_;rintro e w4 ⟨rfl,hI4,hB4⟩;have hI4:bld.Is B B (40::124::(us++t)) w4:=(by rw[hTt.out]at hI4;simpa using hI4);go_wp2_with fail;go_roundw;case rel=>exact⟨k+1,us++t,by omega,by go_num,by rw[List.length_append];omega,hC2,hI4,hBr.out.trans ((HB3.out.mono (by omega)).trans hB4)⟩
    case measure=>simp[intOf];omega
  ·obtain rfl:k=n:=(by omega);have hC5:=hC.out;rw[List.take_of_length_le (by rw[HN.out];exact Nat.le_refl _)]at hC5;have hOs:Hid (O=some (40::124::(us++[41]))):=(by show O=_;rw[←hO.out,hC5];rfl);have HX:=Lib.hid (Try.Builder_String_any B B _ wr hI.out (by omega));obtain⟨S,hS⟩: ∃x:ByteArray,Hid (x=⟨(40::124::us).toArray⟩):=⟨_,Lib.hid rfl⟩;rw[←hS.out]at HX;have hSs:S.size=us.length+2:=(by rw[hS.out,←kt.size_len];rfl);obtain⟨Z,hZ⟩: ∃Z,Z=S++(⟨#[41]⟩:ByteArray):=⟨_,rfl⟩;have hadd: ∀W,(Op.stringOp .add S ⟨#[41]⟩).run Try.prog W= .ok (.string Z) W:=fun W=>by rw[hZ];exact run_string_add_sum W _ _ (by show S.size+1≤9223372036854775807;omega)
   have HZ:Hid (Z=⟨(40::124::(us++[41])).toArray⟩):=(by refine arr_mk _ _ ?_;rw[hZ,dt_app,hS.out];rfl);clear hZ hS hC5 hC;go_wp2_with fail;refine HX.out.mono ?_;rintro e w5 ⟨rfl,hB5⟩;go_wp2_with fail;go_ret2;rw[hOs.out];exact⟨HBx.out.trans (hB5.mono (by have:=HBx.out.size;omega)),by show _=Ending.returned (.tuple #[.string ⟨(40::124::(us++[41])).toArray⟩,.bool true]);rw[←HZ.out];rfl⟩
theorem text_2 (d:Nat)(ks:List Fl)(s1 s2 s3 s5:ByteArray)(x:Value)(ka:Option Addr)(kc:Nat)(w:World)(hK:Hid (KidsX w ka ks))(hn:ks.length≤1000)
  (IH:Hid (∀k∈ks,∀v W,FlX W v k→Calls Try.prog 12 #[v] W (TextE (textF d k) W))) (hL:Hid (∀k∈ks,∀t,textF d k=some t→t.length≤1000000000)):
  Calls Try.prog 12 #[.agg #[.int .i64 2,.string s1,.string s2,.string s3,x,.string s5,.slice ka ks.length kc]] w (TextE ((catO (ks.map (textF d))).map fun t=>40::33::(t++[41])) w):=by
 obtain⟨O,hO⟩: ∃O,Hid (((catO (ks.map (textF d))).map fun t=>40::33::(t++[41]))=O):=⟨_,Lib.hid rfl⟩;rw[hO.out];obtain⟨n,hnn⟩: ∃n,ks.length=n:=⟨_,rfl⟩;have HN:=Lib.hid hnn;rw[hnn]at hn ⊢;clear hnn;have HR:Hid (R7 (w.alloc (.cells #[.int .i64 2,.string s1,.string s2,.string s3,x,.string s5,.slice ka n kc] 25)) w.heap.size (.int .i64 2) (.string s1) (.string s2) (.string s3) x (.string s5) (.slice ka n kc)):=r7_new _ _ _ _ _ _ _ _;have HB:Hid (Below w.heap.size w (w.alloc (.cells #[.int .i64 2,.string s1,.string s2,.string s3,x,.string s5,.slice ka n kc] 25))):=(Below.refl _ _).alloc (Nat.le_refl _) _;obtain⟨w1,hw1⟩: ∃W,w.alloc (.cells #[.int .i64 2,.string s1,.string s2,.string s3,x,.string s5,.slice ka n kc] 25)=W:=⟨_,rfl⟩;rw[hw1]at HR HB;obtain⟨p,hp⟩: ∃p,w.heap.size=p:=⟨_,rfl⟩;have HRp:Hid (R7 w1 p (.int .i64 2) (.string s1) (.string s2) (.string s3) x (.string s5) (.slice ka n kc)):=by rw[←hp];exact HR
 clear HR;obtain⟨k0,k1,k2,k3,k4,k5,k6⟩:=r7_cells HRp.out;have HI0:=Lib.hid (bld.fresh w1);have HBA:Hid (Below w1.heap.size w1 (w1.alloc (.cells #[.pointer none,.slice none 0 0] 47))):=(Below.refl _ _).alloc (Nat.le_refl _) _;have hltA:w1.heap.size<(w1.alloc (.cells #[.pointer none,.slice none 0 0] 47)).heap.size:=by simp
 have HWs:=Lib.hid (bld.writeString_any w1.heap.size w1.heap.size [] ((⟨#[40]⟩:ByteArray)++⟨#[33]⟩) _ HI0.out (by decide) (by omega));go_enter Try.func12,Try.ntmps12;go_wp2_with fail;refine HWs.out.mono ?_;rintro e w2 ⟨rfl,hI2,hB2⟩;have hI2:bld.Is w1.heap.size w1.heap.size [40,33] w2:=hI2;obtain⟨B,hBB⟩: ∃B,w1.heap.size=B:=⟨_,rfl⟩;rw[hBB]at hI2 hB2 HBA hltA ⊢;have HB2:Hid (Below B w1 w2):=HBA.out.trans hB2;have hszB:B<w2.heap.size:=Nat.lt_of_lt_of_le hltA hB2.size;have hw1B:w.heap.size≤B:=by rw[←hBB];exact HB.out.size
 have HBw:Hid (Below w.heap.size w w2):=HB.out.trans (HB2.out.mono hw1B);have HI2:=Lib.hid hI2;have hpB:p<B:=by rw[←hBB];exact r7_lt HRp.out
 have hR2:R7 w2 p (.int .i64 2) (.string s1) (.string s2) (.string s3) x (.string s5) (.slice ka n kc):=(HB2.out.block p hpB).trans HRp.out;clear hI2 hB2 HWs HBA hltA HI0 k0 k1 k2 k3 k4 k5 k6 hw1 hp hBB;obtain⟨k0,k1,k2,k3,k4,k5,k6⟩:=r7_cells hR2;go_wp2_with fail;clear k0 k1 k2 k3 k4 k5 k6 hR2 HRp;go_loopw [29] (fun iv wr=> ∃ (k:Nat) (us:T),k≤n∧iv= .int .i64 (k:Int)∧us.length≤k*1000000000∧Hid (catO ((ks.take k).map (textF d))=some us)∧Hid (bld.Is B B (40::33::us) wr)∧Hid (Below B w2 wr)) (fun iv _=>n- (intOf iv).toNat);case atStart=>exact⟨0,[],Nat.zero_le _,rfl,Nat.zero_le _,rfl,HI2.out,Below.refl _ _⟩
 case round=>
  obtain⟨k,us,hk,rfl,hus,hC,hI,hBr⟩:=hrel;have HBx:Hid (Below w.heap.size w wr):=HBw.out.trans (hBr.out.mono hw1B);have hszr:B<wr.heap.size:=Nat.lt_of_lt_of_le hszB hBr.out.size;by_cases hlt:k<n
  ·have hltI:(k:Int)<(n:Int):=(by omega);have hkl:k<ks.length:=(by rw[HN.out];exact hlt);obtain⟨b,o,xa,xc,kb,kcc,hao,hcf,hfx⟩:=kidsX_at (kidsX_below hK.out HBx.out) k hkl;subst hao;have c0:=hcf.c0;have c1:=hcf.c1;have c2:=hcf.c2;have c3:=hcf.c3;have c4:=hcf.c4;have c5:=hcf.c5;have c6:=hcf.c6;have hmem:ks[k]∈ks:=List.getElem_mem hkl;have hIH:=IH.out ks[k] hmem;have hLk:=hL.out ks[k] hmem;have HCs: ∀t,textF d ks[k]=some t→catO ((ks.take (k+1)).map (textF d))=some (us++t):=(by intro t ht;rw[List.take_succ_eq_append_getElem hkl,List.map_append,List.map_singleton,ht,catO_snoc,hC.out];rfl);have HCn:textF d ks[k]=none→O=none:=(by intro h;rw[←hO.out,catO_none (List.mem_map.2 ⟨ks[k],hmem,h⟩)];rfl);generalize ks[k]=F at c0 c1 c2 c3 c4 c5 c6 hIH hLk HCs HCn hfx;have HQ:Hid (R7 (wr.alloc (.cells #[.int .i64 F.kind,.string F.attr,.string F.value,.string F.first,.slice xa F.any.length xc,.string F.last,.slice kb F.kids.length kcc] 25)) wr.heap.size (.int .i64 F.kind) (.string F.attr) (.string F.value) (.string F.first) (.slice xa F.any.length xc) (.string F.last) (.slice kb F.kids.length kcc)):=r7_new _ _ _ _ _ _ _ _;have HBq:Hid (Below wr.heap.size wr (wr.alloc (.cells #[.int .i64 F.kind,.string F.attr,.string F.value,.string F.first,.slice xa F.any.length xc,.string F.last,.slice kb F.kids.length kcc] 25))):=(Below.refl _ _).alloc (Nat.le_refl _) _;have HT:=Lib.hid (hIH _ _ (flX_below hfx HBq.out));unfold flV at HT;generalize textF d F=o at HT hLk HCs HCn;have HLk:=Lib.hid hLk;have HCs:=Lib.hid HCs;have HCn:=Lib.hid HCn;obtain⟨q0,q1,q2,q3,q4,q5,q6⟩:=r7_cells HQ.out;clear hIH hLk hfx hcf hmem HQ;go_wp2_with fail;refine HT.out.mono ?_;rintro e w3 ⟨hB3,hE⟩;have HB3:Hid (Below wr.heap.size wr w3):=HBq.out.trans (hB3.mono HBq.out.size);clear hB3 q0 q1 q2 q3 q4 q5 q6 c0 c1 c2 c3 c4 c5 c6 HT HBq;cases o with
   | none=>obtain⟨s,rfl⟩:=hE;have hOn:=Lib.hid (HCn.out rfl);go_wp2_with fail;go_ret2;rw[hOn.out];exact⟨HBx.out.trans (HB3.out.mono HBx.out.size),_,rfl⟩
   | some t=>
    subst hE;have hC2:=Lib.hid (HCs.out t rfl);have hl2:=HLk.out t rfl;clear HCs HCn HLk;obtain⟨Tt,hTt⟩: ∃x:ByteArray,Hid (x=⟨t.toArray⟩):=⟨_,Lib.hid rfl⟩;have hTs:Tt.size=t.length:=(by rw[hTt.out,←kt.size_len]);rw[←hTt.out];have HW:=Lib.hid (bld.writeString_any B B _ Tt w3 (tupw.is_below hI.out HB3.out) (by simp only[List.length_cons];omega) (by have:=HB3.out.size;omega));go_wp2_with fail;refine HW.out.mono ?_;rintro e w4 ⟨rfl,hI4,hB4⟩;have hI4:bld.Is B B (40::33::(us++t)) w4:=(by rw[hTt.out]at hI4;simpa using hI4);go_wp2_with fail;go_roundw;case rel=>exact⟨k+1,us++t,by omega,by go_num,by rw[List.length_append];omega,hC2,hI4,hBr.out.trans ((HB3.out.mono (by omega)).trans hB4)⟩
    case measure=>simp[intOf];omega
  ·obtain rfl:k=n:=(by omega);have hC5:=hC.out;rw[List.take_of_length_le (by rw[HN.out];exact Nat.le_refl _)]at hC5;have hOs:Hid (O=some (40::33::(us++[41]))):=(by show O=_;rw[←hO.out,hC5];rfl);have HX:=Lib.hid (Try.Builder_String_any B B _ wr hI.out (by omega));obtain⟨S,hS⟩: ∃x:ByteArray,Hid (x=⟨(40::33::us).toArray⟩):=⟨_,Lib.hid rfl⟩;rw[←hS.out]at HX;have hSs:S.size=us.length+2:=(by rw[hS.out,←kt.size_len];rfl);obtain⟨Z,hZ⟩: ∃Z,Z=S++(⟨#[41]⟩:ByteArray):=⟨_,rfl⟩;have hadd: ∀W,(Op.stringOp .add S ⟨#[41]⟩).run Try.prog W= .ok (.string Z) W:=fun W=>by rw[hZ];exact run_string_add_sum W _ _ (by show S.size+1≤9223372036854775807;omega)
   have HZ:Hid (Z=⟨(40::33::(us++[41])).toArray⟩):=(by refine arr_mk _ _ ?_;rw[hZ,dt_app,hS.out];rfl);clear hZ hS hC5 hC;go_wp2_with fail;refine HX.out.mono ?_;rintro e w5 ⟨rfl,hB5⟩;go_wp2_with fail;go_ret2;rw[hOs.out];exact⟨HBx.out.trans (hB5.mono (by have:=HBx.out.size;omega)),by show _=Ending.returned (.tuple #[.string ⟨(40::33::(us++[41])).toArray⟩,.bool true]);rw[←HZ.out];rfl⟩
end ftw
end Go.Proofs.Ytffkghkkobmhaaa
