/- One text out of several: SchU, OpenS, ArgsW, StrsOf, EntO, TyF. -/
import Derived.Test.YtmnpfkbjpeaemaaGreatDoorP6
import Derived.Test.YtmnpfkbjpeaemaaGreatDoorP10
import Derived.Test.YtmnpfkbjpeaemaaGreatDoorP12
import Derived.Deep.Slices
import Derived.Deep.Fields
import Derived.ChangeSame
import Derived.Test.YtmnpfkbjpeaemaaGreatDoorP1
import Derived.SliceStrings
import Derived.Deep.MidRow
import Derived.Lib.SmallJoins
import Derived.Test.YtmnpfkbjpeaemaaGreatDoorP8
import Derived.Lib.LaidU8
import Derived.Deep.Strs
set_option linter.unusedVariables false
set_option linter.unusedSimpArgs false
set_option maxRecDepth 20000
set_option maxHeartbeats 8000000
namespace Go.Proofs.YtmnpfkbjpeaemaaGreatDoor
open Go.RowKit
namespace scw
open scp atp atw etp etw
open tupw (Strs strs_below)
theorem str_dec (a b:ByteArray):(a.toList==b.toList)=decide (a=b):=by
 rw[←bs_of a,←bs_of b,bs_beq,Bool.eq_iff_iff,decide_eq_true_iff,decide_eq_true_iff];constructor
 ·intro h;rw[h]
 ·intro h;have:=congrArg (fun x:ByteArray=>x.data.toList) h;simpa[bs_data]using this
theorem vals_oc {E:En}(hr:rightE E=true):valuesE E (bs ocL).data.toList=valsA E.ats (bs ocL):=by unfold valuesE;rw[show findS (sml.lowL (bs ocL).data.toList)=some (tys[9]'(by decide))from by decide+kernel];simp only;rw[if_pos hr];rfl
theorem readyT_len (v:ByteArray):(readyT v).length≤v.size:=by
 unfold readyT;cases h:prp.readyO v.data.toList true with
 | none=>exact Nat.zero_le _
 | some o=>have:=prp.readyO_len h;rw[kt.size_len]at*;exact this
theorem mustN_len (n:T):(mustN n).length≤10:=by
 unfold mustN;cases h:idx n with
 | none=>exact Nat.zero_le _
 | some k=>exact(must_len ⟨k,idx_lt h⟩).1
theorem wrap_small {n:Int}(h0:0≤n)(h:n≤100000):IntKind.u64.wrap n=n:=by
 unfold IntKind.wrap;simp only;have e:n % 2 ^ IntKind.u64.bits=n:=Int.emod_eq_of_lt h0 (by show n<18446744073709551616;omega);rw[e];split
 ·rename_i h;rw[Bool.and_eq_true]at h;exact absurd h.1 (by decide)
 ·rfl
theorem wrap_small64 {n:Int}(h0:0≤n)(h:n≤100000):IntKind.i64.wrap n=n:=by
 unfold IntKind.wrap;simp only;have e:n % 2 ^ IntKind.i64.bits=n:=Int.emod_eq_of_lt h0 (by show n<18446744073709551616;omega);rw[e];split
 ·rename_i h2;rw[Bool.and_eq_true,decide_eq_true_iff]at h2;have h3:(9223372036854775808:Int)≤n:=h2.2;omega
 ·rfl
theorem attrB_set0 {w:World}{p:Nat}{t:ByteArray}{v:Value}(h:AttrB w p t v)(u:ByteArray):AttrB (w.setCell ⟨p,0,none⟩ (.string u)) p u v:=Joins.block_setCell h _
theorem attrB_set1 {w:World}{p:Nat}{t:ByteArray}{v:Value}(h:AttrB w p t v)(u:Value):AttrB (w.setCell ⟨p,1,none⟩ u) p t u:=Joins.block_setCell h u
theorem int_mod (k:Int)(N:Nat)(h:0<N)(hn:N≤100000): ∃r:Nat,r<N∧(IntKind.u64.wrap k).tmod (N:Int)=(r:Int):=by
 have h0:0≤IntKind.u64.wrap k:=by
  unfold IntKind.wrap;simp only;split
  ·rename_i h;rw[Bool.and_eq_true]at h;exact absurd h.1 (by decide)
  ·exact Int.emod_nonneg _ (by decide)
 have h1:(IntKind.u64.wrap k).tmod (N:Int)=(IntKind.u64.wrap k) % (N:Int):=Int.tmod_eq_emod_of_nonneg h0;have h2:=Int.emod_nonneg (IntKind.u64.wrap k) (b:=(N:Int)) (by omega);have h3:=Int.emod_lt_of_pos (IntKind.u64.wrap k) (b:=(N:Int)) (by omega);exact⟨((IntKind.u64.wrap k) % (N:Int)).toNat,by omega,by rw[h1];omega⟩
theorem sless_law (v:Value)(E:En)(k:Int)(w:World)(hv:Hid (EntV w v E))(hE:Hid (EnvE w)):
  Calls Tryz.prog 6 #[v,.int .i64 k] w fun e w'=>e= .returned (.bool true)∧Below w.heap.size w w':=by
 have HAW0:Hid (∀W,Below w.heap.size w W→Calls Tryz.prog 17 #[] W fun e w'=>e= .returned (.bool true)∧Below W.heap.size W w'):=fun W h=>sawake_any W (Lib.hid (envE_below hE.out h));have HLO0:Hid (∀W,Below w.heap.size w W→Calls Tryz.prog 18 #[v] W fun e w'=>e= .returned (.bool (longE E))∧Below W.heap.size W w'):=fun W h=>longE_any v E W (Lib.hid (entV_below hv.out h));have HCK0:Hid (longE E=false→ ∀W,Below w.heap.size w W→Calls Tryz.prog 19 #[v] W fun e w'=>e= .returned (.int .i64 (checkE E))∧Below W.heap.size W w'):=fun hl W h=>check_any v E W (Lib.hid (entV_below hv.out h)) (Lib.hid (bk_bd (longE_no hl) (by omega))) (Lib.hid (envE_below hE.out h));have HRM0:Hid (longE E=false→checkE E=0→ ∀a∈E.ats,∀W,Below w.heap.size w W→Calls Tryz.prog 30 #[v,.string a.t,.slice none 0 0] W fun e w'=> ∃v2,e= .returned (.tuple #[v2,.int .i64 0])∧EntV w' v2 ⟨E.rdn,withF a.t [] true E.ats⟩∧Below W.heap.size W w'):=by intro hl hc a ha W h;have hk:=longE_no hl;have h1:=remove_any v E a.t none 0 [] W (Lib.hid (entV_below hv.out h)) (Lib.hid ⟨hk.rl,hk.rs,by have:=hk.al;omega,hk.as_⟩) (Lib.hid fun i hi=>absurd hi (Nat.not_lt_zero i)) (Nat.zero_le _) (Nat.le_refl _) (Lib.hid fun x hx=>by cases hx) (by have:=(hk.as_ a ha).1;omega) (Lib.hid (envE_below hE.out h));rw[remove_all (check_zero hc).1 ha]at h1;exact h1.mono fun e w' ⟨hB,x,he,hx⟩=>⟨x,he,hx,hB⟩
 have HCL0:Hid (longE E=false→checkE E=0→ ∀a∈E.ats,∀v2 W,EntV W v2 ⟨E.rdn,withF a.t [] true E.ats⟩→Below w.heap.size w W→Calls Tryz.prog 19 #[v2] W fun e w'=>e= .returned (.int .i64 (lessI E a.t))∧Below W.heap.size W w'):=by intro hl hc a ha v2 W h2 h;have h1:=check_any v2 _ W (Lib.hid h2) (Lib.hid (bk_bd (bk_remove (longE_no hl) (remove_all (check_zero hc).1 ha)) (by omega))) (Lib.hid (envE_below hE.out h));rw[less_law hc ha]at h1;exact h1
 have HVA0:Hid (longE E=false→checkE E=0→ ∀W,Below w.heap.size w W→Calls Tryz.prog 31 #[v,.string (bs ocL)] W fun e w'=>ValsE (valsA E.ats (bs ocL)) W e w'):=by intro hl hc W h;have h1:=values_any v E (bs ocL) W (Lib.hid (entV_below hv.out h)) (Lib.hid (bk_bd (longE_no hl) (by omega))) (by decide) (Lib.hid (envE_below hE.out h));rw[show valuesE E (bs ocL).data.toList=valsA E.ats (bs ocL)from vals_oc (check_zero hc).1]at h1;exact h1
 have HRY0:Hid (∀ (s:ByteArray) W,s.size≤1100000→ ∃er:Int,Calls Tryz.prog 32 #[.string s,.bool true] W fun e w'=>e= .returned (.tuple #[.string (bs (readyT s)),.int .i64 er])∧Below W.heap.size W w'):=by intro s W hs;obtain⟨er,her⟩:=pairV_form (prp.readyO s.data.toList true);have:=prw.rready_any s true W hs;rw[her]at this;exact⟨er,this⟩
 have HMU0:Hid (∀ (s:ByteArray) W,(readyT s).length≤10000000→Calls Tryz.prog 27 #[.string (bs (readyT s))] W fun e w'=> ∃v,e= .returned v∧ElemAt w' v ((mustN (sml.lowL (readyT s))).map bs)∧Below W.heap.size W w'):=by intro s W hs;have:=smust_any (bs (readyT s)) W (by rw[bs_size];exact hs);rw[bs_data]at this;exact this.mono fun e w' ⟨x,he,ho,hb⟩=>⟨x,he,ownS_elem ho,hb⟩
 have HHA0:Hid (∀ (n:ByteArray) (s:ByteArray) x W,ElemAt W x ((mustN (sml.lowL (readyT s))).map bs)→Calls Tryz.prog 33 #[x,.string n] W fun e w'=>e= .returned (.bool (mustV n.data.toList s))∧Below W.heap.size W w'):=by intro n s x W hx;obtain⟨a,c,rfl,hc,hs⟩:=hx;rw[List.length_map];have:=has_in a c (mustN (sml.lowL (readyT s))) n.data.toList W (Lib.hid hs) (by have:=mustN_len (sml.lowL (readyT s));omega);rw[bs_of]at this;exact this.mono fun e w' ⟨h1,h2⟩=>⟨h1,by rw[←h2];exact Below.refl _ _⟩
 have HBK:Hid (longE E=false→Bk 30 E):=fun hl=>longE_no hl;have HVL:Hid (longE E=false→(valsA E.ats (bs ocL)).length≤100000∧ ∀x∈valsA E.ats (bs ocL),x.size≤100000):=fun hl=>vals_len (bk_bd (longE_no hl) (by omega)) _;obtain⟨ro,rc,ao,ac,Nr,N,rfl,HN,HA,hac,HNr,HAv,hrc⟩:=ent_form hv.out;obtain⟨W1,hW1⟩: ∃W,w.alloc (.cells #[.slice ro Nr rc,.slice ao N ac] 26)=W:=⟨_,rfl⟩;have hB1:Below w.heap.size w W1:=by rw[←hW1];exact(Below.refl _ _).alloc (Nat.le_refl _) _
 obtain⟨p,hp⟩: ∃p,w.heap.size=p:=⟨_,rfl⟩;have HT1:Hid (EntB W1 p (.slice ro Nr rc) (.slice ao N ac)):=by rw[←hW1,←hp];exact entB_new _ _ _
 have HB1:=Lib.hid hB1;have HAW:=Lib.hid (HAW0.out W1 hB1);clear hB1 HAW0 hv hE;generalize longE E=lg at HLO0 HCK0 HRM0 HCL0 HVA0 HBK HVL;generalize checkE E=ck at HCK0 HRM0 HCL0 HVA0;go_enter Tryz.func6,Tryz.ntmps6;go_wp2_with fail;refine HAW.out.mono ?_;rintro e w2 ⟨rfl,hB2⟩;have HB2:=Lib.hid (HB1.out.trans (hB2.mono HB1.out.size));have HT2:=Lib.hid (entB_below HT1.out hB2);clear hB2 hW1 HAW HT1 hp;obtain⟨k0,k1⟩:=entB_cells HT2.out;go_wp2_with fail;refine(HLO0.out w2 HB2.out).mono ?_;rintro e w3 ⟨rfl,hB3⟩;have HB3:=Lib.hid (HB2.out.trans (hB3.mono HB2.out.size));have HT3:=Lib.hid (entB_below HT2.out hB3);clear hB3 k0 k1 HT2 HLO0;cases lg with
 | true=>go_wp2_with fail;go_ret;exact⟨rfl,HB3.out⟩
 | false=>
  have HCK:=Lib.hid (HCK0.out rfl);have HRM1:=Lib.hid (HRM0.out rfl);have HCL1:=Lib.hid (HCL0.out rfl);have HVA1:=Lib.hid (HVA0.out rfl);have HBK1:=Lib.hid (HBK.out rfl);have HVL1:=Lib.hid (HVL.out rfl);clear HCK0 HRM0 HCL0 HVA0 HBK HVL;have hNb:N≤100:=by have:=HBK1.out.al;have:=HN.out;omega
  have hNrb:Nr≤1000:=by have:=HBK1.out.rl;have:=HNr.out;omega
  obtain⟨k0,k1⟩:=entB_cells HT3.out;go_wp2_with fail;refine(HCK.out w3 HB3.out).mono ?_;rintro e w4 ⟨rfl,hB4⟩;have HB4:=Lib.hid (HB3.out.trans (hB4.mono HB3.out.size));have HT4:=Lib.hid (entB_below HT3.out hB4);clear hB4 k0 k1 HT3 HCK;by_cases hck:ck=0
  ·have HRM2:=Lib.hid (HRM1.out hck);have HCL2:=Lib.hid (HCL1.out hck);have HVA:=Lib.hid (HVA1.out hck);subst hck;clear HRM1 HCL1 HVA1;obtain⟨k0,k1⟩:=entB_cells HT4.out;by_cases hN0:N=0
   ·have hN0I:((N:Int)==0)=true:=(by rw[hN0];rfl);go_wp2_with fail;clear k0 k1;go_ret;exact⟨rfl,HB4.out⟩
   ·have hN0I:((N:Int)==0)=false:=(by rw[beq_eq_false_iff_ne];omega);have hN0J: ¬ (N:Int)=0:=(by omega);obtain⟨r,hr,hrI⟩:=int_mod k N (by omega) (by omega);have hrl:r<E.ats.length:=(by rw[HN.out];exact hr);have hrlI:(r:Int)<(N:Int):=(by omega);obtain⟨b,o,ca,cc,hao,hc0,hc1,hcc,_⟩:=(ats_below HA.out HB4.out) r hrl;subst hao;have hmem:E.ats[r]∈E.ats:=List.getElem_mem hrl;have HRM:=Lib.hid (HRM2.out _ hmem);have HCL:=Lib.hid (HCL2.out _ hmem);obtain⟨a,ha⟩: ∃a,E.ats[r]=a:=⟨_,rfl⟩;rw[ha]at hc0 hc1 HRM HCL;generalize a.vs.length=ma at hc1;clear HRM2 HCL2 ha hmem hcc;have hwN:IntKind.u64.wrap (N:Int)=(N:Int):=wrap_small (by omega) (by omega);have hwr:IntKind.i64.wrap (r:Int)=(r:Int):=wrap_small64 (by omega) (by omega);have hlk:=World.block_lt_of_cell? w4 _ k0;have hlc:=World.block_lt_of_cell? w4 _ hc0;go_wp2_with fail;refine wp_region_held_drew (S:=fun W=>W.cell? ⟨p,0,none⟩=some (.slice ro Nr rc)∧W.cell? ⟨p,1,none⟩=some (.slice (some ⟨b,o,none⟩) N ac)∧W.cell? ⟨b,o+r*2,none⟩=some (.string a.t)∧W.cell? ⟨b,o+r*2+1,none⟩=some (.slice ca ma cc)) (by kernel_rfl) (⟨k0,k1,hc0,hc1⟩) (fun hHeld=> ?_);refine tk 0 ⟨some 30,_,_,_,_,_⟩ rfl ?_;refine tk 1 ⟨some 31,_,_,_,_,_⟩ rfl ?_;refine tk 2 ⟨some 32,_,_,_,_,_⟩ rfl ?_;refine tk 3 ⟨some 33,_,_,_,_,_⟩ rfl ?_;refine tk 4 ⟨some 34,_,_,_,_,_⟩ rfl ?_;refine tk 5 ⟨some 35,_,_,_,_,_⟩ rfl ?_;refine tk 6 ⟨some 36,_,_,_,_,_⟩ rfl ?_;refine tk 7 ⟨some 37,_,_,_,_,_⟩ rfl ?_;refine tk 8 ⟨some 38,_,_,_,_,_⟩ rfl ?_;refine tk 9 ⟨some 39,_,_,_,_,_⟩ rfl ?_;refine tk 10 ⟨some 40,_,_,_,_,_⟩ rfl ?_;refine tk 11 ⟨some 41,_,_,_,_,_⟩ rfl ?_;refine etw.tc 12 ⟨some 5,_,_,_,_,_⟩ rfl (fun K hK=> ?_);go_simp;have hAZ:Below w4.heap.size w4 (w4.alloc (.cells #[.string ⟨#[]⟩,.slice none 0 0] 43)).drew:=((Below.refl _ _).alloc (Nat.le_refl _) _).drew;have hTZ:AttrB (w4.alloc (.cells #[.string ⟨#[]⟩,.slice none 0 0] 43)).drew w4.heap.size ⟨#[]⟩ (.slice none 0 0):=attrB_new w4 _ _;refine hK.out _ _ (⟨(hAZ.cell (p:=⟨p,0,none⟩) hlk).trans (k0),(hAZ.cell (p:=⟨p,1,none⟩) hlk).trans (k1),(hAZ.cell (p:=⟨b,o+r*2,none⟩) hlc).trans (hc0),(hAZ.cell (p:=⟨b,o+r*2+1,none⟩) hlc).trans (hc1)⟩) (fun hHeld=> ?_);clear hK;obtain⟨wc,hwc⟩: ∃W,(w4.alloc (.cells #[.string ⟨#[]⟩,.slice none 0 0] 43)).drew=W:=⟨_,rfl⟩;rw[hwc]at hAZ hTZ ⊢;obtain⟨z,hz⟩: ∃z,w4.heap.size=z:=⟨_,rfl⟩;rw[hz]at hTZ ⊢;obtain⟨n0,n1⟩:=attrB_cells hTZ;have nf0:=Lib.frozen_of_heap hTZ 0;have nf1:=Lib.frozen_of_heap hTZ 1;have hT5:AttrB ((wc.setCell ⟨z,0,none⟩ (.string a.t)).setCell ⟨z,1,none⟩ (.slice ca ma cc)) z a.t (.slice ca ma cc):=attrB_set1 (attrB_set0 hTZ _) _;have hB5:Below w4.heap.size w4 ((wc.setCell ⟨z,0,none⟩ (.string a.t)).setCell ⟨z,1,none⟩ (.slice ca ma cc)):=(hAZ.setCell (by show _≤z;omega) _).setCell (by show _≤z;omega) _;try simp only[Act.put,List.setIfInBounds_toArray,List.set_cons_zero,List.set_cons_succ]
    refine etw.tc 13 ⟨none,_,_,_,_,_⟩ rfl (fun K hK=> ?_);go_simp;refine hK.out _ _ (⟨(hB5.cell (p:=⟨p,0,none⟩) hlk).trans (k0),(hB5.cell (p:=⟨p,1,none⟩) hlk).trans (k1),(hB5.cell (p:=⟨b,o+r*2,none⟩) hlc).trans (hc0),(hB5.cell (p:=⟨b,o+r*2+1,none⟩) hlc).trans (hc1)⟩) (fun hHeld=> ?_);clear hK;try simp only[Act.put,List.setIfInBounds_toArray,List.set_cons_zero,List.set_cons_succ]
    refine wpAnyH_done (by kernel_rfl) ?_ _;clear hHeld k0 k1 hc0 hc1 hlk hlc n0 n1 nf0 nf1;obtain⟨w5,hw5⟩: ∃W,(wc.setCell ⟨z,0,none⟩ (.string a.t)).setCell ⟨z,1,none⟩ (.slice ca ma cc)=W:=⟨_,rfl⟩;rw[hw5]at hT5 hB5 ⊢;have HB5:=Lib.hid (HB4.out.trans (hB5.mono HB4.out.size));have HT5:=Lib.hid (entB_below HT4.out hB5);have HA5:=Lib.hid hT5;clear hAZ hTZ hwc hz hw5 hT5 hB5;obtain⟨k0,k1⟩:=entB_cells HT5.out;obtain⟨y0,y1⟩:=attrB_cells HA5.out;go_wp2_with fail;refine(HRM.out w5 HB5.out).mono ?_;rintro e w6 ⟨v2,rfl,hv2,hB6⟩;have HB6:=Lib.hid (HB5.out.trans (hB6.mono HB5.out.size));have HT6:=Lib.hid (entB_below HT5.out hB6);have HA6:=Lib.hid (attrB_below HA5.out hB6);have HV6:=Lib.hid hv2;obtain⟨r1,n1,c1,r2,n2,c2,hva⟩:=ent_agg hv2;subst hva;clear hB6 hv2 k0 k1 y0 y1 HT5 HA5;obtain⟨W7,hW7⟩: ∃W,w6.alloc (.cells #[.slice r1 n1 c1,.slice r2 n2 c2] 26)=W:=⟨_,rfl⟩;have hB7:Below w6.heap.size w6 W7:=(by rw[←hW7];exact(Below.refl _ _).alloc (Nat.le_refl _) _);obtain⟨q,hq⟩: ∃q,w6.heap.size=q:=⟨_,rfl⟩;have HQ7:Hid (EntB W7 q (.slice r1 n1 c1) (.slice r2 n2 c2)):=(by rw[←hW7,←hq];exact entB_new _ _ _);have HB7:=Lib.hid (HB6.out.trans (hB7.mono HB6.out.size));have HT7:=Lib.hid (entB_below HT6.out hB7);have HA7:=Lib.hid (attrB_below HA6.out hB7);have HV7:=Lib.hid (entV_below HV6.out hB7);obtain⟨k0,k1⟩:=entB_cells HT7.out;clear hB7;go_wp2_with fail;clear hW7 hq;refine(HVA.out W7 HB7.out).mono ?_;rintro e w8 ⟨lv,rfl,hlv,hB8⟩;have HB8:=Lib.hid (HB7.out.trans (hB8.mono HB7.out.size));have HT8:=Lib.hid (entB_below HT7.out hB8);have HA8:=Lib.hid (attrB_below HA7.out hB8);have HQ8:=Lib.hid (entB_below HQ7.out hB8);have HV8:=Lib.hid (entV_below HV7.out hB8);obtain⟨lo,ln,lc,hlv2,hln,hlc,hls⟩:=elem_form hlv;subst hlv2;have HLS:=Lib.hid hls;have hlnb:ln≤100000:=(by rw[hln.out];exact HVL1.out.1);have HLI:Hid (lessI E a.t=if(valsA E.ats (bs ocL)).any (mustV a.t.data.toList)=true then 15 else if E.rdn.any (mineV a.t)=true then 18 else 0):=rfl;have HSZ:=Lib.hid HVL1.out.2;generalize valsA E.ats (bs ocL)=vs at HLI HSZ hln HLS;have HLN:=Lib.hid hln.out;have hln0:0≤ln:=Nat.zero_le _;clear hB8 hlv hls hln k0 k1 HVL1;go_wp2_with fail;go_loopw [8,10] (fun mv iv wr=> ∃i:Nat,i≤ln∧iv= .int .i64 (i:Int)∧mv= .bool ((vs.take i).any (mustV a.t.data.toList))∧Hid (Below w8.heap.size w8 wr)) (fun _ iv _=>ln- (intOf iv).toNat);case atStart=>exact⟨0,Nat.zero_le _,rfl,rfl,Below.refl _ _⟩
    case round=>
     obtain⟨i,hi,rfl,hmv,hB⟩:=hrel;have HBi:=Lib.hid (HB8.out.trans (hB.out.mono HB8.out.size));by_cases hlt:i<ln
     ·have hltI:(i:Int)<(ln:Int):=(by omega);have hil:i<vs.length:=(by rw[←HLN.out];exact hlt);obtain⟨b3,o3,hlo,c0⟩:=(strs_below HLS.out hB.out) i hil;subst hlo;have HTS:Hid (vs.take (i+1)=vs.take i++[vs[i]]):=(by show _=_;rw[List.take_succ_eq_append_getElem hil]);have hsz:=HSZ.out vs[i] (List.getElem_mem hil);obtain⟨x,hx⟩: ∃x,vs[i]=x:=⟨_,rfl⟩;rw[hx]at c0 HTS hsz;obtain⟨er,her⟩:=HRY0.out x wr (by omega);have HER:=Lib.hid her;have hrt:(readyT x).length≤10000000:=(by have:=readyT_len x;omega);have HAN:Hid ((vs.take (i+1)).any (mustV a.t.data.toList)=((vs.take i).any (mustV a.t.data.toList)||mustV a.t.data.toList x)):=(by show _=_;rw[HTS.out,List.any_append];simp);obtain⟨mb,hmb⟩: ∃b,(vs.take i).any (mustV a.t.data.toList)=b:=⟨_,rfl⟩;rw[hmb]at hmv HAN;subst hmv;clear hx her hmb;go_wp2_with fail;refine HER.out.mono ?_;rintro e w9 ⟨rfl,hB9⟩;have HB9:=Lib.hid (hB.out.trans (hB9.mono hB.out.size));have HA9:=Lib.hid (attrB_below HA8.out HB9.out);obtain⟨y0,y1⟩:=attrB_cells HA9.out;have hly:=World.block_lt_of_cell? w9 _ y0;have hDm:Below w9.heap.size w9 w9.drew:=(Below.refl _ _).drew;clear hB9 c0;cases mb with
      | false=>
       go_wp2_with fail;refine wp_region_held_drew (S:=fun W=>W.cell? ⟨z,0,none⟩=some (.string a.t)∧W.cell? ⟨z,1,none⟩=some (.slice ca ma cc)) (by kernel_rfl) (⟨y0,y1⟩) (fun hHeld=> ?_);refine tk 0 ⟨some 67,_,_,_,_,_⟩ rfl ?_;refine tk 1 ⟨some 68,_,_,_,_,_⟩ rfl ?_;refine tk 2 ⟨some 69,_,_,_,_,_⟩ rfl ?_;refine tk 4 ⟨some 71,_,_,_,_,_⟩ rfl ?_;refine tk 5 ⟨some 72,_,_,_,_,_⟩ rfl ?_;refine etw.tc 3 ⟨some 70,_,_,_,_,_⟩ rfl (fun K hK=> ?_);go_simp;go_at_call 27;refine(HMU0.out x _ hrt).mono ?_;rintro e wm ⟨vm,rfl,hvm,hBm⟩;refine hK.out _ _ (⟨(hBm.cell (p:=⟨z,0,none⟩) (Nat.lt_of_lt_of_le hly hDm.size)).trans ((hDm.cell (p:=⟨z,0,none⟩) hly).trans (y0)),(hBm.cell (p:=⟨z,1,none⟩) (Nat.lt_of_lt_of_le hly hDm.size)).trans ((hDm.cell (p:=⟨z,1,none⟩) hly).trans (y1))⟩) (fun hHeld=> ?_);clear hK;try simp only[Act.put,List.setIfInBounds_toArray,List.set_cons_zero,List.set_cons_succ]
       refine etw.tc 6 ⟨some 73,_,_,_,_,_⟩ rfl (fun K hK=> ?_);go_simp;go_at_call 33;refine(HHA0.out a.t x _ _ hvm).mono ?_;rintro e wh ⟨rfl,hBh⟩;have hCh:=hDm.trans (hBm.mono hDm.size);have hCh:=hCh.trans (hBh.mono hCh.size);refine hK.out _ _ (⟨(hBh.cell (p:=⟨z,0,none⟩) (Nat.lt_of_lt_of_le (Nat.lt_of_lt_of_le hly hDm.size) hBm.size)).trans ((hBm.cell (p:=⟨z,0,none⟩) (Nat.lt_of_lt_of_le hly hDm.size)).trans ((hDm.cell (p:=⟨z,0,none⟩) hly).trans (y0))),(hBh.cell (p:=⟨z,1,none⟩) (Nat.lt_of_lt_of_le (Nat.lt_of_lt_of_le hly hDm.size) hBm.size)).trans ((hBm.cell (p:=⟨z,1,none⟩) (Nat.lt_of_lt_of_le hly hDm.size)).trans ((hDm.cell (p:=⟨z,1,none⟩) hly).trans (y1)))⟩) (fun hHeld=> ?_);clear hK;try simp only[Act.put,List.setIfInBounds_toArray,List.set_cons_zero,List.set_cons_succ]
       refine tk 7 ⟨some 74,_,_,_,_,_⟩ rfl ?_;refine tk 8 ⟨some 8,_,_,_,_,_⟩ rfl ?_;refine wpAnyH_done (by kernel_rfl) ?_ _;have HBn:=Lib.hid (HB9.out.trans (hCh.mono HB9.out.size));clear hHeld y0 y1 hly;go_wp2_with fail;go_roundw;case rel=>exact⟨i+1,by omega,by go_num,by rw[HAN.out];rfl,HBn.out⟩
       case measure=>simp[intOf];omega
      | true=>
       go_wp2_with fail;refine wp_region_held_drew (S:=fun W=>W.cell? ⟨z,0,none⟩=some (.string a.t)∧W.cell? ⟨z,1,none⟩=some (.slice ca ma cc)) (by kernel_rfl) (⟨y0,y1⟩) (fun hHeld=> ?_);refine tk 0 ⟨some 67,_,_,_,_,_⟩ rfl ?_;refine tk 1 ⟨some 68,_,_,_,_,_⟩ rfl ?_;refine tu 2 ⟨some 69,_,_,_,_,_⟩ rfl ?_;refine tu 3 ⟨some 70,_,_,_,_,_⟩ rfl ?_;refine tu 4 ⟨some 71,_,_,_,_,_⟩ rfl ?_;refine tu 5 ⟨some 72,_,_,_,_,_⟩ rfl ?_;refine tu 6 ⟨some 73,_,_,_,_,_⟩ rfl ?_;refine tk 7 ⟨some 74,_,_,_,_,_⟩ rfl ?_;refine tk 8 ⟨some 8,_,_,_,_,_⟩ rfl ?_;refine wpAnyH_done (by kernel_rfl) ?_ _;have HBn:=Lib.hid (HB9.out.drew);clear hHeld y0 y1 hly;go_wp2_with fail;go_roundw;case rel=>exact⟨i+1,by omega,by go_num,by rw[HAN.out];rfl,HBn.out⟩
       case measure=>simp[intOf];omega
     ·obtain rfl:ln=i:=(by omega);have HMV:Hid (vs.any (mustV a.t.data.toList)=(vs.take ln).any (mustV a.t.data.toList)):=(by show _=_;rw[HLN.out,List.take_length]);obtain⟨mb,hmb⟩: ∃b,(vs.take ln).any (mustV a.t.data.toList)=b:=⟨_,rfl⟩;rw[hmb]at hmv HMV;subst hmv;obtain⟨w10,hw10⟩: ∃W,wr=W:=⟨_,rfl⟩;rw[hw10]at HBi hB ⊢;have HT10:=Lib.hid (entB_below HT8.out hB.out);have HA10:=Lib.hid (attrB_below HA8.out hB.out);have HQ10:=Lib.hid (entB_below HQ8.out hB.out);have HV10:=Lib.hid (entV_below HV8.out hB.out);have HB10:=HBi;have hNr0:0≤Nr:=Nat.zero_le _;clear hmb hw10 hB HBi HT8 HA8 HQ8 HV8 HB8;go_wp2_with fail;go_loopw [13,14] (fun mv iv wr=> ∃j:Nat,j≤Nr∧iv= .int .i64 (j:Int)∧mv= .bool ((E.rdn.take j).any (mineV a.t))∧Hid (Below w10.heap.size w10 wr)) (fun _ iv _=>Nr- (intOf iv).toNat);case atStart=>exact⟨0,Nat.zero_le _,rfl,rfl,Below.refl _ _⟩
      case round=>
       obtain⟨j,hj,rfl,hmv,hB⟩:=hrel;have HBi:=Lib.hid (HB10.out.trans (hB.out.mono HB10.out.size));have HTj:=Lib.hid (entB_below HT10.out hB.out);obtain⟨k0,k1⟩:=entB_cells HTj.out;by_cases hlt:j<Nr
       ·have hltI:(j:Int)<(Nr:Int):=(by omega);have hjl:j<E.rdn.length:=(by rw[HNr.out];exact hlt);obtain⟨b4,o4,hro,x0,_⟩:=(dnw.avas_below HAv.out HBi.out) j hjl;subst hro;have HTS:Hid (E.rdn.take (j+1)=E.rdn.take j++[E.rdn[j]]):=(by show _=_;rw[List.take_succ_eq_append_getElem hjl]);obtain⟨x,hx⟩: ∃x,E.rdn[j]=x:=⟨_,rfl⟩;rw[hx]at x0 HTS;have HAN:Hid ((E.rdn.take (j+1)).any (mineV a.t)=((E.rdn.take j).any (mineV a.t)||mineV a.t x)):=(by show _=_;rw[HTS.out,List.any_append];simp);obtain⟨mb2,hmb⟩: ∃b,(E.rdn.take j).any (mineV a.t)=b:=⟨_,rfl⟩;rw[hmb]at hmv HAN;subst hmv;have HAj:=Lib.hid (attrB_below HA10.out hB.out);obtain⟨y0,y1⟩:=attrB_cells HAj.out;have hly:=World.block_lt_of_cell? wr _ y0;have hlk:=World.block_lt_of_cell? wr _ k0;have hlx:=World.block_lt_of_cell? wr _ x0;have hse:(x.t.toList==a.t.toList)=mineV a.t x:=str_dec _ _;have HBn:=Lib.hid (hB.out.drew);generalize mineV a.t x=my at hse HAN;clear hx hmb;cases mb2 with
        | false=>
         go_wp2_with fail;refine wp_region_held_drew (S:=fun W=>W.cell? ⟨p,0,none⟩=some (.slice (some ⟨b4,o4,none⟩) Nr rc)∧W.cell? ⟨p,1,none⟩=some (.slice (some ⟨b,o,none⟩) N ac)∧W.cell? ⟨z,0,none⟩=some (.string a.t)∧W.cell? ⟨z,1,none⟩=some (.slice ca ma cc)∧W.cell? ⟨b4,o4+j*2,none⟩=some (.string x.t)) (by kernel_rfl) (⟨k0,k1,y0,y1,x0⟩) (fun hHeld=> ?_);refine tk 0 ⟨some 82,_,_,_,_,_⟩ rfl ?_;refine tk 1 ⟨some 83,_,_,_,_,_⟩ rfl ?_;refine tk 2 ⟨some 84,_,_,_,_,_⟩ rfl ?_;refine tk 3 ⟨some 85,_,_,_,_,_⟩ rfl ?_;refine tk 4 ⟨some 86,_,_,_,_,_⟩ rfl ?_;refine tk 5 ⟨some 87,_,_,_,_,_⟩ rfl ?_;refine tk 6 ⟨some 88,_,_,_,_,_⟩ rfl ?_;refine tk 7 ⟨some 89,_,_,_,_,_⟩ rfl ?_;refine tk 8 ⟨some 90,_,_,_,_,_⟩ rfl ?_;refine tk 9 ⟨some 91,_,_,_,_,_⟩ rfl ?_;refine tk 10 ⟨some 92,_,_,_,_,_⟩ rfl ?_;refine tk 11 ⟨some 93,_,_,_,_,_⟩ rfl ?_;refine tk 12 ⟨some 13,_,_,_,_,_⟩ rfl ?_;refine wpAnyH_done (by kernel_rfl) ?_ _;clear hHeld k0 k1 y0 y1 hly hlk hlx x0;go_wp2_with fail;go_roundw;case rel=>exact⟨j+1,by omega,by go_num,by rw[HAN.out];simp,HBn.out⟩
         case measure=>simp[intOf];omega
        | true=>
         go_wp2_with fail;refine wp_region_held_drew (S:=fun W=>W.cell? ⟨p,0,none⟩=some (.slice (some ⟨b4,o4,none⟩) Nr rc)∧W.cell? ⟨p,1,none⟩=some (.slice (some ⟨b,o,none⟩) N ac)∧W.cell? ⟨z,0,none⟩=some (.string a.t)∧W.cell? ⟨z,1,none⟩=some (.slice ca ma cc)∧W.cell? ⟨b4,o4+j*2,none⟩=some (.string x.t)) (by kernel_rfl) (⟨k0,k1,y0,y1,x0⟩) (fun hHeld=> ?_);refine tk 0 ⟨some 82,_,_,_,_,_⟩ rfl ?_;refine tk 1 ⟨some 83,_,_,_,_,_⟩ rfl ?_;refine tu 2 ⟨some 84,_,_,_,_,_⟩ rfl ?_;refine tu 3 ⟨some 85,_,_,_,_,_⟩ rfl ?_;refine tu 4 ⟨some 86,_,_,_,_,_⟩ rfl ?_;refine tu 5 ⟨some 87,_,_,_,_,_⟩ rfl ?_;refine tu 6 ⟨some 88,_,_,_,_,_⟩ rfl ?_;refine tu 7 ⟨some 89,_,_,_,_,_⟩ rfl ?_;refine tu 8 ⟨some 90,_,_,_,_,_⟩ rfl ?_;refine tu 9 ⟨some 91,_,_,_,_,_⟩ rfl ?_;refine tu 10 ⟨some 92,_,_,_,_,_⟩ rfl ?_;refine tk 11 ⟨some 93,_,_,_,_,_⟩ rfl ?_;refine tk 12 ⟨some 13,_,_,_,_,_⟩ rfl ?_;refine wpAnyH_done (by kernel_rfl) ?_ _;clear hHeld k0 k1 y0 y1 hly hlk hlx x0;go_wp2_with fail;go_roundw;case rel=>exact⟨j+1,by omega,by go_num,by rw[HAN.out];rfl,HBn.out⟩
         case measure=>simp[intOf];omega
       ·obtain rfl:Nr=j:=(by omega);have HMY:Hid (E.rdn.any (mineV a.t)=(E.rdn.take Nr).any (mineV a.t)):=(by show _=_;rw[←HNr.out,List.take_length]);obtain⟨mb2,hmb⟩: ∃b,(E.rdn.take Nr).any (mineV a.t)=b:=⟨_,rfl⟩;rw[hmb]at hmv HMY;subst hmv;rw[HMV.out,HMY.out]at HLI;have HCK2:=Lib.hid (HCL.out (.agg #[.slice r1 n1 c1,.slice r2 n2 c2]) wr (entV_below HV10.out hB.out) HBi.out);obtain⟨m0,m1⟩:=entB_cells (entB_below HQ10.out hB.out);have HBj:=HBi;clear hmb;obtain⟨li,hli⟩: ∃n,lessI E a.t=n:=⟨_,rfl⟩;rw[hli]at HLI HCK2;clear hli;cases mb with
        | true=>have hL:li=15:=HLI.out;subst hL;go_wp2_with fail;refine HCK2.out.mono ?_;rintro e w20 ⟨rfl,hB20⟩;have HBZ:=Lib.hid (HBj.out.trans (hB20.mono HBj.out.size));clear hB20;go_wp2_with fail;clear m0 m1 k0 k1;go_ret;exact⟨rfl,HBZ.out⟩
        | false=>
         cases mb2 with
         | true=>have hL:li=18:=HLI.out;subst hL;go_wp2_with fail;refine HCK2.out.mono ?_;rintro e w20 ⟨rfl,hB20⟩;have HBZ:=Lib.hid (HBj.out.trans (hB20.mono HBj.out.size));clear hB20;go_wp2_with fail;clear m0 m1 k0 k1;go_ret;exact⟨rfl,HBZ.out⟩
         | false=>have hL:li=0:=HLI.out;subst hL;go_wp2_with fail;refine HCK2.out.mono ?_;rintro e w20 ⟨rfl,hB20⟩;have HBZ:=Lib.hid (HBj.out.trans (hB20.mono HBj.out.size));clear hB20;go_wp2_with fail;clear m0 m1 k0 k1;go_ret;exact⟨rfl,HBZ.out⟩
  ·have hckI:(ck !=0)=true:=(by rw[bne_iff_ne];exact hck);clear hck;go_wp2_with fail;go_ret;exact⟨rfl,HB4.out⟩
end scw
open Go.RowKit Go.ChangeShapes Go.WideShapes Go.Deep
namespace opn
theorem cell_spot {w:World}{b o:Nat}{sp:Option Nat}{v:Value}(h:w.cell? ⟨b,o,sp⟩=some v):sp=none:=by
 cases sp with
 | none=>rfl
 | some x=>unfold World.cell? at h;simp at h;split at h<;>cases h
theorem list_of {α:Type}{Q:Nat→α→Prop}: ∀ (n:Nat),(∀i,i<n→ ∃c,Q i c)→ ∃l:List α,l.length=n∧ ∀i (h:i<l.length),Q i l[i]:=by
 intro n;induction n with
 | zero=>intro _;exact⟨[],rfl,fun i h=>by simp at h⟩
 | succ n ih=>
  intro h;obtain⟨l,hl,hq⟩:=ih (fun i hi=>h i (by omega));obtain⟨c,hc⟩:=h n (by omega);refine⟨l++[c],by simp[hl],fun i hi=> ?_⟩;by_cases e:i<l.length
  ·rw[List.getElem_append_left e];exact hq i e
  ·have:i=n:=(by simp at hi;omega);subst this;rw[List.getElem_append_right (by omega)];simpa using hc
section
variable {H : Type} {enc : TypeId × Value → H} {P : Program} {w : World} {base : Nat} {spare : Nat → Bool} {held : Bool}
theorem open_slice_fields {t e:TypeId}{fs:Array Field}{fuel:Nat}{cs:List Value}{x:DataW H × List MemPlace}(ht:P.underlying t=some (.slice e))(he:P.underlying e=some (.struct fs))
  (hone:oneCellFields P fs=true) (hC:P.cellsOf e=fs.size) (h:DataW.trod enc P w base spare held fuel t cs=some x):
  (cs=[.slice none 0 0]∧x=(.nil,[]))∨
  ∃ (a:Addr) (len cap m:Nat) (D:Nat→DataW H) (Pl:Nat→List MemPlace),cs=[.slice (some a) len cap]∧base≤a.block∧len≤cap∧cap≤maxLen∧m=(if spare a.block then cap else len)∧
   x=(.slice ((List.range len).map D) ((List.range (m-len)).map fun j=>D (len+j)),MemPlace.row a (m*fs.size)++(List.range m).flatMap Pl)∧
   ∀i,i<m→ ∃ (ys:List (DataW H × List MemPlace)) (n:Nat),D i= .agg (ys.map (·.1))∧Pl i=ys.flatMap (·.2)∧ys.length=fs.size∧
    ∀ (j:Nat) (f:Field),fs[j]? =some f→ ∃ (v:Value) (y:DataW H × List MemPlace),w.cell? (a.add (i*fs.size+j))=some v∧ys[j]? =some y∧DataW.trod enc P w base spare held n f.type [v]=some y:=by
 rcases open_slice ht h with h0 | ⟨a,len,cap,m,n,D,Pl,hcs,hb,hl,hm,hmm,hx,hi⟩
 ·exact .inl h0
 ·refine .inr ⟨a,len,cap,m,D,Pl,hcs,hb,hl,hm,hmm,by rw[hC]at hx;exact hx,fun i him=> ?_⟩;obtain⟨cs',hc,ht'⟩:=hi i him;rw[hC]at hc;obtain⟨ys,n',hn',hy,hlen,hyl,hf⟩:=DataW.trod_struct he ht';obtain⟨_,hcl,hat⟩:=World.cells?_some hc;simp only[Prod.mk.injEq]at hy;refine⟨ys,n',hy.1,hy.2,hyl,fun j f hj=> ?_⟩;obtain⟨ho,hk⟩:=hone_of hone j f hj;have hjl:j<fs.size:=(Array.getElem?_eq_some_iff.1 hj).1;have hcell:=hat j hjl;have hv:cs'[j]? =some (cs'[j]'(by omega)):=List.getElem?_eq_getElem (by omega);have h1:=hf j f hj;rw[ho,hk]at h1;have hone':(cs'.drop j).take 1=[cs'[j]'(by omega)]:=by rw[List.drop_eq_getElem_cons (by omega)];rfl
  rw[hone']at h1;have hys:ys[j]? =some (ys[j]'(by omega)):=List.getElem?_eq_getElem (by omega);refine⟨_,_,?_,hys,h1.trans hys⟩;rw[←Go.Deep.add_add,hcell,hv]
end
end opn
open Go.RowKit Go.ChangeShapes Go.WideShapes Go.Deep
namespace dnw
theorem avas_of {H:Type}{enc:TypeId × Value→H}{w:World}{base:Nat}{sp:Nat→Bool}{held:Bool}{cs:List Value}{x:DataW H × List MemPlace}{fuel:Nat}
  (h:DataW.trod enc Tryz.prog w base sp held fuel 23 cs=some x): ∃ (ao:Option Addr) (l:List Av) (cap:Nat),cs=[.slice ao l.length cap]∧l.length≤cap∧l.length≤9223372036854775807∧Avas w ao l:=by
 rcases opn.open_slice_fields Tryz.underlying23 Tryz.underlying51 (by kernel_rfl) (by kernel_rfl) h with⟨hcs,_⟩ | ⟨a,len,cap,m,D,Pl,hcs,_,hlc,hcm,hm,_,hf⟩
 ·exact⟨none,[],0,hcs,Nat.le_refl _,by simp,fun i hi=>by simp at hi⟩
 ·have hlm:len≤m:=by rw[hm];split<;>omega
  have hlmax:len≤9223372036854775807:=by unfold maxLen at hcm;omega
  have key: ∀i,i<len→ ∃c:Av,∃b o,some a=some ⟨b,o,none⟩∧w.cell? ⟨b,o+i*2,none⟩=some (.string c.t)∧w.cell? ⟨b,o+i*2+1,none⟩=some (.string c.v):=by
   intro i hi;obtain⟨ys,n,_,_,_,hfs⟩:=hf i (by omega);obtain⟨v0,y0,c0,_,t0⟩:=hfs 0 _ rfl;obtain⟨v1,y1,c1,_,t1⟩:=hfs 1 _ rfl;obtain⟨k,e0,_⟩:=DataW.trod_string Tryz.underlying9 t0;obtain⟨y,e1,_⟩:=DataW.trod_string Tryz.underlying9 t1;simp only[List.cons.injEq,and_true]at e0 e1;subst e0 e1;have hcell: ∃b o,a=⟨b,o,none⟩:=(by obtain⟨ys0,n0,_,_,_,hfs0⟩:=hf 0 (by omega);obtain⟨v,y,c,_,_⟩:=hfs0 0 _ rfl;obtain⟨b,o,s⟩:=a;have e0:(⟨b,o,s⟩:Addr).add (0*2+0)=⟨b,o,s⟩:=(by unfold Addr.add;rfl);have hc:w.cell? ((⟨b,o,s⟩:Addr).add (0*2+0))=some v:=c;rw[e0]at hc;obtain rfl:=opn.cell_spot hc;exact⟨b,o,rfl⟩);obtain⟨b,o',rfl⟩:=hcell;have ad: ∀j,(⟨b,o',none⟩:Addr).add j=⟨b,o'+j,none⟩:=fun j=>by rw[Addr.add_mid]
   have d0:w.cell? ((⟨b,o',none⟩:Addr).add (i*2+0))=_:=c0;have d1:w.cell? ((⟨b,o',none⟩:Addr).add (i*2+1))=_:=c1;rw[ad]at d0 d1;exact⟨⟨k,y⟩,b,o',rfl,d0,by rw[Nat.add_assoc];exact d1⟩
  obtain⟨l,hl,hq⟩:=opn.list_of len key;subst hl;exact⟨some a,l,cap,hcs,hlc,hlmax,hq⟩
end dnw
open Go.RowKit
namespace tupo
open tupw
theorem cell_spot {w:World}{b o:Nat}{sp:Option Nat}{v:Value}(h:w.cell? ⟨b,o,sp⟩=some v):sp=none:=by
 cases sp with
 | none=>rfl
 | some x=>unfold World.cell? at h;simp at h;split at h<;>cases h
theorem texts_of {H:Type}{enc:TypeId × Value→H}{P:Program}{w:World}{base:Nat}{sp:Nat→Bool}{held:Bool}{t e:TypeId}{d:DataW H}{p:List MemPlace}{ao:Option Addr}{len cap:Nat}
  (ht:P.underlying t=some (.slice e)) (he:P.underlying e=some .string) (hc:P.cellsOf e=1)
  (h: ∃fuel,DataW.trod enc P w base sp held fuel t [.slice ao len cap]=some (d,p)): ∃l:List ByteArray,len=l.length∧Strs w ao l∧(∀s∈l,s.size≤maxLen)∧len≤maxLen∧len≤cap∧(ao=none→len=0∧cap=0):=by
 obtain⟨fuel,h⟩:=h;rcases ChangeShapes.open_strings ht he hc h with⟨hcs,_⟩ | ⟨a,len',cap',ss,hcs,_,hlc,hcm,hlen,_,hcell,hsm⟩
 ·simp at hcs;obtain⟨rfl,rfl,rfl⟩:=hcs;exact⟨[],rfl,fun i hi=>by simp at hi,fun s hs=>by simp at hs,by omega,by omega,fun _=>⟨rfl,rfl⟩⟩
 ·simp at hcs;obtain⟨rfl,rfl,rfl⟩:=hcs;have hle:len≤ss.length:=by rw[hlen];split<;>omega
  refine⟨ss.take len,by simp;omega,fun i hi=> ?_,fun s hs=>hsm s (List.mem_of_mem_take hs),by omega,hlc,fun e=>by simp at e⟩;have hi':i<len:=by simp at hi;omega
  have hc2:=hcell i (by omega);obtain⟨b,o,spt⟩:=a;have hsp:spt=none:=by
   cases spt with
   | none=>rfl
   | some x=>exfalso;have hz:=hcell 0 (by omega);have e0:(⟨b,o,some x⟩:Addr).add 0=⟨b,o,some x⟩:=(by unfold Addr.add;rfl);rw[e0]at hz;exact absurd (cell_spot hz) (by simp)
  subst hsp;refine⟨b,o,rfl,?_⟩;rw[Addr.add_mid]at hc2;rw[hc2,List.getElem_take];simp[List.getD,List.getElem?_eq_getElem (show i<ss.length by omega)]
end tupo
open Go.RowKit Go.ChangeShapes Go.WideShapes Go.Deep
namespace etw
open etp
open dnw (Av Avas)
open tupw (Strs)
theorem strs_any {H:Type}{enc:TypeId × Value→H}{w:World}{base:Nat}{sp:Nat→Bool}{held:Bool}{cs:List Value}{x:DataW H × List MemPlace}{fuel:Nat}
  (h:DataW.trod enc Tryz.prog w base sp held fuel 35 cs=some x): ∃ (ao:Option Addr) (l:List ByteArray) (cap:Nat),cs=[.slice ao l.length cap]∧l.length≤cap∧l.length≤9223372036854775807∧Strs w ao l:=by
 obtain⟨ao,len,cap,hcs⟩: ∃ao len cap,cs=[.slice ao len cap]:=by
  rcases ChangeShapes.open_strings Tryz.underlying35 Tryz.underlying9 (by kernel_rfl) h with⟨hcs,_⟩ | ⟨a,len',cap',ss,hcs,_⟩
  ·exact⟨_,_,_,hcs⟩
  ·exact⟨_,_,_,hcs⟩
 subst hcs;obtain⟨d,p⟩:=x;obtain⟨l,hlen,hS,_,hm,hc,_⟩:=tupo.texts_of Tryz.underlying35 Tryz.underlying9 (by kernel_rfl) ⟨fuel,h⟩;subst hlen;unfold maxLen at hm;exact⟨ao,l,cap,rfl,hc,by omega,hS⟩
theorem ats_of {H:Type}{enc:TypeId × Value→H}{w:World}{base:Nat}{sp:Nat→Bool}{held:Bool}{cs:List Value}{x:DataW H × List MemPlace}{fuel:Nat}
  (h:DataW.trod enc Tryz.prog w base sp held fuel 24 cs=some x): ∃ (ao:Option Addr) (l:List At) (cap:Nat),cs=[.slice ao l.length cap]∧l.length≤cap∧l.length≤9223372036854775807∧Ats w ao l∧ ∀a∈l,a.vs.length≤9223372036854775807:=by
 rcases opn.open_slice_fields Tryz.underlying24 Tryz.underlying43 (by kernel_rfl) (by kernel_rfl) h with⟨hcs,_⟩ | ⟨a,len,cap,m,D,Pl,hcs,_,hlc,hcm,hm,_,hf⟩
 ·exact⟨none,[],0,hcs,Nat.le_refl _,by simp,fun i hi=>by simp at hi,fun a ha=>by simp at ha⟩
 ·have hlm:len≤m:=by rw[hm];split<;>omega
  have hlmax:len≤9223372036854775807:=by unfold maxLen at hcm;omega
  have key: ∀i,i<len→ ∃c:At,(∃b o ax cx,some a=some ⟨b,o,none⟩∧w.cell? ⟨b,o+i*2,none⟩=some (.string c.t)∧w.cell? ⟨b,o+i*2+1,none⟩=some (.slice ax c.vs.length cx)∧c.vs.length≤cx∧Strs w ax c.vs)∧c.vs.length≤9223372036854775807:=by
   intro i hi;obtain⟨ys,n,_,_,_,hfs⟩:=hf i (by omega);obtain⟨v0,y0,c0,_,t0⟩:=hfs 0 _ rfl;obtain⟨v1,y1,c1,_,t1⟩:=hfs 1 _ rfl;obtain⟨k,e0,_⟩:=DataW.trod_string Tryz.underlying9 t0;obtain⟨ax,vs,cx,e1,g1,g2,g3⟩:=strs_any t1;simp only[List.cons.injEq,and_true]at e0 e1;subst e0 e1;have hcell: ∃b o,a=⟨b,o,none⟩:=(by obtain⟨ys0,n0,_,_,_,hfs0⟩:=hf 0 (by omega);obtain⟨v,y,c,_,_⟩:=hfs0 0 _ rfl;obtain⟨b,o,s⟩:=a;have e0:(⟨b,o,s⟩:Addr).add (0*2+0)=⟨b,o,s⟩:=(by unfold Addr.add;rfl);have hc:w.cell? ((⟨b,o,s⟩:Addr).add (0*2+0))=some v:=c;rw[e0]at hc;obtain rfl:=opn.cell_spot hc;exact⟨b,o,rfl⟩);obtain⟨b,o',rfl⟩:=hcell;have ad: ∀j,(⟨b,o',none⟩:Addr).add j=⟨b,o'+j,none⟩:=fun j=>by rw[Addr.add_mid]
   have d0:w.cell? ((⟨b,o',none⟩:Addr).add (i*2+0))=_:=c0;have d1:w.cell? ((⟨b,o',none⟩:Addr).add (i*2+1))=_:=c1;rw[ad]at d0 d1;exact⟨⟨k,vs⟩,⟨b,o',ax,cx,rfl,d0,by rw[Nat.add_assoc];exact d1,g1,g3⟩,g2⟩
  obtain⟨l,hl,hq⟩:=opn.list_of len key;subst hl;refine⟨some a,l,cap,hcs,hlc,hlmax,fun i hi=>(hq i hi).1,fun c hc=> ?_⟩;obtain⟨i,hi,rfl⟩:=List.mem_iff_getElem.1 hc;exact(hq i hi).2
theorem ent_of {H:Type}{enc:TypeId × Value→H}{w:World}{base:Nat}{sp:Nat→Bool}{held:Bool}{r:Reach}{b0:Nat}{v:Value}{d:DataW H}{p:List MemPlace}
  (hv:Value.okWide Tryz.prog w r b0 26 v) (h:DataW.Trod enc Tryz.prog w base sp held 26 v d p): ∃e:En,EntV w v e∧e.rdn.length≤9223372036854775807∧e.ats.length≤9223372036854775807∧ ∀a∈e.ats,a.vs.length≤9223372036854775807:=by
 obtain⟨v0,v1,y0,y1,n,rfl,_,_,h0,h1⟩:=Joins.open_agg2 Tryz.underlying26 (by kernel_rfl) (by kernel_rfl) hv h;obtain⟨ro,l,rc,e0,g0,g1,g2⟩:=dnw.avas_of h0;obtain⟨ao,m,ac,e1,k0,k1,k2,k3⟩:=ats_of h1;simp only[List.cons.injEq,and_true]at e0 e1;subst e0 e1;exact⟨⟨l,m⟩,⟨ro,rc,ao,ac,rfl,g0,k0,g2,k2⟩,g1,k1,k3⟩
end etw
open Go.RowKit
namespace atw
open atp
def tyData:DataW Unit:= .agg (tys.map fun t=> .agg [.lit (.string t.name),.lit (.int .i64 t.syn),.lit (.bool t.single)])
theorem rows_take {α β:Type}(f:β→List α)(n:Nat): ∀ (l:List β) (cs:List α),(∀i (h:i<l.length),(cs.drop (i*n)).take n=f l[i])→cs.take (l.length*n)=l.flatMap f:=by
 intro l;induction l with
 | nil=>intro cs _;simp
 | cons b r ih=>intro cs h;have h0:=h 0 (by simp);rw[Nat.zero_mul,List.drop_zero]at h0;have h1:=ih (cs.drop n) (by intro i hi;have:=h (i+1) (by simp;omega);rw[List.drop_drop,show n+i*n=(i+1)*n by rw[Nat.add_mul,Nat.one_mul,Nat.add_comm]];exact this);rw[List.flatMap_cons,List.length_cons,show(r.length+1)*n=n+r.length*n by rw[Nat.add_mul,Nat.one_mul,Nat.add_comm],List.take_add,h0,h1];rfl
theorem trod_ty {H:Type}{enc:TypeId × Value→H}{w:World}{base:Nat}{sp:Nat→Bool}{held:Bool}{fuel:Nat}{cs:List Value}{q:List MemPlace}{t:Ty}
  (h:DataW.trod enc Tryz.prog w base sp held fuel 108 cs=some (.agg [.lit (.string t.name),.lit (.int .i64 t.syn),.lit (.bool t.single)],q)):cs=tval t:=by
 obtain⟨y0,y1,y2,n,hx,hl,h0,h1,h2⟩:=Deep.trod_struct3 Tryz.underlying108 h;obtain⟨s,e0,rfl,_⟩:=DataW.trod_string Tryz.underlying9 h0;obtain⟨z,e1,rfl,_⟩:=DataW.trod_int Tryz.underlying3 h1;obtain⟨b,e2,rfl⟩:=DataW.trod_bool Tryz.underlying4 h2;have hx1:=congrArg Prod.fst hx;simp only[DataW.agg.injEq,List.cons.injEq,DataW.lit.injEq,Lit.string.injEq,Lit.int.injEq,Lit.bool.injEq,true_and,and_true]at hx1;obtain⟨x0,x1,x2⟩:=hx1;have k0:Tryz.prog.cellsOf 9=1:=by kernel_rfl
 have k1:Tryz.prog.cellsOf 3=1:=by kernel_rfl
 have k2:Tryz.prog.cellsOf 4=1:=by kernel_rfl
 have k3:Tryz.prog.cellsOf 108=3:=by kernel_rfl
 rw[k3]at hl;obtain⟨a,b',c,rfl⟩: ∃a b' c,cs=[a,b',c]:=by
  match cs,hl with
  | [a,b',c],_=>exact⟨a,b',c,rfl⟩
 ·skip
  have e0':[a]=[Value.string s]:=by simpa[k0]using e0
  have e1':[b']=[Value.int .i64 z]:=by simpa[k1]using e1
  have e2':[c]=[Value.bool b]:=by simpa[k2]using e2
  cases e0';cases e1';cases e2';unfold tval bs;rw[x0,x1,x2]
theorem tyEnv_of_reads {w:World}(h:Lib.VarReads Tryz.prog w "rollbook/attr.types" tyData):Hid (TyEnv w):=by
 obtain⟨g,t,cs,fuel,p,hg,hty,hvar,hd⟩:=h;obtain rfl:=Option.some.inj ((show Tryz.prog.globalNamed "rollbook/attr.types" =some 0 by kernel_rfl).symm.trans hg);obtain rfl:=Option.some.inj ((show(Tryz.prog.globals[0]?).map (·.type)=some 169 by kernel_rfl).symm.trans hty);have k3:Tryz.prog.cellsOf 108=3:=by kernel_rfl
 have hall:=rows_take tval 3 tys cs.toList (by intro i hi;obtain⟨fuel',d,q,hdi,he⟩:=Lib.array_elem Tryz.underlying169 hd i hi;rw[List.getElem?_map,List.getElem?_eq_getElem hi]at hdi;simp only[Option.map_some,Option.some.injEq]at hdi;subst hdi;rw[k3]at he;exact trod_ty he);intro j v hj;have hlt:j<60:=by
  have h1:=(List.getElem?_eq_some_iff.1 hj).1;have h2:tcells.length=60:=by kernel_rfl
  omega
 have hj2:(cs.toList.take (tys.length*3))[j]? =some v:=by rw[hall];exact hj
 rw[List.getElem?_take,if_pos (by rw[tys_len];omega)]at hj2;rw[Nat.zero_add,World.var?_cell hg hvar j,←Array.getElem?_toList];exact hj2
end atw
end Go.Proofs.YtmnpfkbjpeaemaaGreatDoor
