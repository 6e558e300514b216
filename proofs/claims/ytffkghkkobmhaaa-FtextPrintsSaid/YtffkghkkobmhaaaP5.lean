/- One text out of several: FtRb, FtX, FtY, FtQ, FilU. -/
import Derived.Test.YtffkghkkobmhaaaP1
import Derived.Test.YtffkghkkobmhaaaP4
set_option linter.unusedVariables false
set_option linter.unusedSimpArgs false
set_option maxRecDepth 20000
set_option maxHeartbeats 8000000
namespace Go.Proofs.Ytffkghkkobmhaaa
open Go.RowKit
namespace ftw
open ftp flp flw
open tupw (Strs strs_below)
theorem attr_one {F:Fl}(h:oneF F=true)(hk: ¬ (F.kind=0∨F.kind=1∨F.kind=2)): ¬F.attr.size=0:=by
 have h2:attrOK F=true:=by
  unfold oneF at h;rw[if_neg (by omega),if_neg (by omega)]at h;split at h
  ·simp only[Bool.and_eq_true]at h;exact h.1.1
  ·split at h
   ·simp only[Bool.and_eq_true]at h;exact h.1.1.1.1
   ·split at h
    ·simp only[Bool.and_eq_true]at h;exact h.1.1.1
    ·cases h
 unfold attrOK at h2;simp only[Bool.and_eq_true]at h2;exact fun e=>by have:=of_decide_eq_true h2.1;omega
theorem leaf_kind2 {F:Fl}(h:oneF F=true)(hk: ¬ (F.kind=0∨F.kind=1∨F.kind=2)):F.kind=3∨F.kind=4∨F.kind=5∨F.kind=6∨F.kind=7∨F.kind=8:=by
 rcases leaf_shape h hk with⟨a,v,k,hk2,rfl⟩ | ⟨a,rfl⟩ | ⟨a,p,m,z,rfl,_⟩
 ·show k=3∨k=4∨k=5∨k=6∨k=7∨k=8;omega
 ·exact Or.inr (Or.inr (Or.inr (Or.inr (Or.inl rfl))))
 ·exact Or.inr (Or.inl rfl)
theorem rtext_0 (d:Nat)(ks:List Fl)(s1 s2 s3 s5:ByteArray)(x:Value)(ka:Option Addr)(kc:Nat)(w:World)(hK:Hid (KidsX w ka ks))(hn:ks.length≤1000)
  (IH:Hid (∀k∈ks,∀v W,FlX W v k→Calls Try.prog 14 #[v] W (TextE (textF d k) W))) (hL:Hid (∀k∈ks,∀t,textF d k=some t→t.length≤1000000000)):
  Calls Try.prog 14 #[.agg #[.int .i64 0,.string s1,.string s2,.string s3,x,.string s5,.slice ka ks.length kc]] w (TextE ((catO (ks.map (textF d))).map fun t=>40::38::(t++[41])) w):=by
 obtain⟨O,hO⟩: ∃O,Hid (((catO (ks.map (textF d))).map fun t=>40::38::(t++[41]))=O):=⟨_,Lib.hid rfl⟩;rw[hO.out];obtain⟨n,hnn⟩: ∃n,ks.length=n:=⟨_,rfl⟩;have HN:=Lib.hid hnn;rw[hnn]at hn ⊢;clear hnn;have HR:Hid (R7 (w.alloc (.cells #[.int .i64 0,.string s1,.string s2,.string s3,x,.string s5,.slice ka n kc] 25)) w.heap.size (.int .i64 0) (.string s1) (.string s2) (.string s3) x (.string s5) (.slice ka n kc)):=r7_new _ _ _ _ _ _ _ _;have HB:Hid (Below w.heap.size w (w.alloc (.cells #[.int .i64 0,.string s1,.string s2,.string s3,x,.string s5,.slice ka n kc] 25))):=(Below.refl _ _).alloc (Nat.le_refl _) _;obtain⟨w1,hw1⟩: ∃W,w.alloc (.cells #[.int .i64 0,.string s1,.string s2,.string s3,x,.string s5,.slice ka n kc] 25)=W:=⟨_,rfl⟩;rw[hw1]at HR HB;obtain⟨p,hp⟩: ∃p,w.heap.size=p:=⟨_,rfl⟩;have HRp:Hid (R7 w1 p (.int .i64 0) (.string s1) (.string s2) (.string s3) x (.string s5) (.slice ka n kc)):=by rw[←hp];exact HR
 clear HR;obtain⟨k0,k1,k2,k3,k4,k5,k6⟩:=r7_cells HRp.out;have hBo:Below w1.heap.size w1 (w1.alloc (.cells #[.string ⟨#[38]⟩,.string ⟨#[124]⟩,.string ⟨#[33]⟩] 9)):=(Below.refl _ _).alloc (Nat.le_refl _) _;obtain⟨l0,l1,l2,l3,l4,l5,l6⟩:=r7_cells (r7_below HRp.out hBo);have hch:(w1.alloc (.cells #[.string ⟨#[38]⟩,.string ⟨#[124]⟩,.string ⟨#[33]⟩] 9)).cell? ⟨w1.heap.size,0,none⟩=some (.string ⟨#[38]⟩):=by rw[World.cell?_alloc_new];rfl
 have HRo:=Lib.hid (r7_below HRp.out hBo);have HBo:Hid (Below w.heap.size w (w1.alloc (.cells #[.string ⟨#[38]⟩,.string ⟨#[124]⟩,.string ⟨#[33]⟩] 9))):=HB.out.trans (hBo.mono HB.out.size);clear hBo;go_enter Try.func14,Try.ntmps14;go_wp2_with fail;obtain⟨w2,hw2⟩: ∃W,w1.alloc (.cells #[.string ⟨#[38]⟩,.string ⟨#[124]⟩,.string ⟨#[33]⟩] 9)=W:=⟨_,rfl⟩;rw[hw2]at HRo HBo ⊢;clear k0 k1 k2 k3 k4 k5 k6 l0 l1 l2 l3 l4 l5 l6 hch hw2 HB HRp hw1 hp;go_loopw [4,5] (fun sv iv wr=> ∃ (k:Nat) (us:T) (S:ByteArray),k≤n∧sv= .string S∧iv= .int .i64 (k:Int)∧us.length≤k*1000000000∧Hid (S.data.toList=40::38::us)∧Hid (catO ((ks.take k).map (textF d))=some us)∧Hid (Below w2.heap.size w2 wr)) (fun _ iv _=>n- (intOf iv).toNat);case atStart=>exact⟨0,[],_,Nat.zero_le _,rfl,rfl,Nat.zero_le _,rfl,rfl,Below.refl _ _⟩
 case round=>
  obtain⟨k,us,S,hk,rfl,rfl,hus,hSd,hC,hBr⟩:=hrel;have hSs:S.size=us.length+2:=by rw[←kt.size_len,hSd.out];rfl
  have HBx:Hid (Below w.heap.size w wr):=HBo.out.trans (hBr.out.mono HBo.out.size);obtain⟨k0,k1,k2,k3,k4,k5,k6⟩:=r7_cells (r7_below HRo.out hBr.out);by_cases hlt:k<n
  ·have hltI:(k:Int)<(n:Int):=(by omega);have hkl:k<ks.length:=(by rw[HN.out];exact hlt);obtain⟨b,o,xa,xc,kb,kcc,hao,hcf,hfx⟩:=kidsX_at (kidsX_below hK.out HBx.out) k hkl;subst hao;have c0:=hcf.c0;have c1:=hcf.c1;have c2:=hcf.c2;have c3:=hcf.c3;have c4:=hcf.c4;have c5:=hcf.c5;have c6:=hcf.c6;have hmem:ks[k]∈ks:=List.getElem_mem hkl;have hIH:=IH.out ks[k] hmem;have hLk:=hL.out ks[k] hmem;have HCs: ∀t,textF d ks[k]=some t→catO ((ks.take (k+1)).map (textF d))=some (us++t):=(by intro t ht;rw[List.take_succ_eq_append_getElem hkl,List.map_append,List.map_singleton,ht,catO_snoc,hC.out];rfl);have HCn:textF d ks[k]=none→O=none:=(by intro h;rw[←hO.out,catO_none (List.mem_map.2 ⟨ks[k],hmem,h⟩)];rfl);generalize ks[k]=F at c0 c1 c2 c3 c4 c5 c6 hIH hLk HCs HCn hfx;have HT:=Lib.hid (hIH _ _ hfx);unfold flV at HT;generalize textF d F=o at HT hLk HCs HCn;have HLk:=Lib.hid hLk;have HCs:=Lib.hid HCs;have HCn:=Lib.hid HCn;clear hIH hLk hfx hcf hmem;go_wp2_with fail;refine HT.out.mono ?_;rintro e w3 ⟨hB3,hE⟩;have HB3:=Lib.hid hB3;clear hB3 k0 k1 k2 k3 k4 k5 k6 c0 c1 c2 c3 c4 c5 c6 HT;cases o with
   | none=>obtain⟨s,rfl⟩:=hE;have hOn:=Lib.hid (HCn.out rfl);go_wp2_with fail;go_ret2;rw[hOn.out];exact⟨HBx.out.trans (HB3.out.mono HBx.out.size),_,rfl⟩
   | some t=>
    subst hE;have hC2:=Lib.hid (HCs.out t rfl);have hl2:=HLk.out t rfl;clear HCs HCn HLk;obtain⟨Tt,hTt⟩: ∃x:ByteArray,Hid (x=⟨t.toArray⟩):=⟨_,Lib.hid rfl⟩;have hTs:Tt.size=t.length:=(by rw[hTt.out,←kt.size_len]);rw[←hTt.out];obtain⟨S2,hS2⟩: ∃x,x=S++Tt:=⟨_,rfl⟩;have hadd: ∀W,(Op.stringOp .add S Tt).run Try.prog W= .ok (.string S2) W:=fun W=>by rw[hS2];exact run_string_add_sum W _ _ (by omega)
    have HS2:Hid (S2.data.toList=40::38::(us++t)):=(by show _=_;rw[hS2,dt_app,hSd.out,hTt.out];rfl);clear hS2;go_wp2_with fail;go_roundw;case rel=>exact⟨k+1,us++t,S2,by omega,rfl,by go_num,by rw[List.length_append];omega,HS2,hC2,hBr.out.trans (HB3.out.mono hBr.out.size)⟩
    case measure=>simp[intOf];omega
  ·obtain rfl:k=n:=(by omega);have hC5:=hC.out;rw[List.take_of_length_le (by rw[HN.out];exact Nat.le_refl _)]at hC5;have hOs:Hid (O=some (40::38::(us++[41]))):=(by show O=_;rw[←hO.out,hC5];rfl);obtain⟨Z,hZ⟩: ∃Z,Z=S++(⟨#[41]⟩:ByteArray):=⟨_,rfl⟩;have hadd: ∀W,(Op.stringOp .add S ⟨#[41]⟩).run Try.prog W= .ok (.string Z) W:=fun W=>by rw[hZ];exact run_string_add_sum W _ _ (by show S.size+1≤9223372036854775807;omega)
   have HZ:Hid (Z=⟨(40::38::(us++[41])).toArray⟩):=(by refine arr_mk _ _ ?_;rw[hZ,dt_app,hSd.out];rfl);clear hZ hC5 hC;go_wp2_with fail;go_ret2;rw[hOs.out];exact⟨HBx.out,by show _=Ending.returned (.tuple #[.string ⟨(40::38::(us++[41])).toArray⟩,.bool true]);rw[←HZ.out];rfl⟩
theorem rtext_1 (d:Nat)(ks:List Fl)(s1 s2 s3 s5:ByteArray)(x:Value)(ka:Option Addr)(kc:Nat)(w:World)(hK:Hid (KidsX w ka ks))(hn:ks.length≤1000)
  (IH:Hid (∀k∈ks,∀v W,FlX W v k→Calls Try.prog 14 #[v] W (TextE (textF d k) W))) (hL:Hid (∀k∈ks,∀t,textF d k=some t→t.length≤1000000000)):
  Calls Try.prog 14 #[.agg #[.int .i64 1,.string s1,.string s2,.string s3,x,.string s5,.slice ka ks.length kc]] w (TextE ((catO (ks.map (textF d))).map fun t=>40::124::(t++[41])) w):=by
 obtain⟨O,hO⟩: ∃O,Hid (((catO (ks.map (textF d))).map fun t=>40::124::(t++[41]))=O):=⟨_,Lib.hid rfl⟩;rw[hO.out];obtain⟨n,hnn⟩: ∃n,ks.length=n:=⟨_,rfl⟩;have HN:=Lib.hid hnn;rw[hnn]at hn ⊢;clear hnn;have HR:Hid (R7 (w.alloc (.cells #[.int .i64 1,.string s1,.string s2,.string s3,x,.string s5,.slice ka n kc] 25)) w.heap.size (.int .i64 1) (.string s1) (.string s2) (.string s3) x (.string s5) (.slice ka n kc)):=r7_new _ _ _ _ _ _ _ _;have HB:Hid (Below w.heap.size w (w.alloc (.cells #[.int .i64 1,.string s1,.string s2,.string s3,x,.string s5,.slice ka n kc] 25))):=(Below.refl _ _).alloc (Nat.le_refl _) _;obtain⟨w1,hw1⟩: ∃W,w.alloc (.cells #[.int .i64 1,.string s1,.string s2,.string s3,x,.string s5,.slice ka n kc] 25)=W:=⟨_,rfl⟩;rw[hw1]at HR HB;obtain⟨p,hp⟩: ∃p,w.heap.size=p:=⟨_,rfl⟩;have HRp:Hid (R7 w1 p (.int .i64 1) (.string s1) (.string s2) (.string s3) x (.string s5) (.slice ka n kc)):=by rw[←hp];exact HR
 clear HR;obtain⟨k0,k1,k2,k3,k4,k5,k6⟩:=r7_cells HRp.out;have hBo:Below w1.heap.size w1 (w1.alloc (.cells #[.string ⟨#[38]⟩,.string ⟨#[124]⟩,.string ⟨#[33]⟩] 9)):=(Below.refl _ _).alloc (Nat.le_refl _) _;obtain⟨l0,l1,l2,l3,l4,l5,l6⟩:=r7_cells (r7_below HRp.out hBo);have hch:(w1.alloc (.cells #[.string ⟨#[38]⟩,.string ⟨#[124]⟩,.string ⟨#[33]⟩] 9)).cell? ⟨w1.heap.size,1,none⟩=some (.string ⟨#[124]⟩):=by rw[World.cell?_alloc_new];rfl
 have HRo:=Lib.hid (r7_below HRp.out hBo);have HBo:Hid (Below w.heap.size w (w1.alloc (.cells #[.string ⟨#[38]⟩,.string ⟨#[124]⟩,.string ⟨#[33]⟩] 9))):=HB.out.trans (hBo.mono HB.out.size);clear hBo;go_enter Try.func14,Try.ntmps14;go_wp2_with fail;obtain⟨w2,hw2⟩: ∃W,w1.alloc (.cells #[.string ⟨#[38]⟩,.string ⟨#[124]⟩,.string ⟨#[33]⟩] 9)=W:=⟨_,rfl⟩;rw[hw2]at HRo HBo ⊢;clear k0 k1 k2 k3 k4 k5 k6 l0 l1 l2 l3 l4 l5 l6 hch hw2 HB HRp hw1 hp;go_loopw [4,5] (fun sv iv wr=> ∃ (k:Nat) (us:T) (S:ByteArray),k≤n∧sv= .string S∧iv= .int .i64 (k:Int)∧us.length≤k*1000000000∧Hid (S.data.toList=40::124::us)∧Hid (catO ((ks.take k).map (textF d))=some us)∧Hid (Below w2.heap.size w2 wr)) (fun _ iv _=>n- (intOf iv).toNat);case atStart=>exact⟨0,[],_,Nat.zero_le _,rfl,rfl,Nat.zero_le _,rfl,rfl,Below.refl _ _⟩
 case round=>
  obtain⟨k,us,S,hk,rfl,rfl,hus,hSd,hC,hBr⟩:=hrel;have hSs:S.size=us.length+2:=by rw[←kt.size_len,hSd.out];rfl
  have HBx:Hid (Below w.heap.size w wr):=HBo.out.trans (hBr.out.mono HBo.out.size);obtain⟨k0,k1,k2,k3,k4,k5,k6⟩:=r7_cells (r7_below HRo.out hBr.out);by_cases hlt:k<n
  ·have hltI:(k:Int)<(n:Int):=(by omega);have hkl:k<ks.length:=(by rw[HN.out];exact hlt);obtain⟨b,o,xa,xc,kb,kcc,hao,hcf,hfx⟩:=kidsX_at (kidsX_below hK.out HBx.out) k hkl;subst hao;have c0:=hcf.c0;have c1:=hcf.c1;have c2:=hcf.c2;have c3:=hcf.c3;have c4:=hcf.c4;have c5:=hcf.c5;have c6:=hcf.c6;have hmem:ks[k]∈ks:=List.getElem_mem hkl;have hIH:=IH.out ks[k] hmem;have hLk:=hL.out ks[k] hmem;have HCs: ∀t,textF d ks[k]=some t→catO ((ks.take (k+1)).map (textF d))=some (us++t):=(by intro t ht;rw[List.take_succ_eq_append_getElem hkl,List.map_append,List.map_singleton,ht,catO_snoc,hC.out];rfl);have HCn:textF d ks[k]=none→O=none:=(by intro h;rw[←hO.out,catO_none (List.mem_map.2 ⟨ks[k],hmem,h⟩)];rfl);generalize ks[k]=F at c0 c1 c2 c3 c4 c5 c6 hIH hLk HCs HCn hfx;have HT:=Lib.hid (hIH _ _ hfx);unfold flV at HT;generalize textF d F=o at HT hLk HCs HCn;have HLk:=Lib.hid hLk;have HCs:=Lib.hid HCs;have HCn:=Lib.hid HCn;clear hIH hLk hfx hcf hmem;go_wp2_with fail;refine HT.out.mono ?_;rintro e w3 ⟨hB3,hE⟩;have HB3:=Lib.hid hB3;clear hB3 k0 k1 k2 k3 k4 k5 k6 c0 c1 c2 c3 c4 c5 c6 HT;cases o with
   | none=>obtain⟨s,rfl⟩:=hE;have hOn:=Lib.hid (HCn.out rfl);go_wp2_with fail;go_ret2;rw[hOn.out];exact⟨HBx.out.trans (HB3.out.mono HBx.out.size),_,rfl⟩
   | some t=>
    subst hE;have hC2:=Lib.hid (HCs.out t rfl);have hl2:=HLk.out t rfl;clear HCs HCn HLk;obtain⟨Tt,hTt⟩: ∃x:ByteArray,Hid (x=⟨t.toArray⟩):=⟨_,Lib.hid rfl⟩;have hTs:Tt.size=t.length:=(by rw[hTt.out,←kt.size_len]);rw[←hTt.out];obtain⟨S2,hS2⟩: ∃x,x=S++Tt:=⟨_,rfl⟩;have hadd: ∀W,(Op.stringOp .add S Tt).run Try.prog W= .ok (.string S2) W:=fun W=>by rw[hS2];exact run_string_add_sum W _ _ (by omega)
    have HS2:Hid (S2.data.toList=40::124::(us++t)):=(by show _=_;rw[hS2,dt_app,hSd.out,hTt.out];rfl);clear hS2;go_wp2_with fail;go_roundw;case rel=>exact⟨k+1,us++t,S2,by omega,rfl,by go_num,by rw[List.length_append];omega,HS2,hC2,hBr.out.trans (HB3.out.mono hBr.out.size)⟩
    case measure=>simp[intOf];omega
  ·obtain rfl:k=n:=(by omega);have hC5:=hC.out;rw[List.take_of_length_le (by rw[HN.out];exact Nat.le_refl _)]at hC5;have hOs:Hid (O=some (40::124::(us++[41]))):=(by show O=_;rw[←hO.out,hC5];rfl);obtain⟨Z,hZ⟩: ∃Z,Z=S++(⟨#[41]⟩:ByteArray):=⟨_,rfl⟩;have hadd: ∀W,(Op.stringOp .add S ⟨#[41]⟩).run Try.prog W= .ok (.string Z) W:=fun W=>by rw[hZ];exact run_string_add_sum W _ _ (by show S.size+1≤9223372036854775807;omega)
   have HZ:Hid (Z=⟨(40::124::(us++[41])).toArray⟩):=(by refine arr_mk _ _ ?_;rw[hZ,dt_app,hSd.out];rfl);clear hZ hC5 hC;go_wp2_with fail;go_ret2;rw[hOs.out];exact⟨HBx.out,by show _=Ending.returned (.tuple #[.string ⟨(40::124::(us++[41])).toArray⟩,.bool true]);rw[←HZ.out];rfl⟩
theorem rtext_2 (d:Nat)(ks:List Fl)(s1 s2 s3 s5:ByteArray)(x:Value)(ka:Option Addr)(kc:Nat)(w:World)(hK:Hid (KidsX w ka ks))(hn:ks.length≤1000)
  (IH:Hid (∀k∈ks,∀v W,FlX W v k→Calls Try.prog 14 #[v] W (TextE (textF d k) W))) (hL:Hid (∀k∈ks,∀t,textF d k=some t→t.length≤1000000000)):
  Calls Try.prog 14 #[.agg #[.int .i64 2,.string s1,.string s2,.string s3,x,.string s5,.slice ka ks.length kc]] w (TextE ((catO (ks.map (textF d))).map fun t=>40::33::(t++[41])) w):=by
 obtain⟨O,hO⟩: ∃O,Hid (((catO (ks.map (textF d))).map fun t=>40::33::(t++[41]))=O):=⟨_,Lib.hid rfl⟩;rw[hO.out];obtain⟨n,hnn⟩: ∃n,ks.length=n:=⟨_,rfl⟩;have HN:=Lib.hid hnn;rw[hnn]at hn ⊢;clear hnn;have HR:Hid (R7 (w.alloc (.cells #[.int .i64 2,.string s1,.string s2,.string s3,x,.string s5,.slice ka n kc] 25)) w.heap.size (.int .i64 2) (.string s1) (.string s2) (.string s3) x (.string s5) (.slice ka n kc)):=r7_new _ _ _ _ _ _ _ _;have HB:Hid (Below w.heap.size w (w.alloc (.cells #[.int .i64 2,.string s1,.string s2,.string s3,x,.string s5,.slice ka n kc] 25))):=(Below.refl _ _).alloc (Nat.le_refl _) _;obtain⟨w1,hw1⟩: ∃W,w.alloc (.cells #[.int .i64 2,.string s1,.string s2,.string s3,x,.string s5,.slice ka n kc] 25)=W:=⟨_,rfl⟩;rw[hw1]at HR HB;obtain⟨p,hp⟩: ∃p,w.heap.size=p:=⟨_,rfl⟩;have HRp:Hid (R7 w1 p (.int .i64 2) (.string s1) (.string s2) (.string s3) x (.string s5) (.slice ka n kc)):=by rw[←hp];exact HR
 clear HR;obtain⟨k0,k1,k2,k3,k4,k5,k6⟩:=r7_cells HRp.out;have hBo:Below w1.heap.size w1 (w1.alloc (.cells #[.string ⟨#[38]⟩,.string ⟨#[124]⟩,.string ⟨#[33]⟩] 9)):=(Below.refl _ _).alloc (Nat.le_refl _) _;obtain⟨l0,l1,l2,l3,l4,l5,l6⟩:=r7_cells (r7_below HRp.out hBo);have hch:(w1.alloc (.cells #[.string ⟨#[38]⟩,.string ⟨#[124]⟩,.string ⟨#[33]⟩] 9)).cell? ⟨w1.heap.size,2,none⟩=some (.string ⟨#[33]⟩):=by rw[World.cell?_alloc_new];rfl
 have HRo:=Lib.hid (r7_below HRp.out hBo);have HBo:Hid (Below w.heap.size w (w1.alloc (.cells #[.string ⟨#[38]⟩,.string ⟨#[124]⟩,.string ⟨#[33]⟩] 9))):=HB.out.trans (hBo.mono HB.out.size);clear hBo;go_enter Try.func14,Try.ntmps14;go_wp2_with fail;obtain⟨w2,hw2⟩: ∃W,w1.alloc (.cells #[.string ⟨#[38]⟩,.string ⟨#[124]⟩,.string ⟨#[33]⟩] 9)=W:=⟨_,rfl⟩;rw[hw2]at HRo HBo ⊢;clear k0 k1 k2 k3 k4 k5 k6 l0 l1 l2 l3 l4 l5 l6 hch hw2 HB HRp hw1 hp;go_loopw [4,5] (fun sv iv wr=> ∃ (k:Nat) (us:T) (S:ByteArray),k≤n∧sv= .string S∧iv= .int .i64 (k:Int)∧us.length≤k*1000000000∧Hid (S.data.toList=40::33::us)∧Hid (catO ((ks.take k).map (textF d))=some us)∧Hid (Below w2.heap.size w2 wr)) (fun _ iv _=>n- (intOf iv).toNat);case atStart=>exact⟨0,[],_,Nat.zero_le _,rfl,rfl,Nat.zero_le _,rfl,rfl,Below.refl _ _⟩
 case round=>
  obtain⟨k,us,S,hk,rfl,rfl,hus,hSd,hC,hBr⟩:=hrel;have hSs:S.size=us.length+2:=by rw[←kt.size_len,hSd.out];rfl
  have HBx:Hid (Below w.heap.size w wr):=HBo.out.trans (hBr.out.mono HBo.out.size);obtain⟨k0,k1,k2,k3,k4,k5,k6⟩:=r7_cells (r7_below HRo.out hBr.out);by_cases hlt:k<n
  ·have hltI:(k:Int)<(n:Int):=(by omega);have hkl:k<ks.length:=(by rw[HN.out];exact hlt);obtain⟨b,o,xa,xc,kb,kcc,hao,hcf,hfx⟩:=kidsX_at (kidsX_below hK.out HBx.out) k hkl;subst hao;have c0:=hcf.c0;have c1:=hcf.c1;have c2:=hcf.c2;have c3:=hcf.c3;have c4:=hcf.c4;have c5:=hcf.c5;have c6:=hcf.c6;have hmem:ks[k]∈ks:=List.getElem_mem hkl;have hIH:=IH.out ks[k] hmem;have hLk:=hL.out ks[k] hmem;have HCs: ∀t,textF d ks[k]=some t→catO ((ks.take (k+1)).map (textF d))=some (us++t):=(by intro t ht;rw[List.take_succ_eq_append_getElem hkl,List.map_append,List.map_singleton,ht,catO_snoc,hC.out];rfl);have HCn:textF d ks[k]=none→O=none:=(by intro h;rw[←hO.out,catO_none (List.mem_map.2 ⟨ks[k],hmem,h⟩)];rfl);generalize ks[k]=F at c0 c1 c2 c3 c4 c5 c6 hIH hLk HCs HCn hfx;have HT:=Lib.hid (hIH _ _ hfx);unfold flV at HT;generalize textF d F=o at HT hLk HCs HCn;have HLk:=Lib.hid hLk;have HCs:=Lib.hid HCs;have HCn:=Lib.hid HCn;clear hIH hLk hfx hcf hmem;go_wp2_with fail;refine HT.out.mono ?_;rintro e w3 ⟨hB3,hE⟩;have HB3:=Lib.hid hB3;clear hB3 k0 k1 k2 k3 k4 k5 k6 c0 c1 c2 c3 c4 c5 c6 HT;cases o with
   | none=>obtain⟨s,rfl⟩:=hE;have hOn:=Lib.hid (HCn.out rfl);go_wp2_with fail;go_ret2;rw[hOn.out];exact⟨HBx.out.trans (HB3.out.mono HBx.out.size),_,rfl⟩
   | some t=>
    subst hE;have hC2:=Lib.hid (HCs.out t rfl);have hl2:=HLk.out t rfl;clear HCs HCn HLk;obtain⟨Tt,hTt⟩: ∃x:ByteArray,Hid (x=⟨t.toArray⟩):=⟨_,Lib.hid rfl⟩;have hTs:Tt.size=t.length:=(by rw[hTt.out,←kt.size_len]);rw[←hTt.out];obtain⟨S2,hS2⟩: ∃x,x=S++Tt:=⟨_,rfl⟩;have hadd: ∀W,(Op.stringOp .add S Tt).run Try.prog W= .ok (.string S2) W:=fun W=>by rw[hS2];exact run_string_add_sum W _ _ (by omega)
    have HS2:Hid (S2.data.toList=40::33::(us++t)):=(by show _=_;rw[hS2,dt_app,hSd.out,hTt.out];rfl);clear hS2;go_wp2_with fail;go_roundw;case rel=>exact⟨k+1,us++t,S2,by omega,rfl,by go_num,by rw[List.length_append];omega,HS2,hC2,hBr.out.trans (HB3.out.mono hBr.out.size)⟩
    case measure=>simp[intOf];omega
  ·obtain rfl:k=n:=(by omega);have hC5:=hC.out;rw[List.take_of_length_le (by rw[HN.out];exact Nat.le_refl _)]at hC5;have hOs:Hid (O=some (40::33::(us++[41]))):=(by show O=_;rw[←hO.out,hC5];rfl);obtain⟨Z,hZ⟩: ∃Z,Z=S++(⟨#[41]⟩:ByteArray):=⟨_,rfl⟩;have hadd: ∀W,(Op.stringOp .add S ⟨#[41]⟩).run Try.prog W= .ok (.string Z) W:=fun W=>by rw[hZ];exact run_string_add_sum W _ _ (by show S.size+1≤9223372036854775807;omega)
   have HZ:Hid (Z=⟨(40::33::(us++[41])).toArray⟩):=(by refine arr_mk _ _ ?_;rw[hZ,dt_app,hSd.out];rfl);clear hZ hC5 hC;go_wp2_with fail;go_ret2;rw[hOs.out];exact⟨HBx.out,by show _=Ending.returned (.tuple #[.string ⟨(40::33::(us++[41])).toArray⟩,.bool true]);rw[←HZ.out];rfl⟩
theorem rleaf_3 (attr s2 s3 s5:ByteArray)(x:Value)(ka:Value)(w:World)(ha:attr.size≤1000000)(ha0: ¬attr.size=0)(hs:s2.size≤1000000):
  Calls Try.prog 14 #[.agg #[.int .i64 3,.string attr,.string s2,.string s3,x,.string s5,ka]] w fun e w'=>e= .returned (.tuple #[.string (if nameL (tx attr)=true then⟨(40::(tx attr++((([61]:T)++valL (tx s2))++[41]))).toArray⟩else⟨#[]⟩),.bool (nameL (tx attr))])∧Below w.heap.size w w':=by
 have HNB:Hid (∀c b W,Calls Try.prog 23 #[.int .u8 (c.toNat:Int),.bool b] W fun e w'=>e= .returned (.bool (nameCh c b))∧W=w'):=rnameByte_any;obtain⟨A,hA⟩: ∃A,A=(⟨#[40]⟩:ByteArray)++attr:=⟨_,rfl⟩;have hAs:A.size=attr.size+1:=by rw[hA,ByteArray.size_append,Nat.add_comm];rfl
 have hadd1: ∀W,(Op.stringOp .add ⟨#[40]⟩ attr).run Try.prog W= .ok (.string A) W:=fun W=>by rw[hA];exact run_string_add_sum W _ _ (by show 1+attr.size≤9223372036854775807;omega)
 obtain⟨V,hV⟩: ∃V,Hid (V=valBy s2):=⟨_,rfl⟩;have hVs:V.size≤3000000:=by have:=valBy_size s2;rw[hV.out];omega
 have HVA:Hid (∀W,Calls Try.prog 24 #[.string s2] W fun e w'=>e= .returned (.string V)∧Below W.heap.size W w'):=fun W=>by rw[hV.out];exact rvalue_any s2 W hs
 obtain⟨X,hX⟩: ∃X,X=A++(⟨#[61]⟩:ByteArray):=⟨_,rfl⟩;have hXs:X.size=A.size+1:=by rw[hX,ByteArray.size_append];rfl
 have hadd2: ∀W,(Op.stringOp .add A ⟨#[61]⟩).run Try.prog W= .ok (.string X) W:=fun W=>by rw[hX];exact run_string_add_sum W _ _ (by show A.size+1≤9223372036854775807;omega)
 obtain⟨Y,hY⟩: ∃Y,Y=X++V:=⟨_,rfl⟩;have hYs:Y.size=X.size+V.size:=by rw[hY,ByteArray.size_append]
 have hadd3: ∀W,(Op.stringOp .add X V).run Try.prog W= .ok (.string Y) W:=fun W=>by rw[hY];exact run_string_add_sum W _ _ (by omega)
 obtain⟨Z,hZ⟩: ∃Z,Z=Y++(⟨#[41]⟩:ByteArray):=⟨_,rfl⟩;have hadd4: ∀W,(Op.stringOp .add Y ⟨#[41]⟩).run Try.prog W= .ok (.string Z) W:=fun W=>by rw[hZ];exact run_string_add_sum W _ _ (by show Y.size+1≤9223372036854775807;omega)
 have HZ:Hid (Z=⟨(40::(tx attr++((([61]:T)++valL (tx s2))++[41]))).toArray⟩):=by refine arr_mk _ _ ?_;rw[hZ,dt_app,hY,dt_app,hX,dt_app,hA,dt_app,hV.out];simp[valBy,tx]
 obtain⟨R,hR⟩: ∃R:ByteArray,Hid ((⟨(40::(tx attr++((([61]:T)++valL (tx s2))++[41]))).toArray⟩:ByteArray)=R):=⟨_,Lib.hid rfl⟩;rw[hR.out];obtain⟨r,hr⟩: ∃r,Hid (nameL (tx attr)=r):=⟨_,Lib.hid rfl⟩;rw[hr.out];obtain⟨RR,hRR⟩: ∃RR,Hid ((if r=true then R else⟨#[]⟩)=RR):=⟨_,Lib.hid rfl⟩;rw[hRR.out];rw[hR.out]at HZ;clear hA hAs hX hXs hY hYs hZ hVs hV;have HR:Hid (R7 (w.alloc (.cells #[.int .i64 3,.string attr,.string s2,.string s3,x,.string s5,ka] 25)) w.heap.size (.int .i64 3) (.string attr) (.string s2) (.string s3) (x) (.string s5) ka):=r7_new _ _ _ _ _ _ _ _;have HB:Hid (Below w.heap.size w (w.alloc (.cells #[.int .i64 3,.string attr,.string s2,.string s3,x,.string s5,ka] 25))):=(Below.refl _ _).alloc (Nat.le_refl _) _;obtain⟨w1,hw1⟩: ∃W,w.alloc (.cells #[.int .i64 3,.string attr,.string s2,.string s3,x,.string s5,ka] 25)=W:=⟨_,rfl⟩;rw[hw1]at HR HB;obtain⟨k0,k1,k2,k3,k4,k5,k6⟩:=r7_cells HR.out;go_enter Try.func14,Try.ntmps14;go_wp2_with fail;go_loop [8] (fun iv=> ∃k:Nat,k≤attr.size∧iv= .int .i64 (k:Int)∧Hid (∀j (hj:j<attr.size),j<k→nameCh attr[j] (decide (j=0))=true)) (fun iv=>attr.size- (intOf iv).toNat);case atStart=>exact⟨0,Nat.zero_le _,rfl,fun j hj h=>by omega⟩
 case round=>
  obtain⟨k,hk,rfl,hV⟩:=hrel;by_cases hlt:k<attr.size
  ·have hltI:(k:Int)<(attr.size:Int):=(by omega);have HY:Hid (nameCh attr[k] (decide (k=0))=true→ ∀j (hj:j<attr.size),j<k+1→nameCh attr[j] (decide (j=0))=true):=by
    intro ht j hj hjk;by_cases e:j=k
    ·subst e;exact ht
    ·exact hV.out j hj (by omega)
   have HNo:Hid (nameCh attr[k] (decide (k=0))=false→r=false):=fun h=>by rw[←hr.out];exact(nameL_no hlt h).symm
   have hb: ∀W:World,Calls Try.prog 23 #[.int .u8 (attr[k].toNat:Int),.bool ((k:Int)==0)] W fun e w'=>e= .returned (.bool (nameCh attr[k] (decide (k=0))))∧W=w':=(by intro W;rw[show((k:Int)==0)=decide (k=0)from by rw[Bool.eq_iff_iff];simp];exact HNB.out _ _ W);generalize nameCh attr[k] (decide (k=0))=q at HY HNo hb;have HC:=Lib.hid (hb w1);clear hb;go_wp2_with fail;refine HC.out.mono ?_;rintro e w2 ⟨rfl,rfl⟩;clear HC;cases q with
   | false=>have HN2:=Lib.hid (HNo.out rfl);clear HNo HY;go_wp2_with fail;go_ret2;rw[←hRR.out,HN2.out];exact⟨rfl,HB.out⟩
   | true=>
    have HY2:=Lib.hid (HY.out rfl);clear HNo HY;go_wp2_with fail;go_round;case rel=>exact⟨k+1,by omega,by go_num,HY2.out⟩
    case measure=>simp[intOf];omega
  ·obtain rfl:k=attr.size:=(by omega);have HOK:Hid (r=true):=(by show r=true;rw[←hr.out];exact(nameL_end (fun j hj=>hV.out j hj hj) ha0).symm);clear hV hlt;go_wp2_with fail;refine(HVA.out _).mono ?_;rintro e w2 ⟨rfl,hB2⟩;go_wp2_with fail;go_ret2;rw[←hRR.out,HOK.out,if_pos rfl];exact⟨by rw[←HZ.out];rfl,HB.out.trans (hB2.mono HB.out.size)⟩
theorem rleaf_5 (attr s2 s3 s5:ByteArray)(x:Value)(ka:Value)(w:World)(ha:attr.size≤1000000)(ha0: ¬attr.size=0)(hs:s2.size≤1000000):
  Calls Try.prog 14 #[.agg #[.int .i64 5,.string attr,.string s2,.string s3,x,.string s5,ka]] w fun e w'=>e= .returned (.tuple #[.string (if nameL (tx attr)=true then⟨(40::(tx attr++((([62,61]:T)++valL (tx s2))++[41]))).toArray⟩else⟨#[]⟩),.bool (nameL (tx attr))])∧Below w.heap.size w w':=by
 have HNB:Hid (∀c b W,Calls Try.prog 23 #[.int .u8 (c.toNat:Int),.bool b] W fun e w'=>e= .returned (.bool (nameCh c b))∧W=w'):=rnameByte_any;obtain⟨A,hA⟩: ∃A,A=(⟨#[40]⟩:ByteArray)++attr:=⟨_,rfl⟩;have hAs:A.size=attr.size+1:=by rw[hA,ByteArray.size_append,Nat.add_comm];rfl
 have hadd1: ∀W,(Op.stringOp .add ⟨#[40]⟩ attr).run Try.prog W= .ok (.string A) W:=fun W=>by rw[hA];exact run_string_add_sum W _ _ (by show 1+attr.size≤9223372036854775807;omega)
 obtain⟨V,hV⟩: ∃V,Hid (V=valBy s2):=⟨_,rfl⟩;have hVs:V.size≤3000000:=by have:=valBy_size s2;rw[hV.out];omega
 have HVA:Hid (∀W,Calls Try.prog 24 #[.string s2] W fun e w'=>e= .returned (.string V)∧Below W.heap.size W w'):=fun W=>by rw[hV.out];exact rvalue_any s2 W hs
 obtain⟨X,hX⟩: ∃X,X=A++(⟨#[62,61]⟩:ByteArray):=⟨_,rfl⟩;have hXs:X.size=A.size+2:=by rw[hX,ByteArray.size_append];rfl
 have hadd2: ∀W,(Op.stringOp .add A ⟨#[62,61]⟩).run Try.prog W= .ok (.string X) W:=fun W=>by rw[hX];exact run_string_add_sum W _ _ (by show A.size+2≤9223372036854775807;omega)
 obtain⟨Y,hY⟩: ∃Y,Y=X++V:=⟨_,rfl⟩;have hYs:Y.size=X.size+V.size:=by rw[hY,ByteArray.size_append]
 have hadd3: ∀W,(Op.stringOp .add X V).run Try.prog W= .ok (.string Y) W:=fun W=>by rw[hY];exact run_string_add_sum W _ _ (by omega)
 obtain⟨Z,hZ⟩: ∃Z,Z=Y++(⟨#[41]⟩:ByteArray):=⟨_,rfl⟩;have hadd4: ∀W,(Op.stringOp .add Y ⟨#[41]⟩).run Try.prog W= .ok (.string Z) W:=fun W=>by rw[hZ];exact run_string_add_sum W _ _ (by show Y.size+1≤9223372036854775807;omega)
 have HZ:Hid (Z=⟨(40::(tx attr++((([62,61]:T)++valL (tx s2))++[41]))).toArray⟩):=by refine arr_mk _ _ ?_;rw[hZ,dt_app,hY,dt_app,hX,dt_app,hA,dt_app,hV.out];simp[valBy,tx]
 obtain⟨R,hR⟩: ∃R:ByteArray,Hid ((⟨(40::(tx attr++((([62,61]:T)++valL (tx s2))++[41]))).toArray⟩:ByteArray)=R):=⟨_,Lib.hid rfl⟩;rw[hR.out];obtain⟨r,hr⟩: ∃r,Hid (nameL (tx attr)=r):=⟨_,Lib.hid rfl⟩;rw[hr.out];obtain⟨RR,hRR⟩: ∃RR,Hid ((if r=true then R else⟨#[]⟩)=RR):=⟨_,Lib.hid rfl⟩;rw[hRR.out];rw[hR.out]at HZ;clear hA hAs hX hXs hY hYs hZ hVs hV;have HR:Hid (R7 (w.alloc (.cells #[.int .i64 5,.string attr,.string s2,.string s3,x,.string s5,ka] 25)) w.heap.size (.int .i64 5) (.string attr) (.string s2) (.string s3) (x) (.string s5) ka):=r7_new _ _ _ _ _ _ _ _;have HB:Hid (Below w.heap.size w (w.alloc (.cells #[.int .i64 5,.string attr,.string s2,.string s3,x,.string s5,ka] 25))):=(Below.refl _ _).alloc (Nat.le_refl _) _;obtain⟨w1,hw1⟩: ∃W,w.alloc (.cells #[.int .i64 5,.string attr,.string s2,.string s3,x,.string s5,ka] 25)=W:=⟨_,rfl⟩;rw[hw1]at HR HB;obtain⟨k0,k1,k2,k3,k4,k5,k6⟩:=r7_cells HR.out;go_enter Try.func14,Try.ntmps14;go_wp2_with fail;go_loop [8] (fun iv=> ∃k:Nat,k≤attr.size∧iv= .int .i64 (k:Int)∧Hid (∀j (hj:j<attr.size),j<k→nameCh attr[j] (decide (j=0))=true)) (fun iv=>attr.size- (intOf iv).toNat);case atStart=>exact⟨0,Nat.zero_le _,rfl,fun j hj h=>by omega⟩
 case round=>
  obtain⟨k,hk,rfl,hV⟩:=hrel;by_cases hlt:k<attr.size
  ·have hltI:(k:Int)<(attr.size:Int):=(by omega);have HY:Hid (nameCh attr[k] (decide (k=0))=true→ ∀j (hj:j<attr.size),j<k+1→nameCh attr[j] (decide (j=0))=true):=by
    intro ht j hj hjk;by_cases e:j=k
    ·subst e;exact ht
    ·exact hV.out j hj (by omega)
   have HNo:Hid (nameCh attr[k] (decide (k=0))=false→r=false):=fun h=>by rw[←hr.out];exact(nameL_no hlt h).symm
   have hb: ∀W:World,Calls Try.prog 23 #[.int .u8 (attr[k].toNat:Int),.bool ((k:Int)==0)] W fun e w'=>e= .returned (.bool (nameCh attr[k] (decide (k=0))))∧W=w':=(by intro W;rw[show((k:Int)==0)=decide (k=0)from by rw[Bool.eq_iff_iff];simp];exact HNB.out _ _ W);generalize nameCh attr[k] (decide (k=0))=q at HY HNo hb;have HC:=Lib.hid (hb w1);clear hb;go_wp2_with fail;refine HC.out.mono ?_;rintro e w2 ⟨rfl,rfl⟩;clear HC;cases q with
   | false=>have HN2:=Lib.hid (HNo.out rfl);clear HNo HY;go_wp2_with fail;go_ret2;rw[←hRR.out,HN2.out];exact⟨rfl,HB.out⟩
   | true=>
    have HY2:=Lib.hid (HY.out rfl);clear HNo HY;go_wp2_with fail;go_round;case rel=>exact⟨k+1,by omega,by go_num,HY2.out⟩
    case measure=>simp[intOf];omega
  ·obtain rfl:k=attr.size:=(by omega);have HOK:Hid (r=true):=(by show r=true;rw[←hr.out];exact(nameL_end (fun j hj=>hV.out j hj hj) ha0).symm);clear hV hlt;go_wp2_with fail;refine(HVA.out _).mono ?_;rintro e w2 ⟨rfl,hB2⟩;go_wp2_with fail;go_ret2;rw[←hRR.out,HOK.out,if_pos rfl];exact⟨by rw[←HZ.out];rfl,HB.out.trans (hB2.mono HB.out.size)⟩
theorem rleaf_6 (attr s2 s3 s5:ByteArray)(x:Value)(ka:Value)(w:World)(ha:attr.size≤1000000)(ha0: ¬attr.size=0)(hs:s2.size≤1000000):
  Calls Try.prog 14 #[.agg #[.int .i64 6,.string attr,.string s2,.string s3,x,.string s5,ka]] w fun e w'=>e= .returned (.tuple #[.string (if nameL (tx attr)=true then⟨(40::(tx attr++((([60,61]:T)++valL (tx s2))++[41]))).toArray⟩else⟨#[]⟩),.bool (nameL (tx attr))])∧Below w.heap.size w w':=by
 have HNB:Hid (∀c b W,Calls Try.prog 23 #[.int .u8 (c.toNat:Int),.bool b] W fun e w'=>e= .returned (.bool (nameCh c b))∧W=w'):=rnameByte_any;obtain⟨A,hA⟩: ∃A,A=(⟨#[40]⟩:ByteArray)++attr:=⟨_,rfl⟩;have hAs:A.size=attr.size+1:=by rw[hA,ByteArray.size_append,Nat.add_comm];rfl
 have hadd1: ∀W,(Op.stringOp .add ⟨#[40]⟩ attr).run Try.prog W= .ok (.string A) W:=fun W=>by rw[hA];exact run_string_add_sum W _ _ (by show 1+attr.size≤9223372036854775807;omega)
 obtain⟨V,hV⟩: ∃V,Hid (V=valBy s2):=⟨_,rfl⟩;have hVs:V.size≤3000000:=by have:=valBy_size s2;rw[hV.out];omega
 have HVA:Hid (∀W,Calls Try.prog 24 #[.string s2] W fun e w'=>e= .returned (.string V)∧Below W.heap.size W w'):=fun W=>by rw[hV.out];exact rvalue_any s2 W hs
 obtain⟨X,hX⟩: ∃X,X=A++(⟨#[60,61]⟩:ByteArray):=⟨_,rfl⟩;have hXs:X.size=A.size+2:=by rw[hX,ByteArray.size_append];rfl
 have hadd2: ∀W,(Op.stringOp .add A ⟨#[60,61]⟩).run Try.prog W= .ok (.string X) W:=fun W=>by rw[hX];exact run_string_add_sum W _ _ (by show A.size+2≤9223372036854775807;omega)
 obtain⟨Y,hY⟩: ∃Y,Y=X++V:=⟨_,rfl⟩;have hYs:Y.size=X.size+V.size:=by rw[hY,ByteArray.size_append]
 have hadd3: ∀W,(Op.stringOp .add X V).run Try.prog W= .ok (.string Y) W:=fun W=>by rw[hY];exact run_string_add_sum W _ _ (by omega)
 obtain⟨Z,hZ⟩: ∃Z,Z=Y++(⟨#[41]⟩:ByteArray):=⟨_,rfl⟩;have hadd4: ∀W,(Op.stringOp .add Y ⟨#[41]⟩).run Try.prog W= .ok (.string Z) W:=fun W=>by rw[hZ];exact run_string_add_sum W _ _ (by show Y.size+1≤9223372036854775807;omega)
 have HZ:Hid (Z=⟨(40::(tx attr++((([60,61]:T)++valL (tx s2))++[41]))).toArray⟩):=by refine arr_mk _ _ ?_;rw[hZ,dt_app,hY,dt_app,hX,dt_app,hA,dt_app,hV.out];simp[valBy,tx]
 obtain⟨R,hR⟩: ∃R:ByteArray,Hid ((⟨(40::(tx attr++((([60,61]:T)++valL (tx s2))++[41]))).toArray⟩:ByteArray)=R):=⟨_,Lib.hid rfl⟩;rw[hR.out];obtain⟨r,hr⟩: ∃r,Hid (nameL (tx attr)=r):=⟨_,Lib.hid rfl⟩;rw[hr.out];obtain⟨RR,hRR⟩: ∃RR,Hid ((if r=true then R else⟨#[]⟩)=RR):=⟨_,Lib.hid rfl⟩;rw[hRR.out];rw[hR.out]at HZ;clear hA hAs hX hXs hY hYs hZ hVs hV;have HR:Hid (R7 (w.alloc (.cells #[.int .i64 6,.string attr,.string s2,.string s3,x,.string s5,ka] 25)) w.heap.size (.int .i64 6) (.string attr) (.string s2) (.string s3) (x) (.string s5) ka):=r7_new _ _ _ _ _ _ _ _;have HB:Hid (Below w.heap.size w (w.alloc (.cells #[.int .i64 6,.string attr,.string s2,.string s3,x,.string s5,ka] 25))):=(Below.refl _ _).alloc (Nat.le_refl _) _;obtain⟨w1,hw1⟩: ∃W,w.alloc (.cells #[.int .i64 6,.string attr,.string s2,.string s3,x,.string s5,ka] 25)=W:=⟨_,rfl⟩;rw[hw1]at HR HB;obtain⟨k0,k1,k2,k3,k4,k5,k6⟩:=r7_cells HR.out;go_enter Try.func14,Try.ntmps14;go_wp2_with fail;go_loop [8] (fun iv=> ∃k:Nat,k≤attr.size∧iv= .int .i64 (k:Int)∧Hid (∀j (hj:j<attr.size),j<k→nameCh attr[j] (decide (j=0))=true)) (fun iv=>attr.size- (intOf iv).toNat);case atStart=>exact⟨0,Nat.zero_le _,rfl,fun j hj h=>by omega⟩
 case round=>
  obtain⟨k,hk,rfl,hV⟩:=hrel;by_cases hlt:k<attr.size
  ·have hltI:(k:Int)<(attr.size:Int):=(by omega);have HY:Hid (nameCh attr[k] (decide (k=0))=true→ ∀j (hj:j<attr.size),j<k+1→nameCh attr[j] (decide (j=0))=true):=by
    intro ht j hj hjk;by_cases e:j=k
    ·subst e;exact ht
    ·exact hV.out j hj (by omega)
   have HNo:Hid (nameCh attr[k] (decide (k=0))=false→r=false):=fun h=>by rw[←hr.out];exact(nameL_no hlt h).symm
   have hb: ∀W:World,Calls Try.prog 23 #[.int .u8 (attr[k].toNat:Int),.bool ((k:Int)==0)] W fun e w'=>e= .returned (.bool (nameCh attr[k] (decide (k=0))))∧W=w':=(by intro W;rw[show((k:Int)==0)=decide (k=0)from by rw[Bool.eq_iff_iff];simp];exact HNB.out _ _ W);generalize nameCh attr[k] (decide (k=0))=q at HY HNo hb;have HC:=Lib.hid (hb w1);clear hb;go_wp2_with fail;refine HC.out.mono ?_;rintro e w2 ⟨rfl,rfl⟩;clear HC;cases q with
   | false=>have HN2:=Lib.hid (HNo.out rfl);clear HNo HY;go_wp2_with fail;go_ret2;rw[←hRR.out,HN2.out];exact⟨rfl,HB.out⟩
   | true=>
    have HY2:=Lib.hid (HY.out rfl);clear HNo HY;go_wp2_with fail;go_round;case rel=>exact⟨k+1,by omega,by go_num,HY2.out⟩
    case measure=>simp[intOf];omega
  ·obtain rfl:k=attr.size:=(by omega);have HOK:Hid (r=true):=(by show r=true;rw[←hr.out];exact(nameL_end (fun j hj=>hV.out j hj hj) ha0).symm);clear hV hlt;go_wp2_with fail;refine(HVA.out _).mono ?_;rintro e w2 ⟨rfl,hB2⟩;go_wp2_with fail;go_ret2;rw[←hRR.out,HOK.out,if_pos rfl];exact⟨by rw[←HZ.out];rfl,HB.out.trans (hB2.mono HB.out.size)⟩
theorem rleaf_8 (attr s2 s3 s5:ByteArray)(x:Value)(ka:Value)(w:World)(ha:attr.size≤1000000)(ha0: ¬attr.size=0)(hs:s2.size≤1000000):
  Calls Try.prog 14 #[.agg #[.int .i64 8,.string attr,.string s2,.string s3,x,.string s5,ka]] w fun e w'=>e= .returned (.tuple #[.string (if nameL (tx attr)=true then⟨(40::(tx attr++((([126,61]:T)++valL (tx s2))++[41]))).toArray⟩else⟨#[]⟩),.bool (nameL (tx attr))])∧Below w.heap.size w w':=by
 have HNB:Hid (∀c b W,Calls Try.prog 23 #[.int .u8 (c.toNat:Int),.bool b] W fun e w'=>e= .returned (.bool (nameCh c b))∧W=w'):=rnameByte_any;obtain⟨A,hA⟩: ∃A,A=(⟨#[40]⟩:ByteArray)++attr:=⟨_,rfl⟩;have hAs:A.size=attr.size+1:=by rw[hA,ByteArray.size_append,Nat.add_comm];rfl
 have hadd1: ∀W,(Op.stringOp .add ⟨#[40]⟩ attr).run Try.prog W= .ok (.string A) W:=fun W=>by rw[hA];exact run_string_add_sum W _ _ (by show 1+attr.size≤9223372036854775807;omega)
 obtain⟨V,hV⟩: ∃V,Hid (V=valBy s2):=⟨_,rfl⟩;have hVs:V.size≤3000000:=by have:=valBy_size s2;rw[hV.out];omega
 have HVA:Hid (∀W,Calls Try.prog 24 #[.string s2] W fun e w'=>e= .returned (.string V)∧Below W.heap.size W w'):=fun W=>by rw[hV.out];exact rvalue_any s2 W hs
 obtain⟨X,hX⟩: ∃X,X=A++(⟨#[126,61]⟩:ByteArray):=⟨_,rfl⟩;have hXs:X.size=A.size+2:=by rw[hX,ByteArray.size_append];rfl
 have hadd2: ∀W,(Op.stringOp .add A ⟨#[126,61]⟩).run Try.prog W= .ok (.string X) W:=fun W=>by rw[hX];exact run_string_add_sum W _ _ (by show A.size+2≤9223372036854775807;omega)
 obtain⟨Y,hY⟩: ∃Y,Y=X++V:=⟨_,rfl⟩;have hYs:Y.size=X.size+V.size:=by rw[hY,ByteArray.size_append]
 have hadd3: ∀W,(Op.stringOp .add X V).run Try.prog W= .ok (.string Y) W:=fun W=>by rw[hY];exact run_string_add_sum W _ _ (by omega)
 obtain⟨Z,hZ⟩: ∃Z,Z=Y++(⟨#[41]⟩:ByteArray):=⟨_,rfl⟩;have hadd4: ∀W,(Op.stringOp .add Y ⟨#[41]⟩).run Try.prog W= .ok (.string Z) W:=fun W=>by rw[hZ];exact run_string_add_sum W _ _ (by show Y.size+1≤9223372036854775807;omega)
 have HZ:Hid (Z=⟨(40::(tx attr++((([126,61]:T)++valL (tx s2))++[41]))).toArray⟩):=by refine arr_mk _ _ ?_;rw[hZ,dt_app,hY,dt_app,hX,dt_app,hA,dt_app,hV.out];simp[valBy,tx]
 obtain⟨R,hR⟩: ∃R:ByteArray,Hid ((⟨(40::(tx attr++((([126,61]:T)++valL (tx s2))++[41]))).toArray⟩:ByteArray)=R):=⟨_,Lib.hid rfl⟩;rw[hR.out];obtain⟨r,hr⟩: ∃r,Hid (nameL (tx attr)=r):=⟨_,Lib.hid rfl⟩;rw[hr.out];obtain⟨RR,hRR⟩: ∃RR,Hid ((if r=true then R else⟨#[]⟩)=RR):=⟨_,Lib.hid rfl⟩;rw[hRR.out];rw[hR.out]at HZ;clear hA hAs hX hXs hY hYs hZ hVs hV;have HR:Hid (R7 (w.alloc (.cells #[.int .i64 8,.string attr,.string s2,.string s3,x,.string s5,ka] 25)) w.heap.size (.int .i64 8) (.string attr) (.string s2) (.string s3) (x) (.string s5) ka):=r7_new _ _ _ _ _ _ _ _;have HB:Hid (Below w.heap.size w (w.alloc (.cells #[.int .i64 8,.string attr,.string s2,.string s3,x,.string s5,ka] 25))):=(Below.refl _ _).alloc (Nat.le_refl _) _;obtain⟨w1,hw1⟩: ∃W,w.alloc (.cells #[.int .i64 8,.string attr,.string s2,.string s3,x,.string s5,ka] 25)=W:=⟨_,rfl⟩;rw[hw1]at HR HB;obtain⟨k0,k1,k2,k3,k4,k5,k6⟩:=r7_cells HR.out;go_enter Try.func14,Try.ntmps14;go_wp2_with fail;go_loop [8] (fun iv=> ∃k:Nat,k≤attr.size∧iv= .int .i64 (k:Int)∧Hid (∀j (hj:j<attr.size),j<k→nameCh attr[j] (decide (j=0))=true)) (fun iv=>attr.size- (intOf iv).toNat);case atStart=>exact⟨0,Nat.zero_le _,rfl,fun j hj h=>by omega⟩
 case round=>
  obtain⟨k,hk,rfl,hV⟩:=hrel;by_cases hlt:k<attr.size
  ·have hltI:(k:Int)<(attr.size:Int):=(by omega);have HY:Hid (nameCh attr[k] (decide (k=0))=true→ ∀j (hj:j<attr.size),j<k+1→nameCh attr[j] (decide (j=0))=true):=by
    intro ht j hj hjk;by_cases e:j=k
    ·subst e;exact ht
    ·exact hV.out j hj (by omega)
   have HNo:Hid (nameCh attr[k] (decide (k=0))=false→r=false):=fun h=>by rw[←hr.out];exact(nameL_no hlt h).symm
   have hb: ∀W:World,Calls Try.prog 23 #[.int .u8 (attr[k].toNat:Int),.bool ((k:Int)==0)] W fun e w'=>e= .returned (.bool (nameCh attr[k] (decide (k=0))))∧W=w':=(by intro W;rw[show((k:Int)==0)=decide (k=0)from by rw[Bool.eq_iff_iff];simp];exact HNB.out _ _ W);generalize nameCh attr[k] (decide (k=0))=q at HY HNo hb;have HC:=Lib.hid (hb w1);clear hb;go_wp2_with fail;refine HC.out.mono ?_;rintro e w2 ⟨rfl,rfl⟩;clear HC;cases q with
   | false=>have HN2:=Lib.hid (HNo.out rfl);clear HNo HY;go_wp2_with fail;go_ret2;rw[←hRR.out,HN2.out];exact⟨rfl,HB.out⟩
   | true=>
    have HY2:=Lib.hid (HY.out rfl);clear HNo HY;go_wp2_with fail;go_round;case rel=>exact⟨k+1,by omega,by go_num,HY2.out⟩
    case measure=>simp[intOf];omega
  ·obtain rfl:k=attr.size:=(by omega);have HOK:Hid (r=true):=(by show r=true;rw[←hr.out];exact(nameL_end (fun j hj=>hV.out j hj hj) ha0).symm);clear hV hlt;go_wp2_with fail;refine(HVA.out _).mono ?_;rintro e w2 ⟨rfl,hB2⟩;go_wp2_with fail;go_ret2;rw[←hRR.out,HOK.out,if_pos rfl];exact⟨by rw[←HZ.out];rfl,HB.out.trans (hB2.mono HB.out.size)⟩
theorem rleaf_7 (attr s2 s3 s5:ByteArray)(x:Value)(ka:Value)(w:World)(ha:attr.size≤1000000)(ha0: ¬attr.size=0):
  Calls Try.prog 14 #[.agg #[.int .i64 7,.string attr,.string s2,.string s3,x,.string s5,ka]] w fun e w'=>e= .returned (.tuple #[.string (if nameL (tx attr)=true then⟨(40::(tx attr++(([61,42]:T)++[41]))).toArray⟩else⟨#[]⟩),.bool (nameL (tx attr))])∧Below w.heap.size w w':=by
 have HNB:Hid (∀c b W,Calls Try.prog 23 #[.int .u8 (c.toNat:Int),.bool b] W fun e w'=>e= .returned (.bool (nameCh c b))∧W=w'):=rnameByte_any;obtain⟨A,hA⟩: ∃A,A=(⟨#[40]⟩:ByteArray)++attr:=⟨_,rfl⟩;have hAs:A.size=attr.size+1:=by rw[hA,ByteArray.size_append,Nat.add_comm];rfl
 have hadd1: ∀W,(Op.stringOp .add ⟨#[40]⟩ attr).run Try.prog W= .ok (.string A) W:=fun W=>by rw[hA];exact run_string_add_sum W _ _ (by show 1+attr.size≤9223372036854775807;omega)
 obtain⟨Z,hZ⟩: ∃Z,Z=A++(⟨#[61,42,41]⟩:ByteArray):=⟨_,rfl⟩;have hadd4: ∀W,(Op.stringOp .add A ⟨#[61,42,41]⟩).run Try.prog W= .ok (.string Z) W:=fun W=>by rw[hZ];exact run_string_add_sum W _ _ (by show A.size+3≤9223372036854775807;omega)
 have HZ:Hid (Z=⟨(40::(tx attr++(([61,42]:T)++[41]))).toArray⟩):=by refine arr_mk _ _ ?_;rw[hZ,dt_app,hA,dt_app];simp[tx]
 obtain⟨R,hR⟩: ∃R:ByteArray,Hid ((⟨(40::(tx attr++(([61,42]:T)++[41]))).toArray⟩:ByteArray)=R):=⟨_,Lib.hid rfl⟩;rw[hR.out];obtain⟨r,hr⟩: ∃r,Hid (nameL (tx attr)=r):=⟨_,Lib.hid rfl⟩;rw[hr.out];obtain⟨RR,hRR⟩: ∃RR,Hid ((if r=true then R else⟨#[]⟩)=RR):=⟨_,Lib.hid rfl⟩;rw[hRR.out];rw[hR.out]at HZ;clear hA hAs hZ;have HR:Hid (R7 (w.alloc (.cells #[.int .i64 7,.string attr,.string s2,.string s3,x,.string s5,ka] 25)) w.heap.size (.int .i64 7) (.string attr) (.string s2) (.string s3) (x) (.string s5) ka):=r7_new _ _ _ _ _ _ _ _;have HB:Hid (Below w.heap.size w (w.alloc (.cells #[.int .i64 7,.string attr,.string s2,.string s3,x,.string s5,ka] 25))):=(Below.refl _ _).alloc (Nat.le_refl _) _;obtain⟨w1,hw1⟩: ∃W,w.alloc (.cells #[.int .i64 7,.string attr,.string s2,.string s3,x,.string s5,ka] 25)=W:=⟨_,rfl⟩;rw[hw1]at HR HB;obtain⟨k0,k1,k2,k3,k4,k5,k6⟩:=r7_cells HR.out;go_enter Try.func14,Try.ntmps14;go_wp2_with fail;go_loop [8] (fun iv=> ∃k:Nat,k≤attr.size∧iv= .int .i64 (k:Int)∧Hid (∀j (hj:j<attr.size),j<k→nameCh attr[j] (decide (j=0))=true)) (fun iv=>attr.size- (intOf iv).toNat);case atStart=>exact⟨0,Nat.zero_le _,rfl,fun j hj h=>by omega⟩
 case round=>
  obtain⟨k,hk,rfl,hV⟩:=hrel;by_cases hlt:k<attr.size
  ·have hltI:(k:Int)<(attr.size:Int):=(by omega);have HY:Hid (nameCh attr[k] (decide (k=0))=true→ ∀j (hj:j<attr.size),j<k+1→nameCh attr[j] (decide (j=0))=true):=by
    intro ht j hj hjk;by_cases e:j=k
    ·subst e;exact ht
    ·exact hV.out j hj (by omega)
   have HNo:Hid (nameCh attr[k] (decide (k=0))=false→r=false):=fun h=>by rw[←hr.out];exact(nameL_no hlt h).symm
   have hb: ∀W:World,Calls Try.prog 23 #[.int .u8 (attr[k].toNat:Int),.bool ((k:Int)==0)] W fun e w'=>e= .returned (.bool (nameCh attr[k] (decide (k=0))))∧W=w':=(by intro W;rw[show((k:Int)==0)=decide (k=0)from by rw[Bool.eq_iff_iff];simp];exact HNB.out _ _ W);generalize nameCh attr[k] (decide (k=0))=q at HY HNo hb;have HC:=Lib.hid (hb w1);clear hb;go_wp2_with fail;refine HC.out.mono ?_;rintro e w2 ⟨rfl,rfl⟩;clear HC;cases q with
   | false=>have HN2:=Lib.hid (HNo.out rfl);clear HNo HY;go_wp2_with fail;go_ret2;rw[←hRR.out,HN2.out];exact⟨rfl,HB.out⟩
   | true=>
    have HY2:=Lib.hid (HY.out rfl);clear HNo HY;go_wp2_with fail;go_round;case rel=>exact⟨k+1,by omega,by go_num,HY2.out⟩
    case measure=>simp[intOf];omega
  ·obtain rfl:k=attr.size:=(by omega);have HOK:Hid (r=true):=(by show r=true;rw[←hr.out];exact(nameL_end (fun j hj=>hV.out j hj hj) ha0).symm);clear hV hlt;go_wp2_with fail;go_ret2;rw[←hRR.out,HOK.out,if_pos rfl];exact⟨by rw[←HZ.out];rfl,HB.out⟩
theorem rleaf_4 (attr s2 s3 s5:ByteArray)(xa:Option Addr)(xc:Nat)(l:List ByteArray)(ka:Value)(w:World)(ha:attr.size≤1000000)(ha0: ¬attr.size=0)(h3:s3.size≤1000000)(h5:s5.size≤1000000)(hl:l.length≤1000000)(hls:Hid (∀p∈l,p.size≤1000000))(hS:Hid (Strs w xa l)):
  Calls Try.prog 14 #[.agg #[.int .i64 4,.string attr,.string s2,.string s3,.slice xa l.length xc,.string s5,ka]] w fun e w'=>e= .returned (.tuple #[.string (if nameL (tx attr)=true then⟨(40::(tx attr++((61::(valL (tx s3)++42::(anyL l++valL (tx s5))))++[41]))).toArray⟩else⟨#[]⟩),.bool (nameL (tx attr))])∧Below w.heap.size w w':=by
 have HNB:Hid (∀c b W,Calls Try.prog 23 #[.int .u8 (c.toNat:Int),.bool b] W fun e w'=>e= .returned (.bool (nameCh c b))∧W=w'):=rnameByte_any;obtain⟨A,hA⟩: ∃A,A=(⟨#[40]⟩:ByteArray)++attr:=⟨_,rfl⟩;have hAs:A.size=attr.size+1:=by rw[hA,ByteArray.size_append,Nat.add_comm];rfl
 have hadd1: ∀W,(Op.stringOp .add ⟨#[40]⟩ attr).run Try.prog W= .ok (.string A) W:=fun W=>by rw[hA];exact run_string_add_sum W _ _ (by show 1+attr.size≤9223372036854775807;omega)
 obtain⟨V,hV⟩: ∃V,Hid (V=valBy s3):=⟨_,rfl⟩;have hVs:V.size≤3000000:=by have:=valBy_size s3;rw[hV.out];omega
 have HVA:Hid (∀W,Calls Try.prog 24 #[.string s3] W fun e w'=>e= .returned (.string V)∧Below W.heap.size W w'):=fun W=>by rw[hV.out];exact rvalue_any s3 W h3
 obtain⟨U,hU⟩: ∃U,Hid (U=valBy s5):=⟨_,rfl⟩;have hUs:U.size≤3000000:=by have:=valBy_size s5;rw[hU.out];omega
 have HUA:Hid (∀W,Calls Try.prog 24 #[.string s5] W fun e w'=>e= .returned (.string U)∧Below W.heap.size W w'):=fun W=>by rw[hU.out];exact rvalue_any s5 W h5
 obtain⟨P,hP⟩: ∃P,P=A++(⟨#[61]⟩:ByteArray):=⟨_,rfl⟩;have hPs:P.size=A.size+1:=by rw[hP,ByteArray.size_append];rfl
 have hadd2: ∀W,(Op.stringOp .add A ⟨#[61]⟩).run Try.prog W= .ok (.string P) W:=fun W=>by rw[hP];exact run_string_add_sum W _ _ (by show A.size+1≤9223372036854775807;omega)
 obtain⟨X,hX⟩: ∃X,X=P++V:=⟨_,rfl⟩;have hXs:X.size=P.size+V.size:=by rw[hX,ByteArray.size_append]
 have haddX: ∀W,(Op.stringOp .add P V).run Try.prog W= .ok (.string X) W:=fun W=>by rw[hX];exact run_string_add_sum W _ _ (by omega)
 obtain⟨Y,hY⟩: ∃Y,Y=X++(⟨#[42]⟩:ByteArray):=⟨_,rfl⟩;have hYs:Y.size≤5000000:=by rw[hY,ByteArray.size_append,show(⟨#[42]⟩:ByteArray).size=1 from rfl];omega
 have hadd3: ∀W,(Op.stringOp .add X ⟨#[42]⟩).run Try.prog W= .ok (.string Y) W:=fun W=>by rw[hY];exact run_string_add_sum W _ _ (by show X.size+1≤9223372036854775807;omega)
 have HY0:Hid (Y.data.toList=40::(tx attr++61::(valL (tx s3)++[42]))):=by show _=_;rw[hY,dt_app,hX,dt_app,hP,dt_app,hA,dt_app,hV.out];simp[valBy,tx]
 obtain⟨R,hR⟩: ∃R:ByteArray,Hid ((⟨(40::(tx attr++((61::(valL (tx s3)++42::(anyL l++valL (tx s5))))++[41]))).toArray⟩:ByteArray)=R):=⟨_,Lib.hid rfl⟩;rw[hR.out];obtain⟨r,hr⟩: ∃r,Hid (nameL (tx attr)=r):=⟨_,Lib.hid rfl⟩;rw[hr.out];obtain⟨RR,hRR⟩: ∃RR,Hid ((if r=true then R else⟨#[]⟩)=RR):=⟨_,Lib.hid rfl⟩;rw[hRR.out];obtain⟨n,hn⟩: ∃n,l.length=n:=⟨_,rfl⟩;have HN:=Lib.hid hn;rw[hn]at hl ⊢;clear hA hAs hP hPs hX hXs hY hVs hV hn;have HR:Hid (R7 (w.alloc (.cells #[.int .i64 4,.string attr,.string s2,.string s3,.slice xa n xc,.string s5,ka] 25)) w.heap.size (.int .i64 4) (.string attr) (.string s2) (.string s3) (.slice xa n xc) (.string s5) ka):=r7_new _ _ _ _ _ _ _ _;have HB:Hid (Below w.heap.size w (w.alloc (.cells #[.int .i64 4,.string attr,.string s2,.string s3,.slice xa n xc,.string s5,ka] 25))):=(Below.refl _ _).alloc (Nat.le_refl _) _;obtain⟨w1,hw1⟩: ∃W,w.alloc (.cells #[.int .i64 4,.string attr,.string s2,.string s3,.slice xa n xc,.string s5,ka] 25)=W:=⟨_,rfl⟩;rw[hw1]at HR HB;obtain⟨k0,k1,k2,k3,k4,k5,k6⟩:=r7_cells HR.out;go_enter Try.func14,Try.ntmps14;go_wp2_with fail;go_loop [8] (fun iv=> ∃k:Nat,k≤attr.size∧iv= .int .i64 (k:Int)∧Hid (∀j (hj:j<attr.size),j<k→nameCh attr[j] (decide (j=0))=true)) (fun iv=>attr.size- (intOf iv).toNat);case atStart=>exact⟨0,Nat.zero_le _,rfl,fun j hj h=>by omega⟩
 case round=>
  obtain⟨k,hk,rfl,hV⟩:=hrel;by_cases hlt:k<attr.size
  ·have hltI:(k:Int)<(attr.size:Int):=(by omega);have HY:Hid (nameCh attr[k] (decide (k=0))=true→ ∀j (hj:j<attr.size),j<k+1→nameCh attr[j] (decide (j=0))=true):=by
    intro ht j hj hjk;by_cases e:j=k
    ·subst e;exact ht
    ·exact hV.out j hj (by omega)
   have HNo:Hid (nameCh attr[k] (decide (k=0))=false→r=false):=fun h=>by rw[←hr.out];exact(nameL_no hlt h).symm
   have hb: ∀W:World,Calls Try.prog 23 #[.int .u8 (attr[k].toNat:Int),.bool ((k:Int)==0)] W fun e w'=>e= .returned (.bool (nameCh attr[k] (decide (k=0))))∧W=w':=(by intro W;rw[show((k:Int)==0)=decide (k=0)from by rw[Bool.eq_iff_iff];simp];exact HNB.out _ _ W);generalize nameCh attr[k] (decide (k=0))=q at HY HNo hb;have HC:=Lib.hid (hb w1);clear hb;go_wp2_with fail;refine HC.out.mono ?_;rintro e w2 ⟨rfl,rfl⟩;clear HC;cases q with
   | false=>have HN2:=Lib.hid (HNo.out rfl);clear HNo HY;go_wp2_with fail;go_ret2;rw[←hRR.out,HN2.out];exact⟨rfl,HB.out⟩
   | true=>
    have HY2:=Lib.hid (HY.out rfl);clear HNo HY;go_wp2_with fail;go_round;case rel=>exact⟨k+1,by omega,by go_num,HY2.out⟩
    case measure=>simp[intOf];omega
  ·obtain rfl:k=attr.size:=(by omega);have HOK:Hid (r=true):=(by show r=true;rw[←hr.out];exact(nameL_end (fun j hj=>hV.out j hj hj) ha0).symm);clear hV hlt;go_wp2_with fail;refine(HVA.out _).mono ?_;rintro e w2 ⟨rfl,hB2⟩;have HB2:Hid (Below w.heap.size w w2):=HB.out.trans (hB2.mono HB.out.size);have HR2:=Lib.hid (r7_below HR.out hB2);have hsz2:=HB2.out.size;clear hB2 HB HVA k0 k1 k2 k3 k4 k5 k6 HR HNB;obtain⟨k0,k1,k2,k3,k4,k5,k6⟩:=r7_cells HR2.out;go_wp2_with fail;go_loopw [9,10] (fun sv iv wr=> ∃ (k:Nat) (t:ByteArray),k≤n∧iv= .int .i64 (k:Int)∧sv= .string t∧t.size≤5000000+k*3000001∧Hid (t.data.toList=Y.data.toList++anyL (l.take k))∧Hid (Below w2.heap.size w2 wr)) (fun _ iv _=>n- (intOf iv).toNat);case atStart=>exact⟨0,Y,Nat.zero_le _,rfl,rfl,by omega,by show _=_;simp[anyL],Below.refl _ _⟩
   case round=>
    obtain⟨k,t,hk,rfl,rfl,hts,hT,hBr⟩:=hrel;have HBw:Hid (Below w.heap.size w wr):=HB2.out.trans (hBr.out.mono hsz2);clear k0 k1 k2 k3 k4 k5 k6;obtain⟨k0,k1,k2,k3,k4,k5,k6⟩:=r7_cells (r7_below HR2.out hBr.out);by_cases hlt:k<n
    ·have hltI:(k:Int)<(n:Int):=(by omega);have hkl:k<l.length:=(by rw[HN.out];exact hlt);obtain⟨b,o,hao,hc⟩:=strs_below hS.out HBw.out k hkl;have HT2:=anyL_take hkl;have hps:=hls.out l[k] (List.getElem_mem hkl);generalize l[k]=p at hc HT2 hps;subst hao;have HT2:=Lib.hid HT2;obtain⟨Q,hQ⟩: ∃Q,Hid (Q=valBy p):=⟨_,rfl⟩;have hQs:Q.size≤3000000:=(by have:=valBy_size p;rw[hQ.out];omega);have HQA:Hid (∀W,Calls Try.prog 24 #[.string p] W fun e w'=>e= .returned (.string Q)∧Below W.heap.size W w'):=fun W=>by rw[hQ.out];exact rvalue_any p W hps
     obtain⟨M,hM⟩: ∃M,M=t++Q:=⟨_,rfl⟩;have hMs:M.size=t.size+Q.size:=(by rw[hM,ByteArray.size_append]);have haddM: ∀W,(Op.stringOp .add t Q).run Try.prog W= .ok (.string M) W:=fun W=>by rw[hM];exact run_string_add_sum W _ _ (by omega)
     obtain⟨t2,ht2⟩: ∃t2,t2=M++(⟨#[42]⟩:ByteArray):=⟨_,rfl⟩;have ht2s:t2.size≤5000000+(k+1)*3000001:=(by rw[ht2,ByteArray.size_append,show(⟨#[42]⟩:ByteArray).size=1 from rfl];omega);have haddT: ∀W,(Op.stringOp .add M ⟨#[42]⟩).run Try.prog W= .ok (.string t2) W:=fun W=>by rw[ht2];exact run_string_add_sum W _ _ (by show M.size+1≤9223372036854775807;omega)
     have HTn:Hid (t2.data.toList=Y.data.toList++anyL (l.take (k+1))):=(by show _=_;rw[ht2,dt_app,hM,dt_app,hT.out,HT2.out,hQ.out,List.append_assoc,List.append_assoc];rfl);clear hM hMs ht2 hQ hQs HT2;go_wp2_with fail;refine(HQA.out _).mono ?_;rintro e w3 ⟨rfl,hB3⟩;go_wp2_with fail;go_roundw;case rel=>exact⟨k+1,t2,by omega,by go_num,rfl,ht2s,HTn,hBr.out.trans (hB3.mono hBr.out.size)⟩
     case measure=>simp[intOf];omega
    ·obtain rfl:k=n:=(by omega);have hT5:=hT.out;rw[List.take_of_length_le (by rw[HN.out];exact Nat.le_refl _)]at hT5;obtain⟨t2,ht2⟩: ∃t2,t2=t++U:=⟨_,rfl⟩;have ht2s:t2.size=t.size+U.size:=(by rw[ht2,ByteArray.size_append]);have haddT: ∀W,(Op.stringOp .add t U).run Try.prog W= .ok (.string t2) W:=fun W=>by rw[ht2];exact run_string_add_sum W _ _ (by omega)
     obtain⟨Z,hZ⟩: ∃Z,Z=t2++(⟨#[41]⟩:ByteArray):=⟨_,rfl⟩;have haddZ: ∀W,(Op.stringOp .add t2 ⟨#[41]⟩).run Try.prog W= .ok (.string Z) W:=fun W=>by rw[hZ];exact run_string_add_sum W _ _ (by show t2.size+1≤9223372036854775807;omega)
     have HZ:Hid (Z=R):=(by show Z=R;rw[←hR.out];refine arr_mk _ _ ?_;rw[hZ,dt_app,ht2,dt_app,hT5,HY0.out,hU.out];simp[valBy,tx]);clear hZ ht2 ht2s hT5;go_wp2_with fail;refine(HUA.out _).mono ?_;rintro e w3 ⟨rfl,hB3⟩;go_wp2_with fail;go_ret2;rw[←hRR.out,HOK.out,if_pos rfl];exact⟨by rw[←HZ.out];rfl,HBw.out.trans (hB3.mono HBw.out.size)⟩
theorem rtext_leaf (F:Fl)(v:Value)(w:World)(hv:Hid (FlX w v F))(hs:Hid (Small1 F))(ha0: ¬F.attr.size=0)(hk:F.kind=3∨F.kind=4∨F.kind=5∨F.kind=6∨F.kind=7∨F.kind=8):
  Calls Try.prog 14 #[v] w fun e w'=>e= .returned (.tuple #[.string (if nameL (tx F.attr)=true then itemBy F else⟨#[]⟩),.bool (nameL (tx F.attr))])∧Below w.heap.size w w':=by
 obtain⟨xa,xc,ka,kc,rfl,hS,_,_,_⟩:=flX_form hv.out;obtain⟨s1,s2,s3,s4,s5,s6⟩:=hs.out;unfold flV itemBy itemT bodyT;rcases hk with h | h | h | h | h | h
 ·rw[h];exact rleaf_3 _ _ _ _ _ _ w s1 ha0 s2
 ·rw[h];exact rleaf_4 _ _ _ _ _ _ _ _ w s1 ha0 s3 s4 s5 (Lib.hid s6) hS
 ·rw[h];exact rleaf_5 _ _ _ _ _ _ w s1 ha0 s2
 ·rw[h];exact rleaf_6 _ _ _ _ _ _ w s1 ha0 s2
 ·rw[h];exact rleaf_7 _ _ _ _ _ _ w s1 ha0
 ·rw[h];exact rleaf_8 _ _ _ _ _ _ w s1 ha0 s2
theorem rtext_any: ∀ (d:Nat) (F:Fl) (v:Value) (w:World),Hid (FlX w v F)→TxB d F→rightD d F=true→Calls Try.prog 14 #[v] w (TextE (textF d F) w)
 | 0,F,v,w,_,_,h=>by cases h
 | d+1,F,v,w,hv,hb,h=>by
  unfold rightD at h;rw[Bool.and_eq_true,List.all_eq_true]at h;obtain⟨s0,hn,hL,hk⟩:=hb;by_cases hc:F.kind=0∨F.kind=1∨F.kind=2
  ·obtain⟨xa,xc,ka,kc,rfl,hS,hK,_,hkc⟩:=flX_form hv.out;have IH:Hid (∀k∈F.kids,∀v W,FlX W v k→Calls Try.prog 14 #[v] W (TextE (textF d k) W)):=fun k hm v W hf=>rtext_any d k v W (Lib.hid hf) (hk k hm) (h.2 k hm);have HL:Hid (∀k∈F.kids,∀t,textF d k=some t→t.length≤1000000000):=by
    intro k hm t ht;cases d with
    | zero=>cases ht
    | succ d=>exact(hk k hm).2.2.1 t ht
   unfold flV textF;rw[if_pos hc];rcases hc with e | e | e
   ·rw[e];exact rtext_0 d F.kids _ _ _ _ _ ka kc w hK hn IH HL
   ·rw[e];exact rtext_1 d F.kids _ _ _ _ _ ka kc w hK hn IH HL
   ·rw[e];exact rtext_2 d F.kids _ _ _ _ _ ka kc w hK hn IH HL
  ·refine(rtext_leaf F v w hv (Lib.hid s0) (attr_one h.1 hc) (leaf_kind2 h.1 hc)).mono ?_;rintro e w' ⟨rfl,hB⟩;unfold textF;rw[if_neg hc];cases hn:nameL (tx F.attr)with
   | true=>exact⟨hB,rfl⟩
   | false=>exact⟨hB,_,rfl⟩
end ftw
open Go.RowKit
namespace ftw
open ftp flp flw
open tupw (Strs strs_below)
theorem leaf_kind {F:Fl}(h:oneF F=true)(hk: ¬ (F.kind=0∨F.kind=1∨F.kind=2)):F.kind=3∨F.kind=4∨F.kind=5∨F.kind=6∨F.kind=7∨F.kind=8:=by
 rcases leaf_shape h hk with⟨a,v,k,hk2,rfl⟩ | ⟨a,rfl⟩ | ⟨a,p,m,z,rfl,_⟩
 ·show k=3∨k=4∨k=5∨k=6∨k=7∨k=8;omega
 ·exact Or.inr (Or.inr (Or.inr (Or.inr (Or.inl rfl))))
 ·exact Or.inr (Or.inl rfl)
theorem text_any: ∀ (d:Nat) (F:Fl) (v:Value) (w:World),Hid (FlX w v F)→TxB d F→rightD d F=true→Calls Try.prog 12 #[v] w (TextE (textF d F) w)
 | 0,F,v,w,_,_,h=>by cases h
 | d+1,F,v,w,hv,hb,h=>by
  unfold rightD at h;rw[Bool.and_eq_true,List.all_eq_true]at h;obtain⟨s0,hn,hL,hk⟩:=hb;by_cases hc:F.kind=0∨F.kind=1∨F.kind=2
  ·obtain⟨xa,xc,ka,kc,rfl,hS,hK,_,hkc⟩:=flX_form hv.out;have IH:Hid (∀k∈F.kids,∀v W,FlX W v k→Calls Try.prog 12 #[v] W (TextE (textF d k) W)):=fun k hm v W hf=>text_any d k v W (Lib.hid hf) (hk k hm) (h.2 k hm);have HL:Hid (∀k∈F.kids,∀t,textF d k=some t→t.length≤1000000000):=by
    intro k hm t ht;cases d with
    | zero=>cases ht
    | succ d=>exact(hk k hm).2.2.1 t ht
   unfold flV textF;rw[if_pos hc];rcases hc with e | e | e
   ·rw[e];exact text_0 d F.kids _ _ _ _ _ ka kc w hK hn IH HL
   ·rw[e];exact text_1 d F.kids _ _ _ _ _ ka kc w hK hn IH HL
   ·rw[e];exact text_2 d F.kids _ _ _ _ _ ka kc w hK hn IH HL
  ·refine(text_leaf F v w hv (Lib.hid s0) (leaf_kind h.1 hc)).mono ?_;rintro e w' ⟨rfl,hB⟩;unfold textF;rw[if_neg hc];cases hn:nameL (tx F.attr)with
   | true=>exact⟨hB,rfl⟩
   | false=>exact⟨hB,_,rfl⟩
end ftw
open Go.RowKit
namespace ftw
open ftp flp flw
theorem pieces_fit (st:Bool): ∀ (n:Nat) (l:T) (ps:List T) (r:T),l.length≤n→piecesP st l=some (ps,r)→r.length≤l.length∧ps≠[]∧ps.length≤l.length+1∧ ∀p∈ps,p.length≤l.length
 | n,[],ps,r,hl,h=>by unfold piecesP at h;cases h
 | 0,c::r0,ps,r,hl,h=>by simp at hl
 | n+1,c::r0,ps,r,hl,h=>by
  have hl2:r0.length≤n:=by simpa using hl
  have key: ∀ (d:UInt8) (r1:T) (q:List T × T),r1.length≤n→r1.length≤r0.length→piecesP st r1=some q→q.2.length≤(c::r0).length∧consB d q.1≠[]∧(consB d q.1).length≤(c::r0).length+1∧ ∀p∈consB d q.1,p.length≤(c::r0).length:=by
   intro d r1 q h1 h2 hq;obtain⟨a1,a2,a3,a4⟩:=pieces_fit st n r1 q.1 q.2 h1 hq;cases hp:q.1 with
   | nil=>exact absurd hp a2
   | cons p t=>
    rw[hp]at a3 a4;simp only[List.length_cons]at a3 ⊢;refine⟨by omega,by simp[consB],by simp only[consB,List.length_cons];omega,fun x hx=> ?_⟩;rcases List.mem_cons.1 hx with rfl | hx
    ·have:=a4 p (by simp);simp only[List.length_cons];omega
    ·have:=a4 x (by simp[hx]);omega
  unfold piecesP at h;split at h
  ·cases h
  ·split at h
   ·cases h;refine⟨Nat.le_refl _,by simp,by simp,fun p hp=> ?_⟩;rw[List.mem_singleton]at hp;subst hp;simp
   ·split at h
    ·split at h
     ·rw[Option.map_eq_some_iff]at h;obtain⟨q,hq,e⟩:=h;cases e;obtain⟨a1,a2,a3,a4⟩:=pieces_fit st n r0 q.1 q.2 hl2 hq;refine⟨by simp only[List.length_cons];omega,by simp,by simp only[List.length_cons];omega,fun p hp=> ?_⟩;rcases List.mem_cons.1 hp with rfl | hp
      ·simp
      ·have:=a4 p hp;simp only[List.length_cons];omega
     ·cases h
    ·split at h
     ·split at h
      ·rename_i hh ll r2;split at h
       ·cases h
       ·rw[Option.map_eq_some_iff]at h;obtain⟨q,hq,e⟩:=h;cases e;exact key _ r2 q (by simp only[List.length_cons]at hl2;omega) (by simp only[List.length_cons];omega) hq
      ·cases h
     ·rw[Option.map_eq_some_iff]at h;obtain⟨q,hq,e⟩:=h;cases e;exact key _ r0 q hl2 (Nat.le_refl _) hq
theorem bb_size (l:T):(bb l).size=l.length:=by unfold bb;show l.toArray.size=_;simp
theorem leafF_fit (nm:T)(k:Int)(ps:List T)(hn:nm.length≤100000)(hl:ps.length≤100000)(hp: ∀p∈ps,p.length≤100000):FitH (leafF nm k ps)∧(leafF nm k ps).kids=[]:=by
 have e0:(⟨#[]⟩:ByteArray).size=0:=rfl;have hnb:=bb_size nm;unfold leafF;split
 ·exact⟨⟨by show(bb nm).size≤_;omega,Nat.zero_le _,Nat.zero_le _,Nat.zero_le _,Nat.zero_le _,(fun x hx=>by cases hx),Nat.zero_le _⟩,rfl⟩
 ·rename_i v;have hv:=hp v (by simp);have hvb:=bb_size v;exact⟨⟨by show(bb nm).size≤_;omega,by show(bb v).size≤_;omega,Nat.zero_le _,Nat.zero_le _,Nat.zero_le _,(fun x hx=>by cases hx),Nat.zero_le _⟩,rfl⟩
 ·rename_i p q r;split
  ·exact⟨⟨by show(bb nm).size≤_;omega,Nat.zero_le _,Nat.zero_le _,Nat.zero_le _,Nat.zero_le _,(fun x hx=>by cases hx),Nat.zero_le _⟩,rfl⟩
  ·have h1:=hp p (by simp);have h1b:=bb_size p;have hz: ∀h,((q::r).getLast h).length≤100000:=fun h=>hp _ (List.mem_cons_of_mem _ (List.getLast_mem h));have hzb:=bb_size ((q::r).getLast (by simp));have hz2:=hz (by simp);refine⟨⟨by show(bb nm).size≤_;omega,Nat.zero_le _,by show(bb p).size≤_;omega,by show(bb _).size≤_;omega,?_,?_,Nat.zero_le _⟩,rfl⟩
   ·show((q::r).dropLast.map bb).length≤_;rw[List.length_map,List.length_dropLast];simp only[List.length_cons]at hl ⊢;omega
   ·intro x hx;have hx2:x∈(q::r).dropLast.map bb:=hx;obtain⟨y,hy,rfl⟩:=List.mem_map.1 hx2;rw[bb_size];exact hp y (List.mem_cons_of_mem _ (List.dropLast_subset _ hy))
theorem kindP_len (l:T):(kindP l).2.length≤l.length:=by unfold kindP;split<;>simp
theorem leaf_fit {s:T}{F:Fl}{r:T}(hs:s.length≤50000)(h:leafP s=some (F,r)):FitH F∧F.kids=[]∧r.length<s.length:=by
 unfold leafP at h;split at h
 ·cases h
 ·rename_i hne;split at h
  ·rename_i r1 hk;rw[Option.map_eq_some_iff]at h;obtain⟨q,hq,e⟩:=h;cases e;have h1:=kindP_len (s.drop (spanN s).length);rw[hk,List.length_drop]at h1;simp only[List.length_cons]at h1;have h2:=(span_len s).2;have h0:=List.length_pos_iff.2 hne;obtain⟨a1,a2,a3,a4⟩:=pieces_fit _ r1.length r1 q.1 q.2 (Nat.le_refl _) hq;have h3:=leafF_fit (spanN s) (kindP (s.drop (spanN s).length)).1 q.1 (by omega) (by omega) (fun p hp=>by have:=a4 p hp;omega);exact⟨h3.1,h3.2,by omega⟩
  ·cases h
theorem kids_fit2 {P:T→Option (Fl × T)}{Q:Fl→Prop}{N:Nat}(hP: ∀l k r,l.length≤N→P l=some (k,r)→Q k∧r.length<l.length): ∀ (m:Nat) (l:T) (ks:List Fl) (r:T),l.length≤N→kidsG P m l=some (ks,r)→(∀k∈ks,Q k)∧ks.length+r.length≤l.length
 | 0,l,ks,r,_,h=>by cases h
 | m+1,l,ks,r,hl,h=>by
  unfold kidsG at h;split at h
  ·split at h
   ·cases h
   ·rename_i k2 r2 hp;rw[Option.map_eq_some_iff]at h;obtain⟨q,hq,e⟩:=h;cases e;obtain⟨b1,b2⟩:=hP l k2 r2 hl hp;obtain⟨c1,c2⟩:=kids_fit2 hP m r2 q.1 q.2 (by omega) hq;refine⟨fun k hk=> ?_,by simp only[List.length_cons];omega⟩;rcases List.mem_cons.1 hk with rfl | hk
    ·exact b1
    ·exact c1 k hk
  ·cases h;exact⟨(fun k hk=>by cases hk),by simp⟩
theorem both_fit {k:Int}{ks:List Fl}(h:ks.length≤100000):FitH (both k ks):=⟨Nat.zero_le _,Nat.zero_le _,Nat.zero_le _,Nat.zero_le _,Nat.zero_le _,(fun x hx=>by cases hx),h⟩
theorem one_fit: ∀ (n:Nat) (l:T) (F:Fl) (r:T),l.length≤50000→oneP n l=some (F,r)→FitD n F∧r.length<l.length
 | 0,l,F,r,_,h=>by cases h
 | n+1,l,F,r,hl,h=>by
  unfold oneP at h;split at h
  ·rename_i c w;simp only[List.length_cons]at hl ⊢;split at h
   ·split at h
    ·rename_i ks r2 hks;cases h;obtain⟨c1,c2⟩:=kids_fit2 (Q:=FitD n) (N:=50000) (fun l k r hl h=>one_fit n l k r hl h) _ w ks (41::r) (by omega) hks;simp only[List.length_cons]at c2;exact⟨⟨both_fit (by omega),c1⟩,by omega⟩
    ·cases h
   ·split at h
    ·split at h
     ·rename_i k r2 hk;cases h;obtain⟨c1,c2⟩:=one_fit n w k (41::r) (by omega) hk;simp only[List.length_cons]at c2;refine⟨⟨both_fit (by simp),fun x hx=> ?_⟩,by omega⟩;have:x=k:=(by simpa[notF,both,Fl.kids]using hx);rw[this];exact c1
     ·cases h
    ·split at h
     ·rename_i G r2 hG;cases h;obtain⟨c1,c2,c3⟩:=leaf_fit (by simp only[List.length_cons];omega) hG;simp only[List.length_cons]at c3;exact⟨⟨c1,fun x hx=>by rw[c2]at hx;cases hx⟩,by omega⟩
     ·cases h
  ·cases h
theorem parse_fit {s:T}:FitX (parseT s).1:=by
 have h0:FitX noFl:=⟨1,⟨Nat.zero_le _,Nat.zero_le _,Nat.zero_le _,Nat.zero_le _,Nat.zero_le _,(fun x hx=>by cases hx),Nat.zero_le _⟩,fun x hx=>by cases hx⟩;unfold parseT;split
 ·exact h0
 ·split
  ·rename_i F hF;split
   ·exact⟨_,(one_fit _ _ _ _ (by omega) hF).1⟩
   ·exact h0
  ·exact h0
theorem le_sum {α:Type}(f:α→Nat): ∀ {l:List α} {x:α},x∈l→f x≤(l.map f).sum
 | y::l,x,h=>by
  rw[List.map_cons,List.sum_cons];rcases List.mem_cons.1 h with rfl | h
  ·omega
  ·have:=le_sum f h;omega
theorem len_sum {α:Type}(f:α→Nat): ∀ {l:List α},(∀x∈l,1≤f x)→l.length≤(l.map f).sum
 | [],_=>Nat.le_refl _
 | y::l,h=>by rw[List.map_cons,List.sum_cons,List.length_cons];have:=len_sum f (l:=l) fun x hx=>h x (by simp[hx]);have:=h y (by simp);omega
theorem cnt_pos {d:Nat}{F:Fl}(h:rightD d F=true):1≤cntN d F:=by
 cases d with
 | zero=>cases h
 | succ d=>unfold cntN;omega
theorem any_len: ∀l:List ByteArray,(∀x∈l,x.size≤100000)→(l.flatMap fun x=>valL (tx x)++[42]).length≤l.length*300001
 | [],_=>by simp
 | x::l,h=>by rw[List.flatMap_cons,List.length_append,List.length_append,List.length_cons,List.length_cons,List.length_nil];have h1:=any_len l fun y hy=>h y (by simp[hy]);have h2:=valL_len (tx x);have h3:=h x (by simp);have h4:(tx x).length=x.size:=kt.size_len x;omega
theorem opT_len (k:Int):(opT k).length≤2:=by
 unfold opT;split
 ·simp
 ·split
  ·simp
  ·split<;>simp
theorem item_len {F:Fl}(h1:oneF F=true)(hk: ¬ (F.kind=0∨F.kind=1∨F.kind=2))(hf:FitH F):(itemT F).length≤5000000:=by
 obtain⟨f1,f2,f3,f4,f5,f6,f7⟩:=hf;have ha:(tx F.attr).length=F.attr.size:=kt.size_len _;have hv:=valL_len (tx F.value);have hv2:(tx F.value).length=F.value.size:=kt.size_len _;have hp:=valL_len (tx F.first);have hp2:(tx F.first).length=F.first.size:=kt.size_len _;have hz:=valL_len (tx F.last);have hz2:(tx F.last).length=F.last.size:=kt.size_len _;have hm:=any_len F.any f6;have ho:=opT_len F.kind;unfold itemT bodyT;simp only[List.length_cons,List.length_append,List.length_nil];split
 ·simp only[List.length_cons,List.length_nil];omega
 ·split
  ·rename_i h4;have h8:F.any.length≤8:=(by unfold oneF at h1;rw[if_neg (by omega),if_neg (by omega),if_neg (by omega),if_pos h4]at h1;simp only[Bool.and_eq_true,decide_eq_true_iff]at h1;exact h1.1.2);simp only[List.length_cons,List.length_append];omega
  ·simp only[List.length_append];omega
theorem cat_len {d:Nat}{P:Fl→Prop}(ih: ∀F t,P F→textF d F=some t→t.length≤cntN d F*5000000): ∀ (ks:List Fl) (t:T),(∀k∈ks,P k)→catO (ks.map (textF d))=some t→t.length≤(ks.map (cntN d)).sum*5000000
 | [],t,_,h=>by cases h;simp
 | k::ks,t,hp,h=>by
  rw[List.map_cons]at h;cases hk:textF d k with
  | none=>rw[hk]at h;cases h
  | some u=>rw[hk]at h;unfold catO at h;rw[Option.map_eq_some_iff]at h;obtain⟨v,hv,rfl⟩:=h;have h1:=ih k u (hp k (by simp)) hk;have h2:=cat_len ih ks v (fun x hx=>hp x (by simp[hx])) hv;rw[List.length_append,List.map_cons,List.sum_cons,Nat.add_mul];omega
theorem text_len: ∀ (d:Nat) (F:Fl) (t:T),rightD d F=true→FitX F→textF d F=some t→t.length≤cntN d F*5000000
 | 0,_,_,h,_,_=>by cases h
 | d+1,F,t,h,hf,ht=>by
  unfold rightD at h;rw[Bool.and_eq_true,List.all_eq_true]at h;unfold textF at ht;have hc:cntN (d+1) F=1+(F.kids.map (cntN d)).sum:=rfl;rw[hc,Nat.add_mul];by_cases hk:F.kind=0∨F.kind=1∨F.kind=2
  ·rw[if_pos hk,Option.map_eq_some_iff]at ht;obtain⟨u,hu,rfl⟩:=ht;have:=cat_len (P:=fun k=>rightD d k=true∧FitX k) (fun F t hp h=>text_len d F t hp.1 hp.2 h) F.kids u (fun k hm=>⟨h.2 k hm,fitX_kid hf hm⟩) hu;simp only[List.length_cons,List.length_append,List.length_nil];omega
  ·rw[if_neg hk]at ht;split at ht
   ·cases ht;have:=item_len h.1 hk (fitX_head hf);omega
   ·cases ht
theorem small_fit {F:Fl}(h:FitH F):Small1 F:=by obtain⟨f1,f2,f3,f4,f5,f6,f7⟩:=h;exact⟨by omega,by omega,by omega,by omega,by omega,fun p hp=>by have:=f6 p hp;omega⟩
theorem txB_fit: ∀ (d:Nat) (F:Fl),rightD d F=true→FitX F→cntN d F≤40→TxB d F
 | 0,_,h,_,_=>by cases h
 | d+1,F,h,hf,hc=>by have h0:=h;unfold rightD at h;rw[Bool.and_eq_true,List.all_eq_true]at h;have hc2:1+(F.kids.map (cntN d)).sum≤40:=hc;have hl:=len_sum (cntN d) (l:=F.kids) fun k hk=>cnt_pos (h.2 k hk);refine⟨small_fit (fitX_head hf),by omega,fun t ht=> ?_,fun k hk=>txB_fit d k (h.2 k hk) (fitX_kid hf hk) (by have:=le_sum (cntN d) hk;omega)⟩;have:=text_len (d+1) F t h0 hf ht;omega
end ftw
open Go.RowKit
namespace ftw
open ftp flp flw
open tupw (Strs strs_below)
theorem print_no {F:Fl}(h:rightF F=false):printF F=([],4):=by unfold printF;rw[if_neg (by rw[h];decide)]
theorem print_none {F:Fl}(h:rightF F=true)(ht:textF 8 F=none):printF F=([],4):=by unfold printF;rw[if_pos h,ht]
theorem print_some {F:Fl}{t:T}(h:rightF F=true)(ht:textF 8 F=some t):printF F=(t,0):=by unfold printF;rw[if_pos h,ht]
theorem print_any (F:Fl)(v:Value)(w:World)(hv:Hid (FlX w v F))(hf:Hid (FitX F)):
  Calls Try.prog 6 #[v] w fun e w'=>e= .returned (.tuple #[.string (bb (printF F).1),.int .i64 (printF F).2])∧Below w.heap.size w w':=by
 have HR0:Hid (∀W,Below w.heap.size w W→Calls Try.prog 11 #[v] W fun e w'=>e= .returned (.bool (rightF F))∧Below W.heap.size W w'):=fun W h=>right_any F v W (Lib.hid (flX_below hv.out h)) hf;have HE0:Hid (rightF F=true→ ∀W,Below w.heap.size w W→Calls Try.prog 12 #[v] W (TextE (textF 8 F) W)):=fun hr W h=>text_any 8 F v W (Lib.hid (flX_below hv.out h)) (txB_fit 8 F ((rightF_iff F).1 hr).1 hf.out ((rightF_iff F).1 hr).2) ((rightF_iff F).1 hr).1;obtain⟨P,hP⟩: ∃P,Hid (printF F=P):=⟨_,Lib.hid rfl⟩;have HV0:Hid (rightF F=false→P=([],4)):=fun h=>by rw[←hP.out];exact print_no h
 have HVn:Hid (rightF F=true→textF 8 F=none→P=([],4)):=fun h h2=>by rw[←hP.out];exact print_none h h2
 have HVs:Hid (rightF F=true→ ∀t,textF 8 F=some t→P=(t,0)):=fun h t h2=>by rw[←hP.out];exact print_some h h2
 rw[hP.out];clear hP;generalize textF 8 F=o at HE0 HVn HVs;generalize rightF F=rb at HR0 HE0 HV0 HVn HVs;obtain⟨xa,xc,ka,kc,rfl,HX,HK,hxc,hkc⟩:=flX_form hv.out;unfold flV;unfold flV at HR0 HE0;generalize(Value.slice xa F.any.length xc)=x at HR0 HE0 ⊢;generalize(Value.slice ka F.kids.length kc)=y at HR0 HE0 ⊢;generalize F.kind=K at HR0 HE0 ⊢;generalize F.attr=s1 at HR0 HE0 ⊢;generalize F.value=s2 at HR0 HE0 ⊢;generalize F.first=s3 at HR0 HE0 ⊢;generalize F.last=s5 at HR0 HE0 ⊢;clear hv hf HX HK hxc hkc;obtain⟨W1,hW1⟩: ∃W,w.alloc (.cells #[.int .i64 K,.string s1,.string s2,.string s3,x,.string s5,y] 25)=W:=⟨_,rfl⟩;have hB1:Below w.heap.size w W1:=by rw[←hW1];exact(Below.refl _ _).alloc (Nat.le_refl _) _
 have HF1:Hid (R7 W1 w.heap.size (.int .i64 K) (.string s1) (.string s2) (.string s3) x (.string s5) y):=by rw[←hW1];exact r7_new _ _ _ _ _ _ _ _
 obtain⟨k0,k1,k2,k3,k4,k5,k6⟩:=r7_cells HF1.out;have HB1:=Lib.hid hB1;have hs1:=hB1.size;clear hB1;have HR1:=Lib.hid (HR0.out W1 HB1.out);clear HR0;cases rb with
 | false=>have HR:=Lib.hid (HV0.out rfl);clear HV0 HVn HVs HE0;go_enter Try.func6,Try.ntmps6;go_wp2_with fail;refine HR1.out.mono ?_;rintro e w2 ⟨rfl,hB2⟩;have HB2:=Lib.hid (HB1.out.trans (hB2.mono hs1));clear hB2 k0 k1 k2 k3 k4 k5 k6;go_wp2_with fail;go_ret2;exact⟨by rw[HR.out];rfl,HB2.out⟩
 | true=>
  have HE1:=Lib.hid (HE0.out rfl);have HVn1:=Lib.hid (HVn.out rfl);have HVs1:=Lib.hid (HVs.out rfl);clear HE0 HV0 HVn HVs;go_enter Try.func6,Try.ntmps6;go_wp2_with fail;refine HR1.out.mono ?_;rintro e w2 ⟨rfl,hB2⟩;have HB2:=Lib.hid (HB1.out.trans (hB2.mono hs1));have HF2:=Lib.hid (r7_below HF1.out hB2);clear hB2 k0 k1 k2 k3 k4 k5 k6;obtain⟨k0,k1,k2,k3,k4,k5,k6⟩:=r7_cells HF2.out;go_wp2_with fail;refine(HE1.out w2 HB2.out).mono ?_;rintro e w3 ⟨hB3,hE⟩;have HB3:=Lib.hid (HB2.out.trans (hB3.mono HB2.out.size));clear hB3 k0 k1 k2 k3 k4 k5 k6;cases o with
  | none=>obtain⟨s,rfl⟩:=hE;have HR:=Lib.hid (HVn1.out rfl);clear HVn1 HVs1;go_wp2_with fail;go_ret2;exact⟨by rw[HR.out];rfl,HB3.out⟩
  | some t=>subst hE;have HR:=Lib.hid (HVs1.out t rfl);clear HVn1 HVs1;go_wp2_with fail;go_ret2;exact⟨by rw[HR.out];rfl,HB3.out⟩
end ftw
open Go.RowKit
namespace flw
open flp atp atw etp etw
open tupw (Strs strs_below)
theorem pieces_any (F:Fl)(v:Value)(w:World)(hv:Hid (FlX w v F))(hf:Hid (FitX F)):
  Calls Try.prog 44 #[v] w fun e w'=>e= .returned (.bool (piecesF F))∧Below w.heap.size w w':=by
 have HR0:Hid (piecesF F=((F.any.any fun x=> !isE x)|| !isE F.first|| !isE F.last)):=rfl;obtain⟨R,hR⟩: ∃R,piecesF F=R:=⟨_,rfl⟩;rw[hR]at HR0 ⊢;clear hR;have q3:=isE_list F.first;have q5:=isE_list F.last;generalize isE F.first=y3 at q3 HR0;generalize isE F.last=y5 at q5 HR0;obtain⟨xa,xc,ka,kc,rfl,HX,HK,hxc,hkc⟩:=flX_form hv.out;unfold flV;obtain⟨N,hN⟩: ∃N,F.kids.length=N:=⟨_,rfl⟩;have HN:=Lib.hid hN;obtain⟨M,hM⟩: ∃M,F.any.length=M:=⟨_,rfl⟩;have HM:=Lib.hid hM;have HFH:=Lib.hid (fitX_head hf.out);have hNb:N≤100000:=by rw[←hN];exact HFH.out.2.2.2.2.2.2
 have hMb:M≤100000:=by rw[←hM];exact HFH.out.2.2.2.2.1
 rw[hN]at hkc ⊢;rw[hM]at hxc ⊢;clear hN hM;obtain⟨W1,hW1⟩: ∃W,w.alloc (.cells #[.int .i64 F.kind,.string F.attr,.string F.value,.string F.first,.slice xa M xc,.string F.last,.slice ka N kc] 25)=W:=⟨_,rfl⟩;have hB1:Below w.heap.size w W1:=by rw[←hW1];exact(Below.refl _ _).alloc (Nat.le_refl _) _
 have HF1:Hid (R7 W1 w.heap.size (.int .i64 F.kind) (.string F.attr) (.string F.value) (.string F.first) (.slice xa M xc) (.string F.last) (.slice ka N kc)):=by rw[←hW1];exact r7_new _ _ _ _ _ _ _ _
 obtain⟨k0,k1,k2,k3,k4,k5,k6⟩:=r7_cells HF1.out;have HB1:=Lib.hid hB1;have hs1:=hB1.size;clear hB1;go_enter Try.func44,Try.ntmps44;go_wp2_with fail;clear k0 k1 k2 k3 k4 k5 k6;go_loopw [3] (fun iv wr=> ∃i:Nat,i≤M∧iv= .int .i64 (i:Int)∧Hid (Below w.heap.size w wr)∧Hid (R7 wr w.heap.size (.int .i64 F.kind) (.string F.attr) (.string F.value) (.string F.first) (.slice xa M xc) (.string F.last) (.slice ka N kc))∧Hid ((F.any.take i).any (fun x=> !isE x)=false)) (fun iv _=>M- (intOf iv).toNat);case atStart=>exact⟨0,Nat.zero_le _,rfl,HB1.out,HF1.out,rfl⟩
 case round=>
  obtain⟨i,hi,rfl,hB,hT,hJ⟩:=hrel;obtain⟨k0,k1,k2,k3,k4,k5,k6⟩:=r7_cells hT.out;by_cases hlt:i<M
  ·have hltI:(i:Int)<(M:Int):=(by omega);have hil:i<F.any.length:=(by rw[HM.out];exact hlt);obtain⟨b,o,hao,hc0⟩:=(strs_below HX.out hB.out) i hil;subst hao;have HTS:Hid (F.any.take (i+1)=F.any.take i++[F.any[i]]):=(by show _=_;rw[List.take_succ_eq_append_getElem hil]);have HMEM:=Lib.hid (List.getElem_mem hil);obtain⟨x,hx⟩: ∃x,F.any[i]=x:=⟨_,rfl⟩;rw[hx]at hc0 HTS HMEM;clear hx;have qx:=isE_list x;have HXE:Hid (isE x=isE x):=rfl;obtain⟨bx,hbx⟩: ∃b,isE x=b:=⟨_,rfl⟩;rw[hbx]at qx;have HBX:=Lib.hid hbx;clear hbx HXE;cases bx with
   | false=>have HR:Hid (R=true):=(by show _=_;rw[HR0.out,List.any_eq_true.2 ⟨x,HMEM.out,by rw[HBX.out];rfl⟩];rfl);go_wp2_with fail;go_ret;exact⟨kt.ret_bool HR.out.symm,hB.out⟩
   | true=>
    have HJ2:Hid ((F.any.take (i+1)).any (fun x=> !isE x)=false):=(by show _=_;rw[HTS.out,List.any_append,hJ.out,List.any_cons,HBX.out];rfl);go_wp2_with fail;go_roundw;case rel=>exact⟨i+1,by omega,by go_num,hB.out,hT.out,HJ2.out⟩
    case measure=>simp[intOf];omega
  ·obtain rfl:M=i:=(by omega);have HR:Hid (R=(false|| !y3|| !y5)):=(by have h:=hJ.out;rw[←HM.out,List.take_length]at h;show _=_;rw[HR0.out,h]);clear hJ HR0;cases y3 with
   | false=>go_wp2_with fail;go_ret;exact⟨kt.ret_bool HR.out.symm,hB.out⟩
   | true=>
    cases y5;all_goals
     go_wp2_with fail;go_ret;exact⟨kt.ret_bool HR.out.symm,hB.out⟩
section
variable (F : Fl)
theorem rn01 (h:F.kind=0∨F.kind=1):oneF F=(isE F.attr&&isE F.value&& !(!isE F.first||decide (0<F.any.length)|| !isE F.last)):=by unfold oneF;exact if_pos h
theorem rn2 (h:F.kind=2):oneF F=(isE F.attr&&isE F.value&& !(!isE F.first||decide (0<F.any.length)|| !isE F.last)&&decide (F.kids.length=1)):=by unfold oneF;rw[if_neg (show¬ (F.kind=0∨F.kind=1)from by show¬ (F.kind=0∨F.kind=1);omega)];exact if_pos h
theorem rn3 (h:F.kind=3∨F.kind=5∨F.kind=6∨F.kind=8):oneF F=(decide (1≤F.attr.size)&&decide (F.attr.size≤64)&& !(!isE F.first||decide (0<F.any.length)|| !isE F.last)&&decide (F.kids.length=0)):=by unfold oneF;rw[if_neg (show¬ (F.kind=0∨F.kind=1)from by show¬ (F.kind=0∨F.kind=1);omega),if_neg (show¬ (F.kind=2)from by show¬ (F.kind=2);omega)];exact if_pos h
theorem rn4 (h:F.kind=4):oneF F=(decide (1≤F.attr.size)&&decide (F.attr.size≤64)&&isE F.value&&piecesF F&&decide (F.any.length≤8)&&decide (F.kids.length=0)):=by unfold oneF;rw[if_neg (show¬ (F.kind=0∨F.kind=1)from by show¬ (F.kind=0∨F.kind=1);omega),if_neg (show¬ (F.kind=2)from by show¬ (F.kind=2);omega),if_neg (show¬ (F.kind=3∨F.kind=5∨F.kind=6∨F.kind=8)from by show¬ (F.kind=3∨F.kind=5∨F.kind=6∨F.kind=8);omega)];exact if_pos h
theorem rn7 (h:F.kind=7):oneF F=(decide (1≤F.attr.size)&&decide (F.attr.size≤64)&&isE F.value&& !(!isE F.first||decide (0<F.any.length)|| !isE F.last)&&decide (F.kids.length=0)):=by unfold oneF;rw[if_neg (show¬ (F.kind=0∨F.kind=1)from by show¬ (F.kind=0∨F.kind=1);omega),if_neg (show¬ (F.kind=2)from by show¬ (F.kind=2);omega),if_neg (show¬ (F.kind=3∨F.kind=5∨F.kind=6∨F.kind=8)from by show¬ (F.kind=3∨F.kind=5∨F.kind=6∨F.kind=8);omega),if_neg (show¬ (F.kind=4)from by show¬ (F.kind=4);omega)];exact if_pos h
theorem rn_no (h: ¬ (0≤F.kind∧F.kind≤8)):oneF F=false:=by have:=one_no F.kind F.attr F.value F.first F.last F.any F.kids h;rw[←Fl.eta F]at this;exact this
end
end flw
end Go.Proofs.Ytffkghkkobmhaaa
