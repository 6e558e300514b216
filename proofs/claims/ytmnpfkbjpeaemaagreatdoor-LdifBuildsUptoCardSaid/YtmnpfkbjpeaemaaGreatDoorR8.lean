/- One text out of several: PairW, SignsW, RParseW. -/
import Derived.Test.YtmnpfkbjpeaemaaGreatDoorR7
import Derived.Test.YtmnpfkbjpeaemaaGreatDoorR5
set_option linter.unusedVariables false
set_option linter.unusedSimpArgs false
set_option maxRecDepth 100000
set_option maxHeartbeats 4000000
namespace Go.Proofs.YtmnpfkbjpeaemaaGreatDoor
open Go.RowKit
namespace dnw
open dnp
def PairE (L:List Sg)(w:World)(e:Ending)(w':World):Prop:=
 Below w.heap.size w w'∧match pairS L with
  | none=> ∃t v:ByteArray,e= .returned (.tuple #[.agg #[.string t,.string v],.bool false])
  | some p=>e= .returned (.tuple #[.agg #[.string ⟨p.1.toArray⟩,.string ⟨p.2.toArray⟩],.bool true])
theorem pairE_none {L:List Sg}{w w':World}{t v:ByteArray}(h:pairS L=none)(hb:Below w.heap.size w w'):PairE L w (.returned (.tuple #[.agg #[.string t,.string v],.bool false])) w':=by refine⟨hb,?_⟩;rw[h];exact⟨t,v,rfl⟩
theorem pairS_no {L:List Sg}(h: ∀x∈L,eqS x=false):pairS L=none:=by
 cases hp:pairS L with
 | none=>rfl
 | some p=>obtain⟨A,V,h1,_⟩:=pairS_some hp;exact absurd (h (61,true) (by rw[h1];simp)) (by decide)
theorem split_at {L:List Sg}{i:Nat}(hi:i<L.length)(h:eqS L[i]=true):L=L.take i++(61,true)::L.drop (i+1):=by
 have e:L[i]=(61,true):=by rcases hx:L[i]with⟨c,b⟩;rw[hx]at h;unfold eqS at h;simp only[Bool.and_eq_true,decide_eq_true_eq]at h;obtain⟨rfl,rfl⟩:=h;rfl
 rw[←e];simp
def partV (A V:List Sg):Option Pr:=if(A.all (·.2))=true∧typeOK (lowL (A.map (·.1)))=true∧rightOK V=true then some (lowL (A.map (·.1)),V.map (·.1))else none
theorem partV_bare {A V:List Sg}{x:Sg}(h:x∈A)(hx:x.2=false):partV A V=none:=by unfold partV;rw[if_neg];rintro⟨h1,_⟩;have:=List.all_eq_true.1 h1 x h;rw[hx]at this;cases this
def badAt (i:Nat)(x:Sg):Bool:=x.2&&(bad x.1||decide (x.1=35)&&decide (i=0))
theorem partV_bad {A V:List Sg}{i:Nat}(hi:i<V.length)(h:badAt i V[i]=true):partV A V=none:=by
 unfold partV;rw[if_neg];rintro⟨_,_,h1⟩;unfold badAt at h;simp only[Bool.and_eq_true,Bool.or_eq_true,decide_eq_true_eq]at h;obtain⟨hb,h2 | ⟨h2,rfl⟩⟩:=h
 ·rw[rightOK_bad (List.getElem_mem hi) (by unfold badS;rw[hb,h2];rfl)]at h1;cases h1
 ·unfold rightOK at h1;cases V with
  | nil=>simp at hi
  | cons x t=>simp only[List.getElem_cons_zero]at hb h2;simp[hb,h2]at h1
theorem rightOK_of {V:List Sg}(h: ∀i (hi:i<V.length),badAt i V[i]=false):rightOK V=true:=by
 unfold rightOK;have h1:(V.any fun x=>x.2&&bad x.1)=false:=by rw[Bool.eq_false_iff];intro hh;obtain⟨x,hx,hx2⟩:=List.any_eq_true.1 hh;obtain⟨i,hi,rfl⟩:=List.mem_iff_getElem.1 hx;have:=h i hi;unfold badAt at this;simp only[Bool.and_eq_true]at hx2;rw[hx2.1,hx2.2]at this;cases this
 rw[h1];cases V with
 | nil=>rfl
 | cons x t=>
  have:=h 0 (by simp);unfold badAt at this;simp only[List.getElem_cons_zero,decide_true,Bool.and_true]at this;simp only[Bool.not_false,Bool.true_and];cases hx:(x.2&&decide (x.1=35))with
  | false=>rfl
  | true=>simp only[Bool.and_eq_true]at hx;rw[hx.1,hx.2]at this;simp at this
theorem partV_end {A V:List Sg}(h1: ∀x∈A,x.2=true)(h2: ∀i (hi:i<V.length),badAt i V[i]=false):partV A V=if typeOK (lowL (A.map (·.1)))=true then some (lowL (A.map (·.1)),V.map (·.1))else none:=by unfold partV;rw[rightOK_of h2,List.all_eq_true.2 (fun x hx=>h1 x hx)];simp
theorem pc_cells {w:World}{p:Nat}(h: ∃x y:ByteArray,w.heap[p]? =some (.cells #[.string x,.string y] 51 (0,0))):(∃x,w.cell? ⟨p,0,none⟩=some (.string x))∧(∃y,w.cell? ⟨p,1,none⟩=some (.string y))∧w.frozen? ⟨p,0,none⟩=false∧w.frozen? ⟨p,1,none⟩=false:=by obtain⟨x,y,h⟩:=h;exact⟨⟨x,by rw[Lib.cell_of_heap h];rfl⟩,⟨y,by rw[Lib.cell_of_heap h];rfl⟩,Lib.frozen_of_heap h 0,Lib.frozen_of_heap h 1⟩
def PC (w:World)(p:Nat):Prop:= ∃x y:ByteArray,w.heap[p]? =some (.cells #[.string x,.string y] 51 (0,0))
theorem pc_below {w w':World}{p:Nat}(h:PC w p)(hb:Below (p+1) w w'):PC w' p:=by obtain⟨x,y,h⟩:=h;exact⟨x,y,(hb.block p (by omega)).trans h⟩
theorem pc_below2 {wr wq:World}{p:Nat}(h:PC wr p)(hb:Below wr.heap.size wr wq):PC wq p:=by obtain⟨x,y,h⟩:=h;exact⟨x,y,(hb.block p (bld.lt_of_heap h)).trans h⟩
theorem pc_store {w:World}{p:Nat}(h:PC w p)(a b:ByteArray):((w.setCell ⟨p,0,none⟩ (.string a)).setCell ⟨p,1,none⟩ (.string b)).cell? ⟨p,0,none⟩=some (.string a)∧((w.setCell ⟨p,0,none⟩ (.string a)).setCell ⟨p,1,none⟩ (.string b)).cell? ⟨p,1,none⟩=some (.string b):=by
 obtain⟨⟨x,h0⟩,⟨y,h1⟩,_,_⟩:=pc_cells h;have k0:=World.cell?_setCell_same w ⟨p,0,none⟩ (.string a) h0;have k1:(w.setCell ⟨p,0,none⟩ (.string a)).cell? ⟨p,1,none⟩=some (.string y):=by rw[World.cell?_setCell_other _ _ _ _ (by intro hh;injection hh with _ h _;cases h),h1]
 refine⟨?_,World.cell?_setCell_same _ _ _ k1⟩;rw[World.cell?_setCell_other _ _ _ _ (by intro hh;injection hh with _ h _;cases h),k0]
theorem take_next (A:List Sg)(k:Nat)(h:k<A.length):A.take (k+1)=A.take k++[A[k]]:=List.take_succ_eq_append_getElem h
theorem low_nat (c:UInt8):((low c).toNat:Int)=if 65≤(c.toNat:Int)∧(c.toNat:Int)≤90 then(c.toNat:Int)+32 else(c.toNat:Int):=by
 have all: ∀m:Fin 256,((low (UInt8.ofNat m.val)).toNat:Int)=if 65≤(m.val:Int)∧(m.val:Int)≤90 then(m.val:Int)+32 else(m.val:Int):=by decide+kernel
 have h:=all ⟨c.toNat,c.toNat_lt⟩;simp only[UInt8.ofNat_toNat]at h;exact h
theorem pair_any (ao:Option Addr)(cap:Nat)(L:List Sg)(w:World)(hA:Hid (Sgs w ao L))(hc:L.length≤cap)(hl:L.length≤100000):
  Calls Tryz.prog 160 #[.slice ao L.length cap] w fun e w'=>PairE L w e w':=by
 obtain⟨m,hm⟩: ∃m,m=L.length:=⟨_,rfl⟩;have HM:=Lib.hid hm;rw[←hm]at hc hl ⊢;clear hm;go_enter Tryz.func160,Tryz.ntmps160;go_wp2_with fail;go_loopw [4] (fun iv wr=> ∃i:Nat,i≤m∧iv= .int .i64 (i:Int)∧Hid (∀j (h:j<L.length),j<i→eqS L[j]=false)∧Below w.heap.size w wr∧Hid (PC wr w.heap.size)) (fun iv _=>m- (intOf iv).toNat);case atStart=>exact⟨0,Nat.zero_le _,rfl,fun j _ h=>by omega,(Below.refl _ _).alloc (Nat.le_refl _) _,⟨_,_,heap_alloc_new w _⟩⟩
 case round=>
  obtain⟨i,hi,rfl,hP,hB,hC⟩:=hrel;have hsz:=hB.size;obtain⟨wo,rfl⟩: ∃x,x=wr:=⟨_,rfl⟩;have HPLT:Hid (w.heap.size<wo.heap.size):=by obtain⟨x,y,h⟩:=hC.out;exact bld.lt_of_heap h
  by_cases hlt:i<m
  ·have hlt':(i:Int)<(m:Int):=(by omega);have hil:i<L.length:=(by rw[←HM.out];exact hlt);obtain⟨b,o,hao,hc0,hc1⟩:=hA.out i hil;subst hao;have hcc0:=(hB.cell (World.block_lt_of_cell? w _ hc0)).trans hc0;have hcc1:=(hB.cell (World.block_lt_of_cell? w _ hc1)).trans hc1;have HNX:Hid (eqS L[i]=false→ ∀j (h:j<L.length),j<i+1→eqS L[j]=false):=by
    intro h j hj hji;by_cases e:j=i
    ·subst e;exact h
    ·exact hP.out j hj (by omega)
   have HSP:Hid (eqS L[i]=true→L=L.take i++(61,true)::L.drop (i+1)):=fun h=>split_at hil h;generalize L[i]=x at hcc0 hcc1 HNX HSP;obtain⟨c,bare⟩:=x;simp only at hcc0 hcc1;clear hc0 hc1;have hcn:=c.toNat_lt;cases bare with
   | false=>
    have HN:=Lib.hid (HNX.out rfl);clear HNX HSP;go_wp2_with fail;go_roundw;case rel=>exact⟨i+1,by omega,by go_num,HN,hB,hC⟩
    case measure=>simp[intOf];omega
   | true=>
    by_cases h61:(c.toNat:Int)=61
    ·have q:((c.toNat:Int)==61)=true:=(by rw[beq_iff_eq];exact h61);have hc61:=u8_eq (n:=61) (by omega) h61;subst hc61;have HS:=Lib.hid (HSP.out rfl);have q2:((i:Int)==(m:Int))=false:=(by rw[beq_eq_false_iff_ne];omega);have HPV:Hid (pairS L=partV (trim (L.take i)) (trim (L.drop (i+1)))):=(by have h:=HS.out;show pairS L=_;rw[h,pairS_at _ _ (fun x hx=>by obtain⟨j,hj,rfl⟩:=List.mem_iff_getElem.1 hx;rw[List.length_take]at hj;rw[List.getElem_take];exact hP.out j (by omega) (by omega))];rw[←h];rfl);clear HNX HSP HS h61;have hl1:(L.take i).length=i:=(by rw[List.length_take];omega);have hl2:(L.drop (i+1)).length=m- (i+1):=(by rw[List.length_drop,HM.out]);have CT1:=trim_any (some ⟨b,o,none⟩) cap (L.take i) wo (Lib.hid (sgs_take (sgs_below hA.out hB) i)) (by omega) (by omega);rw[hl1]at CT1;have CT2:Hid (∀ao' cap',Sgs wo ao' (L.drop (i+1))→(L.drop (i+1)).length≤cap'→Calls Tryz.prog 159 #[.slice ao' (m- (i+1)) cap'] wo fun e w'=>TrimE (L.drop (i+1)) wo e w'):=(by intro ao' cap' h1 h2;have:=trim_any ao' cap' (L.drop (i+1)) wo (Lib.hid h1) h2 (by omega);rw[hl2]at this;exact this);obtain⟨A,hAe⟩: ∃A,A=trim (L.take i):=⟨_,rfl⟩;obtain⟨V,hVe⟩: ∃V,V=trim (L.drop (i+1)):=⟨_,rfl⟩;obtain⟨n1,hn1⟩: ∃n,n=A.length:=⟨_,rfl⟩;obtain⟨n2,hn2⟩: ∃n,n=V.length:=⟨_,rfl⟩;have hAl:=trim_len (L.take i);have hVl:=trim_len (L.drop (i+1));rw[←hAe,hl1]at hAl;rw[←hVe,hl2]at hVl;have hn1l:n1≤100000:=(by omega);have hn2l:n2≤100000:=(by omega);have HT1:Hid (Calls Tryz.prog 159 #[.slice (some ⟨b,o,none⟩) i cap] wo fun e w'=>wo=w'∧ ∃ao cap,e= .returned (.slice ao n1 cap)∧Sgs wo ao A):=(by refine CT1.mono ?_;rintro e w' ⟨h1,ao,cap,h2,h3,h4⟩;rw[←hAe]at h2 h4;exact⟨h1,ao,cap,by rw[h2,hn1],h4⟩);have HT2:Hid (∀ao' cap',Sgs wo ao' (L.drop (i+1))→(L.drop (i+1)).length≤cap'→Calls Tryz.prog 159 #[.slice ao' (m- (i+1)) cap'] wo fun e w'=>wo=w'∧ ∃ao cap,e= .returned (.slice ao n2 cap)∧Sgs wo ao V):=(by intro ao' cap' h1 h2;refine(CT2.out ao' cap' h1 h2).mono ?_;rintro e w' ⟨h1,ao,cap,h2,h3,h4⟩;rw[←hVe]at h2 h4;exact⟨h1,ao,cap,by rw[h2,hn2],h4⟩);have HPV:Hid (pairS L=partV A V):=(by show pairS L=_;rw[HPV.out,hAe,hVe]);have HN1:=Lib.hid hn1;have HN2:=Lib.hid hn2;have hi1:i+1≤m:=(by omega);have hi1':(i:Int)+1≤(m:Int):=(by omega);have HSD:=Lib.hid (sgs_cut (lo:=i+1) (sgs_below hA.out hB) (by rw[←HM.out];exact hc));have HLM:Hid (L.length=m):=HM.out.symm;clear CT1 hl1 CT2 hAe hVe hn1 hn2 hAl hVl hP;go_wp2_with fail;refine HT1.out.mono ?_;rintro e w2 ⟨rfl,ao1,cap1,rfl,hS1⟩;have HS1:=Lib.hid hS1;clear hS1 hcc0 hcc1 HT1;go_wp2_with fail;case' inl=>refine(HT2.out _ _ (by have h0:L.drop (i+1)=[]:=List.drop_eq_nil_of_le (by rw[HLM.out];omega);rw[h0];intro j hj;simp at hj) (by rw[List.length_drop,HLM.out];omega)).mono ?_
     case' inr=>refine(HT2.out _ _ (by have h:=HSD.out;rw[cutA_some,if_neg (by assumption)]at h;exact h) (by rw[List.length_drop,HLM.out];omega)).mono ?_
     all_goals
      clear HT2 HSD hl2;rintro e w2 ⟨rfl,ao2,cap2,rfl,hS2⟩;have HS2:=Lib.hid hS2;clear hS2;go_wp2_with fail;go_loopw [7,8,9] (fun tv kv _ wq=> ∃k:Nat,k≤n1∧kv= .int .i64 (k:Int)∧Hid (BRow wq wo.heap.size tv (lowL ((A.take k).map (·.1))))∧Hid (∀x∈A.take k,x.2=true)∧Below wo.heap.size wo wq) (fun _ kv _ _=>n1- (intOf kv).toNat);case atStart=>exact⟨0,Nat.zero_le _,rfl,brow_made wo _ (Nat.le_refl _),fun x hx=>by simp at hx,(Below.refl _ _).alloc (Nat.le_refl _) _⟩
      case round=>
       obtain⟨k,hk,rfl,hR,hU,hBk⟩:=hrel;have hszk:=hBk.size;have HBW:=Lib.hid (hB.trans (hBk.mono hsz));have HPC:=Lib.hid (pc_below2 hC.out hBk);by_cases hkn:k<n1
       ·have hkn':(k:Int)<(n1:Int):=(by omega);have hkl:k<A.length:=(by rw[←HN1.out];exact hkn);obtain⟨b3,o3,hao,d0,d1⟩:=(sgs_below HS1.out hBk) k hkl;subst hao;have HTK:=take_next A k hkl;have HMEM:Hid (A[k].2=false→partV A V=none):=fun h=>partV_bare (List.getElem_mem hkl) h;generalize A[k]=x at d0 d1 HTK HMEM;obtain⟨c,bare⟩:=x;simp only at d0 d1;have hcn:=c.toNat_lt;cases bare with
        | false=>
         have HNO:=Lib.hid (HPV.out.trans (HMEM.out rfl));obtain⟨⟨x0,c0⟩,⟨y0,c1⟩,f0,f1⟩:=pc_cells HPC.out;clear HTK HMEM;obtain⟨e0,e1⟩:=pc_store HPC.out ⟨#[]⟩ ⟨#[]⟩;go_wp2_with fail
         (try simp only[Exit.inBlock,Exit.then])
         refine bodyPost_ret (v:= .tuple #[.agg #[.string ⟨#[]⟩,.string ⟨#[]⟩],.bool false]) (by rw[results_cell_tmp rfl];go_simp) rfl ?_;exact pairE_none HNO.out ((HBW.out.setCell (p:=⟨w.heap.size,0,none⟩) (Nat.le_refl _) _).setCell (p:=⟨w.heap.size,1,none⟩) (Nat.le_refl _) _)
        | true=>
         obtain⟨aoT,mT,capT,rfl,hmT⟩:=brow_form hR.out;obtain⟨aoT2,mT2,capT2,w3,hap,hR3,hB3⟩:=brow_app (low c) hR.out (by unfold lowL;rw[List.length_map,List.length_map,List.length_take];omega) hszk;have HR3:Hid (BRow w3 wo.heap.size (.slice aoT2 mT2 capT2) (lowL ((A.take (k+1)).map (·.1)))):=(by show BRow _ _ _ _;rw[HTK];unfold lowL at hR3 ⊢;rw[List.map_append,List.map_append];exact hR3);have HU3:Hid (∀x∈A.take (k+1),x.2=true):=by
          show∀x∈_,_;rw[HTK];intro x hx;rcases List.mem_append.1 hx with h | h
          ·exact hU.out x h
          ·simp only[List.mem_singleton]at h;rw[h]
         have HB3:=Lib.hid (hBk.trans (hB3));have hlow:((low c).toNat:Int)=if 65≤(c.toNat:Int)∧(c.toNat:Int)≤90 then(c.toNat:Int)+32 else(c.toNat:Int):=low_nat c;clear HTK HMEM hR3 hB3;by_cases h65:65≤(c.toNat:Int)
         ·by_cases h90:(c.toNat:Int)≤90
          ·rw[if_pos ⟨h65,h90⟩]at hlow;rw[hlow]at hap;have r1:IntKind.u8.wrap ((c.toNat:Int)+32)=(c.toNat:Int)+32:=IntWalk.u8_in _ (by omega);clear hlow;go_wp2_with (at_builtin;refine Lib.wpList_append_run _ rfl _ _ _ _ rfl _ _ rfl rfl _ _ hap ?_);go_roundw;case rel=>exact⟨k+1,by omega,by go_num,HR3,HU3,HB3.out⟩
           case measure=>simp[intOf];omega
          ·rw[if_neg (by omega)]at hlow;rw[hlow]at hap;clear hlow;go_wp2_with (at_builtin;refine Lib.wpList_append_run _ rfl _ _ _ _ rfl _ _ rfl rfl _ _ hap ?_);go_roundw;case rel=>exact⟨k+1,by omega,by go_num,HR3,HU3,HB3.out⟩
           case measure=>simp[intOf];omega
         ·rw[if_neg (by omega)]at hlow;rw[hlow]at hap;clear hlow;go_wp2_with (at_builtin;refine Lib.wpList_append_run _ rfl _ _ _ _ rfl _ _ rfl rfl _ _ hap ?_);go_roundw;case rel=>exact⟨k+1,by omega,by go_num,HR3,HU3,HB3.out⟩
          case measure=>simp[intOf];omega
       ·obtain rfl:k=n1:=(by omega);obtain⟨aoT,mT,capT,rfl,hmT⟩:=brow_form hR.out;have HRT:Hid (BRow wr wo.heap.size (.slice aoT mT capT) (lowL (A.map (·.1)))):=(by have h:=hR.out;rw[HN1.out,List.take_length]at h;exact h);have HUA:Hid (∀x∈A,x.2=true):=(by have h:=hU.out;rw[HN1.out,List.take_length]at h;exact h);obtain⟨wt,rfl⟩: ∃x,x=wr:=⟨_,rfl⟩;clear hR hU;go_wp2_with fail;go_loopw [10,11,12] (fun vv jv _ wq=> ∃j:Nat,j≤n2∧jv= .int .i64 (j:Int)∧Hid (BRow wq wt.heap.size vv ((V.take j).map (·.1)))∧Hid (∀i (h:i<V.length),i<j→badAt i V[i]=false)∧Below wt.heap.size wt wq) (fun _ jv _ _=>n2- (intOf jv).toNat);case atStart=>exact⟨0,Nat.zero_le _,rfl,brow_made wt _ (Nat.le_refl _),fun i _ h=>by omega,(Below.refl _ _).alloc (Nat.le_refl _) _⟩
        case round=>
         obtain⟨j,hj,rfl,hR,hU,hBj⟩:=hrel;have hszj:=hBj.size;have HBW2:=Lib.hid (hBk.trans (hBj.mono hszk));have HBW3:=Lib.hid (hB.trans (HBW2.out.mono hsz));have HPC2:=Lib.hid (pc_below2 HPC.out hBj);by_cases hjn:j<n2
         ·have hjn':(j:Int)<(n2:Int):=(by omega);have hjl:j<V.length:=(by rw[←HN2.out];exact hjn);obtain⟨b4,o4,hao,d0,d1⟩:=(sgs_below HS2.out HBW2.out) j hjl;subst hao;have HTK:=take_next V j hjl;have HBADN:Hid (badAt j V[j]=true→partV A V=none):=fun h=>partV_bad hjl h;have HBADY:Hid (badAt j V[j]=false→ ∀i (h:i<V.length),i<j+1→badAt i V[i]=false):=by
           intro h i hi hij;by_cases e:i=j
           ·subst e;exact h
           ·exact hU.out i hi (by omega)
          generalize V[j]=x at d0 d1 HTK HBADN HBADY;obtain⟨c,bare⟩:=x;simp only at d0 d1;have hcn:=c.toNat_lt;obtain⟨aoV,mV,capV,rfl,hmV⟩:=brow_form hR.out;obtain⟨aoV2,mV2,capV2,w3,hap,hR3,hB3⟩:=brow_app c hR.out (by rw[List.length_map,List.length_take];omega) hszj;have HR3:Hid (BRow w3 wt.heap.size (.slice aoV2 mV2 capV2) ((V.take (j+1)).map (·.1))):=(by show BRow _ _ _ _;rw[HTK,List.map_append];exact hR3);have HB3:=Lib.hid (hBj.trans hB3);clear HTK hR3 hB3;cases bare with
          | false=>
           have HB:=Lib.hid (HBADY.out rfl);clear HBADY HBADN;go_wp2_with (at_builtin;refine Lib.wpList_append_run _ rfl _ _ _ _ rfl _ _ rfl rfl _ _ hap ?_);go_roundw;case rel=>exact⟨j+1,by omega,by go_num,HR3,HB,HB3.out⟩
           case measure=>simp[intOf];omega
          | true=>
           by_cases hbad:bad c=true
           ·have HNO:=Lib.hid (HPV.out.trans (HBADN.out (by show(true&&(bad c||_))=true;rw[hbad];rfl)));have hb3:=(u8_bad c).1 hbad;clear HBADY HBADN hbad hap;rcases hb3 with h | h | h
            ·have q1:((c.toNat:Int)==34)=true:=(by rw[beq_iff_eq];exact h);clear h;obtain⟨⟨x0,c0⟩,⟨y0,c1⟩,f0,f1⟩:=pc_cells HPC2.out;obtain⟨e0,e1⟩:=pc_store HPC2.out ⟨#[]⟩ ⟨#[]⟩;go_wp2_with fail
             (try simp only[Exit.inBlock,Exit.then])
             refine bodyPost_ret (v:= .tuple #[.agg #[.string ⟨#[]⟩,.string ⟨#[]⟩],.bool false]) (by rw[results_cell_tmp rfl];go_simp) rfl ?_;exact pairE_none HNO.out ((HBW3.out.setCell (p:=⟨w.heap.size,0,none⟩) (Nat.le_refl _) _).setCell (p:=⟨w.heap.size,1,none⟩) (Nat.le_refl _) _)
            ·have q1:((c.toNat:Int)==34)=false:=(by rw[beq_eq_false_iff_ne];omega);have q2:((c.toNat:Int)==60)=true:=(by rw[beq_iff_eq];exact h);clear h;obtain⟨⟨x0,c0⟩,⟨y0,c1⟩,f0,f1⟩:=pc_cells HPC2.out;obtain⟨e0,e1⟩:=pc_store HPC2.out ⟨#[]⟩ ⟨#[]⟩;go_wp2_with fail
             (try simp only[Exit.inBlock,Exit.then])
             refine bodyPost_ret (v:= .tuple #[.agg #[.string ⟨#[]⟩,.string ⟨#[]⟩],.bool false]) (by rw[results_cell_tmp rfl];go_simp) rfl ?_;exact pairE_none HNO.out ((HBW3.out.setCell (p:=⟨w.heap.size,0,none⟩) (Nat.le_refl _) _).setCell (p:=⟨w.heap.size,1,none⟩) (Nat.le_refl _) _)
            ·have q1:((c.toNat:Int)==34)=false:=(by rw[beq_eq_false_iff_ne];omega);have q2:((c.toNat:Int)==60)=false:=(by rw[beq_eq_false_iff_ne];omega);have q3:((c.toNat:Int)==62)=true:=(by rw[beq_iff_eq];exact h);clear h;obtain⟨⟨x0,c0⟩,⟨y0,c1⟩,f0,f1⟩:=pc_cells HPC2.out;obtain⟨e0,e1⟩:=pc_store HPC2.out ⟨#[]⟩ ⟨#[]⟩;go_wp2_with fail
             (try simp only[Exit.inBlock,Exit.then])
             refine bodyPost_ret (v:= .tuple #[.agg #[.string ⟨#[]⟩,.string ⟨#[]⟩],.bool false]) (by rw[results_cell_tmp rfl];go_simp) rfl ?_;exact pairE_none HNO.out ((HBW3.out.setCell (p:=⟨w.heap.size,0,none⟩) (Nat.le_refl _) _).setCell (p:=⟨w.heap.size,1,none⟩) (Nat.le_refl _) _)
           ·have hb3: ¬ ((c.toNat:Int)=34∨(c.toNat:Int)=60∨(c.toNat:Int)=62):=fun h=>hbad ((u8_bad c).2 h);have hbad':bad c=false:=(by simpa using hbad);have q1:((c.toNat:Int)==34)=false:=(by rw[beq_eq_false_iff_ne];omega);have q2:((c.toNat:Int)==60)=false:=(by rw[beq_eq_false_iff_ne];omega);have q3:((c.toNat:Int)==62)=false:=(by rw[beq_eq_false_iff_ne];omega);clear hb3 hbad;by_cases h35:(c.toNat:Int)=35
            ·have q4:((c.toNat:Int)==35)=true:=(by rw[beq_iff_eq];exact h35);have hc35:c=35:=u8_eq (n:=35) (by omega) h35;clear h35;by_cases hj0:j=0
             ·have HNO:=Lib.hid (HPV.out.trans (HBADN.out (by show(true&&(bad c||(decide (c=35)&&decide (j=0))))=true;rw[hbad',hc35,hj0];rfl)));have q5:((j:Int)==0)=true:=(by rw[beq_iff_eq];omega);clear HBADY HBADN hap hj0 hc35 hbad';obtain⟨⟨x0,c0⟩,⟨y0,c1⟩,f0,f1⟩:=pc_cells HPC2.out;obtain⟨e0,e1⟩:=pc_store HPC2.out ⟨#[]⟩ ⟨#[]⟩;go_wp2_with fail
              (try simp only[Exit.inBlock,Exit.then])
              refine bodyPost_ret (v:= .tuple #[.agg #[.string ⟨#[]⟩,.string ⟨#[]⟩],.bool false]) (by rw[results_cell_tmp rfl];go_simp) rfl ?_;exact pairE_none HNO.out ((HBW3.out.setCell (p:=⟨w.heap.size,0,none⟩) (Nat.le_refl _) _).setCell (p:=⟨w.heap.size,1,none⟩) (Nat.le_refl _) _)
             ·have HB:=Lib.hid (HBADY.out (by show(true&&(bad c||(decide (c=35)&&decide (j=0))))=false;rw[hbad',decide_eq_false hj0];simp));have q5:((j:Int)==0)=false:=(by rw[beq_eq_false_iff_ne];omega);clear HBADY HBADN hc35 hbad';go_wp2_with (at_builtin;refine Lib.wpList_append_run _ rfl _ _ _ _ rfl _ _ rfl rfl _ _ hap ?_);go_roundw;case rel=>exact⟨j+1,by omega,by go_num,HR3,HB,HB3.out⟩
              case measure=>simp[intOf];omega
            ·have q4:((c.toNat:Int)==35)=false:=(by rw[beq_eq_false_iff_ne];exact h35);have hc35:c≠35:=u8_ne (n:=35) (by omega) h35;have HB:=Lib.hid (HBADY.out (by show(true&&(bad c||(decide (c=35)&&decide (j=0))))=false;rw[hbad',decide_eq_false hc35];rfl));clear HBADY HBADN hc35 hbad' h35;go_wp2_with (at_builtin;refine Lib.wpList_append_run _ rfl _ _ _ _ rfl _ _ rfl rfl _ _ hap ?_);go_roundw;case rel=>exact⟨j+1,by omega,by go_num,HR3,HB,HB3.out⟩
             case measure=>simp[intOf];omega
         ·obtain rfl:j=n2:=(by omega);obtain⟨aoV,mV,capV,rfl,hmV⟩:=brow_form hR.out;have HRV:Hid (BRow wr wt.heap.size (.slice aoV mV capV) (V.map (·.1))):=(by have h:=hR.out;rw[HN2.out,List.take_length]at h;exact h);have HEND:Hid (partV A V=if typeOK (lowL (A.map (·.1)))=true then some (lowL (A.map (·.1)),V.map (·.1))else none):=partV_end HUA.out (fun i hi=>hU.out i hi (by rw[HN2.out];exact hi));have HTT:=Lib.hid (brow_below HRT.out hBj);obtain⟨T,hT⟩: ∃T:ByteArray,(⟨(lowL (A.map (·.1))).toArray⟩:ByteArray)=T:=⟨_,rfl⟩;obtain⟨Q,hQ⟩: ∃Q:ByteArray,(⟨(V.map (·.1)).toArray⟩:ByteArray)=Q:=⟨_,rfl⟩;have hty:(convert 131 9 (.slice aoT mT capT)).run Tryz.prog wr.drew= .ok (.string T) wr.drew:=(by rw[←hT];exact brow_str (w:=wr.drew) (brow_same HTT.out (fun _ _ _=>rfl)));have hst:(convert 131 9 (.slice aoV mV capV)).run Tryz.prog wr.drew= .ok (.string Q) wr.drew:=(by rw[←hQ];exact brow_str (w:=wr.drew) (brow_same HRV.out (fun _ _ _=>rfl)));obtain⟨⟨x0,c0⟩,⟨y0,c1⟩,f0,f1⟩:=pc_cells HPC2.out;have HAF:Hid (∀a b:Value,(convert 131 9 (.slice aoT mT capT)).run Tryz.prog ((wr.drew.setCell ⟨w.heap.size,0,none⟩ a).setCell ⟨w.heap.size,1,none⟩ b)= .ok (.string T) ((wr.drew.setCell ⟨w.heap.size,0,none⟩ a).setCell ⟨w.heap.size,1,none⟩ b)∧(convert 131 9 (.slice aoV mV capV)).run Tryz.prog ((wr.drew.setCell ⟨w.heap.size,0,none⟩ a).setCell ⟨w.heap.size,1,none⟩ b)= .ok (.string Q) ((wr.drew.setCell ⟨w.heap.size,0,none⟩ a).setCell ⟨w.heap.size,1,none⟩ b)):=by
           intro a b';have hp:w.heap.size<wo.heap.size:=HPLT.out;have hq:=HBW.out.size;refine⟨?_,?_⟩
           ·rw[←hT];exact brow_str (brow_same HTT.out (fun k hk _=>by rw[Below.heap_setCell _ _ _ _ (by show k≠w.heap.size;omega),Below.heap_setCell _ _ _ _ (by show k≠w.heap.size;omega)];rfl))
           ·rw[←hQ];exact brow_str (brow_same HRV.out (fun k hk _=>by rw[Below.heap_setCell _ _ _ _ (by show k≠w.heap.size;omega),Below.heap_setCell _ _ _ _ (by show k≠w.heap.size;omega)];rfl))
          have HTY:Hid (∀W,Calls Tryz.prog 194 #[.string T] W fun e w'=>e= .returned (.bool (typeOK T.data.toList))∧W=w'):=fun W=>type_any T W (by rw[←kt.size_len,←hT];show(lowL (A.map _)).length≤_;unfold lowL;rw[List.length_map,List.length_map,←HN1.out];omega);obtain⟨e0,e1⟩:=pc_store (w:=wr.drew) HPC2.out T Q;have HTd:=Lib.hid hT;have HQd:=Lib.hid hQ;clear hT hQ;go_wp2_with fail;go_region_held3 (fun W=>(convert 131 9 (.slice aoT mT capT)).run Tryz.prog W= .ok (.string T) W∧(convert 131 9 (.slice aoV mV capV)).run Tryz.prog W= .ok (.string Q) W) (first | exact⟨hty,hst⟩ | exact HAF.out _ _)
           (first | (go_at_call 194;refine(HTY.out _).mono ?_;rintro e w' ⟨rfl,rfl⟩) | skip)
          all_goals
           go_wp2_with fail
           (try simp only[Exit.inBlock,Exit.then])
           refine bodyPost_ret (v:= .tuple #[.agg #[.string T,.string Q],.bool (typeOK T.data.toList)]) (by rw[results_cell_tmp rfl];go_simp) rfl ?_;refine⟨(HBW3.out.drew.setCell (p:=⟨w.heap.size,0,none⟩) (Nat.le_refl _) _).setCell (p:=⟨w.heap.size,1,none⟩) (Nat.le_refl _) _,?_⟩;rw[HPV.out,HEND.out];have eT:T.data.toList=lowL (A.map (·.1)):=(by rw[←HTd.out]);rw[eT];cases htyp:typeOK (lowL (A.map (·.1)))with
           | true=>rw[if_pos rfl];show _=Ending.returned (.tuple #[.agg #[.string ⟨(lowL (A.map (·.1))).toArray⟩,.string ⟨(V.map (·.1)).toArray⟩],.bool true]);rw[HTd.out,HQd.out]
           | false=>rw[if_neg (by simp)];exact⟨T,Q,rfl⟩
    ·have q:((c.toNat:Int)==61)=false:=(by rw[beq_eq_false_iff_ne];exact h61);have HN:=Lib.hid (HNX.out (by show(true&&decide (c=61))=false;have h:c≠61:=u8_ne (n:=61) (by omega) h61;rw[decide_eq_false h];rfl));clear HNX HSP h61;go_wp2_with fail;go_roundw;case rel=>exact⟨i+1,by omega,by go_num,HN,hB,hC⟩
     case measure=>simp[intOf];omega
  ·obtain rfl:i=m:=(by omega);have q2:((i:Int)==(i:Int))=true:=(by rw[beq_iff_eq]);have HN:Hid (pairS L=none):=pairS_no (fun x hx=>by obtain⟨j,hj,rfl⟩:=List.mem_iff_getElem.1 hx;exact hP.out j hj (by rw[HM.out];exact hj));obtain⟨⟨x0,c0⟩,⟨y0,c1⟩,f0,f1⟩:=pc_cells hC.out;obtain⟨e0,e1⟩:=pc_store hC.out ⟨#[]⟩ ⟨#[]⟩;go_wp2_with fail
   (try simp only[Exit.inBlock,Exit.then])
   refine bodyPost_ret (v:= .tuple #[.agg #[.string ⟨#[]⟩,.string ⟨#[]⟩],.bool false]) (by rw[results_cell_tmp rfl];go_simp) rfl ?_;exact pairE_none HN.out ((hB.setCell (p:=⟨w.heap.size,0,none⟩) (Nat.le_refl _) _).setCell (p:=⟨w.heap.size,1,none⟩) (Nat.le_refl _) _)
end dnw
open Go.RowKit
namespace dnw
open dnp
def SignsE (s:ByteArray)(w:World)(e:Ending)(w':World):Prop:=
 Below w.heap.size w w'∧match signs s.data.toList with
  | none=>e= .returned (.tuple #[.slice none 0 0,.bool false])
  | some L=> ∃ao cap,e= .returned (.tuple #[.slice ao L.length cap,.bool true])∧L.length≤cap∧OwnS w' w.heap.size (.slice ao L.length cap) L
def SgAt (s:ByteArray)(i:Nat)(B:List Sg):Prop:=signs s.data.toList=(signs (s.data.toList.drop i)).map (B++ ·)
theorem sgAt_bare {s:ByteArray}{i:Nat}{B:List Sg}(h:SgAt s i B)(hi:i<s.size)(hc:s[i]≠92):SgAt s (i+1) (B++[(s[i],true)]):=by unfold SgAt at*;rw[drop_cons s i hi,signs_bare _ _ hc,Option.map_map]at h;rw[h];congr 1;funext p;simp
theorem sgAt_esc {s:ByteArray}{i n:Nat}{d:UInt8}{B:List Sg}(h:SgAt s i B)(hi:i<s.size)(hc:s[i]=92)(he:esc (s.data.toList.drop (i+1))=some (d,n)):SgAt s (i+1+n) (B++[(d,false)]):=by unfold SgAt at*;rw[drop_cons s i hi,hc,signs_esc _ _ _ he,Option.map_map,List.drop_drop]at h;rw[h];congr 1;funext p;simp
theorem sgAt_none {s:ByteArray}{i:Nat}{B:List Sg}(h:SgAt s i B)(hi:i<s.size)(hc:s[i]=92)(he:esc (s.data.toList.drop (i+1))=none):signs s.data.toList=none:=by unfold SgAt at h;rw[drop_cons s i hi,hc,signs_bad _ he]at h;rw[h];rfl
theorem sgAt_end {s:ByteArray}{B:List Sg}(h:SgAt s s.size B):signs s.data.toList=some B:=by unfold SgAt at h;rw[drop_end,signs_nil]at h;simpa using h
theorem ownS_letters {w:World}{B:Nat}{v:Value}{l:List Sg}(h:OwnS w B v l): ∃ (ao:Option Addr) (m cap:Nat),v= .slice ao m cap∧Hid (m=l.length)∧m≤cap:=by obtain⟨ao,cap,h1,h2⟩:=kt.segX_slice h;exact⟨ao,_,cap,h1,rfl,h2⟩
theorem signs_any (s:ByteArray)(w:World)(hs:s.size≤1000):Calls Tryz.prog 158 #[.string s] w fun e w'=>SignsE s w e w':=by
 go_enter Tryz.func158,Tryz.ntmps158;go_wp2_with fail;go_loopw [4,5] (fun lv iv wr=> ∃ (i:Nat) (B:List Sg),i≤s.size∧iv= .int .i64 (i:Int)∧Hid (OwnS wr w.heap.size lv B)∧B.length≤i∧Hid (SgAt s i B)∧Below w.heap.size w wr) (fun _ iv _=>s.size- (intOf iv).toNat);case atStart=>
  refine⟨0,[],Nat.zero_le _,rfl,?_,Nat.zero_le _,by show signs _=_;simp,(Below.refl _ _).alloc (Nat.le_refl _) _⟩;exact kt.segX_of_row (World.ownsRow_made _ #[] 0 (Nat.le_refl _) (by unfold maxLen;omega) rfl)
 case round=>
  obtain⟨i,B,hi,rfl,hO,hBl,hA,hB⟩:=hrel;obtain⟨ao,m,cap,rfl,hm,hmc⟩:=ownS_letters hO.out;have hsz:=hB.size;by_cases hlt:i<s.size
  ·have hlt':(i:Int)<(s.size:Int):=(by omega);by_cases h92:((s[i]'hlt).toNat:Int)=92
   ·have q1:(((s[i]'hlt).toNat:Int)==92)=true:=(by rw[beq_iff_eq];exact h92);have q2:(((s[i]'hlt).toNat:Int) !=92)=false:=(by rw[bne_eq_false_iff_eq];exact h92);have h92':=Lib.hid (u8_eq (n:=92) (by omega) h92);clear h92;by_cases h1:i+1<s.size
    ·have h1':(i:Int)+1<(s.size:Int):=(by omega);have hdc:=drop_cons s (i+1) h1;have CS:Hid (∀W,Calls Tryz.prog 206 #[.int .u8 ((s[i+1]'h1).toNat:Int)] W fun e w'=>e= .returned (.bool (special (s[i+1]'h1)))∧W=w'):=fun W=>special_any _ W;by_cases hp:plainEsc (s[i+1]'h1)
     ·have HA:Hid (SgAt s (i+1+1) (B++[(s[i+1]'h1,false)])):=sgAt_esc hA.out hlt h92'.out (by rw[hdc];exact esc_plain hp);obtain⟨v',w1,hap,hO1,hB1⟩:=ownS_app (s[i+1]'h1,false) hO.out (by omega) hsz;dsimp only at hap;have HO1:=Lib.hid hO1;have HB1:=Lib.hid (hB.trans hB1);have hp3:special (s[i+1]'h1)=true∨(special (s[i+1]'h1)=false∧((s[i+1]'h1).toNat:Int)=35)∨(special (s[i+1]'h1)=false∧((s[i+1]'h1).toNat:Int)=32):=by
       unfold plainEsc at hp;cases hsp:special (s[i+1]'h1)with
       | true=>exact Or.inl rfl
       | false=>
        rw[hsp]at hp;rcases hp with hp | hp | hp
        ·cases hp
        ·exact Or.inr (Or.inl ⟨rfl,by rw[hp];rfl⟩)
        ·exact Or.inr (Or.inr ⟨rfl,by rw[hp];rfl⟩)
      clear hO1 hB1 hp hdc;rcases hp3 with h | ⟨h,h35⟩ | ⟨h,h32⟩
      ·rw[h]at CS;clear h;go_wp2_with fail;refine(CS.out _).mono ?_;rintro e w2 ⟨rfl,rfl⟩;go_wp2_with (at_builtin;refine Lib.wpList_append_run _ rfl _ _ _ _ rfl _ _ rfl rfl _ _ hap ?_);go_roundw;case rel=>exact⟨i+1+1,_,by omega,by go_num,HO1,by simp;omega,HA,HB1.out⟩
       case measure=>simp[intOf];omega
      ·rw[h]at CS;have p1:(((s[i+1]'h1).toNat:Int)==35)=true:=(by rw[beq_iff_eq];exact h35);clear h h35;go_wp2_with fail;refine(CS.out _).mono ?_;rintro e w2 ⟨rfl,rfl⟩;go_wp2_with (at_builtin;refine Lib.wpList_append_run _ rfl _ _ _ _ rfl _ _ rfl rfl _ _ hap ?_);go_roundw;case rel=>exact⟨i+1+1,_,by omega,by go_num,HO1,by simp;omega,HA,HB1.out⟩
       case measure=>simp[intOf];omega
      ·rw[h]at CS;have p1:(((s[i+1]'h1).toNat:Int)==35)=false:=(by rw[beq_eq_false_iff_ne];omega);have p2:(((s[i+1]'h1).toNat:Int)==32)=true:=(by rw[beq_iff_eq];exact h32);clear h h32;go_wp2_with fail;refine(CS.out _).mono ?_;rintro e w2 ⟨rfl,rfl⟩;go_wp2_with (at_builtin;refine Lib.wpList_append_run _ rfl _ _ _ _ rfl _ _ rfl rfl _ _ hap ?_);go_roundw;case rel=>exact⟨i+1+1,_,by omega,by go_num,HO1,by simp;omega,HA,HB1.out⟩
       case measure=>simp[intOf];omega
     ·have hsp:special (s[i+1]'h1)=false:=by
       cases hsp:special (s[i+1]'h1)with
       | false=>rfl
       | true=>exact absurd (Or.inl hsp) hp
      have p1:(((s[i+1]'h1).toNat:Int)==35)=false:=(by rw[beq_eq_false_iff_ne];exact fun e=>hp (Or.inr (Or.inl (u8_eq (n:=35) (by omega) e))));have p2:(((s[i+1]'h1).toNat:Int)==32)=false:=(by rw[beq_eq_false_iff_ne];exact fun e=>hp (Or.inr (Or.inr (u8_eq (n:=32) (by omega) e))));rw[hsp]at CS;by_cases h2:i+2<s.size
      ·have h2': ¬ (s.size:Int)≤(i:Int)+2:=(by omega);have h2i:(i:Int)+2<(s.size:Int):=(by omega);have hdc2:=drop_cons s (i+2) h2;have CV1:Hid (∀W,Calls Tryz.prog 207 #[.int .u8 ((s[i+1]'h1).toNat:Int)] W fun e w'=>e= .returned (.int .i64 (b64p.valI (s[i+1]'h1)))∧W=w'):=fun W=>Go.Proofs.YtmnpfkbjpeaemaaGreatDoor.value_any _ W;have CV2:Hid (∀W,Calls Tryz.prog 207 #[.int .u8 ((s[i+2]'h2).toNat:Int)] W fun e w'=>e= .returned (.int .i64 (b64p.valI (s[i+2]'h2)))∧W=w'):=fun W=>Go.Proofs.YtmnpfkbjpeaemaaGreatDoor.value_any _ W;by_cases ha:b64p.valI (s[i+1]'h1)<0
       ·have HE:Hid (signs s.data.toList=none):=sgAt_none hA.out hlt h92'.out (by rw[hdc,hdc2];exact esc_nohex hp (Or.inl ha));generalize b64p.valI (s[i+1]'h1)=va at CV1 ha;clear hsp hp hdc hdc2;go_wp2_with fail;refine(CS.out _).mono ?_;rintro e w2 ⟨rfl,rfl⟩;go_wp2_with fail;refine(CV1.out _).mono ?_;rintro e w2 ⟨rfl,rfl⟩;go_wp2_with fail;go_ret2;refine⟨hB,?_⟩;rw[HE.out];rfl
       ·have hva:=b64p.valI_le (s[i+1]'h1);by_cases hb:b64p.valI (s[i+2]'h2)<0
        ·have HE:Hid (signs s.data.toList=none):=sgAt_none hA.out hlt h92'.out (by rw[hdc,hdc2];exact esc_nohex hp (Or.inr hb));generalize b64p.valI (s[i+1]'h1)=va at CV1 ha hva;generalize b64p.valI (s[i+2]'h2)=vb at CV2 hb;clear hsp hp hdc hdc2 hva;go_wp2_with fail;refine(CS.out _).mono ?_;rintro e w2 ⟨rfl,rfl⟩;go_wp2_with fail;refine(CV1.out _).mono ?_;rintro e w2 ⟨rfl,rfl⟩;go_wp2_with fail;refine(CV2.out _).mono ?_;rintro e w2 ⟨rfl,rfl⟩;go_wp2_with fail;go_ret2;refine⟨hB,?_⟩;rw[HE.out];rfl
        ·have hvb:=b64p.valI_le (s[i+2]'h2);have HA:=sgAt_esc hA.out hlt h92'.out (by rw[hdc,hdc2];exact esc_hex hp (by omega));generalize b64p.valI (s[i+1]'h1)=va at CV1 ha hva HA;generalize b64p.valI (s[i+2]'h2)=vb at CV2 hb hvb HA;obtain⟨A,rfl⟩:=Int.eq_ofNat_of_zero_le (show 0≤va by omega);obtain⟨C,rfl⟩:=Int.eq_ofNat_of_zero_le (show 0≤vb by omega);obtain⟨m,hm⟩: ∃m:UInt8,m=UInt8.ofNat (16*(A:Int)+(C:Int)).toNat:=⟨_,rfl⟩;rw[←hm]at HA;have em:(m.toNat:Int)=16*A+C:=(by rw[hm,UInt8.toNat_ofNat'];omega);have HA:=Lib.hid HA;obtain⟨v',w1,hap,hO1,hB1⟩:=ownS_app (w:=wr.drew) (m,false) (ownS_below hO.out (Below.refl _ _).drew) (by omega) hsz;obtain⟨ao9,m9,cap9,rfl,hm9,hc9⟩:=ownS_letters hO1;dsimp only at hap;rw[em]at hap;have HO1:=Lib.hid hO1;have HB1:=Lib.hid (hB.drew.trans hB1);clear hO1 hB1 hsp hp hdc hdc2 hm em;have k1:(0:Int)≤(A:Int):=(by omega);have z1:(0:Int)≤(i:Int)+1:=(by omega);have z2:(0:Int)≤(i:Int)+2:=(by omega);have y1:IntKind.i64.wrap ((i:Int)+1)=(i:Int)+1:=IntWalk.i64_in _ (by omega);have y2:IntKind.i64.wrap ((i:Int)+2)=(i:Int)+2:=IntWalk.i64_in _ (by omega);have y3:((i:Int)+1).toNat=i+1:=(by omega);have y4:((i:Int)+2).toNat=i+2:=(by omega);have k2:(0:Int)≤(C:Int):=(by omega);have k3:(A:Int)≤15:=(by omega);have k4:(C:Int)≤15:=(by omega);clear hva hvb ha hb;have r1:IntKind.i64.wrap (16*(A:Int))=16*(A:Int):=IntWalk.i64_in _ (by omega);have r2:IntKind.i64.wrap (16*(A:Int)+(C:Int))=16*(A:Int)+(C:Int):=IntWalk.i64_in _ (by omega);have r3:(16*(A:Int)+(C:Int)) % 256=16*(A:Int)+(C:Int):=(by omega);have r4:IntKind.u8.wrap (16*(A:Int)+(C:Int))=16*(A:Int)+(C:Int):=(by rw[IntKind.wrap_u8];omega);have m1: ¬ (A:Int)<0:=(by omega);have m2: ¬ (C:Int)<0:=(by omega);obtain⟨n1,en1⟩: ∃n:Nat,(s[i+1]'h1).toNat=n:=⟨_,rfl⟩;obtain⟨n2,en2⟩: ∃n:Nat,(s[i+2]'h2).toNat=n:=⟨_,rfl⟩;rw[en1]at CS CV1 p1 p2;rw[en2]at CV2;go_wp2_with fail;refine(CS.out _).mono ?_;rintro e w2 ⟨rfl,rfl⟩;go_wp2_with fail;refine(CV1.out _).mono ?_;rintro e w2 ⟨rfl,rfl⟩;go_wp2_with fail;refine(CV2.out _).mono ?_;rintro e w2 ⟨rfl,rfl⟩;go_wp2_with fail;go_region_held3 (fun _=>True) (trivial)
          (first | (go_at_call_of 207 (Value.int IntKind.u8 (n1:Int));refine(CV1.out _).mono ?_;rintro e w' ⟨rfl,rfl⟩) | (go_at_call_of 207 (Value.int IntKind.u8 (n2:Int));refine(CV2.out _).mono ?_;rintro e w' ⟨rfl,rfl⟩) | (refine kt.step_append_run rfl _ _ _ _ rfl _ _ rfl rfl _ _ hap ?_))
         all_goals
          go_wp2_with fail;go_roundw;case rel=>exact⟨i+1+2,_,by omega,by go_num,HO1,by simp;omega,HA,HB1.out⟩
          case measure=>simp[intOf];omega
      ·have h2':(s.size:Int)≤(i:Int)+2:=(by omega);have HE:Hid (signs s.data.toList=none):=sgAt_none hA.out hlt h92'.out (by rw[hdc,List.drop_of_length_le (by simp;omega)];exact esc_one hp);clear hsp hp hdc;go_wp2_with fail;refine(CS.out _).mono ?_;rintro e w2 ⟨rfl,rfl⟩;go_wp2_with fail;go_ret2;refine⟨hB,?_⟩;rw[HE.out];rfl
    ·have h1': ¬ (i:Int)+1<(s.size:Int):=(by omega);have h2':(s.size:Int)≤(i:Int)+2:=(by omega);have HE:Hid (signs s.data.toList=none):=sgAt_none hA.out hlt h92'.out (by rw[List.drop_of_length_le (by simp;omega)];rfl);go_wp2_with fail;go_ret2;refine⟨hB,?_⟩;rw[HE.out];rfl
   ·have q1:(((s[i]'hlt).toNat:Int)==92)=false:=(by rw[beq_eq_false_iff_ne];exact h92);have q2:(((s[i]'hlt).toNat:Int) !=92)=true:=(by rw[bne_iff_ne];exact h92);obtain⟨v',w1,hap,hO1,hB1⟩:=ownS_app (s[i]'hlt,true) hO.out (by omega) hsz;dsimp only at hap;have HA:=Lib.hid (sgAt_bare hA.out hlt (u8_ne (n:=92) (by omega) h92));have HO1:=Lib.hid hO1;have HB1:=Lib.hid (hB.trans hB1);clear h92 hO1 hB1;go_wp2_with (at_builtin;refine Lib.wpList_append_run _ rfl _ _ _ _ rfl _ _ rfl rfl _ _ hap ?_);go_roundw;case rel=>exact⟨i+1,_,by omega,by go_num,HO1,by simp;omega,HA,HB1.out⟩
    case measure=>simp[intOf];omega
  ·obtain rfl:i=s.size:=(by omega);have HE:=Lib.hid (sgAt_end hA.out);go_wp2_with fail;go_ret2;refine⟨hB,?_⟩;rw[HE.out];have hmm:=hm.out;subst hmm;exact⟨ao,cap,rfl,hmc,hO.out⟩
end dnw
open Go.RowKit
namespace dnw
open dnp
theorem nest_start {w:World}{B:Nat}(hB:B≤w.heap.size)(W:World)(hw:W.heap[w.heap.size]? =(w.alloc (.cells #[] 23)).heap[w.heap.size]?)(hs:w.heap.size<W.heap.size):
  Nest (W.alloc (.cells #[] 51)) B (.slice (some ⟨w.heap.size,0,none⟩) 0 0) (.slice (some ⟨W.heap.size,0,none⟩) 0 0) [] [] []:=by
 have h1:kt.SegX (w.alloc (.cells #[] 23)) B 23 1 (.slice (some ⟨w.heap.size,0,none⟩) 0 0) 0 []:=kt.segX_of_row (World.ownsRow_made w #[] 0 hB (by unfold maxLen;omega) rfl);refine⟨?_,rfl,fun j h=>by simp at h,kt.segX_of_row (World.ownsRow_made W #[] 0 (by omega) (by unfold maxLen;omega) rfl),?_⟩
 ·refine kt.segX_same h1 fun k hk=> ?_;simp only[Value.ownBlock,Option.some.injEq]at hk;subst hk;rw[←hw];exact Below.heap_alloc _ _ _ hs
 ·intro k hk e;simp only[Value.ownBlock,Option.some.injEq]at hk e;omega
theorem nest_fresh {w:World}{B:Nat}{vn vl:Value}{ns:List (List Av)}{vals:List Value}(h:Nest w B vn vl ns [] vals)(hB:B≤w.heap.size):Nest (w.alloc (.cells #[] 51)) B vn (.slice (some ⟨w.heap.size,0,none⟩) 0 0) ns [] vals:=by
 have hn:=nest_below h (w':=w.alloc (.cells #[] 51)) ((Below.refl _ _).alloc (Nat.le_refl _) _);refine⟨hn.outer,hn.len,fun j a b=> ?_,kt.segX_of_row (World.ownsRow_made w #[] 0 hB (by unfold maxLen;omega) rfl),fun k hk e=> ?_⟩
 ·obtain⟨i1,i2⟩:=h.inner j a b;refine⟨(hn.inner j a b).1,fun k hk=>⟨(i2 k hk).1,fun e=> ?_⟩⟩;simp only[Value.ownBlock,Option.some.injEq]at e;have:=(ownA_lt i1 k hk).2;omega
 ·simp only[Value.ownBlock,Option.some.injEq]at hk;have:=(kt.segX_lt h.outer k e).2;omega
structure RRel (w wr:World)(L:List Sg)(i j0:Nat)(vn vl:Value)(ns:List (List Av))(cur:List Av)(vals:List Value):Prop where
 nest:Nest wr w.heap.size vn vl ns cur vals
 below:Below w.heap.size w wr
 len:2*(ns.length+cur.length)≤j0
 small:(∀l∈ns,Smalls l)∧Smalls cur
 going:i≤L.length→Seg L j0 i∧GAt L ns cur j0
 done:i=L.length+1→GR [] [] L=some ns
theorem rparse_any (s:ByteArray)(w:World)(hs:s.size≤140737488351232):
  Calls Tryz.prog 95 #[.string s] w fun e w'=>ParseE s w e w':=by
 by_cases h1000:1000<s.size
 ·have h':1000<(s.size:Int):=by omega
  have H1:=Lib.hid h1000;go_enter Tryz.func95,Tryz.ntmps95;go_wp2_with fail;go_ret2;refine⟨Below.refl _ _,?_⟩;rw[if_pos H1.out];rfl
 ·have h': ¬1000<(s.size:Int):=by omega
  have H1:=Lib.hid h1000;have hs1:s.size≤1000:=by omega
  have CS:=signs_any s w hs1;have hPR:=parseR_signs s.data.toList;cases hsg:signs s.data.toList with
  | none=>rw[hsg]at hPR;have HP:=Lib.hid hPR;have HC:Hid (Calls Tryz.prog 158 #[.string s] w fun e w'=>Below w.heap.size w w'∧e= .returned (.tuple #[.slice none 0 0,.bool false])):=(by refine CS.mono fun e w' h=> ?_;unfold SignsE at h;rw[hsg]at h;exact h);clear CS hsg hPR;go_enter Tryz.func95,Tryz.ntmps95;go_wp2_with fail;refine HC.out.mono ?_;rintro e w1 ⟨hB1,rfl⟩;go_wp2_with fail;go_ret2;refine⟨hB1,?_⟩;rw[if_neg H1.out,HP.out];rfl
  | some L=>
   rw[hsg]at hPR;simp only at hPR;have hLl:=signs_len _ _ L (Nat.le_refl _) hsg;rw[kt.size_len]at hLl;have HP:=Lib.hid hPR;obtain⟨m,hm⟩: ∃m,m=L.length:=⟨_,rfl⟩;have HM:=Lib.hid hm;have hm1:m≤1000:=(by omega);have HC:Hid (Calls Tryz.prog 158 #[.string s] w fun e w'=>Below w.heap.size w w'∧ ∃ao cap,e= .returned (.tuple #[.slice ao m cap,.bool true])∧m≤cap∧Sgs w' ao L):=(by refine CS.mono fun e w' h=> ?_;unfold SignsE at h;rw[hsg]at h;obtain⟨h1,ao,cap,h2,h3,h4⟩:=h;rw[←hm]at h2 h3;exact⟨h1,ao,cap,h2,h3,ownS_sgs h4⟩);clear CS hsg hPR hm;go_enter Tryz.func95,Tryz.ntmps95;go_wp2_with fail;refine HC.out.mono ?_;rintro e w1 ⟨hB1,ao,cap,rfl,hmc,hSg⟩;have HB1:=Lib.hid hB1;have HSg:=Lib.hid hSg;have hsz1:=hB1.size;clear HC hB1 hSg;have HB2:Hid (Below w1.heap.size w1 (w1.alloc (.cells #[] 23))):=(Below.refl _ _).alloc (Nat.le_refl _) _;have CT:=trim_any ao cap L (w1.alloc (.cells #[] 23)) (Lib.hid (sgs_below HSg.out HB2.out)) (by rw[←HM.out];exact hmc) (by rw[←HM.out];omega);rw[←HM.out]at CT;obtain⟨n0,hn0⟩: ∃n0,n0=(trim L).length:=⟨_,rfl⟩;have HT:Hid (Calls Tryz.prog 159 #[.slice ao m cap] (w1.alloc (.cells #[] 23)) fun e w'=>w1.alloc (.cells #[] 23)=w'∧ ∃ao cap,e= .returned (.slice ao n0 cap)):=(by refine CT.mono ?_;rintro e w' ⟨h1,ao,cap,h2,_⟩;rw[←hn0]at h2;exact⟨h1,ao,cap,h2⟩);clear CT;by_cases hz:n0=0
   ·have htr:trim L=[]:=List.eq_nil_of_length_eq_zero (by omega);have HR:Hid (parseR s.data.toList=some []):=(by show _=_;rw[HP.out,if_pos htr]);subst hz;clear hn0 htr;go_wp2_with fail;refine HT.out.mono ?_;rintro e w2 ⟨rfl,ao2,cap2,rfl⟩;go_wp2_with fail;go_ret2;refine⟨HB1.out.trans (HB2.out.mono hsz1),?_⟩;rw[if_neg H1.out,HR.out];exact⟨_,_,rfl,Nat.le_refl _,fun i hi=>by simp at hi,fun l hl=>by simp at hl⟩
   ·have hz':((n0:Int)==0)=false:=(by rw[beq_eq_false_iff_ne];omega);have htr: ¬trim L=[]:=fun h=>hz (by rw[hn0,h];rfl);have HNO:Hid (∀w',Below w1.heap.size w1 w'→GR [] [] L=none→ParseE s w (.returned (.tuple #[.slice none 0 0,.int .i64 4])) w'):=(by intro w' hb hg;refine⟨HB1.out.trans (hb.mono hsz1),?_⟩;rw[if_neg H1.out,HP.out,if_neg htr,hg]);have HYES:Hid (∀n,GR [] [] L=some n→parseR s.data.toList=if nameOK n=true then some n else none):=(by intro n hg;rw[HP.out,if_neg htr,hg]);have HRR:Hid (RRel w1 ((w1.alloc (.cells #[] 23)).alloc (.cells #[] 51)) L 0 0 (.slice (some ⟨w1.heap.size,0,none⟩) 0 0) (.slice (some ⟨(w1.alloc (.cells #[] 23)).heap.size,0,none⟩) 0 0) [] [] []):=
     ⟨nest_start (Nat.le_refl _) _ rfl (by simp),((Below.refl w1.heap.size w1).alloc (Nat.le_refl _) _).alloc (by simp) _,Nat.zero_le _,⟨fun l hl=>by simp at hl,fun x hx=>by simp at hx⟩,fun _=>⟨seg_new (Nat.zero_le _),rfl⟩,fun h=>by omega⟩
    have esz:(w1.alloc (.cells #[] 23)).heap.size=w1.heap.size+1:=(by simp);rw[esz]at HRR;have hLpos:0<L.length:=by
     rcases Nat.eq_zero_or_pos L.length with h | h
     ·exact absurd (by rw[List.eq_nil_of_length_eq_zero h];rfl) htr
     ·exact h
    obtain⟨b,o,hao⟩: ∃b o,ao=some ⟨b,o,none⟩:=(by obtain⟨b,o,h,_,_⟩:=HSg.out 0 hLpos;exact⟨b,o,h⟩);subst hao;clear hz htr hn0 HP esz hLpos;go_wp2_with fail;refine HT.out.mono ?_;rintro e w2 ⟨rfl,ao2,cap2,rfl⟩;go_wp2_with fail;go_loopw [6,7,8,9,10,11] (fun nv lv fv iv _ _ wr=> ∃ (i j0:Nat) (ns:List (List Av)) (cur:List Av) (vals:List Value),i≤m+1∧j0≤m+1∧iv= .int .i64 (i:Int)∧fv= .int .i64 (j0:Int)∧Hid (RRel w1 wr L i j0 nv lv ns cur vals)) (fun _ _ _ iv _ _ _=>m+1- (intOf iv).toNat);case atStart=>exact⟨0,0,[],[],[],by omega,by omega,rfl,rfl,HRR⟩
    case round=>
     clear HRR HT;obtain⟨i,j0,ns,cur,vals,hi,hj0,rfl,rfl,hR⟩:=hrel;obtain⟨⟨aoN,mN,capN,rfl,hmN,hcN⟩,⟨aoL,mL,capL,rfl,hmL,hcL⟩⟩:=nest_letters hR.out.nest;by_cases hle:i≤m
     ·have hle':(i:Int)≤(m:Int):=(by omega);have HBW:=Lib.hid hR.out.below;have hszr:=HBW.out.size;obtain⟨hseg,hgat⟩:=hR.out.going (by rw[←HM.out];exact hle);have HSEG:=Lib.hid hseg;have HGAT:=Lib.hid hgat;have HLEN:=Lib.hid hR.out.len;have hj0i:j0≤i:=hseg.1;have hcl:cur.length≤1100000:=(by have:=HLEN.out;omega);have hnl:ns.length≤1100000:=(by have:=HLEN.out;omega);have HSW:=Lib.hid (sgs_below HSg.out HBW.out);clear hseg hgat
      -- what Pair answers
      have CP:Hid (∀ao' cap',Sgs wr ao' (segL L j0 i)→i-j0≤cap'→Calls Tryz.prog 160 #[.slice ao' (i-j0) cap'] wr fun e w'=>PairE (segL L j0 i) wr e w'):=(by intro ao' cap' h1 h2;have:=pair_any ao' cap' (segL L j0 i) wr (Lib.hid h1) (by rw[segL_len HSEG.out];exact h2) (by rw[segL_len HSEG.out];omega);rw[segL_len HSEG.out]at this;exact this);have hCUT:Hid (Sgs wr (cutA (some ⟨b,o,none⟩) cap j0) (segL L j0 i)):=sgs_take (sgs_cut HSW.out (by rw[←HM.out];exact hmc)) _;have hj0i':(j0:Int)≤(i:Int):=(by omega);have hic:(i:Int)≤(cap:Int):=(by omega);by_cases hlt:i<m
      ·have hlt':(i:Int)<(m:Int):=(by omega);have hil:i<L.length:=(by rw[←HM.out];exact hlt);obtain⟨b',o',e',c0,c1⟩:=HSW.out i hil;cases e';have CW:Hid (w1.cell? ⟨b,o+i*2,none⟩=some (.int .u8 ((L[i].1).toNat:Int))):=(by obtain⟨b2,o2,e2,h2,_⟩:=HSg.out i hil;cases e2;exact h2);by_cases hsep:sepS L[i]=true
       ·obtain⟨ex,esep⟩:=sep_eq hsep;have hx2:L[i].2=true:=(by rw[ex]);rw[hx2]at c1;have hne:(i:Int)≠(m:Int):=(by omega);have q0:((i:Int)==(m:Int))=false:=(by rw[beq_eq_false_iff_ne];exact hne);have HBADP:Hid (pairS (segL L j0 i)=none→GR [] [] L=none):=fun h=>gat_none HGAT.out HSEG.out (fun _=>hsep) h;have HPLUS:Hid (∀p,(L[i].1.toNat:Int)=43→pairS (segL L j0 i)=some p→GAt L ns (cur++[av p]) (i+1)):=fun p h hp=>gat_plus HGAT.out HSEG.out hil (by rw[ex];exact congrArg (·,true) (u8_eq (n:=43) (by omega) h)) hp;have HNEXT:Hid (∀p,¬ (L[i].1.toNat:Int)=43→pairS (segL L j0 i)=some p→GAt L (ns++[cur++[av p]]) [] (i+1)):=fun p h hp=>gat_next HGAT.out HSEG.out hil hsep (u8_ne (n:=43) (by omega) h) hp;have hsp:=(u8_sep L[i].1).1 esep;have CW0:=CW.out;generalize L[i].1=c at c0 HPLUS HNEXT hsp CW0;clear hx2 ex esep hsep hne;obtain⟨n0,en0⟩: ∃n:Nat,c.toNat=n:=⟨_,rfl⟩;rw[en0]at c0 HPLUS HNEXT hsp CW0;have CW0:=Lib.hid CW0;clear CW;have hsp3:(((n0:Int)==44)=true∧ ¬ (n0:Int)=43)∨(((n0:Int)==44)=false∧((n0:Int)==59)=true∧ ¬ (n0:Int)=43)∨(((n0:Int)==44)=false∧((n0:Int)==59)=false∧((n0:Int)==43)=true∧(n0:Int)=43):=by
         rw[beq_iff_eq,beq_iff_eq,beq_iff_eq,beq_eq_false_iff_ne,beq_eq_false_iff_ne];rcases hsp with h | h | h
         ·exact Or.inl ⟨h,by omega⟩
         ·exact Or.inr (Or.inl ⟨by omega,h,by omega⟩)
         ·exact Or.inr (Or.inr ⟨by omega,by omega,h,h⟩)
        clear hsp en0;cases hp:pairS (segL L j0 i)with
        | none=>
         have HN:=Lib.hid (HBADP.out hp);have CP2:Hid (∀ao' cap',Sgs wr ao' (segL L j0 i)→i-j0≤cap'→Calls Tryz.prog 160 #[.slice ao' (i-j0) cap'] wr fun e w'=>Below wr.heap.size wr w'∧ ∃t v:ByteArray,e= .returned (.tuple #[.agg #[.string t,.string v],.bool false])):=(by intro ao' cap' h1 h2;refine(CP.out ao' cap' h1 h2).mono fun e w' h=> ?_;unfold PairE at h;rw[hp]at h;exact h);clear CP HBADP HPLUS HNEXT hp;rcases hsp3 with⟨q1,_⟩ | ⟨q1,q2,_⟩ | ⟨q1,q2,q3,_⟩
         all_goals
          go_wp2_with fail;all_goals(try(exfalso;omega))
          all_goals refine(CP2.out _ _ (by have h:=hCUT.out;rw[cutA_some,if_neg (by omega)]at h;exact h) (by omega)).mono ?_;rintro e w2 ⟨hB2,t,v,rfl⟩;go_wp2_with fail;go_ret2;exact HNO.out _ ((HBW.out.trans (hB2.mono hszr)).alloc (Nat.le_trans hszr hB2.size) _) HN.out
        | some p=>
         have CP2:Hid (∀ao' cap',Sgs wr ao' (segL L j0 i)→i-j0≤cap'→Calls Tryz.prog 160 #[.slice ao' (i-j0) cap'] wr fun e w'=>Below wr.heap.size wr w'∧e= .returned (.tuple #[.agg #[.string ⟨p.1.toArray⟩,.string ⟨p.2.toArray⟩],.bool true])):=(by intro ao' cap' h1 h2;refine(CP.out ao' cap' h1 h2).mono fun e w' h=> ?_;unfold PairE at h;rw[hp]at h;exact h);have hps:=pairS_small hp;rw[segL_len HSEG.out]at hps;have HSMP:Hid ((av p).t.size≤100000∧(av p).v.size≤1100000):=av_small hps.1 (by omega);have h1j:j0+1≤i:=(by omega);have HSMC:Hid (Smalls (cur++[av p])):=by
          intro x hx;rcases List.mem_append.1 hx with hx | hx
          ·exact hR.out.small.2 x hx
          ·simp only[List.mem_singleton]at hx;rw[hx];exact HSMP.out
         have HSMN:Hid (∀l∈ns++[cur++[av p]],Smalls l):=by
          intro l hl;rcases List.mem_append.1 hl with hl | hl
          ·exact hR.out.small.1 l hl
          ·simp only[List.mem_singleton]at hl;rw[hl];exact HSMC.out
         have HCW:Hid (w1.cell? ⟨b,o+i*2,none⟩=some (.int .u8 (n0:Int))):=CW0.out;rcases hsp3 with⟨q1,h43⟩ | ⟨q1,q2,h43⟩ | ⟨q1,q2,q3,h43⟩
         ·have HG:=Lib.hid (HNEXT.out p h43 hp);have q43:((n0:Int)==43)=false:=(by rw[beq_eq_false_iff_ne];exact h43);have q43b:((n0:Int) !=43)=true:=(by rw[bne_iff_ne];exact h43);clear CP HBADP HPLUS HNEXT hp hps h43;go_wp2_with fail;all_goals(try(exfalso;omega))
          all_goals
           refine(CP2.out _ _ (by have h:=hCUT.out;rw[cutA_some,if_neg (by omega)]at h;exact h) (by omega)).mono ?_;rintro e w2 ⟨hB2,rfl⟩;have HB2':=Lib.hid (HBW.out.trans (hB2.mono hszr));have hsz2:=HB2'.out.size;have hN3:=nest_below (nest_below hR.out.nest hB2) (w':=w2.alloc (.cells #[.string ⟨p.1.toArray⟩,.string ⟨p.2.toArray⟩] 51)) ((Below.refl _ _).alloc (Nat.le_refl _) _);have HB3:Hid (Below w1.heap.size w1 (w2.alloc (.cells #[.string ⟨p.1.toArray⟩,.string ⟨p.2.toArray⟩] 51))):=HB2'.out.alloc hsz2 _;obtain⟨vl',w4,hap,hN4,hB4⟩:=nest_app (av p) hN3 hcl HB3.out.size;obtain⟨_,⟨aoL4,mL4,capL4,rfl,hmL4,hcL4⟩⟩:=nest_letters hN4;have hap':(Builtin.append_ #[23,23] 23 #[_,.slice (some ⟨(w2.alloc (.cells #[.string ⟨p.1.toArray⟩,.string ⟨p.2.toArray⟩] 51)).heap.size,0,none⟩) 1 1]).run Tryz.prog ((w2.alloc (.cells #[.string ⟨p.1.toArray⟩,.string ⟨p.2.toArray⟩] 51)).alloc (.cells #[.string ⟨p.1.toArray⟩,.string ⟨p.2.toArray⟩] 51))= .ok (.slice aoL4 mL4 capL4) w4:=hap;have HN4:=Lib.hid hN4;have HB4:=Lib.hid (HB3.out.trans hB4);clear hN3 hN4 hB4 hap hB2;simp only[World.size_alloc]at hap';have d0:=(HB4.out.cell (World.block_lt_of_cell? w1 _ HCW.out)).trans HCW.out;obtain⟨vn',w5,hap2,hN5,hB5⟩:=nest_push HN4.out (by rw[HN4.out.len];exact hnl) HB4.out.size;obtain⟨⟨aoN5,mN5,capN5,rfl,hmN5,hcN5⟩,_⟩:=nest_letters hN5;have HN6:=Lib.hid (nest_fresh hN5 (HB4.out.trans hB5).size);have HB6:=Lib.hid ((HB4.out.trans hB5).alloc (HB4.out.trans hB5).size (.cells #[] 51));clear hN5 hB5;go_wp2_with (first | (at_builtin;refine Lib.wpList_append_run _ rfl _ _ _ _ rfl _ _ rfl rfl _ _ hap2 ?_) | (at_builtin;refine Lib.wpList_append_run _ rfl _ _ _ _ rfl _ _ rfl rfl _ _ hap' ?_));go_roundw;case rel=>exact⟨i+1,i+1,_,[],_,by omega,by omega,by go_num,by go_num,⟨HN6.out,HB6.out,by have:=HLEN.out;simp;omega,⟨HSMN.out,fun x hx=>by simp at hx⟩,fun _=>⟨seg_new (by omega),HG.out⟩,fun h=>by omega⟩⟩
           case measure=>simp[intOf]<;>omega
         ·have HG:=Lib.hid (HNEXT.out p h43 hp);have q43:((n0:Int)==43)=false:=(by rw[beq_eq_false_iff_ne];exact h43);have q43b:((n0:Int) !=43)=true:=(by rw[bne_iff_ne];exact h43);clear CP HBADP HPLUS HNEXT hp hps h43;go_wp2_with fail;all_goals(try(exfalso;omega))
          all_goals
           refine(CP2.out _ _ (by have h:=hCUT.out;rw[cutA_some,if_neg (by omega)]at h;exact h) (by omega)).mono ?_;rintro e w2 ⟨hB2,rfl⟩;have HB2':=Lib.hid (HBW.out.trans (hB2.mono hszr));have hsz2:=HB2'.out.size;have hN3:=nest_below (nest_below hR.out.nest hB2) (w':=w2.alloc (.cells #[.string ⟨p.1.toArray⟩,.string ⟨p.2.toArray⟩] 51)) ((Below.refl _ _).alloc (Nat.le_refl _) _);have HB3:Hid (Below w1.heap.size w1 (w2.alloc (.cells #[.string ⟨p.1.toArray⟩,.string ⟨p.2.toArray⟩] 51))):=HB2'.out.alloc hsz2 _;obtain⟨vl',w4,hap,hN4,hB4⟩:=nest_app (av p) hN3 hcl HB3.out.size;obtain⟨_,⟨aoL4,mL4,capL4,rfl,hmL4,hcL4⟩⟩:=nest_letters hN4;have hap':(Builtin.append_ #[23,23] 23 #[_,.slice (some ⟨(w2.alloc (.cells #[.string ⟨p.1.toArray⟩,.string ⟨p.2.toArray⟩] 51)).heap.size,0,none⟩) 1 1]).run Tryz.prog ((w2.alloc (.cells #[.string ⟨p.1.toArray⟩,.string ⟨p.2.toArray⟩] 51)).alloc (.cells #[.string ⟨p.1.toArray⟩,.string ⟨p.2.toArray⟩] 51))= .ok (.slice aoL4 mL4 capL4) w4:=hap;have HN4:=Lib.hid hN4;have HB4:=Lib.hid (HB3.out.trans hB4);clear hN3 hN4 hB4 hap hB2;simp only[World.size_alloc]at hap';have d0:=(HB4.out.cell (World.block_lt_of_cell? w1 _ HCW.out)).trans HCW.out;obtain⟨vn',w5,hap2,hN5,hB5⟩:=nest_push HN4.out (by rw[HN4.out.len];exact hnl) HB4.out.size;obtain⟨⟨aoN5,mN5,capN5,rfl,hmN5,hcN5⟩,_⟩:=nest_letters hN5;have HN6:=Lib.hid (nest_fresh hN5 (HB4.out.trans hB5).size);have HB6:=Lib.hid ((HB4.out.trans hB5).alloc (HB4.out.trans hB5).size (.cells #[] 51));clear hN5 hB5;go_wp2_with (first | (at_builtin;refine Lib.wpList_append_run _ rfl _ _ _ _ rfl _ _ rfl rfl _ _ hap2 ?_) | (at_builtin;refine Lib.wpList_append_run _ rfl _ _ _ _ rfl _ _ rfl rfl _ _ hap' ?_));go_roundw;case rel=>exact⟨i+1,i+1,_,[],_,by omega,by omega,by go_num,by go_num,⟨HN6.out,HB6.out,by have:=HLEN.out;simp;omega,⟨HSMN.out,fun x hx=>by simp at hx⟩,fun _=>⟨seg_new (by omega),HG.out⟩,fun h=>by omega⟩⟩
           case measure=>simp[intOf]<;>omega
         ·have HG:=Lib.hid (HPLUS.out p h43 hp);have q43b:((n0:Int) !=43)=false:=(by rw[bne_eq_false_iff_eq];exact h43);clear CP HBADP HPLUS HNEXT hp hps h43;go_wp2_with fail;all_goals(try(exfalso;omega))
          all_goals
           refine(CP2.out _ _ (by have h:=hCUT.out;rw[cutA_some,if_neg (by omega)]at h;exact h) (by omega)).mono ?_;rintro e w2 ⟨hB2,rfl⟩;have HB2':=Lib.hid (HBW.out.trans (hB2.mono hszr));have hsz2:=HB2'.out.size;have hN3:=nest_below (nest_below hR.out.nest hB2) (w':=w2.alloc (.cells #[.string ⟨p.1.toArray⟩,.string ⟨p.2.toArray⟩] 51)) ((Below.refl _ _).alloc (Nat.le_refl _) _);have HB3:Hid (Below w1.heap.size w1 (w2.alloc (.cells #[.string ⟨p.1.toArray⟩,.string ⟨p.2.toArray⟩] 51))):=HB2'.out.alloc hsz2 _;obtain⟨vl',w4,hap,hN4,hB4⟩:=nest_app (av p) hN3 hcl HB3.out.size;obtain⟨_,⟨aoL4,mL4,capL4,rfl,hmL4,hcL4⟩⟩:=nest_letters hN4;have hap':(Builtin.append_ #[23,23] 23 #[_,.slice (some ⟨(w2.alloc (.cells #[.string ⟨p.1.toArray⟩,.string ⟨p.2.toArray⟩] 51)).heap.size,0,none⟩) 1 1]).run Tryz.prog ((w2.alloc (.cells #[.string ⟨p.1.toArray⟩,.string ⟨p.2.toArray⟩] 51)).alloc (.cells #[.string ⟨p.1.toArray⟩,.string ⟨p.2.toArray⟩] 51))= .ok (.slice aoL4 mL4 capL4) w4:=hap;have HN4:=Lib.hid hN4;have HB4:=Lib.hid (HB3.out.trans hB4);clear hN3 hN4 hB4 hap hB2;simp only[World.size_alloc]at hap';have d0:=(HB4.out.cell (World.block_lt_of_cell? w1 _ HCW.out)).trans HCW.out;go_wp2_with (at_builtin;refine Lib.wpList_append_run _ rfl _ _ _ _ rfl _ _ rfl rfl _ _ hap' ?_);go_roundw;case rel=>exact⟨i+1,i+1,ns,_,vals,by omega,by omega,by go_num,by go_num,⟨HN4.out,HB4.out,by have:=HLEN.out;simp;omega,⟨hR.out.small.1,HSMC.out⟩,fun _=>⟨seg_new (by omega),HG.out⟩,fun h=>by omega⟩⟩
           case measure=>simp[intOf]<;>omega
       ·have hsep':sepS L[i]=false:=(by simpa using hsep);have HRN:Hid (RRel w1 wr L (i+1) j0 (.slice aoN mN capN) (.slice aoL mL capL) ns cur vals):=⟨hR.out.nest,HBW.out,HLEN.out,hR.out.small,fun _=>⟨seg_next HSEG.out hil hsep',HGAT.out⟩,fun h=>by omega⟩;have hfact:(L[i].2=false)∨(L[i].2=true∧((L[i].1.toNat:Int)==44)=false∧((L[i].1.toNat:Int)==59)=false∧((L[i].1.toNat:Int)==43)=false):=by
         cases hb:L[i].2 with
         | false=>exact Or.inl rfl
         | true=>
          refine Or.inr ⟨rfl,?_⟩;have hs:isSep L[i].1=false:=(by unfold sepS at hsep';rw[hb]at hsep';simpa using hsep');have h3: ¬ ((L[i].1.toNat:Int)=44∨(L[i].1.toNat:Int)=59∨(L[i].1.toNat:Int)=43):=fun h=>by rw[(u8_sep _).2 h]at hs;cases hs
          rw[beq_eq_false_iff_ne,beq_eq_false_iff_ne,beq_eq_false_iff_ne];exact⟨fun h=>h3 (Or.inl h),fun h=>h3 (Or.inr (Or.inl h)),fun h=>h3 (Or.inr (Or.inr h))⟩
        generalize L[i]=x at c0 c1 hfact hsep';obtain⟨c,bare⟩:=x;simp only at c0 c1 hfact;clear CP hCUT hsep hsep' CW;rcases hfact with rfl | ⟨rfl,q1,q2,q3⟩
        all_goals
         go_wp2_with fail;go_roundw;case rel=>exact⟨i+1,j0,ns,cur,vals,by omega,by omega,by go_num,rfl,HRN⟩
         case measure=>simp[intOf]<;>omega
      ·obtain rfl:i=m:=(by omega);have hnlt: ¬ (i:Int)<(i:Int):=(by omega);have HSE:Hid (Seg L j0 L.length):=(by show Seg _ _ _;rw[←HM.out];exact HSEG.out);have q0:((i:Int)==(i:Int))=true:=(by rw[beq_iff_eq]);have HLI:Hid (L.length=i):=HM.out.symm;cases hp:pairS (segL L j0 i)with
       | none=>
        have HN:Hid (GR [] [] L=none):=gat_none HGAT.out HSEG.out (fun h=>absurd h (by rw[HLI.out];omega)) hp;have CP2:Hid (∀ao' cap',Sgs wr ao' (segL L j0 i)→i-j0≤cap'→Calls Tryz.prog 160 #[.slice ao' (i-j0) cap'] wr fun e w'=>Below wr.heap.size wr w'∧ ∃t v:ByteArray,e= .returned (.tuple #[.agg #[.string t,.string v],.bool false])):=(by intro ao' cap' h1 h2;refine(CP.out ao' cap' h1 h2).mono fun e w' h=> ?_;unfold PairE at h;rw[hp]at h;exact h);clear CP hp;go_wp2_with fail;all_goals
         refine(CP2.out _ _ (by have h:=hCUT.out;rw[cutA_some]at h;first | (rw[if_pos (by omega)]at h;exact h) | (rw[if_neg (by omega)]at h;exact h)) (by omega)).mono ?_;rintro e w2 ⟨hB2,t,v,rfl⟩;go_wp2_with fail;go_ret2;exact HNO.out _ ((HBW.out.trans (hB2.mono hszr)).alloc (Nat.le_trans hszr hB2.size) _) HN.out
       | some p=>
        have CP2:Hid (∀ao' cap',Sgs wr ao' (segL L j0 i)→i-j0≤cap'→Calls Tryz.prog 160 #[.slice ao' (i-j0) cap'] wr fun e w'=>Below wr.heap.size wr w'∧e= .returned (.tuple #[.agg #[.string ⟨p.1.toArray⟩,.string ⟨p.2.toArray⟩],.bool true])):=(by intro ao' cap' h1 h2;refine(CP.out ao' cap' h1 h2).mono fun e w' h=> ?_;unfold PairE at h;rw[hp]at h;exact h);have hps:=pairS_small hp;rw[segL_len HSEG.out]at hps;have HSMP:Hid ((av p).t.size≤100000∧(av p).v.size≤1100000):=av_small hps.1 (by omega);have h1j:j0+1≤i:=(by omega);have HSMC:Hid (Smalls (cur++[av p])):=by
         intro x hx;rcases List.mem_append.1 hx with hx | hx
         ·exact hR.out.small.2 x hx
         ·simp only[List.mem_singleton]at hx;rw[hx];exact HSMP.out
        have HSMN:Hid (∀l∈ns++[cur++[av p]],Smalls l):=by
         intro l hl;rcases List.mem_append.1 hl with hl | hl
         ·exact hR.out.small.1 l hl
         ·simp only[List.mem_singleton]at hl;rw[hl];exact HSMC.out
        have HG:Hid (GR [] [] L=some (ns++[cur++[av p]])):=gat_end HGAT.out HSE.out (by rw[HLI.out];exact hp);clear CP hp hps;go_wp2_with fail;all_goals
         refine(CP2.out _ _ (by have h:=hCUT.out;rw[cutA_some]at h;first | (rw[if_pos (by omega)]at h;exact h) | (rw[if_neg (by omega)]at h;exact h)) (by omega)).mono ?_;rintro e w2 ⟨hB2,rfl⟩;have HB2':=Lib.hid (HBW.out.trans (hB2.mono hszr));have hsz2:=HB2'.out.size;have hN3:=nest_below (nest_below hR.out.nest hB2) (w':=w2.alloc (.cells #[.string ⟨p.1.toArray⟩,.string ⟨p.2.toArray⟩] 51)) ((Below.refl _ _).alloc (Nat.le_refl _) _);have HB3:Hid (Below w1.heap.size w1 (w2.alloc (.cells #[.string ⟨p.1.toArray⟩,.string ⟨p.2.toArray⟩] 51))):=HB2'.out.alloc hsz2 _;obtain⟨vl',w4,hap,hN4,hB4⟩:=nest_app (av p) hN3 hcl HB3.out.size;obtain⟨_,⟨aoL4,mL4,capL4,rfl,hmL4,hcL4⟩⟩:=nest_letters hN4;have hap':(Builtin.append_ #[23,23] 23 #[_,.slice (some ⟨(w2.alloc (.cells #[.string ⟨p.1.toArray⟩,.string ⟨p.2.toArray⟩] 51)).heap.size,0,none⟩) 1 1]).run Tryz.prog ((w2.alloc (.cells #[.string ⟨p.1.toArray⟩,.string ⟨p.2.toArray⟩] 51)).alloc (.cells #[.string ⟨p.1.toArray⟩,.string ⟨p.2.toArray⟩] 51))= .ok (.slice aoL4 mL4 capL4) w4:=hap;have HN4:=Lib.hid hN4;have HB4:=Lib.hid (HB3.out.trans hB4);clear hN3 hN4 hB4 hap hB2;simp only[World.size_alloc]at hap';obtain⟨vn',w5,hap2,hN5,hB5⟩:=nest_push HN4.out (by rw[HN4.out.len];exact hnl) HB4.out.size;obtain⟨⟨aoN5,mN5,capN5,rfl,hmN5,hcN5⟩,_⟩:=nest_letters hN5;have HN6:=Lib.hid (nest_fresh hN5 (HB4.out.trans hB5).size);have HB6:=Lib.hid ((HB4.out.trans hB5).alloc (HB4.out.trans hB5).size (.cells #[] 51));clear hN5 hB5;go_wp2_with (first | (at_builtin;refine Lib.wpList_append_run _ rfl _ _ _ _ rfl _ _ rfl rfl _ _ hap2 ?_) | (at_builtin;refine Lib.wpList_append_run _ rfl _ _ _ _ rfl _ _ rfl rfl _ _ hap' ?_));go_roundw;case rel=>exact⟨i+1,i+1,_,[],_,by omega,by omega,by go_num,by go_num,⟨HN6.out,HB6.out,by have:=HLEN.out;simp;omega,⟨HSMN.out,fun x hx=>by simp at hx⟩,fun h=>absurd h (by rw[HLI.out];omega),fun _=>HG.out⟩⟩
         case measure=>simp[intOf]<;>omega
     ·have hle': ¬ (i:Int)≤(m:Int):=(by omega);have hG:=hR.out.done (by rw[←HM.out];omega);have hn5:=hR.out.nest;rw[hmN.out]at hn5 hcN;have HRD:=Lib.hid (nest_rdns hn5);have hnl:ns.length≤1000:=(by have:=hR.out.len;omega);have CR:=rright_any aoN capN ns wr HRD hnl (Lib.hid (fun l hl _=>hR.out.small.1 l hl));have hy:=HYES.out _ hG;rw[←hmN.out]at CR;have HCN:=Lib.hid hcN;have HSM:=Lib.hid hR.out.small.1;have HBW:=Lib.hid hR.out.below;clear hG hn5 hcN;cases hok:nameOK ns with
      | false=>rw[hok]at CR hy;have HCR:=Lib.hid CR;have HY:=Lib.hid hy;clear CR hy hok;go_wp2_with fail;refine HCR.out.mono ?_;rintro e w6 ⟨rfl,hB6⟩;go_wp2_with fail;go_ret2;refine⟨HB1.out.trans ((HBW.out.trans (hB6.mono HBW.out.size)).mono hsz1),?_⟩;rw[if_neg H1.out,HY.out];rfl
      | true=>rw[hok]at CR hy;have HCR:=Lib.hid CR;have HY:=Lib.hid hy;clear CR hy hok;go_wp2_with fail;refine HCR.out.mono ?_;rintro e w6 ⟨rfl,hB6⟩;go_wp2_with fail;go_ret2;refine⟨HB1.out.trans ((HBW.out.trans (hB6.mono HBW.out.size)).mono hsz1),?_⟩;rw[if_neg H1.out,HY.out];exact⟨aoN,capN,by rw[←hmN.out];rfl,HCN.out,rdns_below HRD.out hB6,HSM.out⟩
end dnw
end Go.Proofs.YtmnpfkbjpeaemaaGreatDoor
