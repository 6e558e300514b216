/- One text out of several: RNormW, HoldW, CmpT, CmpB, OrdQ, EntP, EntQ, EntR, EntS, EntK, LikeW. -/
import Derived.Test.YtmnpfkbjpeaemaaGreatDoorQ7
import Derived.Test.YtmnpfkbjpeaemaaGreatDoorQ8
import Derived.Test.YtmnpfkbjpeaemaaGreatDoorQ9
import Derived.WalkKit
import Derived.Lib.Walk
import Derived.Test.YtmnpfkbjpeaemaaGreatDoorQ6
import Derived.Test.YtmnpfkbjpeaemaaGreatDoorQ1
set_option linter.unusedVariables false
set_option linter.unusedSimpArgs false
set_option maxRecDepth 20000
set_option maxHeartbeats 16000000
namespace Go.Proofs.YtmnpfkbjpeaemaaGreatDoor
open Go.RowKit
namespace atw
open atp
theorem bs_app (a b:List UInt8):bs a++bs b=bs (a++b):=by apply kt.str_eq;show(bs a++bs b).data.toList=a++b;simp[bs]
theorem joinK_snoc (l:List ByteArray)(i:Nat)(h:i<l.length):joinK (l.take (i+1))=joinK (l.take i)++l[i].data.toList:=by unfold joinK;rw[List.take_succ_eq_append_getElem h,List.map_append,List.flatten_append];simp
theorem joinK_le (l:List ByteArray)(i:Nat):(joinK (l.take i)).length≤(joinK l).length:=by
 unfold joinK;conv=>rhs;rw[←List.take_append_drop i l]
 rw[List.map_append,List.flatten_append,List.length_append];omega
theorem rnormal_any (nm:ByteArray)(syn:Int)(sg:Bool)(s:ByteArray)(w:World)(hs:s.size≤140737488351232):
  Calls Tryz.prog 140 #[.agg #[.string nm,.int .i64 syn,.bool sg],.string s] w fun e w'=>e= .returned (normV (normL syn s.data.toList))∧Below w.heap.size w w':=by
 obtain⟨W0,hW0⟩: ∃W,w.alloc (.cells #[.string nm,.int .i64 syn,.bool sg] 108)=W:=⟨_,rfl⟩;have hB0:Below w.heap.size w W0:=by rw[←hW0];exact(Below.refl _ _).alloc (Nat.le_refl _) _
 have HB0:=Lib.hid hB0;have hw0:w.heap.size≤W0.heap.size:=hB0.size;have k1:W0.cell? ⟨w.heap.size,1,none⟩=some (.int .i64 syn):=by rw[←hW0,World.cell?_alloc_new];rfl
 clear hB0;by_cases hsy:1≤syn∧syn≤7
 ·by_cases hlong:1000<s.size
  ·rw[normL_long hsy (by rw[kt.size_len];exact hlong)];have hlI:(1000:Int)<(s.size:Int):=(by omega);obtain⟨hs1,hs7⟩:=hsy;have q1:decide (syn<1)=false:=(by rw[decide_eq_false_iff_not];omega);have q2:decide (7<syn)=false:=(by rw[decide_eq_false_iff_not];omega);clear hlong;go_enter Tryz.func140,Tryz.ntmps140;go_wp2_with fail;go_ret2;exact⟨rfl,HB0.out⟩
  ·have hlI: ¬ (1000:Int)<(s.size:Int):=(by omega);by_cases h0:s.data.toList=[]
   ·rw[normL_nil hsy h0];have hz:(s.size:Int)=0:=(by rw[←kt.size_len,h0];rfl);obtain⟨hs1,hs7⟩:=hsy;have q1:decide (syn<1)=false:=(by rw[decide_eq_false_iff_not];omega);have q2:decide (7<syn)=false:=(by rw[decide_eq_false_iff_not];omega);clear hlong h0;go_enter Tryz.func140,Tryz.ntmps140;go_wp2_with fail;go_ret2;exact⟨rfl,HB0.out⟩
   ·have HNF:=Lib.hid (normL_form hsy (by rw[kt.size_len];omega) h0);have hsp:((s.size:Int)==0)=false:=(by rw[beq_eq_false_iff_ne];intro h;exact h0 (by rw[zero_s (s:=s) (by omega)];rfl));have hsb:s.size≤1000:=(by omega);have hcs:syn=1∨syn=2∨syn=3∨syn=4∨syn=5∨syn=6∨syn=7:=(by omega);clear hsy hlong h0;rcases hcs with rfl | rfl | rfl | rfl | rfl | rfl | rfl
    ·have HF:Hid (formO 1 s.data.toList=ne0 (prp.readyO s.data.toList true)):=rfl;have HC:Hid (Calls Tryz.prog 32 #[.string s,.bool true] W0 fun e w'=>e= .returned (prw.pairV (prp.readyO s.data.toList true))∧Below W0.heap.size W0 w'):=prw.rready_any s true W0 (by omega);cases ho:prp.readyO s.data.toList true with
     | none=>rw[ho]at HC HF;rw[show prw.pairV none= .tuple #[.string ⟨#[]⟩,.int .i64 19]from rfl]at HC;clear ho;go_enter Tryz.func140,Tryz.ntmps140;go_wp2_with fail;refine HC.out.mono ?_;rintro e w1 ⟨rfl,hB1⟩;have HB1:=Lib.hid (HB0.out.trans (hB1.mono hw0));clear hB1;go_wp2_with fail;go_ret2;exact⟨by rw[HNF.out,HF.out];rfl,HB1.out⟩
     | some u=>
      rw[ho]at HC HF;have HC2:Hid (Calls Tryz.prog 32 #[.string s,.bool true] W0 fun e w'=>e= .returned (.tuple #[.string (bs u),.int .i64 0])∧Below W0.heap.size W0 w'):=HC;clear HC ho;by_cases hu:u=[]
      ·have hue:((bs u).size:Int)=0:=(by rw[hu];rfl);have HX:Hid (formO 1 s.data.toList=none):=(by show _=_;rw[HF.out,hu];rfl);clear hu;go_enter Tryz.func140,Tryz.ntmps140;go_wp2_with fail;refine HC2.out.mono ?_;rintro e w1 ⟨rfl,hB1⟩;have HB1:=Lib.hid (HB0.out.trans (hB1.mono hw0));clear hB1;go_wp2_with fail;go_ret2;exact⟨by rw[HNF.out,HX.out];rfl,HB1.out⟩
      ·have HX:Hid (formO 1 s.data.toList=some u):=(by show _=_;rw[HF.out,ne0_some hu]);have hupN:0<(bs u).size:=(by rw[bs_size];exact List.length_pos_iff.2 hu);have hup:(0:Int)<((bs u).size:Int):=(by omega);clear hu;go_enter Tryz.func140,Tryz.ntmps140;go_wp2_with fail;refine HC2.out.mono ?_;rintro e w1 ⟨rfl,hB1⟩;have HB1:=Lib.hid (HB0.out.trans (hB1.mono hw0));clear hB1;go_wp2_with fail;go_ret2;exact⟨by rw[HNF.out,HX.out];rfl,HB1.out⟩
    ·have HF:Hid (formO 2 s.data.toList=ne0 (prp.readyO s.data.toList false)):=rfl;have HC:Hid (Calls Tryz.prog 32 #[.string s,.bool false] W0 fun e w'=>e= .returned (prw.pairV (prp.readyO s.data.toList false))∧Below W0.heap.size W0 w'):=prw.rready_any s false W0 (by omega);cases ho:prp.readyO s.data.toList false with
     | none=>rw[ho]at HC HF;rw[show prw.pairV none= .tuple #[.string ⟨#[]⟩,.int .i64 19]from rfl]at HC;clear ho;go_enter Tryz.func140,Tryz.ntmps140;go_wp2_with fail;refine HC.out.mono ?_;rintro e w1 ⟨rfl,hB1⟩;have HB1:=Lib.hid (HB0.out.trans (hB1.mono hw0));clear hB1;go_wp2_with fail;go_ret2;exact⟨by rw[HNF.out,HF.out];rfl,HB1.out⟩
     | some u=>
      rw[ho]at HC HF;have HC2:Hid (Calls Tryz.prog 32 #[.string s,.bool false] W0 fun e w'=>e= .returned (.tuple #[.string (bs u),.int .i64 0])∧Below W0.heap.size W0 w'):=HC;clear HC ho;by_cases hu:u=[]
      ·have hue:((bs u).size:Int)=0:=(by rw[hu];rfl);have HX:Hid (formO 2 s.data.toList=none):=(by show _=_;rw[HF.out,hu];rfl);clear hu;go_enter Tryz.func140,Tryz.ntmps140;go_wp2_with fail;refine HC2.out.mono ?_;rintro e w1 ⟨rfl,hB1⟩;have HB1:=Lib.hid (HB0.out.trans (hB1.mono hw0));clear hB1;go_wp2_with fail;go_ret2;exact⟨by rw[HNF.out,HX.out];rfl,HB1.out⟩
      ·have HX:Hid (formO 2 s.data.toList=some u):=(by show _=_;rw[HF.out,ne0_some hu]);have hupN:0<(bs u).size:=(by rw[bs_size];exact List.length_pos_iff.2 hu);have hup:(0:Int)<((bs u).size:Int):=(by omega);clear hu;go_enter Tryz.func140,Tryz.ntmps140;go_wp2_with fail;refine HC2.out.mono ?_;rintro e w1 ⟨rfl,hB1⟩;have HB1:=Lib.hid (HB0.out.trans (hB1.mono hw0));clear hB1;go_wp2_with fail;go_ret2;exact⟨by rw[HNF.out,HX.out];rfl,HB1.out⟩
    ·have HX:Hid (formO 3 s.data.toList=some s.data.toList):=rfl;go_enter Tryz.func140,Tryz.ntmps140;go_wp2_with fail;go_ret2;exact⟨by rw[HNF.out,HX.out];show _=Ending.returned (.tuple #[.string (bs s.data.toList),.int .i64 0]);rw[bs_of];rfl,HB0.out⟩
    ·have HC:Hid (∀w,Calls Tryz.prog 196 #[.string s] w fun e w'=>e= .returned (.bool (numOK s.data.toList))∧w=w'):=fun w=>rnumber_any s w (by omega);have HF:Hid (formO 4 s.data.toList=if numOK s.data.toList=true then some s.data.toList else none):=rfl;cases hn:numOK s.data.toList with
     | true=>rw[hn]at HC;have HX:Hid (formO 4 s.data.toList=some s.data.toList):=(by show _=_;rw[HF.out,if_pos hn]);clear hn;go_enter Tryz.func140,Tryz.ntmps140;go_wp2_with fail;refine(HC.out _).mono ?_;rintro e w1 ⟨rfl,rfl⟩;go_wp2_with fail;go_ret2;exact⟨by rw[HNF.out,HX.out];show _=Ending.returned (.tuple #[.string (bs s.data.toList),.int .i64 0]);rw[bs_of];rfl,HB0.out⟩
     | false=>rw[hn]at HC;have HX:Hid (formO 4 s.data.toList=none):=(by show _=_;rw[HF.out,if_neg (by rw[hn];simp)]);clear hn;go_enter Tryz.func140,Tryz.ntmps140;go_wp2_with fail;refine(HC.out _).mono ?_;rintro e w1 ⟨rfl,rfl⟩;go_wp2_with fail;go_ret2;exact⟨by rw[HNF.out,HX.out];rfl,HB0.out⟩
    ·have HF:Hid (formO 5 s.data.toList=if s.data.toList=tT∨s.data.toList=tF then some s.data.toList else none):=rfl;by_cases e1:s.data.toList=tT
     ·have q1:(s.toList==[84,82,85,69])=true:=(by rw[Lib.toList_data,e1];rfl);have HX:Hid (formO 5 s.data.toList=some s.data.toList):=(by show _=_;rw[HF.out,if_pos (Or.inl e1)]);clear e1;go_enter Tryz.func140,Tryz.ntmps140;go_wp2_with fail;go_ret2;exact⟨by rw[HNF.out,HX.out];show _=Ending.returned (.tuple #[.string (bs s.data.toList),.int .i64 0]);rw[bs_of];rfl,HB0.out⟩
     ·have q1:(s.toList==[84,82,85,69])=false:=(by rw[Lib.toList_data];simpa[tT]using e1);by_cases e2:s.data.toList=tF
      ·have q2:(s.toList==[70,65,76,83,69])=true:=(by rw[Lib.toList_data,e2];rfl);have HX:Hid (formO 5 s.data.toList=some s.data.toList):=(by show _=_;rw[HF.out,if_pos (Or.inr e2)]);clear e1 e2;go_enter Tryz.func140,Tryz.ntmps140;go_wp2_with fail;go_ret2;exact⟨by rw[HNF.out,HX.out];show _=Ending.returned (.tuple #[.string (bs s.data.toList),.int .i64 0]);rw[bs_of];rfl,HB0.out⟩
      ·have q2:(s.toList==[70,65,76,83,69])=false:=(by rw[Lib.toList_data];simpa[tF]using e2);have HX:Hid (formO 5 s.data.toList=none):=by
        show _=_;rw[HF.out,if_neg];rintro(h | h)
        ·exact e1 h
        ·exact e2 h
       clear e1 e2;go_enter Tryz.func140,Tryz.ntmps140;go_wp2_with fail;go_ret2;exact⟨by rw[HNF.out,HX.out];rfl,HB0.out⟩
    ·have HF:Hid (formO 6 s.data.toList=nameK s.data.toList):=rfl;have HNK:Hid (∃n er,dnw.parseV s=(n,er)∧dnw.nameOK n=true∧((er=0∧nameK s.data.toList=some (joinK (dnw.keysB n)))∨(er=4∧nameK s.data.toList=none))):=by
      show∃n er,_;unfold dnw.parseV nameK;rw[if_neg (by omega)];cases hp:dnw.parseR s.data.toList with
      | none=>exact⟨[],4,rfl,by decide,Or.inr ⟨rfl,rfl⟩⟩
      | some n=>exact⟨n,0,rfl,parseR_ok hp,Or.inl ⟨rfl,rfl⟩⟩
     obtain⟨n,er,hV,hok,hcase⟩:=HNK.out;have HP:Hid (Calls Tryz.prog 95 #[.string s] W0 fun e w'=>Below W0.heap.size W0 w'∧ ∃ao cap,e= .returned (.tuple #[.slice ao n.length cap,.int .i64 er])∧dnw.Rdns w' ao n):=(by refine(dnw.rparse_any s W0 hs).mono fun e w' h=> ?_;have:=dnw.parseE_V h;rw[hV]at this;exact this);have HNL:Hid (n.length≤12):=(by show _≤_;have h9:=hok;unfold dnw.nameOK at h9;rw[Bool.and_eq_true,decide_eq_true_eq]at h9;exact h9.1);have HSM:Hid (∀l∈n,l.length≤4→dnw.Smalls l):=fun l hl _=>name_smalls hok l hl;have HJL:=Lib.hid (joinK_len n hok);have HOKN:=Lib.hid hok;obtain⟨m,hm⟩: ∃m,m=n.length:=⟨_,rfl⟩;rw[←hm]at HP;have hmb:m≤12:=(by rw[hm];exact HNL.out);have HKA:Hid (∀ao cap w,dnw.Rdns w ao n→Calls Tryz.prog 197 #[.slice ao m cap] w fun e w'=>Below w.heap.size w w'∧ ∃ao2 cap2,e= .returned (.tuple #[.slice ao2 m cap2,.int .i64 0])∧tupw.Strs w' ao2 (dnw.keysB n)):=(by intro ao cap w h1;rw[hm];refine(dnw.rkeys_any ao cap n w (Lib.hid h1) (by have:=HNL.out;omega) HSM).mono fun e w' h=> ?_;obtain⟨k1,k2⟩:=h;rw[if_pos HOKN.out]at k2;obtain⟨a,c,e1,_,e2⟩:=k2;exact⟨k1,a,c,e1,e2⟩);have HKL:Hid ((dnw.keysB n).length=m):=(by show _=_;rw[dnw.keysB_len,hm]);generalize dnw.keysB n=ks at HKA HKL HJL hcase;have HCS:=Lib.hid hcase;clear HNK hV hok hm hcase HOKN HSM HNL;go_enter Tryz.func140,Tryz.ntmps140;go_wp2_with fail;refine HP.out.mono ?_;rintro e w1 ⟨hB1,ao,cap,rfl,hR⟩;have HR:=Lib.hid hR;have HB1:=Lib.hid (HB0.out.trans (hB1.mono hw0));clear hR hB1;go_wp2_with fail;refine(HKA.out _ _ _ HR.out).mono ?_;rintro e w2 ⟨hB2,ao2,cap2,rfl,hS⟩;have HS:=Lib.hid hS;have HB2:=Lib.hid (HB1.out.trans (hB2.mono HB1.out.size));clear hB2 hS;have hq:(er==0)=true∧nameK s.data.toList=some (joinK ks)∨(er==0)=false∧nameK s.data.toList=none:=by
      rcases HCS.out with⟨h1,h2⟩ | ⟨h1,h2⟩
      ·exact Or.inl ⟨by rw[h1];rfl,h2⟩
      ·exact Or.inr ⟨by rw[h1];rfl,h2⟩
     rcases hq with⟨q,hnk⟩ | ⟨q,hnk⟩
     all_goals
      have HNK:=Lib.hid hnk;clear hnk;go_wp2_with fail;go_loop [6,14] (fun ov iv=> ∃i:Nat,i≤m∧iv= .int .i64 (i:Int)∧ov= .string (bs (joinK (ks.take i)))) (fun _ iv=>m- (intOf iv).toNat);case atStart=>exact⟨0,Nat.zero_le _,rfl,rfl⟩
      case round=>
       obtain⟨i,hi,rfl,rfl⟩:=hrel;by_cases hlt:i<m
       ·have hltI:(i:Int)<(m:Int):=(by omega);have hik:i<ks.length:=(by rw[HKL.out];exact hlt);obtain⟨b,o,rfl,hc⟩:=HS.out i hik;have hsn:=joinK_snoc ks i hik;have hle1:=joinK_le ks (i+1);rw[hsn,List.length_append,kt.size_len]at hle1;have HSN:=Lib.hid hsn;generalize ks[i]=k at hc HSN hle1;have hcat:bs (joinK (ks.take i))++k=bs (joinK (ks.take (i+1))):=(by rw[HSN.out,←bs_app,bs_of]);have hcb: ¬9223372036854775807<(bs (joinK (ks.take i))).size+k.size:=(by rw[bs_size];have:=HJL.out;omega);clear hsn;go_wp2_with fail;go_round;case rel=>exact⟨i+1,by omega,by go_num,rfl⟩
        case measure=>simp[intOf];omega
       ·obtain rfl:i=m:=(by omega);have hall:ks.take i=ks:=List.take_of_length_le (by rw[HKL.out];exact Nat.le_refl _);rw[hall];clear hall;go_wp2_with fail;go_ret2;exact⟨by rw[HNF.out,HF.out,HNK.out];rfl,HB2.out⟩
    ·have HF:Hid (formO 7 s.data.toList=ne0 (prp.phoneO s.data.toList)):=rfl;have HC:Hid (Calls Tryz.prog 198 #[.string s] W0 fun e w'=>e= .returned (prw.pairV (prp.phoneO s.data.toList))∧Below W0.heap.size W0 w'):=prw.rphone_any s W0 (by omega);cases ho:prp.phoneO s.data.toList with
     | none=>rw[ho]at HC HF;rw[show prw.pairV none= .tuple #[.string ⟨#[]⟩,.int .i64 19]from rfl]at HC;clear ho;go_enter Tryz.func140,Tryz.ntmps140;go_wp2_with fail;refine HC.out.mono ?_;rintro e w1 ⟨rfl,hB1⟩;have HB1:=Lib.hid (HB0.out.trans (hB1.mono hw0));clear hB1;go_wp2_with fail;go_ret2;exact⟨by rw[HNF.out,HF.out];rfl,HB1.out⟩
     | some u=>
      rw[ho]at HC HF;have HC2:Hid (Calls Tryz.prog 198 #[.string s] W0 fun e w'=>e= .returned (.tuple #[.string (bs u),.int .i64 0])∧Below W0.heap.size W0 w'):=HC;clear HC ho;by_cases hu:u=[]
      ·have hue:((bs u).size:Int)=0:=(by rw[hu];rfl);have HX:Hid (formO 7 s.data.toList=none):=(by show _=_;rw[HF.out,hu];rfl);clear hu;go_enter Tryz.func140,Tryz.ntmps140;go_wp2_with fail;refine HC2.out.mono ?_;rintro e w1 ⟨rfl,hB1⟩;have HB1:=Lib.hid (HB0.out.trans (hB1.mono hw0));clear hB1;go_wp2_with fail;go_ret2;exact⟨by rw[HNF.out,HX.out];rfl,HB1.out⟩
      ·have HX:Hid (formO 7 s.data.toList=some u):=(by show _=_;rw[HF.out,ne0_some hu]);have hupN:0<(bs u).size:=(by rw[bs_size];exact List.length_pos_iff.2 hu);have hup:(0:Int)<((bs u).size:Int):=(by omega);clear hu;go_enter Tryz.func140,Tryz.ntmps140;go_wp2_with fail;refine HC2.out.mono ?_;rintro e w1 ⟨rfl,hB1⟩;have HB1:=Lib.hid (HB0.out.trans (hB1.mono hw0));clear hB1;go_wp2_with fail;go_ret2;exact⟨by rw[HNF.out,HX.out];rfl,HB1.out⟩
 ·rw[normL_bad hsy];by_cases hs1:syn<1
  ·clear hsy;go_enter Tryz.func140,Tryz.ntmps140;go_wp2_with fail;go_ret2;exact⟨rfl,HB0.out⟩
  ·have hs7:7<syn:=(by omega);have q1:decide (syn<1)=false:=(by rw[decide_eq_false_iff_not];omega);clear hsy hs1;go_enter Tryz.func140,Tryz.ntmps140;go_wp2_with fail;go_ret2;exact⟨rfl,HB0.out⟩
end atw
open Go.RowKit
namespace atw
open atp
def TB (w:World)(p:Nat)(nm:ByteArray)(syn:Int)(sg:Bool):Prop:=w.heap[p]? =some (.cells #[.string nm,.int .i64 syn,.bool sg] 108 (0,0))
theorem tb_new (w:World)(nm:ByteArray)(syn:Int)(sg:Bool):TB (w.alloc (.cells #[.string nm,.int .i64 syn,.bool sg] 108)) w.heap.size nm syn sg:=heap_alloc_new w _
theorem tb_cells {w:World}{p:Nat}{nm:ByteArray}{syn:Int}{sg:Bool}(h:TB w p nm syn sg):w.cell? ⟨p,0,none⟩=some (.string nm)∧w.cell? ⟨p,1,none⟩=some (.int .i64 syn)∧w.cell? ⟨p,2,none⟩=some (.bool sg):=⟨by rw[Lib.cell_of_heap h];rfl,by rw[Lib.cell_of_heap h];rfl,by rw[Lib.cell_of_heap h];rfl⟩
theorem tb_below {w w':World}{p:Nat}{nm:ByteArray}{syn:Int}{sg:Bool}(h:TB w p nm syn sg)(hb:Below w.heap.size w w'):TB w' p nm syn sg:=(hb.block p (kt.bld_lt h)).trans h
def bothL (syn:Int)(a b:List UInt8):List UInt8 × List UInt8 × Int:=if(normL syn a).2≠0 then([],[],(normL syn a).2)else if(normL syn b).2≠0 then([],[],(normL syn b).2)else((normL syn a).1,(normL syn b).1,0)
def eqL (syn:Int)(a b:List UInt8):Bool × Int:=(decide ((bothL syn a b).2.2=0)&&decide ((bothL syn a b).1=(bothL syn a b).2.1),(bothL syn a b).2.2)
theorem both_any (nm:ByteArray)(syn:Int)(sg:Bool)(a b:ByteArray)(w:World)(ha:a.size≤140737488351232)(hb:b.size≤140737488351232)(hE:Hid (prw.Env w))(hT:Hid (dnw.Tabs w)):
  Calls Tryz.prog 201 #[.agg #[.string nm,.int .i64 syn,.bool sg],.string a,.string b] w fun e w'=>e= .returned (.tuple #[.string (bs (bothL syn a.data.toList b.data.toList).1),.string (bs (bothL syn a.data.toList b.data.toList).2.1),.int .i64 (bothL syn a.data.toList b.data.toList).2.2])∧Below w.heap.size w w':=by
 obtain⟨W0,hW0⟩: ∃W,w.alloc (.cells #[.string nm,.int .i64 syn,.bool sg] 108)=W:=⟨_,rfl⟩;have hB0:Below w.heap.size w W0:=by rw[←hW0];exact(Below.refl _ _).alloc (Nat.le_refl _) _
 have HB0:=Lib.hid hB0;have hw0:w.heap.size≤W0.heap.size:=hB0.size;have HTB0:Hid (TB W0 w.heap.size nm syn sg):=by rw[←hW0];exact tb_new w nm syn sg
 obtain⟨k0,k1,k2⟩:=tb_cells HTB0.out;have HE0:=Lib.hid (prw.env_below hE.out hB0);have HT0:=Lib.hid (dnw.tabs_below hT.out hB0);have HNA:Hid (∀w,prw.Env w→dnw.Tabs w→Calls Tryz.prog 200 #[.agg #[.string nm,.int .i64 syn,.bool sg],.string a] w fun e w'=>e= .returned (normV (normL syn a.data.toList))∧Below w.heap.size w w'):=fun w h1 h2=>normal_any nm syn sg a w ha (Lib.hid h1) (Lib.hid h2);have HNB:Hid (∀w,prw.Env w→dnw.Tabs w→Calls Tryz.prog 200 #[.agg #[.string nm,.int .i64 syn,.bool sg],.string b] w fun e w'=>e= .returned (normV (normL syn b.data.toList))∧Below w.heap.size w w'):=fun w h1 h2=>normal_any nm syn sg b w hb (Lib.hid h1) (Lib.hid h2);unfold bothL;obtain⟨na,hna⟩: ∃u,normL syn a.data.toList=u:=⟨_,rfl⟩;obtain⟨nb,hnb⟩: ∃u,normL syn b.data.toList=u:=⟨_,rfl⟩;rw[hna]at HNA ⊢;rw[hnb]at HNB ⊢;clear hna hnb hB0;obtain⟨u,ea⟩:=na;obtain⟨v,eb⟩:=nb;have HNA2:Hid (∀w,prw.Env w→dnw.Tabs w→Calls Tryz.prog 200 #[.agg #[.string nm,.int .i64 syn,.bool sg],.string a] w fun e w'=>e= .returned (.tuple #[.string (bs u),.int .i64 ea])∧Below w.heap.size w w'):=HNA;have HNB2:Hid (∀w,prw.Env w→dnw.Tabs w→Calls Tryz.prog 200 #[.agg #[.string nm,.int .i64 syn,.bool sg],.string b] w fun e w'=>e= .returned (.tuple #[.string (bs v),.int .i64 eb])∧Below w.heap.size w w'):=HNB;clear HNA HNB;by_cases hea:ea=0
 ·have q:(ea !=0)=false:=by rw[bne_eq_false_iff_eq];exact hea
  rw[if_neg (not_not_intro hea)];clear hea;by_cases heb:eb=0
  ·have q2:(eb !=0)=false:=(by rw[bne_eq_false_iff_eq];exact heb);rw[if_neg (not_not_intro heb)];clear heb;go_enter Tryz.func201,Tryz.ntmps201;go_wp2_with fail;refine(HNA2.out _ HE0.out HT0.out).mono ?_;rintro e w1 ⟨rfl,hB1⟩;have HB1:=Lib.hid (HB0.out.trans (hB1.mono hw0));have HE1:=Lib.hid (prw.env_below HE0.out hB1);have HT1:=Lib.hid (dnw.tabs_below HT0.out hB1);obtain⟨m0,m1,m2⟩:=tb_cells (tb_below HTB0.out hB1);clear hB1 hW0 k0 k1 k2;go_wp2_with fail;refine(HNB2.out _ HE1.out HT1.out).mono ?_;rintro e w2 ⟨rfl,hB2⟩;have HB2:=Lib.hid (HB1.out.trans (hB2.mono HB1.out.size));clear hB2;go_wp2_with fail;go_ret3;exact⟨rfl,HB2.out⟩
  ·have q2:(eb !=0)=true:=(by rw[bne_iff_ne];exact heb);rw[if_pos heb];clear heb;go_enter Tryz.func201,Tryz.ntmps201;go_wp2_with fail;refine(HNA2.out _ HE0.out HT0.out).mono ?_;rintro e w1 ⟨rfl,hB1⟩;have HB1:=Lib.hid (HB0.out.trans (hB1.mono hw0));have HE1:=Lib.hid (prw.env_below HE0.out hB1);have HT1:=Lib.hid (dnw.tabs_below HT0.out hB1);obtain⟨m0,m1,m2⟩:=tb_cells (tb_below HTB0.out hB1);clear hB1 hW0 k0 k1 k2;go_wp2_with fail;refine(HNB2.out _ HE1.out HT1.out).mono ?_;rintro e w2 ⟨rfl,hB2⟩;have HB2:=Lib.hid (HB1.out.trans (hB2.mono HB1.out.size));clear hB2;go_wp2_with fail;go_ret3;exact⟨rfl,HB2.out⟩
 ·have q:(ea !=0)=true:=by rw[bne_iff_ne];exact hea
  rw[if_pos hea];clear hea;go_enter Tryz.func201,Tryz.ntmps201;go_wp2_with fail;refine(HNA2.out _ HE0.out HT0.out).mono ?_;rintro e w1 ⟨rfl,hB1⟩;have HB1:=Lib.hid (HB0.out.trans (hB1.mono hw0));clear hB1 hW0;go_wp2_with fail;go_ret3;exact⟨rfl,HB1.out⟩
theorem equal_any (nm:ByteArray)(syn:Int)(sg:Bool)(a b:ByteArray)(w:World)(ha:a.size≤140737488351232)(hb:b.size≤140737488351232)(hE:Hid (prw.Env w))(hT:Hid (dnw.Tabs w)):
  Calls Tryz.prog 148 #[.agg #[.string nm,.int .i64 syn,.bool sg],.string a,.string b] w fun e w'=>e= .returned (.tuple #[.bool (eqL syn a.data.toList b.data.toList).1,.int .i64 (eqL syn a.data.toList b.data.toList).2])∧Below w.heap.size w w':=by
 obtain⟨W0,hW0⟩: ∃W,w.alloc (.cells #[.string nm,.int .i64 syn,.bool sg] 108)=W:=⟨_,rfl⟩;have hB0:Below w.heap.size w W0:=by rw[←hW0];exact(Below.refl _ _).alloc (Nat.le_refl _) _
 have HB0:=Lib.hid hB0;have hw0:w.heap.size≤W0.heap.size:=hB0.size;have HTB0:Hid (TB W0 w.heap.size nm syn sg):=by rw[←hW0];exact tb_new w nm syn sg
 obtain⟨k0,k1,k2⟩:=tb_cells HTB0.out;have HE0:=Lib.hid (prw.env_below hE.out hB0);have HT0:=Lib.hid (dnw.tabs_below hT.out hB0);have HBO:Hid (∀w,prw.Env w→dnw.Tabs w→Calls Tryz.prog 201 #[.agg #[.string nm,.int .i64 syn,.bool sg],.string a,.string b] w fun e w'=>e= .returned (.tuple #[.string (bs (bothL syn a.data.toList b.data.toList).1),.string (bs (bothL syn a.data.toList b.data.toList).2.1),.int .i64 (bothL syn a.data.toList b.data.toList).2.2])∧Below w.heap.size w w'):=fun w h1 h2=>both_any nm syn sg a b w ha hb (Lib.hid h1) (Lib.hid h2);unfold eqL;generalize bothL syn a.data.toList b.data.toList=bo at HBO ⊢;obtain⟨u,v,er⟩:=bo;simp only at HBO ⊢;have heq:=bs_beq u v;clear hB0;obtain⟨c,hc⟩: ∃c,decide (u=v)=c:=⟨_,rfl⟩;rw[hc]at heq ⊢;clear hc;by_cases her:er=0
 ·have q:(er==0)=true:=by rw[beq_iff_eq];exact her
  rw[decide_eq_true her];clear her;go_enter Tryz.func148,Tryz.ntmps148;go_wp2_with fail;refine(HBO.out _ HE0.out HT0.out).mono ?_;rintro e w1 ⟨rfl,hB1⟩;have HB1:=Lib.hid (HB0.out.trans (hB1.mono hw0));clear hB1 hW0;go_wp2_with fail;go_ret2;exact⟨rfl,HB1.out⟩
 ·have q:(er==0)=false:=by rw[beq_eq_false_iff_ne];exact her
  rw[decide_eq_false her];clear her;go_enter Tryz.func148,Tryz.ntmps148;go_wp2_with fail;refine(HBO.out _ HE0.out HT0.out).mono ?_;rintro e w1 ⟨rfl,hB1⟩;have HB1:=Lib.hid (HB0.out.trans (hB1.mono hw0));clear hB1 hW0;go_wp2_with fail;go_ret2;exact⟨rfl,HB1.out⟩
theorem requal_any (nm:ByteArray)(syn:Int)(sg:Bool)(a b:ByteArray)(w:World)(ha:a.size≤140737488351232)(hb:b.size≤140737488351232):
  Calls Tryz.prog 199 #[.agg #[.string nm,.int .i64 syn,.bool sg],.string a,.string b] w fun e w'=>e= .returned (.tuple #[.bool (eqL syn a.data.toList b.data.toList).1,.int .i64 (eqL syn a.data.toList b.data.toList).2])∧Below w.heap.size w w':=by
 obtain⟨W0,hW0⟩: ∃W,w.alloc (.cells #[.string nm,.int .i64 syn,.bool sg] 108)=W:=⟨_,rfl⟩;have hB0:Below w.heap.size w W0:=by rw[←hW0];exact(Below.refl _ _).alloc (Nat.le_refl _) _
 have HB0:=Lib.hid hB0;have hw0:w.heap.size≤W0.heap.size:=hB0.size;have HTB0:Hid (TB W0 w.heap.size nm syn sg):=by rw[←hW0];exact tb_new w nm syn sg
 obtain⟨k0,k1,k2⟩:=tb_cells HTB0.out;have HNA:Hid (∀w,Calls Tryz.prog 140 #[.agg #[.string nm,.int .i64 syn,.bool sg],.string a] w fun e w'=>e= .returned (normV (normL syn a.data.toList))∧Below w.heap.size w w'):=fun w=>rnormal_any nm syn sg a w ha;have HNB:Hid (∀w,Calls Tryz.prog 140 #[.agg #[.string nm,.int .i64 syn,.bool sg],.string b] w fun e w'=>e= .returned (normV (normL syn b.data.toList))∧Below w.heap.size w w'):=fun w=>rnormal_any nm syn sg b w hb;unfold eqL bothL;obtain⟨na,hna⟩: ∃u,normL syn a.data.toList=u:=⟨_,rfl⟩;obtain⟨nb,hnb⟩: ∃u,normL syn b.data.toList=u:=⟨_,rfl⟩;rw[hna]at HNA ⊢;rw[hnb]at HNB ⊢;clear hna hnb hB0;obtain⟨u,ea⟩:=na;obtain⟨v,eb⟩:=nb;have HNA2:Hid (∀w,Calls Tryz.prog 140 #[.agg #[.string nm,.int .i64 syn,.bool sg],.string a] w fun e w'=>e= .returned (.tuple #[.string (bs u),.int .i64 ea])∧Below w.heap.size w w'):=HNA;have HNB2:Hid (∀w,Calls Tryz.prog 140 #[.agg #[.string nm,.int .i64 syn,.bool sg],.string b] w fun e w'=>e= .returned (.tuple #[.string (bs v),.int .i64 eb])∧Below w.heap.size w w'):=HNB;have heq:=bs_beq u v;obtain⟨c,hc⟩: ∃c,decide (u=v)=c:=⟨_,rfl⟩;rw[hc]at heq;have HC:=Lib.hid hc;clear HNA HNB hc;by_cases hea:ea=0
 ·have q:(ea !=0)=false:=by rw[bne_eq_false_iff_eq];exact hea
  rw[if_neg (not_not_intro hea)];clear hea;by_cases heb:eb=0
  ·have q2:(eb !=0)=false:=(by rw[bne_eq_false_iff_eq];exact heb);rw[if_neg (not_not_intro heb)];clear heb;simp only[HC.out,decide_true,Bool.true_and];go_enter Tryz.func199,Tryz.ntmps199;go_wp2_with fail;refine(HNA2.out _).mono ?_;rintro e w1 ⟨rfl,hB1⟩;have HB1:=Lib.hid (HB0.out.trans (hB1.mono hw0));obtain⟨m0,m1,m2⟩:=tb_cells (tb_below HTB0.out hB1);have HTB1:=Lib.hid (tb_below HTB0.out hB1);clear hB1 hW0 k0 k1 k2;go_wp2_with fail;refine(HNB2.out _).mono ?_;rintro e w2 ⟨rfl,hB2⟩;have HB2:=Lib.hid (HB1.out.trans (hB2.mono HB1.out.size));obtain⟨n0,n1,n2⟩:=tb_cells (tb_below HTB1.out hB2);clear hB2 m0 m1 m2;go_wp2_with fail;go_ret2;exact⟨rfl,HB2.out⟩
  ·have q2:(eb !=0)=true:=(by rw[bne_iff_ne];exact heb);rw[if_pos heb];simp only[decide_eq_false heb,Bool.false_and];clear heb;go_enter Tryz.func199,Tryz.ntmps199;go_wp2_with fail;refine(HNA2.out _).mono ?_;rintro e w1 ⟨rfl,hB1⟩;have HB1:=Lib.hid (HB0.out.trans (hB1.mono hw0));obtain⟨m0,m1,m2⟩:=tb_cells (tb_below HTB0.out hB1);have HTB1:=Lib.hid (tb_below HTB0.out hB1);clear hB1 hW0 k0 k1 k2;go_wp2_with fail;refine(HNB2.out _).mono ?_;rintro e w2 ⟨rfl,hB2⟩;have HB2:=Lib.hid (HB1.out.trans (hB2.mono HB1.out.size));obtain⟨n0,n1,n2⟩:=tb_cells (tb_below HTB1.out hB2);clear hB2 m0 m1 m2;go_wp2_with fail;go_ret2;exact⟨rfl,HB2.out⟩
 ·have q:(ea !=0)=true:=by rw[bne_iff_ne];exact hea
  rw[if_pos hea];simp only[decide_eq_false hea,Bool.false_and];clear hea;go_enter Tryz.func199,Tryz.ntmps199;go_wp2_with fail;refine(HNA2.out _).mono ?_;rintro e w1 ⟨rfl,hB1⟩;have HB1:=Lib.hid (HB0.out.trans (hB1.mono hw0));clear hB1 hW0;go_wp2_with fail;go_ret2;exact⟨rfl,HB1.out⟩
end atw
namespace ord
open Go.Lib
theorem u8_trans {a b c:UInt8}(h:a<b)(k:b<c):a<c:=by have h1:=UInt8.lt_iff_toNat_lt.1 h;have h2:=UInt8.lt_iff_toNat_lt.1 k;exact UInt8.lt_iff_toNat_lt.2 (by omega)
theorem cmp_trans: ∀ {a b c:List UInt8},compareBytes a b= -1→compareBytes b c= -1→compareBytes a c= -1
 | [],[],_,h,_=>by cases h
 | [],_::_,[],_,h=>by cases h
 | [],_::_,_::_,_,_=>rfl
 | _::_,[],_,h,_=>by cases h
 | _::_,_::_,[],_,h=>by cases h
 | a::s,b::t,c::u,h,k=>by
  rcases cmp_cases a b with h1 | h1 | rfl
  ·rcases cmp_cases b c with k1 | k1 | rfl
   ·exact cmp_lt (u8_trans h1 k1) _ _
   ·rw[cmp_gt k1]at k;cases k
   ·exact cmp_lt h1 _ _
  ·rw[cmp_gt h1]at h;cases h
  ·rcases cmp_cases a c with k1 | k1 | rfl
   ·exact cmp_lt k1 _ _
   ·rw[cmp_gt k1]at k;cases k
   ·rw[cmp_same]at h k ⊢;exact cmp_trans h k
end ord
namespace ord
open Go.Lib
theorem less_cmp: ∀a b:List UInt8,Op.bytesLess a b=decide (compareBytes a b= -1)
 | [],[]=>rfl
 | [],_::_=>rfl
 | _::_,[]=>rfl
 | a::s,b::t=>by
  rcases cmp_cases a b with h | h | rfl
  ·rw[cmp_lt h];simp[Op.bytesLess,h]
  ·rw[cmp_gt h];have hn: ¬a<b:=(by intro h';have h1:=UInt8.lt_iff_toNat_lt.1 h;have h2:=UInt8.lt_iff_toNat_lt.1 h';omega);have hne: ¬a=b:=(by rintro rfl;exact absurd (UInt8.lt_iff_toNat_lt.1 h) (by omega));simp[Op.bytesLess,hn,hne]
  ·rw[cmp_same,←less_cmp s t];simp[Op.bytesLess]
theorem cmp_zero: ∀a b:List UInt8,compareBytes a b=0↔a=b
 | [],[]=>by simp[compareBytes]
 | [],_::_=>by simp[compareBytes]
 | _::_,[]=>by simp[compareBytes]
 | a::s,b::t=>by
  rcases cmp_cases a b with h | h | rfl
  ·rw[cmp_lt h];have:a≠b:=(by rintro rfl;exact absurd (UInt8.lt_iff_toNat_lt.1 h) (by omega));simp[this]
  ·rw[cmp_gt h];have:a≠b:=(by rintro rfl;exact absurd (UInt8.lt_iff_toNat_lt.1 h) (by omega));simp[this]
  ·rw[cmp_same,cmp_zero s t];simp
theorem ways (a b:ByteArray):
  (compareBytes a.data.toList b.data.toList= -1∧Op.bytesLess a.toList b.toList=true∧(a.toList==b.toList)=false∧Op.bytesLess b.toList a.toList=false)∨
  (compareBytes a.data.toList b.data.toList=0∧a=b)∨
  (compareBytes a.data.toList b.data.toList=1∧Op.bytesLess a.toList b.toList=false∧(a.toList==b.toList)=false∧Op.bytesLess b.toList a.toList=true):=by
 rw[Lib.toList_data,Lib.toList_data,less_cmp,less_cmp,cmp_neg a.data.toList b.data.toList];rcases cmp_three a.data.toList b.data.toList with h | h | h
 ·left;refine⟨h,by rw[h];rfl,?_,by rw[h];rfl⟩;rw[beq_eq_false_iff_ne];intro e;have:=(cmp_zero _ _).2 e;omega
 ·right;left;refine⟨h,?_⟩;have e:=(cmp_zero _ _).1 h;cases a;cases b;simp at e;simp[e]
 ·right;right;refine⟨h,by rw[h];rfl,?_,by rw[h];rfl⟩;rw[beq_eq_false_iff_ne];intro e;have:=(cmp_zero _ _).2 e;omega
end ord
namespace atp
open atw
theorem both_ok {syn:Int}{a b:List UInt8}(ha:(normL syn a).2=0)(hb:(normL syn b).2=0):bothL syn a b=((normL syn a).1,(normL syn b).1,0):=by unfold bothL;rw[if_neg (not_not_intro ha),if_neg (not_not_intro hb)]
theorem both_err {syn:Int}{a b:List UInt8}:(bothL syn a b).2.2=0↔(normL syn a).2=0∧(normL syn b).2=0:=by
 unfold bothL;by_cases ha:(normL syn a).2=0
 ·by_cases hb:(normL syn b).2=0
  ·rw[if_neg (not_not_intro ha),if_neg (not_not_intro hb)];exact⟨fun _=>⟨ha,hb⟩,fun _=>rfl⟩
  ·rw[if_neg (not_not_intro ha),if_pos hb];exact⟨fun h=>absurd h hb,fun h=>absurd h.2 hb⟩
 ·rw[if_pos ha];exact⟨fun h=>absurd h ha,fun h=>absurd h.1 ha⟩
theorem eq_ok {syn:Int}{a b:List UInt8}(ha:(normL syn a).2=0)(hb:(normL syn b).2=0):eqL syn a b=(decide ((normL syn a).1=(normL syn b).1),0):=by unfold eqL;rw[both_ok ha hb];rfl
end atp
namespace etp
open atp atw
structure At where
 t:ByteArray
 vs:List ByteArray
structure En where
 rdn:List dnw.Av
 ats:List At
def okV (syn:Int)(v:ByteArray):Bool:=decide ((normL syn v.data.toList).2=0)
def nv (syn:Int)(v:ByteArray):List UInt8:=(normL syn v.data.toList).1
def alike (syn:Int)(a b:ByteArray):Bool:=(eqL syn a.data.toList b.data.toList).1
theorem alike_iff {syn:Int}{a b:ByteArray}:alike syn a b=true↔okV syn a=true∧okV syn b=true∧nv syn a=nv syn b:=by
 unfold alike okV nv;rw[decide_eq_true_iff,decide_eq_true_iff];by_cases ha:(normL syn a.data.toList).2=0
 ·by_cases hb:(normL syn b.data.toList).2=0
  ·rw[eq_ok ha hb,decide_eq_true_iff];exact⟨fun h=>⟨ha,hb,h⟩,fun h=>h.2.2⟩
  ·refine⟨fun h=> ?_,fun h=>absurd h.2.1 hb⟩;unfold eqL at h;rw[Bool.and_eq_true,decide_eq_true_iff]at h;exact absurd (both_err.1 h.1).2 hb
 ·refine⟨fun h=> ?_,fun h=>absurd h.1 ha⟩;unfold eqL at h;rw[Bool.and_eq_true,decide_eq_true_iff]at h;exact absurd (both_err.1 h.1).1 ha
theorem alike_err {syn:Int}{a b:ByteArray}(h:alike syn a b=true):(eqL syn a.data.toList b.data.toList).2=0:=by unfold alike eqL at h;rw[Bool.and_eq_true,decide_eq_true_iff]at h;exact h.1
theorem alike_self {syn:Int}{a:ByteArray}(h:okV syn a=true):alike syn a a=true:=alike_iff.2 ⟨h,h,rfl⟩
def likeN (syn:Int)(l:List ByteArray)(v:ByteArray):Option Nat:=l.findIdx? fun x=>alike syn x v
def likeI (syn:Int)(l:List ByteArray)(v:ByteArray):Int:=match likeN syn l v with
 | some i=>(i:Int)
 | none=> -1
theorem likeI_neg {syn:Int}{l:List ByteArray}{v:ByteArray}:likeI syn l v<0↔likeN syn l v=none:=by
 unfold likeI;cases likeN syn l v with
 | none=>simp
 | some i=>simp
theorem likeN_none {syn:Int}{l:List ByteArray}{v:ByteArray}:likeN syn l v=none↔ ∀x∈l,alike syn x v=false:=by unfold likeN;rw[List.findIdx?_eq_none_iff]
theorem likeI_hit {syn:Int}{l:List ByteArray}{v:ByteArray}{i:Nat}(hi:i<l.length)(h1:alike syn l[i] v=true)(h2: ∀j (hj:j<l.length),j<i→alike syn l[j] v=false):likeI syn l v=(i:Int):=by
 have:likeN syn l v=some i:=by unfold likeN;rw[List.findIdx?_eq_some_iff_getElem];exact⟨hi,h1,fun j hj=>by simpa using h2 j (by omega) hj⟩
 unfold likeI;rw[this]
theorem likeI_none {syn:Int}{l:List ByteArray}{v:ByteArray}(h: ∀j (hj:j<l.length),alike syn l[j] v=false):likeI syn l v= -1:=by
 have:likeN syn l v=none:=by rw[likeN_none];intro x hx;obtain⟨j,hj,rfl⟩:=List.mem_iff_getElem.1 hx;exact h j hj
 unfold likeI;rw[this]
def fresh (syn:Int):List ByteArray→List ByteArray→Bool
 | _,[]=>true
 | p,v::r=>okV syn v&&decide (likeI syn p v<0)&&fresh syn (p++[v]) r
theorem fresh_iff {syn:Int}: ∀ (vs p:List ByteArray),(∀x∈p,okV syn x=true)→(p.map (nv syn)).Nodup→(fresh syn p vs=true↔(∀v∈vs,okV syn v=true)∧((p++vs).map (nv syn)).Nodup)
 | [],p,h1,h2=>by simp only[fresh,List.append_nil,true_iff];exact⟨fun v hv=>(by cases hv),h2⟩
 | v::r,p,h1,h2=>by
  rw[fresh,Bool.and_eq_true,Bool.and_eq_true,decide_eq_true_iff,likeI_neg,likeN_none];have key:okV syn v=true→((∀x∈p,alike syn x v=false)↔nv syn v∉p.map (nv syn)):=by
   intro hv;constructor
   ·intro h hm;obtain⟨x,hx,e⟩:=List.mem_map.1 hm;have:=h x hx;rw[alike_iff.2 ⟨h1 x hx,hv,e⟩]at this;cases this
   ·intro h x hx;rw[Bool.eq_false_iff];intro ha;exact h (List.mem_map.2 ⟨x,hx,(alike_iff.1 ha).2.2⟩)
  have ass:p++v::r=(p++[v])++r:=by simp
  constructor
  ·rintro⟨⟨hv,hl⟩,hf⟩;have hn:((p++[v]).map (nv syn)).Nodup:=(by rw[List.map_append,List.nodup_append];refine⟨h2,by simp,?_⟩;intro a ha b hb e;simp only[List.map_cons,List.map_nil,List.mem_singleton]at hb;subst hb;subst e;exact(key hv).1 hl ha);have ih:=(fresh_iff r (p++[v]) (by
    intro x hx;rcases List.mem_append.1 hx with h | h
    ·exact h1 x h
    ·rw[List.mem_singleton]at h;rw[h];exact hv) hn).1 hf
   refine⟨fun u hu=> ?_,by rw[ass];exact ih.2⟩;rcases List.mem_cons.1 hu with rfl | hu
   ·exact hv
   ·exact ih.1 u hu
  ·rintro⟨ho,hn⟩;have hv:=ho v (by simp);rw[ass,List.map_append,List.nodup_append]at hn;obtain⟨hn1,hn2,hn3⟩:=hn;have hn1':=hn1;rw[List.map_append,List.nodup_append]at hn1';refine⟨⟨hv,(key hv).2 fun hm=>hn1'.2.2 _ hm _ (by simp) rfl⟩,?_⟩;refine(fresh_iff r (p++[v]) ?_ hn1).2 ⟨fun u hu=>ho u (by simp[hu]),?_⟩
   ·intro x hx;rcases List.mem_append.1 hx with h | h
    ·exact h1 x h
    ·rw[List.mem_singleton]at h;rw[h];exact hv
   ·rw[List.map_append,List.nodup_append];exact⟨hn1,hn2,hn3⟩
def mostT (single:Bool):Nat:=if single then 1 else 20
def valsOK (t:Ty)(vs:List ByteArray):Bool:=decide (1≤vs.length)&&decide (vs.length≤mostT t.single)&&fresh t.syn [] vs
def faultI (syn:Int):List ByteArray→Int
 | []=>0
 | v::r=>if(normL syn v.data.toList).2≠0 then(normL syn v.data.toList).2 else faultI syn r
theorem fault_zero {syn:Int}: ∀l:List ByteArray,faultI syn l=0↔ ∀v∈l,okV syn v=true
 | []=>by simp[faultI]
 | v::r=>by
  unfold faultI;by_cases h:(normL syn v.data.toList).2=0
  ·rw[if_neg (not_not_intro h),fault_zero r];constructor
   ·intro h1 u hu;rcases List.mem_cons.1 hu with rfl | hu
    ·exact decide_eq_true h
    ·exact h1 u hu
   ·exact fun h1 u hu=>h1 u (by simp[hu])
  ·rw[if_pos h];exact⟨fun h1=>absurd h1 h,fun h1=>absurd (of_decide_eq_true (h1 v (by simp))) h⟩
def tyOf (t:ByteArray):Option Ty:=findS t.data.toList
theorem tys_low: ∀j:Fin 20,sml.lowL (tys[j.val]'(j.isLt)).name=(tys[j.val]'(j.isLt)).name:=by decide+kernel
theorem low_name {t:Ty}(h:t∈tys):sml.lowL t.name=t.name:=by obtain⟨i,hi,rfl⟩:=List.mem_iff_getElem.1 h;exact tys_low ⟨i,hi⟩
theorem find_low {n:List UInt8}{ty:Ty}:(findS (sml.lowL n)=some ty∧ty.name=n)↔findS n=some ty:=by
 constructor
 ·rintro⟨h,rfl⟩;have:=(findS_some h).1;rw[low_name this]at h;exact h
 ·intro h;obtain⟨h1,rfl⟩:=findS_some h;rw[low_name h1];exact⟨h,rfl⟩
def atOK (a:At):Bool:=match tyOf a.t with
 | none=>false
 | some ty=>valsOK ty a.vs
def ltB (a b:ByteArray):Bool:=decide (Lib.compareBytes a.data.toList b.data.toList= -1)
def atsF:Option ByteArray→List At→Bool
 | _,[]=>true
 | p,a::r=>atOK a&&(match p with
  | none=>true
  | some q=>ltB q a.t)&&atsF (some a.t) r
def rightE (e:En):Bool:=dnw.rdnOK e.rdn&&atsF none e.ats
def valsA (ats:List At)(n:ByteArray):List ByteArray:=match ats.find? fun a=>decide (a.t=n)with
 | some a=>a.vs
 | none=>[]
def withF (n:ByteArray)(l:List ByteArray):Bool→List At→List At
 | done,[]=>if done then[]else[⟨n,l⟩]
 | done,a::r=>
  let put:= !done&& !ltB a.t n
  let here:List At:=if put then[⟨n,l⟩]else[]
  let stays:List At:=if a.t=n then[]else[a]
  here++stays++withF n l (done||put) r
def withE (e:En)(n:ByteArray)(l:List ByteArray):En:=⟨e.rdn,withF n l (decide (l=[])) e.ats⟩
def joinF (syn:Int):List ByteArray→List ByteArray→Option (List ByteArray)
 | all,[]=>some all
 | all,v::r=>if likeI syn all v<0 then joinF syn (all++[v]) r else none
def dropF (syn:Int):List ByteArray→List ByteArray→Option (List ByteArray)
 | left,[]=>some left
 | left,v::r=>match likeN syn left v with
  | none=>none
  | some k=>dropF syn (left.take k++left.drop (k+1)) r
end etp
namespace etp
open atp atw
theorem bytes_inj {a b:ByteArray}(h:a.data.toList=b.data.toList):a=b:=kt.str_eq h
theorem ltB_trans {a b c:ByteArray}(h1:ltB a b=true)(h2:ltB b c=true):ltB a c=true:=by unfold ltB at*;rw[decide_eq_true_iff]at*;exact ord.cmp_trans h1 h2
theorem ltB_irr (a:ByteArray):ltB a a=false:=by unfold ltB;rw[decide_eq_false_iff_not,(ord.cmp_zero _ _).2 rfl];decide
theorem ltB_ne {a b:ByteArray}(h:ltB a b=true):a≠b:=by rintro rfl;rw[ltB_irr]at h;cases h
theorem ltB_asym {a b:ByteArray}(h:ltB a b=true):ltB b a=false:=by rw[Bool.eq_false_iff];intro h2;have:=ltB_trans h h2;rw[ltB_irr]at this;cases this
theorem ltB_three (a b:ByteArray):ltB a b=true∨a=b∨ltB b a=true:=by
 rcases ord.cmp_three a.data.toList b.data.toList with h | h | h
 ·exact Or.inl (decide_eq_true h)
 ·exact Or.inr (Or.inl (bytes_inj ((ord.cmp_zero _ _).1 h)))
 ·refine Or.inr (Or.inr (decide_eq_true ?_));rw[ord.cmp_neg,h]
theorem atsF_iff: ∀ (L:List At) (p:Option ByteArray),atsF p L=true↔(∀a∈L,atOK a=true)∧L.Pairwise (fun a b=>ltB a.t b.t=true)∧(∀q,p=some q→ ∀a∈L,ltB q a.t=true)
 | [],p=>by simp[atsF]
 | a::r,p=>by
  unfold atsF;rw[Bool.and_eq_true,Bool.and_eq_true,atsF_iff r (some a.t),List.pairwise_cons];constructor
  ·rintro⟨⟨h1,h2⟩,h3,h4,h5⟩;have hq: ∀q,p=some q→ltB q a.t=true:=(by rintro q rfl;exact h2);refine⟨fun b hb=> ?_,⟨fun b hb=>h5 _ rfl b hb,h4⟩,fun q hp b hb=> ?_⟩
   ·rcases List.mem_cons.1 hb with rfl | hb
    ·exact h1
    ·exact h3 b hb
   ·rcases List.mem_cons.1 hb with rfl | hb
    ·exact hq q hp
    ·exact ltB_trans (hq q hp) (h5 _ rfl b hb)
  ·rintro⟨h1,⟨h2,h3⟩,h4⟩;refine⟨⟨h1 a (by simp),?_⟩,fun b hb=>h1 b (by simp[hb]),h3,fun q hq b hb=> ?_⟩
   ·cases p with
    | none=>rfl
    | some q=>exact h4 q rfl a (by simp)
   ·cases hq;exact h2 b hb
structure Part (n:ByteArray)(L lo mid hi:List At):Prop where
 eq:L=lo++(mid++hi)
 lo: ∀a∈lo,ltB a.t n=true
 hi: ∀a∈hi,ltB n a.t=true
 mid:mid=[]∨ ∃v,mid=[⟨n,v⟩]
theorem part_of (n:ByteArray): ∀ (L:List At) (p:Option ByteArray),atsF p L=true→ ∃lo mid hi,Part n L lo mid hi
 | [],_,_=>⟨[],[],[],⟨rfl,by simp,by simp,Or.inl rfl⟩⟩
 | a::r,p,h=>by
  obtain⟨h1,h2,h3⟩:=(atsF_iff _ _).1 h;rw[List.pairwise_cons]at h2;rcases ltB_three a.t n with hl | he | hg
  ·have hr:atsF (some a.t) r=true:=(atsF_iff _ _).2 ⟨fun b hb=>h1 b (by simp[hb]),h2.2,fun q hq b hb=>by cases hq;exact h2.1 b hb⟩;obtain⟨lo,mid,hi,hp⟩:=part_of n r (some a.t) hr;refine⟨a::lo,mid,hi,⟨by rw[hp.eq];rfl,fun b hb=> ?_,hp.hi,hp.mid⟩⟩;rcases List.mem_cons.1 hb with rfl | hb
   ·exact hl
   ·exact hp.lo b hb
  ·refine⟨[],[a],r,⟨rfl,by simp,fun b hb=> ?_,Or.inr ⟨a.vs,?_⟩⟩⟩
   ·rw[←he];exact h2.1 b hb
   ·cases a;cases he;rfl
  ·refine⟨[],[],a::r,⟨rfl,by simp,fun b hb=> ?_,Or.inl rfl⟩⟩;rcases List.mem_cons.1 hb with rfl | hb
   ·exact hg
   ·exact ltB_trans hg (h2.1 b hb)
theorem withF_hi (n:ByteArray)(l:List ByteArray): ∀hi:List At,(∀a∈hi,ltB n a.t=true)→withF n l true hi=hi
 | [],_=>rfl
 | a::r,h=>by have ha:=h a (by simp);show(if(!true&& !ltB a.t n)=true then[⟨n,l⟩]else[])++(if a.t=n then[]else[a])++withF n l (true||(!true&& !ltB a.t n)) r=_;rw[if_neg (by simp),if_neg (fun e=>ltB_ne ha e.symm),Bool.true_or,withF_hi n l r (fun b hb=>h b (by simp[hb]))];rfl
theorem withF_put (n:ByteArray)(l:List ByteArray)(hi:List At)(h: ∀a∈hi,ltB n a.t=true):withF n l false hi=⟨n,l⟩::hi:=by
 cases hi with
 | nil=>rfl
 | cons a r=>have ha:=h a (by simp);have hf:ltB a.t n=false:=ltB_asym ha;show(if(!false&& !ltB a.t n)=true then[⟨n,l⟩]else[])++(if a.t=n then[]else[a])++withF n l (false||(!false&& !ltB a.t n)) r=_;rw[hf,if_pos (by simp),if_neg (fun e=>ltB_ne ha e.symm)];rw[show(false||(!false&& !false))=true from rfl,withF_hi n l r (fun b hb=>h b (by simp[hb]))];rfl
theorem withF_lo (n:ByteArray)(l:List ByteArray)(d:Bool): ∀ (lo L:List At),(∀a∈lo,ltB a.t n=true)→withF n l d (lo++L)=lo++withF n l d L
 | [],L,_=>rfl
 | a::r,L,h=>by have ha:=h a (by simp);show(if(!d&& !ltB a.t n)=true then[⟨n,l⟩]else[])++(if a.t=n then[]else[a])++withF n l (d||(!d&& !ltB a.t n)) (r++L)=_;rw[ha,if_neg (by simp),if_neg (ltB_ne ha)];rw[show(d||(!d&& !true))=d by cases d<;>rfl,withF_lo n l d r L (fun b hb=>h b (by simp[hb]))];rfl
theorem withF_mid (n:ByteArray)(l:List ByteArray)(d:Bool){mid hi:List At}(hm:mid=[]∨ ∃v,mid=[⟨n,v⟩])(h: ∀a∈hi,ltB n a.t=true):withF n l d (mid++hi)=if d then hi else⟨n,l⟩::hi:=by
 rcases hm with rfl | ⟨v,rfl⟩
 ·cases d with
  | true=>exact withF_hi n l hi h
  | false=>exact withF_put n l hi h
 ·show(if(!d&& !ltB n n)=true then[⟨n,l⟩]else[])++(if n=n then[]else[⟨n,v⟩])++withF n l (d||(!d&& !ltB n n)) hi=_;rw[ltB_irr,if_pos rfl];rw[show(d||(!d&& !false))=true by cases d<;>rfl,withF_hi n l hi h];cases d<;>rfl
theorem with_part {n:ByteArray}{L lo mid hi:List At}(h:Part n L lo mid hi)(l:List ByteArray)(d:Bool):withF n l d L=lo++((if d then[]else[⟨n,l⟩])++hi):=by rw[h.eq,withF_lo n l d lo _ h.lo,withF_mid n l d h.mid h.hi];cases d<;>rfl
theorem part_with {n:ByteArray}{L lo mid hi:List At}(h:Part n L lo mid hi)(l:List ByteArray)(d:Bool):Part n (withF n l d L) lo (if d then[]else[⟨n,l⟩]) hi:=⟨with_part h l d,h.lo,h.hi,by cases d;exact Or.inr ⟨l,rfl⟩;exact Or.inl rfl⟩
theorem find_no {n:ByteArray}{L:List At}(h: ∀a∈L,a.t≠n):valsA L n=[]:=by unfold valsA;rw[List.find?_eq_none.2 (by intro a ha;simpa using h a ha)]
def midV:List At→List ByteArray
 | []=>[]
 | a::_=>a.vs
theorem vals_part {n:ByteArray}{L lo mid hi:List At}(h:Part n L lo mid hi):valsA L n=midV mid:=by
 obtain⟨he,hlo,hhi,hmid⟩:=h;subst he;unfold valsA;rw[List.find?_append,List.find?_eq_none.2 (by intro a ha;simpa using ltB_ne (hlo a ha))];rcases hmid with rfl | ⟨v,rfl⟩
 ·rw[List.nil_append,List.find?_eq_none.2 (by intro a ha;simpa using(ltB_ne (hhi a ha)).symm)];rfl
 ·simp[midV]
theorem with_right {n:ByteArray}{L:List At}(h:atsF none L=true){l:List ByteArray}{d:Bool}(hl:d=false→atOK ⟨n,l⟩=true):atsF none (withF n l d L)=true:=by
 obtain⟨lo,mid,hi,hp⟩:=part_of n L none h;obtain⟨h1,h2,_⟩:=(atsF_iff _ _).1 h;rw[with_part hp l d];rw[hp.eq]at h1 h2;rw[List.pairwise_append,List.pairwise_append]at h2;obtain⟨a1,⟨a2,a3,a4⟩,a5⟩:=h2;refine(atsF_iff _ _).2 ⟨?_,?_,by simp⟩
 ·intro a ha;rcases List.mem_append.1 ha with ha | ha
  ·exact h1 a (by simp[ha])
  ·rcases List.mem_append.1 ha with ha | ha
   ·cases d with
    | true=>cases ha
    | false=>rw[if_neg (by simp),List.mem_singleton]at ha;subst ha;exact hl rfl
   ·exact h1 a (by simp[ha])
 ·rw[List.pairwise_append,List.pairwise_append];refine⟨a1,⟨?_,a3,?_⟩,?_⟩
  ·cases d<;>simp
  ·intro x hx y hy;cases d with
   | true=>cases hx
   | false=>rw[if_neg (by simp),List.mem_singleton]at hx;subst hx;exact hp.hi y hy
  ·intro x hx y hy;rcases List.mem_append.1 hy with hy | hy
   ·cases d with
    | true=>cases hy
    | false=>rw[if_neg (by simp),List.mem_singleton]at hy;subst hy;exact hp.lo x hx
   ·exact a5 x hx y (by simp[hy])
theorem with_back {n:ByteArray}{L:List At}(h:atsF none L=true)(l:List ByteArray):withF n (valsA L n) (decide (valsA L n=[])) (withF n l false L)=L:=by
 obtain⟨lo,mid,hi,hp⟩:=part_of n L none h;obtain⟨h1,_,_⟩:=(atsF_iff _ _).1 h;rw[with_part (part_with hp l false),vals_part hp];conv=>rhs;rw[hp.eq]
 rcases hp.mid with rfl | ⟨v,rfl⟩
 ·rfl
 ·show lo++((if decide (v=[])then[]else[⟨n,v⟩])++hi)=_;have hv:v≠[]:=by
   rintro rfl;have:=h1 ⟨n,[]⟩ (by rw[hp.eq];simp);unfold atOK at this;cases hty:tyOf n with
   | none=>rw[hty]at this;cases this
   | some ty=>rw[hty]at this;simp[valsOK]at this
  simp[hv]
theorem join_fresh {syn:Int}: ∀ (l p:List ByteArray),(∀v∈l,okV syn v=true)→joinF syn p l=if fresh syn p l=true then some (p++l)else none
 | [],p,_=>by simp[joinF,fresh]
 | v::r,p,h=>by
  unfold joinF fresh;rw[h v (by simp),Bool.true_and];by_cases hl:likeI syn p v<0
  ·rw[if_pos hl,join_fresh r (p++[v]) (fun u hu=>h u (by simp[hu])),decide_eq_true hl,Bool.true_and,List.append_assoc];rfl
  ·rw[if_neg hl,decide_eq_false hl,Bool.false_and,if_neg (by simp)]
theorem drop_back {syn:Int}: ∀ (l p:List ByteArray),(∀v∈p++l,okV syn v=true)→((p++l).map (nv syn)).Nodup→dropF syn (p++l) l=some p
 | [],p,_,_=>by simp[dropF]
 | v::r,p,h,hn=>by
  have hv:likeN syn (p++v::r) v=some p.length:=by
   unfold likeN;rw[List.findIdx?_eq_some_iff_getElem];refine⟨by simp,?_,fun j hj=> ?_⟩
   ·rw[List.getElem_append_right (Nat.le_refl _)];simp only[Nat.sub_self,List.getElem_cons_zero];exact alike_self (h v (by simp))
   ·rw[List.getElem_append_left hj];have hne:nv syn p[j]≠nv syn v:=(by rw[List.map_append,List.nodup_append]at hn;exact hn.2.2 _ (List.mem_map.2 ⟨p[j],List.getElem_mem _,rfl⟩) _ (by simp));intro ha;exact hne (alike_iff.1 ha).2.2
  unfold dropF;rw[hv];have e:(p++v::r).take p.length++(p++v::r).drop (p.length+1)=p++r:=by rw[List.take_left,show p++v::r=(p++[v])++r by simp,show p.length+1=(p++[v]).length by simp,List.drop_left]
  simp only;rw[e];refine drop_back r p (fun u hu=>h u ?_) ?_
  ·rcases List.mem_append.1 hu with hu | hu
   ·exact List.mem_append_left _ hu
   ·exact List.mem_append_right _ (List.mem_cons_of_mem _ hu)
  ·have hs:(p++r).Sublist (p++v::r):=List.Sublist.append_left (List.sublist_cons_self v r) p;exact hn.sublist (hs.map _)
end etp
namespace etp
open atp atw
def findE (e:En)(n:List UInt8):Except Int Ty:=
 if rightE e=false then .error 4 else match findS (sml.lowL n)with
  | none=> .error 14
  | some ty=> .ok ty
def addE (e:En)(n:List UInt8)(l:List ByteArray):Except Int En:=
 match findE e n with
 | .error f=> .error f
 | .ok ty=>if l=[]then .error 1 else if faultI ty.syn l≠0 then .error (faultI ty.syn l)else match joinF ty.syn (valsA e.ats (bs ty.name)) l with
  | none=> .error 8
  | some all=>if mostT ty.single<all.length then .error 9 else .ok (withE e (bs ty.name) all)
def removeE (e:En)(n:List UInt8)(l:List ByteArray):Except Int En:=
 match findE e n with
 | .error f=> .error f
 | .ok ty=>if faultI ty.syn l≠0 then .error (faultI ty.syn l)else if valsA e.ats (bs ty.name)=[]then .error 7 else match dropF ty.syn (valsA e.ats (bs ty.name)) l with
  | none=> .error 7
  | some left=> .ok (withE e (bs ty.name) (if l=[]then[]else left))
def hasE (e:En)(n:List UInt8)(v:ByteArray):Bool:=match findS (sml.lowL n)with
 | none=>false
 | some ty=>rightE e&&decide (0≤likeI ty.syn (valsA e.ats (bs ty.name)) v)
def valuesE (e:En)(n:List UInt8):List ByteArray:=match findS (sml.lowL n)with
 | none=>[]
 | some ty=>if rightE e=true then valsA e.ats (bs ty.name)else[]
theorem findE_ok {e:En}{n:List UInt8}{ty:Ty}(h:findE e n= .ok ty):rightE e=true∧findS (sml.lowL n)=some ty:=by
 unfold findE at h;by_cases hr:rightE e=false
 ·rw[if_pos hr]at h;cases h
 ·rw[if_neg hr]at h;cases hf:findS (sml.lowL n)with
  | none=>rw[hf]at h;cases h
  | some t=>rw[hf]at h;cases h;exact⟨by simpa using hr,rfl⟩
theorem findE_of {e:En}{n:List UInt8}{ty:Ty}(h1:rightE e=true)(h2:findS (sml.lowL n)=some ty):findE e n= .ok ty:=by unfold findE;rw[if_neg (by rw[h1];simp),h2]
theorem ty_self {n:List UInt8}{ty:Ty}(h:findS n=some ty):tyOf (bs ty.name)=some ty:=by unfold tyOf;rw[bs_data,(findS_some h).2];exact h
theorem right_iff {e:En}:rightE e=true↔dnw.rdnOK e.rdn=true∧atsF none e.ats=true:=by unfold rightE;rw[Bool.and_eq_true]
theorem vals_ok {L:List At}{ty:Ty}{n:List UInt8}(h:atsF none L=true)(hf:findS n=some ty):(∀v∈valsA L (bs ty.name),okV ty.syn v=true)∧((valsA L (bs ty.name)).map (nv ty.syn)).Nodup:=by
 obtain⟨lo,mid,hi,hp⟩:=part_of (bs ty.name) L none h;rw[vals_part hp];rcases hp.mid with rfl | ⟨v,rfl⟩
 ·exact⟨fun v hv=>(by cases hv),List.nodup_nil⟩
 ·have h1:=((atsF_iff _ _).1 h).1 ⟨bs ty.name,v⟩ (by rw[hp.eq];simp);unfold atOK at h1;rw[show tyOf (⟨bs ty.name,v⟩:At).t=some ty from ty_self hf]at h1;simp only[valsOK,Bool.and_eq_true]at h1;have:=(fresh_iff v [] (by simp) List.nodup_nil).1 h1.2;simpa[midV]using this
theorem atOK_of {ty:Ty}{n:List UInt8}{l:List ByteArray}(hf:findS n=some ty)(h1:l≠[])(h2:l.length≤mostT ty.single)(h3: ∀v∈l,okV ty.syn v=true)(h4:(l.map (nv ty.syn)).Nodup):atOK ⟨bs ty.name,l⟩=true:=by unfold atOK;rw[show tyOf (⟨bs ty.name,l⟩:At).t=some ty from ty_self hf];show valsOK ty l=true;unfold valsOK;rw[Bool.and_eq_true,Bool.and_eq_true,decide_eq_true_iff,decide_eq_true_iff];exact⟨⟨List.length_pos_iff.2 h1,h2⟩,(fresh_iff l [] (by simp) List.nodup_nil).2 ⟨h3,by simpa using h4⟩⟩
theorem add_ok {e a:En}{n:List UInt8}{l:List ByteArray}(h:addE e n l= .ok a): ∃ty,rightE e=true∧findS (sml.lowL n)=some ty∧l≠[]∧(∀v∈l,okV ty.syn v=true)∧
  ((valsA e.ats (bs ty.name)++l).map (nv ty.syn)).Nodup∧(valsA e.ats (bs ty.name)++l).length≤mostT ty.single∧a=withE e (bs ty.name) (valsA e.ats (bs ty.name)++l):=by
 unfold addE at h;cases hf:findE e n with
 | error f=>rw[hf]at h;cases h
 | ok ty=>
  rw[hf]at h;obtain⟨h1,h2⟩:=findE_ok hf;simp only at h;by_cases hl:l=[]
  ·rw[if_pos hl]at h;cases h
  ·rw[if_neg hl]at h;by_cases hz:faultI ty.syn l=0
   ·rw[if_neg (not_not_intro hz)]at h;have hok:=(fault_zero l).1 hz;rw[join_fresh l _ hok]at h;by_cases hfr:fresh ty.syn (valsA e.ats (bs ty.name)) l=true
    ·rw[if_pos hfr]at h;simp only at h;by_cases hm:mostT ty.single<(valsA e.ats (bs ty.name)++l).length
     ·rw[if_pos hm]at h;cases h
     ·rw[if_neg hm]at h;cases h;obtain⟨o1,o2⟩:=vals_ok (right_iff.1 h1).2 h2;exact⟨ty,h1,h2,hl,hok,((fresh_iff l _ o1 o2).1 hfr).2,by omega,rfl⟩
    ·rw[if_neg hfr]at h;cases h
   ·rw[if_pos hz]at h;cases h
theorem withE_false {e:En}{n:ByteArray}{l:List ByteArray}(h:l≠[]):withE e n l=⟨e.rdn,withF n l false e.ats⟩:=by unfold withE;rw[decide_eq_false h]
theorem app_ne {α:Type}{p l:List α}(h:l≠[]):p++l≠[]:=fun e=>h (List.append_eq_nil_iff.1 e).2
theorem add_right {e a:En}{n:List UInt8}{l:List ByteArray}(h:addE e n l= .ok a):rightE a=true:=by
 obtain⟨ty,h1,h2,h3,h4,h5,h6,rfl⟩:=add_ok h;rw[withE_false (app_ne h3)];have hr:=right_iff.1 h1;refine right_iff.2 ⟨hr.1,with_right hr.2 fun _=>atOK_of h2 (app_ne h3) h6 ?_ h5⟩;intro v hv;rcases List.mem_append.1 hv with hv | hv
 ·exact(vals_ok hr.2 h2).1 v hv
 ·exact h4 v hv
theorem vals_with {e:En}{n:ByteArray}{l:List ByteArray}(h:rightE e=true):valsA (withE e n l).ats n=l:=by
 obtain⟨lo,mid,hi,hp⟩:=part_of n e.ats none (right_iff.1 h).2;unfold withE;rw[vals_part (part_with hp l (decide (l=[])))];by_cases hl:l=[]
 ·subst hl;rfl
 ·rw[decide_eq_false hl];rfl
theorem like_in {syn:Int}{l:List ByteArray}{v:ByteArray}(h:v∈l)(hv:okV syn v=true):0≤likeI syn l v:=by
 by_cases hn:likeI syn l v<0
 ·rw[likeI_neg,likeN_none]at hn;have:=hn v h;rw[alike_self hv]at this;cases this
 ·omega
theorem like_not {syn:Int}{p l:List ByteArray}{v:ByteArray}(hn:((p++l).map (nv syn)).Nodup)(h:v∈l):likeI syn p v<0:=by rw[likeI_neg,likeN_none];intro x hx;rw[Bool.eq_false_iff];intro ha;rw[List.map_append,List.nodup_append]at hn;exact hn.2.2 _ (List.mem_map.2 ⟨x,hx,rfl⟩) _ (List.mem_map.2 ⟨v,h,rfl⟩) (alike_iff.1 ha).2.2
theorem back {e a:En}{n:List UInt8}{l:List ByteArray}(h:addE e n l= .ok a):removeE a n l= .ok e∧rightE a=true∧ ∀v∈l,hasE a n v=true∧hasE e n v=false:=by
 have hra:=add_right h;obtain⟨ty,h1,h2,h3,h4,h5,h6,rfl⟩:=add_ok h;have hv:=vals_with (n:=bs ty.name) (l:=valsA e.ats (bs ty.name)++l) h1;refine⟨?_,hra,fun v hvl=>⟨?_,?_⟩⟩
 ·unfold removeE;rw[findE_of hra h2];simp only;rw[if_neg (not_not_intro ((fault_zero l).2 h4)),hv,if_neg (app_ne h3)];have hok: ∀u∈valsA e.ats (bs ty.name)++l,okV ty.syn u=true:=by
   intro u hu;rcases List.mem_append.1 hu with hu | hu
   ·exact(vals_ok (right_iff.1 h1).2 h2).1 u hu
   ·exact h4 u hu
  rw[drop_back l _ hok h5];simp only;rw[if_neg h3,withE_false (app_ne h3)];unfold withE;simp only;rw[with_back (right_iff.1 h1).2]
 ·unfold hasE;rw[h2];simp only;rw[hra,hv,Bool.true_and,decide_eq_true_iff];exact like_in (List.mem_append_right _ hvl) (h4 v hvl)
 ·unfold hasE;rw[h2];simp only;rw[h1,Bool.true_and,decide_eq_false_iff_not];have:=like_not h5 hvl;omega
end etp
namespace etp
open atp atw
open dnw (Av)
def namedA (ats:List At)(a:Av):Bool:=match findS a.t.data.toList with
 | none=>false
 | some ty=>decide (0≤likeI ty.syn (valsA ats a.t) a.v)
def namedE (e:En):Bool:=rightE e&&e.rdn.all (namedA e.ats)
theorem bs_name {a:Av}{ty:Ty}(h:findS a.t.data.toList=some ty):bs ty.name=a.t:=kt.str_eq (by rw[bs_data];exact(findS_some h).2)
theorem find_small {n:List UInt8}{ty:Ty}(h:findS n=some ty):findS (sml.lowL n)=some ty:=(find_low.2 h).1
end etp
open Go.RowKit
namespace etw
open atp atw etp
open dnw (Av Avas)
open tupw (Strs strs_below)
structure EnvE (w:World):Prop where
 e:prw.Env w
 t:dnw.Tabs w
 y:TyEnv w
theorem envE_below {w w':World}(h:EnvE w)(hb:Below w.heap.size w w'):EnvE w':=⟨prw.env_below h.e hb,dnw.tabs_below h.t hb,tyEnv_below h.y hb⟩
def ElemAt (w:World)(x:Value)(vs:List ByteArray):Prop:= ∃a c,x= .slice a vs.length c∧vs.length≤c∧Strs w a vs
def Ats (w:World)(ao:Option Addr)(l:List At):Prop:= ∀i (hi:i<l.length),∃b o a c,ao=some ⟨b,o,none⟩∧w.cell? ⟨b,o+i*2,none⟩=some (.string l[i].t)∧w.cell? ⟨b,o+i*2+1,none⟩=some (.slice a l[i].vs.length c)∧l[i].vs.length≤c∧Strs w a l[i].vs
theorem elem_below {w w':World}{x:Value}{vs:List ByteArray}(h:ElemAt w x vs)(hb:Below w.heap.size w w'):ElemAt w' x vs:=by obtain⟨a,c,h1,h2,h3⟩:=h;exact⟨a,c,h1,h2,strs_below h3 hb⟩
theorem ats_below {w w':World}{ao:Option Addr}{l:List At}(h:Ats w ao l)(hb:Below w.heap.size w w'):Ats w' ao l:=by intro i hi;obtain⟨b,o,a,c,h1,h2,h3,h4,h5⟩:=h i hi;exact⟨b,o,a,c,h1,(hb.cell (World.block_lt_of_cell? w _ h2)).trans h2,(hb.cell (World.block_lt_of_cell? w _ h3)).trans h3,h4,strs_below h5 hb⟩
theorem strs_same {w w':World}{a:Option Addr}{vs:List ByteArray}(h:Strs w a vs)(hb:vs≠[]→ ∀p,a=some p→w'.heap[p.block]? =w.heap[p.block]?):Strs w' a vs:=by intro i hi;obtain⟨b,o,e,hc⟩:=h i hi;exact⟨b,o,e,(World.cell?_of_block (w:=w) (a:=⟨b,o+i,none⟩) (hb (by intro e0;rw[e0]at hi;cases hi) ⟨b,o,none⟩ e)).trans hc⟩
theorem strs_lt {w:World}{a:Option Addr}{vs:List ByteArray}(h:Strs w a vs)(hv:vs≠[]): ∃b o,a=some ⟨b,o,none⟩∧b<w.heap.size:=by
 cases vs with
 | nil=>exact absurd rfl hv
 | cons x t=>obtain⟨b,o,e,hc⟩:=h 0 (by simp);exact⟨b,o,e,World.block_lt_of_cell? w _ hc⟩
theorem own_elem {w:World}{B:Nat}{v:Value}{l:List ByteArray}(h:prw.OwnT w B v l):ElemAt w v l:=by obtain⟨ao,cap,rfl,hc,h1⟩:=prw.ownT_cells h;refine⟨ao,cap,rfl,hc,fun i hi=> ?_⟩;obtain⟨g,rfl,hg,h2⟩:=h1 (by intro e0;rw[e0]at hi;cases hi);refine⟨g,0,rfl,?_⟩;exact h2 i _ (List.getElem?_eq_getElem hi)
theorem elem_form {w:World}{v:Value}{l:List ByteArray}(h:ElemAt w v l): ∃a n c,v= .slice a n c∧Hid (n=l.length)∧n≤c∧Strs w a l:=by obtain⟨a,c,h1,h2,h3⟩:=h;exact⟨a,_,c,h1,rfl,h2,h3⟩
abbrev AV:=At × Value
def acell (x:AV):List Value:=[.string x.1.t,x.2]
theorem infoAt:(Tryz.prog.info? 43).map (fun i=>(i.zero,i.size,i.bytes))=some (some (.agg #[.string ByteArray.empty,.slice none 0 0]),2,40):=by kernel_rfl
structure OwnA (w:World)(B:Nat)(v:Value)(l:List AV):Prop where
 outer:kt.SegX w B 43 2 v l.length (l.flatMap acell)
 inner: ∀x∈l,ElemAt w x.2 x.1.vs∧(x.1.vs≠[]→ ∀k,x.2.ownBlock=some k→v.ownBlock≠some k)
theorem ownA_nil (w:World)(B:Nat):OwnA w B (.slice none 0 0) []:=⟨kt.segX_nil _ _ _ _,fun x h=>by cases h⟩
theorem elem_lt {w:World}{x:Value}{vs:List ByteArray}(h:ElemAt w x vs)(hv:vs≠[]): ∀k,x.ownBlock=some k→k<w.heap.size:=by obtain⟨a,c,rfl,h2,h3⟩:=h;obtain⟨b,o,rfl,hb⟩:=strs_lt h3 hv;intro k hk;simp[Value.ownBlock]at hk;omega
theorem elem_same {w w':World}{x:Value}{vs:List ByteArray}(h:ElemAt w x vs)(hb:vs≠[]→ ∀k,x.ownBlock=some k→w'.heap[k]? =w.heap[k]?):ElemAt w' x vs:=by obtain⟨a,c,rfl,h2,h3⟩:=h;refine⟨a,c,rfl,h2,strs_same h3 fun hv p hp=> ?_⟩;exact hb hv p.block (by rw[hp];rfl)
theorem ownA_below {w w':World}{B:Nat}{v:Value}{l:List AV}(h:OwnA w B v l)(hb:Below w.heap.size w w'):OwnA w' B v l:=⟨kt.segX_below h.outer hb,fun x hx=>⟨elem_below (h.inner x hx).1 hb,(h.inner x hx).2⟩⟩
theorem ownA_form {w:World}{B:Nat}{v:Value}{l:List AV}(h:OwnA w B v l): ∃ao n cap,v= .slice ao n cap∧Hid (n=l.length)∧n≤cap:=by obtain⟨ao,cap,hv,hc⟩:=kt.segX_slice h.outer;exact⟨ao,_,cap,hv,rfl,hc⟩
theorem ownA_ats {w:World}{B:Nat}{ao:Option Addr}{n cap:Nat}{l:List AV}(h:OwnA w B (.slice ao n cap) l):Ats w ao (l.map Prod.fst):=by
 intro i hi;have hi':i<l.length:=by simpa using hi
 obtain⟨g,o,cap',hv,_,_,hcell⟩:=kt.segX_cell h.outer (by omega);simp only[Value.slice.injEq]at hv;obtain⟨rfl,_,rfl⟩:=hv;have hj: ∀j,j<2→(l.flatMap acell)[i*2+j]? =(acell l[i])[j]? :=fun j hj=>kt.flat_get acell 2 (fun _=>rfl) l i j hi' hj;obtain⟨⟨a,c,e,h2,h3⟩,_⟩:=h.inner l[i] (List.getElem_mem hi');refine⟨g,o,a,c,rfl,?_,?_,?_,?_⟩
 ·have:=hcell _ _ (hj 0 (by omega));simpa using this
 ·have:=hcell (i*2+1) (.slice a l[i].fst.vs.length c) (by rw[hj 1 (by omega),←e];rfl);rw[Nat.add_assoc];simpa using this
 ·simpa using h2
 ·simpa using h3
theorem ownA_app {w:World}{B:Nat}{v:Value}{l:List AV}(t:ByteArray)(x:Value)(vs:List ByteArray)(h:OwnA w B v l)(hx:ElemAt w x vs)(hne:vs≠[]→ ∀k,x.ownBlock=some k→v.ownBlock≠some k)(hl:l.length≤1000000)(hB:B≤w.heap.size):
  ∃ao n cap w1,(Builtin.append_ #[24,24] 24 #[v,.slice (some ⟨w.heap.size,0,none⟩) 1 1]).run Tryz.prog (w.alloc (.cells #[.string t,x] 43))= .ok (.slice ao n cap) w1∧OwnA w1 B (.slice ao n cap) (l++[(⟨t,vs⟩,x)])∧Below B w w1∧n=l.length+1∧n≤cap∧w.heap.size≤w1.heap.size∧
   (∀y us,ElemAt w y us→(us≠[]→ ∀k,y.ownBlock=some k→v.ownBlock≠some k)→ElemAt w1 y us∧(us≠[]→ ∀k,y.ownBlock=some k→(Value.slice ao n cap).ownBlock≠some k))∧
   (∀k,k<w.heap.size→v.ownBlock≠some k→w1.heap[k]? =w.heap[k]?)∧(∀k,(Value.slice ao n cap).ownBlock=some k→v.ownBlock=some k∨w.heap.size≤k):=by
 have hA:Below w.heap.size w (w.alloc (.cells #[.string t,x] 43)):=(Below.refl _ _).alloc (Nat.le_refl _) _;have hn:=ownA_below h hA;obtain⟨a,c,hxe,_,_⟩:=id hx;obtain⟨v',w1,h1,h2,h3,h4⟩:=kt.segX_append (P:=Tryz.prog) (t:=24) (ty:=24) Tryz.underlying24 infoAt rfl (by omega) ⟨w.heap.size,0,none⟩ 1 1 (acell (⟨t,vs⟩,x)) rfl (fun j u hj=>by rw[kt.addr_add,World.cell?_alloc_new];simpa[acell]using hj) (by intro u hu;simp[acell]at hu;rcases hu with rfl | rfl<;>(try rw[hxe])<;>rfl) hn.outer (by unfold maxLen;omega) (by omega) (by simp;omega);obtain⟨ao,cap,rfl,hc⟩:=kt.segX_slice h2;have hs:=hA.size;have key: ∀y us,ElemAt w y us→(us≠[]→ ∀k,y.ownBlock=some k→v.ownBlock≠some k)→ElemAt w1 y us∧(us≠[]→ ∀k,y.ownBlock=some k→(Value.slice ao (l.length+1) cap).ownBlock≠some k):=by
  intro y us hy hd;have hy1:=elem_below hy hA;refine⟨elem_same hy1 fun hv k hk=>h3.block k (elem_lt hy1 hv k hk) (fun e=>hd hv k hk e.symm),fun hv k hk e2=> ?_⟩;rcases h4 k e2 with e3 | e3
  ·exact hd hv k hk e3
  ·have:=elem_lt hy1 hv k hk;omega
 refine⟨ao,_,cap,w1,h1,⟨?_,fun y hy=> ?_⟩,((Below.refl B w).alloc hB _).trans ((Below.refl B _).grown h3 (by simp;omega) (fun k hk=>(kt.segX_lt hn.outer k hk).1)),rfl,hc,?_,key,fun k hk hne=>(h3.block k (by simp;omega) (fun e=>hne e.symm)).trans (hA.block k hk),fun k hk=>by
  rcases h4 k hk with e | e
  ·exact Or.inl e
  ·exact Or.inr (by omega)⟩
 ·rw[List.length_append,List.flatMap_append];simpa using h2
 ·rcases List.mem_append.1 hy with hy | hy
  ·exact key y.2 y.1.vs (h.inner y hy).1 (h.inner y hy).2
  ·rw[List.mem_singleton]at hy;subst hy;exact key x vs hx hne
 ·exact Nat.le_trans hs h3.size
structure Bd (e:En):Prop where
 rl:e.rdn.length≤100000
 rs: ∀a∈e.rdn,a.t.size≤100000∧a.v.size≤100000
 al:e.ats.length≤100000
 as_: ∀a∈e.ats,a.t.size≤100000∧a.vs.length≤100000∧ ∀v∈a.vs,v.size≤100000
theorem bd_smalls {e:En}(h:Bd e):e.rdn.length≤4→dnw.Smalls e.rdn:=fun _ x hx=>⟨(h.rs x hx).1,by have:=(h.rs x hx).2;omega⟩
def EntV (w:World)(v:Value)(e:En):Prop:= ∃ro rc ao ac,v= .agg #[.slice ro e.rdn.length rc,.slice ao e.ats.length ac]∧e.rdn.length≤rc∧e.ats.length≤ac∧Avas w ro e.rdn∧Ats w ao e.ats
theorem entV_below {w w':World}{v:Value}{e:En}(h:EntV w v e)(hb:Below w.heap.size w w'):EntV w' v e:=by obtain⟨ro,rc,ao,ac,h1,h2,h3,h4,h5⟩:=h;exact⟨ro,rc,ao,ac,h1,h2,h3,dnw.avas_below h4 hb,ats_below h5 hb⟩
end etw
open Go.RowKit
namespace etw
open atp atw etp
open tupw (Strs strs_below)
def Fit (l:List ByteArray):Prop:= ∀v∈l,v.size≤140737488351232
def VB (w:World)(p:Nat)(v:ByteArray):Prop:=w.heap[p]? =some (.cells #[.string v] 9 (0,0))
theorem vb_new (w:World)(v:ByteArray):VB (w.alloc (.cells #[.string v] 9)) w.heap.size v:=heap_alloc_new w _
theorem vb_cell {w:World}{p:Nat}{v:ByteArray}(h:VB w p v):w.cell? ⟨p,0,none⟩=some (.string v):=by rw[Lib.cell_of_heap h];rfl
theorem vb_below {w w':World}{p:Nat}{v:ByteArray}(h:VB w p v)(hb:Below w.heap.size w w'):VB w' p v:=(hb.block p (kt.bld_lt h)).trans h
theorem equal_alike (nm:ByteArray)(syn:Int)(sg:Bool)(a b:ByteArray)(w:World)(ha:a.size≤140737488351232)(hb:b.size≤140737488351232)(hE:EnvE w):
  ∃er:Int,(alike syn a b=true→er=0)∧Calls Tryz.prog 148 #[.agg #[.string nm,.int .i64 syn,.bool sg],.string a,.string b] w fun e w'=>e= .returned (.tuple #[.bool (alike syn a b),.int .i64 er])∧Below w.heap.size w w':=
 ⟨_,fun h=>alike_err h,equal_any nm syn sg a b w ha hb (Lib.hid hE.e) (Lib.hid hE.t)⟩
theorem requal_alike (nm:ByteArray)(syn:Int)(sg:Bool)(a b:ByteArray)(w:World)(ha:a.size≤140737488351232)(hb:b.size≤140737488351232):
  ∃er:Int,(alike syn a b=true→er=0)∧Calls Tryz.prog 199 #[.agg #[.string nm,.int .i64 syn,.bool sg],.string a,.string b] w fun e w'=>e= .returned (.tuple #[.bool (alike syn a b),.int .i64 er])∧Below w.heap.size w w':=
 ⟨_,fun h=>alike_err h,requal_any nm syn sg a b w ha hb⟩
theorem clo_any (nm:ByteArray)(syn:Int)(sg:Bool)(v s:ByteArray)(bt bv:Nat)(w:World)(hs:s.size≤140737488351232)(hv:v.size≤140737488351232)(hE:Hid (EnvE w))(hT:Hid (TB w bt nm syn sg))(hV:Hid (VB w bv v)):
  Calls Tryz.prog 147 #[.string s,.pointer (some ⟨bt,0,none⟩),.pointer (some ⟨bv,0,none⟩)] w fun e w'=>e= .returned (.bool (alike syn s v))∧Below w.heap.size w w':=by
 obtain⟨er,her,CE⟩:=equal_alike nm syn sg s v w hs hv hE.out;have HC:=Lib.hid CE;obtain⟨k0,k1,k2⟩:=tb_cells hT.out;have k3:=vb_cell hV.out;clear CE;cases hal:alike syn s v with
 | true=>have h0:=her hal;subst h0;rw[hal]at HC;clear her hal;go_enter Tryz.func147,Tryz.ntmps147;go_wp2_with fail;refine HC.out.mono ?_;rintro e w1 ⟨rfl,hB1⟩;have HB1:=Lib.hid hB1;clear hB1 k0 k1 k2 k3;go_wp2_with fail;go_ret;exact⟨rfl,HB1.out⟩
 | false=>rw[hal]at HC;clear her hal;go_enter Tryz.func147,Tryz.ntmps147;go_wp2_with fail;refine HC.out.mono ?_;rintro e w1 ⟨rfl,hB1⟩;have HB1:=Lib.hid hB1;clear hB1 k0 k1 k2 k3;go_wp2_with fail;go_ret;exact⟨rfl,HB1.out⟩
theorem idx_any (syn:Int)(v:ByteArray)(bt bv:Nat)(ao:Option Addr)(cap:Nat)(l:List ByteArray)(w:World)(hl:Hid (Strs w ao l))(hn:l.length≤1000000)
  (hF:Hid (∀W,∀x∈l,Below w.heap.size w W→Calls Tryz.prog 147 #[.string x,.pointer (some ⟨bt,0,none⟩),.pointer (some ⟨bv,0,none⟩)] W fun e w'=>e= .returned (.bool (alike syn x v))∧Below W.heap.size W w')):
  Calls Tryz.prog 146 #[.slice ao l.length cap,.func (.func 147) #[] #[.pointer (some ⟨bt,0,none⟩),.pointer (some ⟨bv,0,none⟩)]] w fun e w'=>e= .returned (.int .i64 (likeI syn l v))∧Below w.heap.size w w':=by
 obtain⟨N,hN⟩: ∃N,l.length=N:=⟨_,rfl⟩;have HN:=Lib.hid hN;rw[hN];rw[hN]at hn;clear hN;go_enter Tryz.func146,Tryz.ntmps146;go_wp2_with fail;go_loopw [8] (fun iv wr=> ∃i:Nat,i≤N∧iv= .int .i64 (i:Int)∧Hid (Below w.heap.size w wr)∧Hid (∀j (hj:j<l.length),j<i→alike syn l[j] v=false)) (fun iv _=>N- (intOf iv).toNat);case atStart=>exact⟨0,Nat.zero_le _,rfl,Below.refl _ _,fun j hj h=>absurd h (Nat.not_lt_zero _)⟩
 case round=>
  obtain⟨i,hi,rfl,hB,hJ⟩:=hrel;have hsz:=hB.out.size;by_cases hlt:i<N
  ·have hltI:(i:Int)<(N:Int):=(by omega);have hil:i<l.length:=(by rw[HN.out];exact hlt);obtain⟨b,o,hao,hc0⟩:=(strs_below hl.out hB.out) i hil;subst hao;have HF:=Lib.hid (hF.out wr l[i] (List.getElem_mem _) hB.out);obtain⟨x,hx⟩: ∃x,l[i]=x:=⟨_,rfl⟩;have HX:=Lib.hid hx;rw[hx]at HF hc0;clear hx;cases hal:alike syn x v with
   | true=>rw[hal]at HF;have HR:Hid (likeI syn l v=(i:Int)):=likeI_hit hil (by rw[HX.out];exact hal) hJ.out;clear hal;go_wp2_with (go_at_call 147;refine HF.out.mono ?_;rintro e w1 ⟨rfl,hB1⟩);go_ret;exact⟨kt.ret_int HR.out.symm,hB.out.trans (‹Below wr.heap.size wr _›.mono hsz)⟩
   | false=>
    rw[hal]at HF;have HJ:Hid (∀j (hj:j<l.length),j<i+1→alike syn l[j] v=false):=by
     intro j hj h;by_cases e:j=i
     ·subst e;rw[HX.out];exact hal
     ·exact hJ.out j hj (by omega)
    clear hal;go_wp2_with (go_at_call 147;refine HF.out.mono ?_;rintro e w1 ⟨rfl,hB1⟩);go_roundw;case rel=>exact⟨i+1,by omega,by go_num,hB.out.trans (‹Below wr.heap.size wr _›.mono hsz),HJ⟩
    case measure=>simp[intOf];omega
  ·obtain rfl:N=i:=(by omega);have HR:Hid (likeI syn l v= -1):=likeI_none fun j hj=>hJ.out j hj (by rw[←HN.out];exact hj);go_wp2_with fail;go_ret;exact⟨kt.ret_int HR.out.symm,hB.out⟩
theorem like_any (nm:ByteArray)(syn:Int)(sg:Bool)(ao:Option Addr)(cap:Nat)(l:List ByteArray)(v:ByteArray)(w:World)(hl:Hid (Strs w ao l))(hn:l.length≤1000000)(hf:Hid (Fit l))(hv:v.size≤140737488351232)(hE:Hid (EnvE w)):
  Calls Tryz.prog 89 #[.agg #[.string nm,.int .i64 syn,.bool sg],.slice ao l.length cap,.string v] w fun e w'=>e= .returned (.int .i64 (likeI syn l v))∧Below w.heap.size w w':=by
 obtain⟨W1,hW1⟩: ∃W,w.alloc (.cells #[.string nm,.int .i64 syn,.bool sg] 108)=W:=⟨_,rfl⟩;have hB1:Below w.heap.size w W1:=by rw[←hW1];exact(Below.refl _ _).alloc (Nat.le_refl _) _
 have hT1:TB W1 w.heap.size nm syn sg:=by rw[←hW1];exact tb_new w nm syn sg
 obtain⟨W2,hW2⟩: ∃W,W1.alloc (.cells #[.string v] 9)=W:=⟨_,rfl⟩;have hB2:Below W1.heap.size W1 W2:=by rw[←hW2];exact(Below.refl _ _).alloc (Nat.le_refl _) _
 have hV2:VB W2 W1.heap.size v:=by rw[←hW2];exact vb_new W1 v
 have hB12:=hB1.trans (hB2.mono hB1.size);have HB12:=Lib.hid hB12;have hT2:=tb_below hT1 hB2;have HF:Hid (Calls Tryz.prog 146 #[.slice ao l.length cap,.func (.func 147) #[] #[.pointer (some ⟨w.heap.size,0,none⟩),.pointer (some ⟨W1.heap.size,0,none⟩)]] W2 fun e w'=>e= .returned (.int .i64 (likeI syn l v))∧Below W2.heap.size W2 w'):=
  idx_any syn v w.heap.size W1.heap.size ao cap l W2 (Lib.hid (strs_below hl.out hB12)) hn (Lib.hid fun W x hx hb=>clo_any nm syn sg v x w.heap.size W1.heap.size W (hf.out x hx) hv (Lib.hid (envE_below (envE_below hE.out hB12) hb)) (Lib.hid (tb_below hT2 hb)) (Lib.hid (vb_below hV2 hb)))
 have hz:=hB12.size;clear hB1 hB2 hT1 hT2 hV2 hB12;obtain⟨N,hN⟩: ∃N,l.length=N:=⟨_,rfl⟩;rw[hN]at HF ⊢;clear hN;generalize likeI syn l v=r at HF ⊢;go_enter Tryz.func89,Tryz.ntmps89;go_wp2_with fail;refine HF.out.mono ?_;rintro e w3 ⟨rfl,hB3⟩;go_wp2_with fail;go_ret;exact⟨rfl,HB12.out.trans (hB3.mono hz)⟩
theorem rlike_any (nm:ByteArray)(syn:Int)(sg:Bool)(ao:Option Addr)(cap:Nat)(l:List ByteArray)(v:ByteArray)(w:World)(hl:Hid (Strs w ao l))(hn:l.length≤1000000)(hf:Hid (Fit l))(hv:v.size≤140737488351232):
  Calls Tryz.prog 141 #[.agg #[.string nm,.int .i64 syn,.bool sg],.slice ao l.length cap,.string v] w fun e w'=>e= .returned (.int .i64 (likeI syn l v))∧Below w.heap.size w w':=by
 obtain⟨W1,hW1⟩: ∃W,w.alloc (.cells #[.string nm,.int .i64 syn,.bool sg] 108)=W:=⟨_,rfl⟩;have hB1:Below w.heap.size w W1:=by rw[←hW1];exact(Below.refl _ _).alloc (Nat.le_refl _) _
 have HT1:Hid (TB W1 w.heap.size nm syn sg):=by rw[←hW1];exact tb_new w nm syn sg
 have HB1:=Lib.hid hB1;clear hB1;obtain⟨N,hN⟩: ∃N,l.length=N:=⟨_,rfl⟩;have HN:=Lib.hid hN;rw[hN];rw[hN]at hn;clear hN;go_enter Tryz.func141,Tryz.ntmps141;go_wp2_with fail;go_loopw [7] (fun iv wr=> ∃i:Nat,i≤N∧iv= .int .i64 (i:Int)∧Hid (Below W1.heap.size W1 wr)∧Hid (∀j (hj:j<l.length),j<i→alike syn l[j] v=false)) (fun iv _=>N- (intOf iv).toNat);case atStart=>exact⟨0,Nat.zero_le _,rfl,Below.refl _ _,fun j hj h=>absurd h (Nat.not_lt_zero _)⟩
 case round=>
  obtain⟨i,hi,rfl,hB,hJ⟩:=hrel;have hsz:=hB.out.size;have HBw:=Lib.hid (HB1.out.trans (hB.out.mono HB1.out.size));have hszw:=HBw.out.size;obtain⟨n0,n1,n2⟩:=tb_cells (tb_below HT1.out hB.out);by_cases hlt:i<N
  ·have hltI:(i:Int)<(N:Int):=(by omega);have hil:i<l.length:=(by rw[HN.out];exact hlt);obtain⟨b,o,hao,hc0⟩:=(strs_below hl.out HBw.out) i hil;subst hao;have hl1:=World.block_lt_of_cell? wr _ n0;have hl2:=World.block_lt_of_cell? wr _ hc0;obtain⟨x,hx⟩: ∃x,l[i]=x:=⟨_,rfl⟩;have HX:=Lib.hid hx;have hxs:x.size≤140737488351232:=(by rw[←hx];exact hf.out _ (List.getElem_mem _));rw[hx]at hc0;clear hx;have HE0:Hid (∀W,∃er:Int,(alike syn x v=true→er=0)∧Calls Tryz.prog 199 #[.agg #[.string nm,.int .i64 syn,.bool sg],.string x,.string v] W fun e w'=>e= .returned (.tuple #[.bool (alike syn x v),.int .i64 er])∧Below W.heap.size W w'):=fun W=>requal_alike nm syn sg x v W hxs hv;have HE1: ∃er:Int,(alike syn x v=true→er=0)∧Hid (∀W,Calls Tryz.prog 199 #[.agg #[.string nm,.int .i64 syn,.bool sg],.string x,.string v] W fun e w'=>e= .returned (.tuple #[.bool (alike syn x v),.int .i64 er])∧Below W.heap.size W w'):=
    ⟨_,fun h=>alike_err h,fun W=>requal_any nm syn sg x v W hxs hv⟩
   obtain⟨er,her,HE⟩:=HE1;clear HE0;cases hal:alike syn x v with
   | true=>
    have h0:=her hal;subst h0;rw[hal]at HE;have HR:Hid (likeI syn l v=(i:Int)):=likeI_hit hil (by rw[HX.out];exact hal) hJ.out;clear hal her;go_wp2_with fail;go_region_held3 (fun W=>W.cell? ⟨w.heap.size,0,none⟩=some (.string nm)∧W.cell? ⟨w.heap.size,1,none⟩=some (.int .i64 syn)∧W.cell? ⟨w.heap.size,2,none⟩=some (.bool sg)∧W.cell? ⟨b,o+i,none⟩=some (.string x)) (first
      | exact⟨n0,n1,n2,hc0⟩
      | exact⟨(hB6.cell (p:=⟨w.heap.size,0,none⟩) hl1).trans n0,(hB6.cell (p:=⟨w.heap.size,1,none⟩) hl1).trans n1,(hB6.cell (p:=⟨w.heap.size,2,none⟩) hl1).trans n2,(hB6.cell (p:=⟨b,o+i,none⟩) hl2).trans hc0⟩)
     (first | (go_at_call 199;refine(HE.out _).mono ?_;rintro e w6 ⟨rfl,hB6⟩) | fail)
    all_goals have HB6:=Lib.hid (HBw.out.trans (((Below.refl wr.heap.size wr).drew.trans hB6).mono hszw));clear hB6 n0 n1 n2 hc0;go_wp2_with fail;go_ret;exact⟨kt.ret_int HR.out.symm,HB6.out⟩
   | false=>
    rw[hal]at HE;have HJ:Hid (∀j (hj:j<l.length),j<i+1→alike syn l[j] v=false):=by
     intro j hj h;by_cases e:j=i
     ·subst e;rw[HX.out];exact hal
     ·exact hJ.out j hj (by omega)
    clear hal her;go_wp2_with fail;go_region_held3 (fun W=>W.cell? ⟨w.heap.size,0,none⟩=some (.string nm)∧W.cell? ⟨w.heap.size,1,none⟩=some (.int .i64 syn)∧W.cell? ⟨w.heap.size,2,none⟩=some (.bool sg)∧W.cell? ⟨b,o+i,none⟩=some (.string x)) (first
      | exact⟨n0,n1,n2,hc0⟩
      | exact⟨(hB6.cell (p:=⟨w.heap.size,0,none⟩) hl1).trans n0,(hB6.cell (p:=⟨w.heap.size,1,none⟩) hl1).trans n1,(hB6.cell (p:=⟨w.heap.size,2,none⟩) hl1).trans n2,(hB6.cell (p:=⟨b,o+i,none⟩) hl2).trans hc0⟩)
     (first | (go_at_call 199;refine(HE.out _).mono ?_;rintro e w6 ⟨rfl,hB6⟩) | fail)
    all_goals
     have HB6:=Lib.hid (hB.out.trans (((Below.refl wr.heap.size wr).drew.trans hB6).mono hsz));clear hB6 n0 n1 n2 hc0;go_wp2_with fail;go_roundw;case rel=>exact⟨i+1,by omega,by go_num,HB6,HJ⟩
     case measure=>simp[intOf];omega
  ·obtain rfl:N=i:=(by omega);have HR:Hid (likeI syn l v= -1):=likeI_none fun j hj=>hJ.out j hj (by rw[←HN.out];exact hj);go_wp2_with fail;go_ret;exact⟨kt.ret_int HR.out.symm,HBw.out⟩
end etw
end Go.Proofs.YtmnpfkbjpeaemaaGreatDoor
