/- One text out of several: RNormW, HoldW, CmpT, CmpB, OrdQ, EntP, EntQ, EntR, EntB, LdLdifP, LdPlain2, LdPairP. -/
import Derived.Test.YtmnpfkbjpeaemaaGreatDoorR6
import Derived.Test.YtmnpfkbjpeaemaaGreatDoorR7
import Derived.Test.YtmnpfkbjpeaemaaGreatDoorR8
import Derived.WalkKit
import Derived.Lib.Walk
import Derived.Test.YtmnpfkbjpeaemaaGreatDoorR5
import Derived.Lib.Hide
import Derived.Lib.Bytealg
import Derived.Test.YtmnpfkbjpeaemaaGreatDoorR1
set_option linter.unusedVariables false
set_option linter.unusedSimpArgs false
set_option maxRecDepth 20000
set_option maxHeartbeats 16000000
namespace Go.Proofs.YtmnpfkbjpeaemaaGreatDoor
open Go.RowKit
namespace atw
open atp
theorem bs_app (a b:List UInt8):bs a++bs b=bs (a++b):=by apply kt.str_eq;show(bs a++bs b).data.toList=a++b;simp[bs]
theorem joinK_snoc (l:List ByteArray)(i:Nat)(h:i<l.length):joinK (l.take (i+1))=joinK (l.take i)++l[i].data.toList:=by unfold joinK;rw[List.take_succ_eq_append_getElem h,List.map_append,List.flatten_append];simp
theorem joinK_le (l:List ByteArray)(i:Nat):(joinK (l.take i)).length≤(joinK l).length:=by
 unfold joinK;conv=>rhs;rw[←List.take_append_drop i l]
 rw[List.map_append,List.flatten_append,List.length_append];omega
theorem rnormal_any (nm:ByteArray)(syn:Int)(sg:Bool)(s:ByteArray)(w:World)(hs:s.size≤140737488351232):
  Calls Tryz.prog 140 #[.agg #[.string nm,.int .i64 syn,.bool sg],.string s] w fun e w'=>e= .returned (normV (normL syn s.data.toList))∧Below w.heap.size w w':=by
 obtain⟨W0,hW0⟩: ∃W,w.alloc (.cells #[.string nm,.int .i64 syn,.bool sg] 108)=W:=⟨_,rfl⟩;have hB0:Below w.heap.size w W0:=by rw[←hW0];exact(Below.refl _ _).alloc (Nat.le_refl _) _
 have HB0:=Lib.hid hB0;have hw0:w.heap.size≤W0.heap.size:=hB0.size;have k1:W0.cell? ⟨w.heap.size,1,none⟩=some (.int .i64 syn):=by rw[←hW0,World.cell?_alloc_new];rfl
 clear hB0;by_cases hsy:1≤syn∧syn≤7
 ·by_cases hlong:1000<s.size
  ·rw[normL_long hsy (by rw[kt.size_len];exact hlong)];have hlI:(1000:Int)<(s.size:Int):=(by omega);obtain⟨hs1,hs7⟩:=hsy;have q1:decide (syn<1)=false:=(by rw[decide_eq_false_iff_not];omega);have q2:decide (7<syn)=false:=(by rw[decide_eq_false_iff_not];omega);clear hlong;go_enter Tryz.func140,Tryz.ntmps140;go_wp2_with fail;go_ret2;exact⟨rfl,HB0.out⟩
  ·have hlI: ¬ (1000:Int)<(s.size:Int):=(by omega);by_cases h0:s.data.toList=[]
   ·rw[normL_nil hsy h0];have hz:(s.size:Int)=0:=(by rw[←kt.size_len,h0];rfl);obtain⟨hs1,hs7⟩:=hsy;have q1:decide (syn<1)=false:=(by rw[decide_eq_false_iff_not];omega);have q2:decide (7<syn)=false:=(by rw[decide_eq_false_iff_not];omega);clear hlong h0;go_enter Tryz.func140,Tryz.ntmps140;go_wp2_with fail;go_ret2;exact⟨rfl,HB0.out⟩
   ·have HNF:=Lib.hid (normL_form hsy (by rw[kt.size_len];omega) h0);have hsp:((s.size:Int)==0)=false:=(by rw[beq_eq_false_iff_ne];intro h;exact h0 (by rw[zero_s (s:=s) (by omega)];rfl));have hsb:s.size≤1000:=(by omega);have hcs:syn=1∨syn=2∨syn=3∨syn=4∨syn=5∨syn=6∨syn=7:=(by omega);clear hsy hlong h0;rcases hcs with rfl | rfl | rfl | rfl | rfl | rfl | rfl
    ·have HF:Hid (formO 1 s.data.toList=ne0 (prp.readyO s.data.toList true)):=rfl;have HC:Hid (Calls Tryz.prog 32 #[.string s,.bool true] W0 fun e w'=>e= .returned (prw.pairV (prp.readyO s.data.toList true))∧Below W0.heap.size W0 w'):=prw.rready_any s true W0 (by omega);cases ho:prp.readyO s.data.toList true with
     | none=>rw[ho]at HC HF;rw[show prw.pairV none= .tuple #[.string ⟨#[]⟩,.int .i64 19]from rfl]at HC;clear ho;go_enter Tryz.func140,Tryz.ntmps140;go_wp2_with fail;refine HC.out.mono ?_;rintro e w1 ⟨rfl,hB1⟩;have HB1:=Lib.hid (HB0.out.trans (hB1.mono hw0));clear hB1;go_wp2_with fail;go_ret2;exact⟨by rw[HNF.out,HF.out];rfl,HB1.out⟩
     | some u=>
      rw[ho]at HC HF;have HC2:Hid (Calls Tryz.prog 32 #[.string s,.bool true] W0 fun e w'=>e= .returned (.tuple #[.string (bs u),.int .i64 0])∧Below W0.heap.size W0 w'):=HC;clear HC ho;by_cases hu:u=[]
      ·have hue:((bs u).size:Int)=0:=(by rw[hu];rfl);have HX:Hid (formO 1 s.data.toList=none):=(by show _=_;rw[HF.out,hu];rfl);clear hu;go_enter Tryz.func140,Tryz.ntmps140;go_wp2_with fail;refine HC2.out.mono ?_;rintro e w1 ⟨rfl,hB1⟩;have HB1:=Lib.hid (HB0.out.trans (hB1.mono hw0));clear hB1;go_wp2_with fail;go_ret2;exact⟨by rw[HNF.out,HX.out];rfl,HB1.out⟩
      ·have HX:Hid (formO 1 s.data.toList=some u):=(by show _=_;rw[HF.out,ne0_some hu]);have hupN:0<(bs u).size:=(by rw[bs_size];exact List.length_pos_iff.2 hu);have hup:(0:Int)<((bs u).size:Int):=(by omega);clear hu;go_enter Tryz.func140,Tryz.ntmps140;go_wp2_with fail;refine HC2.out.mono ?_;rintro e w1 ⟨rfl,hB1⟩;have HB1:=Lib.hid (HB0.out.trans (hB1.mono hw0));clear hB1;go_wp2_with fail;go_ret2;exact⟨by rw[HNF.out,HX.out];rfl,HB1.out⟩
    ·have HF:Hid (formO 2 s.data.toList=ne0 (prp.readyO s.data.toList false)):=rfl;have HC:Hid (Calls Tryz.prog 32 #[.string s,.bool false] W0 fun e w'=>e= .returned (prw.pairV (prp.readyO s.data.toList false))∧Below W0.heap.size W0 w'):=prw.rready_any s false W0 (by omega);cases ho:prp.readyO s.data.toList false with
     | none=>rw[ho]at HC HF;rw[show prw.pairV none= .tuple #[.string ⟨#[]⟩,.int .i64 19]from rfl]at HC;clear ho;go_enter Tryz.func140,Tryz.ntmps140;go_wp2_with fail;refine HC.out.mono ?_;rintro e w1 ⟨rfl,hB1⟩;have HB1:=Lib.hid (HB0.out.trans (hB1.mono hw0));clear hB1;go_wp2_with fail;go_ret2;exact⟨by rw[HNF.out,HF.out];rfl,HB1.out⟩
     | some u=>
      rw[ho]at HC HF;have HC2:Hid (Calls Tryz.prog 32 #[.string s,.bool false] W0 fun e w'=>e= .returned (.tuple #[.string (bs u),.int .i64 0])∧Below W0.heap.size W0 w'):=HC;clear HC ho;by_cases hu:u=[]
      ·have hue:((bs u).size:Int)=0:=(by rw[hu];rfl);have HX:Hid (formO 2 s.data.toList=none):=(by show _=_;rw[HF.out,hu];rfl);clear hu;go_enter Tryz.func140,Tryz.ntmps140;go_wp2_with fail;refine HC2.out.mono ?_;rintro e w1 ⟨rfl,hB1⟩;have HB1:=Lib.hid (HB0.out.trans (hB1.mono hw0));clear hB1;go_wp2_with fail;go_ret2;exact⟨by rw[HNF.out,HX.out];rfl,HB1.out⟩
      ·have HX:Hid (formO 2 s.data.toList=some u):=(by show _=_;rw[HF.out,ne0_some hu]);have hupN:0<(bs u).size:=(by rw[bs_size];exact List.length_pos_iff.2 hu);have hup:(0:Int)<((bs u).size:Int):=(by omega);clear hu;go_enter Tryz.func140,Tryz.ntmps140;go_wp2_with fail;refine HC2.out.mono ?_;rintro e w1 ⟨rfl,hB1⟩;have HB1:=Lib.hid (HB0.out.trans (hB1.mono hw0));clear hB1;go_wp2_with fail;go_ret2;exact⟨by rw[HNF.out,HX.out];rfl,HB1.out⟩
    ·have HX:Hid (formO 3 s.data.toList=some s.data.toList):=rfl;go_enter Tryz.func140,Tryz.ntmps140;go_wp2_with fail;go_ret2;exact⟨by rw[HNF.out,HX.out];show _=Ending.returned (.tuple #[.string (bs s.data.toList),.int .i64 0]);rw[bs_of];rfl,HB0.out⟩
    ·have HC:Hid (∀w,Calls Tryz.prog 196 #[.string s] w fun e w'=>e= .returned (.bool (numOK s.data.toList))∧w=w'):=fun w=>rnumber_any s w (by omega);have HF:Hid (formO 4 s.data.toList=if numOK s.data.toList=true then some s.data.toList else none):=rfl;cases hn:numOK s.data.toList with
     | true=>rw[hn]at HC;have HX:Hid (formO 4 s.data.toList=some s.data.toList):=(by show _=_;rw[HF.out,if_pos hn]);clear hn;go_enter Tryz.func140,Tryz.ntmps140;go_wp2_with fail;refine(HC.out _).mono ?_;rintro e w1 ⟨rfl,rfl⟩;go_wp2_with fail;go_ret2;exact⟨by rw[HNF.out,HX.out];show _=Ending.returned (.tuple #[.string (bs s.data.toList),.int .i64 0]);rw[bs_of];rfl,HB0.out⟩
     | false=>rw[hn]at HC;have HX:Hid (formO 4 s.data.toList=none):=(by show _=_;rw[HF.out,if_neg (by rw[hn];simp)]);clear hn;go_enter Tryz.func140,Tryz.ntmps140;go_wp2_with fail;refine(HC.out _).mono ?_;rintro e w1 ⟨rfl,rfl⟩;go_wp2_with fail;go_ret2;exact⟨by rw[HNF.out,HX.out];rfl,HB0.out⟩
    ·have HF:Hid (formO 5 s.data.toList=if s.data.toList=tT∨s.data.toList=tF then some s.data.toList else none):=rfl;by_cases e1:s.data.toList=tT
     ·have q1:(s.toList==[84,82,85,69])=true:=(by rw[Lib.toList_data,e1];rfl);have HX:Hid (formO 5 s.data.toList=some s.data.toList):=(by show _=_;rw[HF.out,if_pos (Or.inl e1)]);clear e1;go_enter Tryz.func140,Tryz.ntmps140;go_wp2_with fail;go_ret2;exact⟨by rw[HNF.out,HX.out];show _=Ending.returned (.tuple #[.string (bs s.data.toList),.int .i64 0]);rw[bs_of];rfl,HB0.out⟩
     ·have q1:(s.toList==[84,82,85,69])=false:=(by rw[Lib.toList_data];simpa[tT]using e1);by_cases e2:s.data.toList=tF
      ·have q2:(s.toList==[70,65,76,83,69])=true:=(by rw[Lib.toList_data,e2];rfl);have HX:Hid (formO 5 s.data.toList=some s.data.toList):=(by show _=_;rw[HF.out,if_pos (Or.inr e2)]);clear e1 e2;go_enter Tryz.func140,Tryz.ntmps140;go_wp2_with fail;go_ret2;exact⟨by rw[HNF.out,HX.out];show _=Ending.returned (.tuple #[.string (bs s.data.toList),.int .i64 0]);rw[bs_of];rfl,HB0.out⟩
      ·have q2:(s.toList==[70,65,76,83,69])=false:=(by rw[Lib.toList_data];simpa[tF]using e2);have HX:Hid (formO 5 s.data.toList=none):=by
        show _=_;rw[HF.out,if_neg];rintro(h | h)
        ·exact e1 h
        ·exact e2 h
       clear e1 e2;go_enter Tryz.func140,Tryz.ntmps140;go_wp2_with fail;go_ret2;exact⟨by rw[HNF.out,HX.out];rfl,HB0.out⟩
    ·have HF:Hid (formO 6 s.data.toList=nameK s.data.toList):=rfl;have HNK:Hid (∃n er,dnw.parseV s=(n,er)∧dnw.nameOK n=true∧((er=0∧nameK s.data.toList=some (joinK (dnw.keysB n)))∨(er=4∧nameK s.data.toList=none))):=by
      show∃n er,_;unfold dnw.parseV nameK;rw[if_neg (by omega)];cases hp:dnw.parseR s.data.toList with
      | none=>exact⟨[],4,rfl,by decide,Or.inr ⟨rfl,rfl⟩⟩
      | some n=>exact⟨n,0,rfl,parseR_ok hp,Or.inl ⟨rfl,rfl⟩⟩
     obtain⟨n,er,hV,hok,hcase⟩:=HNK.out;have HP:Hid (Calls Tryz.prog 95 #[.string s] W0 fun e w'=>Below W0.heap.size W0 w'∧ ∃ao cap,e= .returned (.tuple #[.slice ao n.length cap,.int .i64 er])∧dnw.Rdns w' ao n):=(by refine(dnw.rparse_any s W0 hs).mono fun e w' h=> ?_;have:=dnw.parseE_V h;rw[hV]at this;exact this);have HNL:Hid (n.length≤12):=(by show _≤_;have h9:=hok;unfold dnw.nameOK at h9;rw[Bool.and_eq_true,decide_eq_true_eq]at h9;exact h9.1);have HSM:Hid (∀l∈n,l.length≤4→dnw.Smalls l):=fun l hl _=>name_smalls hok l hl;have HJL:=Lib.hid (joinK_len n hok);have HOKN:=Lib.hid hok;obtain⟨m,hm⟩: ∃m,m=n.length:=⟨_,rfl⟩;rw[←hm]at HP;have hmb:m≤12:=(by rw[hm];exact HNL.out);have HKA:Hid (∀ao cap w,dnw.Rdns w ao n→Calls Tryz.prog 197 #[.slice ao m cap] w fun e w'=>Below w.heap.size w w'∧ ∃ao2 cap2,e= .returned (.tuple #[.slice ao2 m cap2,.int .i64 0])∧tupw.Strs w' ao2 (dnw.keysB n)):=(by intro ao cap w h1;rw[hm];refine(dnw.rkeys_any ao cap n w (Lib.hid h1) (by have:=HNL.out;omega) HSM).mono fun e w' h=> ?_;obtain⟨k1,k2⟩:=h;rw[if_pos HOKN.out]at k2;obtain⟨a,c,e1,_,e2⟩:=k2;exact⟨k1,a,c,e1,e2⟩);have HKL:Hid ((dnw.keysB n).length=m):=(by show _=_;rw[dnw.keysB_len,hm]);generalize dnw.keysB n=ks at HKA HKL HJL hcase;have HCS:=Lib.hid hcase;clear HNK hV hok hm hcase HOKN HSM HNL;go_enter Tryz.func140,Tryz.ntmps140;go_wp2_with fail;refine HP.out.mono ?_;rintro e w1 ⟨hB1,ao,cap,rfl,hR⟩;have HR:=Lib.hid hR;have HB1:=Lib.hid (HB0.out.trans (hB1.mono hw0));clear hR hB1;go_wp2_with fail;refine(HKA.out _ _ _ HR.out).mono ?_;rintro e w2 ⟨hB2,ao2,cap2,rfl,hS⟩;have HS:=Lib.hid hS;have HB2:=Lib.hid (HB1.out.trans (hB2.mono HB1.out.size));clear hB2 hS;have hq:(er==0)=true∧nameK s.data.toList=some (joinK ks)∨(er==0)=false∧nameK s.data.toList=none:=by
      rcases HCS.out with⟨h1,h2⟩ | ⟨h1,h2⟩
      ·exact Or.inl ⟨by rw[h1];rfl,h2⟩
      ·exact Or.inr ⟨by rw[h1];rfl,h2⟩
     rcases hq with⟨q,hnk⟩ | ⟨q,hnk⟩
     all_goals
      have HNK:=Lib.hid hnk;clear hnk;go_wp2_with fail;go_loop [6,14] (fun ov iv=> ∃i:Nat,i≤m∧iv= .int .i64 (i:Int)∧ov= .string (bs (joinK (ks.take i)))) (fun _ iv=>m- (intOf iv).toNat);case atStart=>exact⟨0,Nat.zero_le _,rfl,rfl⟩
      case round=>
       obtain⟨i,hi,rfl,rfl⟩:=hrel;by_cases hlt:i<m
       ·have hltI:(i:Int)<(m:Int):=(by omega);have hik:i<ks.length:=(by rw[HKL.out];exact hlt);obtain⟨b,o,rfl,hc⟩:=HS.out i hik;have hsn:=joinK_snoc ks i hik;have hle1:=joinK_le ks (i+1);rw[hsn,List.length_append,kt.size_len]at hle1;have HSN:=Lib.hid hsn;generalize ks[i]=k at hc HSN hle1;have hcat:bs (joinK (ks.take i))++k=bs (joinK (ks.take (i+1))):=(by rw[HSN.out,←bs_app,bs_of]);have hcb: ¬9223372036854775807<(bs (joinK (ks.take i))).size+k.size:=(by rw[bs_size];have:=HJL.out;omega);clear hsn;go_wp2_with fail;go_round;case rel=>exact⟨i+1,by omega,by go_num,rfl⟩
        case measure=>simp[intOf];omega
       ·obtain rfl:i=m:=(by omega);have hall:ks.take i=ks:=List.take_of_length_le (by rw[HKL.out];exact Nat.le_refl _);rw[hall];clear hall;go_wp2_with fail;go_ret2;exact⟨by rw[HNF.out,HF.out,HNK.out];rfl,HB2.out⟩
    ·have HF:Hid (formO 7 s.data.toList=ne0 (prp.phoneO s.data.toList)):=rfl;have HC:Hid (Calls Tryz.prog 198 #[.string s] W0 fun e w'=>e= .returned (prw.pairV (prp.phoneO s.data.toList))∧Below W0.heap.size W0 w'):=prw.rphone_any s W0 (by omega);cases ho:prp.phoneO s.data.toList with
     | none=>rw[ho]at HC HF;rw[show prw.pairV none= .tuple #[.string ⟨#[]⟩,.int .i64 19]from rfl]at HC;clear ho;go_enter Tryz.func140,Tryz.ntmps140;go_wp2_with fail;refine HC.out.mono ?_;rintro e w1 ⟨rfl,hB1⟩;have HB1:=Lib.hid (HB0.out.trans (hB1.mono hw0));clear hB1;go_wp2_with fail;go_ret2;exact⟨by rw[HNF.out,HF.out];rfl,HB1.out⟩
     | some u=>
      rw[ho]at HC HF;have HC2:Hid (Calls Tryz.prog 198 #[.string s] W0 fun e w'=>e= .returned (.tuple #[.string (bs u),.int .i64 0])∧Below W0.heap.size W0 w'):=HC;clear HC ho;by_cases hu:u=[]
      ·have hue:((bs u).size:Int)=0:=(by rw[hu];rfl);have HX:Hid (formO 7 s.data.toList=none):=(by show _=_;rw[HF.out,hu];rfl);clear hu;go_enter Tryz.func140,Tryz.ntmps140;go_wp2_with fail;refine HC2.out.mono ?_;rintro e w1 ⟨rfl,hB1⟩;have HB1:=Lib.hid (HB0.out.trans (hB1.mono hw0));clear hB1;go_wp2_with fail;go_ret2;exact⟨by rw[HNF.out,HX.out];rfl,HB1.out⟩
      ·have HX:Hid (formO 7 s.data.toList=some u):=(by show _=_;rw[HF.out,ne0_some hu]);have hupN:0<(bs u).size:=(by rw[bs_size];exact List.length_pos_iff.2 hu);have hup:(0:Int)<((bs u).size:Int):=(by omega);clear hu;go_enter Tryz.func140,Tryz.ntmps140;go_wp2_with fail;refine HC2.out.mono ?_;rintro e w1 ⟨rfl,hB1⟩;have HB1:=Lib.hid (HB0.out.trans (hB1.mono hw0));clear hB1;go_wp2_with fail;go_ret2;exact⟨by rw[HNF.out,HX.out];rfl,HB1.out⟩
 ·rw[normL_bad hsy];by_cases hs1:syn<1
  ·clear hsy;go_enter Tryz.func140,Tryz.ntmps140;go_wp2_with fail;go_ret2;exact⟨rfl,HB0.out⟩
  ·have hs7:7<syn:=(by omega);have q1:decide (syn<1)=false:=(by rw[decide_eq_false_iff_not];omega);clear hsy hs1;go_enter Tryz.func140,Tryz.ntmps140;go_wp2_with fail;go_ret2;exact⟨rfl,HB0.out⟩
end atw
open Go.RowKit
namespace atw
open atp
def TB (w:World)(p:Nat)(nm:ByteArray)(syn:Int)(sg:Bool):Prop:=w.heap[p]? =some (.cells #[.string nm,.int .i64 syn,.bool sg] 108 (0,0))
theorem tb_new (w:World)(nm:ByteArray)(syn:Int)(sg:Bool):TB (w.alloc (.cells #[.string nm,.int .i64 syn,.bool sg] 108)) w.heap.size nm syn sg:=heap_alloc_new w _
theorem tb_cells {w:World}{p:Nat}{nm:ByteArray}{syn:Int}{sg:Bool}(h:TB w p nm syn sg):w.cell? ⟨p,0,none⟩=some (.string nm)∧w.cell? ⟨p,1,none⟩=some (.int .i64 syn)∧w.cell? ⟨p,2,none⟩=some (.bool sg):=⟨by rw[Lib.cell_of_heap h];rfl,by rw[Lib.cell_of_heap h];rfl,by rw[Lib.cell_of_heap h];rfl⟩
theorem tb_below {w w':World}{p:Nat}{nm:ByteArray}{syn:Int}{sg:Bool}(h:TB w p nm syn sg)(hb:Below w.heap.size w w'):TB w' p nm syn sg:=(hb.block p (kt.bld_lt h)).trans h
def bothL (syn:Int)(a b:List UInt8):List UInt8 × List UInt8 × Int:=if(normL syn a).2≠0 then([],[],(normL syn a).2)else if(normL syn b).2≠0 then([],[],(normL syn b).2)else((normL syn a).1,(normL syn b).1,0)
def eqL (syn:Int)(a b:List UInt8):Bool × Int:=(decide ((bothL syn a b).2.2=0)&&decide ((bothL syn a b).1=(bothL syn a b).2.1),(bothL syn a b).2.2)
theorem both_any (nm:ByteArray)(syn:Int)(sg:Bool)(a b:ByteArray)(w:World)(ha:a.size≤140737488351232)(hb:b.size≤140737488351232)(hE:Hid (prw.Env w))(hT:Hid (dnw.Tabs w)):
  Calls Tryz.prog 201 #[.agg #[.string nm,.int .i64 syn,.bool sg],.string a,.string b] w fun e w'=>e= .returned (.tuple #[.string (bs (bothL syn a.data.toList b.data.toList).1),.string (bs (bothL syn a.data.toList b.data.toList).2.1),.int .i64 (bothL syn a.data.toList b.data.toList).2.2])∧Below w.heap.size w w':=by
 obtain⟨W0,hW0⟩: ∃W,w.alloc (.cells #[.string nm,.int .i64 syn,.bool sg] 108)=W:=⟨_,rfl⟩;have hB0:Below w.heap.size w W0:=by rw[←hW0];exact(Below.refl _ _).alloc (Nat.le_refl _) _
 have HB0:=Lib.hid hB0;have hw0:w.heap.size≤W0.heap.size:=hB0.size;have HTB0:Hid (TB W0 w.heap.size nm syn sg):=by rw[←hW0];exact tb_new w nm syn sg
 obtain⟨k0,k1,k2⟩:=tb_cells HTB0.out;have HE0:=Lib.hid (prw.env_below hE.out hB0);have HT0:=Lib.hid (dnw.tabs_below hT.out hB0);have HNA:Hid (∀w,prw.Env w→dnw.Tabs w→Calls Tryz.prog 200 #[.agg #[.string nm,.int .i64 syn,.bool sg],.string a] w fun e w'=>e= .returned (normV (normL syn a.data.toList))∧Below w.heap.size w w'):=fun w h1 h2=>normal_any nm syn sg a w ha (Lib.hid h1) (Lib.hid h2);have HNB:Hid (∀w,prw.Env w→dnw.Tabs w→Calls Tryz.prog 200 #[.agg #[.string nm,.int .i64 syn,.bool sg],.string b] w fun e w'=>e= .returned (normV (normL syn b.data.toList))∧Below w.heap.size w w'):=fun w h1 h2=>normal_any nm syn sg b w hb (Lib.hid h1) (Lib.hid h2);unfold bothL;obtain⟨na,hna⟩: ∃u,normL syn a.data.toList=u:=⟨_,rfl⟩;obtain⟨nb,hnb⟩: ∃u,normL syn b.data.toList=u:=⟨_,rfl⟩;rw[hna]at HNA ⊢;rw[hnb]at HNB ⊢;clear hna hnb hB0;obtain⟨u,ea⟩:=na;obtain⟨v,eb⟩:=nb;have HNA2:Hid (∀w,prw.Env w→dnw.Tabs w→Calls Tryz.prog 200 #[.agg #[.string nm,.int .i64 syn,.bool sg],.string a] w fun e w'=>e= .returned (.tuple #[.string (bs u),.int .i64 ea])∧Below w.heap.size w w'):=HNA;have HNB2:Hid (∀w,prw.Env w→dnw.Tabs w→Calls Tryz.prog 200 #[.agg #[.string nm,.int .i64 syn,.bool sg],.string b] w fun e w'=>e= .returned (.tuple #[.string (bs v),.int .i64 eb])∧Below w.heap.size w w'):=HNB;clear HNA HNB;by_cases hea:ea=0
 ·have q:(ea !=0)=false:=by rw[bne_eq_false_iff_eq];exact hea
  rw[if_neg (not_not_intro hea)];clear hea;by_cases heb:eb=0
  ·have q2:(eb !=0)=false:=(by rw[bne_eq_false_iff_eq];exact heb);rw[if_neg (not_not_intro heb)];clear heb;go_enter Tryz.func201,Tryz.ntmps201;go_wp2_with fail;refine(HNA2.out _ HE0.out HT0.out).mono ?_;rintro e w1 ⟨rfl,hB1⟩;have HB1:=Lib.hid (HB0.out.trans (hB1.mono hw0));have HE1:=Lib.hid (prw.env_below HE0.out hB1);have HT1:=Lib.hid (dnw.tabs_below HT0.out hB1);obtain⟨m0,m1,m2⟩:=tb_cells (tb_below HTB0.out hB1);clear hB1 hW0 k0 k1 k2;go_wp2_with fail;refine(HNB2.out _ HE1.out HT1.out).mono ?_;rintro e w2 ⟨rfl,hB2⟩;have HB2:=Lib.hid (HB1.out.trans (hB2.mono HB1.out.size));clear hB2;go_wp2_with fail;go_ret3;exact⟨rfl,HB2.out⟩
  ·have q2:(eb !=0)=true:=(by rw[bne_iff_ne];exact heb);rw[if_pos heb];clear heb;go_enter Tryz.func201,Tryz.ntmps201;go_wp2_with fail;refine(HNA2.out _ HE0.out HT0.out).mono ?_;rintro e w1 ⟨rfl,hB1⟩;have HB1:=Lib.hid (HB0.out.trans (hB1.mono hw0));have HE1:=Lib.hid (prw.env_below HE0.out hB1);have HT1:=Lib.hid (dnw.tabs_below HT0.out hB1);obtain⟨m0,m1,m2⟩:=tb_cells (tb_below HTB0.out hB1);clear hB1 hW0 k0 k1 k2;go_wp2_with fail;refine(HNB2.out _ HE1.out HT1.out).mono ?_;rintro e w2 ⟨rfl,hB2⟩;have HB2:=Lib.hid (HB1.out.trans (hB2.mono HB1.out.size));clear hB2;go_wp2_with fail;go_ret3;exact⟨rfl,HB2.out⟩
 ·have q:(ea !=0)=true:=by rw[bne_iff_ne];exact hea
  rw[if_pos hea];clear hea;go_enter Tryz.func201,Tryz.ntmps201;go_wp2_with fail;refine(HNA2.out _ HE0.out HT0.out).mono ?_;rintro e w1 ⟨rfl,hB1⟩;have HB1:=Lib.hid (HB0.out.trans (hB1.mono hw0));clear hB1 hW0;go_wp2_with fail;go_ret3;exact⟨rfl,HB1.out⟩
theorem equal_any (nm:ByteArray)(syn:Int)(sg:Bool)(a b:ByteArray)(w:World)(ha:a.size≤140737488351232)(hb:b.size≤140737488351232)(hE:Hid (prw.Env w))(hT:Hid (dnw.Tabs w)):
  Calls Tryz.prog 148 #[.agg #[.string nm,.int .i64 syn,.bool sg],.string a,.string b] w fun e w'=>e= .returned (.tuple #[.bool (eqL syn a.data.toList b.data.toList).1,.int .i64 (eqL syn a.data.toList b.data.toList).2])∧Below w.heap.size w w':=by
 obtain⟨W0,hW0⟩: ∃W,w.alloc (.cells #[.string nm,.int .i64 syn,.bool sg] 108)=W:=⟨_,rfl⟩;have hB0:Below w.heap.size w W0:=by rw[←hW0];exact(Below.refl _ _).alloc (Nat.le_refl _) _
 have HB0:=Lib.hid hB0;have hw0:w.heap.size≤W0.heap.size:=hB0.size;have HTB0:Hid (TB W0 w.heap.size nm syn sg):=by rw[←hW0];exact tb_new w nm syn sg
 obtain⟨k0,k1,k2⟩:=tb_cells HTB0.out;have HE0:=Lib.hid (prw.env_below hE.out hB0);have HT0:=Lib.hid (dnw.tabs_below hT.out hB0);have HBO:Hid (∀w,prw.Env w→dnw.Tabs w→Calls Tryz.prog 201 #[.agg #[.string nm,.int .i64 syn,.bool sg],.string a,.string b] w fun e w'=>e= .returned (.tuple #[.string (bs (bothL syn a.data.toList b.data.toList).1),.string (bs (bothL syn a.data.toList b.data.toList).2.1),.int .i64 (bothL syn a.data.toList b.data.toList).2.2])∧Below w.heap.size w w'):=fun w h1 h2=>both_any nm syn sg a b w ha hb (Lib.hid h1) (Lib.hid h2);unfold eqL;generalize bothL syn a.data.toList b.data.toList=bo at HBO ⊢;obtain⟨u,v,er⟩:=bo;simp only at HBO ⊢;have heq:=bs_beq u v;clear hB0;obtain⟨c,hc⟩: ∃c,decide (u=v)=c:=⟨_,rfl⟩;rw[hc]at heq ⊢;clear hc;by_cases her:er=0
 ·have q:(er==0)=true:=by rw[beq_iff_eq];exact her
  rw[decide_eq_true her];clear her;go_enter Tryz.func148,Tryz.ntmps148;go_wp2_with fail;refine(HBO.out _ HE0.out HT0.out).mono ?_;rintro e w1 ⟨rfl,hB1⟩;have HB1:=Lib.hid (HB0.out.trans (hB1.mono hw0));clear hB1 hW0;go_wp2_with fail;go_ret2;exact⟨rfl,HB1.out⟩
 ·have q:(er==0)=false:=by rw[beq_eq_false_iff_ne];exact her
  rw[decide_eq_false her];clear her;go_enter Tryz.func148,Tryz.ntmps148;go_wp2_with fail;refine(HBO.out _ HE0.out HT0.out).mono ?_;rintro e w1 ⟨rfl,hB1⟩;have HB1:=Lib.hid (HB0.out.trans (hB1.mono hw0));clear hB1 hW0;go_wp2_with fail;go_ret2;exact⟨rfl,HB1.out⟩
theorem requal_any (nm:ByteArray)(syn:Int)(sg:Bool)(a b:ByteArray)(w:World)(ha:a.size≤140737488351232)(hb:b.size≤140737488351232):
  Calls Tryz.prog 199 #[.agg #[.string nm,.int .i64 syn,.bool sg],.string a,.string b] w fun e w'=>e= .returned (.tuple #[.bool (eqL syn a.data.toList b.data.toList).1,.int .i64 (eqL syn a.data.toList b.data.toList).2])∧Below w.heap.size w w':=by
 obtain⟨W0,hW0⟩: ∃W,w.alloc (.cells #[.string nm,.int .i64 syn,.bool sg] 108)=W:=⟨_,rfl⟩;have hB0:Below w.heap.size w W0:=by rw[←hW0];exact(Below.refl _ _).alloc (Nat.le_refl _) _
 have HB0:=Lib.hid hB0;have hw0:w.heap.size≤W0.heap.size:=hB0.size;have HTB0:Hid (TB W0 w.heap.size nm syn sg):=by rw[←hW0];exact tb_new w nm syn sg
 obtain⟨k0,k1,k2⟩:=tb_cells HTB0.out;have HNA:Hid (∀w,Calls Tryz.prog 140 #[.agg #[.string nm,.int .i64 syn,.bool sg],.string a] w fun e w'=>e= .returned (normV (normL syn a.data.toList))∧Below w.heap.size w w'):=fun w=>rnormal_any nm syn sg a w ha;have HNB:Hid (∀w,Calls Tryz.prog 140 #[.agg #[.string nm,.int .i64 syn,.bool sg],.string b] w fun e w'=>e= .returned (normV (normL syn b.data.toList))∧Below w.heap.size w w'):=fun w=>rnormal_any nm syn sg b w hb;unfold eqL bothL;obtain⟨na,hna⟩: ∃u,normL syn a.data.toList=u:=⟨_,rfl⟩;obtain⟨nb,hnb⟩: ∃u,normL syn b.data.toList=u:=⟨_,rfl⟩;rw[hna]at HNA ⊢;rw[hnb]at HNB ⊢;clear hna hnb hB0;obtain⟨u,ea⟩:=na;obtain⟨v,eb⟩:=nb;have HNA2:Hid (∀w,Calls Tryz.prog 140 #[.agg #[.string nm,.int .i64 syn,.bool sg],.string a] w fun e w'=>e= .returned (.tuple #[.string (bs u),.int .i64 ea])∧Below w.heap.size w w'):=HNA;have HNB2:Hid (∀w,Calls Tryz.prog 140 #[.agg #[.string nm,.int .i64 syn,.bool sg],.string b] w fun e w'=>e= .returned (.tuple #[.string (bs v),.int .i64 eb])∧Below w.heap.size w w'):=HNB;have heq:=bs_beq u v;obtain⟨c,hc⟩: ∃c,decide (u=v)=c:=⟨_,rfl⟩;rw[hc]at heq;have HC:=Lib.hid hc;clear HNA HNB hc;by_cases hea:ea=0
 ·have q:(ea !=0)=false:=by rw[bne_eq_false_iff_eq];exact hea
  rw[if_neg (not_not_intro hea)];clear hea;by_cases heb:eb=0
  ·have q2:(eb !=0)=false:=(by rw[bne_eq_false_iff_eq];exact heb);rw[if_neg (not_not_intro heb)];clear heb;simp only[HC.out,decide_true,Bool.true_and];go_enter Tryz.func199,Tryz.ntmps199;go_wp2_with fail;refine(HNA2.out _).mono ?_;rintro e w1 ⟨rfl,hB1⟩;have HB1:=Lib.hid (HB0.out.trans (hB1.mono hw0));obtain⟨m0,m1,m2⟩:=tb_cells (tb_below HTB0.out hB1);have HTB1:=Lib.hid (tb_below HTB0.out hB1);clear hB1 hW0 k0 k1 k2;go_wp2_with fail;refine(HNB2.out _).mono ?_;rintro e w2 ⟨rfl,hB2⟩;have HB2:=Lib.hid (HB1.out.trans (hB2.mono HB1.out.size));obtain⟨n0,n1,n2⟩:=tb_cells (tb_below HTB1.out hB2);clear hB2 m0 m1 m2;go_wp2_with fail;go_ret2;exact⟨rfl,HB2.out⟩
  ·have q2:(eb !=0)=true:=(by rw[bne_iff_ne];exact heb);rw[if_pos heb];simp only[decide_eq_false heb,Bool.false_and];clear heb;go_enter Tryz.func199,Tryz.ntmps199;go_wp2_with fail;refine(HNA2.out _).mono ?_;rintro e w1 ⟨rfl,hB1⟩;have HB1:=Lib.hid (HB0.out.trans (hB1.mono hw0));obtain⟨m0,m1,m2⟩:=tb_cells (tb_below HTB0.out hB1);have HTB1:=Lib.hid (tb_below HTB0.out hB1);clear hB1 hW0 k0 k1 k2;go_wp2_with fail;refine(HNB2.out _).mono ?_;rintro e w2 ⟨rfl,hB2⟩;have HB2:=Lib.hid (HB1.out.trans (hB2.mono HB1.out.size));obtain⟨n0,n1,n2⟩:=tb_cells (tb_below HTB1.out hB2);clear hB2 m0 m1 m2;go_wp2_with fail;go_ret2;exact⟨rfl,HB2.out⟩
 ·have q:(ea !=0)=true:=by rw[bne_iff_ne];exact hea
  rw[if_pos hea];simp only[decide_eq_false hea,Bool.false_and];clear hea;go_enter Tryz.func199,Tryz.ntmps199;go_wp2_with fail;refine(HNA2.out _).mono ?_;rintro e w1 ⟨rfl,hB1⟩;have HB1:=Lib.hid (HB0.out.trans (hB1.mono hw0));clear hB1 hW0;go_wp2_with fail;go_ret2;exact⟨rfl,HB1.out⟩
end atw
namespace ord
open Go.Lib
theorem u8_trans {a b c:UInt8}(h:a<b)(k:b<c):a<c:=by have h1:=UInt8.lt_iff_toNat_lt.1 h;have h2:=UInt8.lt_iff_toNat_lt.1 k;exact UInt8.lt_iff_toNat_lt.2 (by omega)
theorem cmp_trans: ∀ {a b c:List UInt8},compareBytes a b= -1→compareBytes b c= -1→compareBytes a c= -1
 | [],[],_,h,_=>by cases h
 | [],_::_,[],_,h=>by cases h
 | [],_::_,_::_,_,_=>rfl
 | _::_,[],_,h,_=>by cases h
 | _::_,_::_,[],_,h=>by cases h
 | a::s,b::t,c::u,h,k=>by
  rcases cmp_cases a b with h1 | h1 | rfl
  ·rcases cmp_cases b c with k1 | k1 | rfl
   ·exact cmp_lt (u8_trans h1 k1) _ _
   ·rw[cmp_gt k1]at k;cases k
   ·exact cmp_lt h1 _ _
  ·rw[cmp_gt h1]at h;cases h
  ·rcases cmp_cases a c with k1 | k1 | rfl
   ·exact cmp_lt k1 _ _
   ·rw[cmp_gt k1]at k;cases k
   ·rw[cmp_same]at h k ⊢;exact cmp_trans h k
end ord
namespace ord
open Go.Lib
theorem less_cmp: ∀a b:List UInt8,Op.bytesLess a b=decide (compareBytes a b= -1)
 | [],[]=>rfl
 | [],_::_=>rfl
 | _::_,[]=>rfl
 | a::s,b::t=>by
  rcases cmp_cases a b with h | h | rfl
  ·rw[cmp_lt h];simp[Op.bytesLess,h]
  ·rw[cmp_gt h];have hn: ¬a<b:=(by intro h';have h1:=UInt8.lt_iff_toNat_lt.1 h;have h2:=UInt8.lt_iff_toNat_lt.1 h';omega);have hne: ¬a=b:=(by rintro rfl;exact absurd (UInt8.lt_iff_toNat_lt.1 h) (by omega));simp[Op.bytesLess,hn,hne]
  ·rw[cmp_same,←less_cmp s t];simp[Op.bytesLess]
theorem cmp_zero: ∀a b:List UInt8,compareBytes a b=0↔a=b
 | [],[]=>by simp[compareBytes]
 | [],_::_=>by simp[compareBytes]
 | _::_,[]=>by simp[compareBytes]
 | a::s,b::t=>by
  rcases cmp_cases a b with h | h | rfl
  ·rw[cmp_lt h];have:a≠b:=(by rintro rfl;exact absurd (UInt8.lt_iff_toNat_lt.1 h) (by omega));simp[this]
  ·rw[cmp_gt h];have:a≠b:=(by rintro rfl;exact absurd (UInt8.lt_iff_toNat_lt.1 h) (by omega));simp[this]
  ·rw[cmp_same,cmp_zero s t];simp
theorem ways (a b:ByteArray):
  (compareBytes a.data.toList b.data.toList= -1∧Op.bytesLess a.toList b.toList=true∧(a.toList==b.toList)=false∧Op.bytesLess b.toList a.toList=false)∨
  (compareBytes a.data.toList b.data.toList=0∧a=b)∨
  (compareBytes a.data.toList b.data.toList=1∧Op.bytesLess a.toList b.toList=false∧(a.toList==b.toList)=false∧Op.bytesLess b.toList a.toList=true):=by
 rw[Lib.toList_data,Lib.toList_data,less_cmp,less_cmp,cmp_neg a.data.toList b.data.toList];rcases cmp_three a.data.toList b.data.toList with h | h | h
 ·left;refine⟨h,by rw[h];rfl,?_,by rw[h];rfl⟩;rw[beq_eq_false_iff_ne];intro e;have:=(cmp_zero _ _).2 e;omega
 ·right;left;refine⟨h,?_⟩;have e:=(cmp_zero _ _).1 h;cases a;cases b;simp at e;simp[e]
 ·right;right;refine⟨h,by rw[h];rfl,?_,by rw[h];rfl⟩;rw[beq_eq_false_iff_ne];intro e;have:=(cmp_zero _ _).2 e;omega
end ord
namespace atp
open atw
theorem both_ok {syn:Int}{a b:List UInt8}(ha:(normL syn a).2=0)(hb:(normL syn b).2=0):bothL syn a b=((normL syn a).1,(normL syn b).1,0):=by unfold bothL;rw[if_neg (not_not_intro ha),if_neg (not_not_intro hb)]
theorem both_err {syn:Int}{a b:List UInt8}:(bothL syn a b).2.2=0↔(normL syn a).2=0∧(normL syn b).2=0:=by
 unfold bothL;by_cases ha:(normL syn a).2=0
 ·by_cases hb:(normL syn b).2=0
  ·rw[if_neg (not_not_intro ha),if_neg (not_not_intro hb)];exact⟨fun _=>⟨ha,hb⟩,fun _=>rfl⟩
  ·rw[if_neg (not_not_intro ha),if_pos hb];exact⟨fun h=>absurd h hb,fun h=>absurd h.2 hb⟩
 ·rw[if_pos ha];exact⟨fun h=>absurd h ha,fun h=>absurd h.1 ha⟩
theorem eq_ok {syn:Int}{a b:List UInt8}(ha:(normL syn a).2=0)(hb:(normL syn b).2=0):eqL syn a b=(decide ((normL syn a).1=(normL syn b).1),0):=by unfold eqL;rw[both_ok ha hb];rfl
end atp
namespace etp
open atp atw
structure At where
 t:ByteArray
 vs:List ByteArray
structure En where
 rdn:List dnw.Av
 ats:List At
def okV (syn:Int)(v:ByteArray):Bool:=decide ((normL syn v.data.toList).2=0)
def nv (syn:Int)(v:ByteArray):List UInt8:=(normL syn v.data.toList).1
def alike (syn:Int)(a b:ByteArray):Bool:=(eqL syn a.data.toList b.data.toList).1
theorem alike_iff {syn:Int}{a b:ByteArray}:alike syn a b=true↔okV syn a=true∧okV syn b=true∧nv syn a=nv syn b:=by
 unfold alike okV nv;rw[decide_eq_true_iff,decide_eq_true_iff];by_cases ha:(normL syn a.data.toList).2=0
 ·by_cases hb:(normL syn b.data.toList).2=0
  ·rw[eq_ok ha hb,decide_eq_true_iff];exact⟨fun h=>⟨ha,hb,h⟩,fun h=>h.2.2⟩
  ·refine⟨fun h=> ?_,fun h=>absurd h.2.1 hb⟩;unfold eqL at h;rw[Bool.and_eq_true,decide_eq_true_iff]at h;exact absurd (both_err.1 h.1).2 hb
 ·refine⟨fun h=> ?_,fun h=>absurd h.1 ha⟩;unfold eqL at h;rw[Bool.and_eq_true,decide_eq_true_iff]at h;exact absurd (both_err.1 h.1).1 ha
theorem alike_err {syn:Int}{a b:ByteArray}(h:alike syn a b=true):(eqL syn a.data.toList b.data.toList).2=0:=by unfold alike eqL at h;rw[Bool.and_eq_true,decide_eq_true_iff]at h;exact h.1
theorem alike_self {syn:Int}{a:ByteArray}(h:okV syn a=true):alike syn a a=true:=alike_iff.2 ⟨h,h,rfl⟩
def likeN (syn:Int)(l:List ByteArray)(v:ByteArray):Option Nat:=l.findIdx? fun x=>alike syn x v
def likeI (syn:Int)(l:List ByteArray)(v:ByteArray):Int:=match likeN syn l v with
 | some i=>(i:Int)
 | none=> -1
theorem likeI_neg {syn:Int}{l:List ByteArray}{v:ByteArray}:likeI syn l v<0↔likeN syn l v=none:=by
 unfold likeI;cases likeN syn l v with
 | none=>simp
 | some i=>simp
theorem likeN_none {syn:Int}{l:List ByteArray}{v:ByteArray}:likeN syn l v=none↔ ∀x∈l,alike syn x v=false:=by unfold likeN;rw[List.findIdx?_eq_none_iff]
theorem likeI_hit {syn:Int}{l:List ByteArray}{v:ByteArray}{i:Nat}(hi:i<l.length)(h1:alike syn l[i] v=true)(h2: ∀j (hj:j<l.length),j<i→alike syn l[j] v=false):likeI syn l v=(i:Int):=by
 have:likeN syn l v=some i:=by unfold likeN;rw[List.findIdx?_eq_some_iff_getElem];exact⟨hi,h1,fun j hj=>by simpa using h2 j (by omega) hj⟩
 unfold likeI;rw[this]
theorem likeI_none {syn:Int}{l:List ByteArray}{v:ByteArray}(h: ∀j (hj:j<l.length),alike syn l[j] v=false):likeI syn l v= -1:=by
 have:likeN syn l v=none:=by rw[likeN_none];intro x hx;obtain⟨j,hj,rfl⟩:=List.mem_iff_getElem.1 hx;exact h j hj
 unfold likeI;rw[this]
def fresh (syn:Int):List ByteArray→List ByteArray→Bool
 | _,[]=>true
 | p,v::r=>okV syn v&&decide (likeI syn p v<0)&&fresh syn (p++[v]) r
theorem fresh_iff {syn:Int}: ∀ (vs p:List ByteArray),(∀x∈p,okV syn x=true)→(p.map (nv syn)).Nodup→(fresh syn p vs=true↔(∀v∈vs,okV syn v=true)∧((p++vs).map (nv syn)).Nodup)
 | [],p,h1,h2=>by simp only[fresh,List.append_nil,true_iff];exact⟨fun v hv=>(by cases hv),h2⟩
 | v::r,p,h1,h2=>by
  rw[fresh,Bool.and_eq_true,Bool.and_eq_true,decide_eq_true_iff,likeI_neg,likeN_none];have key:okV syn v=true→((∀x∈p,alike syn x v=false)↔nv syn v∉p.map (nv syn)):=by
   intro hv;constructor
   ·intro h hm;obtain⟨x,hx,e⟩:=List.mem_map.1 hm;have:=h x hx;rw[alike_iff.2 ⟨h1 x hx,hv,e⟩]at this;cases this
   ·intro h x hx;rw[Bool.eq_false_iff];intro ha;exact h (List.mem_map.2 ⟨x,hx,(alike_iff.1 ha).2.2⟩)
  have ass:p++v::r=(p++[v])++r:=by simp
  constructor
  ·rintro⟨⟨hv,hl⟩,hf⟩;have hn:((p++[v]).map (nv syn)).Nodup:=(by rw[List.map_append,List.nodup_append];refine⟨h2,by simp,?_⟩;intro a ha b hb e;simp only[List.map_cons,List.map_nil,List.mem_singleton]at hb;subst hb;subst e;exact(key hv).1 hl ha);have ih:=(fresh_iff r (p++[v]) (by
    intro x hx;rcases List.mem_append.1 hx with h | h
    ·exact h1 x h
    ·rw[List.mem_singleton]at h;rw[h];exact hv) hn).1 hf
   refine⟨fun u hu=> ?_,by rw[ass];exact ih.2⟩;rcases List.mem_cons.1 hu with rfl | hu
   ·exact hv
   ·exact ih.1 u hu
  ·rintro⟨ho,hn⟩;have hv:=ho v (by simp);rw[ass,List.map_append,List.nodup_append]at hn;obtain⟨hn1,hn2,hn3⟩:=hn;have hn1':=hn1;rw[List.map_append,List.nodup_append]at hn1';refine⟨⟨hv,(key hv).2 fun hm=>hn1'.2.2 _ hm _ (by simp) rfl⟩,?_⟩;refine(fresh_iff r (p++[v]) ?_ hn1).2 ⟨fun u hu=>ho u (by simp[hu]),?_⟩
   ·intro x hx;rcases List.mem_append.1 hx with h | h
    ·exact h1 x h
    ·rw[List.mem_singleton]at h;rw[h];exact hv
   ·rw[List.map_append,List.nodup_append];exact⟨hn1,hn2,hn3⟩
def mostT (single:Bool):Nat:=if single then 1 else 20
def valsOK (t:Ty)(vs:List ByteArray):Bool:=decide (1≤vs.length)&&decide (vs.length≤mostT t.single)&&fresh t.syn [] vs
def faultI (syn:Int):List ByteArray→Int
 | []=>0
 | v::r=>if(normL syn v.data.toList).2≠0 then(normL syn v.data.toList).2 else faultI syn r
theorem fault_zero {syn:Int}: ∀l:List ByteArray,faultI syn l=0↔ ∀v∈l,okV syn v=true
 | []=>by simp[faultI]
 | v::r=>by
  unfold faultI;by_cases h:(normL syn v.data.toList).2=0
  ·rw[if_neg (not_not_intro h),fault_zero r];constructor
   ·intro h1 u hu;rcases List.mem_cons.1 hu with rfl | hu
    ·exact decide_eq_true h
    ·exact h1 u hu
   ·exact fun h1 u hu=>h1 u (by simp[hu])
  ·rw[if_pos h];exact⟨fun h1=>absurd h1 h,fun h1=>absurd (of_decide_eq_true (h1 v (by simp))) h⟩
def tyOf (t:ByteArray):Option Ty:=findS t.data.toList
theorem tys_low: ∀j:Fin 20,sml.lowL (tys[j.val]'(j.isLt)).name=(tys[j.val]'(j.isLt)).name:=by decide+kernel
theorem low_name {t:Ty}(h:t∈tys):sml.lowL t.name=t.name:=by obtain⟨i,hi,rfl⟩:=List.mem_iff_getElem.1 h;exact tys_low ⟨i,hi⟩
theorem find_low {n:List UInt8}{ty:Ty}:(findS (sml.lowL n)=some ty∧ty.name=n)↔findS n=some ty:=by
 constructor
 ·rintro⟨h,rfl⟩;have:=(findS_some h).1;rw[low_name this]at h;exact h
 ·intro h;obtain⟨h1,rfl⟩:=findS_some h;rw[low_name h1];exact⟨h,rfl⟩
def atOK (a:At):Bool:=match tyOf a.t with
 | none=>false
 | some ty=>valsOK ty a.vs
def ltB (a b:ByteArray):Bool:=decide (Lib.compareBytes a.data.toList b.data.toList= -1)
def atsF:Option ByteArray→List At→Bool
 | _,[]=>true
 | p,a::r=>atOK a&&(match p with
  | none=>true
  | some q=>ltB q a.t)&&atsF (some a.t) r
def rightE (e:En):Bool:=dnw.rdnOK e.rdn&&atsF none e.ats
def valsA (ats:List At)(n:ByteArray):List ByteArray:=match ats.find? fun a=>decide (a.t=n)with
 | some a=>a.vs
 | none=>[]
def withF (n:ByteArray)(l:List ByteArray):Bool→List At→List At
 | done,[]=>if done then[]else[⟨n,l⟩]
 | done,a::r=>
  let put:= !done&& !ltB a.t n
  let here:List At:=if put then[⟨n,l⟩]else[]
  let stays:List At:=if a.t=n then[]else[a]
  here++stays++withF n l (done||put) r
def withE (e:En)(n:ByteArray)(l:List ByteArray):En:=⟨e.rdn,withF n l (decide (l=[])) e.ats⟩
def joinF (syn:Int):List ByteArray→List ByteArray→Option (List ByteArray)
 | all,[]=>some all
 | all,v::r=>if likeI syn all v<0 then joinF syn (all++[v]) r else none
def dropF (syn:Int):List ByteArray→List ByteArray→Option (List ByteArray)
 | left,[]=>some left
 | left,v::r=>match likeN syn left v with
  | none=>none
  | some k=>dropF syn (left.take k++left.drop (k+1)) r
end etp
namespace etp
open atp atw
theorem bytes_inj {a b:ByteArray}(h:a.data.toList=b.data.toList):a=b:=kt.str_eq h
theorem ltB_trans {a b c:ByteArray}(h1:ltB a b=true)(h2:ltB b c=true):ltB a c=true:=by unfold ltB at*;rw[decide_eq_true_iff]at*;exact ord.cmp_trans h1 h2
theorem ltB_irr (a:ByteArray):ltB a a=false:=by unfold ltB;rw[decide_eq_false_iff_not,(ord.cmp_zero _ _).2 rfl];decide
theorem ltB_ne {a b:ByteArray}(h:ltB a b=true):a≠b:=by rintro rfl;rw[ltB_irr]at h;cases h
theorem ltB_asym {a b:ByteArray}(h:ltB a b=true):ltB b a=false:=by rw[Bool.eq_false_iff];intro h2;have:=ltB_trans h h2;rw[ltB_irr]at this;cases this
theorem ltB_three (a b:ByteArray):ltB a b=true∨a=b∨ltB b a=true:=by
 rcases ord.cmp_three a.data.toList b.data.toList with h | h | h
 ·exact Or.inl (decide_eq_true h)
 ·exact Or.inr (Or.inl (bytes_inj ((ord.cmp_zero _ _).1 h)))
 ·refine Or.inr (Or.inr (decide_eq_true ?_));rw[ord.cmp_neg,h]
theorem atsF_iff: ∀ (L:List At) (p:Option ByteArray),atsF p L=true↔(∀a∈L,atOK a=true)∧L.Pairwise (fun a b=>ltB a.t b.t=true)∧(∀q,p=some q→ ∀a∈L,ltB q a.t=true)
 | [],p=>by simp[atsF]
 | a::r,p=>by
  unfold atsF;rw[Bool.and_eq_true,Bool.and_eq_true,atsF_iff r (some a.t),List.pairwise_cons];constructor
  ·rintro⟨⟨h1,h2⟩,h3,h4,h5⟩;have hq: ∀q,p=some q→ltB q a.t=true:=(by rintro q rfl;exact h2);refine⟨fun b hb=> ?_,⟨fun b hb=>h5 _ rfl b hb,h4⟩,fun q hp b hb=> ?_⟩
   ·rcases List.mem_cons.1 hb with rfl | hb
    ·exact h1
    ·exact h3 b hb
   ·rcases List.mem_cons.1 hb with rfl | hb
    ·exact hq q hp
    ·exact ltB_trans (hq q hp) (h5 _ rfl b hb)
  ·rintro⟨h1,⟨h2,h3⟩,h4⟩;refine⟨⟨h1 a (by simp),?_⟩,fun b hb=>h1 b (by simp[hb]),h3,fun q hq b hb=> ?_⟩
   ·cases p with
    | none=>rfl
    | some q=>exact h4 q rfl a (by simp)
   ·cases hq;exact h2 b hb
structure Part (n:ByteArray)(L lo mid hi:List At):Prop where
 eq:L=lo++(mid++hi)
 lo: ∀a∈lo,ltB a.t n=true
 hi: ∀a∈hi,ltB n a.t=true
 mid:mid=[]∨ ∃v,mid=[⟨n,v⟩]
theorem part_of (n:ByteArray): ∀ (L:List At) (p:Option ByteArray),atsF p L=true→ ∃lo mid hi,Part n L lo mid hi
 | [],_,_=>⟨[],[],[],⟨rfl,by simp,by simp,Or.inl rfl⟩⟩
 | a::r,p,h=>by
  obtain⟨h1,h2,h3⟩:=(atsF_iff _ _).1 h;rw[List.pairwise_cons]at h2;rcases ltB_three a.t n with hl | he | hg
  ·have hr:atsF (some a.t) r=true:=(atsF_iff _ _).2 ⟨fun b hb=>h1 b (by simp[hb]),h2.2,fun q hq b hb=>by cases hq;exact h2.1 b hb⟩;obtain⟨lo,mid,hi,hp⟩:=part_of n r (some a.t) hr;refine⟨a::lo,mid,hi,⟨by rw[hp.eq];rfl,fun b hb=> ?_,hp.hi,hp.mid⟩⟩;rcases List.mem_cons.1 hb with rfl | hb
   ·exact hl
   ·exact hp.lo b hb
  ·refine⟨[],[a],r,⟨rfl,by simp,fun b hb=> ?_,Or.inr ⟨a.vs,?_⟩⟩⟩
   ·rw[←he];exact h2.1 b hb
   ·cases a;cases he;rfl
  ·refine⟨[],[],a::r,⟨rfl,by simp,fun b hb=> ?_,Or.inl rfl⟩⟩;rcases List.mem_cons.1 hb with rfl | hb
   ·exact hg
   ·exact ltB_trans hg (h2.1 b hb)
theorem withF_hi (n:ByteArray)(l:List ByteArray): ∀hi:List At,(∀a∈hi,ltB n a.t=true)→withF n l true hi=hi
 | [],_=>rfl
 | a::r,h=>by have ha:=h a (by simp);show(if(!true&& !ltB a.t n)=true then[⟨n,l⟩]else[])++(if a.t=n then[]else[a])++withF n l (true||(!true&& !ltB a.t n)) r=_;rw[if_neg (by simp),if_neg (fun e=>ltB_ne ha e.symm),Bool.true_or,withF_hi n l r (fun b hb=>h b (by simp[hb]))];rfl
theorem withF_put (n:ByteArray)(l:List ByteArray)(hi:List At)(h: ∀a∈hi,ltB n a.t=true):withF n l false hi=⟨n,l⟩::hi:=by
 cases hi with
 | nil=>rfl
 | cons a r=>have ha:=h a (by simp);have hf:ltB a.t n=false:=ltB_asym ha;show(if(!false&& !ltB a.t n)=true then[⟨n,l⟩]else[])++(if a.t=n then[]else[a])++withF n l (false||(!false&& !ltB a.t n)) r=_;rw[hf,if_pos (by simp),if_neg (fun e=>ltB_ne ha e.symm)];rw[show(false||(!false&& !false))=true from rfl,withF_hi n l r (fun b hb=>h b (by simp[hb]))];rfl
theorem withF_lo (n:ByteArray)(l:List ByteArray)(d:Bool): ∀ (lo L:List At),(∀a∈lo,ltB a.t n=true)→withF n l d (lo++L)=lo++withF n l d L
 | [],L,_=>rfl
 | a::r,L,h=>by have ha:=h a (by simp);show(if(!d&& !ltB a.t n)=true then[⟨n,l⟩]else[])++(if a.t=n then[]else[a])++withF n l (d||(!d&& !ltB a.t n)) (r++L)=_;rw[ha,if_neg (by simp),if_neg (ltB_ne ha)];rw[show(d||(!d&& !true))=d by cases d<;>rfl,withF_lo n l d r L (fun b hb=>h b (by simp[hb]))];rfl
theorem withF_mid (n:ByteArray)(l:List ByteArray)(d:Bool){mid hi:List At}(hm:mid=[]∨ ∃v,mid=[⟨n,v⟩])(h: ∀a∈hi,ltB n a.t=true):withF n l d (mid++hi)=if d then hi else⟨n,l⟩::hi:=by
 rcases hm with rfl | ⟨v,rfl⟩
 ·cases d with
  | true=>exact withF_hi n l hi h
  | false=>exact withF_put n l hi h
 ·show(if(!d&& !ltB n n)=true then[⟨n,l⟩]else[])++(if n=n then[]else[⟨n,v⟩])++withF n l (d||(!d&& !ltB n n)) hi=_;rw[ltB_irr,if_pos rfl];rw[show(d||(!d&& !false))=true by cases d<;>rfl,withF_hi n l hi h];cases d<;>rfl
theorem with_part {n:ByteArray}{L lo mid hi:List At}(h:Part n L lo mid hi)(l:List ByteArray)(d:Bool):withF n l d L=lo++((if d then[]else[⟨n,l⟩])++hi):=by rw[h.eq,withF_lo n l d lo _ h.lo,withF_mid n l d h.mid h.hi];cases d<;>rfl
theorem part_with {n:ByteArray}{L lo mid hi:List At}(h:Part n L lo mid hi)(l:List ByteArray)(d:Bool):Part n (withF n l d L) lo (if d then[]else[⟨n,l⟩]) hi:=⟨with_part h l d,h.lo,h.hi,by cases d;exact Or.inr ⟨l,rfl⟩;exact Or.inl rfl⟩
def midV:List At→List ByteArray
 | []=>[]
 | a::_=>a.vs
theorem vals_part {n:ByteArray}{L lo mid hi:List At}(h:Part n L lo mid hi):valsA L n=midV mid:=by
 obtain⟨he,hlo,hhi,hmid⟩:=h;subst he;unfold valsA;rw[List.find?_append,List.find?_eq_none.2 (by intro a ha;simpa using ltB_ne (hlo a ha))];rcases hmid with rfl | ⟨v,rfl⟩
 ·rw[List.nil_append,List.find?_eq_none.2 (by intro a ha;simpa using(ltB_ne (hhi a ha)).symm)];rfl
 ·simp[midV]
theorem with_right {n:ByteArray}{L:List At}(h:atsF none L=true){l:List ByteArray}{d:Bool}(hl:d=false→atOK ⟨n,l⟩=true):atsF none (withF n l d L)=true:=by
 obtain⟨lo,mid,hi,hp⟩:=part_of n L none h;obtain⟨h1,h2,_⟩:=(atsF_iff _ _).1 h;rw[with_part hp l d];rw[hp.eq]at h1 h2;rw[List.pairwise_append,List.pairwise_append]at h2;obtain⟨a1,⟨a2,a3,a4⟩,a5⟩:=h2;refine(atsF_iff _ _).2 ⟨?_,?_,by simp⟩
 ·intro a ha;rcases List.mem_append.1 ha with ha | ha
  ·exact h1 a (by simp[ha])
  ·rcases List.mem_append.1 ha with ha | ha
   ·cases d with
    | true=>cases ha
    | false=>rw[if_neg (by simp),List.mem_singleton]at ha;subst ha;exact hl rfl
   ·exact h1 a (by simp[ha])
 ·rw[List.pairwise_append,List.pairwise_append];refine⟨a1,⟨?_,a3,?_⟩,?_⟩
  ·cases d<;>simp
  ·intro x hx y hy;cases d with
   | true=>cases hx
   | false=>rw[if_neg (by simp),List.mem_singleton]at hx;subst hx;exact hp.hi y hy
  ·intro x hx y hy;rcases List.mem_append.1 hy with hy | hy
   ·cases d with
    | true=>cases hy
    | false=>rw[if_neg (by simp),List.mem_singleton]at hy;subst hy;exact hp.lo x hx
   ·exact a5 x hx y (by simp[hy])
theorem with_back {n:ByteArray}{L:List At}(h:atsF none L=true)(l:List ByteArray):withF n (valsA L n) (decide (valsA L n=[])) (withF n l false L)=L:=by
 obtain⟨lo,mid,hi,hp⟩:=part_of n L none h;obtain⟨h1,_,_⟩:=(atsF_iff _ _).1 h;rw[with_part (part_with hp l false),vals_part hp];conv=>rhs;rw[hp.eq]
 rcases hp.mid with rfl | ⟨v,rfl⟩
 ·rfl
 ·show lo++((if decide (v=[])then[]else[⟨n,v⟩])++hi)=_;have hv:v≠[]:=by
   rintro rfl;have:=h1 ⟨n,[]⟩ (by rw[hp.eq];simp);unfold atOK at this;cases hty:tyOf n with
   | none=>rw[hty]at this;cases this
   | some ty=>rw[hty]at this;simp[valsOK]at this
  simp[hv]
theorem join_fresh {syn:Int}: ∀ (l p:List ByteArray),(∀v∈l,okV syn v=true)→joinF syn p l=if fresh syn p l=true then some (p++l)else none
 | [],p,_=>by simp[joinF,fresh]
 | v::r,p,h=>by
  unfold joinF fresh;rw[h v (by simp),Bool.true_and];by_cases hl:likeI syn p v<0
  ·rw[if_pos hl,join_fresh r (p++[v]) (fun u hu=>h u (by simp[hu])),decide_eq_true hl,Bool.true_and,List.append_assoc];rfl
  ·rw[if_neg hl,decide_eq_false hl,Bool.false_and,if_neg (by simp)]
theorem drop_back {syn:Int}: ∀ (l p:List ByteArray),(∀v∈p++l,okV syn v=true)→((p++l).map (nv syn)).Nodup→dropF syn (p++l) l=some p
 | [],p,_,_=>by simp[dropF]
 | v::r,p,h,hn=>by
  have hv:likeN syn (p++v::r) v=some p.length:=by
   unfold likeN;rw[List.findIdx?_eq_some_iff_getElem];refine⟨by simp,?_,fun j hj=> ?_⟩
   ·rw[List.getElem_append_right (Nat.le_refl _)];simp only[Nat.sub_self,List.getElem_cons_zero];exact alike_self (h v (by simp))
   ·rw[List.getElem_append_left hj];have hne:nv syn p[j]≠nv syn v:=(by rw[List.map_append,List.nodup_append]at hn;exact hn.2.2 _ (List.mem_map.2 ⟨p[j],List.getElem_mem _,rfl⟩) _ (by simp));intro ha;exact hne (alike_iff.1 ha).2.2
  unfold dropF;rw[hv];have e:(p++v::r).take p.length++(p++v::r).drop (p.length+1)=p++r:=by rw[List.take_left,show p++v::r=(p++[v])++r by simp,show p.length+1=(p++[v]).length by simp,List.drop_left]
  simp only;rw[e];refine drop_back r p (fun u hu=>h u ?_) ?_
  ·rcases List.mem_append.1 hu with hu | hu
   ·exact List.mem_append_left _ hu
   ·exact List.mem_append_right _ (List.mem_cons_of_mem _ hu)
  ·have hs:(p++r).Sublist (p++v::r):=List.Sublist.append_left (List.sublist_cons_self v r) p;exact hn.sublist (hs.map _)
end etp
namespace etp
open atp atw
def findE (e:En)(n:List UInt8):Except Int Ty:=
 if rightE e=false then .error 4 else match findS (sml.lowL n)with
  | none=> .error 14
  | some ty=> .ok ty
def addE (e:En)(n:List UInt8)(l:List ByteArray):Except Int En:=
 match findE e n with
 | .error f=> .error f
 | .ok ty=>if l=[]then .error 1 else if faultI ty.syn l≠0 then .error (faultI ty.syn l)else match joinF ty.syn (valsA e.ats (bs ty.name)) l with
  | none=> .error 8
  | some all=>if mostT ty.single<all.length then .error 9 else .ok (withE e (bs ty.name) all)
def removeE (e:En)(n:List UInt8)(l:List ByteArray):Except Int En:=
 match findE e n with
 | .error f=> .error f
 | .ok ty=>if faultI ty.syn l≠0 then .error (faultI ty.syn l)else if valsA e.ats (bs ty.name)=[]then .error 7 else match dropF ty.syn (valsA e.ats (bs ty.name)) l with
  | none=> .error 7
  | some left=> .ok (withE e (bs ty.name) (if l=[]then[]else left))
def hasE (e:En)(n:List UInt8)(v:ByteArray):Bool:=match findS (sml.lowL n)with
 | none=>false
 | some ty=>rightE e&&decide (0≤likeI ty.syn (valsA e.ats (bs ty.name)) v)
theorem findE_ok {e:En}{n:List UInt8}{ty:Ty}(h:findE e n= .ok ty):rightE e=true∧findS (sml.lowL n)=some ty:=by
 unfold findE at h;by_cases hr:rightE e=false
 ·rw[if_pos hr]at h;cases h
 ·rw[if_neg hr]at h;cases hf:findS (sml.lowL n)with
  | none=>rw[hf]at h;cases h
  | some t=>rw[hf]at h;cases h;exact⟨by simpa using hr,rfl⟩
theorem findE_of {e:En}{n:List UInt8}{ty:Ty}(h1:rightE e=true)(h2:findS (sml.lowL n)=some ty):findE e n= .ok ty:=by unfold findE;rw[if_neg (by rw[h1];simp),h2]
theorem ty_self {n:List UInt8}{ty:Ty}(h:findS n=some ty):tyOf (bs ty.name)=some ty:=by unfold tyOf;rw[bs_data,(findS_some h).2];exact h
theorem right_iff {e:En}:rightE e=true↔dnw.rdnOK e.rdn=true∧atsF none e.ats=true:=by unfold rightE;rw[Bool.and_eq_true]
theorem vals_ok {L:List At}{ty:Ty}{n:List UInt8}(h:atsF none L=true)(hf:findS n=some ty):(∀v∈valsA L (bs ty.name),okV ty.syn v=true)∧((valsA L (bs ty.name)).map (nv ty.syn)).Nodup:=by
 obtain⟨lo,mid,hi,hp⟩:=part_of (bs ty.name) L none h;rw[vals_part hp];rcases hp.mid with rfl | ⟨v,rfl⟩
 ·exact⟨fun v hv=>(by cases hv),List.nodup_nil⟩
 ·have h1:=((atsF_iff _ _).1 h).1 ⟨bs ty.name,v⟩ (by rw[hp.eq];simp);unfold atOK at h1;rw[show tyOf (⟨bs ty.name,v⟩:At).t=some ty from ty_self hf]at h1;simp only[valsOK,Bool.and_eq_true]at h1;have:=(fresh_iff v [] (by simp) List.nodup_nil).1 h1.2;simpa[midV]using this
theorem atOK_of {ty:Ty}{n:List UInt8}{l:List ByteArray}(hf:findS n=some ty)(h1:l≠[])(h2:l.length≤mostT ty.single)(h3: ∀v∈l,okV ty.syn v=true)(h4:(l.map (nv ty.syn)).Nodup):atOK ⟨bs ty.name,l⟩=true:=by unfold atOK;rw[show tyOf (⟨bs ty.name,l⟩:At).t=some ty from ty_self hf];show valsOK ty l=true;unfold valsOK;rw[Bool.and_eq_true,Bool.and_eq_true,decide_eq_true_iff,decide_eq_true_iff];exact⟨⟨List.length_pos_iff.2 h1,h2⟩,(fresh_iff l [] (by simp) List.nodup_nil).2 ⟨h3,by simpa using h4⟩⟩
theorem add_ok {e a:En}{n:List UInt8}{l:List ByteArray}(h:addE e n l= .ok a): ∃ty,rightE e=true∧findS (sml.lowL n)=some ty∧l≠[]∧(∀v∈l,okV ty.syn v=true)∧
  ((valsA e.ats (bs ty.name)++l).map (nv ty.syn)).Nodup∧(valsA e.ats (bs ty.name)++l).length≤mostT ty.single∧a=withE e (bs ty.name) (valsA e.ats (bs ty.name)++l):=by
 unfold addE at h;cases hf:findE e n with
 | error f=>rw[hf]at h;cases h
 | ok ty=>
  rw[hf]at h;obtain⟨h1,h2⟩:=findE_ok hf;simp only at h;by_cases hl:l=[]
  ·rw[if_pos hl]at h;cases h
  ·rw[if_neg hl]at h;by_cases hz:faultI ty.syn l=0
   ·rw[if_neg (not_not_intro hz)]at h;have hok:=(fault_zero l).1 hz;rw[join_fresh l _ hok]at h;by_cases hfr:fresh ty.syn (valsA e.ats (bs ty.name)) l=true
    ·rw[if_pos hfr]at h;simp only at h;by_cases hm:mostT ty.single<(valsA e.ats (bs ty.name)++l).length
     ·rw[if_pos hm]at h;cases h
     ·rw[if_neg hm]at h;cases h;obtain⟨o1,o2⟩:=vals_ok (right_iff.1 h1).2 h2;exact⟨ty,h1,h2,hl,hok,((fresh_iff l _ o1 o2).1 hfr).2,by omega,rfl⟩
    ·rw[if_neg hfr]at h;cases h
   ·rw[if_pos hz]at h;cases h
theorem withE_false {e:En}{n:ByteArray}{l:List ByteArray}(h:l≠[]):withE e n l=⟨e.rdn,withF n l false e.ats⟩:=by unfold withE;rw[decide_eq_false h]
theorem app_ne {α:Type}{p l:List α}(h:l≠[]):p++l≠[]:=fun e=>h (List.append_eq_nil_iff.1 e).2
theorem add_right {e a:En}{n:List UInt8}{l:List ByteArray}(h:addE e n l= .ok a):rightE a=true:=by
 obtain⟨ty,h1,h2,h3,h4,h5,h6,rfl⟩:=add_ok h;rw[withE_false (app_ne h3)];have hr:=right_iff.1 h1;refine right_iff.2 ⟨hr.1,with_right hr.2 fun _=>atOK_of h2 (app_ne h3) h6 ?_ h5⟩;intro v hv;rcases List.mem_append.1 hv with hv | hv
 ·exact(vals_ok hr.2 h2).1 v hv
 ·exact h4 v hv
theorem vals_with {e:En}{n:ByteArray}{l:List ByteArray}(h:rightE e=true):valsA (withE e n l).ats n=l:=by
 obtain⟨lo,mid,hi,hp⟩:=part_of n e.ats none (right_iff.1 h).2;unfold withE;rw[vals_part (part_with hp l (decide (l=[])))];by_cases hl:l=[]
 ·subst hl;rfl
 ·rw[decide_eq_false hl];rfl
theorem like_in {syn:Int}{l:List ByteArray}{v:ByteArray}(h:v∈l)(hv:okV syn v=true):0≤likeI syn l v:=by
 by_cases hn:likeI syn l v<0
 ·rw[likeI_neg,likeN_none]at hn;have:=hn v h;rw[alike_self hv]at this;cases this
 ·omega
theorem like_not {syn:Int}{p l:List ByteArray}{v:ByteArray}(hn:((p++l).map (nv syn)).Nodup)(h:v∈l):likeI syn p v<0:=by rw[likeI_neg,likeN_none];intro x hx;rw[Bool.eq_false_iff];intro ha;rw[List.map_append,List.nodup_append]at hn;exact hn.2.2 _ (List.mem_map.2 ⟨x,hx,rfl⟩) _ (List.mem_map.2 ⟨v,h,rfl⟩) (alike_iff.1 ha).2.2
theorem back {e a:En}{n:List UInt8}{l:List ByteArray}(h:addE e n l= .ok a):removeE a n l= .ok e∧rightE a=true∧ ∀v∈l,hasE a n v=true∧hasE e n v=false:=by
 have hra:=add_right h;obtain⟨ty,h1,h2,h3,h4,h5,h6,rfl⟩:=add_ok h;have hv:=vals_with (n:=bs ty.name) (l:=valsA e.ats (bs ty.name)++l) h1;refine⟨?_,hra,fun v hvl=>⟨?_,?_⟩⟩
 ·unfold removeE;rw[findE_of hra h2];simp only;rw[if_neg (not_not_intro ((fault_zero l).2 h4)),hv,if_neg (app_ne h3)];have hok: ∀u∈valsA e.ats (bs ty.name)++l,okV ty.syn u=true:=by
   intro u hu;rcases List.mem_append.1 hu with hu | hu
   ·exact(vals_ok (right_iff.1 h1).2 h2).1 u hu
   ·exact h4 u hu
  rw[drop_back l _ hok h5];simp only;rw[if_neg h3,withE_false (app_ne h3)];unfold withE;simp only;rw[with_back (right_iff.1 h1).2]
 ·unfold hasE;rw[h2];simp only;rw[hra,hv,Bool.true_and,decide_eq_true_iff];exact like_in (List.mem_append_right _ hvl) (h4 v hvl)
 ·unfold hasE;rw[h2];simp only;rw[h1,Bool.true_and,decide_eq_false_iff_not];have:=like_not h5 hvl;omega
theorem drop_one {syn:Int}{l:List ByteArray}{v:ByteArray}{k:Nat}(h:likeN syn l v=some k):dropF syn l [v]=some (l.take k++l.drop (k+1)):=by unfold dropF;rw[h];rfl
end etp
namespace etp
open atp atw
open dnw (Av)
def buildF:List (ByteArray × ByteArray)→En→Except Int En
 | [],e=> .ok e
 | p::r,e=>match addE e p.1.data.toList [p.2]with
  | .error f=> .error f
  | .ok a=>buildF r a
end etp
namespace ldp
def trimCR (t:List UInt8):List UInt8:=if t.getLast?=some 13 then t.dropLast else t
def rawF:Nat→List UInt8→List (List UInt8)
 | 0,_=>[]
 | f+1,l=>if l=[]then[]else match l.dropWhile (· ≠10)with
  | []=>[l]
  | _::r=>trimCR (l.takeWhile (· ≠10))::rawF f r
def raw (l:List UInt8):List (List UInt8):=rawF l.length l
structure Row where
 text:List UInt8
 no:Nat
 lost:Bool
def goes (t:List UInt8):Bool:=decide (t.head?=some 32)
def rowsR:List Row→Nat→List (List UInt8)→List Row
 | acc,_,[]=>acc
 | acc,no,t::r=>if goes t=false then rowsR (acc++[⟨t,no+1,false⟩]) (no+1) r else match acc.getLast? with
  | none=>rowsR (acc++[⟨t,no+1,true⟩]) (no+1) r
  | some x=>if x.text=[]∨x.lost=true then rowsR (acc++[⟨t,no+1,true⟩]) (no+1) r else rowsR (acc.dropLast++[⟨x.text++t.drop 1,x.no,false⟩]) (no+1) r
def rowsP:List Row→Nat→List (List UInt8)→List Row × Option Nat
 | acc,_,[]=>(acc,none)
 | acc,no,t::r=>if goes t=false then rowsP (acc++[⟨t,no+1,false⟩]) (no+1) r else match acc.getLast? with
  | none=>(acc,some (no+1))
  | some x=>if x.text=[]then(acc,some (no+1))else rowsP (acc.dropLast++[⟨x.text++t.drop 1,x.no,false⟩]) (no+1) r
theorem last_append (A:List Row)(z:Row):(A++[z]).getLast?=some z:=by simp
theorem rowsR_keeps: ∀ (ls:List (List UInt8)) (A:List Row) (z:Row) (C:List Row) (no:Nat),z.lost=true→ ∃D,rowsR (A++z::C) no ls=A++z::D
 | [],A,z,C,no,hz=>⟨C,rfl⟩
 | t::r,A,z,C,no,hz=>by
  have happ: ∀y:Row,(A++z::C)++[y]=A++z::(C++[y]):=fun y=>by simp
  unfold rowsR;by_cases hg:goes t=false
  ·rw[if_pos hg,happ];exact rowsR_keeps r A z _ (no+1) hz
  ·rw[if_neg hg];rcases List.eq_nil_or_concat C with rfl | ⟨C',y,rfl⟩
   ·rw[last_append];simp only[hz,or_true,if_true];rw[happ];exact rowsR_keeps r A z _ (no+1) hz
   ·rw[List.concat_eq_append]at happ ⊢;have e:A++z::(C'++[y])=(A++z::C')++[y]:=(by simp);rw[e,last_append];simp only[];split
    ·rw[←e,happ];exact rowsR_keeps r A z _ (no+1) hz
    ·rw[List.dropLast_concat];have e2:(A++z::C')++[⟨y.text++t.drop 1,y.no,false⟩]=A++z::(C'++[⟨y.text++t.drop 1,y.no,false⟩]):=(by simp);rw[e2];exact rowsR_keeps r A z _ (no+1) hz
def Stops (R P:List Row)(k:Nat):Prop:=(∀x∈P,x.lost=false)∧ ∃t D,R=P++(⟨t,k,true⟩:Row)::D
theorem rows_alike: ∀ (ls:List (List UInt8)) (acc:List Row) (no:Nat),(∀x∈acc,x.lost=false)→
  ((rowsP acc no ls).2=none∧rowsR acc no ls=(rowsP acc no ls).1∧ ∀x∈(rowsP acc no ls).1,x.lost=false)∨
  (∃k,(rowsP acc no ls).2=some k∧Stops (rowsR acc no ls) (rowsP acc no ls).1 k)
 | [],acc,no,h=>Or.inl ⟨rfl,rfl,h⟩
 | t::r,acc,no,h=>by
  have hstop:Stops (rowsR (acc++[⟨t,no+1,true⟩]) (no+1) r) acc (no+1):=by obtain⟨D,hD⟩:=rowsR_keeps r acc ⟨t,no+1,true⟩ [] (no+1) rfl;exact⟨h,t,D,hD⟩
  unfold rowsP rowsR;by_cases hg:goes t=false
  ·rw[if_pos hg,if_pos hg];exact rows_alike r _ (no+1) (fun x hx=>by
    rcases List.mem_append.1 hx with hx | hx
    ·exact h x hx
    ·simp only[List.mem_singleton]at hx;rw[hx])
  ·rw[if_neg hg,if_neg hg];cases hl:acc.getLast? with
   | none=>exact Or.inr ⟨no+1,rfl,hstop⟩
   | some x=>
    have hx:x∈acc:=List.mem_of_getLast? hl;have hxl:=h x hx;simp only[hxl];by_cases he:x.text=[]
    ·simp only[he,true_or,if_true];exact Or.inr ⟨no+1,rfl,hstop⟩
    ·simp only[he,false_or,if_false,Bool.false_eq_true];exact rows_alike r _ (no+1) (fun y hy=>by
      rcases List.mem_append.1 hy with hy | hy
      ·exact h y (List.dropLast_subset _ hy)
      ·simp only[List.mem_singleton]at hy;rw[hy])
theorem rowsP_take: ∀ (ls:List (List UInt8)) (acc:List Row) (no k:Nat),(rowsP acc no ls).2=some k→no<k∧rowsP acc no (ls.take (k-1-no))=((rowsP acc no ls).1,none)
 | [],acc,no,k,h=>by unfold rowsP at h;cases h
 | t::r,acc,no,k,h=>by
  unfold rowsP at h ⊢;by_cases hg:goes t=false
  ·rw[if_pos hg]at h ⊢;obtain⟨h1,h2⟩:=rowsP_take r _ (no+1) k h;refine⟨by omega,?_⟩;rw[show k-1-no=(k-1- (no+1))+1 from by omega,List.take_succ_cons];show(if goes t=false then _ else _)=_;rw[if_pos hg,h2]
  ·rw[if_neg hg]at h ⊢;cases hl:acc.getLast? with
   | none=>rw[hl]at h;simp only[Option.some.injEq]at h;subst h;exact⟨by omega,by rw[show no+1-1-no=0 from by omega];rfl⟩
   | some x=>
    rw[hl]at h;simp only at h ⊢;by_cases he:x.text=[]
    ·rw[if_pos he]at h ⊢;simp only[Option.some.injEq]at h;subst h;exact⟨by omega,by rw[show no+1-1-no=0 from by omega];rfl⟩
    ·rw[if_neg he]at h ⊢;obtain⟨h1,h2⟩:=rowsP_take r _ (no+1) k h;refine⟨by omega,?_⟩;rw[show k-1-no=(k-1- (no+1))+1 from by omega,List.take_succ_cons];show(if goes t=false then _ else _)=_;rw[if_neg hg,hl];simp only[if_neg he];exact h2
structure Rec where
 name:List UInt8
 pairs:List (List UInt8 × List UInt8)
section
variable (pr : List UInt8 → Option (List UInt8 × List UInt8)) (isName : List UInt8 → Bool) (skip : Nat → List UInt8 → Bool)
def addPair (recs:List Rec)(a:List UInt8 × List UInt8):List Rec:=match recs.getLast? with
 | none=>recs
 | some x=>recs.dropLast++[⟨x.name,x.pairs++[a]⟩]
def foldR:Nat→List Rec→Bool→List Row→Nat ⊕ List Rec
 | _,recs,_,[]=> .inr recs
 | i,recs,op,x::r=>if x.lost=true then .inl x.no else if skip i x.text=true then foldR (i+1) recs op r else if x.text=[]then foldR (i+1) recs false r else match pr x.text with
  | none=> .inl x.no
  | some a=>if isName a.1=op then .inl x.no else if op=true then foldR (i+1) (addPair recs a) true r else foldR (i+1) (recs++[⟨a.2,[]⟩]) true r
theorem fold_stop: ∀ (P:List Row) (i:Nat) (recs:List Rec) (op:Bool) (z:Row) (D:List Row),(∀x∈P,x.lost=false)→z.lost=true→
  foldR pr isName skip i recs op (P++z::D)=match foldR pr isName skip i recs op P with
   | .inl k=> .inl k
   | .inr _=> .inl z.no
 | [],i,recs,op,z,D,h,hz=>by show foldR pr isName skip i recs op (z::D)=_;unfold foldR;rw[if_pos hz]
 | x::P,i,recs,op,z,D,h,hz=>by
  have hx:=h x (by simp);have hP: ∀y∈P,y.lost=false:=fun y hy=>h y (by simp[hy]);rw[List.cons_append];unfold foldR;simp only[hx,Bool.false_eq_true,if_false];split
  ·exact fold_stop P _ _ _ z D hP hz
  ·split
   ·exact fold_stop P _ _ _ z D hP hz
   ·cases hpr:pr x.text with
    | none=>rfl
    | some a=>
     simp only;split
     ·rfl
     ·split
      ·exact fold_stop P _ _ _ z D hP hz
      ·exact fold_stop P _ _ _ z D hP hz
theorem parse_alike (ls:List (List UInt8)):foldR pr isName skip 0 [] false (rowsR [] 0 ls)=match(rowsP [] 0 ls).2 with
  | none=>foldR pr isName skip 0 [] false (rowsP [] 0 ls).1
  | some k=>match foldR pr isName skip 0 [] false (rowsP [] 0 ls).1 with
   | .inl j=> .inl j
   | .inr _=> .inl k:=by
 rcases rows_alike ls [] 0 (by simp)with⟨h1,h2,_⟩ | ⟨k,h1,h2,t,D,h3⟩
 ·rw[h1,h2]
 ·rw[h1,h3,fold_stop pr isName skip _ _ _ _ _ _ h2 rfl]
end
theorem rawF_more: ∀ (f g:Nat) (l:List UInt8),l.length≤f→l.length≤g→rawF f l=rawF g l
 | 0,g,l,h,_=>by have:l=[]:=List.eq_nil_of_length_eq_zero (by omega);subst this;cases g<;>rfl
 | f+1,0,l,_,h=>by have:l=[]:=List.eq_nil_of_length_eq_zero (by omega);subst this;rfl
 | f+1,g+1,l,h,h'=>by
  unfold rawF;split
  ·rfl
  ·rename_i hne;cases hd:l.dropWhile (fun c=>decide (c≠10))with
   | nil=>rfl
   | cons c r=>simp only;have hl:r.length<l.length:=(by have h1:=congrArg List.length (List.takeWhile_append_dropWhile (p:=fun c:UInt8=>decide (c≠10)) (l:=l));rw[hd,List.length_append,List.length_cons]at h1;omega);rw[rawF_more f g r (by omega) (by omega)]
theorem raw_line (a r:List UInt8)(h:(10:UInt8) ∉a):raw (a++10::r)=trimCR a::raw r:=by
 have h1: ∀ (b:List UInt8),(10:UInt8) ∉b→(b++10::r).takeWhile (fun c=>decide (c≠10))=b∧(b++10::r).dropWhile (fun c=>decide (c≠10))=10::r:=by
  intro b;induction b with
  | nil=>intro _;simp
  | cons c b ih=>intro hb;simp only[List.mem_cons,not_or]at hb;obtain⟨i1,i2⟩:=ih hb.2;have hc:decide (c≠10)=true:=(by simpa using Ne.symm hb.1);rw[List.cons_append,List.takeWhile_cons,List.dropWhile_cons,if_pos hc,if_pos hc,i1,i2];exact⟨rfl,rfl⟩
 obtain⟨i1,i2⟩:=h1 a h;unfold raw;rw[show(a++10::r).length=(a.length+r.length)+1 from by simp;omega];show(if a++10::r=[]then _ else _)=_;rw[if_neg (by simp),i2,i1];simp only;rw[rawF_more (a.length+r.length) r.length r (by omega) (Nat.le_refl _)]
theorem raw_nil:raw []=[]:=rfl
theorem raw_last {l:List UInt8}(hne:l≠[])(h:(10:UInt8) ∉l):raw l=[l]:=by
 have hd:l.dropWhile (fun c=>decide (c≠10))=[]:=by
  clear hne;induction l with
  | nil=>rfl
  | cons c l ih=>simp only[List.mem_cons,not_or]at h;have hc:decide (c≠10)=true:=(by simpa using Ne.symm h.1);rw[List.dropWhile_cons,if_pos hc];exact ih h.2
 obtain⟨c,t,rfl⟩:=List.exists_cons_of_ne_nil hne;unfold raw;show(if c::t=[]then _ else _)=_;rw[if_neg (by simp),hd]
theorem split10 {l:List UInt8}(h:(10:UInt8)∈l): ∃a r,l=a++10::r∧(10:UInt8) ∉a:=by
 induction l with
 | nil=>simp at h
 | cons c l ih=>
  by_cases e:c=10
  ·exact⟨[],l,by rw[e];rfl,by simp⟩
  ·simp only[List.mem_cons]at h;rcases h with h | h
   ·exact absurd h.symm e
   ·obtain⟨a,r,h1,h2⟩:=ih h;exact⟨c::a,r,by rw[h1];rfl,by simp[Ne.symm e,h2]⟩
def posN:Nat→List UInt8→Nat
 | 0,_=>0
 | n+1,l=>(l.takeWhile (· ≠10)).length+1+posN n ((l.dropWhile (· ≠10)).drop 1)
theorem posN_line (n:Nat)(a r:List UInt8)(h:(10:UInt8) ∉a):posN (n+1) (a++10::r)=a.length+1+posN n r:=by
 have h1:(a++10::r).takeWhile (fun c=>decide (c≠10))=a∧(a++10::r).dropWhile (fun c=>decide (c≠10))=10::r:=by
  induction a with
  | nil=>simp
  | cons c b ih=>simp only[List.mem_cons,not_or]at h;obtain⟨i1,i2⟩:=ih h.2;have hc:decide (c≠10)=true:=(by simpa using Ne.symm h.1);rw[List.cons_append,List.takeWhile_cons,List.dropWhile_cons,if_pos hc,if_pos hc,i1,i2];exact⟨rfl,rfl⟩
 show((a++10::r).takeWhile (fun c=>decide (c≠10))).length+1+posN n (((a++10::r).dropWhile (fun c=>decide (c≠10))).drop 1)=_;rw[h1.1,h1.2];rfl
theorem raw_take: ∀ (n:Nat) (l:List UInt8),n<(raw l).length→raw (l.take (posN n l))=(raw l).take n
 | 0,l,_=>by simp[posN,raw_nil]
 | n+1,l,h=>by
  by_cases h10:(10:UInt8)∈l
  ·obtain⟨a,r,rfl,ha⟩:=split10 h10;rw[raw_line a r ha]at h ⊢;simp only[List.length_cons]at h;rw[posN_line n a r ha,List.take_succ_cons];have e:(a++10::r).take (a.length+1+posN n r)=a++10::r.take (posN n r):=(by rw[Nat.add_assoc,List.take_append,List.take_of_length_le (by omega),show a.length+(1+posN n r)-a.length=posN n r+1 from by omega,List.take_succ_cons]);rw[e,raw_line a _ ha,raw_take n r (by omega)]
  ·exfalso;by_cases hne:l=[]
   ·subst hne;rw[raw_nil]at h;simp at h
   ·rw[raw_last hne h10]at h;simp at h
end ldp
namespace b64p
def idx (c:UInt8):Int:=Lib.indexByte letters c
theorem idx_le (c:UInt8): -1≤idx c∧idx c≤63:=by
 have all: ∀m:Fin 256,-1≤idx (UInt8.ofNat m.val)∧idx (UInt8.ofNat m.val)≤63:=by decide+kernel
 have h:=all ⟨c.toNat,c.toNat_lt⟩;simpa using h
theorem indexByte_hit (l:List UInt8)(c:UInt8): ∀ (n:Nat),(∀m,m<n→l.getD m 0≠c)→n<l.length→l.getD n 0=c→Lib.indexByte l c=n:=by
 induction l with
 | nil=>intro n _ hn;simp at hn
 | cons b l ih=>
  intro n hm hn hc;cases n with
  | zero=>have:b=c:=(by simpa using hc);simp[Lib.indexByte,this]
  | succ n=>have hb:b≠c:=(by simpa using hm 0 (by omega));have h:=ih n (fun m hmn=>by simpa using hm (m+1) (by omega)) (by simpa using hn) (by simpa using hc);simp only[Lib.indexByte];rw[if_neg (by simpa using hb),h,if_neg (by rw[beq_iff_eq];omega)];omega
theorem indexByte_miss (l:List UInt8)(c:UInt8):(∀m,m<l.length→l.getD m 0≠c)→Lib.indexByte l c= -1:=by
 induction l with
 | nil=>intro _;rfl
 | cons b l ih=>
  intro hm;have hb:b≠c:=by simpa using hm 0 (by simp)
  have h:=ih (fun m hmn=>by simpa using hm (m+1) (by simpa using hmn));simp only[Lib.indexByte];rw[if_neg (by simpa using hb),h];rfl
def bit (l:List UInt8)(k:Nat):Nat:=(l.getD (k / 8) 0).toNat / 2 ^ (7-k % 8) % 2
def bits (l:List UInt8)(k:Nat):Nat→Nat
 | 0=>0
 | i+1=>2*bits l k i+bit l (k+i)
def raw (l:List UInt8)(m:Nat):List UInt8:=(List.range m).map fun j=>lt (bits l (6*j) 6)
theorem raw_succ (l:List UInt8)(m:Nat):raw l (m+1)=raw l m++[lt (bits l (6*m) 6)]:=by simp[raw,List.range_succ]
theorem bit_drop (l:List UInt8)(k:Nat):bit l (k+24)=bit (l.drop 3) k:=by unfold bit;rw[show(k+24) / 8=3+k / 8 from by omega,show(k+24) % 8=k % 8 from by omega];simp[List.getD,List.getElem?_drop]
theorem bits_drop (l:List UInt8)(k i:Nat):bits l (k+24) i=bits (l.drop 3) k i:=by
 induction i with
 | zero=>rfl
 | succ i ih=>simp only[bits,ih];rw[show k+24+i=k+i+24 from by omega,bit_drop]
theorem hn0 (a b c:Nat)(la:a<256)(lb:b<256)(lc:c<256):(a*65536+b*256+c) / 2 ^ (18-6*0) % 64=a / 4 % 64:=by simp only[Nat.mul_zero,Nat.sub_zero,Nat.reducePow];omega
theorem hn1 (a b c:Nat)(la:a<256)(lb:b<256)(lc:c<256):(a*65536+b*256+c) / 2 ^ (18-6*1) % 64=(a % 4)*16+b / 16:=by simp only[Nat.mul_one,Nat.reduceSub,Nat.reducePow];omega
theorem hn2 (a b c:Nat)(la:a<256)(lb:b<256)(lc:c<256):(a*65536+b*256+c) / 2 ^ (18-6*2) % 64=(b % 16)*4+c / 64:=by simp only[Nat.reduceMul,Nat.reduceSub,Nat.reducePow];omega
theorem hn3 (a b c:Nat)(la:a<256)(lb:b<256)(lc:c<256):(a*65536+b*256+c) / 2 ^ (18-6*3) % 64=c % 64:=by simp only[Nat.reduceMul,Nat.reduceSub,Nat.reducePow];omega
theorem raw_drop (l:List UInt8)(m:Nat):raw l (4+m)=raw l 4++raw (l.drop 3) m:=by
 induction m with
 | zero=>simp[raw]
 | succ m ih=>rw[show 4+(m+1)=(4+m)+1 from by omega,raw_succ l (4+m),ih,raw_succ (l.drop 3) m,show 6*(4+m)=6*m+24 from by omega,bits_drop,List.append_assoc]
def fRun:List UInt8→Nat→Nat→Option (Nat × Nat)
 | [],n,p=>some (n,p)
 | c::r,n,p=>if c=61 then fRun r (n*64) (p+1)else if idx c<0∨0<p then none else fRun r (n*64+(idx c).toNat) p
def three (n:Nat):List UInt8:=[UInt8.ofNat (n / 65536),UInt8.ofNat (n / 256),UInt8.ofNat n]
def fourD (l:List UInt8):Option (List UInt8):=
 match fRun l 0 0 with
 | none=>none
 | some (n,p)=>if 2<p then none else some ((three n).take (3-p))
def decL (l:List UInt8):Option (List UInt8):=
 if h:l=[]then some []else
  match fourD (l.take 4)with
  | none=>none
  | some r=>(decL (l.drop 4)).map (r++ ·)
termination_by l.length
decreasing_by
 have:l.length≠0:=fun e=>h (List.eq_nil_of_length_eq_zero e);simp;omega
theorem decL_nil:decL []=some []:=by unfold decL;simp
theorem decL_cons {l:List UInt8}(h:l≠[]):decL l=match fourD (l.take 4)with | none=>none | some r=>(decL (l.drop 4)).map (r++ ·):=by
 conv=>lhs;unfold decL
 rw[dif_neg h]
def D (l:List UInt8):Option (List UInt8):=
 if l.length % 4≠0 then none else
  match decL l with
  | none=>none
  | some b=>if enc b=l then some b else none
theorem fourD_len {l r:List UInt8}(h:fourD l=some r):r.length≤3:=by
 unfold fourD at h;split at h
 ·cases h
 ·split at h
  ·cases h
  ·cases h;rw[List.length_take];simp[three]
def rRun:List UInt8→Nat→Nat→List UInt8→Option (List UInt8)
 | [],_,_,d=>some d
 | c::r,n,b,d=>
  if c=61 then some d else if idx c<0 then none else
   if 8≤b+6 then rRun r ((n*64+(idx c).toNat) % 2 ^ (b+6-8)) (b+6-8) (d++[UInt8.ofNat ((n*64+(idx c).toNat) / 2 ^ (b+6-8))])
   else rRun r (n*64+(idx c).toNat) (b+6) d
def R (l:List UInt8):Option (List UInt8):=
 match rRun l 0 0 []with
 | none=>none
 | some b=>if enc b=l then some b else none
end b64p
namespace ldp
def tyAt (k:Nat)(c:UInt8):Prop:=(65≤(c.toNat:Int)∧(c.toNat:Int)≤90)∨(97≤(c.toNat:Int)∧(c.toNat:Int)≤122)∨(k≠0∧((c.toNat:Int)=45∨(48≤(c.toNat:Int)∧(c.toNat:Int)≤57)))
instance (k:Nat)(c:UInt8):Decidable (tyAt k c):=by unfold tyAt;infer_instance
def typeOK (l:List UInt8):Bool:=decide (l≠[]∧l.length≤64∧ ∀k (h:k<l.length),tyAt k l[k])
def plAt (k:Nat)(c:UInt8):Prop:=(c.toNat:Int)≠0∧(c.toNat:Int)≤127∧(c.toNat:Int)≠10∧(c.toNat:Int)≠13∧(k=0→(c.toNat:Int)≠32∧(c.toNat:Int)≠58∧(c.toNat:Int)≠60)
instance (k:Nat)(c:UInt8):Decidable (plAt k c):=by unfold plAt;infer_instance
def plainOK (l:List UInt8):Bool:=decide (∀k (h:k<l.length),plAt k l[k])
def isDn (l:List UInt8):Bool:=l==[100,110]||l==[68,110]||l==[100,78]||l==[68,78]
def pairL (l:List UInt8):Option (List UInt8 × List UInt8):=
 match l.dropWhile (· ≠58)with
 | []=>none
 | _::r=>if typeOK (l.takeWhile (· ≠58))=true then
   (if r.head?=some 58 then(b64p.D (r.tail.dropWhile (· ==32))).map (fun v=>(l.takeWhile (· ≠58),v))
   else if plainOK (r.dropWhile (· ==32))=true then some (l.takeWhile (· ≠58),r.dropWhile (· ==32))else none)
  else none
theorem typeOK_no {s:ByteArray}{k:Nat}(hk:k<s.size)(h: ¬tyAt k s[k]):false=typeOK s.data.toList:=by symm;unfold typeOK;rw[decide_eq_false_iff_not];rintro⟨_,_,h3⟩;exact h (h3 k (by simpa using hk))
theorem typeOK_end {s:ByteArray}(h: ∀k (hk:k<s.size),tyAt k s[k])(h0:s.size≠0)(h1:s.size≤64):true=typeOK s.data.toList:=by
 symm;unfold typeOK;have hl:s.data.toList.length=s.size:=by simp
 rw[decide_eq_true_iff];refine⟨fun e=>by rw[e]at hl;simp at hl;omega,by omega,fun k hk=>h k (by omega)⟩
theorem typeOK_len {s:ByteArray}(h1:s.size=0∨64<s.size):false=typeOK s.data.toList:=by
 symm;unfold typeOK;have hl:s.data.toList.length=s.size:=by simp
 rw[decide_eq_false_iff_not];rintro⟨h2,h3,_⟩;rcases h1 with h1 | h1
 ·exact h2 (List.eq_nil_of_length_eq_zero (by omega))
 ·omega
theorem plainOK_no {s:ByteArray}{k:Nat}(hk:k<s.size)(h: ¬plAt k s[k]):false=plainOK s.data.toList:=by symm;unfold plainOK;rw[decide_eq_false_iff_not];intro h3;exact h (h3 k (by simpa using hk))
theorem plainOK_end {s:ByteArray}(h: ∀k (hk:k<s.size),plAt k s[k]):true=plainOK s.data.toList:=by symm;unfold plainOK;rw[decide_eq_true_iff];exact fun k hk=>h k (by simpa using hk)
theorem cutL {A R:List UInt8}{c:UInt8}(h:c∉A):(A++c::R).takeWhile (fun x=>decide (x≠c))=A∧(A++c::R).dropWhile (fun x=>decide (x≠c))=c::R:=by
 induction A with
 | nil=>simp
 | cons d b ih=>
  simp only[List.mem_cons,not_or]at h;obtain⟨i1,i2⟩:=ih h.2;have hc:decide (d≠c)=true:=by simpa using Ne.symm h.1
  rw[List.cons_append,List.takeWhile_cons,List.dropWhile_cons,if_pos hc,if_pos hc,i1,i2];exact⟨rfl,rfl⟩
theorem dropL {l:List UInt8}{c:UInt8}(h:c∉l):l.dropWhile (fun x=>decide (x≠c))=[]:=by
 induction l with
 | nil=>rfl
 | cons d b ih=>
  simp only[List.mem_cons,not_or]at h;have hc:decide (d≠c)=true:=by simpa using Ne.symm h.1
  rw[List.dropWhile_cons,if_pos hc];exact ih h.2
theorem splitL {l:List UInt8}{c:UInt8}(h:c∈l): ∃a r,l=a++c::r∧c∉a:=by
 induction l with
 | nil=>simp at h
 | cons d l ih=>
  by_cases e:d=c
  ·exact⟨[],l,by rw[e];rfl,by simp⟩
  ·simp only[List.mem_cons]at h;rcases h with h | h
   ·exact absurd h.symm e
   ·obtain⟨a,r,h1,h2⟩:=ih h;exact⟨d::a,r,by rw[h1];rfl,by simp[Ne.symm e,h2]⟩
theorem pairL_none {l:List UInt8}(h:(58:UInt8) ∉l):pairL l=none:=by unfold pairL;rw[dropL h]
theorem pairL_at {A R:List UInt8}(h:(58:UInt8) ∉A):pairL (A++58::R)=if typeOK A=true then
   (if R.head?=some 58 then(b64p.D (R.tail.dropWhile (· ==32))).map (fun v=>(A,v))
   else if plainOK (R.dropWhile (· ==32))=true then some (A,R.dropWhile (· ==32))else none)
  else none:=by
 unfold pairL;rw[(cutL h).1,(cutL h).2]
end ldp
end Go.Proofs.YtmnpfkbjpeaemaaGreatDoor
