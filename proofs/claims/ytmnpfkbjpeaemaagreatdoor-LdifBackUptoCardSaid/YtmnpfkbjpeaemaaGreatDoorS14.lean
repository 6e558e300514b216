/- One text out of several: LbA, EqualW, Same, Same17W, LbL0, LbB0, LbB, OpenS, ArgsW, StrsOf, EntO, LbF, TyF. -/
import Derived.Test.YtmnpfkbjpeaemaaGreatDoorS12
import Derived.Test.YtmnpfkbjpeaemaaGreatDoorS13
import Derived.Test.YtmnpfkbjpeaemaaGreatDoorS7
import Derived.Deep.QuietTactic
import Derived.BigQuiet
import Derived.Test.YtmnpfkbjpeaemaaGreatDoorS5
import Derived.Test.YtmnpfkbjpeaemaaGreatDoorS8
import Derived.Test.YtmnpfkbjpeaemaaGreatDoorS11
import Derived.Test.YtmnpfkbjpeaemaaGreatDoorRows
import Derived.Test.YtmnpfkbjpeaemaaGreatDoorS1
import Derived.Test.YtmnpfkbjpeaemaaGreatDoorS4
import Derived.Test.YtmnpfkbjpeaemaaGreatDoorS6
import Derived.Test.YtmnpfkbjpeaemaaGreatDoorS9
import Derived.Deep.Slices
import Derived.Deep.Fields
import Derived.ChangeSame
import Derived.SliceStrings
import Derived.Deep.MidRow
import Derived.Lib.SmallJoins
import Derived.Lib.LaidU8
import Derived.Deep.Strs
set_option linter.unusedVariables false
set_option linter.unusedSimpArgs false
set_option maxRecDepth 20000
set_option maxHeartbeats 8000000
namespace Go.Proofs.YtmnpfkbjpeaemaaGreatDoor
open Go.RowKit
namespace lbw
open lbp atw etp etw
open dnw (Av Avas Rdns parseV)
open tupw (Strs strs_below)
theorem app_nothingX {P:Program}(w:World)(B:Nat)(t ty e:TypeId)(sz:Nat)(i:TypeInfo)(ht:P.underlying t=some (.slice e))(hi:P.info? e=some i)(v:Value)(n:Nat)(xs:List Value)(hown:kt.SegX w B e sz v n xs)(c:Nat):
  (Builtin.append_ #[t,t] ty #[v,.slice none 0 c]).run P w= .ok v w:=by
 rcases hown.2 with⟨rfl,rfl⟩ | ⟨g,o,cap,pre,post,rfl,hB,hg,hp,hc,_⟩
 ·simp[Builtin.append_,run_underlying ht,sizeOf,typeInfo,hi,Builtin.lenOf,Builtin.firstCells]
 ·simp[Builtin.append_,run_underlying ht,sizeOf,typeInfo,hi,Builtin.lenOf,Builtin.firstCells,hc,storeCells]
theorem info_some {P:Program}{t:TypeId}{α:Type}{f:TypeInfo→α}{x:α}(h:(P.info? t).map f=some x): ∃i,P.info? t=some i:=by
 cases hi:P.info? t with
 | none=>rw[hi]at h;cases h
 | some i=>exact⟨i,rfl⟩
theorem acells_len (l:List Av):(dnw.acells l).length=l.length*2:=by
 induction l with
 | nil=>rfl
 | cons a r ih=>show(dnw.acell a++dnw.acells r).length=_;rw[List.length_append,ih,List.length_cons];show 2+_=_;omega
theorem ownP_all {w:World}{B m c:Nat}{v:Value}{l ys:List Av}{ao:Option Addr}(h:dnw.OwnA w B v l)(hy:Avas w ao ys)(hm:m=ys.length)(hl:l.length≤30000000)(hyl:ys.length≤2000000)(hB:B≤w.heap.size):
  ∃bo n cap w1,(Builtin.append_ #[23,23] 23 #[v,.slice ao m c]).run Tryz.prog w= .ok (.slice bo n cap) w1∧dnw.OwnA w1 B (.slice bo n cap) (l++ys)∧Below B w w1∧Hid (n=l.length+ys.length)∧n≤cap:=by
 subst hm;cases ao with
 | none=>
  have h0:ys=[]:=by
   cases ys with
   | nil=>rfl
   | cons y t=>obtain⟨b,o,e,_⟩:=hy 0 (by simp);cases e
  subst h0;obtain⟨i,hi⟩:=info_some dnw.infoAva;obtain⟨bo,cap,hv,hc⟩:=kt.segX_slice h;refine⟨bo,l.length,cap,w,?_,by rw[List.append_nil,←hv];exact h,Below.refl _ _,by show _=_;simp,hc⟩;rw[←hv];exact app_nothingX w B _ _ _ _ i Tryz.underlying23 hi v _ _ h c
 | some ad=>
  obtain⟨v',w1,h1,h2,h3,h4⟩:=kt.segX_append (P:=Tryz.prog) (t:=23) (ty:=23) Tryz.underlying23 dnw.infoAva rfl (by omega) ad ys.length c (dnw.acells ys) (acells_len ys) (fun j u hj=>by
   have hj':j<(dnw.acells ys).length:=(List.getElem?_eq_some_iff.1 hj).1;rw[acells_len]at hj';have hi:j / 2<ys.length:=(by omega);obtain⟨b,o,e,q0,q1⟩:=hy (j / 2) hi;have e':ad=⟨b,o,none⟩:=(by simpa using e);rw[e',Addr.add_mid];have hr:j % 2<2:=Nat.mod_lt _ (by omega);have g:=kt.flat_get dnw.acell 2 (fun _=>rfl) ys (j / 2) (j % 2) hi hr;have ej:j / 2*2+j % 2=j:=(by omega);rw[ej]at g;have hj2:(ys.flatMap dnw.acell)[j]? =some u:=hj;rw[g]at hj2;rcases(by omega:j % 2=0∨j % 2=1)with h0 | h0
   ·rw[h0]at hj2;have hu:Value.string ys[j / 2].t=u:=(by simpa[dnw.acell]using hj2);rw[←hu,←q0];congr 2;omega
   ·rw[h0]at hj2;have hu:Value.string ys[j / 2].v=u:=(by simpa[dnw.acell]using hj2);rw[←hu,←q1];congr 2;omega) (by
   intro u hu;obtain⟨x,_,hx⟩:=List.mem_flatMap.1 hu;simp[dnw.acell]at hx;rcases hx with rfl | rfl<;>rfl) h (by unfold maxLen;omega) (by omega) hB
  obtain⟨bo,cap,rfl,hc⟩:=kt.segX_slice h2;refine⟨bo,_,cap,w1,h1,?_,dnw.below_of_gr h3 hB (fun k hk=>(dnw.ownA_lt h k hk).1),rfl,hc⟩;unfold dnw.OwnA;rw[List.length_append,dnw.acells_append];exact h2
theorem flat_le {n:List (List Av)}(h: ∀l∈n,l.length≤1048576):n.flatten.length≤n.length*1048576:=by
 induction n with
 | nil=>simp
 | cons a r ih=>have h1:=ih fun x hx=>h x (by simp[hx]);have h2:=h a (by simp);rw[List.flatten_cons,List.length_append,List.length_cons,Nat.add_mul,Nat.one_mul];omega
theorem all_any (no:Option Addr)(nc:Nat)(n:List (List Av))(w:World)(hN:Hid (Rdns w no n))(hn:n.length≤20)(hl:Hid (∀l∈n,l.length≤1048576)):
  Calls Tryz.prog 36 #[.slice no n.length nc] w fun e w'=> ∃ao cap,e= .returned (.slice ao n.flatten.length cap)∧Avas w' ao n.flatten∧n.flatten.length≤cap∧Below w.heap.size w w':=by
 obtain⟨M,hM⟩: ∃m,n.length=m:=⟨_,rfl⟩;have HM:=Lib.hid hM;rw[hM]at hn ⊢;clear hM;obtain⟨p,hp⟩: ∃p,w.heap.size=p:=⟨_,rfl⟩;obtain⟨W1,hW1⟩: ∃W,w.alloc (.cells #[] 51)=W:=⟨_,rfl⟩;have HB1:Hid (Below w.heap.size w W1):=by rw[←hW1];exact(Below.refl _ _).alloc (Nat.le_refl _) _
 have HO1:Hid (dnw.OwnA W1 w.heap.size (.slice (some ⟨p,0,none⟩) 0 0) []):=by rw[←hW1,←hp];exact kt.segX_of_row (World.ownsRow_made w #[] 0 (Nat.le_refl _) (by unfold maxLen;omega) rfl)
 have hM0:0≤M:=Nat.zero_le _;go_enter Tryz.func36,Tryz.ntmps36;go_wp2_with fail;clear hW1 hp;go_loopw [3,4] (fun vv iv wr=> ∃ (i:Nat) (ao:Option Addr) (m cap:Nat),i≤M∧iv= .int .i64 (i:Int)∧vv= .slice ao m cap∧Hid (m=((n.take i).flatten).length)∧m≤cap∧Hid (dnw.OwnA wr w.heap.size (.slice ao m cap) (n.take i).flatten)∧Hid (Below w.heap.size w wr)) (fun _ iv _=>M- (intOf iv).toNat);case atStart=>exact⟨0,_,0,0,Nat.zero_le _,rfl,rfl,rfl,Nat.le_refl _,HO1.out,HB1.out⟩
 case round=>
  obtain⟨i,ao,m,cap,hi,rfl,rfl,hm,hmc,hO,hB⟩:=hrel;by_cases hlt:i<M
  ·have hltI:(i:Int)<(M:Int):=(by omega);have hil:i<n.length:=(by rw[HM.out];exact hlt);obtain⟨b,o,ao',cap',hno,hc0,hcc,hA⟩:=(dnw.rdns_below hN.out hB.out) i hil;subst hno;have HTS:Hid ((n.take (i+1)).flatten=(n.take i).flatten++n[i]):=(by show _=_;have h:=congrArg List.flatten (List.take_succ_eq_append_getElem hil);rw[h,List.flatten_append,List.flatten_cons,List.flatten_nil,List.append_nil]);have hlen:=hl.out n[i] (List.getElem_mem hil);have hfl:=flat_le (n:=n.take i) (fun x hx=>hl.out x (List.mem_of_mem_take hx));rw[List.length_take]at hfl;obtain⟨l,hll⟩: ∃l,n[i]=l:=⟨_,rfl⟩;rw[hll]at hc0 hA HTS hlen;obtain⟨k,hk⟩: ∃k,l.length=k:=⟨_,rfl⟩;obtain⟨bo,m2,cap2,w1,hap,hO2,hB2,hm2,hc2⟩:=ownP_all (c:=cap') hO.out hA rfl (by omega) (by omega) hB.out.size;rw[hk]at hc0 hap;have hap:=dnw.ApR.mk hap;have HO2:Hid (dnw.OwnA w1 w.heap.size (.slice bo m2 cap2) (n.take (i+1)).flatten):=(by rw[HTS.out];exact hO2);have HM2:Hid (m2=((n.take (i+1)).flatten).length):=(by show _=_;rw[HTS.out,List.length_append];exact hm2.out);have HB2:=Lib.hid (hB.out.trans hB2);clear hll hO2 hB2 hm2 hA hlen hfl hk hcc;go_wp2_with (at_builtin;refine dnw.wp_apR rfl _ _ _ _ rfl _ _ hap ?_);go_roundw;case rel=>exact⟨i+1,bo,m2,cap2,by omega,by go_num,rfl,HM2.out,hc2,HO2.out,HB2.out⟩
   case measure=>simp[intOf];omega
  ·obtain rfl:M=i:=(by omega);have HMF:Hid (m=n.flatten.length):=(by have h:=hm.out;rw[←HM.out,List.take_length]at h;exact h);have HAF:Hid (Avas wr ao n.flatten):=(by have h:=hO.out;rw[←HM.out,List.take_length,HMF.out]at h;exact dnw.ownA_avas h);go_wp2_with fail;go_ret;refine⟨ao,cap,by(rw[←HMF.out];rfl),HAF.out,by rw[←HMF.out];exact hmc,hB.out⟩
def cap2 (n:Nat):Nat:=min n 20001
end lbw
open Go.RowKit
namespace dnw
open dnp
def EqE (a b:List (List Av))(w:World)(e:Ending)(w':World):Prop:=Below w.heap.size w w'∧ ∃r:Bool,e= .returned (.bool r)∧(r=true↔a=b)
theorem eqE_no {a b:List (List Av)}{w w':World}(hb:Below w.heap.size w w')(h:a≠b):EqE a b w (.returned (.bool false)) w':=⟨hb,false,rfl,by simp[h]⟩
theorem eqE_yes {a b:List (List Av)}{w w':World}(hb:Below w.heap.size w w')(h:a=b):EqE a b w (.returned (.bool true)) w':=⟨hb,true,rfl,by simp[h]⟩
theorem equal_any (ao bo:Option Addr)(ca cb:Nat)(a b:List (List Av))(w:World)(hA:Hid (Rdns w ao a))(hB:Hid (Rdns w bo b))(hal:a.length≤1000)(hbl:b.length≤1000)(hla:Hid (∀l∈a,l.length≤1000))(hlb:Hid (∀l∈b,l.length≤1000)):
  Calls Tryz.prog 41 #[.slice ao a.length ca,.slice bo b.length cb] w fun e w'=>EqE a b w e w':=by
 obtain⟨n,hn⟩: ∃n,n=a.length:=⟨_,rfl⟩;obtain⟨m,hm⟩: ∃m,m=b.length:=⟨_,rfl⟩;have HN:=Lib.hid hn;have HM:=Lib.hid hm;rw[←hn]at hal ⊢;rw[←hm]at hbl ⊢;clear hn hm;by_cases hnm:n=m
 ·subst hnm;have HL:Hid (a.length=b.length):=HN.out.symm.trans HM.out;go_enter Tryz.func41,Tryz.ntmps41;go_wp2_with fail;go_loopw [5,6] (fun iv _ wr=> ∃i:Nat,i≤n∧iv= .int .i64 (i:Int)∧Hid (∀j (h:j<a.length) (h':j<b.length),j<i→a[j]=b[j])∧Below w.heap.size w wr) (fun iv _ _=>n- (intOf iv).toNat);case atStart=>exact⟨0,Nat.zero_le _,rfl,fun j _ _ h=>by omega,Below.refl _ _⟩
  case round=>
   obtain⟨i,hi,rfl,hP,hBw⟩:=hrel;by_cases hlt:i<n
   ·have hlt':(i:Int)<(n:Int):=(by omega);have hia:i<a.length:=(by rw[←HN.out];exact hlt);have hib:i<b.length:=(by rw[←HM.out];exact hlt);obtain⟨b1,o1,ao',c1,e1,hc1,hcc1,hAv1⟩:=hA.out i hia;obtain⟨b2,o2,bo',c2,e2,hc2,hcc2,hAv2⟩:=hB.out i hib;have h1l:=hla.out a[i] (List.getElem_mem hia);have h2l:=hlb.out b[i] (List.getElem_mem hib);have HNO:Hid (a[i]≠b[i]→a≠b):=fun h e=>h (by subst e;rfl);have HYES:Hid (a[i]=b[i]→ ∀j (h:j<a.length) (h':j<b.length),j<i+1→a[j]=b[j]):=by
     intro h j h1 h2 hj;by_cases e:j=i
     ·subst e;exact h
     ·exact hP.out j h1 h2 (by omega)
    have HA0:=Lib.hid hAv1;have HB0:=Lib.hid hAv2;generalize a[i]=x at h1l HNO HYES HA0 hc1;generalize b[i]=y at h2l HNO HYES HB0 hc2;obtain⟨p,hp⟩: ∃p,p=x.length:=⟨_,rfl⟩;obtain⟨q,hq⟩: ∃q,q=y.length:=⟨_,rfl⟩;have HP':=Lib.hid hp;have HQ':=Lib.hid hq;rw[←hp]at hc1 h1l;rw[←hq]at hc2 h2l;have HC1:=Lib.hid hc1;have HC2:=Lib.hid hc2;have k1:=(hBw.cell (World.block_lt_of_cell? w _ hc1)).trans hc1;have k2:=(hBw.cell (World.block_lt_of_cell? w _ hc2)).trans hc2;subst e1 e2;clear hp hq hAv1 hAv2 hcc1 hcc2 hc1 hc2;by_cases hpq:p=q
    ·subst hpq;go_wp2_with fail;go_quiet (fail);have HBQ:=Lib.hid (dr_drewN hBw nq);generalize wr.drewN nq=wq at HBQ ⊢;go_wp2_with fail;go_loopw [6] (fun kv wr=> ∃k:Nat,k≤p∧kv= .int .i64 (k:Int)∧Hid (∀j (h:j<x.length) (h':j<y.length),j<k→x[j]=y[j])∧Below w.heap.size w wr) (fun kv _=>p- (intOf kv).toNat);case atStart=>exact⟨0,Nat.zero_le _,rfl,fun j _ _ h=>by omega,HBQ.out⟩
     case round=>
      clear k1 k2;obtain⟨k,hk,rfl,hQ,hBk⟩:=hrel;have k1:=(hBk.cell (World.block_lt_of_cell? w _ HC1.out)).trans HC1.out;have k2:=(hBk.cell (World.block_lt_of_cell? w _ HC2.out)).trans HC2.out;by_cases hkp:k<p
      ·have hkp':(k:Int)<(p:Int):=(by omega);have hkx:k<x.length:=(by rw[←HP'.out];exact hkp);have hky:k<y.length:=(by rw[←HQ'.out];exact hkp);obtain⟨b3,o3,e3,d0,d1⟩:=(avas_below HA0.out hBk) k hkx;obtain⟨b4,o4,e4,f0,f1⟩:=(avas_below HB0.out hBk) k hky;subst e3 e4;have HKN:Hid (x[k]≠y[k]→a≠b):=fun h=>HNO.out (fun e=>h (by subst e;rfl));have HKY:Hid (x[k]=y[k]→ ∀j (h:j<x.length) (h':j<y.length),j<k+1→x[j]=y[j]):=by
        intro h j h1 h2 hj;by_cases e:j=k
        ·subst e;exact h
        ·exact hQ.out j h1 h2 (by omega)
       generalize x[k]=u at d0 d1 HKN HKY;generalize y[k]=v at f0 f1 HKN HKY;by_cases huv:u=v
       ·have HY:=Lib.hid (HKY.out huv);subst huv;clear HKN HKY;go_wp2_with fail;go_quiet (fail);have HBQ2:=Lib.hid (dr_drewN hBk nq);generalize wr.drewN nq=wq2 at HBQ2 ⊢;go_wp2_with fail;go_roundw;case rel=>exact⟨k+1,by omega,by go_num,HY,HBQ2.out⟩
        case measure=>simp[intOf];omega
       ·have HN:=Lib.hid (HKN.out huv);have g:(u.t.toList==v.t.toList)=false∨((u.t.toList==v.t.toList)=true∧(u.v.toList==v.v.toList)=false):=by
         rw[str_beq,str_beq,decide_eq_false_iff_not,decide_eq_false_iff_not,decide_eq_true_iff];by_cases ht:u.t.data.toList=v.t.data.toList
         ·refine Or.inr ⟨ht,fun hv=>huv ?_⟩;cases u;cases v;have h1:=kt.str_eq ht;have h2:=kt.str_eq hv;simp only at h1 h2;rw[h1,h2]
         ·exact Or.inl ht
        clear HKN HKY huv;rcases g with g | ⟨g,g2⟩
        all_goals go_wp2_with fail;go_quiet (fail);have HBQ2:=Lib.hid (dr_drewN hBk nq);generalize wr.drewN nq=wq2 at HBQ2 ⊢;go_wp2_with fail;go_ret;exact eqE_no HBQ2.out HN.out
      ·obtain rfl:k=p:=(by omega);have HY:=Lib.hid (HYES.out (List.ext_getElem (by rw[←HP'.out,←HQ'.out]) (fun j h1 h2=>hQ.out j h1 h2 (by rw[HP'.out];exact h1))));go_wp2_with fail;go_roundw;case rel=>exact⟨i+1,by omega,by go_num,HY,hBk⟩
       case measure=>simp[intOf];omega
    ·have hne:((p:Int)==(q:Int))=false:=(by rw[beq_eq_false_iff_ne];omega);have hne2:((p:Int) != (q:Int))=true:=(by rw[bne_iff_ne];omega);have HX:=Lib.hid (HNO.out (fun e=>hpq (by rw[HP'.out,HQ'.out,e])));clear hpq;go_wp2_with fail;go_quiet (fail);go_wp2_with fail;go_ret;exact eqE_no (dr_drewN hBw nq) HX.out
   ·obtain rfl:i=n:=(by omega);have HX:Hid (a=b):=List.ext_getElem (by rw[←HN.out,←HM.out]) (fun j h1 h2=>hP.out j h1 h2 (by rw[HN.out];exact h1));go_wp2_with fail;go_ret;exact eqE_yes hBw HX.out
 ·have hne:((n:Int)==(m:Int))=false:=by rw[beq_eq_false_iff_ne];omega
  have hne2:((n:Int) != (m:Int))=true:=by rw[bne_iff_ne];omega
  have HX:Hid (a≠b):=fun e=>hnm (by rw[HN.out,HM.out,e]);clear hnm;go_enter Tryz.func41,Tryz.ntmps41;go_wp2_with fail;go_ret;exact eqE_no (Below.refl _ _) HX.out
end dnw
open Go.RowKit
namespace same
open tupw
theorem str_ne {x y:ByteArray}(h: ¬x=y):(x.toList==y.toList)=false:=by rw[beq_eq_false_iff_ne];intro e;exact h (kt.str_eq (by rw[←Lib.toList_data,←Lib.toList_data,e]))
theorem take_next {l m:List ByteArray}{i:Nat}(h1:i<l.length)(h2:i<m.length)(h:l.take i=m.take i)(he:l[i]=m[i]):l.take (i+1)=m.take (i+1):=by rw[List.take_succ_eq_append_getElem h1,List.take_succ_eq_append_getElem h2,h,he]
theorem ne_at {l m:List ByteArray}{i:Nat}(h1:i<l.length)(h2:i<m.length)(he: ¬l[i]=m[i]): ¬l=m:=by rintro rfl;exact he rfl
theorem below_drewN {B:Nat}{a b:World}(h:Below B a b)(n:Nat):Below B a (b.drewN n):=⟨h.os,h.tape,h.output,h.size,h.block⟩
theorem same_any (a1 a2:Option Addr)(c1 c2:Nat)(l m:List ByteArray)(w:World)(h1:Hid (Strs w a1 l))(h2:Hid (Strs w a2 m))(hm:m.length≤1100000):
  Calls Tryz.prog 26 #[.slice a1 l.length c1,.slice a2 m.length c2] w fun e w'=>e= .returned (.bool (decide (l=m)))∧Below w.heap.size w w':=by
 by_cases hl:l.length=m.length
 ·rw[hl];go_enter Tryz.func26,Tryz.ntmps26;go_wp2_with fail;go_loopw [5] (fun iv wr=> ∃i:Nat,i≤m.length∧iv= .int .i64 i∧Hid (l.take i=m.take i)∧Below w.heap.size w wr) (fun iv _=>m.length- (intOf iv).toNat);case atStart=>exact⟨0,Nat.zero_le _,rfl,by show _=_;simp,Below.refl _ _⟩
  case round=>
   obtain⟨i,hi,rfl,hE,hB⟩:=hrel;by_cases c:i<m.length
   ·have c':(i:Int)<(m.length:Int):=(by omega);have cl:i<l.length:=(by omega);have hcc:=Lib.hid c;obtain⟨b1,o1,e1,f1⟩:=h1.out i cl;obtain⟨b2,o2,e2,f2⟩:=h2.out i c;have g1:=(hB.cell (World.block_lt_of_cell? w _ f1)).trans f1;have g2:=(hB.cell (World.block_lt_of_cell? w _ f2)).trans f2;obtain⟨x,hx⟩: ∃x:ByteArray,Hid (x=l[i]'cl):=⟨l[i]'cl,rfl⟩;obtain⟨y,hy⟩: ∃y:ByteArray,Hid (y=m[i]'c):=⟨m[i]'c,rfl⟩;rw[←hx.out]at g1;rw[←hy.out]at g2;clear f1 f2;subst e1 e2;by_cases hxy:x=y
    ·have hn:Hid (l.take (i+1)=m.take (i+1)):=take_next cl c hE.out (by rw[←hx.out,←hy.out,hxy]);subst hxy;go_wp2_with fail;go_quiet (fail);go_wp2_with fail;go_roundw;case rel=>exact⟨i+1,hcc.out,by go_num,hn,below_drewN hB nq⟩
     case measure=>have:=hcc.out;simp[intOf];omega
    ·have hr:decide (l=m)=false:=(by rw[decide_eq_false_iff_not];exact ne_at cl c (by rw[←hx.out,←hy.out];exact hxy));have HR:=Lib.hid hr;have hne:=str_ne hxy;clear hr hxy;go_wp2_with fail;go_quiet (fail);go_wp2_with fail;go_ret;exact⟨by rw[HR.out];rfl,below_drewN hB nq⟩
   ·obtain rfl:i=m.length:=(by omega);have c': ¬ (m.length:Int)<(m.length:Int):=(by omega);have hr:decide (l=m)=true:=(by rw[decide_eq_true_iff];have:=hE.out;rw[List.take_of_length_le (Nat.le_refl _),List.take_of_length_le (by omega)]at this;exact this);have HR:=Lib.hid hr;clear hr;go_wp2_with fail;go_ret;exact⟨by rw[HR.out];rfl,hB⟩
 ·have hr:decide (l=m)=false:=by rw[decide_eq_false_iff_not];rintro rfl;exact hl rfl
  have HR:=Lib.hid hr;have hl':((l.length:Int)==(m.length:Int))=false:=by rw[beq_eq_false_iff_ne];omega
  clear hr hl;go_enter Tryz.func26,Tryz.ntmps26;go_wp2_with fail;go_ret;exact⟨by rw[HR.out];rfl,Below.refl _ _⟩
end same
open Go.RowKit
namespace etw
open atp atw etp
open dnw (Av Avas)
open tupw (Strs strs_below)
theorem same17_eq (v1 v2:Value)(E:En)(w:World)(h1:Hid (EntV w v1 E))(h2:Hid (EntV w v2 E))(hb:Hid (Bd E)):
  Calls Tryz.prog 16 #[v1,v2] w fun e w'=>e= .returned (.bool true)∧Below w.heap.size w w':=by
 obtain⟨ro,rc,ao,ac,Nr,N,rfl,HN,HA,hac,HNr,HAv,hrc⟩:=ent_form h1.out;obtain⟨ro2,rc2,ao2,ac2,Nr2,N2,rfl,HN2,HA2,hac2,HNr2,HAv2,hrc2⟩:=ent_form h2.out;have e1:Nr=Nr2:=by rw[←HNr.out,←HNr2.out]
 have e2:N=N2:=by rw[←HN.out,←HN2.out]
 subst e1 e2;have hNrb:Nr≤100000:=by rw[←HNr.out];exact hb.out.rl
 have hNb:N≤100000:=by rw[←HN.out];exact hb.out.al
 have HVS:=Lib.hid hb.out.as_;obtain⟨rdn,L⟩:=E;simp only at HN HA HNr HAv HN2 HA2 HNr2 HAv2 HVS;obtain⟨W1,hW1⟩: ∃W,w.alloc (.cells #[.slice ro Nr rc,.slice ao N ac] 26)=W:=⟨_,rfl⟩;have hB1:Below w.heap.size w W1:=by rw[←hW1];exact(Below.refl _ _).alloc (Nat.le_refl _) _
 have hT1:EntB W1 w.heap.size (.slice ro Nr rc) (.slice ao N ac):=by rw[←hW1];exact entB_new _ _ _
 obtain⟨W2,hW2⟩: ∃W,W1.alloc (.cells #[.slice ro2 Nr rc2,.slice ao2 N ac2] 26)=W:=⟨_,rfl⟩;have hB2:Below W1.heap.size W1 W2:=by rw[←hW2];exact(Below.refl _ _).alloc (Nat.le_refl _) _
 obtain⟨q,hqq⟩: ∃q,W1.heap.size=q:=⟨_,rfl⟩;have hQ2:EntB W2 q (.slice ro2 Nr rc2) (.slice ao2 N ac2):=by rw[←hW2,←hqq];exact entB_new _ _ _
 have HB2:=Lib.hid (hB1.trans (hB2.mono hB1.size));have HT2:=Lib.hid (entB_below hT1 hB2);have HQ2:=Lib.hid hQ2;obtain⟨k0,k1⟩:=entB_cells HT2.out;obtain⟨m0,m1⟩:=entB_cells HQ2.out;have hz2:=HB2.out.size;clear hB1 hB2 hT1 hQ2 h1 h2 hb;go_enter Tryz.func16,Tryz.ntmps16;go_wp2_with fail;clear k0 k1 m0 m1 hW1 hW2 hqq;go_loopw [5] (fun iv wr=> ∃i:Nat,i≤Nr∧iv= .int .i64 (i:Int)∧Hid (Below W2.heap.size W2 wr)) (fun iv _=>Nr- (intOf iv).toNat);case atStart=>exact⟨0,Nat.zero_le _,rfl,Below.refl _ _⟩
 case round=>
  obtain⟨i,hi,rfl,hBr⟩:=hrel;have HBr:=Lib.hid (HB2.out.trans (hBr.out.mono hz2));obtain⟨k0,k1⟩:=entB_cells (entB_below HT2.out hBr.out);obtain⟨m0,m1⟩:=entB_cells (entB_below HQ2.out hBr.out);by_cases hlt:i<Nr
  ·have hltI:(i:Int)<(Nr:Int):=(by omega);have hil:i<rdn.length:=(by rw[HNr.out];exact hlt);obtain⟨b,o,hbo,x0,x1⟩:=(dnw.avas_below HAv.out HBr.out) i hil;obtain⟨b2,o2,hbo2,y0,y1⟩:=(dnw.avas_below HAv2.out HBr.out) i hil;subst hbo hbo2;generalize rdn[i]=a at x0 x1 y0 y1;go_wp2_with fail;go_quiet (fail);have HBQ:=Lib.hid (same.below_drewN hBr.out nq);clear k0 k1 m0 m1 x0 x1 y0 y1;go_wp2_with fail;go_roundw;case rel=>exact⟨i+1,by omega,by go_num,HBQ⟩
   case measure=>simp[intOf];omega
  ·obtain rfl:Nr=i:=(by omega);go_wp2_with fail;clear k0 k1 m0 m1;have HB0:=hBr;go_loopw [6] (fun iv wr=> ∃i:Nat,i≤N∧iv= .int .i64 (i:Int)∧Hid (Below W2.heap.size W2 wr)) (fun iv _=>N- (intOf iv).toNat);case atStart=>exact⟨0,Nat.zero_le _,rfl,HB0.out⟩
   case round=>
    clear HBr hBr HB0;obtain⟨i,hi,rfl,hBr⟩:=hrel;have HBr:=Lib.hid (HB2.out.trans (hBr.out.mono hz2));obtain⟨k0,z1⟩:=entB_cells (entB_below HT2.out hBr.out);obtain⟨m0,u1⟩:=entB_cells (entB_below HQ2.out hBr.out);clear k0 m0;by_cases hlt:i<N
    ·have hltI:(i:Int)<(N:Int):=(by omega);have hil:i<L.length:=(by rw[HN.out];exact hlt);obtain⟨b,o,ax,cx,hbo,x0,x1,hcx,hs1⟩:=(ats_below HA.out HBr.out) i hil;obtain⟨b2,o2,ay,cy,hbo2,y0,y1,hcy,hs2⟩:=(ats_below HA2.out HBr.out) i hil;subst hbo hbo2;have hvl:=(HVS.out L[i] (List.getElem_mem _)).2.1;obtain⟨tt,htt⟩: ∃tt,L[i].t=tt:=⟨_,rfl⟩;obtain⟨vs,hvs⟩: ∃vs,L[i].vs=vs:=⟨_,rfl⟩;rw[htt]at x0 y0;rw[hvs]at x1 y1 hcx hcy hs1 hs2 hvl;clear htt hvs;obtain⟨M,hM⟩: ∃M,vs.length=M:=⟨_,rfl⟩;have HS1:=Lib.hid hs1;have HS2:=Lib.hid hs2;have HSM:Hid (∀W,Below wr.heap.size wr W→Calls Tryz.prog 26 #[.slice ax M cx,.slice ay M cy] W fun e w'=>e= .returned (.bool true)∧Below W.heap.size W w'):=(by intro W h;have:=same.same_any ax ay cx cy vs vs W (Lib.hid (strs_below HS1.out h)) (Lib.hid (strs_below HS2.out h)) (by omega);rw[hM,decide_eq_true rfl]at this;exact this);rw[hM]at x1 y1;clear hM hcx hcy hs1 hs2 hvl HS1 HS2;have hz1:=World.block_lt_of_cell? wr _ z1;have hu1:=World.block_lt_of_cell? wr _ u1;have hx0:=World.block_lt_of_cell? wr _ x0;have hx1:=World.block_lt_of_cell? wr _ x1;have hy0:=World.block_lt_of_cell? wr _ y0;have hy1:=World.block_lt_of_cell? wr _ y1;go_wp2_with fail;refine wp_region_held_drew (S:=fun W=>W.cell? ⟨w.heap.size,1,none⟩=some (.slice (some ⟨b,o,none⟩) N ac)∧W.cell? ⟨q,1,none⟩=some (.slice (some ⟨b2,o2,none⟩) N ac2)∧W.cell? ⟨b,o+i*2,none⟩=some (.string tt)∧W.cell? ⟨b,o+i*2+1,none⟩=some (.slice ax M cx)∧W.cell? ⟨b2,o2+i*2,none⟩=some (.string tt)∧W.cell? ⟨b2,o2+i*2+1,none⟩=some (.slice ay M cy)) (by kernel_rfl) (⟨z1,u1,x0,x1,y0,y1⟩) (fun hHeld=> ?_);refine tk 0 ⟨some 48,_,_,_,_,_⟩ rfl ?_;refine tk 1 ⟨some 49,_,_,_,_,_⟩ rfl ?_;refine tk 2 ⟨some 50,_,_,_,_,_⟩ rfl ?_;refine tk 3 ⟨some 51,_,_,_,_,_⟩ rfl ?_;refine tk 4 ⟨some 52,_,_,_,_,_⟩ rfl ?_;refine tk 5 ⟨some 53,_,_,_,_,_⟩ rfl ?_;refine tk 6 ⟨some 54,_,_,_,_,_⟩ rfl ?_;refine tk 7 ⟨some 55,_,_,_,_,_⟩ rfl ?_;refine tk 8 ⟨some 56,_,_,_,_,_⟩ rfl ?_;refine tk 9 ⟨some 57,_,_,_,_,_⟩ rfl ?_;refine tk 10 ⟨some 58,_,_,_,_,_⟩ rfl ?_;refine tk 11 ⟨some 59,_,_,_,_,_⟩ rfl ?_;refine tk 12 ⟨some 60,_,_,_,_,_⟩ rfl ?_;refine tk 13 ⟨some 61,_,_,_,_,_⟩ rfl ?_;refine tk 14 ⟨some 62,_,_,_,_,_⟩ rfl ?_;refine tk 15 ⟨some 63,_,_,_,_,_⟩ rfl ?_;refine tk 16 ⟨some 64,_,_,_,_,_⟩ rfl ?_;refine tk 17 ⟨some 65,_,_,_,_,_⟩ rfl ?_;refine tk 18 ⟨some 66,_,_,_,_,_⟩ rfl ?_;refine tk 19 ⟨some 67,_,_,_,_,_⟩ rfl ?_;refine tk 20 ⟨some 68,_,_,_,_,_⟩ rfl ?_;refine tk 21 ⟨some 69,_,_,_,_,_⟩ rfl ?_;refine tk 22 ⟨some 70,_,_,_,_,_⟩ rfl ?_;refine tk 23 ⟨some 71,_,_,_,_,_⟩ rfl ?_;refine tk 24 ⟨some 72,_,_,_,_,_⟩ rfl ?_;refine tk 25 ⟨some 73,_,_,_,_,_⟩ rfl ?_;refine etw.tc 26 ⟨some 74,_,_,_,_,_⟩ rfl (fun K hK=> ?_);go_simp;go_at_call 26;refine(HSM.out _ ((Below.refl wr.heap.size wr).drew)).mono ?_;rintro e w6 ⟨rfl,hB6⟩;refine hK.out _ _ (⟨(hB6.cell (p:=⟨w.heap.size,1,none⟩) hz1).trans (z1),(hB6.cell (p:=⟨q,1,none⟩) hu1).trans (u1),(hB6.cell (p:=⟨b,o+i*2,none⟩) hx0).trans (x0),(hB6.cell (p:=⟨b,o+i*2+1,none⟩) hx1).trans (x1),(hB6.cell (p:=⟨b2,o2+i*2,none⟩) hy0).trans (y0),(hB6.cell (p:=⟨b2,o2+i*2+1,none⟩) hy1).trans (y1)⟩) (fun hHeld=> ?_);clear hK;try simp only[Act.put,List.setIfInBounds_toArray,List.set_cons_zero,List.set_cons_succ]
     refine tk 27 ⟨some 75,_,_,_,_,_⟩ rfl ?_;refine tk 28 ⟨some 76,_,_,_,_,_⟩ rfl ?_;refine wpAnyH_done (by kernel_rfl) ?_ _;have HB6:=Lib.hid (hBr.out.trans (((Below.refl wr.heap.size wr).drew.trans hB6).mono hBr.out.size));clear hHeld hB6 x0 x1 y0 y1 z1 u1;go_wp2_with fail;go_roundw;case rel=>exact⟨i+1,by omega,by go_num,HB6⟩
     case measure=>simp[intOf];omega
    ·obtain rfl:N=i:=(by omega);go_wp2_with fail;go_ret;exact⟨rfl,HBr.out⟩
end etw
open Go.RowKit
namespace lbw
open lbp atw etp etw
open dnw (Av Avas Rdns parseV nameOK printR)
open tupw (Strs strs_below)
def noEn:En:=⟨[],[]⟩
def bldN:Except Int (List (List Av) × En)→List (List Av)
 | .ok x=>x.1
 | .error _=>[]
def bldA:Except Int (List (List Av) × En)→En
 | .ok x=>x.2
 | .error _=>noEn
def codeO {α:Type}:Except Int α→Int
 | .ok _=>0
 | .error f=>f
theorem avas_none (w:World)(ao:Option Addr):Avas w ao []:=fun i hi=>absurd hi (Nat.not_lt_zero i)
theorem bldR_of {r:Except Int (List (List Av) × En)}{w:World}{e:Ending}{w':World}(h:BldR r w e w'):(∃no cap r1 n1 c1 r2 n2 c2,e= .returned (.tuple #[.slice no (bldN r).length cap,.agg #[.slice r1 n1 c1,.slice r2 n2 c2],.int .i64 (codeO r)])∧Rdns w' no (bldN r)∧EntV w' (.agg #[.slice r1 n1 c1,.slice r2 n2 c2]) (bldA r))∧Below w.heap.size w w':=by
 obtain⟨hb,h⟩:=h;cases r with
 | ok x=>obtain⟨no,cap,v,he,hn,hv⟩:=h;obtain⟨r1,n1,c1,r2,n2,c2,rfl⟩:=ent_agg hv;exact⟨⟨no,cap,r1,n1,c1,r2,n2,c2,he,hn,hv⟩,hb⟩
 | error f=>exact⟨⟨none,0,none,0,0,none,0,0,h,(fun i hi=>absurd hi (Nat.not_lt_zero i)),⟨none,0,none,0,rfl,Nat.le_refl _,Nat.le_refl _,avas_none _ _,fun i hi=>absurd hi (Nat.not_lt_zero i)⟩⟩,hb⟩
def recN:Except Int (ByteArray × List Av)→ByteArray
 | .ok x=>x.1
 | .error _=>⟨#[]⟩
def recP:Except Int (ByteArray × List Av)→List Av
 | .ok x=>x.2
 | .error _=>[]
theorem recR_of {r:Except Int (ByteArray × List Av)}{w:World}{e:Ending}{w':World}(h:RecR r w e w'):(∃po pc,e= .returned (.tuple #[.agg #[.string (recN r),.slice po (recP r).length pc],.int .i64 (codeO r)])∧Avas w' po (recP r)∧(recP r).length≤pc)∧Below w.heap.size w w':=by
 obtain⟨hb,h⟩:=h;cases r with
 | ok x=>obtain⟨po,pc,he,ha,hc⟩:=h;exact⟨⟨po,pc,he,ha,hc⟩,hb⟩
 | error f=>exact⟨⟨none,0,h,avas_none _ _,Nat.le_refl _⟩,hb⟩
theorem flat_small {n:List (List Av)}(h:longE ⟨n.flatten,[]⟩=false): ∀l∈n,dnw.Smalls l:=by have hb:=longE_no h;intro l hl x hx;have:=hb.rs x (List.mem_flatten.2 ⟨l,hl,hx⟩);omega
theorem mem_flat {l:List Av}: ∀ {n:List (List Av)},l∈n→l.length≤n.flatten.length
 | [],h=>by cases h
 | a::r,h=>by
  rw[List.flatten_cons,List.length_append];rcases List.mem_cons.1 h with rfl | h
  ·omega
  ·have:=mem_flat h;omega
theorem flat_len {n:List (List Av)}(h:longE ⟨n.flatten,[]⟩=false): ∀l∈n,l.length≤1000:=by have hb:n.flatten.length≤1000:=(longE_no h).rl;intro l hl;have:=mem_flat hl;omega
theorem bk_pairs {E:En}(h:Bk 30 E):(pairsV E.ats).length≤1000000:=by have h1:=pairs_le (k:=50) (L:=E.ats) fun a ha=>(h.as_ a ha).2.1;have h2:E.ats.length*50≤30*50:=Nat.mul_le_mul_right _ h.al;omega
end lbw
open Go.RowKit
namespace lbw
open lbp atw etp etw
open dnw (Av Avas Rdns parseV nameOK printR avas_below)
open tupw (Strs strs_below)
theorem recE_code {n:List (List Av)}{e:En}{f:Int}(h:recE n e= .error f):f≠0:=by
 unfold recE at h;split at h
 ·cases h;decide
 ·split at h
  ·cases h;decide
  ·split at h
   ·rename_i h3;injection h with h;intro h0;exact h3 (by rw[h0]at h;omega)
   ·cases h
def BackOK (r:List Av)(m:List (List Av))(ats:List At)(nm:ByteArray)(ps:List Av):Prop:=nm.size≤1000∧ps.length≤700∧(∀p∈ps,ldp.typeOK p.t.data.toList=true∧ldp.isDn p.t.data.toList=false∧p.v.size≤1200)∧bldE nm ps= .ok (r::m,⟨r,ats⟩)∧ldp.parseL (ldp.recL (recOf nm ps))= .inr [recOf nm ps]
theorem back_ok {r:List Av}{m:List (List Av)}{E:En}{nm:ByteArray}{ps:List Av}(hb:Bk 30 E)(h:recE (r::m) ⟨r,E.ats⟩= .ok (nm,ps)):BackOK r m E.ats nm ps:=by
 obtain⟨h1,h2,h3,h4,h5,h6⟩:=rec_ok h;have hty:=rec_types h2 nm;have hps:ps.length≤700:=by have a1:=pairs_le (k:=20) (L:=E.ats) fun a ha=>vals_le h2 a ha;have a2:E.ats.length*20≤30*20:=Nat.mul_le_mul_right _ hb.al;rw[h6];show(pairsV E.ats).length≤700;omega
 refine⟨?_,hps,fun p hp=> ?_,build_rec h,ldp.parse_rec _ ?_⟩
 ·rw[h4,←kt.size_len];exact h5
 ·have e1:(p.t.data.toList,p.v.data.toList)∈(recOf nm (pairsV E.ats)).pairs:=by rw[h6]at hp;exact List.mem_map.2 ⟨p,hp,rfl⟩
  have e2:=hty _ e1;refine⟨e2.1,e2.2,?_⟩;rw[h6]at hp;obtain⟨a,ha,hpa⟩:=List.mem_flatMap.1 hp;obtain⟨x,hx,rfl⟩:=List.mem_map.1 hpa;exact(hb.as_ a ha).2.2 x hx
 ·rw[h6];exact hty
theorem rdR_open {w:World}{ao:Option Addr}{nm:ByteArray}{ps:List Av}(h:ldw.RdR w ao [recOf nm ps]): ∃g o a c,ao=some ⟨g,o,none⟩∧w.cell? ⟨g,o,none⟩=some (.string nm)∧w.cell? ⟨g,o+1,none⟩=some (.slice a ps.length c)∧Avas w a ps:=by
 obtain⟨g,o,h1,h2,a,c,h3,h4⟩:=h 0 (by simp);have hl:(recOf nm ps).pairs.length=ps.length:=List.length_map _;have e0:([recOf nm ps]:List ldp.Rec)[0]=recOf nm ps:=rfl;simp only[e0]at h2 h3 h4;rw[hl]at h3;refine⟨g,o,a,c,h1,h2,h3,fun j hj=> ?_⟩;obtain⟨g',o',k1,k2,k3⟩:=h4 j (by rw[hl];exact hj);have e1:(recOf nm ps).pairs[j]'(by rw[hl];exact hj)=(ps[j].t.data.toList,ps[j].v.data.toList):=by simp[recOf]
 rw[e1]at k2 k3;exact⟨g',o',k1,k2,k3⟩
theorem parse_long (s:ByteArray)(w:World)(hs:100000<s.size):Calls Tryz.prog 44 #[.string s] w fun e w'=>e= .returned (.tuple #[.slice none 0 0,.int .i64 0,.int .i64 5])∧Below w.heap.size w w':=by
 have hsI:(100000:Int)<(s.size:Int):=by omega
 go_enter Tryz.func44,Tryz.ntmps44;go_wp2_with fail;go_ret3;exact⟨rfl,Below.refl _ _⟩
end lbw
open Go.RowKit
namespace lbw
open lbp atw etp etw
open dnw (Av Avas Rdns parseV nameOK printR avas_below)
open lbk (print1_any recT)
open tupw (Strs strs_below)
theorem back_nil (no:Option Addr)(nc:Nat)(v:Value)(E:En)(w:World)(hv:Hid (EntV w v E)):
  Calls Tryz.prog 8 #[.slice no 0 nc,v] w fun e w'=>e= .returned (.bool true)∧Below w.heap.size w w':=by
 have HAW0:Hid (∀W,Below w.heap.size w W→Calls Tryz.prog 34 #[] W fun e w'=>e= .returned (.bool true)∧Below W.heap.size W w'):=fun W _=>ldw.awake_any W;have HLE0:Hid (∀W,Below w.heap.size w W→Calls Tryz.prog 18 #[v] W fun e w'=>e= .returned (.bool (longE E))∧Below W.heap.size W w'):=fun W h=>longE_any v E W (Lib.hid (entV_below hv.out h));generalize longE E=le at HLE0;obtain⟨ro,rc,ao,ac,rfl,hrc,hac,hAv,hAt⟩:=hv.out;clear hAv hAt hv hrc hac;generalize E.rdn.length=Nr at HLE0 ⊢;generalize E.ats.length=N at HLE0 ⊢;obtain⟨w1,hw1⟩: ∃W,w.alloc (.cells #[.slice ro Nr rc,.slice ao N ac] 26)=W:=⟨_,rfl⟩;have hB1:Below w.heap.size w w1:=by rw[←hw1];exact(Below.refl _ _).alloc (Nat.le_refl _) _
 obtain⟨g,hg⟩: ∃q,w.heap.size=q:=⟨_,rfl⟩;have HE1:Hid (EntB w1 g (.slice ro Nr rc) (.slice ao N ac)):=by rw[←hw1,←hg];exact entB_new _ _ _
 have HB1:=Lib.hid hB1;obtain⟨e0,e1⟩:=entB_cells HE1.out;clear hB1;go_enter Tryz.func8,Tryz.ntmps8;go_wp2_with fail;clear hw1 hg;refine(HAW0.out w1 HB1.out).mono ?_;rintro e w2 ⟨rfl,hBc⟩;have HB2:=Lib.hid (HB1.out.trans (hBc.mono HB1.out.size));have HE2:=Lib.hid (entB_below HE1.out hBc);clear hBc e0 e1;obtain⟨e0,e1⟩:=entB_cells HE2.out;go_wp2_with fail;refine(HLE0.out w2 HB2.out).mono ?_;rintro e w3 ⟨rfl,hBc⟩;have HB3:=Lib.hid (HB2.out.trans (hBc.mono HB2.out.size));have HE3:=Lib.hid (entB_below HE2.out hBc);clear hBc e0 e1;obtain⟨e0,e1⟩:=entB_cells HE3.out;cases le with
 | true=>go_wp2_with fail;go_ret;exact⟨rfl,HB3.out⟩
 | false=>go_wp2_with fail;go_ret;exact⟨rfl,HB3.out⟩
theorem back_cons (no:Option Addr)(nc:Nat)(r:List Av)(m:List (List Av))(v:Value)(E:En)(w:World)(hN:Hid (Rdns w no (r::m)))(hl:Hid (∀l∈(r::m),l.length≤1048576))(hv:Hid (EntV w v E))(hE:Hid (EnvE w)):
  Calls Tryz.prog 8 #[.slice no (r::m).length nc,v] w fun e w'=>e= .returned (.bool true)∧Below w.heap.size w w':=by
 have HAW0:Hid (∀W,Below w.heap.size w W→Calls Tryz.prog 34 #[] W fun e w'=>e= .returned (.bool true)∧Below W.heap.size W w'):=fun W _=>ldw.awake_any W;have HLE0:Hid (∀W,Below w.heap.size w W→Calls Tryz.prog 18 #[v] W fun e w'=>e= .returned (.bool (longE E))∧Below W.heap.size W w'):=fun W h=>longE_any v E W (Lib.hid (entV_below hv.out h));obtain⟨b0,o0,ao',cap',hno,hd0,hdc,hdA⟩:=hN.out 0 (by simp);have hd0:w.cell? ⟨b0,o0,none⟩=some (.slice ao' r.length cap'):=hd0;have hdc:r.length≤cap':=hdc;have hdA:Avas w ao' r:=hdA;obtain⟨ro,rc,ao,ac,rfl,hrc,hac,hAv,hAt⟩:=hv.out;have HAL0:Hid ((r::m).length≤20→ ∀W,Below w.heap.size w W→Calls Tryz.prog 36 #[.slice no (r::m).length nc] W fun e w'=>(∃ao cap,e= .returned (.slice ao (r::m).flatten.length cap)∧EntV w' (.agg #[.slice ao (r::m).flatten.length cap,.slice none 0 0]) ⟨(r::m).flatten,[]⟩)∧Below W.heap.size W w'):=fun hn W h=>(all_any no nc (r::m) W (Lib.hid (dnw.rdns_below hN.out h)) hn hl).mono fun e w' ⟨ao,cap,he,ha,hc,hb⟩=>⟨⟨ao,cap,he,ao,cap,none,0,rfl,hc,Nat.le_refl _,ha,fun i hi=>absurd hi (Nat.not_lt_zero i)⟩,hb⟩;have HL20:Hid (∀x W,EntV W x ⟨(r::m).flatten,[]⟩→Calls Tryz.prog 18 #[x] W fun e w'=>e= .returned (.bool (longE ⟨(r::m).flatten,[]⟩))∧Below W.heap.size W w'):=fun x W h=>longE_any x _ W (Lib.hid h);have HEV:Hid (∀W,Below w.heap.size w W→EntV W (.agg #[.slice ao' r.length cap',.slice ao E.ats.length ac]) ⟨r,E.ats⟩):=fun W h=>⟨ao',cap',ao,ac,rfl,hdc,hac,avas_below hdA h,ats_below hAt h⟩;have HBD:Hid (longE E=false→longE ⟨(r::m).flatten,[]⟩=false→Bk 30 ⟨r,E.ats⟩):=fun h1 h2=>⟨by have:=flat_len h2 r (by simp);exact this,fun x hx=>(longE_no h2).rs x (List.mem_flatten.2 ⟨r,by simp,hx⟩),(longE_no h1).al,(longE_no h1).as_⟩;have HRC0:Hid (longE E=false→(r::m).length≤20→longE ⟨(r::m).flatten,[]⟩=false→ ∀W,Below w.heap.size w W→Calls Tryz.prog 39 #[.slice no (r::m).length nc,.agg #[.slice ao' r.length cap',.slice ao E.ats.length ac]] W fun e w'=>(∃po pc,e= .returned (.tuple #[.agg #[.string (recN (recE (r::m) ⟨r,E.ats⟩)),.slice po (recP (recE (r::m) ⟨r,E.ats⟩)).length pc],.int .i64 (codeO (recE (r::m) ⟨r,E.ats⟩))])∧Avas w' po (recP (recE (r::m) ⟨r,E.ats⟩))∧(recP (recE (r::m) ⟨r,E.ats⟩)).length≤pc)∧Below W.heap.size W w'):=fun h1 hn h2 W h=>(record_any no nc (r::m) _ ⟨r,E.ats⟩ W (Lib.hid (dnw.rdns_below hN.out h)) (by omega) (Lib.hid fun l hl _=>flat_small h2 l hl) (Lib.hid (HEV.out W h)) (Lib.hid (bk_bd (HBD.out h1 h2) (by omega))) (Lib.hid (bk_pairs (HBD.out h1 h2))) (Lib.hid (envE_below hE.out h))).mono fun e w' h=>recR_of h;have HBK0:Hid (codeO (recE (r::m) ⟨r,E.ats⟩)=0→longE E=false→longE ⟨(r::m).flatten,[]⟩=false→BackOK r m E.ats (recN (recE (r::m) ⟨r,E.ats⟩)) (recP (recE (r::m) ⟨r,E.ats⟩))):=by
  intro hz h1 h2;cases hq:recE (r::m) ⟨r,E.ats⟩with
  | error f=>rw[hq]at hz;exact absurd hz (recE_code hq)
  | ok x=>exact back_ok (E:=E) (longE_no h1) hq
 have HPR:Hid (∀nm ps,BackOK r m E.ats nm ps→ ∀q po pc W,RecB W q nm (.slice po ps.length pc)→Avas W po ps→ps.length≤pc→Calls Tryz.prog 43 #[.slice (some ⟨q,0,none⟩) 1 1] W fun e w'=>e= .returned (.tuple #[.string (recT nm ps),.int .i64 0])∧Below W.heap.size W w'):=fun nm ps hb q po pc W hR hA hc=>print1_any q 1 nm po pc ps W (recB_cells hR).1 (recB_cells hR).2 (Nat.le_refl _) hc (Lib.hid hA) hb.1 (by have:=hb.2.1;omega) (Lib.hid hb.2.2.1);have HPA:Hid (∀nm ps,BackOK r m E.ats nm ps→(recT nm ps).size≤100000→ ∀W,Calls Tryz.prog 44 #[.string (recT nm ps)] W fun e w'=>(∃g o a c cap,e= .returned (.tuple #[.slice (some ⟨g,o,none⟩) 1 cap,.int .i64 0,.int .i64 0])∧w'.cell? ⟨g,o,none⟩=some (.string nm)∧w'.cell? ⟨g,o+1,none⟩=some (.slice a ps.length c)∧Avas w' a ps)∧Below W.heap.size W w'):=fun nm ps hb hs W=>(ldw.parse_any (recT nm ps) W hs).mono fun e w' h=>by
  have e1:(recT nm ps).data.toList=ldp.recL (recOf nm ps):=rfl;rw[e1,hb.2.2.2.2]at h;obtain⟨hB,ao,n,cap,l,rfl,hR,hl⟩:=h;obtain⟨hn,hRd⟩:=ldw.rdR_of hR;rw[hl]at hRd;have hl1:l.length=1:=by have:=congrArg List.length hl;simpa using this
  rw[hl1]at hn;subst hn;obtain⟨g,o,a,c,rfl,k1,k2,k3⟩:=rdR_open hRd;exact⟨⟨g,o,a,c,cap,rfl,k1,k2,k3⟩,hB⟩
 have HBU:Hid (∀nm ps,BackOK r m E.ats nm ps→ ∀a c W,Avas W a ps→Below w.heap.size w W→Calls Tryz.prog 37 #[.agg #[.string nm,.slice a ps.length c]] W fun e w'=>(∃no cap r1 n1 c1 r2 n2 c2,e= .returned (.tuple #[.slice no (r::m).length cap,.agg #[.slice r1 n1 c1,.slice r2 n2 c2],.int .i64 0])∧Rdns w' no (r::m)∧EntV w' (.agg #[.slice r1 n1 c1,.slice r2 n2 c2]) ⟨r,E.ats⟩)∧Below W.heap.size W w'):=fun nm ps hb a c W hA hW=>(build_any nm a c ps W (Lib.hid hA) hb.2.1 (Lib.hid fun p hp=>by have h1:=hb.2.2.1 p hp;have h2:=h1.2.2;have h3:=(of_decide_eq_true (p:=_) (show decide _=true from h1.1)).2.1;rw[kt.size_len]at h3;exact⟨by omega,by omega⟩) (by have:=hb.1;omega) (Lib.hid (envE_below hE.out hW))).mono fun e w' h=>by rw[hb.2.2.2.1]at h;exact bldR_of h
 have HEQ:Hid (longE ⟨(r::m).flatten,[]⟩=false→(r::m).length≤20→ ∀xo ca W,Rdns W xo (r::m)→Rdns W no (r::m)→Calls Tryz.prog 41 #[.slice xo (r::m).length ca,.slice no (r::m).length nc] W fun e w'=>e= .returned (.bool true)∧Below W.heap.size W w'):=fun h2 hn xo ca W k1 k2=>(dnw.equal_any xo no ca nc _ _ W (Lib.hid k1) (Lib.hid k2) (by omega) (by omega) (Lib.hid (flat_len h2)) (Lib.hid (flat_len h2))).mono fun e w' ⟨hb,x,he,hr⟩=>⟨by rw[he,hr.2 rfl],hb⟩;have HS7:Hid (longE E=false→longE ⟨(r::m).flatten,[]⟩=false→ ∀x y W,EntV W x ⟨r,E.ats⟩→EntV W y ⟨r,E.ats⟩→Calls Tryz.prog 16 #[x,y] W fun e w'=>e= .returned (.bool true)∧Below W.heap.size W w'):=fun h1 h2 x y W k1 k2=>same17_eq x y _ W (Lib.hid k1) (Lib.hid k2) (Lib.hid (bk_bd (HBD.out h1 h2) (by omega)));have HN0:Hid (∀W,Below w.heap.size w W→Rdns W no (r::m)):=fun W h=>dnw.rdns_below hN.out h;generalize longE ⟨(r::m).flatten,[]⟩=l2 at HL20 HRC0 HBK0 HEQ HS7;generalize longE E=le at HLE0 HRC0 HBK0 HS7;generalize recN (recE (r::m) ⟨r,E.ats⟩)=RN at HRC0 HBK0;generalize recP (recE (r::m) ⟨r,E.ats⟩)=RP at HRC0 HBK0;generalize codeO (recE (r::m) ⟨r,E.ats⟩)=rcd at HRC0 HBK0;generalize(r::m).flatten.length=fl at HAL0;have hM1:1≤(r::m).length:=by simp
 have HRN:=Lib.hid (rfl:r::m=r::m);obtain⟨M,hM⟩: ∃k,(r::m).length=k:=⟨_,rfl⟩;rw[hM]at HAL0 HRC0 HEQ hM1 HBU ⊢;obtain⟨pl,hpl⟩: ∃k,RP.length=k:=⟨_,rfl⟩;rw[hpl]at HRC0;have hplH:=Lib.hid hpl;have hltb:=World.block_lt_of_cell? w _ hd0;subst hno;generalize r.length=rl at HEV HRC0 hd0 hdc;have hdc:=Lib.hid hdc;have HEA:Hid (∀x,BackOK r m E.ats x RP→BackOK r m E.ats x RP):=fun _ h=>h;generalize hna:E.rdn.length=Nr at HLE0 ⊢;generalize hnb:E.ats.length=N at HLE0 HRC0 HEV ⊢;clear hM hpl hN hl hv hE HBD hAv hAt hrc hac hna hnb hdA HRN HEA;obtain⟨w1,hw1⟩: ∃W,w.alloc (.cells #[.slice ro Nr rc,.slice ao N ac] 26)=W:=⟨_,rfl⟩;have hB1:Below w.heap.size w w1:=by rw[←hw1];exact(Below.refl _ _).alloc (Nat.le_refl _) _
 obtain⟨g,hg⟩: ∃q,w.heap.size=q:=⟨_,rfl⟩;have HE1:Hid (EntB w1 g (.slice ro Nr rc) (.slice ao N ac)):=by rw[←hw1,←hg];exact entB_new _ _ _
 have HGW:Hid (w.heap.size≤g):=by rw[←hg];exact Nat.le_refl _
 have HB1:=Lib.hid hB1;obtain⟨e0,e1⟩:=entB_cells HE1.out;clear hB1;go_enter Tryz.func8,Tryz.ntmps8;go_wp2_with fail;clear hw1 hg;refine(HAW0.out w1 HB1.out).mono ?_;rintro e w2 ⟨rfl,hBc⟩;have HB2:=Lib.hid (HB1.out.trans (hBc.mono HB1.out.size));have HE2:=Lib.hid (entB_below HE1.out hBc);clear hBc e0 e1;obtain⟨e0,e1⟩:=entB_cells HE2.out;go_wp2_with fail;refine(HLE0.out w2 HB2.out).mono ?_;rintro e w3 ⟨rfl,hBc⟩;have HB3:=Lib.hid (HB2.out.trans (hBc.mono HB2.out.size));have HE3:=Lib.hid (entB_below HE2.out hBc);clear hBc e0 e1;obtain⟨e0,e1⟩:=entB_cells HE3.out;cases le with
 | true=>go_wp2_with fail;go_ret;exact⟨rfl,HB3.out⟩
 | false=>
  have HRC1:=Lib.hid (HRC0.out rfl);have HBK1:=Lib.hid (fun hz=>HBK0.out hz rfl);have HS70:=Lib.hid (HS7.out rfl);clear HS7 HBK0 HRC0 HLE0 HAW0;by_cases hM20:M≤20
  ·have hMI: ¬ (20:Int)<(M:Int):=(by omega);have hM0: ¬ (M:Int)=0:=(by omega);have hM0':((M:Int)==0)=false:=(by rw[beq_eq_false_iff_ne];exact hM0);have HAL:=Lib.hid (HAL0.out hM20);have HRC2:=Lib.hid (HRC1.out hM20);clear HAL0 HRC1;go_wp2_with fail;refine(HAL.out w3 HB3.out).mono ?_;rintro e w4 ⟨⟨fo,fc,rfl,hFV⟩,hBc⟩;have HB4:=Lib.hid (HB3.out.trans (hBc.mono HB3.out.size));have HE4:=Lib.hid (entB_below HE3.out hBc);have HFV:=Lib.hid hFV;clear hFV;clear hBc e0 e1;obtain⟨e0,e1⟩:=entB_cells HE4.out;go_wp2_with fail;refine(HL20.out _ w4 HFV.out).mono ?_;rintro e w5 ⟨rfl,hBc⟩;have HB5:=Lib.hid (HB4.out.trans (hBc.mono HB4.out.size));have HE5:=Lib.hid (entB_below HE4.out hBc);clear HFV;clear hBc e0 e1;obtain⟨e0,e1⟩:=entB_cells HE5.out;cases l2 with
   | true=>go_wp2_with fail;go_ret;exact⟨rfl,HB5.out⟩
   | false=>
    have HRC:=Lib.hid (HRC2.out rfl);have HEQ1:=Lib.hid (HEQ.out rfl hM20);have HS71:=Lib.hid (HS70.out rfl);have HBK2:=Lib.hid (fun hz=>HBK1.out hz rfl);clear HRC2 HAL HL20 HEQ HS70 HBK1 hM20;have d0:=(HB5.out.cell (p:=⟨b0,o0,none⟩) hltb).trans hd0;have f0:=Lib.frozen_of_heap HE5.out 0;have hMI0:(0:Int)<(M:Int):=(by omega);obtain⟨w6,hw6⟩: ∃W,w5.setCell ⟨g,0,none⟩ (.slice ao' rl cap')=W:=⟨_,rfl⟩;have HE6:Hid (EntB w6 g (.slice ao' rl cap') (.slice ao N ac)):=(by rw[←hw6];exact entB_set0 HE5.out _);have HB6:Hid (Below w.heap.size w w6):=(by rw[←hw6];exact HB5.out.setCell (p:=⟨g,0,none⟩) HGW.out _);obtain⟨s0,s1⟩:=entB_cells HE6.out;go_wp2_with fail;clear hw6 d0 f0 e0 e1 hMI0 hM0 hM0' hMI;refine(HRC.out w6 HB6.out).mono ?_;rintro e w7 ⟨⟨po1,pc1,rfl,hA1,hc1⟩,hBc⟩;have HB7:=Lib.hid (HB6.out.trans (hBc.mono HB6.out.size));have HE7:=Lib.hid (entB_below HE6.out hBc);clear s0 s1;have HA7:=Lib.hid hA1;clear hA1 hBc;obtain⟨e0,e1⟩:=entB_cells HE7.out;obtain⟨w8,hw8⟩: ∃W,w7.alloc (.cells #[.string RN,.slice po1 pl pc1] 54)=W:=⟨_,rfl⟩;have hBc:Below w7.heap.size w7 w8:=(by rw[←hw8];exact(Below.refl _ _).alloc (Nat.le_refl _) _);obtain⟨q1,hq1⟩: ∃q,w7.heap.size=q:=⟨_,rfl⟩;have HZ8:Hid (RecB w8 q1 RN (.slice po1 pl pc1)):=(by rw[←hw8,←hq1];exact recB_new _ _ _);have HB8:=Lib.hid (HB7.out.trans (hBc.mono HB7.out.size));have HE8:=Lib.hid (entB_below HE7.out hBc);have HA8:=Lib.hid (dnw.avas_below HA7.out hBc);clear hBc e0 e1;obtain⟨e0,e1⟩:=entB_cells HE8.out;obtain⟨z0,z1⟩:=recB_cells HZ8.out;by_cases hze:rcd=0
    rotate_left 1
    ·have hneI:(rcd !=0)=true:=(by rw[bne_iff_ne];exact hze);clear HBK2;go_wp2_with fail;go_ret;exact⟨rfl,HB8.out⟩
    ·have HBK:=Lib.hid (HBK2.out hze);clear HBK2;subst hze;obtain⟨w9,hw9⟩: ∃W,w8.alloc (.cells #[.string RN,.slice po1 pl pc1] 54)=W:=⟨_,rfl⟩;have hBc:Below w8.heap.size w8 w9:=(by rw[←hw9];exact(Below.refl _ _).alloc (Nat.le_refl _) _);obtain⟨q2,hq2⟩: ∃q,w8.heap.size=q:=⟨_,rfl⟩;have HF9:Hid (RecB w9 q2 RN (.slice po1 pl pc1)):=(by rw[←hw9,←hq2];exact recB_new _ _ _);have HB9:=Lib.hid (HB8.out.trans (hBc.mono HB8.out.size));have HE9:=Lib.hid (entB_below HE8.out hBc);have HA9:=Lib.hid (dnw.avas_below HA8.out hBc);have HZ9:=Lib.hid (recB_below HZ8.out hBc);have HPR1:=Lib.hid (HPR.out RN RP HBK.out);have HPA1:=Lib.hid (HPA.out RN RP HBK.out);have HBU1:=Lib.hid (HBU.out RN RP HBK.out);rw[hplH.out]at HPR1 HPA1 HBU1;clear HPR HPA HBU;generalize recT RN RP=T at HPR1 HPA1;go_wp2_with fail;clear hw8 hq1 hw9 hq2 hBc e0 e1 z0 z1;refine(HPR1.out q2 po1 pc1 w9 HF9.out HA9.out hc1).mono ?_;rintro e w10 ⟨rfl,hBc⟩;have HB10:=Lib.hid (HB9.out.trans (hBc.mono HB9.out.size));have HE10:=Lib.hid (entB_below HE9.out hBc);have HA10:=Lib.hid (dnw.avas_below HA9.out hBc);have HZ10:=Lib.hid (recB_below HZ9.out hBc);clear hBc;by_cases hT:T.size≤100000
     ·have hTI:(T.size:Int)≤100000:=(by omega);have HPA2:=Lib.hid (HPA1.out hT);clear HPA1 HPR1;go_wp2_with fail;refine(HPA2.out w10).mono ?_;rintro e w11 ⟨⟨g3,o3,a3,c3,cap3,rfl,k0,k1,hA3⟩,hBc⟩;have HB11:=Lib.hid (HB10.out.trans (hBc.mono HB10.out.size));have HE11:=Lib.hid (entB_below HE10.out hBc);have HA11:=Lib.hid (dnw.avas_below HA10.out hBc);have HZ11:=Lib.hid (recB_below HZ10.out hBc);have HC11:=Lib.hid hA3;clear hBc hA3;go_wp2_with fail;refine(HBU1.out a3 c3 w11 HC11.out HB11.out).mono ?_;rintro e w12 ⟨⟨no4,cap4,r1,n1,c1,r2,n2,c2,rfl,hN4,hV4⟩,hBc⟩;have HB12:=Lib.hid (HB11.out.trans (hBc.mono HB11.out.size));have HE12:=Lib.hid (entB_below HE11.out hBc);have HA12:=Lib.hid (dnw.avas_below HA11.out hBc);have HZ12:=Lib.hid (recB_below HZ11.out hBc);have HN12:=Lib.hid hN4;have HV12:=Lib.hid hV4;clear hN4 hV4 hBc k0 k1;obtain⟨w13,hw13⟩: ∃W,w12.alloc (.cells #[.slice r1 n1 c1,.slice r2 n2 c2] 26)=W:=⟨_,rfl⟩;have hBc:Below w12.heap.size w12 w13:=(by rw[←hw13];exact(Below.refl _ _).alloc (Nat.le_refl _) _);obtain⟨q4,hq4⟩: ∃q,w12.heap.size=q:=⟨_,rfl⟩;have HQ13:Hid (EntB w13 q4 (.slice r1 n1 c1) (.slice r2 n2 c2)):=(by rw[←hw13,←hq4];exact entB_new _ _ _);have HB13:=Lib.hid (HB12.out.trans (hBc.mono HB12.out.size));have HE13:=Lib.hid (entB_below HE12.out hBc);have HA13:=Lib.hid (dnw.avas_below HA12.out hBc);have HZ13:=Lib.hid (recB_below HZ12.out hBc);have HN13:=Lib.hid (dnw.rdns_below HN12.out hBc);have HV13:=Lib.hid (entV_below HV12.out hBc);go_wp2_with fail;clear hw13 hq4 hBc;refine(HEQ1.out no4 cap4 w13 HN13.out (HN0.out w13 HB13.out)).mono ?_;rintro e w14 ⟨rfl,hBc⟩;have HB14:=Lib.hid (HB13.out.trans (hBc.mono HB13.out.size));have HE14:=Lib.hid (entB_below HE13.out hBc);have HA14:=Lib.hid (dnw.avas_below HA13.out hBc);have HZ14:=Lib.hid (recB_below HZ13.out hBc);have HN14:=Lib.hid (dnw.rdns_below HN13.out hBc);have HV14:=Lib.hid (entV_below HV13.out hBc);have HQ14:=Lib.hid (entB_below HQ13.out hBc);clear hBc;obtain⟨e0,e1⟩:=entB_cells HE14.out;obtain⟨x0,x1⟩:=entB_cells HQ14.out;go_wp2_with fail;clear e0 e1 x0 x1;refine(HS71.out _ _ w14 HV14.out (HEV.out w14 HB14.out)).mono ?_;rintro e w15 ⟨rfl,hBc⟩;have HB15:=Lib.hid (HB14.out.trans (hBc.mono HB14.out.size));have HE15:=Lib.hid (entB_below HE14.out hBc);have HA15:=Lib.hid (dnw.avas_below HA14.out hBc);have HZ15:=Lib.hid (recB_below HZ14.out hBc);have HN15:=Lib.hid (dnw.rdns_below HN14.out hBc);have HV15:=Lib.hid (entV_below HV14.out hBc);have HQ15:=Lib.hid (entB_below HQ14.out hBc);go_wp2_with fail;go_ret;exact⟨rfl,HB15.out⟩
     ·have hTI: ¬ (T.size:Int)≤100000:=(by omega);have HPL:=Lib.hid (parse_long T w10 (by omega));clear HPA1 HPR1;go_wp2_with fail;refine HPL.out.mono ?_;rintro e w11 ⟨rfl,hBc⟩;have HB11:=Lib.hid (HB10.out.trans (hBc.mono HB10.out.size));have HE11:=Lib.hid (entB_below HE10.out hBc);go_wp2_with fail;go_ret;exact⟨rfl,HB11.out⟩
  ·have hMI:(20:Int)<(M:Int):=(by omega);go_wp2_with fail;go_ret;exact⟨rfl,HB3.out⟩
theorem back_law (no:Option Addr)(nc:Nat)(n:List (List Av))(v:Value)(E:En)(w:World)(hN:Hid (Rdns w no n))(hl:Hid (∀l∈n,l.length≤1048576))(hv:Hid (EntV w v E))(hE:Hid (EnvE w)):
  Calls Tryz.prog 8 #[.slice no n.length nc,v] w fun e w'=>e= .returned (.bool true)∧Below w.heap.size w w':=by
 cases n with
 | nil=>exact back_nil no nc v E w hv
 | cons r m=>exact back_cons no nc r m v E w hN hl hv hE
end lbw
open Go.RowKit Go.ChangeShapes Go.WideShapes Go.Deep
namespace opn
theorem cell_spot {w:World}{b o:Nat}{sp:Option Nat}{v:Value}(h:w.cell? ⟨b,o,sp⟩=some v):sp=none:=by
 cases sp with
 | none=>rfl
 | some x=>unfold World.cell? at h;simp at h;split at h<;>cases h
theorem list_of {α:Type}{Q:Nat→α→Prop}: ∀ (n:Nat),(∀i,i<n→ ∃c,Q i c)→ ∃l:List α,l.length=n∧ ∀i (h:i<l.length),Q i l[i]:=by
 intro n;induction n with
 | zero=>intro _;exact⟨[],rfl,fun i h=>by simp at h⟩
 | succ n ih=>
  intro h;obtain⟨l,hl,hq⟩:=ih (fun i hi=>h i (by omega));obtain⟨c,hc⟩:=h n (by omega);refine⟨l++[c],by simp[hl],fun i hi=> ?_⟩;by_cases e:i<l.length
  ·rw[List.getElem_append_left e];exact hq i e
  ·have:i=n:=(by simp at hi;omega);subst this;rw[List.getElem_append_right (by omega)];simpa using hc
section
variable {H : Type} {enc : TypeId × Value → H} {P : Program} {w : World} {base : Nat} {spare : Nat → Bool} {held : Bool}
theorem open_slice_fields {t e:TypeId}{fs:Array Field}{fuel:Nat}{cs:List Value}{x:DataW H × List MemPlace}(ht:P.underlying t=some (.slice e))(he:P.underlying e=some (.struct fs))
  (hone:oneCellFields P fs=true) (hC:P.cellsOf e=fs.size) (h:DataW.trod enc P w base spare held fuel t cs=some x):
  (cs=[.slice none 0 0]∧x=(.nil,[]))∨
  ∃ (a:Addr) (len cap m:Nat) (D:Nat→DataW H) (Pl:Nat→List MemPlace),cs=[.slice (some a) len cap]∧base≤a.block∧len≤cap∧cap≤maxLen∧m=(if spare a.block then cap else len)∧
   x=(.slice ((List.range len).map D) ((List.range (m-len)).map fun j=>D (len+j)),MemPlace.row a (m*fs.size)++(List.range m).flatMap Pl)∧
   ∀i,i<m→ ∃ (ys:List (DataW H × List MemPlace)) (n:Nat),D i= .agg (ys.map (·.1))∧Pl i=ys.flatMap (·.2)∧ys.length=fs.size∧
    ∀ (j:Nat) (f:Field),fs[j]? =some f→ ∃ (v:Value) (y:DataW H × List MemPlace),w.cell? (a.add (i*fs.size+j))=some v∧ys[j]? =some y∧DataW.trod enc P w base spare held n f.type [v]=some y:=by
 rcases open_slice ht h with h0 | ⟨a,len,cap,m,n,D,Pl,hcs,hb,hl,hm,hmm,hx,hi⟩
 ·exact .inl h0
 ·refine .inr ⟨a,len,cap,m,D,Pl,hcs,hb,hl,hm,hmm,by rw[hC]at hx;exact hx,fun i him=> ?_⟩;obtain⟨cs',hc,ht'⟩:=hi i him;rw[hC]at hc;obtain⟨ys,n',hn',hy,hlen,hyl,hf⟩:=DataW.trod_struct he ht';obtain⟨_,hcl,hat⟩:=World.cells?_some hc;simp only[Prod.mk.injEq]at hy;refine⟨ys,n',hy.1,hy.2,hyl,fun j f hj=> ?_⟩;obtain⟨ho,hk⟩:=hone_of hone j f hj;have hjl:j<fs.size:=(Array.getElem?_eq_some_iff.1 hj).1;have hcell:=hat j hjl;have hv:cs'[j]? =some (cs'[j]'(by omega)):=List.getElem?_eq_getElem (by omega);have h1:=hf j f hj;rw[ho,hk]at h1;have hone':(cs'.drop j).take 1=[cs'[j]'(by omega)]:=by rw[List.drop_eq_getElem_cons (by omega)];rfl
  rw[hone']at h1;have hys:ys[j]? =some (ys[j]'(by omega)):=List.getElem?_eq_getElem (by omega);refine⟨_,_,?_,hys,h1.trans hys⟩;rw[←Go.Deep.add_add,hcell,hv]
end
end opn
open Go.RowKit Go.ChangeShapes Go.WideShapes Go.Deep
namespace dnw
theorem avas_of {H:Type}{enc:TypeId × Value→H}{w:World}{base:Nat}{sp:Nat→Bool}{held:Bool}{cs:List Value}{x:DataW H × List MemPlace}{fuel:Nat}
  (h:DataW.trod enc Tryz.prog w base sp held fuel 23 cs=some x): ∃ (ao:Option Addr) (l:List Av) (cap:Nat),cs=[.slice ao l.length cap]∧l.length≤cap∧l.length≤9223372036854775807∧Avas w ao l:=by
 rcases opn.open_slice_fields Tryz.underlying23 Tryz.underlying51 (by kernel_rfl) (by kernel_rfl) h with⟨hcs,_⟩ | ⟨a,len,cap,m,D,Pl,hcs,_,hlc,hcm,hm,_,hf⟩
 ·exact⟨none,[],0,hcs,Nat.le_refl _,by simp,fun i hi=>by simp at hi⟩
 ·have hlm:len≤m:=by rw[hm];split<;>omega
  have hlmax:len≤9223372036854775807:=by unfold maxLen at hcm;omega
  have key: ∀i,i<len→ ∃c:Av,∃b o,some a=some ⟨b,o,none⟩∧w.cell? ⟨b,o+i*2,none⟩=some (.string c.t)∧w.cell? ⟨b,o+i*2+1,none⟩=some (.string c.v):=by
   intro i hi;obtain⟨ys,n,_,_,_,hfs⟩:=hf i (by omega);obtain⟨v0,y0,c0,_,t0⟩:=hfs 0 _ rfl;obtain⟨v1,y1,c1,_,t1⟩:=hfs 1 _ rfl;obtain⟨k,e0,_⟩:=DataW.trod_string Tryz.underlying9 t0;obtain⟨y,e1,_⟩:=DataW.trod_string Tryz.underlying9 t1;simp only[List.cons.injEq,and_true]at e0 e1;subst e0 e1;have hcell: ∃b o,a=⟨b,o,none⟩:=(by obtain⟨ys0,n0,_,_,_,hfs0⟩:=hf 0 (by omega);obtain⟨v,y,c,_,_⟩:=hfs0 0 _ rfl;obtain⟨b,o,s⟩:=a;have e0:(⟨b,o,s⟩:Addr).add (0*2+0)=⟨b,o,s⟩:=(by unfold Addr.add;rfl);have hc:w.cell? ((⟨b,o,s⟩:Addr).add (0*2+0))=some v:=c;rw[e0]at hc;obtain rfl:=opn.cell_spot hc;exact⟨b,o,rfl⟩);obtain⟨b,o',rfl⟩:=hcell;have ad: ∀j,(⟨b,o',none⟩:Addr).add j=⟨b,o'+j,none⟩:=fun j=>by rw[Addr.add_mid]
   have d0:w.cell? ((⟨b,o',none⟩:Addr).add (i*2+0))=_:=c0;have d1:w.cell? ((⟨b,o',none⟩:Addr).add (i*2+1))=_:=c1;rw[ad]at d0 d1;exact⟨⟨k,y⟩,b,o',rfl,d0,by rw[Nat.add_assoc];exact d1⟩
  obtain⟨l,hl,hq⟩:=opn.list_of len key;subst hl;exact⟨some a,l,cap,hcs,hlc,hlmax,hq⟩
end dnw
open Go.RowKit
namespace tupo
open tupw
theorem cell_spot {w:World}{b o:Nat}{sp:Option Nat}{v:Value}(h:w.cell? ⟨b,o,sp⟩=some v):sp=none:=by
 cases sp with
 | none=>rfl
 | some x=>unfold World.cell? at h;simp at h;split at h<;>cases h
theorem texts_of {H:Type}{enc:TypeId × Value→H}{P:Program}{w:World}{base:Nat}{sp:Nat→Bool}{held:Bool}{t e:TypeId}{d:DataW H}{p:List MemPlace}{ao:Option Addr}{len cap:Nat}
  (ht:P.underlying t=some (.slice e)) (he:P.underlying e=some .string) (hc:P.cellsOf e=1)
  (h: ∃fuel,DataW.trod enc P w base sp held fuel t [.slice ao len cap]=some (d,p)): ∃l:List ByteArray,len=l.length∧Strs w ao l∧(∀s∈l,s.size≤maxLen)∧len≤maxLen∧len≤cap∧(ao=none→len=0∧cap=0):=by
 obtain⟨fuel,h⟩:=h;rcases ChangeShapes.open_strings ht he hc h with⟨hcs,_⟩ | ⟨a,len',cap',ss,hcs,_,hlc,hcm,hlen,_,hcell,hsm⟩
 ·simp at hcs;obtain⟨rfl,rfl,rfl⟩:=hcs;exact⟨[],rfl,fun i hi=>by simp at hi,fun s hs=>by simp at hs,by omega,by omega,fun _=>⟨rfl,rfl⟩⟩
 ·simp at hcs;obtain⟨rfl,rfl,rfl⟩:=hcs;have hle:len≤ss.length:=by rw[hlen];split<;>omega
  refine⟨ss.take len,by simp;omega,fun i hi=> ?_,fun s hs=>hsm s (List.mem_of_mem_take hs),by omega,hlc,fun e=>by simp at e⟩;have hi':i<len:=by simp at hi;omega
  have hc2:=hcell i (by omega);obtain⟨b,o,spt⟩:=a;have hsp:spt=none:=by
   cases spt with
   | none=>rfl
   | some x=>exfalso;have hz:=hcell 0 (by omega);have e0:(⟨b,o,some x⟩:Addr).add 0=⟨b,o,some x⟩:=(by unfold Addr.add;rfl);rw[e0]at hz;exact absurd (cell_spot hz) (by simp)
  subst hsp;refine⟨b,o,rfl,?_⟩;rw[Addr.add_mid]at hc2;rw[hc2,List.getElem_take];simp[List.getD,List.getElem?_eq_getElem (show i<ss.length by omega)]
end tupo
open Go.RowKit Go.ChangeShapes Go.WideShapes Go.Deep
namespace etw
open etp
open dnw (Av Avas)
open tupw (Strs)
theorem strs_any {H:Type}{enc:TypeId × Value→H}{w:World}{base:Nat}{sp:Nat→Bool}{held:Bool}{cs:List Value}{x:DataW H × List MemPlace}{fuel:Nat}
  (h:DataW.trod enc Tryz.prog w base sp held fuel 35 cs=some x): ∃ (ao:Option Addr) (l:List ByteArray) (cap:Nat),cs=[.slice ao l.length cap]∧l.length≤cap∧l.length≤9223372036854775807∧Strs w ao l:=by
 obtain⟨ao,len,cap,hcs⟩: ∃ao len cap,cs=[.slice ao len cap]:=by
  rcases ChangeShapes.open_strings Tryz.underlying35 Tryz.underlying9 (by kernel_rfl) h with⟨hcs,_⟩ | ⟨a,len',cap',ss,hcs,_⟩
  ·exact⟨_,_,_,hcs⟩
  ·exact⟨_,_,_,hcs⟩
 subst hcs;obtain⟨d,p⟩:=x;obtain⟨l,hlen,hS,_,hm,hc,_⟩:=tupo.texts_of Tryz.underlying35 Tryz.underlying9 (by kernel_rfl) ⟨fuel,h⟩;subst hlen;unfold maxLen at hm;exact⟨ao,l,cap,rfl,hc,by omega,hS⟩
theorem ats_of {H:Type}{enc:TypeId × Value→H}{w:World}{base:Nat}{sp:Nat→Bool}{held:Bool}{cs:List Value}{x:DataW H × List MemPlace}{fuel:Nat}
  (h:DataW.trod enc Tryz.prog w base sp held fuel 24 cs=some x): ∃ (ao:Option Addr) (l:List At) (cap:Nat),cs=[.slice ao l.length cap]∧l.length≤cap∧l.length≤9223372036854775807∧Ats w ao l∧ ∀a∈l,a.vs.length≤9223372036854775807:=by
 rcases opn.open_slice_fields Tryz.underlying24 Tryz.underlying43 (by kernel_rfl) (by kernel_rfl) h with⟨hcs,_⟩ | ⟨a,len,cap,m,D,Pl,hcs,_,hlc,hcm,hm,_,hf⟩
 ·exact⟨none,[],0,hcs,Nat.le_refl _,by simp,fun i hi=>by simp at hi,fun a ha=>by simp at ha⟩
 ·have hlm:len≤m:=by rw[hm];split<;>omega
  have hlmax:len≤9223372036854775807:=by unfold maxLen at hcm;omega
  have key: ∀i,i<len→ ∃c:At,(∃b o ax cx,some a=some ⟨b,o,none⟩∧w.cell? ⟨b,o+i*2,none⟩=some (.string c.t)∧w.cell? ⟨b,o+i*2+1,none⟩=some (.slice ax c.vs.length cx)∧c.vs.length≤cx∧Strs w ax c.vs)∧c.vs.length≤9223372036854775807:=by
   intro i hi;obtain⟨ys,n,_,_,_,hfs⟩:=hf i (by omega);obtain⟨v0,y0,c0,_,t0⟩:=hfs 0 _ rfl;obtain⟨v1,y1,c1,_,t1⟩:=hfs 1 _ rfl;obtain⟨k,e0,_⟩:=DataW.trod_string Tryz.underlying9 t0;obtain⟨ax,vs,cx,e1,g1,g2,g3⟩:=strs_any t1;simp only[List.cons.injEq,and_true]at e0 e1;subst e0 e1;have hcell: ∃b o,a=⟨b,o,none⟩:=(by obtain⟨ys0,n0,_,_,_,hfs0⟩:=hf 0 (by omega);obtain⟨v,y,c,_,_⟩:=hfs0 0 _ rfl;obtain⟨b,o,s⟩:=a;have e0:(⟨b,o,s⟩:Addr).add (0*2+0)=⟨b,o,s⟩:=(by unfold Addr.add;rfl);have hc:w.cell? ((⟨b,o,s⟩:Addr).add (0*2+0))=some v:=c;rw[e0]at hc;obtain rfl:=opn.cell_spot hc;exact⟨b,o,rfl⟩);obtain⟨b,o',rfl⟩:=hcell;have ad: ∀j,(⟨b,o',none⟩:Addr).add j=⟨b,o'+j,none⟩:=fun j=>by rw[Addr.add_mid]
   have d0:w.cell? ((⟨b,o',none⟩:Addr).add (i*2+0))=_:=c0;have d1:w.cell? ((⟨b,o',none⟩:Addr).add (i*2+1))=_:=c1;rw[ad]at d0 d1;exact⟨⟨k,vs⟩,⟨b,o',ax,cx,rfl,d0,by rw[Nat.add_assoc];exact d1,g1,g3⟩,g2⟩
  obtain⟨l,hl,hq⟩:=opn.list_of len key;subst hl;refine⟨some a,l,cap,hcs,hlc,hlmax,fun i hi=>(hq i hi).1,fun c hc=> ?_⟩;obtain⟨i,hi,rfl⟩:=List.mem_iff_getElem.1 hc;exact(hq i hi).2
theorem ent_of {H:Type}{enc:TypeId × Value→H}{w:World}{base:Nat}{sp:Nat→Bool}{held:Bool}{r:Reach}{b0:Nat}{v:Value}{d:DataW H}{p:List MemPlace}
  (hv:Value.okWide Tryz.prog w r b0 26 v) (h:DataW.Trod enc Tryz.prog w base sp held 26 v d p): ∃e:En,EntV w v e∧e.rdn.length≤9223372036854775807∧e.ats.length≤9223372036854775807∧ ∀a∈e.ats,a.vs.length≤9223372036854775807:=by
 obtain⟨v0,v1,y0,y1,n,rfl,_,_,h0,h1⟩:=Joins.open_agg2 Tryz.underlying26 (by kernel_rfl) (by kernel_rfl) hv h;obtain⟨ro,l,rc,e0,g0,g1,g2⟩:=dnw.avas_of h0;obtain⟨ao,m,ac,e1,k0,k1,k2,k3⟩:=ats_of h1;simp only[List.cons.injEq,and_true]at e0 e1;subst e0 e1;exact⟨⟨l,m⟩,⟨ro,rc,ao,ac,rfl,g0,k0,g2,k2⟩,g1,k1,k3⟩
end etw
open Go.RowKit Go.ChangeShapes Go.WideShapes Go.Deep
namespace lbw
open dnw (Av Avas Rdns)
theorem bulk_pos {H:Type}(d:DataW H):1≤Rows.uptoBulk d:=by unfold Rows.uptoBulk;split<;>omega
theorem bulk_len {H:Type}: ∀l:List (DataW H),l.length≤Rows.uptoBulkAll l
 | []=>Nat.le_refl _
 | d::r=>by have h1:=bulk_pos d;have h2:=bulk_len r;rw[List.length_cons];unfold Rows.uptoBulkAll;omega
theorem bulk_mem {H:Type}{d:DataW H}: ∀ {l:List (DataW H)},d∈l→Rows.uptoBulk d≤Rows.uptoBulkAll l
 | [],h=>by cases h
 | a::r,h=>by
  unfold Rows.uptoBulkAll;rcases List.mem_cons.1 h with rfl | h
  ·omega
  ·have:=bulk_mem h;omega
section
variable {H : Type} {enc : TypeId × Value → H} {w : World} {base : Nat} {sp : Nat → Bool} {held : Bool}
theorem avas_bulk {cs:List Value}{x:DataW H × List MemPlace}{fuel:Nat}
  (h:DataW.trod enc Tryz.prog w base sp held fuel 23 cs=some x): ∃ (ao:Option Addr) (l:List Av) (cap:Nat),cs=[.slice ao l.length cap]∧l.length≤cap∧Avas w ao l∧l.length≤Rows.uptoBulk x.1:=by
 obtain⟨ao,l,cap,hcs,h1,_,h3⟩:=dnw.avas_of h;refine⟨ao,l,cap,hcs,h1,h3,?_⟩;rcases DataW.trod_slice Tryz.underlying23 h with⟨hcs2,hx⟩ | ⟨a,len,cap',elems,rest,m,_,hcs2,hx,_,_,_,hlen,_⟩
 ·rw[hcs]at hcs2;simp only[List.cons.injEq,Value.slice.injEq,and_true]at hcs2;omega
 ·rw[hcs]at hcs2;simp only[List.cons.injEq,Value.slice.injEq,and_true]at hcs2;rw[hx];show _≤Rows.uptoBulk (.slice (elems.map (·.1)) (rest.map (·.1)));unfold Rows.uptoBulk;have h4:=bulk_len (elems.map (·.1));rw[List.length_map]at h4;omega
theorem rdns_bulk {d:DataW H}{p:List MemPlace}{ao:Option Addr}{len cap:Nat}
  (h: ∃fuel,DataW.trod enc Tryz.prog w base sp held fuel 55 [.slice ao len cap]=some (d,p)): ∃n:List (List Av),len=n.length∧Rdns w ao n∧len≤cap∧ ∀l∈n,l.length≤Rows.uptoBulk d:=by
 obtain⟨fuel,h⟩:=h;rcases open_slice1 Tryz.underlying55 (by kernel_rfl) h with⟨hcs,_⟩ | ⟨a,len',cap',m,n,V,D,Pl,hcs,_,hlc,hcm,hm,hx,hf⟩
 ·simp at hcs;obtain⟨rfl,rfl,rfl⟩:=hcs;exact⟨[],rfl,fun i hi=>by simp at hi,Nat.le_refl _,by simp⟩
 ·simp at hcs;obtain⟨rfl,rfl,rfl⟩:=hcs;have hlm:len≤m:=by rw[hm];split<;>omega
  have hd: ∀i,i<len→Rows.uptoBulk (D i)≤Rows.uptoBulk d:=by
   intro i hi;have e:d= .slice ((List.range len).map D) ((List.range (m-len)).map fun j=>D (len+j)):=congrArg Prod.fst hx;rw[e];have h1:=bulk_mem (d:=D i) (l:=(List.range len).map D) (List.mem_map.2 ⟨i,List.mem_range.2 hi,rfl⟩);conv=>rhs;unfold Rows.uptoBulk
   omega
  have key: ∀i,i<len→ ∃l:List Av,(∃b o ao' cap',some a=some ⟨b,o,none⟩∧w.cell? ⟨b,o+i,none⟩=some (.slice ao' l.length cap')∧l.length≤cap'∧Avas w ao' l)∧l.length≤Rows.uptoBulk d:=by intro i hi;obtain⟨hc,ht⟩:=hf i (by omega);obtain⟨ao',l,cap',hv,h1,h3,h4⟩:=avas_bulk ht;simp only[List.cons.injEq,and_true]at hv;rw[hv]at hc;have hcell: ∃b o,a=⟨b,o,none⟩:=(by obtain⟨c,_⟩:=hf 0 (by omega);obtain⟨b,o,s⟩:=a;have e0:(⟨b,o,s⟩:Addr).add 0=⟨b,o,s⟩:=(by unfold Addr.add;rfl);rw[e0]at c;obtain rfl:=opn.cell_spot c;exact⟨b,o,rfl⟩);obtain⟨b,o',rfl⟩:=hcell;rw[Addr.add_mid]at hc;exact⟨l,⟨b,o',ao',cap',rfl,hc,h1,h3⟩,Nat.le_trans h4 (hd i hi)⟩
  obtain⟨n,hl,hq⟩:=opn.list_of len key;subst hl;refine⟨n,rfl,fun i hi=>(hq i hi).1,hlc,fun l hl=> ?_⟩;obtain⟨i,hi,rfl⟩:=List.mem_iff_getElem.1 hl;exact(hq i hi).2
end
end lbw
open Go.RowKit
namespace atw
open atp
def tyData:DataW Unit:= .agg (tys.map fun t=> .agg [.lit (.string t.name),.lit (.int .i64 t.syn),.lit (.bool t.single)])
theorem rows_take {α β:Type}(f:β→List α)(n:Nat): ∀ (l:List β) (cs:List α),(∀i (h:i<l.length),(cs.drop (i*n)).take n=f l[i])→cs.take (l.length*n)=l.flatMap f:=by
 intro l;induction l with
 | nil=>intro cs _;simp
 | cons b r ih=>intro cs h;have h0:=h 0 (by simp);rw[Nat.zero_mul,List.drop_zero]at h0;have h1:=ih (cs.drop n) (by intro i hi;have:=h (i+1) (by simp;omega);rw[List.drop_drop,show n+i*n=(i+1)*n by rw[Nat.add_mul,Nat.one_mul,Nat.add_comm]];exact this);rw[List.flatMap_cons,List.length_cons,show(r.length+1)*n=n+r.length*n by rw[Nat.add_mul,Nat.one_mul,Nat.add_comm],List.take_add,h0,h1];rfl
theorem trod_ty {H:Type}{enc:TypeId × Value→H}{w:World}{base:Nat}{sp:Nat→Bool}{held:Bool}{fuel:Nat}{cs:List Value}{q:List MemPlace}{t:Ty}
  (h:DataW.trod enc Tryz.prog w base sp held fuel 108 cs=some (.agg [.lit (.string t.name),.lit (.int .i64 t.syn),.lit (.bool t.single)],q)):cs=tval t:=by
 obtain⟨y0,y1,y2,n,hx,hl,h0,h1,h2⟩:=Deep.trod_struct3 Tryz.underlying108 h;obtain⟨s,e0,rfl,_⟩:=DataW.trod_string Tryz.underlying9 h0;obtain⟨z,e1,rfl,_⟩:=DataW.trod_int Tryz.underlying3 h1;obtain⟨b,e2,rfl⟩:=DataW.trod_bool Tryz.underlying4 h2;have hx1:=congrArg Prod.fst hx;simp only[DataW.agg.injEq,List.cons.injEq,DataW.lit.injEq,Lit.string.injEq,Lit.int.injEq,Lit.bool.injEq,true_and,and_true]at hx1;obtain⟨x0,x1,x2⟩:=hx1;have k0:Tryz.prog.cellsOf 9=1:=by kernel_rfl
 have k1:Tryz.prog.cellsOf 3=1:=by kernel_rfl
 have k2:Tryz.prog.cellsOf 4=1:=by kernel_rfl
 have k3:Tryz.prog.cellsOf 108=3:=by kernel_rfl
 rw[k3]at hl;obtain⟨a,b',c,rfl⟩: ∃a b' c,cs=[a,b',c]:=by
  match cs,hl with
  | [a,b',c],_=>exact⟨a,b',c,rfl⟩
 ·skip
  have e0':[a]=[Value.string s]:=by simpa[k0]using e0
  have e1':[b']=[Value.int .i64 z]:=by simpa[k1]using e1
  have e2':[c]=[Value.bool b]:=by simpa[k2]using e2
  cases e0';cases e1';cases e2';unfold tval bs;rw[x0,x1,x2]
theorem tyEnv_of_reads {w:World}(h:Lib.VarReads Tryz.prog w "rollbook/attr.types" tyData):Hid (TyEnv w):=by
 obtain⟨g,t,cs,fuel,p,hg,hty,hvar,hd⟩:=h;obtain rfl:=Option.some.inj ((show Tryz.prog.globalNamed "rollbook/attr.types" =some 0 by kernel_rfl).symm.trans hg);obtain rfl:=Option.some.inj ((show(Tryz.prog.globals[0]?).map (·.type)=some 169 by kernel_rfl).symm.trans hty);have k3:Tryz.prog.cellsOf 108=3:=by kernel_rfl
 have hall:=rows_take tval 3 tys cs.toList (by intro i hi;obtain⟨fuel',d,q,hdi,he⟩:=Lib.array_elem Tryz.underlying169 hd i hi;rw[List.getElem?_map,List.getElem?_eq_getElem hi]at hdi;simp only[Option.map_some,Option.some.injEq]at hdi;subst hdi;rw[k3]at he;exact trod_ty he);intro j v hj;have hlt:j<60:=by
  have h1:=(List.getElem?_eq_some_iff.1 hj).1;have h2:tcells.length=60:=by kernel_rfl
  omega
 have hj2:(cs.toList.take (tys.length*3))[j]? =some v:=by rw[hall];exact hj
 rw[List.getElem?_take,if_pos (by rw[tys_len];omega)]at hj2;rw[Nat.zero_add,World.var?_cell hg hvar j,←Array.getElem?_toList];exact hj2
end atw
end Go.Proofs.YtmnpfkbjpeaemaaGreatDoor
