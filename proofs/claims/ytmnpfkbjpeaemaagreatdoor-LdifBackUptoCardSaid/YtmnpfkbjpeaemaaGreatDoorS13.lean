/- One text out of several: LdDec, LdDec2, LdPairW, LdLinesW, LdRecM, LdParseW, LdParseV, LdSam. -/
import Derived.Test.YtmnpfkbjpeaemaaGreatDoorS12
import Derived.Test.YtmnpfkbjpeaemaaGreatDoorS6
import Derived.Test.YtmnpfkbjpeaemaaGreatDoorS5
set_option linter.unusedVariables false
set_option linter.unusedSimpArgs false
set_option maxRecDepth 100000
set_option maxHeartbeats 16000000
namespace Go.Proofs.YtmnpfkbjpeaemaaGreatDoor
open Go.RowKit
def FourRes (o:Option (List UInt8))(B:Nat)(d:List UInt8)(w:World)(e:Ending)(w':World):Prop:=
 match o with
 | none=>e= .returned (.tuple #[.slice none 0 0,.bool false])∧Below w.heap.size w w'
 | some r=> ∃v,e= .returned (.tuple #[v,.bool true])∧w'.ownsRow B 5 1 v (Lib.byteCells (d++r)).length (Lib.byteCells (d++r))∧Below B w w'
theorem ix_any (c:UInt8)(w:World):Calls Tryz.prog 175 #[.string {data:=#[65,66,67,68,69,70,71,72,73,74,75,76,77,78,79,80,81,82,83,84,85,86,87,88,89,90,97,98,99,100,101,102,103,104,105,106,107,108,109,110,111,112,113,114,115,116,117,118,119,120,121,122,48,49,50,51,52,53,54,55,56,57,43,47]},.int .u8 (c.toNat:Int)] w fun e w'=>e= .returned (.int .i64 (b64p.idx c))∧w=w':=by refine(Tryz.strings_IndexByte _ (c.toNat:Int) w).mono ?_;rintro e w' ⟨rfl,rfl⟩;refine⟨kt.ret_int ?_,rfl⟩;unfold b64p.idx b64p.letters;rw[show(c.toNat:Int).toNat.toUInt8=c from by simp]
theorem four_any (t:ByteArray)(ht:t.size=4)(B:Nat)(v:Value)(d:List UInt8)(hd:d.length≤130000)(w:World)(hO:Hid (w.ownsRow B 5 1 v (Lib.byteCells d).length (Lib.byteCells d)))(hBw:B≤w.heap.size):
  Calls Tryz.prog 220 #[.string t,v] w (FourRes (b64p.fourD t.data.toList) B d w):=by
 go_enter Tryz.func220,Tryz.ntmps220;go_wp2_with fail;go_loop [6,7,11] (fun nv pv iv=> ∃ (i N p:Nat),i≤4∧iv= .int .i64 i∧nv= .int .i64 N∧pv= .int .i64 p∧p≤i∧Hid (N<64 ^ i)∧Hid (b64p.fRun (t.data.toList.drop i) N p=b64p.fRun t.data.toList 0 0)) (fun _ _ iv=>4- (intOf iv).toNat);case atStart=>exact⟨0,0,0,by omega,rfl,rfl,rfl,by omega,by show _<_;simp,rfl⟩
 case round=>
  obtain⟨i,N,p,hi,rfl,rfl,rfl,hp,hN,hR⟩:=hrel;by_cases hi4:i<4
  ·have hlt:i<t.size:=(by omega);have hN3:N<262144:=(by have h2:64 ^ i≤64 ^ 3:=Nat.pow_le_pow_right (by omega) (by omega);have h3:(64:Nat) ^ 3=262144:=(by decide);have:=hN.out;omega);have hdrop:t.data.toList.drop i=t[i]::t.data.toList.drop (i+1):=List.drop_eq_getElem_cons (by simpa using hlt);have hR2:=hR.out;rw[hdrop]at hR2;have HR:=Lib.hid hR2;clear hR2 hdrop;obtain⟨c,hc⟩: ∃c:UInt8,Hid (c=t[i]):=⟨t[i],rfl⟩;rw[←hc.out]at HR;obtain⟨x,hx⟩: ∃x:Int,Hid (x=b64p.idx c):=⟨_,rfl⟩;have hxb: -1≤x∧x≤63:=(by rw[hx.out];exact b64p.idx_le c);obtain⟨hx1,hx2⟩:=hxb;have C:Hid (∀W:World,Calls Tryz.prog 175 #[.string {data:=#[65,66,67,68,69,70,71,72,73,74,75,76,77,78,79,80,81,82,83,84,85,86,87,88,89,90,97,98,99,100,101,102,103,104,105,106,107,108,109,110,111,112,113,114,115,116,117,118,119,120,121,122,48,49,50,51,52,53,54,55,56,57,43,47]},.int .u8 (c.toNat:Int)] W fun e w'=>e= .returned (.int .i64 x)∧W=w'):=(by intro W;rw[hx.out];exact ix_any c W);have hce:t[i]=c:=hc.out.symm;by_cases hpad:c=61
   ·have q1:((c.toNat:Int)==61)=true:=(by rw[hpad];rfl);have q2:((c.toNat:Int) !=61)=false:=(by rw[hpad];rfl);have e1:bits .or .i64 ((N:Int)*64) 0=((64*N:Nat):Int):=(by have h:=kt.i64_or_low 6 N 0 (by omega) (by omega);rw[show(N:Int)*64=((2 ^ 6*N:Nat):Int)from by omega];exact h);have HP:=Lib.hid hpad;clear hpad;go_wp2_with fail;refine(C.out _).mono ?_;rintro e w' ⟨rfl,rfl⟩;go_wp2_with fail;go_round;case rel=>exact⟨i+1,64*N,p+1,by omega,by go_num,rfl,by go_num,by omega,by show _<_;have:=hN.out;rw[Nat.pow_succ];omega,by show _=_;rw[←HR.out,HP.out];simp only[b64p.fRun,if_true];rw[Nat.mul_comm]⟩
    case measure=>simp[intOf];omega
   ·have q1:((c.toNat:Int)==61)=false:=(by rw[beq_eq_false_iff_ne];intro h;apply hpad;apply UInt8.toNat_inj.1;show c.toNat=61;omega);have q2:((c.toNat:Int) !=61)=true:=(by rw[bne_iff_ne];intro h;apply hpad;apply UInt8.toNat_inj.1;show c.toNat=61;omega);have HP:=Lib.hid hpad;clear hpad;by_cases hbad:x<0∨0<p
    ·have hnone:b64p.fourD t.data.toList=none:=(by unfold b64p.fourD;rw[←HR.out];simp only[b64p.fRun];rw[if_neg HP.out,if_pos (by rw[←hx.out];exact hbad)]);have HN:=Lib.hid hnone;clear hnone;by_cases hx0:x<0
     ·clear hbad;go_wp2_with fail;refine(C.out _).mono ?_;rintro e w' ⟨rfl,rfl⟩;go_wp2_with fail;go_ret2;unfold FourRes;rw[HN.out];exact⟨rfl,Below.refl _ _⟩
     ·have hp0:0<p:=(by omega);clear hbad;go_wp2_with fail;refine(C.out _).mono ?_;rintro e w' ⟨rfl,rfl⟩;go_wp2_with fail;go_ret2;unfold FourRes;rw[HN.out];exact⟨rfl,Below.refl _ _⟩
    ·have hx0:0≤x:=(by omega);have hp0:p=0:=(by omega);have HB:=Lib.hid hbad;clear hbad;subst hp0;obtain⟨X,rfl⟩:=Int.eq_ofNat_of_zero_le hx0;have e1:bits .or .i64 ((N:Int)*64) (X:Int)=((64*N+X:Nat):Int):=(by have h:=kt.i64_or_low 6 N X (by omega) (by omega);rw[show(N:Int)*64=((2 ^ 6*N:Nat):Int)from by omega];exact h);go_wp2_with fail;refine(C.out _).mono ?_;rintro e w' ⟨rfl,rfl⟩;go_wp2_with fail;go_round;case rel=>exact⟨i+1,64*N+X,0,by omega,by go_num,rfl,rfl,by omega,by show _<_;have:=hN.out;rw[Nat.pow_succ];omega,by show _=_;rw[←HR.out];simp only[b64p.fRun];rw[if_neg HP.out,if_neg (by rw[←hx.out];exact HB.out),←hx.out,Nat.mul_comm];rfl⟩
     case measure=>simp[intOf];omega
  ·obtain rfl:i=4:=(by omega);have hfin:b64p.fRun t.data.toList 0 0=some (N,p):=(by rw[←hR.out,List.drop_of_length_le (by rw[kt.size_len];omega)];rfl);have hN4:N<16777216:=(by have h3:(64:Nat) ^ 4=16777216:=(by decide);have:=hN.out;omega);by_cases hp2:2<p
   ·have hnone:b64p.fourD t.data.toList=none:=(by unfold b64p.fourD;rw[hfin];simp only[];rw[if_pos hp2]);have HN:=Lib.hid hnone;clear hnone hfin;go_wp2_with fail;go_ret2;unfold FourRes;rw[HN.out];exact⟨rfl,Below.refl _ _⟩
   ·have hsome:b64p.fourD t.data.toList=some ((b64p.three N).take (3-p)):=(by unfold b64p.fourD;rw[hfin];simp only[];rw[if_neg hp2]);have HS:=Lib.hid hsome;clear hsome hfin;have q0:((UInt8.ofNat (N / 65536)).toNat:Int)=(N:Int) / 65536:=(by rw[UInt8.toNat_ofNat'];omega);have q1:((UInt8.ofNat (N / 256)).toNat:Int)=(N:Int) / 256 % 256:=(by rw[UInt8.toNat_ofNat'];omega);have q2:((UInt8.ofNat N).toNat:Int)=(N:Int) % 256:=(by rw[UInt8.toNat_ofNat'];omega);obtain⟨m,hm⟩: ∃m:Nat,Hid (m=3-p):=⟨3-p,rfl⟩;have hm3:m≤3:=(by have:=hm.out;omega);have em:(3:Int)- (p:Int)=(m:Int):=(by have:=hm.out;omega);obtain⟨v',w1,hap,hO1,hg1,hB1⟩:=kt.appN (P:=Tryz.prog) (ty:=131) (w:=w.alloc (.cells #[.int .u8 ((N:Int) / 65536),.int .u8 ((N:Int) / 256 % 256),.int .u8 ((N:Int) % 256)] 5)) Tryz.underlying131 bld.infoByte rfl ⟨w.heap.size,0,none⟩ m 3 (Lib.byteCells ((b64p.three N).take m))
     (by rw[Lib.byteCells_length,List.length_take];simp[b64p.three];omega)
     (fun j u hj=>by
      have e:(⟨w.heap.size,0,none⟩:Addr).add j=⟨w.heap.size,j,none⟩:=by
       unfold Addr.add;split
       ·rename_i hj0;rw[hj0]
       ·simp
      rw[e,World.cell?_alloc_new,←q0,←q1,←q2];have hjm:j<m:=(by have:=(List.getElem?_eq_some_iff.1 hj).1;rw[Lib.byteCells_length,List.length_take]at this;omega);have h3:(Lib.byteCells (b64p.three N))[j]? =some u:=(by rw[←hj];unfold Lib.byteCells;rw[List.getElem?_map,List.getElem?_map,List.getElem?_take,if_pos hjm]);rw[←h3]
      match j,hjm,hm3 with
      | 0,_,_=>rfl
      | 1,_,_=>rfl
      | 2,_,_=>rfl
      | j+3,h,_=>omega)
     (fun u hu=>by simp only[Lib.byteCells,List.mem_map]at hu;obtain⟨x,_,rfl⟩:=hu;rfl)
     (hO.out.alloc _) (by rw[Lib.byteCells_length];unfold maxLen;omega) (by rw[Lib.byteCells_length];omega) (by simp;omega)
    have HO1:=Lib.hid hO1;have HG1:=Lib.hid hg1;clear hO1 hg1 q0 q1 q2;go_wp2_with (at_builtin;refine Lib.wpList_append_run _ rfl _ _ _ _ rfl _ _ rfl rfl _ _ hap ?_);go_ret2;unfold FourRes;rw[HS.out];refine⟨_,rfl,?_,((Below.refl _ _).alloc hBw _).trans hB1⟩;rw[Lib.byteCells_append,←hm.out];exact HO1.out
open Go.RowKit
def DecRes (o:Option (List UInt8))(w:World)(e:Ending)(w':World):Prop:=e= .returned (b64p.uhV o)∧Below w.heap.size w w'
theorem bstr_ne {a b:ByteArray}(h:a≠b):(a.toList==b.toList)=false:=by rw[beq_eq_false_iff_ne];intro e;apply h;apply kt.str_eq;rw[←Lib.toList_data,←Lib.toList_data,e]
theorem decode_any (s:ByteArray)(w:World)(hs:s.size≤100000):
  Calls Tryz.prog 177 #[.string s] w (DecRes (b64p.D s.data.toList) w):=by
 by_cases hodd:s.size % 4≠0
 ·have ho:b64p.D s.data.toList=none:=by unfold b64p.D;rw[if_pos (by rw[kt.size_len];exact hodd)]
  have HO:=Lib.hid ho;have q1:((s.size:Int) % 4 !=0)=true:=by rw[bne_iff_ne];omega
  clear ho hodd;go_enter Tryz.func177,Tryz.ntmps177;go_wp2_with fail;go_ret2;exact⟨by rw[HO.out];rfl,Below.refl _ _⟩
 ·have q1:((s.size:Int) % 4 !=0)=false:=by rw[bne_eq_false_iff_eq];omega
  have hodd':Hid (s.size % 4=0):=by show _=_;omega
  have HD0:Hid (b64p.D s.data.toList=match b64p.decL s.data.toList with | none=>none | some b=>if b64p.enc b=s.data.toList then some b else none):=by show _=_;unfold b64p.D;rw[if_neg (by rw[kt.size_len];exact hodd)];rfl
  clear hodd;go_enter Tryz.func177,Tryz.ntmps177;go_wp2_with fail;go_loopw [4,5] (fun bv iv wr=> ∃ (i:Nat) (d:List UInt8),i≤s.size∧Hid (i % 4=0)∧d.length≤i∧iv= .int .i64 i∧Hid (wr.ownsRow w.heap.size 5 1 bv (Lib.byteCells d).length (Lib.byteCells d))∧Hid (b64p.decL s.data.toList=(b64p.decL (s.data.toList.drop i)).map (d++ ·))∧Below w.heap.size w wr) (fun _ iv _=>s.size- (intOf iv).toNat);case atStart=>exact⟨0,[],Nat.zero_le _,rfl,by simp,rfl,World.ownsRow_nil _ _ _ _,by show _=_;simp,Below.refl _ _⟩
  case round=>
   obtain⟨i,d,hi,hpar,hd,rfl,hO,hU,hB⟩:=hrel;have hsz:=hB.size;by_cases hlt:i<s.size
   ·have hi4:i+4≤s.size:=(by have:=hpar.out;have:=hodd'.out;omega);obtain⟨t,htx⟩: ∃t:ByteArray,Hid (t=s.extract i (i+4)):=⟨_,rfl⟩;have htd:t.data.toList=(s.data.toList.drop i).take 4:=(by rw[htx.out,Lib.extract_data];simp);have ht4:t.size=4:=(by rw[←kt.size_len,htd,List.length_take,List.length_drop,kt.size_len];omega);have hcons:=b64p.decL_cons (l:=s.data.toList.drop i) (by intro e;have:=congrArg List.length e;simp at this;omega);rw[←htd,List.drop_drop]at hcons;have HC:=Lib.hid hcons;have HT4:=Lib.hid ht4;have HTD:=Lib.hid htd;clear hcons ht4 htd;have f3:(i:Int)+4≤(s.size:Int):=(by omega);have f6:((i:Int)+4).toNat=i+4:=(by omega);have ex:s.extract i (i+4)=t:=htx.out.symm;have C:=four_any t HT4.out w.heap.size;have CC:Hid (∀bv,Hid (wr.ownsRow w.heap.size 5 1 bv (Lib.byteCells d).length (Lib.byteCells d))→Calls Tryz.prog 220 #[.string t,bv] wr (FourRes (b64p.fourD t.data.toList) w.heap.size d wr)):=fun bv h=>C bv d (by omega) wr h hsz;clear C;cases hfd:b64p.fourD t.data.toList with
    | none=>have hnone:b64p.D s.data.toList=none:=(by rw[HD0.out,hU.out,HC.out,hfd];rfl);rw[hfd]at CC;have HN:=Lib.hid hnone;clear hnone hfd;go_wp2_with fail;refine(CC.out _ hO).mono ?_;intro e w1 h1;unfold FourRes at h1;obtain⟨rfl,hB1⟩:=h1;go_wp2_with fail;go_ret2;exact⟨by rw[HN.out];rfl,hB.trans (hB1.mono hsz)⟩
    | some r=>
     have hr3:=b64p.fourD_len hfd;have hsome:b64p.decL s.data.toList=(b64p.decL (s.data.toList.drop (i+4))).map ((d++r)++ ·):=(by rw[hU.out,HC.out,hfd,Option.map_map];congr 1;funext x;simp);rw[hfd]at CC;have HS:=Lib.hid hsome;clear hsome hfd;go_wp2_with fail;refine(CC.out _ hO).mono ?_;intro e w1 h1;unfold FourRes at h1;obtain⟨v1,rfl,hO1,hB1⟩:=h1;have HO1:=Lib.hid hO1;clear hO1;go_wp2_with fail;go_roundw;case rel=>
      exact⟨i+4,d++r,by omega,by show _=_;have:=hpar.out;omega,by rw[List.length_append];omega,by go_num,HO1.out,HS.out,hB.trans hB1⟩
     case measure=>simp[intOf];omega
   ·obtain rfl:i=s.size:=(by omega);have hst:=kt.str_of_row (P:=Tryz.prog) (dst:=9) Tryz.underlying131 Tryz.underlying5 Tryz.underlying9 hO.out;have hfin:b64p.decL s.data.toList=some d:=(by rw[hU.out,List.drop_of_length_le (by simp),b64p.decL_nil];simp);obtain⟨en,hen⟩: ∃en:ByteArray,Hid (en=⟨(b64p.enc d).toArray⟩):=⟨⟨(b64p.enc d).toArray⟩,rfl⟩;have C:Hid (Calls Tryz.prog 170 #[.string ⟨d.toArray⟩] wr fun e w'=>e= .returned (.string en)∧Below wr.heap.size wr w'):=(by rw[hen.out];exact encode_any ⟨d.toArray⟩ wr (by show d.toArray.size≤_;simp;omega));have hstB:Hid (∀w1,Below wr.heap.size wr w1→(convert 131 9 _).run Tryz.prog w1= .ok (.string ⟨d.toArray⟩) w1):=fun w1 hb=>kt.str_of_row (P:=Tryz.prog) (dst:=9) Tryz.underlying131 Tryz.underlying5 Tryz.underlying9 (kt.row_below hO.out hb);by_cases heq:en=s
    ·have hsome:b64p.D s.data.toList=some d:=(by rw[HD0.out,hfin];simp only[];rw[if_pos (by rw[←heq,hen.out])]);have HS:=Lib.hid hsome;clear hsome hfin;have heq':=heq.symm;clear heq;subst heq';go_wp2_with fail;refine C.out.mono ?_;rintro e w1 ⟨rfl,hB1⟩;have hst2:=hstB.out w1 hB1;go_wp2_with fail;go_ret2;exact⟨by rw[HS.out];rfl,hB.trans (hB1.mono hsz)⟩
    ·have hnone:b64p.D s.data.toList=none:=(by rw[HD0.out,hfin];simp only[];rw[if_neg (by intro e;apply heq;apply kt.str_eq;rw[hen.out,←e])]);have HN:=Lib.hid hnone;have hne:=bstr_ne heq;clear hnone hfin;go_wp2_with fail;refine C.out.mono ?_;rintro e w1 ⟨rfl,hB1⟩;go_wp2_with fail;go_ret2;exact⟨by rw[HN.out];rfl,hB.trans (hB1.mono hsz)⟩
open Go.RowKit
namespace ldw
open ldp
def PairE (o:Option (List UInt8 × List UInt8))(w:World)(e:Ending)(w':World):Prop:=
 Below w.heap.size w w'∧match o with
  | none=> ∃t v:ByteArray,e= .returned (.tuple #[.agg #[.string t,.string v],.bool false])
  | some p=>e= .returned (.tuple #[.agg #[.string ⟨p.1.toArray⟩,.string ⟨p.2.toArray⟩],.bool true])
theorem pairE_none {o:Option (List UInt8 × List UInt8)}{w w':World}{t v:ByteArray}(h:o=none)(hb:Below w.heap.size w w'):PairE o w (.returned (.tuple #[.agg #[.string t,.string v],.bool false])) w':=by subst h;exact⟨hb,t,v,rfl⟩
theorem pairE_some {o:Option (List UInt8 × List UInt8)}{w w':World}{t v:ByteArray}(h:o=some (t.data.toList,v.data.toList))(hb:Below w.heap.size w w'):PairE o w (.returned (.tuple #[.agg #[.string t,.string v],.bool true])) w':=by subst h;exact⟨hb,rfl⟩
def PC (w:World)(p:Nat):Prop:= ∃x y:ByteArray,w.heap[p]? =some (.cells #[.string x,.string y] 51 (0,0))
theorem pc_cells {w:World}{p:Nat}(h:PC w p):(∃x,w.cell? ⟨p,0,none⟩=some (.string x))∧(∃y,w.cell? ⟨p,1,none⟩=some (.string y))∧w.frozen? ⟨p,0,none⟩=false∧w.frozen? ⟨p,1,none⟩=false:=by obtain⟨x,y,h⟩:=h;exact⟨⟨x,by rw[Lib.cell_of_heap h];rfl⟩,⟨y,by rw[Lib.cell_of_heap h];rfl⟩,Lib.frozen_of_heap h 0,Lib.frozen_of_heap h 1⟩
theorem pc_below {w w':World}{p:Nat}(h:PC w p)(hb:Below w.heap.size w w'):PC w' p:=by obtain⟨x,y,h⟩:=h;exact⟨x,y,(hb.block p (bld.lt_of_heap h)).trans h⟩
theorem pc_new (w:World):PC (w.alloc (.cells #[.string ByteArray.empty,.string ByteArray.empty] 51)) w.heap.size:=⟨_,_,heap_alloc_new w _⟩
theorem pc_store {w:World}{p:Nat}(h:PC w p)(a b:ByteArray):((w.setCell ⟨p,0,none⟩ (.string a)).setCell ⟨p,1,none⟩ (.string b)).cell? ⟨p,0,none⟩=some (.string a)∧((w.setCell ⟨p,0,none⟩ (.string a)).setCell ⟨p,1,none⟩ (.string b)).cell? ⟨p,1,none⟩=some (.string b):=by
 obtain⟨⟨x,h0⟩,⟨y,h1⟩,_,_⟩:=pc_cells h;have k0:=World.cell?_setCell_same w ⟨p,0,none⟩ (.string a) h0;have k1:(w.setCell ⟨p,0,none⟩ (.string a)).cell? ⟨p,1,none⟩=some (.string y):=by rw[World.cell?_setCell_other _ _ _ _ (by intro hh;injection hh with _ h _;cases h),h1]
 refine⟨?_,World.cell?_setCell_same _ _ _ k1⟩;rw[World.cell?_setCell_other _ _ _ _ (by intro hh;injection hh with _ h _;cases h),k0]
theorem below_store {B:Nat}{w w':World}(h:Below B w w'){p:Nat}(hp:B≤p)(a b:Value):Below B w ((w'.setCell ⟨p,0,none⟩ a).setCell ⟨p,1,none⟩ b):=(h.setCell (p:=⟨p,0,none⟩) hp a).setCell (p:=⟨p,1,none⟩) hp b
theorem pre_one (l:List UInt8)(c:UInt8):Lib.hasPrefix l [c]=decide (l.head?=some c):=by
 unfold Lib.hasPrefix;cases l with
 | nil=>simp[List.isPrefixOf]
 | cons d t=>simp only[List.isPrefixOf,Bool.and_true,List.head?_cons,Option.some.injEq];rw[Bool.eq_iff_iff,beq_iff_eq,decide_eq_true_iff];exact eq_comm
theorem pair_any (s:ByteArray)(w:World)(hs:s.size≤100000):Calls Tryz.prog 109 #[.string s] w (PairE (pairL s.data.toList) w):=by
 by_cases hm:(58:UInt8)∈s.data.toList
 ·obtain⟨A,R,hAR,hA⟩:=splitL hm;have hsz:s.size=A.length+R.length+1:=by rw[←kt.size_len,hAR];simp;omega
  have HP:=Lib.hid (pairL_at (R:=R) hA);rw[←hAR]at HP;obtain⟨a,ha⟩: ∃a:ByteArray,Hid (a=⟨A.toArray⟩):=⟨_,rfl⟩;obtain⟨r,hr⟩: ∃a:ByteArray,Hid (a=⟨R.toArray⟩):=⟨_,rfl⟩;have HC:Hid (∀w,Calls Tryz.prog 172 #[.string s,.string ⟨#[58]⟩] w fun e w'=>e= .returned (.tuple #[.string a,.string r,.bool true])∧Below w.heap.size w w'):=by intro w;rw[ha.out,hr.out];exact cut_hit s 58 A R w (by omega) hAR hA
  have hae:A=a.data.toList:=by rw[ha.out]
  have hre:R=r.data.toList:=by rw[hr.out]
  have has:a.size≤100000:=by rw[←kt.size_len,←hae];omega
  have hrs:r.size≤100000:=by rw[←kt.size_len,←hre];omega
  rw[hae,hre]at HP;clear hAR hA hsz hm ha hr hae hre;clear A R;have HT:Hid (∀w,Calls Tryz.prog 103 #[.string a] w fun e w'=>e= .returned (.bool (typeOK a.data.toList))∧w=w'):=fun w=>rightType_any a w (by omega);go_enter Tryz.func109,Tryz.ntmps109;go_wp2_with fail;refine(HC.out _).mono ?_;rintro e w1 ⟨rfl,hB1⟩;have HPC1:=Lib.hid (pc_below (pc_new w) hB1);have HB1:Hid (Below w.heap.size w w1):=((Below.refl _ w).alloc (Nat.le_refl _) _).trans (hB1.mono (by simp));have hw1:w.heap.size<w1.heap.size:=by have:=hB1.size;simp at this;omega
  clear hB1;by_cases hty:typeOK a.data.toList=true
  ·rw[if_pos hty]at HP;have HT1:Hid (∀w,Calls Tryz.prog 103 #[.string a] w fun e w'=>e= .returned (.bool true)∧w=w'):=fun w=>by rw[←hty];exact HT.out w
   clear hty HT;go_wp2_with fail;refine(HT1.out _).mono ?_;rintro e w2 ⟨rfl,rfl⟩;have HCP:Hid (∀w,Calls Tryz.prog 174 #[.string r,.string ⟨#[58]⟩] w fun e w'=>e= .returned (.tuple #[.string ⟨(Lib.trimPrefix r.data.toList [58]).toArray⟩,.bool (decide (r.data.toList.head?=some 58))])∧w=w'):=(by intro w;refine(Tryz.strings_CutPrefix r ⟨#[58]⟩ w).mono ?_;rintro e w' ⟨rfl,rfl⟩;refine⟨?_,rfl⟩;rw[←pre_one]);by_cases hco:r.data.toList.head?=some 58
   ·rw[if_pos hco]at HP;obtain⟨q,hq⟩: ∃q:ByteArray,Hid (q=⟨r.data.toList.tail.toArray⟩):=⟨_,rfl⟩;obtain⟨v,hv⟩: ∃q:ByteArray,Hid (q=⟨(r.data.toList.tail.dropWhile (· ==32)).toArray⟩):=⟨_,rfl⟩;have HCP1:Hid (∀w,Calls Tryz.prog 174 #[.string r,.string ⟨#[58]⟩] w fun e w'=>e= .returned (.tuple #[.string q,.bool true])∧w=w'):=(by intro w;have h1:=HCP.out w;have hd:decide (r.data.toList.head?=some 58)=true:=decide_eq_true hco;have hx:Lib.trimPrefix r.data.toList [58]=r.data.toList.tail:=(by unfold Lib.trimPrefix;rw[pre_one,hd,if_pos rfl];simp);rw[hd,hx,←hq.out]at h1;exact h1);have HTL:Hid (∀w,Calls Tryz.prog 178 #[.string q,.string ⟨#[32]⟩] w fun e w'=>e= .returned (.string v)∧w=w'):=(by intro w;refine(Tryz.strings_TrimLeft_one q 32 (by decide) w).mono ?_;rintro e w' ⟨rfl,rfl⟩;refine⟨?_,rfl⟩;rw[hv.out,hq.out];rfl);have hvs:v.size≤100000:=(by have h1:v.data.toList.length≤r.data.toList.length:=(by rw[hv.out];refine Nat.le_trans (List.dropWhile_sublist _).length_le ?_;simp);rw[kt.size_len,kt.size_len]at h1;omega);have hve:r.data.toList.tail.dropWhile (· ==32)=v.data.toList:=(by rw[hv.out]);rw[hve]at HP;clear hve hco HCP hq hv;go_wp2_with fail;refine(HCP1.out _).mono ?_;rintro e w2 ⟨rfl,rfl⟩;go_wp2_with fail;refine(HTL.out _).mono ?_;rintro e w2 ⟨rfl,rfl⟩;go_wp2_with fail;refine(decode_any v w1 hvs).mono ?_;intro e w2 hE;unfold DecRes at hE;obtain⟨rfl,hB2⟩:=hE;have HPC2:=Lib.hid (pc_below HPC1.out hB2);have HB2:=Lib.hid (HB1.out.trans (hB2.mono (by omega)));clear hB2;obtain⟨⟨x0,c0⟩,⟨y0,c1⟩,f0,f1⟩:=pc_cells HPC2.out;cases hD:b64p.D v.data.toList with
    | none=>
     rw[hD]at HP;rw[show b64p.uhV none= .tuple #[.string ⟨#[]⟩,.int .i64 4]from rfl];obtain⟨e0,e1⟩:=pc_store HPC2.out a ⟨#[]⟩;clear hD;go_wp2_with fail
     (try simp only[Exit.inBlock,Exit.then])
     refine bodyPost_ret (v:= .tuple #[.agg #[.string a,.string ⟨#[]⟩],.bool false]) (by rw[results_cell_tmp rfl];go_simp) rfl ?_;exact pairE_none HP.out (below_store HB2.out (Nat.le_refl _) _ _)
    | some b=>
     rw[hD]at HP;obtain⟨bb,hbb⟩: ∃q:ByteArray,Hid (q=⟨b.toArray⟩):=⟨_,rfl⟩;rw[show b64p.uhV (some b)= .tuple #[.string bb,.int .i64 0]from by rw[hbb.out];rfl];obtain⟨e0,e1⟩:=pc_store HPC2.out a bb;clear hD;go_wp2_with fail
     (try simp only[Exit.inBlock,Exit.then])
     refine bodyPost_ret (v:= .tuple #[.agg #[.string a,.string bb],.bool true]) (by rw[results_cell_tmp rfl];go_simp) rfl ?_;exact pairE_some (by rw[HP.out,hbb.out];rfl) (below_store HB2.out (Nat.le_refl _) _ _)
   ·rw[if_neg hco]at HP;obtain⟨v,hv⟩: ∃q:ByteArray,Hid (q=⟨(r.data.toList.dropWhile (· ==32)).toArray⟩):=⟨_,rfl⟩;have HCP1:Hid (∀w,Calls Tryz.prog 174 #[.string r,.string ⟨#[58]⟩] w fun e w'=>e= .returned (.tuple #[.string r,.bool false])∧w=w'):=(by intro w;have h1:=HCP.out w;have hd:decide (r.data.toList.head?=some 58)=false:=decide_eq_false hco;have hx:Lib.trimPrefix r.data.toList [58]=r.data.toList:=(by unfold Lib.trimPrefix;rw[pre_one,hd,if_neg (by simp)]);rw[hd,hx]at h1;exact h1);have HTL:Hid (∀w,Calls Tryz.prog 178 #[.string r,.string ⟨#[32]⟩] w fun e w'=>e= .returned (.string v)∧w=w'):=(by intro w;refine(Tryz.strings_TrimLeft_one r 32 (by decide) w).mono ?_;rintro e w' ⟨rfl,rfl⟩;refine⟨?_,rfl⟩;rw[hv.out];rfl);have hvs:v.size≤100000:=(by have h1:v.data.toList.length≤r.data.toList.length:=(by rw[hv.out];exact(List.dropWhile_sublist _).length_le);rw[kt.size_len,kt.size_len]at h1;omega);have hve:r.data.toList.dropWhile (· ==32)=v.data.toList:=(by rw[hv.out]);rw[hve]at HP;have HPL:Hid (∀w,Calls Tryz.prog 168 #[.string v] w fun e w'=>e= .returned (.bool (plainOK v.data.toList))∧w=w'):=fun w=>plain_any v w (by omega);obtain⟨⟨x0,c0⟩,⟨y0,c1⟩,f0,f1⟩:=pc_cells HPC1.out;obtain⟨e0,e1⟩:=pc_store HPC1.out a v;obtain⟨b,hb⟩: ∃b,Hid (plainOK v.data.toList=b):=⟨_,rfl⟩;have HPL1:Hid (∀w,Calls Tryz.prog 168 #[.string v] w fun e w'=>e= .returned (.bool b)∧w=w'):=(by rw[←hb.out];exact HPL.out);rw[hb.out]at HP;clear hve hco HCP hv HPL hb;go_wp2_with fail;refine(HCP1.out _).mono ?_;rintro e w2 ⟨rfl,rfl⟩;go_wp2_with fail;refine(HTL.out _).mono ?_;rintro e w2 ⟨rfl,rfl⟩;go_wp2_with fail;refine(HPL1.out _).mono ?_;rintro e w2 ⟨rfl,rfl⟩;go_wp2_with fail
    (try simp only[Exit.inBlock,Exit.then])
    refine bodyPost_ret (v:= .tuple #[.agg #[.string a,.string v],.bool b]) (by rw[results_cell_tmp rfl];go_simp) rfl ?_;cases b with
    | true=>exact pairE_some (by rw[HP.out];rfl) (below_store HB1.out (Nat.le_refl _) _ _)
    | false=>exact pairE_none (by rw[HP.out];rfl) (below_store HB1.out (Nat.le_refl _) _ _)
  ·rw[if_neg hty]at HP;have HT1:Hid (∀w,Calls Tryz.prog 103 #[.string a] w fun e w'=>e= .returned (.bool false)∧w=w'):=fun w=>by have h1:=HT.out w;rw[show typeOK a.data.toList=false from by simpa using hty]at h1;exact h1
   clear hty HT;obtain⟨⟨x0,c0⟩,⟨y0,c1⟩,f0,f1⟩:=pc_cells HPC1.out;obtain⟨e0,e1⟩:=pc_store HPC1.out ⟨#[]⟩ ⟨#[]⟩;go_wp2_with fail;refine(HT1.out _).mono ?_;rintro e w2 ⟨rfl,rfl⟩;go_wp2_with fail
   (try simp only[Exit.inBlock,Exit.then])
   refine bodyPost_ret (v:= .tuple #[.agg #[.string ⟨#[]⟩,.string ⟨#[]⟩],.bool false]) (by rw[results_cell_tmp rfl];go_simp) rfl ?_;exact pairE_none HP.out (below_store HB1.out (Nat.le_refl _) _ _)
 ·have HP:=Lib.hid (pairL_none hm);have HC:Hid (∀w,Calls Tryz.prog 172 #[.string s,.string ⟨#[58]⟩] w fun e w'=>e= .returned (.tuple #[.string s,.string ⟨#[]⟩,.bool false])∧Below w.heap.size w w'):=fun w=>cut_miss s 58 w hm;clear hm;go_enter Tryz.func109,Tryz.ntmps109;go_wp2_with fail;refine(HC.out _).mono ?_;rintro e w1 ⟨rfl,hB1⟩;have HPC1:=Lib.hid (pc_below (pc_new w) hB1);have HB1:Hid (Below w.heap.size w w1):=((Below.refl _ w).alloc (Nat.le_refl _) _).trans (hB1.mono (by simp));clear hB1;obtain⟨⟨x0,c0⟩,⟨y0,c1⟩,f0,f1⟩:=pc_cells HPC1.out;obtain⟨e0,e1⟩:=pc_store HPC1.out ⟨#[]⟩ ⟨#[]⟩;go_wp2_with fail
  (try simp only[Exit.inBlock,Exit.then])
  refine bodyPost_ret (v:= .tuple #[.agg #[.string ⟨#[]⟩,.string ⟨#[]⟩],.bool false]) (by rw[results_cell_tmp rfl];go_simp) rfl ?_;exact pairE_none HP.out (below_store HB1.out (Nat.le_refl _) _ _)
end ldw
open Go.RowKit
namespace ldw
open ldp
def LinesE (ls:List (List UInt8))(w:World)(e:Ending)(w':World):Prop:=Below w.heap.size w w'∧match(rowsP [] 0 ls).2 with
 | none=> ∃ao n cap,e= .returned (.tuple #[.slice ao n cap,.int .i64 0,.bool true])∧WRow w' w.heap.size (.slice ao n cap) (rowsP [] 0 ls).1
 | some k=>e= .returned (.tuple #[.slice none 0 0,.int .i64 (k:Int),.bool false])
theorem linesE_stop {ls:List (List UInt8)}{w w':World}{k:Nat}(h:(rowsP [] 0 ls).2=some k)(hb:Below w.heap.size w w'):LinesE ls w (.returned (.tuple #[.slice none 0 0,.int .i64 (k:Int),.bool false])) w':=by refine⟨hb,?_⟩;rw[h]
theorem linesE_end {ls:List (List UInt8)}{acc:List Row}{w w':World}{ao:Option Addr}{n cap:Nat}(h:(acc,none)=rowsP [] 0 ls)(hb:Below w.heap.size w w')(hr:WRow w' w.heap.size (.slice ao n cap) acc):LinesE ls w (.returned (.tuple #[.slice ao n cap,.int .i64 0,.bool true])) w':=by refine⟨hb,?_⟩;rw[←h];exact⟨ao,n,cap,rfl,hr⟩
def opn (acc:List Row):Bool:=match acc.getLast? with
 | none=>false
 | some x=>decide (x.text≠[])
theorem raw_cons {l:List UInt8}(h:l≠[]): ∃X R,raw l=X::raw R∧R.length<l.length∧X.length+R.length≤l.length∧((∃A,l=A++10::R∧(10:UInt8) ∉A∧X=trimCR A)∨((10:UInt8) ∉l∧X=l∧R=[])):=by
 by_cases h10:(10:UInt8)∈l
 ·obtain⟨A,R,rfl,hA⟩:=splitL h10;refine⟨trimCR A,R,raw_line A R hA,by simp;omega,?_,Or.inl ⟨A,rfl,hA,rfl⟩⟩;unfold trimCR;split<;>simp<;>omega
 ·refine⟨l,[],raw_last h h10,?_,by simp,Or.inr ⟨h10,rfl,rfl⟩⟩;cases l with
  | nil=>exact absurd rfl h
  | cons a t=>simp
theorem suf_one (l:List UInt8)(c:UInt8):Lib.hasSuffix l [c]=decide (l.getLast?=some c):=by
 unfold Lib.hasSuffix;rcases List.eq_nil_or_concat l with rfl | ⟨A,x,rfl⟩
 ·simp[List.isSuffixOf]
 ·rw[List.concat_eq_append,List.getLast?_concat];unfold List.isSuffixOf;rw[List.reverse_append];simp only[List.reverse_cons,List.reverse_nil,List.nil_append,List.cons_append,List.isPrefixOf,Bool.and_true];rw[Bool.eq_iff_iff,beq_iff_eq,decide_eq_true_iff,Option.some.injEq];exact eq_comm
theorem trimSuf_cr (A:List UInt8):Lib.trimSuffix A [13]=trimCR A:=by
 unfold Lib.trimSuffix trimCR;rw[suf_one];by_cases h:A.getLast?=some 13
 ·rw[if_pos (by simpa using h),if_pos h,List.dropLast_eq_take];rfl
 ·rw[if_neg (by simpa using h),if_neg h]
theorem rowsP_keep {acc:List Row}{no:Nat}{X:List UInt8}{r:List (List UInt8)}(h:goes X=false):rowsP acc no (X::r)=rowsP (acc++[⟨X,no+1,false⟩]) (no+1) r:=by show(if goes X=false then _ else _)=_;rw[if_pos h]
theorem rowsP_stop {acc:List Row}{no:Nat}{X:List UInt8}{r:List (List UInt8)}(h:goes X=true)(ho:opn acc=false):rowsP acc no (X::r)=(acc,some (no+1)):=by
 show(if goes X=false then _ else _)=_;rw[if_neg (by rw[h];simp)];unfold opn at ho;cases hl:acc.getLast? with
 | none=>rfl
 | some x=>rw[hl]at ho;simp only[decide_eq_false_iff_not,ne_eq,Classical.not_not]at ho;simp only[ho,if_true]
theorem rowsP_go {acc:List Row}{no:Nat}{X:List UInt8}{r:List (List UInt8)}(h:goes X=true)(ho:opn acc=true): ∃A y,acc=A++[y]∧y.text≠[]∧rowsP acc no (X::r)=rowsP (A++[⟨y.text++X.tail,y.no,false⟩]) (no+1) r:=by
 rw[←List.drop_one];unfold opn at ho;rcases List.eq_nil_or_concat acc with rfl | ⟨A,y,rfl⟩
 ·simp at ho
 ·rw[List.concat_eq_append,List.getLast?_concat]at ho;simp only[decide_eq_true_eq]at ho;refine⟨A,y,by rw[List.concat_eq_append],ho,?_⟩;show(if goes X=false then _ else _)=_;rw[if_neg (by rw[h];simp),List.concat_eq_append,List.getLast?_concat];simp only[if_neg ho,List.dropLast_concat]
theorem opn_app (acc:List Row)(x:Row):opn (acc++[x])=decide (x.text≠[]):=by unfold opn;rw[List.getLast?_concat]
theorem bs_size (l:List UInt8):(bs l).size=l.length:=by rw[←kt.size_len];rfl
theorem bs_ne {l:List UInt8}(h:l≠[]):(bs l).toList.isEmpty=false∧ ¬ (bs l).toList=[]:=by
 rw[Lib.toList_data,bs_data];refine⟨?_,h⟩;cases l with
 | nil=>exact absurd rfl h
 | cons a t=>rfl
theorem str_ne {s:ByteArray}(h:s.data.toList≠[]):s.toList.isEmpty=false∧ ¬s.toList=[]:=by
 rw[Lib.toList_data];refine⟨?_,h⟩;cases hh:s.data.toList with
 | nil=>exact absurd hh h
 | cons a t=>rfl
theorem bs_nil:(bs []).toList=[]:=by rw[Lib.toList_data];rfl
theorem app_bs (a b:List UInt8):bs a++bs b=bs (a++b):=by apply kt.str_eq;show(bs a++bs b).data.toList=a++b;simp[bs]
def wlen:Value→Nat
 | .string s=>s.size
 | _=>0
theorem lines_any (s:ByteArray)(w:World)(hs:s.size≤100000):Calls Tryz.prog 106 #[.string s] w (LinesE (raw s.data.toList) w):=by
 go_enter Tryz.func106,Tryz.ntmps106;go_wp2_with fail;go_loopw [0,5,6,7] (fun sv lv ov nv wr=> ∃ (t:ByteArray) (acc:List Row) (no:Nat) (b:Bool),sv= .string t∧t.size+no≤100000∧acc.length≤no∧Hid (∀x∈acc,x.text.length+t.size≤100000)∧Hid (WRow wr w.heap.size lv acc)∧ov= .bool b∧Hid (b=opn acc)∧nv= .int .i64 (no:Int)∧Hid (rowsP acc no (raw t.data.toList)=rowsP [] 0 (raw s.data.toList))∧Below w.heap.size w wr) (fun sv _ _ _ _=>wlen sv);case atStart=>exact⟨s,[],0,false,rfl,by omega,Nat.le_refl _,(fun x hx=>by cases hx),kt.segX_nil _ _ _ _,rfl,rfl,rfl,rfl,Below.refl _ _⟩
 case round=>
  obtain⟨t,acc,no,b,rfl,hsz,hal,hM,hW,rfl,hO,rfl,hR,hB⟩:=hrel;by_cases hte:t.data.toList=[]
  ·have hend:(acc,none)=rowsP [] 0 (raw s.data.toList):=(by rw[←hR.out,hte];rfl);have HEND:=Lib.hid hend;have hte':t.toList=[]:=(by rw[Lib.toList_data];exact hte);obtain⟨ao,n,cap,rfl,hn,hnc⟩:=wrow_form hW.out;clear hend hte;go_wp2_with fail;go_ret3;exact linesE_end HEND.out hB hW.out
  ·obtain⟨X,R,hraw,hRl,hXl,hcase⟩:=raw_cons hte;obtain⟨t1,t2⟩:=str_ne hte;have hR2:=hR.out;rw[hraw]at hR2;have HR:=Lib.hid hR2;have hXs:X.length≤100000:=(by rw[kt.size_len]at hXl;omega);have hXR:Hid (X.length+R.length≤t.size):=(by show _≤_;rw[←kt.size_len];exact hXl);have hRs:R.length+1+no≤100000:=(by rw[kt.size_len]at hRl;omega);have hRL:Hid (R.length<t.size):=(by rw[←kt.size_len];exact hRl);have HCP:Hid (∀w,Calls Tryz.prog 174 #[.string (bs X),.string ⟨#[32]⟩] w fun e w'=>e= .returned (.tuple #[.string (bs (if goes X=true then X.tail else X)),.bool (goes X)])∧w=w'):=(by intro w;refine(Tryz.strings_CutPrefix (bs X) ⟨#[32]⟩ w).mono ?_;rintro e w' ⟨rfl,rfl⟩;refine⟨?_,rfl⟩;show Ending.returned (.tuple #[.string ⟨(Lib.trimPrefix X [32]).toArray⟩,.bool (Lib.hasPrefix X [32])])=_;have e1:Lib.hasPrefix X [32]=goes X:=pre_one X 32;have e2:Lib.trimPrefix X [32]=if goes X=true then X.tail else X:=(by unfold Lib.trimPrefix;rw[e1];simp);rw[e1,e2];rfl);have i1:IntKind.i64.wrap ((no:Int)+1)=(no:Int)+1:=IntWalk.i64_in _ (by omega);clear hR2 hraw hR hXl hRl hte;obtain⟨ao,n,cap,rfl,hn,hnc⟩:=wrow_form hW.out;rcases hcase with⟨A,hA,hA10,hX⟩ | ⟨hA10,hX,hRn⟩
   case' inl=>have HC:Hid (∀w,Calls Tryz.prog 172 #[.string t,.string ⟨#[10]⟩] w fun e w'=>e= .returned (.tuple #[.string (bs A),.string (bs R),.bool true])∧Below w.heap.size w w'):=fun w=>cut_hit t 10 A R w (by omega) hA hA10;have HTS:Hid (∀w,Calls Tryz.prog 173 #[.string (bs A),.string ⟨#[13]⟩] w fun e w'=>e= .returned (.string (bs X))∧w=w'):=(by intro w;have hAl:A.length≤100000:=(by have:=congrArg List.length hA;rw[kt.size_len]at this;simp at this;omega);refine(Tryz.strings_TrimSuffix (bs A) ⟨#[13]⟩ w (by rw[bs_size];omega)).mono ?_;rintro e w' ⟨rfl,rfl⟩;refine⟨?_,rfl⟩;show Ending.returned (.string (bs (Lib.trimSuffix A [13])))=_;rw[trimSuf_cr,hX]);clear hA hA10 hX;go_wp2_with fail;refine(HC.out _).mono ?_;rintro e w1 ⟨rfl,hB1⟩;have HB1:=Lib.hid hB1;clear hB1;go_wp2_with fail;refine(HTS.out _).mono ?_;rintro e w2 ⟨rfl,rfl⟩;go_wp2_with fail;refine(HCP.out _).mono ?_;rintro e w2 ⟨rfl,rfl⟩
   case' inr=>subst hX;have hts:bs t.data.toList=t:=bs_of t;have HC:Hid (∀w,Calls Tryz.prog 172 #[.string t,.string ⟨#[10]⟩] w fun e w'=>e= .returned (.tuple #[.string (bs t.data.toList),.string (bs R),.bool false])∧Below w.heap.size w w'):=(by rw[hts,hRn];exact fun w=>cut_miss t 10 w hA10);obtain⟨X,hX⟩: ∃X,X=t.data.toList:=⟨_,rfl⟩;rw[←hX]at HC HR HCP hXs hXR;clear hA10 hRn hts hX;go_wp2_with fail;refine(HC.out _).mono ?_;rintro e w1 ⟨rfl,hB1⟩;have HB1:=Lib.hid hB1;clear hB1;go_wp2_with fail;refine(HCP.out _).mono ?_;rintro e w2 ⟨rfl,rfl⟩
   all_goals
    have hsz1:=HB1.out.size;have hszw:=hB.size;have HB2:=Lib.hid (hB.trans (HB1.out.mono hszw));have HW1:=Lib.hid (wrow_below hW.out HB1.out);by_cases hg:goes X=true
    ·rw[hg];simp only[if_true];cases b with
     | false=>have hst:=rowsP_stop (no:=no) (r:=raw R) hg hO.out.symm;have HST:Hid ((rowsP [] 0 (raw s.data.toList)).2=some (no+1)):=(by show _=_;rw[←HR.out,hst]);clear hg hst;go_wp2_with fail;go_ret3;exact linesE_stop HST.out HB2.out
     | true=>
      obtain⟨A2,y,hacc,hy,hst⟩:=rowsP_go (no:=no) (r:=raw R) hg hO.out.symm;subst hacc;have HST:Hid (rowsP (A2++[⟨y.text++X.tail,y.no,false⟩]) (no+1) (raw (bs R).data.toList)=rowsP [] 0 (raw s.data.toList)):=(by show _=_;rw[←HR.out,hst];rfl);obtain⟨k,hk⟩: ∃k,Hid (k=A2.length):=⟨_,rfl⟩;obtain rfl:n=k+1:=(by have:=hn.out;rw[List.length_append]at this;simp at this;rw[hk.out];omega);have hkb:k≤100000:=(by have:=hk.out;rw[List.length_append]at hal;simp at hal;omega);obtain⟨g,o,rfl,hBg,c0,f0,hset⟩:=wrow_last HW1.out (by rw[hk.out]);rw[←hk.out]at c0 f0 hset;have hset2:=hset (y.text++X.tail) false;have HSET:=Lib.hid hset2;have hyl:y.text.length+X.tail.length+R.length≤100000:=(by have h1:=hM.out y (by simp);have h2:=hXR.out;rw[List.length_tail];omega);have HM2:Hid (∀x∈A2++[(⟨y.text++X.tail,y.no,false⟩:Row)],x.text.length+(bs R).size≤100000):=by
       intro x hx;rw[bs_size];rcases List.mem_append.1 hx with hx | hx
       ·have h1:=hM.out x (by simp[hx]);have:=hRL.out;omega
       ·simp only[List.mem_singleton]at hx;subst hx;simp only[List.length_append];omega
      have hcb: ¬9223372036854775807<(bs y.text).size+(bs X.tail).size:=(by rw[bs_size,bs_size];omega);have hcat:bs y.text++bs (X.tail)=bs (y.text++X.tail):=app_bs _ _;have HOP:Hid (true=opn (A2++[(⟨y.text++X.tail,y.no,false⟩:Row)])):=(by show _=_;rw[opn_app];symm;rw[decide_eq_true_eq];intro e;exact hy (List.append_eq_nil_iff.1 e).1);have HY:Hid (y.lost=false∨True):=Or.inr trivial;clear hset hset2 hst hg hy;go_wp2_with fail;go_roundw;case rel=>exact⟨bs R,_,no+1,true,rfl,by rw[bs_size];omega,by simp at hal ⊢;omega,HM2,HSET,rfl,HOP,by go_num,HST,HB2.out.setCell (p:=⟨g,_,none⟩) hBg _⟩
      case measure=>(have:=hRL.out;simp[wlen,bs_size];omega)
    ·have hg':goes X=false:=(by simpa using hg);rw[hg'];simp only[Bool.false_eq_true,if_false];have hst:=rowsP_keep (acc:=acc) (no:=no) (r:=raw R) hg';have HST:Hid (rowsP (acc++[⟨X,no+1,false⟩]) (no+1) (raw (bs R).data.toList)=rowsP [] 0 (raw s.data.toList)):=(by show _=_;rw[←HR.out,hst];rfl);obtain⟨ao2,n2,cap2,w3,hap,hW3,hB3⟩:=wrow_app (⟨X,no+1,false⟩:Row) (bs X) rfl HW1.out (by omega) (by omega);have HW3:=Lib.hid hW3;have HB3:=Lib.hid (HB2.out.trans hB3);have HM2:Hid (∀x∈acc++[(⟨X,no+1,false⟩:Row)],x.text.length+(bs R).size≤100000):=by
      intro x hx;rw[bs_size];rcases List.mem_append.1 hx with hx | hx
      ·have h1:=hM.out x hx;have:=hRL.out;omega
      ·simp only[List.mem_singleton]at hx;subst hx;have:=hXR.out;show X.length+_≤_;omega
     have HOP:Hid (decide (X≠[])=opn (acc++[⟨X,no+1,false⟩])):=(by show _=_;rw[opn_app]);have hcast:((no+1:Nat):Int)=(no:Int)+1:=(by omega);simp only[hcast]at hap;clear hg hg' hst hW3 hB3 hcast;by_cases hX0:X=[]
     ·have hx1:(bs X).toList=[]:=(by rw[hX0];exact bs_nil);have HX:Hid (decide (X≠[])=false):=(by show _=_;rw[hX0];rfl);clear hX0;go_wp2_with (at_builtin;refine Lib.wpList_append_run _ rfl _ _ _ _ rfl _ _ rfl rfl _ _ hap ?_);go_roundw;case rel=>exact⟨bs R,_,no+1,false,rfl,by rw[bs_size];omega,by simp;omega,HM2,HW3,rfl,by show _=_;rw[←HOP.out,HX.out],by go_num,HST,HB3.out⟩
      case measure=>(have:=hRL.out;simp[wlen,bs_size];omega)
     ·obtain⟨x1,x2⟩:=bs_ne hX0;have HX:Hid (decide (X≠[])=true):=decide_eq_true hX0;clear hX0;go_wp2_with (at_builtin;refine Lib.wpList_append_run _ rfl _ _ _ _ rfl _ _ rfl rfl _ _ hap ?_);go_roundw;case rel=>exact⟨bs R,_,no+1,true,rfl,by rw[bs_size];omega,by simp;omega,HM2,HW3,rfl,by show _=_;rw[←HOP.out,HX.out],by go_num,HST,HB3.out⟩
      case measure=>(have:=hRL.out;simp[wlen,bs_size];omega)
end ldw
open Go.RowKit
namespace ldw
open ldp
abbrev Pr:=List UInt8 × List UInt8
def pcell (x:Pr):List Value:=[.string (bs x.1),.string (bs x.2)]
theorem infoAva:(Tryz.prog.info? 51).map (fun i=>(i.zero,i.size,i.bytes))=some (some (.agg #[.string ByteArray.empty,.string ByteArray.empty]),2,32):=by kernel_rfl
theorem infoRec:(Tryz.prog.info? 54).map (fun i=>(i.zero,i.size,i.bytes))=some (some (.agg #[.string ByteArray.empty,.slice none 0 0]),2,40):=by kernel_rfl
def OwnP (w:World)(B:Nat)(v:Value)(l:List Pr):Prop:=kt.SegX w B 51 2 v l.length (l.flatMap pcell)
theorem ownP_nil (w:World)(B:Nat):OwnP w B (.slice none 0 0) []:=kt.segX_nil _ _ _ _
theorem ownP_lt {w:World}{B:Nat}{v:Value}{l:List Pr}(h:OwnP w B v l): ∀k,v.ownBlock=some k→B≤k∧k<w.heap.size:=kt.segX_lt h
abbrev RV:=Rec × Value
def qcell (x:RV):List Value:=[.string (bs x.1.name),x.2]
structure Recs (w:World)(B:Nat)(v:Value)(l:List RV):Prop where
 outer:kt.SegX w B 54 2 v l.length (l.flatMap qcell)
 inner: ∀j (h:j<l.length),OwnP w B l[j].2 l[j].1.pairs∧ ∀k,l[j].2.ownBlock=some k→v.ownBlock≠some k
 apart: ∀i j (h:i<l.length) (h':j<l.length),i≠j→ ∀k,l[i].2.ownBlock=some k→l[j].2.ownBlock≠some k
theorem recs_nil (w:World)(B:Nat):Recs w B (.slice none 0 0) []:=⟨kt.segX_nil _ _ _ _,fun j h=>by simp at h,fun i j h=>by simp at h⟩
theorem recs_same {w w':World}{B:Nat}{v:Value}{l:List RV}(h:Recs w B v l)(hb: ∀k,B≤k→k<w.heap.size→w'.heap[k]? =w.heap[k]?):Recs w' B v l:=by
 refine⟨kt.segX_same h.outer fun k hk=> ?_,fun j h1=>⟨kt.segX_same (h.inner j h1).1 fun k hk=> ?_,(h.inner j h1).2⟩,h.apart⟩
 ·have:=kt.segX_lt h.outer k hk;exact hb k this.1 this.2
 ·have:=ownP_lt (h.inner j h1).1 k hk;exact hb k this.1 this.2
theorem recs_below {w w':World}{B:Nat}{v:Value}{l:List RV}(h:Recs w B v l)(hb:Below w.heap.size w w'):Recs w' B v l:=recs_same h fun k _ hlt=>hb.block k hlt
theorem recs_form {w:World}{B:Nat}{v:Value}{l:List RV}(h:Recs w B v l): ∃ao n cap,v= .slice ao n cap∧Hid (n=l.length)∧n≤cap:=by obtain⟨ao,cap,hv,hc⟩:=kt.segX_slice h.outer;exact⟨ao,_,cap,hv,rfl,hc⟩
theorem recs_push {w:World}{B:Nat}{v:Value}{l:List RV}(name:List UInt8)(t:ByteArray)(ht:bs name=t)(h:Recs w B v l)(hl:l.length≤1000000)(hB:B≤w.heap.size):
  ∃ao n cap w1,(Builtin.append_ #[57,57] 57 #[v,.slice (some ⟨w.heap.size,0,none⟩) 1 1]).run Tryz.prog (w.alloc (.cells #[.string t,.slice none 0 0] 54))= .ok (.slice ao n cap) w1∧Recs w1 B (.slice ao n cap) (l++[(⟨name,[]⟩,.slice none 0 0)])∧Below B w w1:=by
 subst ht;have hn:=recs_below h (w':=w.alloc (.cells #[.string (bs name),.slice none 0 0] 54)) ((Below.refl _ _).alloc (Nat.le_refl _) _);obtain⟨v',w1,h1,h2,h3,h4⟩:=kt.segX_append (P:=Tryz.prog) (t:=57) (ty:=57) Tryz.underlying57 infoRec rfl (by omega) ⟨w.heap.size,0,none⟩ 1 1 (qcell (⟨name,[]⟩,.slice none 0 0)) rfl (fun j u hj=>by rw[kt.addr_add,World.cell?_alloc_new];simpa[qcell]using hj) (by intro u hu;simp[qcell]at hu;rcases hu with rfl | rfl<;>rfl) hn.outer (by unfold maxLen;omega) (by omega) (by simp;omega);obtain⟨ao,cap,rfl,_⟩:=kt.segX_slice h2;have hne: ∀ (u:Value),(∀k,u.ownBlock=some k→v.ownBlock≠some k)→ ∀k,u.ownBlock=some k→k<(w.alloc (.cells #[.string (bs name),.slice none 0 0] 54)).heap.size→w1.heap[k]? =(w.alloc (.cells #[.string (bs name),.slice none 0 0] 54)).heap[k]? :=by intro u hu k hk hlt;exact h3.block k hlt (fun e=>hu k hk e.symm)
 have hnil: ∀k,(Value.slice none 0 0).ownBlock≠some k:=fun k e=>by simp[Value.ownBlock]at e
 refine⟨ao,_,cap,w1,h1,⟨?_,fun j a=> ?_,fun i j a b hij k hk=> ?_⟩,((Below.refl B w).alloc hB _).trans ((Below.refl B _).grown h3 (by simp;omega) (fun k hk=>(kt.segX_lt hn.outer k hk).1))⟩
 ·rw[List.length_append,List.flatMap_append];simpa using h2
 ·by_cases e:j<l.length
  ·rw[List.getElem_append_left e];obtain⟨i1,i2⟩:=hn.inner j e;refine⟨kt.segX_same i1 fun k hk=>hne _ i2 k hk (ownP_lt i1 k hk).2,fun k hk e2=> ?_⟩;rcases h4 k e2 with e3 | e3
   ·exact i2 k hk e3
   ·have:=(ownP_lt i1 k hk).2;omega
  ·have ej:j=l.length:=(by simp at a;omega);subst ej;rw[List.getElem_append_right (Nat.le_refl _)];simp only[Nat.sub_self,List.getElem_cons_zero];exact⟨ownP_nil _ _,fun k hk=>absurd hk (hnil k)⟩
 ·by_cases ei:i<l.length
  ·rw[List.getElem_append_left ei]at hk;by_cases ej:j<l.length
   ·rw[List.getElem_append_left ej];exact hn.apart i j ei ej hij k hk
   ·rw[List.getElem_append_right (by omega)];have:j-l.length=0:=(by simp at b;omega);simp only[this,List.getElem_cons_zero];exact hnil k
  ·rw[List.getElem_append_right (by omega)]at hk;have:i-l.length=0:=(by simp at a;omega);simp only[this,List.getElem_cons_zero]at hk;exact absurd hk (hnil k)
theorem recs_add {w:World}{B n cap:Nat}{ao:Option Addr}{l:List RV}{x:RV}(p:Pr)(t u:ByteArray)(ht:bs p.1=t)(hu:bs p.2=u)(h:Recs w B (.slice ao n cap) (l++[x]))(hn:n=l.length+1)(hl:x.1.pairs.length≤1000000)(hB:B≤w.heap.size):
  ∃g o,ao=some ⟨g,o,none⟩∧B≤g∧g<w.heap.size∧w.cell? ⟨g,o+l.length*2+1,none⟩=some x.2∧ ∃v' w1,(Builtin.append_ #[23,23] 23 #[x.2,.slice (some ⟨w.heap.size,0,none⟩) 1 1]).run Tryz.prog (w.alloc (.cells #[.string t,.string u] 51))= .ok v' w1∧Below B w w1∧(∃y,w1.cell? ⟨g,o+l.length*2+1,none⟩=some y)∧w1.frozen? ⟨g,o+l.length*2+1,none⟩=false∧
   (∃a m c,v'= .slice a m c)∧Recs (w1.setCell ⟨g,o+l.length*2+1,none⟩ v') B (.slice ao n cap) (l++[(⟨x.1.name,x.1.pairs++[p]⟩,v')]):=by
 subst ht hu;subst hn;have hB2:=(Below.refl w.heap.size w).alloc (Nat.le_refl _) (.cells #[.string (bs p.1),.string (bs p.2)] 51);have hw:=recs_below h hB2;have hlen:(l++[x]).length=l.length+1:=by simp
 have ho:=hw.outer;rw[hlen]at ho;obtain⟨g,o,rfl⟩:=kt.segX_addr ho (by omega);obtain⟨hBg,hglt,hc,hf⟩:=kt.segX_at ho;have ho0:=h.outer;rw[hlen]at ho0;obtain⟨_,hglt0,hc0,_⟩:=kt.segX_at ho0;have hfl:(l.flatMap qcell).length=l.length*2:=kt.flat_len qcell 2 (fun _=>rfl) l;have hx:((l++[x]).flatMap qcell)[l.length*2+1]? =some x.2:=by rw[List.flatMap_append,List.getElem?_append_right (by omega),hfl,show l.length*2+1-l.length*2=1 from by omega];simp[qcell]
 obtain⟨i1,i2⟩:=hw.inner l.length (by rw[hlen];omega);simp only[List.getElem_append_right (Nat.le_refl _),Nat.sub_self,List.getElem_cons_zero]at i1 i2;obtain⟨v',w1,h1,h2,h3,h4⟩:=kt.segX_append (P:=Tryz.prog) (t:=23) (ty:=23) Tryz.underlying23 infoAva rfl (by omega) ⟨w.heap.size,0,none⟩ 1 1 (pcell p) rfl (fun j u hj=>by rw[kt.addr_add,World.cell?_alloc_new];simpa[pcell]using hj) (by intro u hu;simp[pcell]at hu;rcases hu with rfl | rfl<;>rfl) i1 (by unfold maxLen;omega) (by omega) (by simp;omega);obtain⟨a2,c2,hv2,_⟩:=kt.segX_slice h2
 -- the outer row stands
 have hnb: ∀k,(Value.slice (some ⟨g,o,none⟩) (l.length+1) cap).ownBlock=some k→x.2.ownBlock≠some k:=fun k hk e=>i2 k e hk;have ho1:kt.SegX w1 B 54 2 (.slice (some ⟨g,o,none⟩) (l.length+1) cap) (l.length+1) ((l++[x]).flatMap qcell):=
  kt.segX_same ho fun k hk=>h3.block k (kt.segX_lt ho k hk).2 (fun e=>hnb k hk e.symm)
 obtain⟨_,_,hc1,hf1⟩:=kt.segX_at ho1;have hset:=kt.segX_set ho1 (l.length*2+1) (by rw[List.flatMap_append,List.length_append,hfl];simp[qcell]) v';have e:((l++[x]).flatMap qcell).set (l.length*2+1) v'=(l++[((⟨x.1.name,x.1.pairs++[p]⟩:Rec),v')]).flatMap qcell:=by rw[List.flatMap_append,List.flatMap_append,List.set_append_right _ _ (by omega),hfl,show l.length*2+1-l.length*2=1 from by omega];simp[qcell]
 have hBw1:Below B w w1:=((Below.refl B w).alloc hB _).trans ((Below.refl B _).grown h3 (by simp;omega) (fun k hk=>(ownP_lt i1 k hk).1));refine⟨g,o,rfl,hBg,hglt0,?_,v',w1,h1,hBw1,⟨x.2,?_⟩,hf1 _,⟨a2,_,c2,hv2⟩,⟨?_,fun j hj=> ?_,fun i j hi hj hij k hk=> ?_⟩⟩
 ·rw[Nat.add_assoc];exact hc0 _ _ hx
 ·rw[Nat.add_assoc];exact hc1 _ _ hx
 ·rw[List.length_append,←e,Nat.add_assoc];exact hset.1
 ·have hv1: ∀k,v'.ownBlock=some k→(Value.slice (some ⟨g,o,none⟩) (l.length+1) cap).ownBlock≠some k:=by
   intro k hk e2;rcases h4 k hk with e3 | e3
   ·exact i2 k e3 e2
   ·have:k<_:=(kt.segX_lt ho k e2).2;omega
  have hst: ∀k,k≠g→(w1.setCell ⟨g,o+l.length*2+1,none⟩ v').heap[k]? =w1.heap[k]? :=fun k hk=>Below.heap_setCell _ _ _ _ hk;by_cases ej:j<l.length
  ·rw[List.getElem_append_left ej];obtain⟨k1,k2⟩:=hw.inner j (by rw[hlen];omega);rw[List.getElem_append_left ej]at k1 k2;refine⟨kt.segX_same k1 fun k hk=> ?_,k2⟩;have hkg:k≠g:=fun e2=>k2 k hk (by subst e2;rfl);rw[hst k hkg];refine h3.block k (ownP_lt k1 k hk).2 (fun e2=> ?_);have:=hw.apart j l.length (by rw[hlen];omega) (by rw[hlen];omega) (by omega) k (by rw[List.getElem_append_left ej];exact hk);rw[List.getElem_append_right (Nat.le_refl _)]at this;simp only[Nat.sub_self,List.getElem_cons_zero]at this;exact this e2.symm
  ·have ej2:j=l.length:=(by simp at hj;omega);subst ej2;rw[List.getElem_append_right (Nat.le_refl _)];simp only[Nat.sub_self,List.getElem_cons_zero];refine⟨?_,hv1⟩;have h2':OwnP w1 B v' (x.1.pairs++[p]):=(by unfold OwnP;rw[List.length_append,List.flatMap_append];simpa using h2);refine kt.segX_same h2' fun k hk=>hst k (fun e2=>hv1 k hk (by subst e2;rfl))
 ·have hlast: ∀m,m<l.length→ ∀k,(l++[x])[m]?.map (·.2.ownBlock)=some (some k)→v'.ownBlock≠some k:=by
   intro m hm k hk e2;have hm2:(l++[x])[m]'(by rw[hlen];omega)=l[m]:=List.getElem_append_left hm;rw[List.getElem?_eq_getElem (by rw[hlen];omega),hm2]at hk;simp only[Option.map_some,Option.some.injEq]at hk;obtain⟨k1,k2⟩:=hw.inner m (by rw[hlen];omega);rw[hm2]at k1 k2;rcases h4 k e2 with e3 | e3
   ·have:=hw.apart m l.length (by rw[hlen];omega) (by rw[hlen];omega) (by omega) k (by rw[hm2];exact hk);rw[List.getElem_append_right (Nat.le_refl _)]at this;simp only[Nat.sub_self,List.getElem_cons_zero]at this;exact this e3
   ·have:=(ownP_lt k1 k hk).2;omega
  by_cases ei:i<l.length
  ·rw[List.getElem_append_left ei]at hk;by_cases ej:j<l.length
   ·rw[List.getElem_append_left ej];have:=hw.apart i j (by rw[hlen];omega) (by rw[hlen];omega) hij k (by rw[List.getElem_append_left ei];exact hk);rw[List.getElem_append_left ej]at this;exact this
   ·rw[List.getElem_append_right (by omega)];have:j-l.length=0:=(by simp at hj;omega);simp only[this,List.getElem_cons_zero];refine hlast i ei k ?_;rw[List.getElem?_eq_getElem (by rw[hlen];omega),List.getElem_append_left ei];simp[hk]
  ·have ei2:i-l.length=0:=(by simp at hi;omega);have hjl:j<l.length:=(by simp at hi hj;omega);rw[List.getElem_append_right (by omega)]at hk;simp only[ei2,List.getElem_cons_zero]at hk;rw[List.getElem_append_left hjl];intro e2;refine hlast j hjl k ?_ hk;rw[List.getElem?_eq_getElem (by rw[hlen];omega),List.getElem_append_left hjl];simp[e2]
theorem recs_at {w:World}{B n cap:Nat}{ao:Option Addr}{l:List RV}(h:Recs w B (.slice ao n cap) l)(i:Nat)(hi:i<l.length):
  ∃g o,ao=some ⟨g,o,none⟩∧w.cell? ⟨g,o+i*2,none⟩=some (.string (bs l[i].1.name))∧w.cell? ⟨g,o+i*2+1,none⟩=some l[i].2∧
   ∃a m c,l[i].2= .slice a m c∧m=l[i].1.pairs.length∧ ∀j (hj:j<l[i].1.pairs.length),∃g' o',a=some ⟨g',o',none⟩∧w.cell? ⟨g',o'+j*2,none⟩=some (.string (bs l[i].1.pairs[j].1))∧w.cell? ⟨g',o'+j*2+1,none⟩=some (.string (bs l[i].1.pairs[j].2)):=by
 have h1:=h.outer;obtain⟨ao',cap',hv,_⟩:=kt.segX_slice h1;simp only[Value.slice.injEq]at hv;obtain⟨rfl,rfl,rfl⟩:=hv;obtain⟨g,o,rfl⟩:=kt.segX_addr h1 (by omega);obtain⟨hB,hlt,hc,hf⟩:=kt.segX_at h1;have f0:=kt.flat_get qcell 2 (fun _=>rfl) l i 0 hi (by omega);have f1:=kt.flat_get qcell 2 (fun _=>rfl) l i 1 hi (by omega);refine⟨g,o,rfl,hc _ _ f0,by rw[Nat.add_assoc];exact hc _ _ f1,?_⟩;have h2:=(h.inner i hi).1;obtain⟨a,c,hv2,_⟩:=kt.segX_slice h2;refine⟨a,_,c,hv2,rfl,fun j hj=> ?_⟩;have h3:=h2;unfold OwnP at h3;rw[hv2]at h3;obtain⟨g',o',rfl⟩:=kt.segX_addr h3 (by omega);obtain⟨_,_,hc',_⟩:=kt.segX_at h3;have k0:=kt.flat_get pcell 2 (fun _=>rfl) l[i].1.pairs j 0 hj (by omega);have k1:=kt.flat_get pcell 2 (fun _=>rfl) l[i].1.pairs j 1 hj (by omega);exact⟨g',o',rfl,hc' _ _ k0,by rw[Nat.add_assoc];exact hc' _ _ k1⟩
end ldw
open Go.RowKit
namespace ldw
open ldp
theorem dr2 {B:Nat}{a b:World}(h:Below B a b)(n:Nat):Below B a (b.drewN n):=⟨h.os,h.tape,h.output,h.size,h.block⟩
def ParseE (o:Nat ⊕ List Rec)(w:World)(e:Ending)(w':World):Prop:=Below w.heap.size w w'∧match o with
 | .inl k=>e= .returned (.tuple #[.slice none 0 0,.int .i64 (k:Int),.int .i64 4])
 | .inr recs=> ∃ao n cap l,e= .returned (.tuple #[.slice ao n cap,.int .i64 0,.int .i64 0])∧Recs w' w.heap.size (.slice ao n cap) l∧l.map (·.1)=recs
theorem parseE_err {o:Nat ⊕ List Rec}{w w':World}{k:Nat}(h:o= .inl k)(hb:Below w.heap.size w w'):ParseE o w (.returned (.tuple #[.slice none 0 0,.int .i64 (k:Int),.int .i64 4])) w':=by subst h;exact⟨hb,rfl⟩
theorem parseE_ok {o:Nat ⊕ List Rec}{w w':World}{ao:Option Addr}{n cap:Nat}{l:List RV}(h:o= .inr (l.map (·.1)))(hb:Below w.heap.size w w')(hr:Recs w' w.heap.size (.slice ao n cap) l):ParseE o w (.returned (.tuple #[.slice ao n cap,.int .i64 0,.int .i64 0])) w':=by subst h;exact⟨hb,ao,n,cap,l,rfl,hr,rfl⟩
theorem recs_mono {w:World}{B C:Nat}{v:Value}{l:List RV}(h:Recs w B v l)(hc:C≤B):Recs w C v l:=⟨kt.segX_mono h.outer hc,fun j h1=>⟨kt.segX_mono (h.inner j h1).1 hc,(h.inner j h1).2⟩,h.apart⟩
theorem foldL_skip {i:Nat}{recs:List Rec}{op:Bool}{x:Row}{r:List Row}(hl:x.lost=false)(h:skipL i x.text=true):foldL i recs op (x::r)=foldL (i+1) recs op r:=by show(if x.lost=true then _ else _)=_;rw[if_neg (by rw[hl];simp),if_pos h]
theorem foldL_blank {i:Nat}{recs:List Rec}{op:Bool}{x:Row}{r:List Row}(hl:x.lost=false)(h:skipL i x.text=false)(h0:x.text=[]):foldL i recs op (x::r)=foldL (i+1) recs false r:=by show(if x.lost=true then _ else _)=_;rw[if_neg (by rw[hl];simp),if_neg (by rw[h];simp),if_pos h0]
theorem foldL_none {i:Nat}{recs:List Rec}{op:Bool}{x:Row}{r:List Row}(hl:x.lost=false)(h:skipL i x.text=false)(h0:x.text≠[])(hp:pairL x.text=none):foldL i recs op (x::r)= .inl x.no:=by show(if x.lost=true then _ else _)=_;rw[if_neg (by rw[hl];simp),if_neg (by rw[h];simp),if_neg h0,hp]
theorem foldL_bad {i:Nat}{recs:List Rec}{op:Bool}{x:Row}{r:List Row}{a:Pr}(hl:x.lost=false)(h:skipL i x.text=false)(h0:x.text≠[])(hp:pairL x.text=some a)(hd:isDn a.1=op):foldL i recs op (x::r)= .inl x.no:=by show(if x.lost=true then _ else _)=_;rw[if_neg (by rw[hl];simp),if_neg (by rw[h];simp),if_neg h0,hp];simp only[if_pos hd]
theorem foldL_add {i:Nat}{recs:List Rec}{x:Row}{r:List Row}{a:Pr}(hl:x.lost=false)(h:skipL i x.text=false)(h0:x.text≠[])(hp:pairL x.text=some a)(hd:isDn a.1=false):foldL i recs true (x::r)=foldL (i+1) (addPair recs a) true r:=by show(if x.lost=true then _ else _)=_;rw[if_neg (by rw[hl];simp),if_neg (by rw[h];simp),if_neg h0,hp];simp only[hd,Bool.false_eq_true,if_false,if_true]
theorem foldL_push {i:Nat}{recs:List Rec}{x:Row}{r:List Row}{a:Pr}(hl:x.lost=false)(h:skipL i x.text=false)(h0:x.text≠[])(hp:pairL x.text=some a)(hd:isDn a.1=true):foldL i recs false (x::r)=foldL (i+1) (recs++[⟨a.2,[]⟩]) true r:=by show(if x.lost=true then _ else _)=_;rw[if_neg (by rw[hl];simp),if_neg (by rw[h];simp),if_neg h0,hp];simp only[hd,Bool.true_eq_false,if_false,Bool.false_eq_true]
theorem addPair_map (l:List RV)(x:RV)(a:Pr)(v:Value):addPair ((l++[x]).map (·.1)) a=(l++[((⟨x.1.name,x.1.pairs++[a]⟩:Rec),v)]).map (·.1):=by rw[List.map_append,List.map_append];unfold addPair;simp only[List.map_cons,List.map_nil,List.getLast?_concat,List.dropLast_concat]
theorem pairL_len {l:List UInt8}{a:Pr}(h:pairL l=some a):a.1.length≤l.length:=by
 by_cases hm:(58:UInt8)∈l
 ·obtain⟨A,R,rfl,hA⟩:=splitL hm;rw[pairL_at hA]at h;have:a.1=A:=by
   split at h
   ·split at h
    ·cases hD:b64p.D (List.dropWhile (fun x=>x==32) R.tail)with
     | none=>rw[hD]at h;cases h
     | some v=>rw[hD]at h;cases h;rfl
    ·split at h
     ·cases h;rfl
     ·cases h
   ·cases h
  rw[this];simp
 ·rw[pairL_none hm]at h;cases h
theorem drop_at {α:Type}(l:List α)(i:Nat)(h:i<l.length):l.drop i=l[i]::l.drop (i+1):=List.drop_eq_getElem_cons h
theorem ver_eq (X:List UInt8):((bs X).toList==[118,101,114,115,105,111,110,58,32,49])=decide (X=version):=by rw[Lib.toList_data,bs_data,Bool.eq_iff_iff,beq_iff_eq,decide_eq_true_iff];rfl
theorem pairE_bs {o:Option Pr}{w:World}{e:Ending}{w':World}(h:PairE o w e w'):Below w.heap.size w w'∧((o=none∧ ∃t v:ByteArray,e= .returned (.tuple #[.agg #[.string t,.string v],.bool false]))∨ ∃a,o=some a∧e= .returned (.tuple #[.agg #[.string (bs a.1),.string (bs a.2)],.bool true])):=by
 refine⟨h.1,?_⟩;have h2:=h.2;cases o with
 | none=>exact Or.inl ⟨rfl,h2⟩
 | some a=>exact Or.inr ⟨a,rfl,h2⟩
theorem parse_ok (s:ByteArray)(w:World)(hs:s.size≤100000)(hok:(rowsP [] 0 (raw s.data.toList)).2=none):Calls Tryz.prog 44 #[.string s] w (ParseE (foldL 0 [] false (rowsP [] 0 (raw s.data.toList)).1) w):=by
 have HLN:=Lib.hid (lines_any s w hs);obtain⟨rows,hrows⟩: ∃rows,rows=(rowsP [] 0 (raw s.data.toList)).1:=⟨_,rfl⟩;have hall:=rowsP_all 100000 (raw s.data.toList) [] 0 (fun x hx=>by cases hx) (by have:=raw_sum _ s.data.toList (Nat.le_refl _);rw[kt.size_len]at this;omega);have hlen0:=raw_len _ s.data.toList (Nat.le_refl _);rw[kt.size_len]at hlen0;rw[←hrows]at hall ⊢;obtain⟨hR1,hR2,_⟩:=hall;have hrl:rows.length≤100000:=by simp at hR1;omega
 have HR2:=Lib.hid hR2;have hsI:(s.size:Int)≤100000:=by omega
 have HL2:Hid (Calls Tryz.prog 106 #[.string s] w fun e w'=>Below w.heap.size w w'∧ ∃ao n cap,e= .returned (.tuple #[.slice ao n cap,.int .i64 0,.bool true])∧WRow w' w.heap.size (.slice ao n cap) rows):=by refine HLN.out.mono ?_;intro e w' h;refine⟨h.1,?_⟩;have h2:=h.2;rw[hok]at h2;rw[hrows];exact h2
 clear hR1 hR2 hrows hok hlen0 HLN;go_enter Tryz.func44,Tryz.ntmps44;go_wp2_with fail;refine HL2.out.mono ?_;rintro e w1 ⟨hB1,aoA,nA,capA,rfl,hW⟩;have HB1:=Lib.hid hB1;have HW:=Lib.hid hW;have hnA:nA=rows.length:=by obtain⟨ao,n,cap,hv,hn,_⟩:=wrow_form hW;simp only[Value.slice.injEq]at hv;rw[hv.2.1,hn.out]
 have HNA:=Lib.hid hnA;have hnb:nA≤100000:=by omega
 clear hB1 hW hnA HL2 hrl;go_wp2_with fail;go_loopw [9,10,36] (fun lv ov iv wr=> ∃ (i:Nat) (l:List RV) (op:Bool),iv= .int .i64 (i:Int)∧i≤nA∧ov= .bool op∧Hid (Recs wr w1.heap.size lv l)∧l.length≤i∧Hid (∀x∈l,x.1.pairs.length≤i)∧Hid (op=true→l≠[])∧Hid (foldL i (l.map (·.1)) op (rows.drop i)=foldL 0 [] false rows)∧Below w1.heap.size w1 wr) (fun _ _ iv _=>nA- (intOf iv).toNat);case atStart=>exact⟨0,[],false,rfl,Nat.zero_le _,rfl,recs_nil _ _,Nat.le_refl _,(fun x hx=>by cases hx),(fun h=>by cases h),rfl,Below.refl _ _⟩
 case round=>
  obtain⟨i,l,op,rfl,hi,rfl,hR,hli,hPL,hOP,hF,hB⟩:=hrel;have hszw:=hB.size;have hw01:w.heap.size≤w1.heap.size:=HB1.out.size;have HBW:Hid (Below w.heap.size w wr):=HB1.out.trans (hB.mono HB1.out.size);obtain⟨ao,n,cap,rfl,hn,hnc⟩:=recs_form hR.out;by_cases hlt:i<nA
  ·have hltI:(i:Int)<(nA:Int):=(by omega);have hir:i<rows.length:=(by rw[←HNA.out];exact hlt);obtain⟨g,o,rfl,hglt,c0,c1⟩:=wrow_at HW.out i hir;obtain⟨hxt,hxn,hxl⟩:=HR2.out rows[i] (List.getElem_mem hir);have hF2:=hF.out;rw[drop_at rows i hir]at hF2;have d0:wr.cell? ⟨g,o+i*2,none⟩=some (.string (bs rows[i].text)):=(hB.cell (p:=⟨g,o+i*2,none⟩) hglt).trans c0;have d1:wr.cell? ⟨g,o+i*2+1,none⟩=some (.int .i64 (rows[i].no:Int)):=(hB.cell (p:=⟨g,o+i*2+1,none⟩) hglt).trans c1;clear c0 c1;generalize rows[i]=x at d0 d1 hxt hxn hxl hF2;obtain⟨X,no,lost⟩:=x;simp only at hxt hxl hxn d0 d1;subst hxl;have HF:=Lib.hid hF2;have hHP: ∀w,Calls Tryz.prog 108 #[.string (bs X),.string ⟨#[35]⟩] w fun e w'=>e= .returned (.bool (decide (X.head?=some 35)))∧w=w':=(by intro w;refine(Tryz.strings_HasPrefix (bs X) ⟨#[35]⟩ w).mono ?_;rintro e w' ⟨rfl,rfl⟩;refine⟨?_,rfl⟩;show Ending.returned (.bool (Lib.hasPrefix X [35]))=_;rw[pre_one]);have HHP:=Lib.hid hHP;have hver:=ver_eq X;have HBX:Hid (Below w1.heap.size w1 (wr.alloc (.cells #[.string (bs X),.int .i64 (no:Int)] 144))):=hB.alloc hszw _;have HRX:Hid (Recs (wr.alloc (.cells #[.string (bs X),.int .i64 (no:Int)] 144)) w1.heap.size (.slice ao n cap) l):=recs_below hR.out ((Below.refl _ _).alloc (Nat.le_refl _) _);have HPL:Hid (∀x∈l,x.1.pairs.length≤i+1):=fun x hx=>by have:=hPL.out x hx;omega
   clear hF2 hHP hF hir;by_cases hp:X.head?=some 35
   ·have hd:decide (X.head?=some 35)=true:=decide_eq_true hp;rw[hd]at HHP;have HST:Hid (foldL (i+1) (l.map (·.1)) op (rows.drop (i+1))=foldL 0 [] false rows):=(by show _=_;rw[←HF.out];symm;exact foldL_skip rfl (by unfold skipL;rw[hd];rfl));clear hp hd hver HF;go_wp2_with fail;refine(HHP.out _).mono ?_;rintro e w2 ⟨rfl,rfl⟩;go_wp2_with fail;go_roundw;case rel=>exact⟨i+1,l,op,by go_num,by omega,rfl,HRX,by omega,HPL,hOP,HST,HBX.out⟩
    case measure=>simp[intOf];omega
   ·have hd:decide (X.head?=some 35)=false:=decide_eq_false hp;rw[hd]at HHP;by_cases hv:i=0∧X=version
    ·obtain⟨hi0,hXv⟩:=hv;have hskip:skipL i X=true:=(by unfold skipL;rw[hi0,hXv];decide);have HST:Hid (foldL (i+1) (l.map (·.1)) op (rows.drop (i+1))=foldL 0 [] false rows):=(by show _=_;rw[←HF.out];symm;exact foldL_skip rfl hskip);have hv2:((bs X).toList==[118,101,114,115,105,111,110,58,32,49])=true:=(by rw[hver,hXv];rfl);have q1:((i:Int)==0)=true:=(by rw[beq_iff_eq];omega);clear hp hd hver HF hskip hXv hi0;go_wp2_with fail;refine(HHP.out _).mono ?_;rintro e w2 ⟨rfl,rfl⟩;go_wp2_with fail;go_roundw;case rel=>exact⟨i+1,l,op,by go_num,by omega,rfl,HRX,by omega,HPL,hOP,HST,HBX.out⟩
     case measure=>simp[intOf];omega
    ·have hskip:skipL i X=false:=by
      unfold skipL;rw[hd,Bool.false_or];rcases Classical.em (i=0)with h | h
      ·rw[decide_eq_false (p:=X=version) (fun h2=>hv ⟨h,h2⟩)];simp
      ·rw[decide_eq_false h];rfl
     have hv3:(((i:Int)==0)=true∧((bs X).toList==[118,101,114,115,105,111,110,58,32,49])=false)∨((i:Int)==0)=false:=by
      rcases Classical.em (i=0)with h | h
      ·refine Or.inl ⟨by rw[beq_iff_eq];omega,?_⟩;rw[hver];exact decide_eq_false (fun h2=>hv ⟨h,h2⟩)
      ·exact Or.inr (by rw[beq_eq_false_iff_ne];omega)
     clear hp hd hver hv;by_cases hX0:X=[]
     ·have HST:Hid (foldL (i+1) (l.map (·.1)) false (rows.drop (i+1))=foldL 0 [] false rows):=(by show _=_;rw[←HF.out];symm;exact foldL_blank rfl hskip hX0);have hxe:(bs X).toList=[]:=(by rw[hX0];exact bs_nil);have HOP2:Hid (false=true→l≠[]):=fun h=>by cases h
      clear HF hskip hX0;rcases hv3 with⟨q1,q2⟩ | q1
      ·clear q2;go_wp2_with fail;refine(HHP.out _).mono ?_;rintro e w2 ⟨rfl,rfl⟩;go_wp2_with fail;go_roundw;case rel=>exact⟨i+1,l,false,by go_num,by omega,rfl,HRX,by omega,HPL,HOP2,HST,HBX.out⟩
       case measure=>simp[intOf];omega
      ·go_wp2_with fail;refine(HHP.out _).mono ?_;rintro e w2 ⟨rfl,rfl⟩;go_wp2_with fail;go_roundw;case rel=>exact⟨i+1,l,false,by go_num,by omega,rfl,HRX,by omega,HPL,HOP2,HST,HBX.out⟩
       case measure=>simp[intOf];omega
     ·obtain⟨x1,x2⟩:=bs_ne hX0;rcases hv3 with⟨q1,q2⟩ | q1
      all_goals
       go_wp2_with fail;refine(HHP.out _).mono ?_;rintro e w2 ⟨rfl,rfl⟩;go_wp2_with fail;refine(pair_any (bs X) _ (by rw[bs_size];omega)).mono ?_;intro e w2 hE;obtain⟨hB2,hE2⟩:=pairE_bs hE;have HB2:Hid (Below w1.heap.size w1 w2):=HBX.out.trans (hB2.mono HBX.out.size);have HR2':=Lib.hid (recs_below HRX.out hB2);have hx0:w2.cell? ⟨wr.heap.size,0,none⟩=some (.string (bs X)):=(hB2.cell (p:=⟨wr.heap.size,0,none⟩) (by simp)).trans (by rw[World.cell?_alloc_new];rfl);have hx1:w2.cell? ⟨wr.heap.size,1,none⟩=some (.int .i64 (no:Int)):=(hB2.cell (p:=⟨wr.heap.size,1,none⟩) (by simp)).trans (by rw[World.cell?_alloc_new];rfl);have hsz2:wr.heap.size<w2.heap.size:=(by have:=hB2.size;simp at this;omega);clear hB2 hE;rcases hE2 with⟨hpn,t,v,rfl⟩ | ⟨a,hpa,rfl⟩
       ·have HST:Hid (foldL 0 [] false rows= .inl no):=(by show _=_;rw[←HF.out];exact foldL_none rfl hskip hX0 hpn);clear HF hskip hX0 hpn;go_wp2_with fail;go_quiet (fail);go_wp2_with fail;go_ret3;exact parseE_err HST.out (dr2 ((HB1.out.trans (HB2.out.mono HB1.out.size)).alloc (by omega) _) _)
       ·have hpa:pairL X=some a:=hpa;have hal:=pairL_len hpa;have HIN:Hid (∀w,Calls Tryz.prog 104 #[.string (bs a.1)] w fun e w'=>e= .returned (.bool (isDn a.1))∧w=w'):=fun w=>isName_any (bs a.1) w (by rw[bs_size];omega);obtain⟨W3,hW3⟩: ∃W3,w2.alloc (.cells #[.string (bs a.1),.string (bs a.2)] 51)=W3:=⟨_,rfl⟩;have hB3:Below w2.heap.size w2 W3:=(by rw[←hW3];exact(Below.refl _ _).alloc (Nat.le_refl _) _);have hp0:W3.cell? ⟨w2.heap.size,0,none⟩=some (.string (bs a.1)):=(by rw[←hW3,World.cell?_alloc_new];rfl);have hp1:W3.cell? ⟨w2.heap.size,1,none⟩=some (.string (bs a.2)):=(by rw[←hW3,World.cell?_alloc_new];rfl);have hy1:W3.cell? ⟨wr.heap.size,1,none⟩=some (.int .i64 (no:Int)):=(hB3.cell (p:=⟨wr.heap.size,1,none⟩) hsz2).trans hx1;have HB3:Hid (Below w1.heap.size w1 W3):=HB2.out.trans (hB3.mono HB2.out.size);have HR3:=Lib.hid (recs_below HR2'.out hB3);have hsz3:w2.heap.size<W3.heap.size:=(by rw[←hW3];simp);have hW13:w1.heap.size≤W3.heap.size:=HB3.out.size;have HBE:Hid (Below w.heap.size w W3):=HB1.out.trans (HB3.out.mono hw01);have HSKIP:=Lib.hid hskip;have HX0:=Lib.hid hX0;have HPA:=Lib.hid hpa;clear hB3 hskip hX0 hpa hal;cases hb:isDn a.1 with
        | true=>
         rw[hb]at HIN;have HDN:=Lib.hid hb;clear hb;cases op with
         | true=>have HST:Hid (foldL 0 [] false rows= .inl no):=(by show _=_;rw[←HF.out];exact foldL_bad rfl HSKIP.out HX0.out HPA.out HDN.out);clear HF;go_wp2_with fail;refine(HIN.out _).mono ?_;rintro e w4 ⟨rfl,rfl⟩;clear hW3;go_wp2_with fail;go_quiet (fail);go_wp2_with fail;go_ret3;exact parseE_err HST.out (dr2 HBE.out _)
         | false=>
          have HST:Hid (foldL (i+1) (l.map (·.1)++[⟨a.2,[]⟩]) true (rows.drop (i+1))=foldL 0 [] false rows):=(by show _=_;rw[←HF.out];symm;exact foldL_push rfl HSKIP.out HX0.out HPA.out HDN.out);clear HF;go_wp2_with fail;refine(HIN.out _).mono ?_;rintro e w4 ⟨rfl,rfl⟩;clear hW3;obtain⟨ao5,n5,cap5,w5,hap,hR5,hB5⟩:=recs_push a.2 (bs a.2) rfl HR3.out (by omega) hW13;have HR5:=Lib.hid hR5;have HB5:=Lib.hid (HB3.out.trans hB5);have HPL5:Hid (∀x∈l++[((⟨a.2,[]⟩:Rec),Value.slice none 0 0)],x.1.pairs.length≤i+1):=by
           intro x hx;rcases List.mem_append.1 hx with hx | hx
           ·exact HPL.out x hx
           ·simp only[List.mem_singleton]at hx;subst hx;simp
          have HST5:Hid (foldL (i+1) ((l++[((⟨a.2,[]⟩:Rec),Value.slice none 0 0)]).map (·.1)) true (rows.drop (i+1))=foldL 0 [] false rows):=(by show _=_;rw[List.map_append];exact HST.out);clear hR5 hB5 HST;go_wp2_with (at_builtin;refine Lib.wpList_append_run _ rfl _ _ _ _ rfl _ _ rfl rfl _ _ hap ?_);go_roundw;case rel=>exact⟨i+1,_,true,by go_num,by omega,rfl,HR5,by simp;omega,HPL5,(fun _ h=>by simp at h),HST5,HB5.out⟩
          case measure=>simp[intOf];omega
        | false=>
         rw[hb]at HIN;have HDN:=Lib.hid hb;clear hb;cases op with
         | true=>
          have HST:Hid (foldL (i+1) (addPair (l.map (·.1)) a) true (rows.drop (i+1))=foldL 0 [] false rows):=(by show _=_;rw[←HF.out];symm;exact foldL_add rfl HSKIP.out HX0.out HPA.out HDN.out);rcases List.eq_nil_or_concat l with rfl | ⟨l0,z,hl0⟩
          ·exact absurd rfl (hOP.out rfl)
          rw[List.concat_eq_append]at hl0;subst hl0;obtain⟨k,hk⟩: ∃k,Hid (k=l0.length):=⟨_,rfl⟩;obtain rfl:n=k+1:=(by have:=hn.out;rw[List.length_append]at this;simp at this;rw[hk.out];omega);have hkb:k≤100000:=(by have:=hk.out;rw[List.length_append]at hli;simp at hli;omega);have hzp:=HPL.out z (by simp);have hRd:Recs W3.drew w1.heap.size (.slice ao (k+1) cap) (l0++[z]):=recs_below HR3.out (Below.refl _ _).drew;obtain⟨g2,o2,rfl,hBg2,hg2lt,e0,v5,w5,hap,hB5,⟨y5,e5⟩,f5,⟨av,mv,cv,hv5⟩,hR5⟩:=recs_add a (bs a.1) (bs a.2) rfl rfl hRd (by rw[hk.out]) (by omega) hW13;rw[←hk.out]at e0 e5 f5 hR5;subst hv5;have hap':(Builtin.append_ #[23,23] 23 #[z.2,.slice (some ⟨W3.heap.size,0,none⟩) 1 1]).run Tryz.prog (W3.alloc (.cells #[.string (bs a.1),.string (bs a.2)] 51)).drew= .ok (.slice av mv cv) w5:=hap;have e0':W3.cell? ⟨g2,o2+k*2+1,none⟩=some z.2:=e0;have e0a:(W3.alloc (.cells #[.string (bs a.1),.string (bs a.2)] 51)).cell? ⟨g2,o2+k*2+1,none⟩=some z.2:=(((Below.refl _ W3).alloc (Nat.le_refl _) _).cell (p:=⟨g2,o2+k*2+1,none⟩) hg2lt).trans e0';have HR5:=Lib.hid hR5;have HB5:Hid (Below w1.heap.size w1 w5):=HB3.out.drew.trans hB5;have HAP:=Lib.hid hap';have hb2:w1.heap.size≤g2:=hBg2;obtain⟨zv,hzv⟩: ∃zv,z.2=zv:=⟨_,rfl⟩;rw[hzv]at e0' e0a HAP;have iw:IntKind.i64.wrap (k:Int)=(k:Int):=IntWalk.i64_in _ (by omega);have iw2:(k:Int)<(k:Int)+1:=(by omega);clear hap hap' hRd e0 hB5 hR5 hzv HF;go_wp2_with fail;refine(HIN.out _).mono ?_;rintro e w4 ⟨rfl,rfl⟩;have HPL5:Hid (∀x∈l0++[((⟨z.1.name,z.1.pairs++[a]⟩:Rec),Value.slice av mv cv)],x.1.pairs.length≤i+1):=by
           intro x hx;rcases List.mem_append.1 hx with hx | hx
           ·exact HPL.out x (by simp[hx])
           ·simp only[List.mem_singleton]at hx;subst hx;have:=hPL.out z (by simp);simp only[List.length_append,List.length_singleton];omega
          have HST5:Hid (foldL (i+1) ((l0++[((⟨z.1.name,z.1.pairs++[a]⟩:Rec),Value.slice av mv cv)]).map (·.1)) true (rows.drop (i+1))=foldL 0 [] false rows):=(by show _=_;rw[←addPair_map];exact HST.out);clear hW3 HST;go_wp2_with fail;go_region_law (refine kt.step_append_run rfl _ _ 23 23 rfl _ _ (by simp[Act.eval,Act.put]) (by simp[Act.eval,Act.put]) _ _ HAP.out ?_);all_goals
           go_wp2_with fail;go_roundw;case rel=>exact⟨i+1,_,true,by go_num,by omega,rfl,HR5,by simp at hli ⊢;omega,HPL5,(fun _ h=>by simp at h),HST5,HB5.out.setCell (p:=⟨g2,_,none⟩) hb2 _⟩
           case measure=>simp[intOf];omega
         | false=>have HST:Hid (foldL 0 [] false rows= .inl no):=(by show _=_;rw[←HF.out];exact foldL_bad rfl HSKIP.out HX0.out HPA.out HDN.out);clear HF;go_wp2_with fail;refine(HIN.out _).mono ?_;rintro e w4 ⟨rfl,rfl⟩;clear hW3;go_wp2_with fail;go_quiet (fail);go_wp2_with fail;go_ret3;exact parseE_err HST.out (dr2 HBE.out _)
  ·obtain rfl:i=nA:=(by omega);have HEND:Hid (foldL 0 [] false rows= .inr (l.map (·.1))):=(by show _=_;rw[←hF.out,List.drop_of_length_le (by rw[HNA.out];exact Nat.le_refl _)];rfl);go_wp2_with fail;go_ret3;exact parseE_ok HEND.out HBW.out (recs_mono hR.out HB1.out.size)
end ldw
open Go.RowKit
namespace ldw
open ldp
def firstL (o:Nat ⊕ List Rec):Nat:=match o with
 | .inl j=>j
 | .inr _=>0
theorem first_any (v:Value)(s:ByteArray)(k:Nat)(w:World)(hs:s.size≤100000)(hk:(rowsP [] 0 (raw s.data.toList)).2=some k):
  Calls Tryz.prog 107 #[v,.string s,.int .i64 (k:Int)] w fun e w'=>e= .returned (.int .i64 (firstL (foldL 0 [] false (rowsP [] 0 (raw s.data.toList)).1):Nat))∧Below w.heap.size w w':=by
 have hall:=rowsP_all 100000 (raw s.data.toList) [] 0 (fun x hx=>by cases hx) (by have:=raw_sum _ s.data.toList (Nat.le_refl _);rw[kt.size_len]at this;omega);have hlen0:=raw_len _ s.data.toList (Nat.le_refl _);rw[kt.size_len]at hlen0;obtain⟨_,_,hR3⟩:=hall;have hk1:=hR3 k hk;obtain⟨m,rfl⟩: ∃m,k=m+1:=⟨k-1,by omega⟩;have hm:m<(raw s.data.toList).length:=by omega
 have hmb:m≤100000:=by omega
 have htk:=(rowsP_take (raw s.data.toList) [] 0 (m+1) hk).2;rw[show m+1-1-0=m from by omega,←raw_take m s.data.toList hm]at htk;obtain⟨hdr,hpl⟩:=raw_drop m s.data.toList hm;rw[kt.size_len]at hpl;obtain⟨P,hP⟩: ∃P,P=posN m s.data.toList:=⟨_,rfl⟩;rw[←hP]at hpl htk;obtain⟨t,ht⟩: ∃t,s.extract 0 P=t:=⟨_,rfl⟩;have htd:t.data.toList=s.data.toList.take P:=by rw[←ht,Lib.extract_data];simp
 have hts:t.size≤100000:=by rw[←kt.size_len,htd,List.length_take,kt.size_len];omega
 rw[←htd]at htk;have HPK:Hid (∀w,Calls Tryz.prog 44 #[.string t] w (ParseE (foldL 0 [] false (rowsP [] 0 (raw s.data.toList)).1) w)):=by intro w;have h:=parse_ok t w hts (by rw[htk]);rw[htk]at h;exact h
 have HPOS:=Lib.hid hP;have HM:=Lib.hid hm;clear hk hR3 hk1 hlen0 hdr htd htk hP hm;have i0:IntKind.i64.wrap ((m+1:Nat):Int)=(m:Int)+1:=by rw[show((m+1:Nat):Int)=(m:Int)+1 from by omega];exact IntWalk.i64_in _ (by omega)
 obtain⟨kv,hkv⟩: ∃kv:Int,kv=((m+1:Nat):Int):=⟨_,rfl⟩;rw[←hkv]at i0 ⊢;have hk2:kv=(m:Int)+1:=by omega
 subst hk2;clear hkv i0;go_enter Tryz.func107,Tryz.ntmps107;go_wp2_with fail;go_loop [7,13] (fun av jv=> ∃ (j p:Nat),j≤m∧jv= .int .i64 (j:Int)∧av= .int .i64 (p:Int)∧p≤s.size∧Hid (p=posN j s.data.toList)) (fun _ jv=>m- (intOf jv).toNat);case atStart=>exact⟨0,0,Nat.zero_le _,rfl,rfl,Nat.zero_le _,rfl⟩
 case round=>
  obtain⟨j,p,hj,rfl,rfl,hps,hp⟩:=hrel;by_cases hjm:j<m
  ·obtain⟨A,R,hA,hA10,hpos⟩:=posN_succ j s.data.toList (by have:=HM.out;omega);rw[←hp.out]at hA hpos;obtain⟨x,hx⟩: ∃x,s.extract p s.size=x:=⟨_,rfl⟩;have hxd:x.data.toList=A++10::R:=(by rw[←hx,Lib.extract_to_end,hA]);obtain⟨n,hn⟩: ∃n,n=A.length:=⟨_,rfl⟩;have hpn:p+n+1≤s.size:=(by have:=congrArg List.length hA;rw[List.length_drop,kt.size_len]at this;simp at this;omega);rw[←hn]at hpos;have HPN:Hid (p+n+1=posN (j+1) s.data.toList):=hpos.symm;have HIX:Hid (∀w,Calls Tryz.prog 175 #[.string x,.int .u8 10] w fun e w'=>e= .returned (.int .i64 (n:Int))∧w=w'):=(by intro w;refine(Tryz.strings_IndexByte x 10 w).mono ?_;rintro e w' ⟨rfl,rfl⟩;refine⟨?_,rfl⟩;rw[hxd,show(10:Int).toNat.toUInt8=(10:UInt8)from rfl,ix_hit hA10,hn]);have hps':(p:Int)≤(s.size:Int):=(by omega);clear hA hA10 hpos hxd hn;go_wp2_with fail;refine(HIX.out _).mono ?_;rintro e w2 ⟨rfl,rfl⟩;go_wp2_with fail;go_round;case rel=>exact⟨j+1,p+n+1,by omega,by go_num,by go_num,by omega,HPN⟩
   case measure=>simp[intOf];omega
  ·obtain rfl:j=m:=(by omega);obtain rfl:p=P:=(by rw[hp.out,HPOS.out]);have hps':(p:Int)≤(s.size:Int):=(by omega);go_wp2_with fail;refine(HPK.out _).mono ?_;intro e w2 hE;cases ho:foldL 0 [] false (rowsP [] 0 (raw s.data.toList)).1 with
   | inl q=>rw[ho]at hE;obtain⟨hB,rfl⟩:=hE;have HB:=Lib.hid hB;have HO:=Lib.hid ho;clear ho hB;go_wp2_with fail;go_ret;exact⟨by rw[HO.out];rfl,HB.out⟩
   | inr recs=>rw[ho]at hE;obtain⟨hB,ao,n,cap,l,rfl,_,_⟩:=hE;have HB:=Lib.hid hB;have HO:=Lib.hid ho;clear ho hB;go_wp2_with fail;go_ret;exact⟨by rw[HO.out];rfl,HB.out⟩
theorem parseL_alike (l:List UInt8):parseL l=match(rowsP [] 0 (raw l)).2 with
  | none=>foldL 0 [] false (rowsP [] 0 (raw l)).1
  | some k=>match foldL 0 [] false (rowsP [] 0 (raw l)).1 with
   | .inl j=> .inl j
   | .inr _=> .inl k:=parse_alike pairL isDn skipL (raw l)
theorem parse_any (s:ByteArray)(w:World)(hs:s.size≤100000):Calls Tryz.prog 44 #[.string s] w (ParseE (parseL s.data.toList) w):=by
 cases hst:(rowsP [] 0 (raw s.data.toList)).2 with
 | none=>have h:=parse_ok s w hs hst;have e:=parseL_alike s.data.toList;rw[hst]at e;simp only at e;rw[e];exact h
 | some k=>
  have e:=parseL_alike s.data.toList;rw[hst]at e;simp only at e;have hpos: ∀j,foldL 0 [] false (rowsP [] 0 (raw s.data.toList)).1= .inl j→0<j:=by intro j hj;refine foldL_pos _ 0 [] false j ?_ hj;intro x hx;exact((rowsP_all 100000 (raw s.data.toList) [] 0 (fun x hx=>by cases hx) (by have:=raw_sum _ s.data.toList (Nat.le_refl _);rw[kt.size_len]at this;omega)).2.1 x hx).2.1
  have HL:Hid (∀w,Calls Tryz.prog 106 #[.string s] w fun e w'=>e= .returned (.tuple #[.slice none 0 0,.int .i64 (k:Int),.bool false])∧Below w.heap.size w w'):=by intro w;refine(lines_any s w hs).mono ?_;intro e w' h;have h2:=h.2;rw[hst]at h2;exact⟨h2,h.1⟩
  have hF:=fun w=>first_any (.slice none 0 0) s k w hs hst;have hsI:(s.size:Int)≤100000:=by omega
  cases ho:foldL 0 [] false (rowsP [] 0 (raw s.data.toList)).1 with
  | inl j=>rw[ho]at e hF;have hj:=hpos j ho;have hjI:(0:Int)<(j:Int):=(by omega);have HF:Hid (∀w,Calls Tryz.prog 107 #[.slice none 0 0,.string s,.int .i64 (k:Int)] w fun e w'=>e= .returned (.int .i64 (j:Int))∧Below w.heap.size w w'):=hF;have HE:=Lib.hid e;clear e hpos ho hF hst hj;go_enter Tryz.func44,Tryz.ntmps44;go_wp2_with fail;refine(HL.out _).mono ?_;rintro e w1 ⟨rfl,hB1⟩;have HB1:=Lib.hid hB1;clear hB1;go_wp2_with fail;refine(HF.out _).mono ?_;rintro e w2 ⟨rfl,hB2⟩;have HB2:=Lib.hid (HB1.out.trans (hB2.mono HB1.out.size));clear hB2;go_wp2_with fail;go_ret3;exact parseE_err HE.out HB2.out
  | inr recs=>rw[ho]at e hF;have HF:Hid (∀w,Calls Tryz.prog 107 #[.slice none 0 0,.string s,.int .i64 (k:Int)] w fun e w'=>e= .returned (.int .i64 0)∧Below w.heap.size w w'):=hF;have HE:=Lib.hid e;clear e hpos ho hF hst;go_enter Tryz.func44,Tryz.ntmps44;go_wp2_with fail;refine(HL.out _).mono ?_;rintro e w1 ⟨rfl,hB1⟩;have HB1:=Lib.hid hB1;clear hB1;go_wp2_with fail;refine(HF.out _).mono ?_;rintro e w2 ⟨rfl,hB2⟩;have HB2:=Lib.hid (HB1.out.trans (hB2.mono HB1.out.size));clear hB2;go_wp2_with fail;go_ret3;exact parseE_err HE.out HB2.out
end ldw
open Go.RowKit
namespace ldw
open ldp
theorem dr_drewN {B:Nat}{w w':World}(h:Below B w w')(n:Nat):Below B w (w'.drewN n):=dr2 h n
def RdR (w:World)(ao:Option Addr)(l:List Rec):Prop:= ∀i (hi:i<l.length),∃g o,ao=some ⟨g,o,none⟩∧w.cell? ⟨g,o+i*2,none⟩=some (.string (bs l[i].name))∧
 ∃a c,w.cell? ⟨g,o+i*2+1,none⟩=some (.slice a l[i].pairs.length c)∧ ∀j (hj:j<l[i].pairs.length),∃g' o',a=some ⟨g',o',none⟩∧w.cell? ⟨g',o'+j*2,none⟩=some (.string (bs l[i].pairs[j].1))∧w.cell? ⟨g',o'+j*2+1,none⟩=some (.string (bs l[i].pairs[j].2))
theorem rdR_of {w:World}{B n cap:Nat}{ao:Option Addr}{l:List RV}(h:Recs w B (.slice ao n cap) l):n=l.length∧RdR w ao (l.map (·.1)):=by obtain⟨ao',n',cap',hv,hn,_⟩:=recs_form h;simp only[Value.slice.injEq]at hv;refine⟨by rw[hv.2.1,hn.out],fun i hi=> ?_⟩;rw[List.length_map]at hi;obtain⟨g,o,h1,h2,h3,a,m,c,h4,h5,h6⟩:=recs_at h i hi;simp only[List.getElem_map];subst h5;rw[h4]at h3;exact⟨g,o,h1,h2,a,c,h3,h6⟩
def exT:ByteArray:=⟨#[100,110,58,32,99,110,61,97,10,99,110,58,32,97,10,10]⟩
def exR:List Rec:=[⟨[99,110,61,97],[([99,110],[97])]⟩]
theorem ex_parse:parseL exT.data.toList= .inr exR:=by kernel_rfl
theorem awake_any (w:World):Calls Tryz.prog 34 #[] w fun e w'=>e= .returned (.bool true)∧Below w.heap.size w w':=by
 have HC:Hid (Calls Tryz.prog 44 #[.string ⟨#[100,110,58,32,99,110,61,97,10,99,110,58,32,97,10,10]⟩] w fun e w'=>Below w.heap.size w w'∧ ∃ao cap,e= .returned (.tuple #[.slice ao 1 cap,.int .i64 0,.int .i64 0])∧RdR w' ao exR):=by
  refine(parse_any exT w (by decide)).mono fun e w' h=> ?_;obtain⟨h1,h2⟩:=h;rw[ex_parse]at h2;obtain⟨ao,n,cap,l,rfl,hr,hl⟩:=h2;obtain⟨k1,k2⟩:=rdR_of hr;rw[hl]at k2;have:n=1:=by have h9:=congrArg List.length hl;rw[List.length_map]at h9;rw[k1,h9];rfl
  subst this;exact⟨h1,ao,cap,rfl,k2⟩
 go_enter Tryz.func34,Tryz.ntmps34;go_wp2_with fail;refine HC.out.mono ?_;rintro e w1 ⟨hB1,ao,cap,rfl,hR⟩;obtain⟨g,o,e1,c0,a,c,c1,hp⟩:=hR 0 (by decide);obtain⟨g2,o2,e2,d0,d1⟩:=hp 0 (by decide);subst e1 e2;have k0:w1.cell? ⟨g,o,none⟩=some (.string ⟨#[99,110,61,97]⟩):=c0;have k1:w1.cell? ⟨g,o+1,none⟩=some (.slice (some ⟨g2,o2,none⟩) 1 c):=by simpa[exR]using c1
 have k2:w1.cell? ⟨g2,o2,none⟩=some (.string ⟨#[99,110]⟩):=d0;have k3:w1.cell? ⟨g2,o2+1,none⟩=some (.string ⟨#[97]⟩):=by simpa[exR,bs]using d1
 have HB1:=Lib.hid hB1;clear c0 c1 d0 d1 hR hp hB1 HC;go_wp2_with fail;go_ret;exact⟨rfl,HB1.out⟩
end ldw
end Go.Proofs.YtmnpfkbjpeaemaaGreatDoor
