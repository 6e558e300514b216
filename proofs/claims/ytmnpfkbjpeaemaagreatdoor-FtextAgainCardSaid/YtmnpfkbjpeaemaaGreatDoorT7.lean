/- One text out of several: PieceW, PartI, ConcW, PartP, OrdS, OrdW, FilP, FtxP, BuildB, HexW. -/
import Derived.Test.YtmnpfkbjpeaemaaGreatDoorT4
import Derived.Test.YtmnpfkbjpeaemaaGreatDoorT5
import Derived.Test.YtmnpfkbjpeaemaaGreatDoorT6
import Derived.Laws.OwnMore
import Derived.Lib.AppendZeros
import Derived.Shelf.Strconv.AtoiAll
import Derived.Test.YtmnpfkbjpeaemaaGreatDoorProg
import Derived.Lib.AtoiErrMem
import Derived.Lib.Small
import Derived.Test.YtmnpfkbjpeaemaaGreatDoorT1
import Derived.Test.YtmnpfkbjpeaemaaGreatDoorT2
set_option linter.unusedVariables false
set_option linter.unusedSimpArgs false
set_option maxRecDepth 20000
set_option maxHeartbeats 8000000
namespace Go.Proofs.YtmnpfkbjpeaemaaGreatDoor
open Go.RowKit
namespace atw
open atp
theorem ready_norm_len {a:List UInt8}{f:Bool}(h:a.length≤1000): ∀u,ne0 (prp.readyO a f)=some u→u.length≤1000:=by
 intro u hu;cases hr:prp.readyO a f with
 | none=>rw[hr]at hu;cases hu
 | some o=>
  have:=prp.readyO_len hr;rw[hr]at hu;unfold ne0 at hu;simp only at hu;split at hu
  ·cases hu
  ·cases hu;omega
theorem norm_text_len {syn:Int}{a:List UInt8}(h:syn=1∨syn=2):(normL syn a).1.length≤1000:=by
 by_cases h1:1000<a.length
 ·rw[normL_long (by omega) h1];simp
 by_cases h2:a=[]
 ·rw[normL_nil (by omega) h2];simp
 rw[normL_form (by omega) (by omega) h2];split
 ·simp
 ·rename_i u hu;have he:formO syn a=ne0 (prp.readyO a true)∨formO syn a=ne0 (prp.readyO a false):=by
   rcases h with rfl | rfl
   ·exact Or.inl rfl
   ·exact Or.inr rfl
  rcases he with he | he
  ·rw[he]at hu;exact ready_norm_len (by omega) u hu
  ·rw[he]at hu;exact ready_norm_len (by omega) u hu
def pieceO (syn:Int)(l:List UInt8):Option (List UInt8):=if syn=7 then prp.phoneO l else prp.mapO l (syn==1)
theorem piece_len {syn:Int}{l o:List UInt8}(h:pieceO syn l=some o):o.length≤l.length:=by
 unfold pieceO at h;split at h
 ·unfold prp.phoneO at h;obtain⟨m,hm,rfl⟩:=Option.map_eq_some_iff.1 h;have e:prp.mapO l true=some (run.text (prp.mapped true m)):=by unfold prp.mapO;rw[hm];rfl
  refine Nat.le_trans ?_ (prp.mapO_len e);unfold prp.phoneR;generalize prp.mapped true m=q;induction q with
  | nil=>exact Nat.le_refl _
  | cons c r ih=>
   have e1:run.text (c::r)=run.enc c++run.text r:=rfl;rw[List.filter_cons];split
   ·have e2:run.text (c::List.filter (fun v=>decide (v≠32)&&decide (v≠45)) r)=run.enc c++run.text (List.filter (fun v=>decide (v≠32)&&decide (v≠45)) r):=rfl;rw[e1,e2,List.length_append,List.length_append];omega
   ·rw[e1,List.length_append];omega
 ·exact prp.mapO_len h
theorem piece_any (nm:ByteArray)(syn:Int)(sg:Bool)(s:ByteArray)(w:World)(hs:s.size≤1100000)(hE:Hid (prw.Env w)):
  Calls Tryz.prog 304 #[.agg #[.string nm,.int .i64 syn,.bool sg],.string s] w fun e w'=>e= .returned (prw.pairV (pieceO syn s.data.toList))∧Below w.heap.size w w':=by
 obtain⟨W0,hW0⟩: ∃W,w.alloc (.cells #[.string nm,.int .i64 syn,.bool sg] 108)=W:=⟨_,rfl⟩;have hB0:Below w.heap.size w W0:=by rw[←hW0];exact(Below.refl _ _).alloc (Nat.le_refl _) _
 have HB0:=Lib.hid hB0;have hw0:w.heap.size≤W0.heap.size:=hB0.size;have HTB0:Hid (TB W0 w.heap.size nm syn sg):=by rw[←hW0];exact tb_new w nm syn sg
 obtain⟨k0,k1,k2⟩:=tb_cells HTB0.out;have HE0:=Lib.hid (prw.env_below hE.out hB0);by_cases h7:syn=7
 ·subst h7;have hp:pieceO 7 s.data.toList=prp.phoneO s.data.toList:=rfl;have HC:Hid (Calls Tryz.prog 290 #[.string s] W0 fun e w'=>e= .returned (prw.pairV (prp.phoneO s.data.toList))∧Below W0.heap.size W0 w'):=prw.phone_any s W0 hs HE0;rw[hp];clear hp;obtain⟨po,hpo⟩: ∃u,prp.phoneO s.data.toList=u:=⟨_,rfl⟩;rw[hpo]at HC ⊢;clear hpo hB0;cases po;all_goals
   simp only[prw.pairV]at HC ⊢;go_enter Tryz.func304,Tryz.ntmps304;go_wp2_with fail;refine(HC.out).mono ?_;rintro e w1 ⟨rfl,hB1⟩;have HB1:=Lib.hid (HB0.out.trans (hB1.mono hw0));clear hB1 hW0 k0 k1 k2;go_wp2_with fail;go_ret2;exact⟨rfl,HB1.out⟩
 ·have hp:pieceO syn s.data.toList=prp.mapO s.data.toList (syn==1):=by unfold pieceO;rw[if_neg h7]
  have q7:(syn==7)=false:=by rw[beq_eq_false_iff_ne];exact h7
  have HC:Hid (Calls Tryz.prog 192 #[.string s,.bool (syn==1)] W0 fun e w'=>e= .returned (prw.pairV (prp.mapO s.data.toList (syn==1)))∧Below W0.heap.size W0 w'):=prw.map_any s (syn==1) W0 hs;rw[hp];clear hp h7;obtain⟨po,hpo⟩: ∃u,prp.mapO s.data.toList (syn==1)=u:=⟨_,rfl⟩;rw[hpo]at HC ⊢;clear hpo hB0;cases po;all_goals
   simp only[prw.pairV]at HC ⊢;go_enter Tryz.func304,Tryz.ntmps304;go_wp2_with fail;refine(HC.out).mono ?_;rintro e w1 ⟨rfl,hB1⟩;have HB1:=Lib.hid (HB0.out.trans (hB1.mono hw0));clear hB1 hW0 k0 k1 k2;go_wp2_with fail;go_ret2;exact⟨rfl,HB1.out⟩
end atw
open Go.RowKit
namespace atw
open atp tupw
def neB (x:ByteArray):Bool:=decide (x.data.toList≠[])
theorem ne_beq (x:ByteArray):(x.toList==[])= !(neB x):=by
 unfold neB;rw[Lib.toList_data];cases h:x.data.toList with
 | nil=>rfl
 | cons a t=>rfl
theorem ne_bne (x:ByteArray):(x.toList != [])=neB x:=by rw[bne,ne_beq,Bool.not_not]
theorem clo_any (x:ByteArray)(W:World):Calls Tryz.prog 302 #[.string x] W fun e w'=>e= .returned (.bool (neB x))∧W=w':=by
 have hb:=ne_bne x;cases hn:neB x;all_goals
  rw[hn]at hb;clear hn;have HB:=Lib.hid hb;go_enter Tryz.func302,Tryz.ntmps302;go_wp2_with fail;all_goals first
   | (go_ret;exact⟨kt.ret_bool (by first | rfl | exact HB.out | simp_all),rfl⟩)
def Has (l:List ByteArray)(k:Nat):Prop:= ∃i,∃hi:i<l.length,i<k∧neB l[i]=true
def IxE (l:List ByteArray)(w:World)(e:Ending)(w':World):Prop:= ∃r:Int,e= .returned (.int .i64 r)∧(0≤r↔Has l l.length)∧w'=w
theorem index_any (ao:Option Addr)(cap:Nat)(l:List ByteArray)(w:World)(hA:Hid (Strs w ao l))(hkb:l.length≤1000):
  Calls Tryz.prog 146 #[.slice ao l.length cap,.func (.func 302) #[] #[]] w fun e w'=>IxE l w e w':=by
 obtain⟨k,hk⟩: ∃k,l.length=k:=⟨_,rfl⟩;have HK:=Lib.hid hk;unfold IxE;rw[hk]at hkb ⊢;clear hk;go_enter Tryz.func146,Tryz.ntmps146;go_wp2_with fail;go_loop [5,8] (fun _ iv=> ∃i:Nat,i≤k∧iv= .int .i64 (i:Int)∧Hid (¬Has l i)) (fun _ iv=>k- (intOf iv).toNat);case atStart=>exact⟨0,Nat.zero_le _,rfl,fun⟨_,_,h,_⟩=>by omega⟩
 case round=>
  obtain⟨i,hi,rfl,hN⟩:=hrel;by_cases hlt2:i<k
  ·have hlt':(i:Int)<(k:Int):=(by omega);have hil:i<l.length:=(by rw[HK.out];exact hlt2);obtain⟨b,o,hao,hc0⟩:=hA.out i hil;subst hao;have CC:=fun w=>clo_any l[i] w;by_cases he:neB l[i]=true
   ·have HH:Hid (0≤(i:Int)↔Has l k):=⟨fun _=>⟨i,hil,hlt2,he⟩,fun _=>by omega⟩;rw[he]at CC;have HC:=Lib.hid CC;generalize l[i]=x at hc0 HC;clear CC he;go_wp2_with fail;refine(HC.out _).mono ?_;rintro e w2 ⟨rfl,rfl⟩;go_wp2_with fail;go_ret;exact⟨(i:Int),rfl,HH.out,rfl⟩
   ·have HN2:Hid (¬Has l (i+1)):=by
     rintro⟨j,hj,h1,h2⟩;by_cases e:j=i
     ·subst e;exact he h2
     ·exact hN.out ⟨j,hj,by omega,h2⟩
    rw[Bool.eq_false_iff.2 he]at CC;have HC:=Lib.hid CC;generalize l[i]=x at hc0 HC;clear CC he;go_wp2_with fail;refine(HC.out _).mono ?_;rintro e w2 ⟨rfl,rfl⟩;go_wp2_with fail;go_round;case rel=>exact⟨i+1,by omega,by go_num,HN2⟩
    case measure=>simp[intOf];omega
  ·obtain rfl:i=k:=(by omega);go_wp2_with fail;go_ret;exact⟨-1,rfl,⟨fun h=>by omega,fun h=>absurd h hN.out⟩,rfl⟩
theorem hasB_iff (l:List ByteArray):l.any neB=true↔Has l l.length:=by
 unfold Has;rw[List.any_eq_true];constructor
 ·rintro⟨x,hx,h⟩;obtain⟨i,hi,rfl⟩:=List.mem_iff_getElem.1 hx;exact⟨i,hi,hi,h⟩
 ·rintro⟨i,hi,h1,h2⟩;exact⟨l[i],List.getElem_mem _,h2⟩
theorem contains_any (ao:Option Addr)(cap:Nat)(l:List ByteArray)(w:World)(hA:Hid (Strs w ao l))(hkb:l.length≤1000):
  Calls Tryz.prog 227 #[.slice ao l.length cap,.func (.func 302) #[] #[]] w fun e w'=>e= .returned (.bool (l.any neB))∧w=w':=by
 have CI:=Lib.hid (index_any ao cap l w hA hkb);have hI:=hasB_iff l;generalize l.length=n at CI ⊢;cases hH:l.any neB with
 | true=>have HH:=Lib.hid (hI.1 hH);clear hI hH;go_enter Tryz.func227,Tryz.ntmps227;go_wp2_with fail;refine CI.out.mono ?_;rintro e w1 ⟨r,rfl,h1,rfl⟩;have h2:0≤r:=h1.2 HH.out;clear h1;go_wp2_with fail;go_ret;exact⟨kt.ret_bool (by first | rfl | exact decide_eq_true h2),rfl⟩
 | false=>
  have HH:Hid (¬Has l l.length):=fun h=>by rw[hI.2 h]at hH;cases hH
  clear hI hH;go_enter Tryz.func227,Tryz.ntmps227;go_wp2_with fail;refine CI.out.mono ?_;rintro e w1 ⟨r,rfl,h1,rfl⟩;have h2: ¬0≤r:=fun h=>HH.out (h1.1 h);clear h1;go_wp2_with fail;go_ret;exact⟨kt.ret_bool (by simpa using h2),rfl⟩
end atw
open Go.RowKit
namespace atw
open atp tupw prw
theorem grow_any (B n:Nat)(w:World)(h0:0<n)(hn:n≤1100000)(hB:B≤w.heap.size):
  Calls Tryz.prog 318 #[.slice none 0 0,.int .i64 (n:Int)] w fun e w'=> ∃v,e= .returned v∧Hid (OwnT w' B v [])∧Below w.heap.size w w':=by
 obtain⟨i0,hi,hz0,hz1,hz2⟩:=info_parts (P:=Tryz.prog) infoStr;have hap:=Lib.hid (Lib.run_append_nil_zeros (P:=Tryz.prog) w 35 3 35 9 i0 _ .i64 .i64 Tryz.underlying35 Tryz.underlying3 hi hz0 n h0 (by omega) (by omega) (by rw[hz2];omega));generalize hc:Builtin.zeroCells (Value.string ByteArray.empty).cells n++Builtin.zeroCells (Value.string ByteArray.empty).cells (grownCap w n 0 9-n)=cs at hap;have hcs:cs.size=grownCap w n 0 9*1:=by rw[←hc,Array.size_append,size_zeroCells,size_zeroCells];have:=grownCap_ge w n 0 9;show n*1+(_-n)*1=_;omega
 have hOW:Hid (OwnT (w.drew.alloc (.cells cs 9)) B (.slice (some ⟨w.heap.size,0,none⟩) 0 (grownCap w n 0 9)) []):=
  World.ownsRow_made w.drew cs _ hB (grownCap_le_maxLen w n 0 _ (by unfold maxLen;omega)) hcs
 have hBW:Hid (Below w.heap.size w (w.drew.alloc (.cells cs 9))):=((Below.refl _ w).drew).alloc (Nat.le_refl _) _;have hcap:Hid (n≤grownCap w n 0 9):=grownCap_ge w n 0 _;generalize grownCap w n 0 9=cap at hap hOW hcs hcap;obtain⟨w1,hw1⟩: ∃w1,w.drew.alloc (.cells cs 9)=w1:=⟨_,rfl⟩;rw[hw1]at hap hOW hBW;have hnI:(0:Int)<(n:Int):=by omega
 have hnI2:(n:Int)≤1100000:=by omega
 clear hc hcs hw1 hi hz0 hz1 hz2 hB;go_enter Tryz.func318,Tryz.ntmps318;go_wp2_with (at_builtin;refine Lib.wpList_append_run _ rfl _ _ _ _ rfl _ _ rfl rfl _ _ hap.out ?_);go_ret;exact⟨_,rfl,hOW,hBW.out⟩
theorem app_row {w:World}{B:Nat}{v:Value}{l m:List ByteArray}{ao:Option Addr}{cap:Nat}(hown:OwnT w B v l)(hS:Strs w ao m)(hn:ao=none→cap=0)(hl:l.length+m.length≤100000)(hbase:B≤w.heap.size):
  ∃v' w1,(Builtin.append_ #[35,35] 35 #[v,.slice ao m.length cap]).run Tryz.prog w= .ok v' w1∧OwnT w1 B v' (l++m)∧Below B w w1:=by
 obtain⟨i0,hi,hz0,hz1,hz2⟩:=info_parts (P:=Tryz.prog) infoStr;have hlen:=scells_length l;unfold OwnT at hown;cases ao with
 | none=>
  have hm:m=[]:=by
   cases m with
   | nil=>rfl
   | cons x t=>obtain⟨b,o,e,_⟩:=hS 0 (by simp);cases e
  subst hm;have hc:=hn rfl;subst hc;refine⟨v,w,run_append_owned_none (P:=Tryz.prog) (w:=w) B 35 35 9 i0 1 Tryz.underlying35 hi v _ _ hown,?_,Below.refl _ _⟩;rw[List.append_nil];exact hown
 | some a=>
  obtain⟨v',w1,hrun,hown',hgr,_⟩:=run_append_own (P:=Tryz.prog) (w:=w) (ty:=35) B 35 9 i0 _ 1 16 Tryz.underlying35 hi hz0 hz1 hz2 rfl (by omega) v (scells l).length (scells l) hown a m.length cap (scells m) (by rw[scells_length];omega)
   (fun j u hj=>by
    unfold scells at hj;rw[List.getElem?_map]at hj;obtain⟨x,hx,rfl⟩:=Option.map_eq_some_iff.1 hj;obtain⟨hjl,rfl⟩:=List.getElem?_eq_some_iff.1 hx;obtain⟨b,o,e,hc⟩:=hS j hjl;simp only[Option.some.injEq]at e;subst e;unfold Addr.add;by_cases hj0:j=0
    ·subst hj0;rw[if_pos rfl];exact hc
    ·rw[if_neg hj0];exact hc)
   (fun u hu=>by unfold scells at hu;obtain⟨x,_,rfl⟩:=List.mem_map.1 hu;rfl) (by unfold maxLen;omega) (by omega) hbase
  have hlt: ∀k,v.ownBlock=some k→B≤k∧k<w.heap.size:=World.ownsRow.lt hown;refine⟨v',w1,hrun,?_,(Below.refl B w).grown hgr hbase (fun k hk=>(hlt k hk).1)⟩;unfold OwnT;have e:scells (l++m)=scells l++scells m:=by simp[scells]
  have e2:(scells l++scells m).length=(scells l).length+m.length:=by rw[List.length_append,scells_length m]
  rw[e,e2];exact hown'
def Rws (w:World)(q:Nat)(L:List (List ByteArray)):Prop:= ∀ (i:Nat) (h:i<L.length),∃ao cap,w.cell? ⟨q,i,none⟩=some (.slice ao L[i].length cap)∧Strs w ao L[i]∧(ao=none→cap=0)
theorem rws_below {w w':World}{q:Nat}{L:List (List ByteArray)}(h:Rws w q L)(hb:Below w.heap.size w w'):Rws w' q L:=by intro i hi;obtain⟨ao,cap,hc,hS,hn⟩:=h i hi;exact⟨ao,cap,(hb.cell (World.block_lt_of_cell? w _ hc)).trans hc,strs_below hS hb,hn⟩
theorem flat_take {L:List (List ByteArray)}{i:Nat}(h:i<L.length):(L.take (i+1)).flatten=(L.take i).flatten++L[i]:=by rw[List.take_succ_eq_append_getElem h,List.flatten_append];simp
theorem flat_le (L:List (List ByteArray))(i:Nat):(L.take i).flatten.length≤L.flatten.length:=by
 conv=>rhs;rw[←List.take_append_drop i L,List.flatten_append,List.length_append]
 omega
theorem concat_any (q B cap:Nat)(L:List (List ByteArray))(w:World)(hR:Hid (Rws w q L))(hL:L.length≤10)(h0:0<L.flatten.length)(h1:L.flatten.length≤10000)(hB:B≤w.heap.size):
  Calls Tryz.prog 303 #[.slice (some ⟨q,0,none⟩) L.length cap] w fun e w'=> ∃v,e= .returned v∧Hid (OwnT w' w.heap.size v L.flatten)∧Below w.heap.size w w':=by
 obtain⟨k,hk⟩: ∃k,L.length=k:=⟨_,rfl⟩;have HK:=Lib.hid hk;have HF:=Lib.hid h1;have HT:Hid (∀i,(L.take i).flatten.length≤10000):=fun i=>Nat.le_trans (flat_le L i) h1;have HS:Hid (∀i (h:i<L.length),(L.take (i+1)).flatten=(L.take i).flatten++L[i]):=fun i h=>flat_take h;have HE:Hid ((L.take k).flatten=L.flatten):=by rw[←hk,List.take_length];rfl
 have HFP:=Lib.hid h0;rw[hk]at hL ⊢;clear hk h0 h1;go_enter Tryz.func303,Tryz.ntmps303;go_wp2_with fail;go_loop [3,5,11] (fun sv _ iv=> ∃i:Nat,i≤k∧iv= .int .i64 (i:Int)∧ ∃n:Nat,sv= .int .i64 (n:Int)∧Hid (n=(L.take i).flatten.length)) (fun _ _ iv=>k- (intOf iv).toNat);case atStart=>exact⟨0,Nat.zero_le _,rfl,0,rfl,rfl⟩
 case round=>
  obtain⟨i,hi,rfl,n,rfl,hn⟩:=hrel;have hn1:n≤10000:=by rw[hn.out];exact HT.out i
  by_cases hlt2:i<k
  ·have hlt':(i:Int)<(k:Int):=(by omega);have hil:i<L.length:=(by rw[HK.out];exact hlt2);obtain⟨ao,c,hc0,_,_⟩:=hR.out i hil;have HN:Hid (n+L[i].length=(L.take (i+1)).flatten.length):=(by rw[HS.out i hil,List.length_append,hn.out];exact rfl);have hn2:n+L[i].length≤10000:=(by rw[HN.out];exact HT.out _);generalize L[i].length=m at hc0 HN hn2;have hn3: ¬ ((n:Int)+(m:Int)<0):=(by omega);clear hn;go_wp2_with fail;go_round;case rel=>exact⟨i+1,by omega,by go_num,n+m,by go_num,HN⟩
   case measure=>simp[intOf];omega
  ·obtain rfl:i=k:=(by omega);have hnp:0<n:=(by rw[hn.out,HE.out];exact HFP.out);have HG:Hid (∀w:World,∀B≤w.heap.size,Calls Tryz.prog 318 #[.slice none 0 0,.int .i64 (n:Int)] w fun e w'=> ∃v,e= .returned v∧Hid (OwnT w' B v [])∧Below w.heap.size w w'):=fun w B hB=>grow_any B n w hnp (by omega) hB;clear hn hnp;go_wp2_with fail;refine(HG.out _ w.heap.size (Nat.le_refl _)).mono ?_;rintro e w1 ⟨v1,rfl,hO1,hB1⟩;have HB1:=Lib.hid hB1;clear hB1;go_wp2_with fail;go_loopw [6,8,27] (fun vv _ iv wr=> ∃j:Nat,j≤i∧iv= .int .i64 (j:Int)∧Hid (OwnT wr w.heap.size vv (L.take j).flatten)∧Below w.heap.size w wr) (fun _ _ iv _=>i- (intOf iv).toNat);case atStart=>exact⟨0,Nat.zero_le _,rfl,hO1,HB1.out⟩
   case round=>
    obtain⟨j,hj,rfl,hO,hB2⟩:=hrel;have hsz:=hB2.size;by_cases hlt3:j<i
    ·have hlt':(j:Int)<(i:Int):=(by omega);have hil:j<L.length:=(by rw[HK.out];exact hlt3);obtain⟨ao,c,hc0,hS,hcn⟩:=(rws_below hR.out hB2) j hil;obtain⟨v',w2,hap,hO2,hB3⟩:=app_row hO.out hS hcn (by rw[←List.length_append,←HS.out j hil];have:=HT.out (j+1);omega) hsz;rw[←HS.out j hil]at hO2;have hap:=Lib.hid hap;have HO2:=Lib.hid hO2;have HB3:=Lib.hid (hB2.trans hB3);clear hO2 hB3 hS hcn hO;generalize L[j].length=m at hc0 hap;go_wp2_with (at_builtin;refine Lib.wpList_append_run _ rfl _ _ _ _ rfl _ _ rfl rfl _ _ hap.out ?_);go_roundw;case rel=>exact⟨j+1,by omega,by go_num,HO2,HB3.out⟩
     case measure=>simp[intOf];omega
    ·obtain rfl:j=i:=(by omega);have HO2:=hO;rw[HE.out]at HO2;clear hO;go_wp2_with fail;go_ret;exact⟨_,rfl,HO2,hB2⟩
end atw
open Go.RowKit
namespace atw
open atp tupw prw
def gotP (syn:Int)(x:ByteArray):List UInt8:=(pieceO syn x.data.toList).getD []
def allP (syn:Int)(L:List ByteArray):Bool:=L.all fun x=>(pieceO syn x.data.toList).isSome
def partE (syn:Int)(value first last:ByteArray)(mids:List ByteArray):Bool × Int:=
 if¬ (syn=1∨syn=2∨syn=7)then(false,20)else if 8<mids.length then(false,20)else if(first::(mids++[last])).any neB=false then(false,20)
 else if(normL syn value.data.toList).2≠0 then(false,(normL syn value.data.toList).2)
 else if allP syn (first::(mids++[last]))=false then(false,19)
 else(partL (normL syn value.data.toList).1 (gotP syn first) (gotP syn last) (mids.map (gotP syn)),0)
theorem norm_len {syn:Int}{a:List UInt8}(h:syn=1∨syn=2∨syn=7):(normL syn a).1.length≤1000:=by
 by_cases h7:syn=7
 ·subst h7;by_cases h1:1000<a.length
  ·rw[normL_long (by omega) h1];simp
  by_cases h2:a=[]
  ·rw[normL_nil (by omega) h2];simp
  rw[normL_form (by omega) (by omega) h2];have he:formO 7 a=ne0 (prp.phoneO a):=rfl;rw[he];cases hp:prp.phoneO a with
  | none=>simp[ne0]
  | some o=>
   have:=piece_len (syn:=7) (l:=a) (o:=o) hp;unfold ne0;by_cases ho:o=[]
   ·simp[ho]
   ·simp only[ho,if_false];omega
 ·exact norm_text_len (by omega)
theorem below_dr {B:Nat}{a b:World}(h:Below B a b)(n:Nat):Below B a (b.drewN n):=⟨h.os,h.tape,h.output,h.size,h.block⟩
theorem own_open {w:World}{B:Nat}{v:Value}{l:List ByteArray}(h:OwnT w B v l)(hne:l≠[]): ∃g cap,v= .slice (some ⟨g,0,none⟩) l.length cap∧B≤g∧l.length≤cap∧OwnT w B (.slice (some ⟨g,0,none⟩) l.length cap) l:=by
 obtain⟨ao,cap,rfl,hc,h1⟩:=ownT_cells h;obtain⟨g,rfl,hg,_⟩:=h1 hne;refine⟨g,cap,rfl,?_,hc,h⟩;have h':w.ownsRow B 9 1 (.slice (some ⟨g,0,none⟩) l.length cap) l.length (scells l):=by have:=h;unfold OwnT at this;rw[scells_length]at this;exact this
 obtain⟨g',e,_,hB⟩:=kt.row_some h' (List.length_pos_iff.2 hne);injection e with e;injection e with e;omega
def OwnG (w:World)(B g k cap:Nat)(l:List ByteArray):Prop:=w.ownsRow B 9 1 (.slice (some ⟨g,0,none⟩) k cap) k (scells l)∧l.length=k
theorem ownG_of {w:World}{B g cap:Nat}{l:List ByteArray}(h:OwnT w B (.slice (some ⟨g,0,none⟩) l.length cap) l):OwnG w B g l.length cap l:=by unfold OwnT at h;rw[scells_length]at h;exact⟨h,rfl⟩
theorem ownG_cell {w:World}{B g k cap:Nat}{l:List ByteArray}(h:OwnG w B g k cap l)(j:Nat)(hj:j<l.length):w.cell? ⟨g,j,none⟩=some (.string l[j]):=by obtain⟨g',e,hc,_⟩:=kt.row_some h.1 (by rw[←h.2];omega);injection e with e;injection e with e;subst e;exact hc j _ (by simp[scells,hj])
theorem ownG_at {w:World}{B g k cap:Nat}{l:List ByteArray}(h:OwnG w B g k cap l)(j:Nat){x:ByteArray}(hx:l[j]? =some x):w.cell? ⟨g,j,none⟩=some (.string x):=by obtain⟨hj,rfl⟩:=List.getElem?_eq_some_iff.1 hx;exact ownG_cell h j hj
theorem ownG_frozen {w:World}{B g k cap:Nat}{l:List ByteArray}(h:OwnG w B g k cap l)(j:Nat):w.frozen? ⟨g,j,none⟩=false:=h.1.frozenAt j
theorem ownG_set {w:World}{B g k cap:Nat}{l:List ByteArray}(h:OwnG w B g k cap l)(j:Nat)(x:ByteArray):OwnG (w.setCell ⟨g,j,none⟩ (.string x)) B g k cap (l.set j x):=by
 refine⟨?_,by rw[List.length_set];exact h.2⟩;have:=(h.1.stored j (.string x)).1;have e:scells (l.set j x)=(scells l).set j (.string x):=by unfold scells;rw[List.map_set]
 rw[e];exact this
theorem ownG_below {w w':World}{B g k cap:Nat}{l:List ByteArray}(h:OwnG w B g k cap l)(hb:Below w.heap.size w w'):OwnG w' B g k cap l:=by refine⟨?_,h.2⟩;have:=kt.row_below (w:=w) (w':=w') h.1 hb;exact this
def mix (syn:Int)(L:List ByteArray)(i:Nat):List ByteArray:=(L.take i).map (fun x=>bs (gotP syn x))++L.drop i
theorem mix_len (syn:Int)(L:List ByteArray)(i:Nat):(mix syn L i).length=L.length:=by unfold mix;rw[List.length_append,List.length_map,List.length_take,List.length_drop];omega
theorem mix_at {syn:Int}{L:List ByteArray}{i:Nat}(h:i<L.length)(h':i<(mix syn L i).length):(mix syn L i)[i]=L[i]:=by apply Option.some.inj;rw[←List.getElem?_eq_getElem h',←List.getElem?_eq_getElem h];unfold mix;rw[List.getElem?_append_right (by rw[List.length_map,List.length_take];omega),List.length_map,List.length_take,List.getElem?_drop];congr 1;omega
theorem mix_step {syn:Int}{L:List ByteArray}{i:Nat}(h:i<L.length):(mix syn L i).set i (bs (gotP syn L[i]))=mix syn L (i+1):=by unfold mix;rw[List.set_append_right _ _ (by rw[List.length_map,List.length_take];omega),List.take_succ_eq_append_getElem h,List.map_append,List.append_assoc];congr 1;rw[List.length_map,List.length_take,show i-min i L.length=0 by omega,List.drop_eq_getElem_cons h];rfl
theorem mix_all (syn:Int)(L:List ByteArray):mix syn L L.length=L.map (fun x=>bs (gotP syn x)):=by unfold mix;rw[List.take_length,List.drop_length,List.append_nil]
theorem allP_step {syn:Int}{L:List ByteArray}{i:Nat}(h:i<L.length):allP syn (L.take (i+1))=(allP syn (L.take i)&&(pieceO syn L[i].data.toList).isSome):=by unfold allP;rw[List.take_succ_eq_append_getElem h,List.all_append];simp
theorem allP_no {syn:Int}{L:List ByteArray}{i:Nat}(h:i<L.length)(hn:pieceO syn L[i].data.toList=none):allP syn L=false:=by unfold allP;rw[List.all_eq_false];exact⟨L[i],List.getElem_mem _,by rw[hn];simp⟩
theorem cut_yes {s p:List UInt8}{r:List (List UInt8)}:greedy (p::r) s=((Lib.cut s p).2.2&&greedy r (Lib.cut s p).2.1):=by
 show(if Lib.index s p<0 then false else greedy r (s.drop ((Lib.index s p).toNat+p.length)))=_;unfold Lib.cut;by_cases h:Lib.index s p<0
 ·rw[if_pos h,if_neg (by omega)];rfl
 ·rw[if_neg h,if_pos (by omega)];rfl
theorem cut_len (s p:List UInt8):(Lib.cut s p).2.1.length≤s.length:=by
 unfold Lib.cut;split
 ·rw[List.length_drop];omega
 ·simp
theorem partL_no {s a z:List UInt8}{m:List (List UInt8)}(h:Lib.hasPrefix s a=false):partL s a z m=false:=by unfold partL;unfold Lib.hasPrefix at h;rw[h];rfl
theorem partL_cut {s a z:List UInt8}{m:List (List UInt8)}(h:Lib.hasPrefix s a=true):partL s a z m=(Lib.hasSuffix (Lib.trimPrefix s a) z&&greedy m (Lib.trimSuffix (Lib.trimPrefix s a) z)):=by
 have e:Lib.trimPrefix s a=s.drop a.length:=by unfold Lib.trimPrefix;rw[if_pos h]
 rw[e];unfold partL;unfold Lib.hasPrefix at h;rw[h,Bool.true_and];unfold Lib.trimSuffix Lib.hasSuffix;cases hz:z.isSuffixOf (s.drop a.length)with
 | true=>simp
 | false=>simp
theorem trim_len (s a z:List UInt8):(Lib.trimSuffix (Lib.trimPrefix s a) z).length≤s.length:=by
 have h1:(Lib.trimPrefix s a).length≤s.length:=by
  unfold Lib.trimPrefix;split
  ·rw[List.length_drop];omega
  ·omega
 refine Nat.le_trans ?_ h1;unfold Lib.trimSuffix;split
 ·rw[List.length_take];omega
 ·omega
end atw
end Go.Proofs.YtmnpfkbjpeaemaaGreatDoor
namespace Go.Proofs
def Tryz.laysC172_ren:Go.Shelf.Ren:=⟨fun | 172=>274 | 244=>306 | 245=>307 | 247=>320 | 279=>321 | 280=>322 | 281=>323 | 282=>324 | 287=>327 | 316=>328 | 171=>330 | 205=>329 | 321=>331 | 322=>332 | 243=>333 | 246=>334 | 283=>335 | 284=>336 | 285=>337 | 286=>338 | 129=>246 | 317=>339 | 318=>340 | 319=>341 | 320=>342 | 337=>343 | 338=>344 | n=>n,fun | 9=>9 | 3=>3 | 75=>135 | 76=>136 | 4=>4 | 5=>5 | 167=>294 | 37=>131 | 0=>0 | 85=>295 | 2=>2 | 168=>297 | 53=>161 | 175=>300 | 46=>44 | 210=>303 | 127=>198 | 145=>309 | 143=>307 | 21=>21 | 171=>311 | 173=>313 | 212=>316 | 51=>253 | 20=>20 | 213=>317 | 232=>318 | 233=>319 | 80=>93 | n=>n,fun | 15=>4 | 16=>5 | 17=>6 | 18=>7 | 19=>8 | n=>n⟩
theorem Tryz.laysC172:Go.Proofs.LaysC.n172 Tryz.prog Tryz.laysC172_ren:={
 mixed:=by kernel_rfl
 f129:=Tryz.func246.trans (congrArg some (by kernel_rfl))
 f171:=Tryz.func330.trans (congrArg some (by kernel_rfl))
 f172:=Tryz.func274.trans (congrArg some (by kernel_rfl))
 f205:=Tryz.func329.trans (congrArg some (by kernel_rfl))
 f243:=Tryz.func333.trans (congrArg some (by kernel_rfl))
 f244:=Tryz.func306.trans (congrArg some (by kernel_rfl))
 f245:=Tryz.func307.trans (congrArg some (by kernel_rfl))
 f246:=Tryz.func334.trans (congrArg some (by kernel_rfl))
 f247:=Tryz.func320.trans (congrArg some (by kernel_rfl))
 f279:=Tryz.func321.trans (congrArg some (by kernel_rfl))
 f280:=Tryz.func322.trans (congrArg some (by kernel_rfl))
 f281:=Tryz.func323.trans (congrArg some (by kernel_rfl))
 f282:=Tryz.func324.trans (congrArg some (by kernel_rfl))
 f283:=Tryz.func335.trans (congrArg some (by kernel_rfl))
 f284:=Tryz.func336.trans (congrArg some (by kernel_rfl))
 f285:=Tryz.func337.trans (congrArg some (by kernel_rfl))
 f286:=Tryz.func338.trans (congrArg some (by kernel_rfl))
 f287:=Tryz.func327.trans (congrArg some (by kernel_rfl))
 f316:=Tryz.func328.trans (congrArg some (by kernel_rfl))
 f317:=Tryz.func339.trans (congrArg some (by kernel_rfl))
 f318:=Tryz.func340.trans (congrArg some (by kernel_rfl))
 f319:=Tryz.func341.trans (congrArg some (by kernel_rfl))
 f320:=Tryz.func342.trans (congrArg some (by kernel_rfl))
 f321:=Tryz.func331.trans (congrArg some (by kernel_rfl))
 f322:=Tryz.func332.trans (congrArg some (by kernel_rfl))
 f337:=Tryz.func343.trans (congrArg some (by kernel_rfl))
 f338:=Tryz.func344.trans (congrArg some (by kernel_rfl))
 t0:=Tryz.underlying0
 a0:=Tryz.isAgg0
 z0:=Tryz.sizeOf0
 v0:=Tryz.zeroValue0
 t2:=Tryz.underlying2
 a2:=Tryz.isAgg2
 z2:=Tryz.sizeOf2
 v2:=Tryz.zeroValue2
 t3:=Tryz.underlying3
 a3:=Tryz.isAgg3
 z3:=Tryz.sizeOf3
 v3:=Tryz.zeroValue3
 t4:=Tryz.underlying4
 a4:=Tryz.isAgg4
 z4:=Tryz.sizeOf4
 v4:=Tryz.zeroValue4
 t5:=Tryz.underlying5
 a5:=Tryz.isAgg5
 z5:=Tryz.sizeOf5
 v5:=Tryz.zeroValue5
 t9:=Tryz.underlying9
 a9:=Tryz.isAgg9
 z9:=Tryz.sizeOf9
 v9:=Tryz.zeroValue9
 t20:=Tryz.underlying20
 a20:=Tryz.isAgg20
 z20:=Tryz.sizeOf20
 v20:=Tryz.zeroValue20
 t21:=Tryz.underlying21
 a21:=Tryz.isAgg21
 z21:=Tryz.sizeOf21
 v21:=Tryz.zeroValue21
 t37:=Tryz.underlying131
 a37:=Tryz.isAgg131
 z37:=Tryz.sizeOf131
 v37:=Tryz.zeroValue131
 t46:=Tryz.underlying44
 a46:=Tryz.isAgg44
 z46:=Tryz.sizeOf44
 v46:=Tryz.zeroValue44
 t51:=Tryz.underlying253
 a51:=Tryz.isAgg253
 z51:=Tryz.sizeOf253
 v51:=Tryz.zeroValue253
 t53:=Tryz.underlying161
 a53:=Tryz.isAgg161
 z53:=Tryz.sizeOf161
 v53:=Tryz.zeroValue161
 t75:=Tryz.underlying135
 a75:=Tryz.isAgg135
 z75:=Tryz.sizeOf135
 v75:=Tryz.zeroValue135
 t76:=Tryz.underlying136
 a76:=Tryz.isAgg136
 z76:=Tryz.sizeOf136
 v76:=Tryz.zeroValue136
 t85:=Tryz.underlying295
 a85:=Tryz.isAgg295
 z85:=Tryz.sizeOf295
 v85:=Tryz.zeroValue295
 t127:=Tryz.underlying198
 a127:=Tryz.isAgg198
 z127:=Tryz.sizeOf198
 v127:=Tryz.zeroValue198
 t143:=Tryz.underlying307
 a143:=Tryz.isAgg307
 z143:=Tryz.sizeOf307
 v143:=Tryz.zeroValue307
 t145:=Tryz.underlying309
 a145:=Tryz.isAgg309
 z145:=Tryz.sizeOf309
 v145:=Tryz.zeroValue309
 t167:=Tryz.underlying294
 a167:=Tryz.isAgg294
 z167:=Tryz.sizeOf294
 v167:=Tryz.zeroValue294
 t168:=Tryz.underlying297
 a168:=Tryz.isAgg297
 z168:=Tryz.sizeOf297
 v168:=Tryz.zeroValue297
 t171:=Tryz.underlying311
 a171:=Tryz.isAgg311
 z171:=Tryz.sizeOf311
 v171:=Tryz.zeroValue311
 t173:=Tryz.underlying313
 a173:=Tryz.isAgg313
 z173:=Tryz.sizeOf313
 v173:=Tryz.zeroValue313
 t175:=Tryz.underlying300
 a175:=Tryz.isAgg300
 z175:=Tryz.sizeOf300
 v175:=Tryz.zeroValue300
 t210:=Tryz.underlying303
 a210:=Tryz.isAgg303
 z210:=Tryz.sizeOf303
 v210:=Tryz.zeroValue303
 t212:=Tryz.underlying316
 a212:=Tryz.isAgg316
 z212:=Tryz.sizeOf316
 v212:=Tryz.zeroValue316
 t213:=Tryz.underlying317
 a213:=Tryz.isAgg317
 z213:=Tryz.sizeOf317
 t232:=Tryz.underlying318
 a232:=Tryz.isAgg318
 z232:=Tryz.sizeOf318
 v232:=Tryz.zeroValue318
 t233:=Tryz.underlying319
 a233:=Tryz.isAgg319
 z233:=Tryz.sizeOf319
 v233:=Tryz.zeroValue319
 g15:=by kernel_rfl
 g16:=by kernel_rfl
 g17:=by kernel_rfl
 g18:=by kernel_rfl
 g19:=by kernel_rfl
 t80:=Tryz.underlying93
 a80:=Tryz.isAgg93
 z80:=Tryz.sizeOf93
 v80:=Tryz.zeroValue93
 i0:=by kernel_rfl
 i2:=by kernel_rfl
 i3:=by kernel_rfl
 i4:=by kernel_rfl
 i5:=by kernel_rfl
 i9:=by kernel_rfl
 i20:=by kernel_rfl
 i21:=by kernel_rfl
 i37:=by kernel_rfl
 i46:=by kernel_rfl
 i51:=by kernel_rfl
 i53:=by kernel_rfl
 i75:=by kernel_rfl
 i76:=by kernel_rfl
 i80:=by kernel_rfl
 i85:=by kernel_rfl
 i127:=by kernel_rfl
 i143:=by kernel_rfl
 i145:=by kernel_rfl
 i167:=by kernel_rfl
 i168:=by kernel_rfl
 i171:=by kernel_rfl
 i173:=by kernel_rfl
 i175:=by kernel_rfl
 i210:=by kernel_rfl
 i212:=by kernel_rfl
 i232:=by kernel_rfl
 i233:=by kernel_rfl
 m15:=by kernel_rfl
 m16:=by kernel_rfl
 m17:=by kernel_rfl
 m18:=by kernel_rfl
 m19:=by kernel_rfl
 c0:=by kernel_rfl
 c2:=by kernel_rfl
 c3:=by kernel_rfl
 c4:=by kernel_rfl
 c5:=by kernel_rfl
 c9:=by kernel_rfl
 c20:=by kernel_rfl
 c21:=by kernel_rfl
 c37:=by kernel_rfl
 c46:=by kernel_rfl
 c51:=by kernel_rfl
 c53:=by kernel_rfl
 c75:=by kernel_rfl
 c76:=by kernel_rfl
 c80:=by kernel_rfl
 c85:=by kernel_rfl
 c127:=by kernel_rfl
 c143:=by kernel_rfl
 c145:=by kernel_rfl
 c167:=by kernel_rfl
 c168:=by kernel_rfl
 c171:=by kernel_rfl
 c173:=by kernel_rfl
 c175:=by kernel_rfl
 c210:=by kernel_rfl
 c212:=by kernel_rfl
 c213:=by kernel_rfl
 c232:=by kernel_rfl
 c233:=by kernel_rfl}
open Go.RowKit in
theorem Tryz.strconv_Atoi_ok (s:ByteArray)(hmax:s.size≤9223372036854775806)(v:Int)(h:Lib.atoiAll s.data.toList= .ok v)(w:World):
  Calls Tryz.prog 274 #[.string s] w fun e w'=>e= .returned (.tuple #[.int .i64 v,.nilIface])∧(w'=w∨ ∃t,w'=Lib.bytesWorld w 5 t):=Any.strconv_Atoi_ok Tryz.laysC172 s hmax v h w
end Go.Proofs
namespace Go.Proofs.YtmnpfkbjpeaemaaGreatDoor
open Go.RowKit
namespace atw
open atp
theorem ordS_cases (syn:Int):(syn=1∨syn=2∨syn=4)∨(ordS syn=false∧(syn==1)=false∧(syn==2)=false∧(syn==4)=false∧(syn !=1)=true∧(syn !=2)=true∧(syn !=4)=true):=by
 by_cases h:syn=1∨syn=2∨syn=4
 ·exact Or.inl h
 ·refine Or.inr ⟨?_,?_,?_,?_,?_,?_,?_⟩
  ·unfold ordS;rw[decide_eq_false (by omega),decide_eq_false (by omega),decide_eq_false (by omega)];rfl
  ·rw[beq_eq_false_iff_ne];omega
  ·rw[beq_eq_false_iff_ne];omega
  ·rw[beq_eq_false_iff_ne];omega
  ·rw[bne_iff_ne];omega
  ·rw[bne_iff_ne];omega
  ·rw[bne_iff_ne];omega
theorem ordL_no {syn:Int}{a b:List UInt8}(h:ordS syn=false):ordL syn a b=(0,20):=by unfold ordL;rw[if_pos h]
theorem ordL_err {syn:Int}{a b:List UInt8}(h:ordS syn=true)(h2:(bothL syn a b).2.2≠0):ordL syn a b=(0,(bothL syn a b).2.2):=by unfold ordL;rw[if_neg (by rw[h];simp),if_pos h2]
theorem ordL_num {a b:List UInt8}(h2:(bothL 4 a b).2.2=0):ordL 4 a b=(Lib.compareInt (worth (bothL 4 a b).1) (worth (bothL 4 a b).2.1),0):=by unfold ordL;rw[if_neg (by decide),if_neg (not_not_intro h2),if_pos rfl]
theorem ordL_txt {syn:Int}{a b:List UInt8}(h:ordS syn=true)(h4:syn≠4)(h2:(bothL syn a b).2.2=0):ordL syn a b=(Lib.compareBytes (bothL syn a b).1 (bothL syn a b).2.1,0):=by unfold ordL;rw[if_neg (by rw[h];simp),if_neg (not_not_intro h2),if_neg h4]
theorem both_num {a b:List UInt8}(h:(bothL 4 a b).2.2=0):numOK (bothL 4 a b).1=true∧(bothL 4 a b).1.length≤19∧numOK (bothL 4 a b).2.1=true∧(bothL 4 a b).2.1.length≤19:=by
 unfold bothL at h ⊢;by_cases h1:(normL 4 a).2≠0
 ·rw[if_pos h1]at h;exact absurd h h1
 ·by_cases h2:(normL 4 b).2≠0
  ·rw[if_neg h1,if_pos h2]at h;exact absurd h h2
  ·rw[if_neg h1,if_neg h2];obtain⟨i1,i2⟩:=norm_num (a:=a) (Classical.not_not.1 h1);obtain⟨j1,j2⟩:=norm_num (a:=b) (Classical.not_not.1 h2);exact⟨i1,i2,j1,j2⟩
theorem atoi_any (l:List UInt8)(h:numOK l=true)(hl:l.length≤19)(w:World):Calls Tryz.prog 274 #[.string (bs l)] w fun e w'=>e= .returned (.tuple #[.int .i64 (worth l),.nilIface])∧Below w.heap.size w w':=by
 refine(Tryz.strconv_Atoi_ok (bs l) (by rw[bs_size];omega) (worth l) (atoi_num h).1 w).mono ?_;rintro e w' ⟨rfl,hw⟩;refine⟨rfl,?_⟩;rcases hw with rfl | ⟨t,rfl⟩
 ·exact Below.refl _ _
 ·exact Lib.bytesWorld_below _ _ _
theorem order_any (nm:ByteArray)(syn:Int)(sg:Bool)(a b:ByteArray)(w:World)(ha:a.size≤140737488351232)(hb:b.size≤140737488351232)(hE:Hid (prw.Env w))(hT:Hid (dnw.Tabs w)):
  Calls Tryz.prog 235 #[.agg #[.string nm,.int .i64 syn,.bool sg],.string a,.string b] w fun e w'=>e= .returned (.tuple #[.int .i64 (ordL syn a.data.toList b.data.toList).1,.int .i64 (ordL syn a.data.toList b.data.toList).2])∧Below w.heap.size w w':=by
 obtain⟨W0,hW0⟩: ∃W,w.alloc (.cells #[.string nm,.int .i64 syn,.bool sg] 108)=W:=⟨_,rfl⟩;have hB0:Below w.heap.size w W0:=by rw[←hW0];exact(Below.refl _ _).alloc (Nat.le_refl _) _
 have HB0:=Lib.hid hB0;have hw0:w.heap.size≤W0.heap.size:=hB0.size;have HTB0:Hid (TB W0 w.heap.size nm syn sg):=by rw[←hW0];exact tb_new w nm syn sg
 obtain⟨k0,k1,k2⟩:=tb_cells HTB0.out;have HE0:=Lib.hid (prw.env_below hE.out hB0);have HT0:=Lib.hid (dnw.tabs_below hT.out hB0);have HBO:Hid (∀w,prw.Env w→dnw.Tabs w→Calls Tryz.prog 201 #[.agg #[.string nm,.int .i64 syn,.bool sg],.string a,.string b] w fun e w'=>e= .returned (.tuple #[.string (bs (bothL syn a.data.toList b.data.toList).1),.string (bs (bothL syn a.data.toList b.data.toList).2.1),.int .i64 (bothL syn a.data.toList b.data.toList).2.2])∧Below w.heap.size w w'):=fun w h1 h2=>both_any nm syn sg a b w ha hb (Lib.hid h1) (Lib.hid h2);clear hB0;rcases ordS_cases syn with hsy | ⟨hno,q1,q2,q4,_,_,_⟩
 ·have hos:ordS syn=true:=by rcases hsy with rfl | rfl | rfl<;>rfl
  by_cases her:(bothL syn a.data.toList b.data.toList).2.2=0
  ·by_cases h4:syn=4
   ·subst h4;rw[ordL_num her];obtain⟨n1,l1,n2,l2⟩:=both_num her;generalize bothL 4 a.data.toList b.data.toList=bo at HBO her n1 l1 n2 l2 ⊢;obtain⟨u,v,er⟩:=bo;simp only at HBO her n1 l1 n2 l2 ⊢;subst her;have HA1:Hid (∀w,Calls Tryz.prog 274 #[.string (bs u)] w fun e w'=>e= .returned (.tuple #[.int .i64 (worth u),.nilIface])∧Below w.heap.size w w'):=fun w=>atoi_any u n1 l1 w;have HA2:Hid (∀w,Calls Tryz.prog 274 #[.string (bs v)] w fun e w'=>e= .returned (.tuple #[.int .i64 (worth v),.nilIface])∧Below w.heap.size w w'):=fun w=>atoi_any v n2 l2 w;have HCM:Hid (∀w,Calls Tryz.prog 275 #[.int .i64 (worth u),.int .i64 (worth v)] w fun e w'=>e= .returned (.int .i64 (Lib.compareInt (worth u) (worth v)))∧w=w'):=(by intro w;refine(Tryz.cmp_Compare_int (worth u) (worth v) w).mono ?_;rintro e w' ⟨rfl,rfl⟩;exact⟨rfl,rfl⟩);generalize Lib.compareInt (worth u) (worth v)=cv at HCM ⊢;generalize worth u=x at HA1 HCM;generalize worth v=y at HA2 HCM;clear n1 n2 l1 l2 hos;go_enter Tryz.func235,Tryz.ntmps235;go_wp2_with fail;refine(HBO.out _ HE0.out HT0.out).mono ?_;rintro e w1 ⟨rfl,hB1⟩;have HB1:=Lib.hid (HB0.out.trans (hB1.mono hw0));obtain⟨m0,m1,m2⟩:=tb_cells (tb_below HTB0.out hB1);clear hB1 hW0 k0 k1 k2;go_wp2_with fail;refine(HA1.out _).mono ?_;rintro e w2 ⟨rfl,hB2⟩;have HB2:=Lib.hid (HB1.out.trans (hB2.mono HB1.out.size));clear hB2 m0 m1 m2;go_wp2_with fail;refine(HA2.out _).mono ?_;rintro e w3 ⟨rfl,hB3⟩;have HB3:=Lib.hid (HB2.out.trans (hB3.mono HB2.out.size));clear hB3;go_wp2_with fail;refine(HCM.out _).mono ?_;rintro e w4 ⟨rfl,rfl⟩;go_wp2_with fail;go_ret2;exact⟨rfl,HB3.out⟩
   ·rw[ordL_txt hos h4 her];have q4:(syn==4)=false:=(by rw[beq_eq_false_iff_ne];exact h4);have hsy2:syn=1∨syn=2:=(by omega);generalize bothL syn a.data.toList b.data.toList=bo at HBO her ⊢;obtain⟨u,v,er⟩:=bo;simp only at HBO her ⊢;subst her;have HCM:Hid (∀w,Calls Tryz.prog 276 #[.string (bs u),.string (bs v)] w fun e w'=>e= .returned (.int .i64 (Lib.compareBytes u v))∧w=w'):=(by intro w;refine(Tryz.strings_Compare (bs u) (bs v) w).mono ?_;rintro e w' ⟨rfl,rfl⟩;exact⟨rfl,rfl⟩);generalize Lib.compareBytes u v=cv at HCM ⊢;clear hos h4 hsy;rcases hsy2 with rfl | rfl
    all_goals go_enter Tryz.func235,Tryz.ntmps235;go_wp2_with fail;refine(HBO.out _ HE0.out HT0.out).mono ?_;rintro e w1 ⟨rfl,hB1⟩;have HB1:=Lib.hid (HB0.out.trans (hB1.mono hw0));obtain⟨m0,m1,m2⟩:=tb_cells (tb_below HTB0.out hB1);clear hB1 hW0 k0 k1 k2;go_wp2_with fail;refine(HCM.out _).mono ?_;rintro e w4 ⟨rfl,rfl⟩;go_wp2_with fail;go_ret2;exact⟨rfl,HB1.out⟩
  ·rw[ordL_err hos her];generalize bothL syn a.data.toList b.data.toList=bo at HBO her ⊢;obtain⟨u,v,er⟩:=bo;simp only at HBO her ⊢;have qe:(er !=0)=true:=(by rw[bne_iff_ne];exact her);clear her hos;rcases hsy with rfl | rfl | rfl
   all_goals go_enter Tryz.func235,Tryz.ntmps235;go_wp2_with fail;refine(HBO.out _ HE0.out HT0.out).mono ?_;rintro e w1 ⟨rfl,hB1⟩;have HB1:=Lib.hid (HB0.out.trans (hB1.mono hw0));clear hB1 hW0 k0 k1 k2;go_wp2_with fail;go_ret2;exact⟨rfl,HB1.out⟩
 ·rw[ordL_no hno];clear hno;go_enter Tryz.func235,Tryz.ntmps235;go_wp2_with fail;go_ret2;exact⟨rfl,HB0.out⟩
end atw
namespace flp
open atp atw etp
inductive Fl where
 | mk (kind:Int) (attr value first:ByteArray) (any:List ByteArray) (last:ByteArray) (kids:List Fl):Fl
def Fl.kind:Fl→Int | .mk k _ _ _ _ _ _=>k
def Fl.attr:Fl→ByteArray | .mk _ a _ _ _ _ _=>a
def Fl.value:Fl→ByteArray | .mk _ _ v _ _ _ _=>v
def Fl.first:Fl→ByteArray | .mk _ _ _ f _ _ _=>f
def Fl.any:Fl→List ByteArray | .mk _ _ _ _ m _ _=>m
def Fl.last:Fl→ByteArray | .mk _ _ _ _ _ z _=>z
def Fl.kids:Fl→List Fl | .mk _ _ _ _ _ _ ks=>ks
theorem Fl.eta (F:Fl):F= .mk F.kind F.attr F.value F.first F.any F.last F.kids:=by cases F;rfl
def noFl:Fl:= .mk 0 ⟨#[]⟩ ⟨#[]⟩ ⟨#[]⟩ [] ⟨#[]⟩ []
def okD:Nat→Fl→Prop
 | 0,_=>False
 | d+1,F=> ∀k∈F.kids,okD d k
def cntN:Nat→Fl→Nat
 | 0,_=>0
 | d+1,F=>1+(F.kids.map (cntN d)).sum
theorem map_same {α β:Type}{f g:α→β}: ∀ {l:List α},(∀x∈l,f x=g x)→l.map f=l.map g
 | [],_=>rfl
 | a::r,h=>by rw[List.map_cons,List.map_cons,h a (by simp),map_same fun x hx=>h x (by simp[hx])]
def isE (x:ByteArray):Bool:=decide (x.size=0)
def partsF (F:Fl):Bool:= !isE F.first||decide (0<F.any.length)|| !isE F.last
def piecesF (F:Fl):Bool:=F.any.any (fun x=> !isE x)|| !isE F.first|| !isE F.last
def attrOK (F:Fl):Bool:=decide (1≤F.attr.size)&&decide (F.attr.size≤64)
def oneF (F:Fl):Bool:=
 if F.kind=0∨F.kind=1 then isE F.attr&&isE F.value&& !partsF F
 else if F.kind=2 then isE F.attr&&isE F.value&& !partsF F&&decide (F.kids.length=1)
 else if F.kind=3∨F.kind=5∨F.kind=6∨F.kind=8 then attrOK F&& !partsF F&&decide (F.kids.length=0)
 else if F.kind=4 then attrOK F&&isE F.value&&piecesF F&&decide (F.any.length≤8)&&decide (F.kids.length=0)
 else if F.kind=7 then attrOK F&&isE F.value&& !partsF F&&decide (F.kids.length=0)
 else false
def rightD:Nat→Fl→Bool
 | 0,_=>false
 | d+1,F=>oneF F&&F.kids.all (rightD d)
def cntR:Nat→Fl→Nat→Option Nat
 | 0,_,_=>none
 | d+1,_,0=>none
 | d+1,F,m+1=>if oneF F=true then F.kids.foldlM (fun l k=>cntR d k l) m else none
def rightF (F:Fl):Bool:=(cntR 8 F 40).isSome
theorem rightD_mono: ∀ {d e:Nat} {F:Fl},rightD d F=true→d≤e→rightD e F=true
 | 0,_,_,h,_=>by cases h
 | d+1,0,_,_,h=>absurd h (by omega)
 | d+1,e+1,F,h,he=>by unfold rightD at h ⊢;rw[Bool.and_eq_true,List.all_eq_true]at h ⊢;exact⟨h.1,fun k hk=>rightD_mono (h.2 k hk) (by omega)⟩
theorem fold_iff {d:Nat}(ih: ∀ (F:Fl) (m r:Nat),cntR d F m=some r↔rightD d F=true∧cntN d F+r=m): ∀ (l:List Fl) (m r:Nat),l.foldlM (fun l k=>cntR d k l) m=some r↔l.all (rightD d)=true∧(l.map (cntN d)).sum+r=m
 | [],m,r=>by
  rw[List.foldlM_nil];simp only[List.all_nil,List.map_nil,List.sum_nil];constructor
  ·intro h;cases h;exact⟨trivial,by omega⟩
  ·rintro⟨_,h⟩;rw[show m=r from by omega];rfl
 | k::t,m,r=>by
  rw[List.foldlM_cons,List.all_cons,List.map_cons,List.sum_cons,Bool.and_eq_true];constructor
  ·intro h;cases hc:cntR d k m with
   | none=>rw[hc]at h;cases h
   | some q=>rw[hc]at h;obtain⟨h1,h2⟩:=(ih k m q).1 hc;obtain⟨h3,h4⟩:=(fold_iff ih t q r).1 h;exact⟨⟨h1,h3⟩,by omega⟩
  ·rintro⟨⟨h1,h2⟩,h3⟩;have hq:cntR d k m=some ((t.map (cntN d)).sum+r):=(ih k m _).2 ⟨h1,by omega⟩;rw[hq];exact(fold_iff ih t _ r).2 ⟨h2,rfl⟩
theorem cntR_iff: ∀ (d:Nat) (F:Fl) (m r:Nat),cntR d F m=some r↔rightD d F=true∧cntN d F+r=m
 | 0,F,m,r=>by simp[cntR,rightD]
 | d+1,F,0,r=>by
  constructor
  ·intro h;cases h
  ·rintro⟨_,h⟩;unfold cntN at h;omega
 | d+1,F,m+1,r=>by
  unfold cntR rightD cntN;rw[Bool.and_eq_true];cases h1:oneF F with
  | false=>simp
  | true=>
   rw[if_pos rfl,fold_iff (cntR_iff d)];constructor
   ·rintro⟨h2,h3⟩;exact⟨⟨rfl,h2⟩,by omega⟩
   ·rintro⟨⟨_,h2⟩,h3⟩;exact⟨h2,by omega⟩
theorem rightF_iff (F:Fl):rightF F=true↔rightD 8 F=true∧cntN 8 F≤40:=by
 unfold rightF;rw[Option.isSome_iff_exists];constructor
 ·rintro⟨r,h⟩;obtain⟨h1,h2⟩:=(cntR_iff 8 F 40 r).1 h;exact⟨h1,by omega⟩
 ·rintro⟨h1,h2⟩;exact⟨40-cntN 8 F,(cntR_iff 8 F 40 _).2 ⟨h1,by omega⟩⟩
def ask:Nat→Fl→List (List UInt8)
 | 0,_=>[]
 | d+1,F=>(match findS (sml.lowL F.attr.data.toList)with
  | some t=>[t.name]
  | none=>[])++F.kids.flatMap (ask d)
def flipI (n:Int):Int:=if n=2 then 2 else 1-n
def askV (F:Fl)(syn:Int)(v:ByteArray):Bool:=
 if F.kind=3∨F.kind=8 then alike syn v F.value
 else decide ((ordL syn v.data.toList F.value.data.toList).2=0)&&((decide (F.kind=5)&&decide (0≤(ordL syn v.data.toList F.value.data.toList).1))||(decide (F.kind=6)&&decide ((ordL syn v.data.toList F.value.data.toList).1≤0)))
def partV (F:Fl)(syn:Int)(v:ByteArray):Bool:=(partE syn v F.first F.last F.any).1&&decide ((partE syn v F.first F.last F.any).2=0)
def probe (syn:Int):ByteArray:=if syn=7 then⟨#[49]⟩else⟨#[97]⟩
def someI (b:Bool):Int:=if b=true then 1 else 0
def leafT (F:Fl)(L:List At)(t:Ty):Int:=
 if F.kind=7 then someI (!(valsA L (bs t.name)).isEmpty)
 else if F.kind=4 then(if(partE t.syn (probe t.syn) F.first F.last F.any).2≠0 then 2 else someI ((valsA L (bs t.name)).any (partV F t.syn)))
 else if okV t.syn F.value=false∨((F.kind=5∨F.kind=6)∧ordS t.syn=false)then 2
 else someI ((valsA L (bs t.name)).any (askV F t.syn))
def leafI (F:Fl)(L:List At):Int:=match findS (sml.lowL F.attr.data.toList)with
 | none=>2
 | some t=>leafT F L t
def conn (kind:Int)(ns:List Int):Int:=if ns.any (fun n=>decide (n=kind))=true then kind else if ns.any (fun n=>decide (n=2))=true then 2 else 1-kind
def evalF:Nat→Fl→List At→Int
 | 0,_,_=>0
 | d+1,F,L=>
  if F.kind=2 then(match F.kids with
   | k::_=>flipI (evalF d k L)
   | []=>0)
  else if F.kind=0∨F.kind=1 then conn F.kind (F.kids.map fun k=>evalF d k L)
  else leafI F L
def evalE (F:Fl)(L:List At):Int:=if rightF F=true then evalF 8 F L else 2
theorem some_three (b:Bool):someI b=0∨someI b=1:=by cases b;exact Or.inl rfl;exact Or.inr rfl
theorem leafT_three (F:Fl)(L:List At)(t:Ty):leafT F L t=0∨leafT F L t=1∨leafT F L t=2:=by
 unfold leafT;have h:=fun b=>some_three b;split
 ·rcases h (!(valsA L (bs t.name)).isEmpty)with h | h<;>simp[h]
 ·split
  ·split
   ·simp
   ·rcases h ((valsA L (bs t.name)).any (partV F t.syn))with h | h<;>simp[h]
  ·split
   ·simp
   ·rcases h ((valsA L (bs t.name)).any (askV F t.syn))with h | h<;>simp[h]
theorem leaf_three (F:Fl)(L:List At):leafI F L=0∨leafI F L=1∨leafI F L=2:=by
 unfold leafI;split
 ·simp
 ·exact leafT_three _ _ _
theorem flip_three {n:Int}(h:n=0∨n=1∨n=2):flipI n=0∨flipI n=1∨flipI n=2:=by unfold flipI;rcases h with rfl | rfl | rfl<;>simp
theorem conn_three {k:Int}(hk:k=0∨k=1)(ns:List Int):conn k ns=0∨conn k ns=1∨conn k ns=2:=by
 unfold conn;split
 ·omega
 ·split
  ·simp
  ·omega
theorem eval_three (L:List At): ∀ (d:Nat) (F:Fl),evalF d F L=0∨evalF d F L=1∨evalF d F L=2
 | 0,_=>Or.inl rfl
 | d+1,F=>by
  unfold evalF;split
  ·split
   ·exact flip_three (eval_three L d _)
   ·simp
  ·split
   ·rename_i h;exact conn_three h _
   ·exact leaf_three _ _
def both (kind:Int)(Ks:List Fl):Fl:= .mk kind ⟨#[]⟩ ⟨#[]⟩ ⟨#[]⟩ [] ⟨#[]⟩ Ks
def notF (F:Fl):Fl:=both 2 [F]
end flp
namespace ftp
open flp atp
open b64p (hex valI dg)
abbrev T:=List UInt8
def nameCh (c:UInt8)(first:Bool):Bool:=(decide (65≤c.toNat∧c.toNat≤90)||decide (97≤c.toNat∧c.toNat≤122))||(!first&&(decide (48≤c.toNat∧c.toNat≤57)||decide (c=45)||decide (c=46)))
def nameL:T→Bool
 | []=>false
 | c::r=>nameCh c true&&r.all fun c=>nameCh c false
def hexed (c:UInt8):Bool:=decide (c.toNat<32)||decide (126<c.toNat)||decide (c=40)||decide (c=41)||decide (c=42)||decide (c=92)
def valB (c:UInt8):T:=if hexed c=true then 92::hex [c]else[c]
def valL (s:T):T:=s.flatMap valB
def tx (x:ByteArray):T:=x.data.toList
def opT (kind:Int):T:=if kind=5 then[62,61]else if kind=6 then[60,61]else if kind=8 then[126,61]else[61]
def bodyT (F:Fl):T:=
 if F.kind=7 then[61,42]
 else if F.kind=4 then 61::(valL (tx F.first)++42::((F.any.flatMap fun x=>valL (tx x)++[42])++valL (tx F.last)))
 else opT F.kind++valL (tx F.value)
def itemT (F:Fl):T:=40::(tx F.attr++(bodyT F++[41]))
def signT (kind:Int):UInt8:=if kind=0 then 38 else if kind=1 then 124 else 33
def catO:List (Option T)→Option T
 | []=>some []
 | none::_=>none
 | some t::r=>(catO r).map fun u=>t++u
def textF:Nat→Fl→Option T
 | 0,_=>none
 | d+1,F=>if F.kind=0∨F.kind=1∨F.kind=2 then(catO (F.kids.map (textF d))).map fun t=>40::signT F.kind::(t++[41])
  else if nameL (tx F.attr)=true then some (itemT F)else none
def printF (F:Fl):T × Int:=if rightF F=true then(match textF 8 F with
 | some t=>(t,0)
 | none=>([],4))else([],4)
def consB (c:UInt8):List T→List T
 | []=>[[c]]
 | p::ps=>(c::p)::ps
def piecesP (starry:Bool):T→Option (List T × T)
 | []=>none
 | c::r=>if c=40∨c=0 then none
  else if c=41 then some ([[]],c::r)
  else if c=42 then(if starry=true then(piecesP starry r).map fun q=>([]::q.1,q.2)else none)
  else if c=92 then(match r with
   | h::l::r2=>if valI h<0∨valI l<0 then none else(piecesP starry r2).map fun q=>(consB (UInt8.ofNat (16*valI h+valI l).toNat) q.1,q.2)
   | _=>none)
  else(piecesP starry r).map fun q=>(consB c q.1,q.2)
def spanN:T→T
 | []=>[]
 | c::r=>if nameCh c true=true then c::r.takeWhile (fun c=>nameCh c false)else[]
def kindP:T→Int × T
 | 62::r=>(5,r)
 | 60::r=>(6,r)
 | 126::r=>(8,r)
 | r=>(3,r)
def bb (l:T):ByteArray:=⟨l.toArray⟩
def leafF (nm:T)(kind:Int)(ps:List T):Fl:=match ps with
 | []=> .mk kind (bb nm) ⟨#[]⟩ ⟨#[]⟩ [] ⟨#[]⟩ []
 | [v]=> .mk kind (bb nm) (bb v) ⟨#[]⟩ [] ⟨#[]⟩ []
 | p::q::r=>if p=[]∧q=[]∧r=[]then .mk 7 (bb nm) ⟨#[]⟩ ⟨#[]⟩ [] ⟨#[]⟩ []
  else .mk 4 (bb nm) ⟨#[]⟩ (bb p) ((q::r).dropLast.map bb) (bb ((q::r).getLast (by simp))) []
def leafP (s:T):Option (Fl × T):=
 if spanN s=[]then none
 else match(kindP (s.drop (spanN s).length)).2 with
  | 61::r=>(piecesP (decide ((kindP (s.drop (spanN s).length)).1=3)) r).map fun q=>(leafF (spanN s) (kindP (s.drop (spanN s).length)).1 q.1,q.2)
  | _=>none
def kidsG (P:T→Option (Fl × T)):Nat→T→Option (List Fl × T)
 | 0,l=>none
 | m+1,l=>if l.head?=some 40 then(match P l with
   | none=>none
   | some (k,r)=>(kidsG P m r).map fun q=>(k::q.1,q.2))else some ([],l)
def oneP:Nat→T→Option (Fl × T)
 | 0,_=>none
 | n+1,l=>match l with
  | 40::c::r=>if c=38∨c=124 then(match kidsG (oneP n) (r.length+1) r with
    | some (ks,41::r2)=>some (both (if c=38 then 0 else 1) ks,r2)
    | _=>none)
   else if c=33 then(match oneP n r with
    | some (k,41::r2)=>some (notF k,r2)
    | _=>none)
   else(match leafP (c::r)with
    | some (F,41::r2)=>some (F,r2)
    | _=>none)
  | _=>none
def parseT (s:T):Fl × Int:=if 8000<s.length then(noFl,5)else match oneP (s.length+1) s with
 | some (F,[])=>if rightF F=true then(F,0)else(noFl,4)
 | _=>(noFl,4)
theorem span_cons (c:UInt8)(r:T):spanN (c::r)=if nameCh c true=true then c::r.takeWhile (fun c=>nameCh c false)else[]:=rfl
theorem span_name: ∀ {t:T} (r:T),nameL t=true→(∀c u,r=c::u→nameCh c false=false)→spanN (t++r)=t
 | [],r,h,_=>by cases h
 | c::t,r,h,hr=>by
  unfold nameL at h;rw[Bool.and_eq_true,List.all_eq_true]at h;have e: ∀ (t:T),(∀c∈t,nameCh c false=true)→(t++r).takeWhile (fun c=>nameCh c false)=t:=by
   intro t;induction t with
   | nil=>
    intro _;cases r with
    | nil=>rfl
    | cons c u=>rw[List.nil_append,List.takeWhile_cons_of_neg (p:=fun c=>nameCh c false) (by rw[hr c u rfl];decide)]
   | cons a t ih=>intro h;rw[List.cons_append,List.takeWhile_cons_of_pos (p:=fun c=>nameCh c false) (h a (by simp)),ih fun c hc=>h c (by simp[hc])]
  show(if nameCh c true=true then c::(t++r).takeWhile (fun c=>nameCh c false)else[])=c::t;rw[if_pos h.1,e t h.2]
theorem span_len (s:T):spanN s=s.take (spanN s).length∧(spanN s).length≤s.length:=by
 cases s with
 | nil=>exact⟨rfl,Nat.le_refl _⟩
 | cons c r=>
  rw[span_cons];by_cases hc:nameCh c true=true
  ·rw[if_pos hc];have h:=List.takeWhile_prefix (l:=r) (fun c=>nameCh c false);refine⟨?_,by have:=h.length_le;simp only[List.length_cons];omega⟩;rw[List.length_cons,List.take_succ_cons,←List.prefix_iff_eq_take.1 h]
  ·rw[if_neg hc];exact⟨rfl,by simp⟩
theorem span_ok {s:T}(h:spanN s≠[]):nameL (spanN s)=true:=by
 cases s with
 | nil=>exact absurd rfl h
 | cons c r=>
  rw[span_cons]at h ⊢;by_cases hc:nameCh c true=true
  ·rw[if_pos hc];show(nameCh c true&&(r.takeWhile (fun c=>nameCh c false)).all fun c=>nameCh c false)=true;rw[hc,Bool.true_and,List.all_eq_true];intro x hx;have h2:=List.all_takeWhile (l:=r) (p:=fun c=>nameCh c false);exact List.all_eq_true.1 h2 x hx
  ·rw[if_neg hc]at h;exact absurd rfl h
theorem valB_plain {c:UInt8}(h:hexed c=false):valB c=[c]:=if_neg (by rw[h];decide)
theorem hexed_no {c:UInt8}(h:hexed c=false):c≠40∧c≠41∧c≠42∧c≠92∧c≠0:=by unfold hexed at h;simp only[Bool.or_eq_false_iff,decide_eq_false_iff_not]at h;obtain⟨⟨⟨⟨⟨h1,h2⟩,h3⟩,h4⟩,h5⟩,h6⟩:=h;refine⟨h3,h4,h5,h6,fun e=>h1 ?_⟩;rw[e];decide
theorem pieces_val (st:Bool): ∀ (v r:T),piecesP st (valL v++r)=(piecesP st r).map fun q=>(v.foldr consB q.1,q.2)
 | [],r=>by show piecesP st r=_;cases piecesP st r<;>rfl
 | c::v,r=>by
  have e:valL (c::v)++r=valB c++(valL v++r):=by unfold valL;rw[List.flatMap_cons,List.append_assoc]
  rw[e];cases hc:hexed c with
  | false=>
   obtain⟨h1,h2,h3,h4,h5⟩:=hexed_no hc;rw[valB_plain hc,List.singleton_append];conv=>lhs;unfold piecesP
   rw[if_neg (by simp[h1,h5]),if_neg h2,if_neg h3,if_neg h4,pieces_val st v r];cases piecesP st r<;>rfl
  | true=>
   have e2:valB c=[92,dg (c.toNat / 16),dg (c.toNat % 16)]:=if_pos hc;have hlt:=c.toNat_lt;rw[e2];show piecesP st (92::dg (c.toNat / 16)::dg (c.toNat % 16)::(valL v++r))=_;conv=>lhs;unfold piecesP
   rw[if_neg (by decide),if_neg (by decide),if_neg (by decide),if_pos rfl];simp only;rw[b64p.valI_dg _ (by omega),b64p.valI_dg _ (by omega),if_neg (by omega),pieces_val st v r];rw[show(16*((c.toNat / 16:Nat):Int)+((c.toNat % 16:Nat):Int)).toNat=c.toNat from by omega,UInt8.ofNat_toNat];cases piecesP st r<;>rfl
theorem fold_cons (v:T)(p:T)(ps:List T):v.foldr consB (p::ps)=(v++p)::ps:=by
 induction v with
 | nil=>rfl
 | cons c v ih=>rw[List.foldr_cons,ih];rfl
theorem pieces_end (st:Bool)(v r:T):piecesP st (valL v++41::r)=some ([v],41::r):=by
 rw[pieces_val];have e:piecesP st (41::r)=some ([[]],41::r):=by
  conv=>lhs;unfold piecesP
  rw[if_neg (by decide),if_pos rfl]
 rw[e];simp[fold_cons]
theorem pieces_star (v r:T):piecesP true (valL v++42::r)=(piecesP true r).map fun q=>(v::q.1,q.2):=by
 rw[pieces_val];have e:piecesP true (42::r)=(piecesP true r).map fun q=>([]::q.1,q.2):=by
  conv=>lhs;unfold piecesP
  rw[if_neg (by decide),if_neg (by decide),if_pos rfl,if_pos rfl]
 rw[e];cases piecesP true r with
 | none=>rfl
 | some q=>simp[fold_cons]
theorem pieces_any (z r:T): ∀l:List ByteArray,piecesP true ((l.flatMap fun x=>valL (tx x)++[42])++(valL z++41::r))=some (l.map tx++[z],41::r)
 | []=>by simpa using pieces_end true z r
 | x::t=>by
  have e:((x::t).flatMap fun x=>valL (tx x)++[42])++(valL z++41::r)=valL (tx x)++42::((t.flatMap fun x=>valL (tx x)++[42])++(valL z++41::r)):=by simp
  rw[e,pieces_star,pieces_any z r t];rfl
theorem isE_eq {x:ByteArray}(h:isE x=true):x=⟨#[]⟩:=by
 unfold isE at h;rw[decide_eq_true_iff]at h;cases x with
 | mk d=>have:d.size=0:=h;rw[Array.eq_empty_of_size_eq_zero this]
theorem bb_tx (x:ByteArray):bb (tx x)=x:=by
 cases x with
 | mk d=>unfold bb tx;rfl
theorem map_bb (l:List ByteArray):(l.map tx).map bb=l:=by
 rw[List.map_map];conv=>rhs;rw[←List.map_id l]
 exact map_same fun x _=>bb_tx x
theorem no_parts {F:Fl}(h:partsF F=false):F.first=⟨#[]⟩∧F.any=[]∧F.last=⟨#[]⟩:=by unfold partsF at h;simp only[Bool.or_eq_false_iff,Bool.not_eq_false',decide_eq_false_iff_not]at h;obtain⟨⟨h1,h2⟩,h3⟩:=h;exact⟨isE_eq h1,List.eq_nil_of_length_eq_zero (by omega),isE_eq h3⟩
theorem len_nil {α:Type}{l:List α}(h:l.length=0):l=[]:=List.eq_nil_of_length_eq_zero h
theorem leaf_shape {F:Fl}(h:oneF F=true)(hk: ¬ (F.kind=0∨F.kind=1∨F.kind=2)):
  (∃a v k,(k=3∨k=5∨k=6∨k=8)∧F= .mk k a v ⟨#[]⟩ [] ⟨#[]⟩ [])∨(∃a,F= .mk 7 a ⟨#[]⟩ ⟨#[]⟩ [] ⟨#[]⟩ [])∨(∃a p m z,F= .mk 4 a ⟨#[]⟩ p m z []∧piecesF F=true):=by
 obtain⟨k,a,v,p,m,z,ks⟩:=F;unfold oneF at h;rw[if_neg (by intro h;exact hk (by rcases h with h | h;exact Or.inl h;exact Or.inr (Or.inl h))),if_neg (by intro h;exact hk (Or.inr (Or.inr h)))]at h;split at h
 ·rename_i h3;simp only[Bool.and_eq_true,Bool.not_eq_true',decide_eq_true_iff]at h;obtain⟨⟨_,h1⟩,h2⟩:=h;obtain⟨e1,e2,e3⟩:=no_parts h1;simp only[Fl.first,Fl.any,Fl.last]at e1 e2 e3;have e4:=len_nil h2;simp only[Fl.kids]at e4;subst e1 e2 e3 e4;exact Or.inl ⟨a,v,k,h3,rfl⟩
 ·split at h
  ·rename_i h4;simp only[Fl.kind]at h4;subst h4;simp only[Bool.and_eq_true,decide_eq_true_iff]at h;obtain⟨⟨⟨⟨_,h1⟩,h2⟩,_⟩,h3⟩:=h;have e1:=isE_eq h1;have e4:=len_nil h3;simp only[Fl.kids,Fl.value]at e4 e1;subst e1 e4;exact Or.inr (Or.inr ⟨a,p,m,z,rfl,h2⟩)
  ·split at h
   ·rename_i h7;simp only[Fl.kind]at h7;subst h7;simp only[Bool.and_eq_true,Bool.not_eq_true',decide_eq_true_iff]at h;obtain⟨⟨⟨_,h0⟩,h1⟩,h2⟩:=h;obtain⟨e1,e2,e3⟩:=no_parts h1;simp only[Fl.first,Fl.any,Fl.last]at e1 e2 e3;have e4:=len_nil h2;have e0:=isE_eq h0;simp only[Fl.kids,Fl.value]at e4 e0;subst e0 e1 e2 e3 e4;exact Or.inr (Or.inl ⟨a,rfl⟩)
   ·cases h
theorem op_no: ∀k:Int,∀c u,opT k=c::u→nameCh c false=false:=by
 intro k c u h;unfold opT at h;split at h
 ·cases h;decide
 ·split at h
  ·cases h;decide
  ·split at h
   ·cases h;decide
   ·cases h;decide
theorem leaf_back {F:Fl}(h:oneF F=true)(hk: ¬ (F.kind=0∨F.kind=1∨F.kind=2))(hn:nameL (tx F.attr)=true)(r:T):leafP (tx F.attr++(bodyT F++41::r))=some (F,41::r):=by
 have hb: ∀c u,bodyT F++41::r=c::u→nameCh c false=false:=by
  intro c u he;unfold bodyT at he;split at he
  ·cases he;decide
  ·split at he
   ·cases he;decide
   ·have h2:=op_no F.kind;cases ho:opT F.kind with
    | nil=>
     exfalso
     revert ho
     unfold opT;split
     ·intro h;cases h
     ·split
      ·intro h;cases h
      ·split<;>(intro h;cases h)
    | cons d w=>rw[ho]at he;cases he;exact h2 _ _ ho
 have hs:=span_name (bodyT F++41::r) hn hb;have hne:tx F.attr≠[]:=by intro e;rw[e]at hn;cases hn
 unfold leafP;rw[hs,if_neg hne,List.drop_left];rcases leaf_shape h hk with⟨a,v,k,hkk,rfl⟩ | ⟨a,rfl⟩ | ⟨a,p,m,z,rfl,hp⟩
 ·have e:bodyT (.mk k a v ⟨#[]⟩ [] ⟨#[]⟩ [])=opT k++valL (tx v):=by show(if k=7 then _ else if k=4 then _ else _)=_;rw[if_neg (show¬k=7 by omega),if_neg (show¬k=4 by omega)];rfl
  have e2:kindP ((opT k++valL (tx v))++41::r)=(k,61::(valL (tx v)++41::r)):=by rcases hkk with rfl | rfl | rfl | rfl<;>(rw[List.append_assoc];rfl)
  rw[e,e2];simp only;rw[pieces_end];show some (Fl.mk k (bb (tx a)) (bb (tx v)) ⟨#[]⟩ [] ⟨#[]⟩ [],_)=_;rw[bb_tx,bb_tx]
 ·have e2:kindP (bodyT (.mk 7 a ⟨#[]⟩ ⟨#[]⟩ [] ⟨#[]⟩ [])++41::r)=(3,61::42::41::r):=rfl;rw[e2];show(piecesP (decide ((3:Int)=3)) (42::41::r)).map _=_;rw[show decide ((3:Int)=3)=true from rfl,show piecesP true (42::41::r)=some ([[],[]],41::r)from by have:=pieces_star [] (41::r);rw[show valL []++42::41::r=42::41::r from rfl]at this;rw[this,show(41:UInt8)::r=valL []++41::r from rfl,pieces_end];rfl];show some (Fl.mk 7 (bb (tx a)) ⟨#[]⟩ ⟨#[]⟩ [] ⟨#[]⟩ [],_)=_;rw[bb_tx]
 ·have e2:kindP (bodyT (.mk 4 a ⟨#[]⟩ p m z [])++41::r)=(3,61::(valL (tx p)++42::((m.flatMap fun x=>valL (tx x)++[42])++(valL (tx z)++41::r)))):=by have e:bodyT (.mk 4 a ⟨#[]⟩ p m z [])=61::(valL (tx p)++42::((m.flatMap fun x=>valL (tx x)++[42])++valL (tx z))):=rfl;rw[e];simp[kindP]
  rw[e2];show(piecesP (decide ((3:Int)=3)) (valL (tx p)++42::((m.flatMap fun x=>valL (tx x)++[42])++(valL (tx z)++41::r)))).map _=_;rw[show decide ((3:Int)=3)=true from rfl,pieces_star,pieces_any];show some (leafF (tx a) 3 (tx p::(m.map tx++[tx z])),_)=_;congr 2;cases hm:m.map tx++[tx z]with
  | nil=>simp at hm
  | cons q w=>
   unfold leafF;simp only;rw[if_neg]
   ·rw[bb_tx];have e3:(q::w).dropLast=m.map tx:=(by rw[←hm,List.dropLast_concat]);have e4: ∀h,(q::w).getLast h=tx z:=(by intro h;have: ∀ (l:List T) h,l=m.map tx++[tx z]→l.getLast h=tx z:=(by intro l h e;subst e;rw[List.getLast_concat]);exact this _ h hm.symm);rw[e3,e4,bb_tx,map_bb,bb_tx]
   ·rintro⟨h1,h2,h3⟩;subst h2 h3;have hl:=congrArg List.length hm;simp only[List.length_append,List.length_map,List.length_cons,List.length_nil]at hl;have hm0:m=[]:=len_nil (by omega);subst hm0;simp only[List.map_nil,List.nil_append,List.cons.injEq,and_true]at hm;unfold piecesF at hp;simp only[Fl.any,Fl.first,Fl.last,List.any_nil,Bool.false_or]at hp;have g: ∀x:ByteArray,tx x=[]→isE x=true:=(by intro x hx;have:x=bb []:=(by rw[←hx,bb_tx]);rw[this];rfl);rw[g p h1,g z hm]at hp;cases hp
theorem catO_some: ∀ {l:List (Option T)} {t:T},catO l=some t→ ∃us:List T,l=us.map some∧t=us.flatten
 | [],t,h=>by cases h;exact⟨[],rfl,rfl⟩
 | none::_,t,h=>by cases h
 | some a::r,t,h=>by unfold catO at h;rw[Option.map_eq_some_iff]at h;obtain⟨u,hu,rfl⟩:=h;obtain⟨us,e1,e2⟩:=catO_some hu;exact⟨a::us,by rw[e1];rfl,by rw[e2];rfl⟩
theorem catO_all: ∀ {l:List (Option T)},(∀x∈l,x≠none)→catO l≠none
 | [],_=>by intro h;cases h
 | none::_,h=>absurd rfl (h none (by simp))
 | some a::r,h=>by unfold catO;intro e;rw[Option.map_eq_none_iff]at e;exact catO_all (fun x hx=>h x (by simp[hx])) e
theorem kids_back {P:T→Option (Fl × T)}: ∀ (ks:List Fl) (us:List T) (r:T) (m:Nat),ks.length=us.length→(∀i (h:i<ks.length) (h2:i<us.length) (r:T),P (us[i]++r)=some (ks[i],r)∧(us[i]++r).head?=some 40)→r.head?≠some 40→ks.length<m→
  kidsG P m (us.flatten++r)=some (ks,r)
 | [],us,r,m,hl,h,hr,hm=>by
  have:us=[]:=len_nil (by simpa using hl.symm);subst this;cases m with
  | zero=>omega
  | succ m=>show kidsG P (m+1) r=_;unfold kidsG;rw[if_neg hr]
 | k::ks,[],r,m,hl,_,_,_=>by cases hl
 | k::ks,u::us,r,0,_,_,_,hm=>by cases hm
 | k::ks,u::us,r,m+1,hl,h,hr,hm=>by have h0:=h 0 (by simp) (by simp) (us.flatten++r);simp only[List.getElem_cons_zero]at h0;rw[List.flatten_cons,List.append_assoc];unfold kidsG;rw[if_pos h0.2,h0.1];simp only;rw[kids_back ks us r m (by simpa using hl) (fun i a b r=>by have:=h (i+1) (by simpa using a) (by simpa using b) r;simpa using this) hr (by simp at hm;omega)];rfl
theorem text_head: ∀ {d:Nat} {F:Fl} {t:T},textF d F=some t→t.head?=some 40
 | 0,_,_,h=>by cases h
 | d+1,F,t,h=>by
  unfold textF at h;split at h
  ·rw[Option.map_eq_some_iff]at h;obtain⟨u,_,rfl⟩:=h;rfl
  ·split at h
   ·cases h;rfl
   ·cases h
theorem head_app {t r:T}{c:UInt8}(h:t.head?=some c):(t++r).head?=some c:=by
 cases t with
 | nil=>cases h
 | cons a u=>exact h
theorem text_kids {d:Nat}{ks:List Fl}{t:T}(h:catO (ks.map (textF d))=some t): ∃us:List T,t=us.flatten∧ks.length=us.length∧ ∀i (h:i<ks.length) (h2:i<us.length),textF d ks[i]=some us[i]:=by
 obtain⟨us,e1,e2⟩:=catO_some h;have hl:=congrArg List.length e1;simp only[List.length_map]at hl;refine⟨us,e2,hl,fun i a b=> ?_⟩;have e:(ks.map (textF d))[i]'(by simpa using a)=(us.map some)[i]'(by simpa using b):=by simp only[e1]
 simpa using e
theorem flat_len_ge (us:List T)(h: ∀u∈us,u≠[]):us.length≤us.flatten.length:=by
 induction us with
 | nil=>exact Nat.le_refl _
 | cons u t ih=>rw[List.flatten_cons,List.length_append,List.length_cons];have:=ih fun x hx=>h x (by simp[hx]);have:=List.length_pos_iff.2 (h u (by simp));omega
theorem one_back: ∀ (d:Nat) (F:Fl) (t r:T) (n:Nat),rightD d F=true→textF d F=some t→d≤n→oneP n (t++r)=some (F,r)
 | 0,F,t,r,n,h,_,_=>by cases h
 | d+1,F,t,r,0,_,_,hn=>absurd hn (by omega)
 | d+1,F,t,r,n+1,h,ht,hn=>by
  unfold rightD at h;rw[Bool.and_eq_true,List.all_eq_true]at h;obtain⟨h1,h2⟩:=h;unfold textF at ht;by_cases hk:F.kind=0∨F.kind=1∨F.kind=2
  ·rw[if_pos hk,Option.map_eq_some_iff]at ht;obtain⟨u,hu,rfl⟩:=ht;obtain⟨us,rfl,hl,hus⟩:=text_kids hu;have hne: ∀x∈us,x≠[]:=(by intro x hx;obtain⟨i,hi,rfl⟩:=List.mem_iff_getElem.1 hx;have:=text_head (hus i (by omega) hi);intro e;rw[e]at this;cases this);have hP: ∀i (a:i<F.kids.length) (b:i<us.length) (r:T),oneP n (us[i]++r)=some (F.kids[i],r)∧(us[i]++r).head?=some 40:=fun i a b r=>
    ⟨one_back d F.kids[i] us[i] r n (h2 _ (List.getElem_mem a)) (hus i a b) (by omega),head_app (text_head (hus i a b))⟩
   have hF: ∀k,F.kind=k→(k=0∨k=1∨k=2)→F=both k F.kids:=by
    intro k hk2 hk3;have h3:(isE F.attr&&isE F.value&& !partsF F)=true:=by
     unfold oneF at h1;by_cases h01:F.kind=0∨F.kind=1
     ·rwa[if_pos h01]at h1
     ·rw[if_neg h01,if_pos (by omega),Bool.and_eq_true]at h1;exact h1.1
    simp only[Bool.and_eq_true,Bool.not_eq_true']at h3;obtain⟨⟨e1,e2⟩,e3⟩:=h3;obtain⟨p1,p2,p3⟩:=no_parts e3;rw[Fl.eta F,hk2,isE_eq e1,isE_eq e2,p1,p2,p3];rfl
   have hsh:(40::signT F.kind::(us.flatten++[41]))++r=40::signT F.kind::(us.flatten++41::r):=(by simp);rw[hsh];have hall:kidsG (oneP n) ((us.flatten++41::r).length+1) (us.flatten++41::r)=some (F.kids,41::r):=
    kids_back F.kids us (41::r) _ hl hP (by simp) (by have:=flat_len_ge us hne;rw[List.length_append];omega)
   unfold oneP;rcases hk with hk | hk | hk
   ·rw[hk];simp only;rw[show signT 0=38 from rfl,if_pos (Or.inl rfl),hall];simp only;rw[if_pos trivial,←hF 0 hk (by simp)]
   ·rw[hk];simp only;rw[show signT 1=124 from rfl,if_pos (Or.inr rfl),hall];simp only;rw[if_neg (by decide),←hF 1 hk (by simp)]
   ·have hlen:F.kids.length=1:=(by unfold oneF at h1;rw[if_neg (by omega),if_pos hk,Bool.and_eq_true]at h1;exact of_decide_eq_true h1.2);obtain⟨k,hkk⟩:=List.length_eq_one_iff.1 hlen;obtain⟨v,rfl⟩:=List.length_eq_one_iff.1 (hl.symm.trans hlen);have h0:=(hP 0 (by omega) (by simp) (41::r)).1;simp only[List.getElem_cons_zero,hkk]at h0;rw[hk];simp only[List.flatten_cons,List.flatten_nil,List.append_nil];rw[show signT 2=33 from rfl,if_neg (by decide),if_pos rfl,h0];simp only;rw[hF 2 hk (by simp),hkk];rfl
  ·rw[if_neg hk]at ht;split at ht
   ·rename_i hn2;cases ht;have hsh:itemT F++r=40::(tx F.attr++(bodyT F++41::r)):=(by unfold itemT;simp);rw[hsh];have hb:=leaf_back h1 hk hn2 r;cases ha:tx F.attr with
    | nil=>rw[ha]at hn2;cases hn2
    | cons c w=>rw[ha]at hb hn2;unfold nameL at hn2;rw[Bool.and_eq_true]at hn2;have hc:c≠38∧c≠124∧c≠33:=(by refine⟨?_,?_,?_⟩<;>(rintro rfl;exact absurd hn2.1 (by decide)));unfold oneP;rw[List.cons_append];simp only;rw[if_neg (by simp[hc.1,hc.2.1]),if_neg hc.2.2];rw[List.cons_append]at hb;rw[hb];rfl
   ·cases ht
theorem leafF_attr (nm:T)(k:Int)(ps:List T):(leafF nm k ps).attr=bb nm:=by
 unfold leafF;split
 ·rfl
 ·rfl
 ·split<;>rfl
theorem leafF_kind {nm:T}{k:Int}{ps:List T}(h:3≤k):3≤(leafF nm k ps).kind:=by
 unfold leafF;split
 ·exact h
 ·exact h
 ·split
  ·show(3:Int)≤7;decide
  ·show(3:Int)≤4;decide
theorem kindP_ge (l:T):3≤(kindP l).1:=by unfold kindP;split<;>simp
theorem leaf_named {s:T}{F:Fl}{r:T}(h:leafP s=some (F,r)):nameL (tx F.attr)=true∧3≤F.kind:=by
 unfold leafP at h;split at h
 ·cases h
 ·rename_i hs;split at h
  ·rw[Option.map_eq_some_iff]at h;obtain⟨q,_,e⟩:=h;cases e;rw[leafF_attr];exact⟨span_ok hs,leafF_kind (kindP_ge _)⟩
  ·cases h
theorem kids_some {P:T→Option (Fl × T)}: ∀ {m:Nat} {l:T} {ks:List Fl} {r:T},kidsG P m l=some (ks,r)→ ∀k∈ks,∃a b,P a=some (k,b)
 | 0,l,ks,r,h=>by cases h
 | m+1,l,ks,r,h=>by
  unfold kidsG at h;split at h
  ·split at h
   ·cases h
   ·rename_i k2 r2 hp;rw[Option.map_eq_some_iff]at h;obtain⟨q,hq,e⟩:=h;cases e;intro k hk;rcases List.mem_cons.1 hk with rfl | hk
    ·exact⟨l,r2,hp⟩
    ·exact kids_some (ks:=q.1) (r:=q.2) hq k hk
  ·cases h;intro k hk;cases hk
theorem one_text: ∀ (n:Nat) (l:T) (F:Fl) (r:T),oneP n l=some (F,r)→ ∀d,rightD d F=true→textF d F≠none
 | 0,l,F,r,h,_,_=>by cases h
 | n+1,l,F,r,h,0,hd=>by cases hd
 | n+1,l,F,r,h,d+1,hd=>by
  have hd2:=hd;unfold rightD at hd2;rw[Bool.and_eq_true,List.all_eq_true]at hd2;have hcat:(∀k∈F.kids,∃a b,oneP n a=some (k,b))→(F.kind=0∨F.kind=1∨F.kind=2)→textF (d+1) F≠none:=by intro hk hkind;unfold textF;rw[if_pos hkind];intro e;rw[Option.map_eq_none_iff]at e;refine catO_all ?_ e;intro x hx;obtain⟨k,hkm,rfl⟩:=List.mem_map.1 hx;obtain⟨a,b,hab⟩:=hk k hkm;exact one_text n a k b hab d (hd2.2 k hkm)
  unfold oneP at h;split at h
  ·rename_i c w;split at h
   ·split at h
    ·rename_i ks r2 hks;cases h;refine hcat (fun k hk=>kids_some hks k hk) ?_;show(if c=38 then(0:Int)else 1)=0∨(if c=38 then(0:Int)else 1)=1∨_;split
     ·exact Or.inl rfl
     ·exact Or.inr (Or.inl rfl)
    ·cases h
   ·split at h
    ·split at h
     ·rename_i k r2 hk;cases h;refine hcat (fun k' hk'=> ?_) (Or.inr (Or.inr rfl));have:k'=k:=(by simpa[notF,both,Fl.kids]using hk');subst this;exact⟨_,_,hk⟩
     ·cases h
    ·split at h
     ·rename_i G r2 hG;cases h;obtain⟨h1,h2⟩:=leaf_named hG;unfold textF;rw[if_neg (by omega),if_pos h1];intro e;cases e
     ·cases h
  ·cases h
theorem text_len3: ∀ {d:Nat} {F:Fl} {t:T},textF d F=some t→1≤t.length:=by
 intro d F t h;have:=text_head h;cases t with
 | nil=>cases this
 | cons a u=>simp
theorem text_deep: ∀ (d:Nat) (F:Fl) (t:T),textF d F=some t→rightD d F=true→ ∃e,e≤t.length∧e≤d∧rightD e F=true∧textF e F=some t
 | 0,_,_,h,_=>by cases h
 | d+1,F,t,h,hd=>by
  by_cases hl:d+1≤t.length
  ·exact⟨d+1,hl,Nat.le_refl _,hd,h⟩
  ·have hd2:=hd;unfold rightD at hd2;rw[Bool.and_eq_true,List.all_eq_true]at hd2;have h2:=h;unfold textF at h2;by_cases hk:F.kind=0∨F.kind=1∨F.kind=2
   ·rw[if_pos hk,Option.map_eq_some_iff]at h2;obtain⟨u,hu,rfl⟩:=h2;obtain⟨us,rfl,hlen,hus⟩:=text_kids hu;have hL:(40::signT F.kind::(us.flatten++[41])).length=us.flatten.length+3:=(by simp);have key: ∀i (a:i<F.kids.length) (b:i<us.length),rightD us.flatten.length F.kids[i]=true∧textF us.flatten.length F.kids[i]=some us[i]:=by
     intro i a b;obtain⟨e,e1,e2,e3,e4⟩:=text_deep d F.kids[i] us[i] (hus i a b) (hd2.2 _ (List.getElem_mem a));have hle:us[i].length≤us.flatten.length:=by
      have: ∀ (us:List T) i (b:i<us.length),us[i].length≤us.flatten.length:=by
       intro us;induction us with
       | nil=>intro i b;cases b
       | cons x w ih=>
        intro i b;rw[List.flatten_cons,List.length_append];cases i with
        | zero=>simp
        | succ i=>have h3:=ih i (by simpa using b);rw[List.getElem_cons_succ];omega
      exact this us i b
     have mono: ∀ (e e':Nat) (G:Fl) (v:T),rightD e G=true→textF e G=some v→e≤e'→textF e' G=some v:=by
      intro e;induction e with
      | zero=>intro e' G v h;cases h
      | succ e ih=>
       intro e' G v hr hv hle;cases e' with
       | zero=>omega
       | succ e'=>
        unfold rightD at hr;rw[Bool.and_eq_true,List.all_eq_true]at hr;unfold textF at hv ⊢;by_cases hk:G.kind=0∨G.kind=1∨G.kind=2
        ·rw[if_pos hk]at hv ⊢;rw[Option.map_eq_some_iff]at hv;obtain⟨y,hy,rfl⟩:=hv;obtain⟨ws,rfl,wl,hws⟩:=text_kids hy;have e5:G.kids.map (textF e')=G.kids.map (textF e):=map_same fun k hk=>by obtain⟨j,hj,rfl⟩:=List.mem_iff_getElem.1 hk;rw[hws j hj (by omega)];exact ih e' _ _ (hr.2 _ (List.getElem_mem hj)) (hws j hj (by omega)) (by omega)
         rw[e5,hy];rfl
        ·rw[if_neg hk]at hv ⊢;exact hv
     exact⟨rightD_mono e3 (Nat.le_trans e1 hle),mono e us.flatten.length _ _ e3 e4 (Nat.le_trans e1 hle)⟩
    refine⟨us.flatten.length+1,by omega,by omega,?_,?_⟩
    ·unfold rightD;rw[Bool.and_eq_true,List.all_eq_true];refine⟨hd2.1,fun k hk=> ?_⟩;obtain⟨j,hj,rfl⟩:=List.mem_iff_getElem.1 hk;exact(key j hj (by omega)).1
    ·unfold textF;rw[if_pos hk];have e5:F.kids.map (textF us.flatten.length)=F.kids.map (textF d):=map_same fun k hk=>by obtain⟨j,hj,rfl⟩:=List.mem_iff_getElem.1 hk;rw[(key j hj (by omega)).2,hus j hj (by omega)]
     rw[e5,hu];rfl
   ·refine⟨1,text_len3 h,by omega,?_,?_⟩
    ·unfold rightD;rw[Bool.and_eq_true];refine⟨hd2.1,?_⟩;rcases leaf_shape hd2.1 hk with⟨a,v,k,_,rfl⟩ | ⟨a,rfl⟩ | ⟨a,p,m,z,rfl,_⟩<;>rfl
    ·unfold textF;rw[if_neg hk]at h2 ⊢;exact h2
theorem parse_print {F:Fl}{t:T}(hr:rightF F=true)(ht:textF 8 F=some t):parseT t=if 8000<t.length then(noFl,5)else(F,0):=by
 unfold parseT;split
 ·rfl
 ·obtain⟨h1,h2⟩:=(rightF_iff F).1 hr;obtain⟨e,e1,e2,e3,e4⟩:=text_deep 8 F t ht h1;have h3:=one_back e F t [] (t.length+1) e3 e4 (by omega);rw[List.append_nil]at h3;rw[h3];simp only;rw[if_pos hr]
theorem print_parse {s:T}(h:(parseT s).2=0): ∃t,rightF (parseT s).1=true∧textF 8 (parseT s).1=some t∧printF (parseT s).1=(t,0):=by
 have key: ∀F,parseT s=(F,0)→ ∃t,rightF F=true∧textF 8 F=some t∧printF F=(t,0):=by
  intro F hp;unfold parseT at hp;split at hp
  ·cases hp
  ·split at hp
   ·rename_i G hG;split at hp
    ·rename_i hr;cases hp;have h8:=((rightF_iff F).1 hr).1;have hne:=one_text _ _ _ _ hG 8 h8;cases ht:textF 8 F with
     | none=>exact absurd ht hne
     | some t=>refine⟨t,hr,rfl,?_⟩;unfold printF;rw[if_pos hr,ht]
    ·cases hp
   ·cases hp
 refine key (parseT s).1 ?_;rw[←h]
end ftp
open Go.RowKit
namespace bld
theorem writeByte_cell (B b:Nat)(l:List UInt8)(c:UInt8)(w:World)(h:Is B b l w)(hlen:l.length+1≤140737488355328)(hBw:B≤w.heap.size):
  Calls Tryz.prog 128 #[.pointer (some ⟨b,0,none⟩),.int .u8 (c.toNat:Int)] w fun e w'=>e= .returned .nilIface∧(Is B b (l++[c]) w'∧Below B w w'):=by
 have hbc:(Lib.byteCells l).length=l.length:=Lib.byteCells_length l;have hbc':Lib.byteCells (l++[c])=Lib.byteCells l++[.int .u8 (c.toNat:Int)]:=by rw[Lib.byteCells_append];rfl
 unfold Is;rw[hbc'];have h0:Lib.IsBuilder 133 5 B b (Lib.byteCells l) w:=h;clear h hbc';generalize Lib.byteCells l=bs at h0 hbc ⊢;have C:=Lib.hid (copyCheck_any B b bs w h0);clear h0;go_enter Tryz.func128,Tryz.ntmps128;go_wp2_with fail;refine C.out.mono ?_;rintro e w1 ⟨rfl,h1,hb1⟩;obtain⟨hB,v,hbk,hown,hne⟩:=h1;have hsz:=hb1.size;have c0:w1.cell? ⟨b,0,none⟩=some (.pointer (some ⟨b,0,none⟩)):=by rw[Lib.cell_of_heap hbk];rfl
 have c1:w1.cell? ⟨b,1,none⟩=some v:=by rw[Lib.cell_of_heap hbk];rfl
 obtain⟨v',w2,hap,hown',hgr,hb2⟩:=kt.app1 (P:=Tryz.prog) (ty:=131) Tryz.underlying131 infoByte rfl (.int .u8 (c.toNat:Int)) rfl hown (by rw[hbc];unfold maxLen;omega) (by rw[hbc];omega) (by omega);have hlt:=lt_of_heap hbk;have hbk2:w2.heap[b]? =some (.cells #[.pointer (some ⟨b,0,none⟩),v] 133 (0,0)):=by rw[hgr.block b hlt (fun e=>hne e.symm)];exact hbk
 have d1:w2.cell? ⟨b,1,none⟩=some v:=by rw[Lib.cell_of_heap hbk2];rfl
 have f1:w2.frozen? ⟨b,1,none⟩=false:=Lib.frozen_of_heap hbk2 1;obtain⟨ao,n,cap,rfl,hn⟩:=kt.row_form hown';have H1:=Lib.hid hown';have H2:=Lib.hid hown;have HB:=Lib.hid hbk2;have HK:=Lib.hid hbk;have HN:=Lib.hid hne;have HG:=Lib.hid hgr;clear hown' hown hbk2 hbk hne hgr C;go_wp2_with (at_builtin;refine Lib.wpList_append_run _ rfl _ _ _ _ rfl _ _ rfl rfl _ _ hap ?_);go_ret;exact⟨rfl,Or.inr (Lib.BuilderAt.put hB HB.out H1.out (by decide)),(hb1.trans hb2).setCell (p:=⟨b,1,none⟩) hB _⟩
end bld
open Go.RowKit
theorem digit_at (n:Nat)(h:n<(ByteArray.mk #[48,49,50,51,52,53,54,55,56,57,97,98,99,100,101,102]).size):(ByteArray.mk #[48,49,50,51,52,53,54,55,56,57,97,98,99,100,101,102])[n]=b64p.dg n:=by
 have h16:n<16:=h;have all: ∀m:Fin 16,(ByteArray.mk #[48,49,50,51,52,53,54,55,56,57,97,98,99,100,101,102])[m.val]'(m.isLt)=b64p.dg m.val:=by decide
 exact all ⟨n,h16⟩
theorem hex_any (s:ByteArray)(w:World)(hs:s.size≤3000):
  Calls Tryz.prog 211 #[.string s] w fun e w'=>e= .returned (.string ⟨(b64p.hex s.data.toList).toArray⟩)∧Below w.heap.size w w':=by
 go_enter Tryz.func211,Tryz.ntmps211;go_wp2_with fail;go_loopw [7] (fun i wr=> ∃k:Nat,k≤s.size∧i= .int .i64 k∧bld.Is w.heap.size w.heap.size (b64p.hex (s.data.toList.take k)) wr∧Below w.heap.size w wr) (fun i _=>s.size- (intOf i).toNat);case atStart=>exact⟨0,Nat.zero_le _,rfl,bld.fresh w,(Below.refl _ _).alloc (Nat.le_refl _) _⟩
 case round=>
  obtain⟨k,hk,rfl,hI,hB⟩:=hrel;by_cases hlt:k<s.size
  ·have hb:=s[k].toNat_lt;have e1:bits .and .u8 (s[k].toNat:Int) 15=((s[k].toNat % 16:Nat):Int):=(by have h:=u8_and_nat s[k].toNat 15 hb (by omega);rw[show s[k].toNat&&&15=s[k].toNat % 16 from Nat.and_two_pow_sub_one_eq_mod _ 4]at h;exact h);have hlen:(b64p.hex (s.data.toList.take k)).length≤6000:=(by rw[b64p.hex_length,List.length_take];omega);have hsz:=hB.size;have hI':=Lib.hid hI;clear hI;go_wp2_with fail;refine(bld.writeByte_cell _ _ _ _ _ hI'.out (by omega) hsz).mono ?_;rintro e w1 ⟨rfl,hI1,hB1⟩;have hI1':=Lib.hid hI1;clear hI1;have hsz1:=hB1.size;go_wp2_with fail;refine(bld.writeByte_cell _ _ _ _ _ hI1'.out (by simp;omega) (by omega)).mono ?_;rintro e w2 ⟨rfl,hI2,hB2⟩;have hI2':=Lib.hid hI2;clear hI2;go_wp2_with fail;go_roundw;case rel=>
    refine⟨k+1,by omega,by go_num,?_,(hB.trans hB1).trans hB2⟩;have h:=hI2'.out;rw[digit_at,digit_at]at h;rw[kt.take_snoc s k hlt,b64p.hex_append];simpa[b64p.hex]using h
   case measure=>simp[intOf];omega
  ·obtain rfl:k=s.size:=(by omega);have hsz:=hB.size;have hI':=Lib.hid hI;clear hI;go_wp2_with fail;refine(Tryz.Builder_String_any _ _ _ _ hI'.out hsz).mono ?_;rintro e w1 ⟨rfl,hB1⟩;go_wp2;go_ret;exact⟨kt.ret_str (by rw[List.take_of_length_le (by simp)]),hB.trans hB1⟩
end Go.Proofs.YtmnpfkbjpeaemaaGreatDoor
