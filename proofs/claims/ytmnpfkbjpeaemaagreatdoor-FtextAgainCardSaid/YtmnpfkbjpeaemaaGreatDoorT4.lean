/- One text out of several: RuneW, OneW, RunesW, WRuneW, TextW, MappedW, RReadyW, PrepW, ReadyW, AvaP, RdnW, RightW, Nest, ParseP. -/
import Derived.Test.YtmnpfkbjpeaemaaGreatDoorRows
import Derived.Test.YtmnpfkbjpeaemaaGreatDoorT1
import Derived.Test.YtmnpfkbjpeaemaaGreatDoorT3
import Derived.Deep.DeepCutAuto
import Derived.Lib.OthersKept
import Derived.Test.YtmnpfkbjpeaemaaGreatDoorT2
import Derived.LoopN
import Derived.Deep.QuietTactic
import Derived.BigQuiet
set_option linter.unusedVariables false
set_option linter.unusedSimpArgs false
set_option maxRecDepth 20000
set_option maxHeartbeats 4000000
namespace Go.Proofs.YtmnpfkbjpeaemaaGreatDoor
open Go.RowKit
namespace prw
open run prp
theorem drop_yes {r:Int}(h:r≤8∨(14≤r∧r≤31)∨(127≤r∧r≤132)∨(134≤r∧r≤159)∨r=173∨(8203≤r∧r≤8207)∨r=65279):true=dropB r:=by unfold dropB;exact(decide_eq_true h).symm
theorem drop_no {r:Int}(h: ¬ (r≤8∨(14≤r∧r≤31)∨(127≤r∧r≤132)∨(134≤r∧r≤159)∨r=173∨(8203≤r∧r≤8207)∨r=65279)):false=dropB r:=by unfold dropB;exact(decide_eq_false h).symm
theorem blank_yes {r:Int}(h:(9≤r∧r≤13)∨r=32∨r=133∨r=160∨r=5760∨(8192≤r∧r≤8202)∨r=8232∨r=8233∨r=8239∨r=8287∨r=12288):true=blankB r:=by unfold blankB;exact(decide_eq_true h).symm
theorem blank_no {r:Int}(h: ¬ ((9≤r∧r≤13)∨r=32∨r=133∨r=160∨r=5760∨(8192≤r∧r≤8202)∨r=8232∨r=8233∨r=8239∨r=8287∨r=12288)):false=blankB r:=by unfold blankB;exact(decide_eq_false h).symm
theorem dropped_any (r:Int)(w:World):Calls Tryz.prog 254 #[.int .i32 r] w fun e w'=>e= .returned (.bool (dropB r))∧w=w':=by
 go_enter Tryz.func254,Tryz.ntmps254;go_wp2;all_goals
  go_ret;refine⟨kt.ret_bool ?_,rfl⟩;first
   | ((try simp only[beq_iff_eq,beq_eq_false_iff_ne,ne_eq,bne_iff_ne]at*);exact drop_yes (by omega))
   | ((try simp only[beq_iff_eq,beq_eq_false_iff_ne,ne_eq,bne_iff_ne]at*);exact drop_no (by omega))
   | (rw[Bool.eq_iff_iff];unfold dropB;(try simp only[beq_iff_eq,beq_eq_false_iff_ne,ne_eq,bne_iff_ne]at*);simp only[Bool.and_eq_true,Bool.or_eq_true,decide_eq_true_eq,beq_iff_eq];omega)
theorem blank_any (r:Int)(w:World):Calls Tryz.prog 255 #[.int .i32 r] w fun e w'=>e= .returned (.bool (blankB r))∧w=w':=by
 go_enter Tryz.func255,Tryz.ntmps255;go_wp2;all_goals
  go_ret;refine⟨kt.ret_bool ?_,rfl⟩;first
   | ((try simp only[beq_iff_eq,beq_eq_false_iff_ne,ne_eq,bne_iff_ne]at*);exact blank_yes (by omega))
   | ((try simp only[beq_iff_eq,beq_eq_false_iff_ne,ne_eq,bne_iff_ne]at*);exact blank_no (by omega))
   | (rw[Bool.eq_iff_iff];unfold blankB;(try simp only[beq_iff_eq,beq_eq_false_iff_ne,ne_eq,bne_iff_ne]at*);simp only[Bool.and_eq_true,Bool.or_eq_true,decide_eq_true_eq,beq_iff_eq];omega)
theorem small_any (r:Int)(w:World)(h0:0≤r)(h1:r≤1114111):Calls Tryz.prog 256 #[.int .i32 r] w fun e w'=>e= .returned (.int .i32 (smallI r))∧w=w':=by
 have ha:r+32≤2147483647:=by omega
 have hb:r+80≤2147483647:=by omega
 go_enter Tryz.func256,Tryz.ntmps256;go_wp2;all_goals
  go_ret;refine⟨kt.ret_int ?_,rfl⟩
  (try simp only[bne,Bool.not_eq_true',Bool.not_eq_false',beq_iff_eq,beq_eq_false_iff_ne,ne_eq,bne_iff_ne]at*)
  unfold smallI
  repeat' split
  all_goals omega
end prw
open Go.RowKit
namespace prw
open run prp
theorem drop_len (s:ByteArray)(i:Nat):(s.data.toList.drop i).length=s.size-i:=by simp
end prw
open Go.RowKit
namespace prw
open run prp
def rcells (m:List Int):List Value:=m.map (Value.int .i32 ·)
theorem rcells_length (m:List Int):(rcells m).length=m.length:=by simp[rcells]
theorem rcells_append (a b:List Int):rcells (a++b)=rcells a++rcells b:=by simp[rcells]
theorem infoRune:(Tryz.prog.info? 21).map (fun i=>(i.zero,i.size,i.bytes))=some (some (.int .i32 0),1,4):=by kernel_rfl
def OwnR (w:World)(B:Nat)(v:Value)(m:List Int):Prop:=w.ownsRow B 21 1 v (rcells m).length (rcells m)
theorem ownR_nil (w:World)(B:Nat):OwnR w B (.slice none 0 0) []:=World.ownsRow_nil _ _ _ _
theorem ownR_form {w:World}{B:Nat}{v:Value}{m:List Int}(h:OwnR w B v m): ∃ (ao:Option Addr) (cap:Nat),v= .slice ao m.length cap:=by obtain⟨ao,cap,hv,_⟩:=kt.row_slice h;rw[rcells_length]at hv;exact⟨ao,cap,hv⟩
theorem ownR_mono {w:World}{B B':Nat}{v:Value}{m:List Int}(h:OwnR w B v m)(hB:B'≤B):OwnR w B' v m:=by
 refine⟨h.1,?_⟩;rcases h.2 with h0 | ⟨g,cap,cur,hv,hBg,hg,h1,h2,h3,h4⟩
 ·exact Or.inl h0
 ·exact Or.inr ⟨g,cap,cur,hv,by omega,hg,h1,h2,h3,h4⟩
theorem row_iter {w:World}{B k pos pos':Nat}{e:TypeId}{v:Value}{n:Nat}{xs:List Value}{s:ByteArray}(h:w.ownsRow B e 1 v n xs)(hk:w.heap[k]? =some (.stringIter s pos)):(w.iterAt k s pos').ownsRow B e 1 v n xs:=by
 refine⟨h.1,?_⟩;rcases h.2 with h0 | ⟨g,cap,cur,hv,hBg,hg,h1,h2,h3,h4⟩
 ·exact Or.inl h0
 ·refine Or.inr ⟨g,cap,cur,hv,hBg,?_,h1,h2,h3,h4⟩;rw[Lib.iterAt_other _ _ _ _ _ (by rintro rfl;rw[hk]at hg;cases hg)];exact hg
theorem ownR_app {w:World}{B:Nat}{v:Value}{m:List Int}(x:Int)(hown:OwnR w B v m)(hl:m.length≤100000000)(hbase:B≤w.heap.size):
  ∃v' w1,(Builtin.append_ #[122,122] 122 #[v,.slice (some ⟨w.heap.size,0,none⟩) 1 1]).run Tryz.prog (w.alloc (.cells #[.int .i32 x] 21))= .ok v' w1∧OwnR w1 B v' (m++[x])∧Below B w w1:=by
 obtain⟨v',w1,h1,h2,_,h3⟩:=kt.app1 (P:=Tryz.prog) (t:=122) (ty:=122) Tryz.underlying122 infoRune rfl (.int .i32 x) rfl hown (by rw[rcells_length];unfold maxLen;omega) (by rw[rcells_length];omega) hbase;refine⟨v',w1,h1,?_,h3⟩;unfold OwnR;rw[rcells_append];exact h2
def RunesE (o:Option (List Int))(w:World)(e:Ending)(w':World):Prop:=
 Below w.heap.size w w'∧match o with
  | none=>e= .returned (.tuple #[.slice none 0 0,.int .i64 19])
  | some m=> ∃v,e= .returned (.tuple #[v,.int .i64 0])∧OwnR w' w.heap.size v m
theorem drop_ne {s:ByteArray}{i:Nat}(hi:i<s.size):s.data.toList.drop i≠[]:=by intro e;have:=congrArg List.length e;rw[drop_len]at this;simp at this;omega
theorem runes_on {s:ByteArray}{i:Nat}{m:List Int}(hi:i<s.size)(h:runes s.data.toList=(runes (s.data.toList.drop i)).map (m++ ·))(h1:(oneL (s.data.toList.drop i)).2≠0):
  runes s.data.toList=(runes (s.data.toList.drop (i+(oneL (s.data.toList.drop i)).2))).map ((m++[((oneL (s.data.toList.drop i)).1:Int)])++ ·):=by
 rw[runes_step _ (drop_ne hi),if_neg h1,List.drop_drop]at h;rw[h,Option.map_map];congr 1;funext x;simp
theorem runes_off {s:ByteArray}{i:Nat}{m:List Int}(hi:i<s.size)(h:runes s.data.toList=(runes (s.data.toList.drop i)).map (m++ ·))(h1:(oneL (s.data.toList.drop i)).2=0):runes s.data.toList=none:=by rw[runes_step _ (drop_ne hi),if_pos h1]at h;exact h
theorem runes_end {s:ByteArray}{m:List Int}(h:runes s.data.toList=(runes (s.data.toList.drop s.size)).map (m++ ·)):runes s.data.toList=some m:=by rw[List.drop_of_length_le (by simp),runes_nil]at h;simpa using h
theorem one_le {s:ByteArray}{i:Nat}(hi:i<s.size):i+(oneL (s.data.toList.drop i)).2≤s.size:=by have:=one_width _ (drop_ne hi);rw[drop_len]at this;omega
theorem runes_any (s:ByteArray)(w:World)(hs:s.size≤1100000):Calls Tryz.prog 253 #[.string s] w fun e w'=>RunesE (runes s.data.toList) w e w':=by
 go_enter Tryz.func253,Tryz.ntmps253;go_wp2_with fail;go_loopw [4] (fun lv wr=> ∃ (i:Nat) (m:List Int),i≤s.size∧wr.heap[w.heap.size]? =some (.stringIter s i)∧Hid (OwnR wr (w.heap.size+1) lv m)∧m.length≤i∧Hid (runes s.data.toList=(runes (s.data.toList.drop i)).map (m++ ·))∧Below w.heap.size w wr) (fun _ wr=>s.size-wr.iterPos w.heap.size);case atStart=>
  refine⟨0,[],Nat.zero_le _,?_,?_,by simp,by show _=_;simp,?_⟩
  ·exact World.iter_heap w s 0
  ·exact ownR_nil _ _
  ·exact(Below.refl _ _).alloc (Nat.le_refl _) _
 case round=>
  obtain⟨i,m,hi,hit,hO,hm,hR,hB⟩:=hrel;have hsz:w.heap.size<wr.heap.size:=(Array.getElem?_eq_some_iff.1 hit).1;by_cases hlt:i<s.size
  ·have h1:=one_le hlt;by_cases hz:(oneL (s.data.toList.drop i)).2=0
   ·have HN:Hid (runes s.data.toList=none):=runes_off hlt hR.out hz;obtain⟨hdec,hno⟩:=decode_no s i hlt hz;have hnx: ∀ty,(Instr.next (.pointer (some ⟨w.heap.size,0,none⟩)) true ty).run Tryz.prog wr=_:=fun ty=>Lib.run_next_any_at wr w.heap.size s i ty hit hlt;rw[hdec]at hnx;have hB2:=Lib.below_iterAt hB (Nat.le_refl _) s (i+1);have hp:Lib.hasPrefix (s.extract i s.size).data.toList [239,191,189]=false:=(by unfold Lib.hasPrefix;rw[Bool.eq_false_iff];intro e;rw[List.isPrefixOf_iff_prefix,Lib.extract_to_end]at e;exact hno ((fffd_prefix _).2 e));have CP:=Tryz.strings_HasPrefix (s.extract i s.size) ⟨#[239,191,189]⟩ (wr.iterAt w.heap.size s (i+1));rw[show(⟨#[239,191,189]⟩:ByteArray).data.toList=[239,191,189]from rfl,hp]at CP;have HP:=Lib.hid CP;clear CP hp hdec hno hz h1;go_wp2_with fail;refine HP.out.mono ?_;rintro e w1 ⟨rfl,rfl⟩;go_wp2_with fail;go_ret2;refine⟨hB2,?_⟩;rw[HN.out];rfl
   ·have HN:=Lib.hid (runes_on hlt hR.out hz);have hn0:1≤(oneL (s.data.toList.drop i)).2:=(by omega);have hdec:=decode_yes s i hlt hz;have hff:=fffd_yes _ hz;have hnx: ∀ty,(Instr.next (.pointer (some ⟨w.heap.size,0,none⟩)) true ty).run Tryz.prog wr=_:=fun ty=>Lib.run_next_any_at wr w.heap.size s i ty hit hlt;rw[hdec]at hnx;have hff2:((oneL (s.data.toList.drop i)).1:Int)=65533→fffd (s.data.toList.drop i):=fun e=>hff (by omega);clear hff;generalize hrr:((oneL (s.data.toList.drop i)).1:Int)=rn at HN hnx hff2;generalize hnn:(oneL (s.data.toList.drop i)).2=n at HN h1 hn0 hnx;have hB2:=Lib.hid (Lib.below_iterAt hB (Nat.le_refl _) s (i+n));have hit2:=Lib.hid (Lib.iterAt_heap wr w.heap.size s i (i+n) hit);have hsz2:w.heap.size+1≤(wr.iterAt w.heap.size s (i+n)).heap.size:=(by rw[Lib.iterAt_size];exact hsz);have hO2:OwnR (wr.iterAt w.heap.size s (i+n)) (w.heap.size+1) _ m:=row_iter hO.out hit;obtain⟨v',w1,hap,hO1,hB1⟩:=ownR_app rn hO2 (by omega) hsz2;have hit3:w1.heap[w.heap.size]? =some (.stringIter s (i+n)):=(hB1.block _ (by omega)).trans hit2.out;have hms:Hid (s.size-w1.iterPos w.heap.size<s.size-wr.iterPos w.heap.size):=(by show _<_;simp only[World.iterPos,hit3,hit];omega);have HIT3:=Lib.hid hit3;have HO1:=Lib.hid hO1;have HB1:=Lib.hid (hB2.out.trans (hB1.mono (by omega)));have hin:i+n≤s.size:=h1;clear hdec hz hnn hO1 hB1 h1 hO2 hit3;by_cases h65:rn=65533
    ·have hpx:=(fffd_prefix _).1 (hff2 h65);have hp:Lib.hasPrefix (s.extract i s.size).data.toList [239,191,189]=true:=(by unfold Lib.hasPrefix;rw[List.isPrefixOf_iff_prefix,Lib.extract_to_end];exact hpx);have CP:=Tryz.strings_HasPrefix (s.extract i s.size) ⟨#[239,191,189]⟩ (wr.iterAt w.heap.size s (i+n));rw[show(⟨#[239,191,189]⟩:ByteArray).data.toList=[239,191,189]from rfl,hp]at CP;have HP:=Lib.hid CP;clear CP hp hpx hff2 hrr;subst h65;go_wp2_with fail;refine HP.out.mono ?_;rintro e w1 ⟨rfl,rfl⟩;go_wp2_with (at_builtin;refine Lib.wpList_append_run _ rfl _ _ _ _ rfl _ _ rfl rfl _ _ hap ?_);go_roundw;case rel=>exact⟨i+n,m++[65533],hin,HIT3.out,HO1,by simp;omega,HN,HB1.out⟩
     case measure=>exact hms.out
    ·have h65':(rn==65533)=false:=(by rw[beq_eq_false_iff_ne];omega);clear hff2 hrr h65;go_wp2_with (at_builtin;refine Lib.wpList_append_run _ rfl _ _ _ _ rfl _ _ rfl rfl _ _ hap ?_);go_roundw;case rel=>exact⟨i+n,m++[rn],hin,HIT3.out,HO1,by simp;omega,HN,HB1.out⟩
     case measure=>exact hms.out
  ·obtain rfl:i=s.size:=(by omega);have HN:Hid (runes s.data.toList=some m):=runes_end hR.out;have hnx: ∀ty,(Instr.next (.pointer (some ⟨w.heap.size,0,none⟩)) true ty).run Tryz.prog wr=_:=fun ty=>Lib.run_next_end_at wr w.heap.size s s.size ty hit hlt;go_wp2_with fail;go_ret2;refine⟨hB,?_⟩;rw[HN.out];exact⟨_,rfl,ownR_mono hO.out (by omega)⟩
end prw
open Go.RowKit
namespace bld
theorem writeRune_any (B b:Nat)(l:List UInt8)(r:Int)(w:World)(h:Is B b l w)(hr0:0≤r)(hr1:r≤1114111)(hlen:l.length≤1000000000)(hBw:B≤w.heap.size):
  Calls Tryz.prog 257 #[.pointer (some ⟨b,0,none⟩),.int .i32 r] w fun e w'=> ∃v,e= .returned v∧(Is B b (l++run.enc r) w'∧Below B w w'):=by
 have hbc:(Lib.byteCells l).length=l.length:=Lib.byteCells_length l;have hbc':Lib.byteCells (l++run.enc r)=Lib.byteCells l++Lib.runeCells r:=by rw[Lib.byteCells_append];unfold run.enc;rw[Lib.byteCells_encodeRune]
 unfold Is;rw[hbc'];have h0:Lib.IsBuilder 133 5 B b (Lib.byteCells l) w:=h;clear h hbc';generalize Lib.byteCells l=bs at h0 hbc ⊢;have C:=Lib.hid (copyCheck_any B b bs w h0);clear h0;go_enter Tryz.func257,Tryz.ntmps257;go_wp2_with fail;refine C.out.mono ?_;rintro e w1 ⟨rfl,h1,hb1⟩;obtain⟨hB,v,hbk,hown,hne⟩:=h1;have hsz:=hb1.size;have c0:w1.cell? ⟨b,0,none⟩=some (.pointer (some ⟨b,0,none⟩)):=by rw[Lib.cell_of_heap hbk];rfl
 have c1:w1.cell? ⟨b,1,none⟩=some v:=by rw[Lib.cell_of_heap hbk];rfl
 have hlt:=lt_of_heap hbk;have HOWN:=Lib.hid hown;have HBK:=Lib.hid hbk;have HNE:=Lib.hid hne;have HBC:=Lib.hid hbc;obtain⟨ao,n,cap,hv,hn⟩:=kt.row_form hown;have CA:=Lib.hid (Tryz.utf8_AppendRune_plain B v bs.length bs r (by omega) (by omega) w1 hown (by rw[hbc];omega) (by omega));clear hown hbk hne hbc C;subst hv;go_wp2_with fail;refine CA.out.mono ?_;rintro e w2 ⟨v',rfl,hown',o,hgr⟩;have hgr2:Below B w1 w2:=((Below.refl B w1).alloc (by omega) o).trans ((Below.refl B _).grown hgr (by simp;omega) (fun k hk=>(HOWN.out.lt k hk).1));have hbk2:w2.heap[b]? =some (.cells #[.pointer (some ⟨b,0,none⟩),.slice ao n cap] 133 (0,0)):=by rw[hgr.block b (by simp;omega) (fun e=>HNE.out e.symm),Below.heap_alloc _ _ _ hlt];exact HBK.out
 have d1:w2.cell? ⟨b,1,none⟩=some (.slice ao n cap):=by rw[Lib.cell_of_heap hbk2];rfl
 have f1:w2.frozen? ⟨b,1,none⟩=false:=Lib.frozen_of_heap hbk2 1;have hown2:w2.ownsRow B 5 1 v' (bs++Lib.runeCells r).length (bs++Lib.runeCells r):=by rw[List.length_append];exact hown'
 obtain⟨ao',n',cap',rfl,hn'⟩:=kt.row_form hown2;have H1:=Lib.hid hown2;have HB:=Lib.hid hbk2;have HGR:=Lib.hid hgr2;clear hown' hbk2 hgr hown2 CA HNE HBK hgr2;go_wp2_with fail;go_ret2;exact⟨_,rfl,Or.inr (Lib.BuilderAt.put hB HB.out H1.out (by decide)),(hb1.trans HGR.out).setCell (p:=⟨b,1,none⟩) hB _⟩
end bld
open Go.RowKit
namespace prw
open run prp
theorem infoByte:(Tryz.prog.info? 5).map (fun i=>(i.zero,i.size,i.bytes))=some (some (.int .u8 0),1,1):=by kernel_rfl
def BytesE (l:List UInt8)(w:World)(e:Ending)(w':World):Prop:=∃g cap:Nat,e= .returned (.slice (some ⟨g,0,none⟩) l.length cap)∧(∀j u,(Lib.byteCells l)[j]? =some u→w'.cell? ⟨g,j,none⟩=some u)∧Below w.heap.size w w'
theorem bytesE_lit (w:World)(l:List UInt8)(zs:List Int)(h:l=zs.map fun x=>x.toNat.toUInt8)(hz: ∀x∈zs,0≤x∧x<256):
  BytesE l w (.returned (.slice (some ⟨w.heap.size,0,none⟩) zs.length zs.length)) (w.alloc (.cells (zs.map (Value.int .u8 ·)).toArray 5)):=by
 refine⟨w.heap.size,zs.length,by rw[h];simp,?_,(Below.refl _ _).alloc (Nat.le_refl _) _⟩;intro j u hj;have e1:Lib.byteCells l=zs.map (Value.int .u8 ·):=by rw[h];unfold Lib.byteCells;rw[List.map_map];apply List.map_congr_left;intro x hx;obtain⟨h0,h1⟩:=hz x hx;simp only[Function.comp,Value.int.injEq,true_and];rw[u8z x h0 h1];omega
 rw[e1]at hj;rw[World.cell?_alloc_new];simpa using hj
theorem bytes_any (r:Int)(w:World)(hr:Hid (okR r)):Calls Tryz.prog 154 #[.int .i32 r] w fun e w'=>BytesE (enc r) w e w':=by
 have r0:0≤r:=hr.out.1;have r1:r≤1114111:=hr.out.2.1;by_cases a1:r<128
 ·have E:=Lib.hid (enc_one r0 (by omega));go_enter Tryz.func154,Tryz.ntmps154;go_wp2_with fail;go_ret;exact bytesE_lit w _ [r] E.out (by intro x hx;simp at hx;omega)
 ·by_cases a2:r<2048
  ·have E:=Lib.hid (enc_two (v:=r) (by omega) (by omega));go_enter Tryz.func154,Tryz.ntmps154;go_wp2_with fail;go_ret;exact bytesE_lit w _ [192+r / 64,128+r % 64] E.out (by intro x hx;simp at hx;omega)
  ·by_cases a3:r<65536
   ·have E:=Lib.hid (enc_three (v:=r) (by have:=hr.out.2.2;omega));go_enter Tryz.func154,Tryz.ntmps154;go_wp2_with fail;go_ret;exact bytesE_lit w _ [224+r / 4096,128+r / 64 % 64,128+r % 64] E.out (by intro x hx;simp at hx;omega)
   ·have E:=Lib.hid (enc_four (v:=r) (by omega) (by omega));go_enter Tryz.func154,Tryz.ntmps154;go_wp2_with fail;go_ret;exact bytesE_lit w _ [240+r / 262144,128+r / 4096 % 64,128+r / 64 % 64,128+r % 64] E.out (by intro x hx;simp at hx;omega)
def Runs (w:World)(ao:Option Addr)(m:List Int):Prop:= ∀i (hi:i<m.length),∃b o,ao=some ⟨b,o,none⟩∧w.cell? ⟨b,o+i,none⟩=some (.int .i32 m[i])
theorem runs_below {w w':World}{ao:Option Addr}{m:List Int}(h:Runs w ao m)(hb:Below w.heap.size w w'):Runs w' ao m:=by intro i hi;obtain⟨b,o,h1,h2⟩:=h i hi;exact⟨b,o,h1,(hb.cell (World.block_lt_of_cell? w _ h2)).trans h2⟩
theorem runs_of {w:World}{B:Nat}{v:Value}{m:List Int}(h:OwnR w B v m): ∃ (ao:Option Addr) (cap:Nat),v= .slice ao m.length cap∧Runs w ao m:=by
 obtain⟨ao,cap,rfl⟩:=ownR_form h;refine⟨ao,cap,rfl,?_⟩;intro i hi;have h':w.ownsRow B 21 1 (.slice ao m.length cap) m.length (rcells m):=by have:=h;unfold OwnR at this;rw[rcells_length]at this;exact this
 obtain⟨g,rfl,hc,_⟩:=kt.row_some h' (by omega);refine⟨g,0,rfl,?_⟩;rw[Nat.zero_add];exact hc i _ (by simp[rcells,hi])
theorem text_take (m:List Int)(i:Nat)(hi:i<m.length):text (m.take (i+1))=text (m.take i)++enc m[i]:=by rw[List.take_succ_eq_append_getElem hi,text_append];simp[text]
theorem text_len4: ∀m:List Int,(text m).length≤4*m.length
 | []=>by simp[text]
 | v::m=>by have h1:=enc_len v;have h2:=text_len4 m;rw[text_cons,List.length_append,List.length_cons];omega
theorem text_any (ao:Option Addr)(cap:Nat)(m:List Int)(w:World)(hm:m.length≤1100000)(hS:Hid (Runs w ao m))(hok:Hid (∀v∈m,okR v)):
  Calls Tryz.prog 93 #[.slice ao m.length cap] w fun e w'=>e= .returned (.string ⟨(text m).toArray⟩)∧Below w.heap.size w w':=by
 go_enter Tryz.func93,Tryz.ntmps93;go_wp2_with fail;go_loopw [3,4] (fun bv iv wr=> ∃ (i:Nat),i≤m.length∧iv= .int .i64 (i:Int)∧Hid (wr.ownsRow w.heap.size 5 1 bv (Lib.byteCells (text (m.take i))).length (Lib.byteCells (text (m.take i))))∧Below w.heap.size w wr) (fun _ iv _=>m.length- (intOf iv).toNat);case atStart=>
  refine⟨0,Nat.zero_le _,rfl,?_,(Below.refl _ _).alloc (Nat.le_refl _) _⟩;exact World.ownsRow_made _ #[] 0 (by simp) (by unfold maxLen;omega) rfl
 case round=>
  obtain⟨i,hi,rfl,hO,hB⟩:=hrel;have hsz:=hB.size;by_cases hlt:i<m.length
  ·have hlt':(i:Int)<(m.length:Int):=(by omega);obtain⟨b,o,hao,hc⟩:=runs_below hS.out hB i hlt;subst hao;have hT:=text_take m i hlt;have h4:=text_len4 (m.take i);have h5:=enc_len m[i];rw[List.length_take]at h4;have hokm:=hok.out m[i] (by simp);generalize m[i]=x at hc hT h5 hokm;have HX:=Lib.hid hokm;have CB:=Lib.hid (bytes_any x wr HX);have HT:=Lib.hid hT;have H4:=Lib.hid h4;have H5:=Lib.hid h5;clear hT h4 hokm h5;go_wp2_with fail;refine CB.out.mono ?_;rintro e w1 ⟨g,cp,rfl,hg,hB1⟩;have hO1:=kt.row_below hO.out hB1;have h6:=Lib.byteCells_length (text (m.take i));obtain⟨v',w2,hap,hO2,hg2,hB2⟩:=kt.appN (P:=Tryz.prog) (t:=131) (ty:=131) Tryz.underlying131 infoByte rfl ⟨g,0,none⟩ (enc x).length cp (Lib.byteCells (enc x)) (Lib.byteCells_length _) (fun j u hj=>by rw[kt.addr_add];exact hg j u hj) (by intro u hu;unfold Lib.byteCells at hu;obtain⟨y,_,rfl⟩:=List.mem_map.1 hu;rfl) hO1 (by have:=H4.out;have:=H5.out;rw[h6];unfold maxLen;omega) (by have:=H4.out;have:=H5.out;rw[h6];omega) (Nat.le_trans hsz hB1.size);have HO2:Hid (w2.ownsRow w.heap.size 5 1 v' (Lib.byteCells (text (m.take (i+1)))).length (Lib.byteCells (text (m.take (i+1))))):=(by show World.ownsRow _ _ _ _ _ _ _;rw[HT.out,Lib.byteCells_append];exact hO2);have HB2:Hid (Below w.heap.size w w2):=(hB.trans (hB1.mono hsz)).trans hB2;clear hO1 hO2 hg hg2 hB1 hB2 h6;go_wp2_with (at_builtin;refine Lib.wpList_append_run _ rfl _ _ _ _ rfl _ _ rfl rfl _ _ hap ?_);go_roundw;case rel=>exact⟨i+1,by omega,by go_num,HO2,HB2.out⟩
   case measure=>simp[intOf];omega
  ·obtain rfl:i=m.length:=(by omega);have hst:=kt.str_of_row (P:=Tryz.prog) (dst:=9) Tryz.underlying131 Tryz.underlying5 Tryz.underlying9 hO.out;rw[List.take_length]at hst;go_wp2_with fail;go_ret;exact⟨rfl,hB⟩
end prw
open Go.RowKit
namespace prw
open run prp
theorem mapped_take_drop {fold:Bool}{m:List Int}{i:Nat}(hi:i<m.length)(h:dropB m[i]=true):mapped fold (m.take (i+1))=mapped fold (m.take i):=by rw[List.take_succ_eq_append_getElem hi,mapped_append];simp[mapped,h]
theorem mapped_take_keep {fold:Bool}{m:List Int}{i:Nat}(hi:i<m.length)(h:dropB m[i]=false):mapped fold (m.take (i+1))=mapped fold (m.take i)++[mapR fold m[i]]:=by rw[List.take_succ_eq_append_getElem hi,mapped_append];simp[mapped,h]
theorem mapped_take_len (fold:Bool)(m:List Int)(i:Nat):(mapped fold (m.take i)).length≤i:=by unfold mapped;rw[List.length_map];refine Nat.le_trans (List.length_filter_le _ _) ?_;rw[List.length_take];omega
theorem mapR_blank {fold:Bool}{r:Int}(h:blankB r=true):mapR fold r=32:=by unfold mapR;rw[if_pos h]
theorem mapR_small {r:Int}(h:blankB r=false):mapR true r=smallI r:=by unfold mapR;rw[if_neg (by rw[h];simp),if_pos rfl]
theorem mapR_same {r:Int}(h:blankB r=false):mapR false r=r:=by unfold mapR;rw[if_neg (by rw[h];simp),if_neg (by simp)]
def mapO' (l:List UInt8)(fold:Bool):Option (List Int):=(runes l).map (mapped fold)
end prw
open Go.RowKit
namespace prw
open run prp
def pairV:Option (List UInt8)→Value
 | none=> .tuple #[.string ⟨#[]⟩,.int .i64 19]
 | some t=> .tuple #[.string ⟨t.toArray⟩,.int .i64 0]
theorem mapO_eq (l:List UInt8)(fold:Bool):mapO l fold=(mapO' l fold).map text:=by unfold mapO mapO';rw[Option.map_map];rfl
end prw
open Go.RowKit
namespace prw
open run prp
def Env (w:World):Prop:= ∃m:Int,w.cell? ⟨1,0,none⟩=some (.int .i64 m)
theorem env_below {w w':World}(h:Env w)(hb:Below w.heap.size w w'):Env w':=by obtain⟨m,hm⟩:=h;exact⟨m,(hb.cell (World.block_lt_of_cell? w _ hm)).trans hm⟩
theorem text_map_len {fold:Bool}{m:List Int}(i:Nat)(hi:i≤m.length):(text (mapped fold (m.take i))).length≤4*i:=by have h1:=text_len4 (mapped fold (m.take i));have h2:=mapped_take_len fold m i;omega
theorem map_any (s:ByteArray)(fold:Bool)(w:World)(hs:s.size≤1100000):Calls Tryz.prog 192 #[.string s,.bool fold] w fun e w'=>e= .returned (pairV (mapO s.data.toList fold))∧Below w.heap.size w w':=by
 rw[mapO_eq];have CR:=runes_any s w hs;have HM:Hid (mapO' s.data.toList fold=(runes s.data.toList).map (mapped fold)):=rfl;cases hrs:runes s.data.toList with
 | none=>rw[hrs]at CR HM;have CH:=Lib.hid CR;clear hrs CR;go_enter Tryz.func192,Tryz.ntmps192;go_wp2_with fail;refine CH.out.mono ?_;rintro e w1 ⟨hB1,rfl⟩;go_wp2_with fail;go_ret2;refine⟨?_,hB1⟩;rw[HM.out];rfl
 | some m=>
  rw[hrs]at CR HM;have hml:=runes_len hrs;have hok:=(runes_text _ _ m (Nat.le_refl _) hrs).2;have CH:=Lib.hid CR;have HK:=Lib.hid hok;have hml2:m.length≤1100000:=by rw[kt.size_len]at hml;omega
  clear hrs CR hok hml;go_enter Tryz.func192,Tryz.ntmps192;go_wp2_with fail;refine CH.out.mono ?_;rintro e w1 ⟨hB1,v,rfl,hO⟩;obtain⟨ao,cap,rfl,hS⟩:=runs_of hO;have HS:=Lib.hid hS;clear hO hS;have hsz1:=hB1.size;go_wp2_with fail;go_loopw [10,21] (fun xv iv wr=> ∃ (i:Nat),i≤m.length∧iv= .int .i64 (i:Int)∧Hid (bld.Is w1.heap.size w1.heap.size (text (mapped fold (m.take i))) wr)∧Below w1.heap.size w1 wr∧w1.heap.size<wr.heap.size) (fun _ iv _=>m.length- (intOf iv).toNat);case atStart=>
   refine⟨0,Nat.zero_le _,rfl,?_,(Below.refl _ _).alloc (Nat.le_refl _) _,by simp⟩;exact bld.fresh w1
  case round=>
   obtain⟨i,hi,rfl,hI,hB,hgt⟩:=hrel;have hsz:=hB.size;by_cases hlt:i<m.length
   ·have hlt':(i:Int)<(m.length:Int):=(by omega);obtain⟨b,o,hao,hc⟩:=runs_below HS.out hB i hlt;subst hao;have hx:=HK.out m[i] (by simp);have h1:=mapped_take_drop (fold:=fold) hlt;have h2:=mapped_take_keep (fold:=fold) hlt;have h3:=Lib.hid (text_map_len (fold:=fold) i hi);generalize m[i]=x at hc hx h1 h2;have hx3:=hx;obtain⟨x0,x1,_⟩:=hx;have CD:=Lib.hid (dropped_any x);by_cases hd:dropB x=true
    ·have hI1:=hI.out;rw[←h1 hd]at hI1;have HI1:=Lib.hid hI1;rw[hd]at CD;clear h1 h2 hd hI1;go_wp2_with fail;refine(CD.out wr).mono ?_;rintro e w2 ⟨rfl,rfl⟩;go_wp2_with fail;go_roundw;case rel=>exact⟨i+1,by omega,by go_num,HI1,hB,hgt⟩
     case measure=>simp[intOf];omega
    ·have hd':dropB x=false:=(by simpa using hd);rw[hd']at CD;have h2':=h2 hd';have hy:okR (mapR fold x):=mapR_ok hx3;have CW:=bld.writeRune_any w1.heap.size w1.heap.size (text (mapped fold (m.take i))) (mapR fold x) wr hI.out hy.1 hy.2.1 (by have:=h3.out;omega) hsz;have e1:text (mapped fold (m.take i))++enc (mapR fold x)=text (mapped fold (m.take (i+1))):=(by rw[h2',text_append];simp[text]);rw[e1]at CW;clear h1 h2 hd hd' h2' e1 hy;have CB:=Lib.hid (blank_any x);by_cases hb:blankB x=true
     ·rw[hb]at CB;rw[mapR_blank hb]at CW;have CWH:=Lib.hid CW;clear CW hb;go_wp2_with fail;refine(CD.out wr).mono ?_;rintro e w2 ⟨rfl,rfl⟩;go_wp2_with fail;refine(CB.out wr).mono ?_;rintro e w2 ⟨rfl,rfl⟩;go_wp2_with fail;refine CWH.out.mono ?_;rintro e w2 ⟨v,rfl,hI2,hB2⟩;have HI2:=Lib.hid hI2;have hsz2:=hB2.size;clear hI2;go_wp2_with fail;go_roundw;case rel=>exact⟨i+1,by omega,by go_num,HI2,hB.trans hB2,by omega⟩
      case measure=>simp[intOf];omega
     ·have hb':blankB x=false:=(by simpa using hb);rw[hb']at CB;clear hb;cases fold with
      | true=>
       rw[mapR_small hb']at CW;have CS:=Lib.hid (fun w=>small_any x w x0 x1);generalize smallI x=y at CS CW;have CWH:=Lib.hid CW;clear CW hb';go_wp2_with fail;refine(CD.out wr).mono ?_;rintro e w2 ⟨rfl,rfl⟩;go_wp2_with fail;refine(CB.out wr).mono ?_;rintro e w2 ⟨rfl,rfl⟩;go_wp2_with fail;refine(CS.out wr).mono ?_;rintro e w2 ⟨rfl,rfl⟩;go_wp2_with fail;refine CWH.out.mono ?_;rintro e w2 ⟨v,rfl,hI2,hB2⟩;have HI2:=Lib.hid hI2;have hsz2:=hB2.size;clear hI2;go_wp2_with fail;go_roundw;case rel=>exact⟨i+1,by omega,by go_num,HI2,hB.trans hB2,by omega⟩
       case measure=>simp[intOf];omega
      | false=>
       rw[mapR_same hb']at CW;have CWH:=Lib.hid CW;clear CW hb';go_wp2_with fail;refine(CD.out wr).mono ?_;rintro e w2 ⟨rfl,rfl⟩;go_wp2_with fail;refine(CB.out wr).mono ?_;rintro e w2 ⟨rfl,rfl⟩;go_wp2_with fail;refine CWH.out.mono ?_;rintro e w2 ⟨v,rfl,hI2,hB2⟩;have HI2:=Lib.hid hI2;have hsz2:=hB2.size;clear hI2;go_wp2_with fail;go_roundw;case rel=>exact⟨i+1,by omega,by go_num,HI2,hB.trans hB2,by omega⟩
       case measure=>simp[intOf];omega
   ·obtain rfl:i=m.length:=(by omega);have hI1:=hI.out;rw[List.take_length]at hI1;have CS:=Lib.hid (Tryz.Builder_String_any w1.heap.size w1.heap.size (text (mapped fold m)) wr hI1 hsz);clear hI1;go_wp2_with fail;refine CS.out.mono ?_;rintro e w2 ⟨rfl,hB2⟩;go_wp2_with fail;go_ret2;refine⟨?_,hB1.trans ((hB.trans hB2).mono hsz1)⟩;rw[HM.out];rfl
end prw
open Go.RowKit
namespace prw
open run prp
theorem infoStr:(Tryz.prog.info? 9).map (fun i=>(i.zero,i.size,i.bytes))=some (some (.string ByteArray.empty),1,16):=by kernel_rfl
def scells (l:List ByteArray):List Value:=l.map Value.string
theorem scells_length (l:List ByteArray):(scells l).length=l.length:=by simp[scells]
def OwnT (w:World)(B:Nat)(v:Value)(l:List ByteArray):Prop:=w.ownsRow B 9 1 v (scells l).length (scells l)
theorem ownT_app {w:World}{B:Nat}{v:Value}{l:List ByteArray}(x:ByteArray)(hown:OwnT w B v l)(hl:l.length≤100000000)(hbase:B≤w.heap.size):
  ∃v' w1,(Builtin.append_ #[35,35] 35 #[v,.slice (some ⟨w.heap.size,0,none⟩) 1 1]).run Tryz.prog (w.alloc (.cells #[.string x] 9))= .ok v' w1∧OwnT w1 B v' (l++[x])∧Below B w w1:=by
 obtain⟨v',w1,h1,h2,_,h3⟩:=kt.app1 (P:=Tryz.prog) (t:=35) (ty:=35) Tryz.underlying35 infoStr rfl (.string x) rfl hown (by rw[scells_length];unfold maxLen;omega) (by rw[scells_length];omega) hbase;refine⟨v',w1,h1,?_,h3⟩;unfold OwnT;have e:scells (l++[x])=scells l++[.string x]:=by simp[scells]
 rw[e];exact h2
theorem ownT_cells {w:World}{B:Nat}{v:Value}{l:List ByteArray}(h:OwnT w B v l): ∃ (ao:Option Addr) (cap:Nat),v= .slice ao l.length cap∧l.length≤cap∧(l≠[]→ ∃g,ao=some ⟨g,0,none⟩∧g<w.heap.size∧ ∀ (j:Nat) x,l[j]? =some x→w.cell? ⟨g,0+j,none⟩=some (.string x)):=by
 obtain⟨ao,cap,hv,_,hc⟩:=kt.row_slice h;rw[scells_length]at hv hc;subst hv;refine⟨ao,cap,rfl,hc,fun hne=> ?_⟩;have h':w.ownsRow B 9 1 (.slice ao l.length cap) l.length (scells l):=by have:=h;unfold OwnT at this;rw[scells_length]at this;exact this
 obtain⟨g,rfl,hcc,_⟩:=kt.row_some h' (List.length_pos_iff.2 hne);have hcell: ∀ (j:Nat) x,l[j]? =some x→w.cell? ⟨g,0+j,none⟩=some (.string x):=by intro j x hj;rw[Nat.zero_add];exact hcc j _ (by simp[scells,hj])
 refine⟨g,rfl,?_,hcell⟩;obtain⟨x,t,rfl⟩:=List.exists_cons_of_ne_nil hne;exact World.block_lt_of_cell? w ⟨g,0+0,none⟩ (hcell 0 x rfl)
theorem split_pieces (t:ByteArray):(Lib.splitB ⟨#[32]⟩ 0 (Lib.countB t ⟨#[32]⟩) t).map (·.data.toList)=pieces 32 t.data.toList∧(Lib.splitB ⟨#[32]⟩ 0 (Lib.countB t ⟨#[32]⟩) t).length=Lib.countB t ⟨#[32]⟩+1∧Lib.countB t ⟨#[32]⟩≤t.size:=by
 refine⟨?_,Lib.splitB_all _ (by decide) 0 _ t rfl,Lib.countB_le _ (by decide) _ t (Nat.le_refl _)⟩;rw[Lib.splitB_data];show Lib.splitK [32] 0 (Lib.countB t ⟨#[32]⟩) t.data.toList=_;have:Lib.countB t ⟨#[32]⟩=t.data.toList.count 32:=by show Lib.count t.data.toList [32]=_;exact Lib.count_one 32 _
 rw[this];exact splitK_pieces 32 _ _ rfl
def neE (x:ByteArray):Bool:=decide (x.data.toList≠[])
theorem words_eq (ps:List ByteArray):(ps.filter neE).map (·.data.toList)=(ps.map (·.data.toList)).filter (· ≠[]):=by rw[List.filter_map];rfl
theorem wf_keep {m:List ByteArray}{i:Nat}(hi:i<m.length)(h:neE m[i]=true):(m.take (i+1)).filter neE=(m.take i).filter neE++[m[i]]:=by rw[List.take_succ_eq_append_getElem hi,List.filter_append];simp[h]
theorem wf_drop {m:List ByteArray}{i:Nat}(hi:i<m.length)(h:neE m[i]=false):(m.take (i+1)).filter neE=(m.take i).filter neE:=by rw[List.take_succ_eq_append_getElem hi,List.filter_append];simp[h]
theorem wf_len (m:List ByteArray)(i:Nat):((m.take i).filter neE).length≤i:=by refine Nat.le_trans (List.length_filter_le _ _) ?_;rw[List.length_take];omega
theorem neE_false {x:ByteArray}(h:neE x=false):x=⟨#[]⟩:=by apply kt.str_eq;unfold neE at h;simpa using h
theorem pairV_some (t:List UInt8):pairV (some t)= .tuple #[.string ⟨t.toArray⟩,.int .i64 0]:=rfl
theorem ready_any (s:ByteArray)(fold:Bool)(w:World)(hs:s.size≤1100000)(hE:Hid (Env w)):Calls Tryz.prog 134 #[.string s,.bool fold] w fun e w'=>e= .returned (pairV (readyO s.data.toList fold))∧Below w.heap.size w w':=by
 have CR:=map_any s fold w hs;have HM:=Lib.hid (readyO_of_map s.data.toList fold);have HL:= @readyO_len s.data.toList;cases hrs:mapO s.data.toList fold with
 | none=>rw[hrs]at CR HM;have CH:=Lib.hid CR;clear hrs CR HL;go_enter Tryz.func134,Tryz.ntmps134;go_wp2_with fail;refine CH.out.mono ?_;rintro e w1 ⟨rfl,hB1⟩;unfold pairV;go_wp2_with fail;go_ret2;refine⟨?_,hB1⟩;rw[HM.out];rfl
 | some t=>
  rw[hrs]at CR HM;have htl:=mapO_len hrs;rw[kt.size_len]at htl;have hjl:=HL HM.out;obtain⟨ta,hta⟩: ∃ta:ByteArray,ta=⟨t.toArray⟩:=⟨_,rfl⟩;have htd:ta.data.toList=t:=by rw[hta]
  rw[pairV_some,←hta]at CR;have CH:=Lib.hid CR;obtain⟨hp1,hp2,hp3⟩:=split_pieces ta;rw[htd]at hp1;have hts:ta.size≤1100000:=by rw[←kt.size_len,htd];omega
  have CSP: ∀ (W:World) (m:Int),W.cell? ⟨1,0,none⟩=some (.int .i64 m)→_:=fun W m hm=>Tryz.strings_Split ta ⟨#[32]⟩ m W (by omega) hm (by decide);generalize hps:Lib.splitB ⟨#[32]⟩ 0 (Lib.countB ta ⟨#[32]⟩) ta=ps at hp1 hp2 CSP;generalize hcn:Lib.countB ta ⟨#[32]⟩=cn at hp2 hp3 CSP;rw[←hp2]at CSP;have hpl:ps.length≤1100001:=by omega
  have HSP:=Lib.hid CSP;have hW:=words_eq ps;rw[hp1]at hW;simp only[Option.map_some]at HM hjl;rw[←hW]at HM hjl;have HJL:=Lib.hid hjl;clear hrs CR HL hta htd htl hjl hp1 hp2 hp3 hps hcn CSP hW hts;go_enter Tryz.func134,Tryz.ntmps134;go_wp2_with fail;refine CH.out.mono ?_;rintro e w1 ⟨rfl,hB1⟩;obtain⟨mx,hmx⟩:=env_below hE.out hB1;have HSP1:=Lib.hid (HSP.out w1 mx hmx);clear hmx;have hsz1:=hB1.size;go_wp2_with fail;refine HSP1.out.mono ?_;rintro e w2 ⟨rfl,hw2⟩;have hB2:Below w1.heap.size w1 w2:=by rw[hw2];exact(Below.refl _ _).alloc (Nat.le_refl _) _
  have hsz2:w1.heap.size<w2.heap.size:=by rw[hw2];simp
  have HC2:Hid (∀ (j:Nat) (hj:j<ps.length),w2.cell? ⟨w1.heap.size,j,none⟩=some (.string ps[j])):=by intro j hj;rw[hw2,World.cell?_alloc_new];simp[hj]
  clear hw2 HSP HSP1 CH;go_wp2_with fail;go_loopw [8,10,23] (fun wv pv iv wr=> ∃ (i:Nat),i≤ps.length∧iv= .int .i64 (i:Int)∧Hid (OwnT wr w2.heap.size wv ((ps.take i).filter neE))∧Below w2.heap.size w2 wr) (fun _ _ iv _=>ps.length- (intOf iv).toNat);case atStart=>exact⟨0,Nat.zero_le _,rfl,World.ownsRow_nil _ _ _ _,Below.refl _ _⟩
  case round=>
   obtain⟨i,hi,rfl,hO,hB⟩:=hrel;have hsz:=hB.size;by_cases hlt:i<ps.length
   ·have hlt':(i:Int)<(ps.length:Int):=(by omega);have hc:=(hB.cell (p:=⟨w1.heap.size,i,none⟩) hsz2).trans (HC2.out i hlt);have q1:=wf_keep hlt;have q2:=wf_drop hlt;have q3:=wf_len ps i;generalize ps[i]=p at hc q1 q2;by_cases hp:neE p=true
    ·obtain⟨v',w3,hap,hO1,hB3⟩:=ownT_app p hO.out (by omega) hsz;rw[←q1 hp]at hO1;have HO1:=Lib.hid hO1;have g1:(p.toList==[])=false:=(by rw[beq_eq_false_iff_ne,Lib.toList_data];unfold neE at hp;simpa using hp);have g2: ¬p.toList=[]:=(by simpa using g1);clear q1 q2 q3 hp hO1;go_wp2_with (at_builtin;refine Lib.wpList_append_run _ rfl _ _ _ _ rfl _ _ rfl rfl _ _ hap ?_);go_roundw;case rel=>exact⟨i+1,by omega,by go_num,HO1,hB.trans hB3⟩
     case measure=>simp[intOf];omega
    ·have hp':neE p=false:=(by simpa using hp);have hO1:=hO.out;rw[←q2 hp']at hO1;have HO1:=Lib.hid hO1;obtain rfl:=neE_false hp';clear q1 q2 q3 hp hp' hO1;go_wp2_with fail;go_roundw;case rel=>exact⟨i+1,by omega,by go_num,HO1,hB⟩
     case measure=>simp[intOf];omega
   ·obtain rfl:i=ps.length:=(by omega);have hO1:=hO.out;rw[List.take_length]at hO1;have q3:=wf_len ps ps.length;rw[List.take_length]at q3;obtain⟨ao,cap,rfl,hcap,hcs⟩:=ownT_cells hO1;generalize ps.filter neE=ws at hO1 q3 hcap hcs HM HJL;by_cases hne:ws=[]
    ·subst hne;have CJ:=Lib.hid (Tryz.strings_Join_none ao cap ⟨#[32]⟩ wr);clear hO1 q3 hcap hcs;go_wp2_with fail;refine CJ.out.mono ?_;rintro e w3 ⟨rfl,rfl⟩;go_wp2_with fail;go_ret2;refine⟨?_,hB1.trans ((hB2.trans (hB.mono (by omega))).mono hsz1)⟩;rw[HM.out];rfl
    ·obtain⟨g,rfl,hg,hcc⟩:=hcs hne;have CJ:=Lib.hid (Tryz.strings_Join g 0 cap ws ⟨#[32]⟩ wr hcc hg (by omega) hcap (by have:=HJL.out;show(Lib.join _ [32]).length≤_;rw[kt.size_len]at this;omega));clear hO1 q3 hcap hcs hne hcc;go_wp2_with fail;refine CJ.out.mono ?_;rintro e w3 ⟨rfl,hB3⟩;go_wp2_with fail;go_ret2;refine⟨?_,hB1.trans ((hB2.trans ((hB.trans (hB3.mono hsz)).mono (by omega))).mono hsz1)⟩;rw[HM.out];rfl
end prw
open Go.RowKit
namespace dnw
open dnp
structure Av where
 t:ByteArray
 v:ByteArray
def Avas (w:World)(ao:Option Addr)(l:List Av):Prop:= ∀i (hi:i<l.length),∃b o,ao=some ⟨b,o,none⟩∧w.cell? ⟨b,o+i*2,none⟩=some (.string l[i].t)∧w.cell? ⟨b,o+i*2+1,none⟩=some (.string l[i].v)
theorem avas_below {w w':World}{ao:Option Addr}{l:List Av}(h:Avas w ao l)(hb:Below w.heap.size w w'):Avas w' ao l:=by intro i hi;obtain⟨b,o,h1,h2,h3⟩:=h i hi;exact⟨b,o,h1,(hb.cell (World.block_lt_of_cell? w _ h2)).trans h2,(hb.cell (World.block_lt_of_cell? w _ h3)).trans h3⟩
def Rdns (w:World)(ao:Option Addr)(n:List (List Av)):Prop:= ∀i (hi:i<n.length),∃b o ao' cap',ao=some ⟨b,o,none⟩∧w.cell? ⟨b,o+i,none⟩=some (.slice ao' n[i].length cap')∧n[i].length≤cap'∧Avas w ao' n[i]
theorem rdns_below {w w':World}{ao:Option Addr}{n:List (List Av)}(h:Rdns w ao n)(hb:Below w.heap.size w w'):Rdns w' ao n:=by intro i hi;obtain⟨b,o,ao',cap',h1,h2,h3,h4⟩:=h i hi;exact⟨b,o,ao',cap',h1,(hb.cell (World.block_lt_of_cell? w _ h2)).trans h2,h3,avas_below h4 hb⟩
def valOK (v:List UInt8):Bool:=decide (v.length≤255)&&match prp.readyO v true with
 | none=>false
 | some t=>decide (t≠[])
theorem valOK_long {v:ByteArray}(h: ¬v.size≤255):false=valOK v.data.toList:=by unfold valOK;rw[decide_eq_false (by rw[kt.size_len];exact h)];rfl
theorem valOK_none {v:ByteArray}(h:prp.readyO v.data.toList true=none):false=valOK v.data.toList:=by unfold valOK;rw[h];simp
theorem valOK_some {v:ByteArray}{t:List UInt8}(hl:v.size≤255)(h:prp.readyO v.data.toList true=some t):decide (t≠[])=valOK v.data.toList:=by
 unfold valOK;have h2:decide (v.data.toList.length≤255)=true:=by rw[decide_eq_true_iff,kt.size_len];exact hl
 rw[h,h2];simp
theorem rightValue_any (s:ByteArray)(w:World)(hs:s.size≤1100000)(hE:Hid (prw.Env w)):Calls Tryz.prog 210 #[.string s] w fun e w'=>e= .returned (.bool (valOK s.data.toList))∧Below w.heap.size w w':=by
 have CR:=prw.ready_any s true w hs hE;by_cases hl:s.size≤255
 ·have hl':(s.size:Int)≤255:=by omega
  cases hr:prp.readyO s.data.toList true with
  | none=>rw[hr]at CR;have HR:=Lib.hid CR;have HN:=Lib.hid (valOK_none hr);clear CR hr;go_enter Tryz.func210,Tryz.ntmps210;go_wp2_with fail;refine HR.out.mono ?_;rintro e w1 ⟨rfl,hB1⟩;unfold prw.pairV;go_wp2_with fail;go_ret;exact⟨kt.ret_bool HN.out,hB1⟩
  | some t=>
   rw[hr,prw.pairV_some]at CR;have HN:=Lib.hid (valOK_some hl hr);obtain⟨ta,hta⟩: ∃ta:ByteArray,ta=⟨t.toArray⟩:=⟨_,rfl⟩;have htd:ta.data.toList=t:=(by rw[hta]);rw[←hta]at CR;have HR:=Lib.hid CR;clear CR hr hta;by_cases ht:t=[]
   ·subst ht;obtain rfl:ta=⟨#[]⟩:=kt.str_eq htd;clear htd;go_enter Tryz.func210,Tryz.ntmps210;go_wp2_with fail;refine HR.out.mono ?_;rintro e w1 ⟨rfl,hB1⟩;go_wp2_with fail;go_ret;exact⟨kt.ret_bool HN.out,hB1⟩
   ·have g1:(ta.toList==[])=false:=(by rw[beq_eq_false_iff_ne,Lib.toList_data,htd];exact ht);have g2: ¬ta.toList=[]:=(by simpa using g1);have HN':Hid (true=valOK s.data.toList):=(by have:=HN.out;rw[decide_eq_true ht]at this;exact this);clear htd ht;go_enter Tryz.func210,Tryz.ntmps210;go_wp2_with fail;refine HR.out.mono ?_;rintro e w1 ⟨rfl,hB1⟩;go_wp2_with fail;go_ret;exact⟨kt.ret_bool HN'.out,hB1⟩
 ·have hl':decide ((s.size:Int)≤255)=false:=by rw[decide_eq_false_iff_not];omega
  have HN:=Lib.hid (valOK_long hl);have pv: ∀o:Option (List UInt8),∃ (t:ByteArray) (er:Int),prw.pairV o= .tuple #[.string t,.int .i64 er]:=fun o=>by cases o<;>exact⟨_,_,rfl⟩
  obtain⟨t1,e1,h1⟩:=pv (prp.readyO s.data.toList true);rw[h1]at CR;have HR:=Lib.hid CR;clear CR h1 pv hl;go_enter Tryz.func210,Tryz.ntmps210;go_wp2_with fail;refine HR.out.mono ?_;rintro e w1 ⟨rfl,hB1⟩;go_wp2_with fail;go_ret;exact⟨kt.ret_bool HN.out,hB1⟩
end dnw
open Go.RowKit
namespace dnw
open dnp
theorem str_beq (a b:ByteArray):(a.toList==b.toList)=decide (a.data.toList=b.data.toList):=by
 rw[Lib.toList_data,Lib.toList_data];by_cases h:a.data.toList=b.data.toList
 ·rw[h];simp
 ·rw[decide_eq_false h,beq_eq_false_iff_ne];exact h
theorem clo_any (x:Av)(p:Nat)(t:ByteArray)(W:World)(hc:W.cell? ⟨p,0,none⟩=some (.string t)):Calls Tryz.prog 209 #[.agg #[.string x.t,.string x.v],.pointer (some ⟨p,0,none⟩)] W fun e w'=>e= .returned (.bool (decide (x.t.data.toList=t.data.toList)))∧Below W.heap.size W w':=by have hlt:p<W.heap.size:=World.block_lt_of_cell? W _ hc;have hc1:(W.alloc (.cells #[.string x.t,.string x.v] 51)).cell? ⟨p,0,none⟩=some (.string t):=(((Below.refl _ W).alloc (Nat.le_refl _) _).cell (p:=⟨p,0,none⟩) hlt).trans hc;have hb:=str_beq x.t t;go_enter Tryz.func209,Tryz.ntmps209;go_wp2_with fail;go_ret;exact⟨kt.ret_bool (by simp only[Array.toList_inj]),(Below.refl _ _).alloc (Nat.le_refl _) _⟩
def Has (l:List Av)(k:Nat)(t:ByteArray):Prop:= ∃i,∃hi:i<l.length,i<k∧l[i].t.data.toList=t.data.toList
def IxE (l:List Av)(k:Nat)(t:ByteArray)(w:World)(e:Ending)(w':World):Prop:= ∃r:Int,e= .returned (.int .i64 r)∧(0≤r↔Has l k t)∧Below w.heap.size w w'
theorem index_any (ao:Option Addr)(k cap p:Nat)(l:List Av)(t:ByteArray)(w:World)(hA:Hid (Avas w ao l))(hk:k≤l.length)(hkb:k≤1000)(hp:w.cell? ⟨p,0,none⟩=some (.string t)):
  Calls Tryz.prog 265 #[.slice ao k cap,.func (.func 209) #[] #[.pointer (some ⟨p,0,none⟩)]] w fun e w'=>IxE l k t w e w':=by
 have HP:=Lib.hid hp;have hlt:p<w.heap.size:=World.block_lt_of_cell? w _ hp;clear hp;go_enter Tryz.func265,Tryz.ntmps265;go_wp2_with fail;go_loopw [5,8] (fun _ iv wr=> ∃i:Nat,i≤k∧iv= .int .i64 (i:Int)∧Hid (¬Has l i t)∧Below w.heap.size w wr) (fun _ iv _=>k- (intOf iv).toNat);case atStart=>exact⟨0,Nat.zero_le _,rfl,fun⟨_,_,h,_⟩=>by omega,Below.refl _ _⟩
 case round=>
  obtain⟨i,hi,rfl,hN,hB⟩:=hrel;have hsz:=hB.size;by_cases hlt2:i<k
  ·have hlt':(i:Int)<(k:Int):=(by omega);have hil:i<l.length:=(by omega);obtain⟨b,o,hao,hc0,hc1⟩:=(avas_below hA.out hB) i hil;subst hao;have hpc:=(hB.cell (p:=⟨p,0,none⟩) hlt).trans HP.out;have CC:=clo_any l[i] p t wr hpc;by_cases he:l[i].t.data.toList=t.data.toList
   ·have HH:Hid (0≤(i:Int)↔Has l k t):=⟨fun _=>⟨i,hil,hlt2,he⟩,fun _=>by omega⟩;rw[decide_eq_true he]at CC;have HC:=Lib.hid CC;generalize l[i]=x at hc0 hc1 HC;clear CC he hpc;go_wp2_with fail;refine HC.out.mono ?_;rintro e w2 ⟨rfl,hB2⟩;go_wp2_with fail;go_ret;exact⟨(i:Int),rfl,HH.out,hB.trans (hB2.mono hsz)⟩
   ·have HN2:Hid (¬Has l (i+1) t):=by
     rintro⟨j,hj,h1,h2⟩;by_cases e:j=i
     ·subst e;exact he h2
     ·exact hN.out ⟨j,hj,by omega,h2⟩
    rw[decide_eq_false he]at CC;have HC:=Lib.hid CC;generalize l[i]=x at hc0 hc1 HC;clear CC he hpc;go_wp2_with fail;refine HC.out.mono ?_;rintro e w2 ⟨rfl,hB2⟩;go_wp2_with fail;go_roundw;case rel=>exact⟨i+1,by omega,by go_num,HN2,hB.trans (hB2.mono hsz)⟩
    case measure=>simp[intOf];omega
  ·obtain rfl:i=k:=(by omega);go_wp2_with fail;go_ret;exact⟨-1,rfl,⟨fun h=>by omega,fun h=>absurd h hN.out⟩,hB⟩
def hasB (l:List Av)(k:Nat)(t:ByteArray):Bool:=(l.take k).any fun x=>decide (x.t.data.toList=t.data.toList)
theorem hasB_iff (l:List Av)(k:Nat)(t:ByteArray):hasB l k t=true↔Has l k t:=by
 unfold hasB Has;rw[List.any_eq_true];constructor
 ·rintro⟨x,hx,h⟩;obtain⟨i,hi,rfl⟩:=List.mem_iff_getElem.1 hx;rw[List.length_take]at hi;rw[List.getElem_take]at h;exact⟨i,by omega,by omega,by simpa using h⟩
 ·rintro⟨i,hi,h1,h2⟩;refine⟨l[i],?_,by simpa using h2⟩;rw[List.mem_iff_getElem];exact⟨i,by rw[List.length_take];omega,by rw[List.getElem_take]⟩
theorem contains_any (ao:Option Addr)(k cap p:Nat)(l:List Av)(t:ByteArray)(w:World)(hA:Hid (Avas w ao l))(hk:k≤l.length)(hkb:k≤1000)(hp:w.cell? ⟨p,0,none⟩=some (.string t)):
  Calls Tryz.prog 208 #[.slice ao k cap,.func (.func 209) #[] #[.pointer (some ⟨p,0,none⟩)]] w fun e w'=>e= .returned (.bool (hasB l k t))∧Below w.heap.size w w':=by
 have CI:=Lib.hid (index_any ao k cap p l t w hA hk hkb hp);have hI:=hasB_iff l k t;clear hp;by_cases hH:hasB l k t=true
 ·have HH:=Lib.hid (hI.1 hH);rw[hH];clear hI hH;go_enter Tryz.func208,Tryz.ntmps208;go_wp2_with fail;refine CI.out.mono ?_;rintro e w1 ⟨r,rfl,h1,hB1⟩;have h2:0≤r:=h1.2 HH.out;clear h1;go_wp2_with fail;go_ret;exact⟨kt.ret_bool (by first | rfl | exact decide_eq_true h2),hB1⟩
 ·have HH:=Lib.hid (fun h=>hH (hI.2 h));have hH':hasB l k t=false:=by simpa using hH
  rw[hH'];clear hI hH hH';go_enter Tryz.func208,Tryz.ntmps208;go_wp2_with fail;refine CI.out.mono ?_;rintro e w1 ⟨r,rfl,h1,hB1⟩;have h2: ¬0≤r:=fun h=>HH.out (h1.1 h);clear h1;go_wp2_with fail;go_ret;exact⟨kt.ret_bool (by simpa using h2),hB1⟩
def pairB (l:List Av)(i:Nat)(x:Av):Bool:= !hasB l i x.t&&typeOK x.t.data.toList&&valOK x.v.data.toList
def rdnOK (l:List Av):Bool:=decide (1≤l.length)&&decide (l.length≤4)&&(List.range l.length).all fun i=>match l[i]? with
 | none=>false
 | some x=>pairB l i x
theorem rdnOK_len {l:List Av}(h:l.length<1∨4<l.length):false=rdnOK l:=by
 unfold rdnOK;rcases h with h | h
 ·rw[decide_eq_false (by omega: ¬1≤l.length)];rfl
 ·rw[decide_eq_false (by omega: ¬l.length≤4)];simp
theorem rdnOK_no {l:List Av}{i:Nat}(hi:i<l.length)(h:pairB l i l[i]=false):false=rdnOK l:=by symm;unfold rdnOK;rw[Bool.and_eq_false_iff];right;rw[Bool.eq_false_iff];intro e;have:=List.all_eq_true.1 e i (List.mem_range.2 hi);rw[List.getElem?_eq_getElem hi]at this;simp only[]at this;rw[h]at this;cases this
theorem rdnOK_yes {l:List Av}(h1:1≤l.length)(h4:l.length≤4)(h: ∀i (hi:i<l.length),pairB l i l[i]=true):true=rdnOK l:=by symm;unfold rdnOK;rw[decide_eq_true h1,decide_eq_true h4];simp only[Bool.true_and];rw[List.all_eq_true];intro i hi;have hi':=List.mem_range.1 hi;rw[List.getElem?_eq_getElem hi'];exact h i hi'
def Smalls (l:List Av):Prop:= ∀x∈l,x.t.size≤100000∧x.v.size≤1100000
theorem rightRdn_any (ao:Option Addr)(cap:Nat)(l:List Av)(w:World)(hA:Hid (Avas w ao l))(hE:Hid (prw.Env w))(hS:Hid (l.length≤4→Smalls l))(hlc:l.length≤cap):
  Calls Tryz.prog 163 #[.slice ao l.length cap] w fun e w'=>e= .returned (.bool (rdnOK l))∧Below w.heap.size w w':=by
 by_cases h1:l.length<1
 ·have h1':(l.length:Int)<1:=by omega
  have HN:=Lib.hid (rdnOK_len (l:=l) (Or.inl h1));go_enter Tryz.func163,Tryz.ntmps163;go_wp2_with fail;go_ret;exact⟨kt.ret_bool HN.out,Below.refl _ _⟩
 ·have h1': ¬ (l.length:Int)<1:=by omega
  by_cases h4:4<l.length
  ·have h4':4<(l.length:Int):=(by omega);have HN:=Lib.hid (rdnOK_len (l:=l) (Or.inr h4));go_enter Tryz.func163,Tryz.ntmps163;go_wp2_with fail;go_ret;exact⟨kt.ret_bool HN.out,Below.refl _ _⟩
  ·have h4': ¬4<(l.length:Int):=(by omega);have HSm:=Lib.hid (hS.out (by omega));have h1n:1≤l.length:=(by omega);have h4n:l.length≤4:=(by omega);go_enter Tryz.func163,Tryz.ntmps163;go_wp2_with fail;go_loopw [3,4,5,16] (fun _ _ _ iv wr=> ∃i:Nat,i≤l.length∧iv= .int .i64 (i:Int)∧Hid (∀j (hj:j<l.length),j<i→pairB l j l[j]=true)∧Below w.heap.size w wr) (fun _ _ _ iv _=>l.length- (intOf iv).toNat);case atStart=>exact⟨0,Nat.zero_le _,rfl,fun j _ h=>by omega,Below.refl _ _⟩
   case round=>
    obtain⟨i,hi,rfl,hP,hB⟩:=hrel;have hsz:=hB.size;by_cases hlt:i<l.length
    ·have hlt':(i:Int)<(l.length:Int):=(by omega);obtain⟨b,o,hao,hc0,hc1⟩:=(avas_below hA.out hB) i hlt;obtain⟨hts,hvs⟩:=HSm.out l[i] (by simp);have hpn:=fun h=>rdnOK_no (l:=l) hlt h;have hpy:pairB l i l[i]=true→ ∀j (hj:j<l.length),j<i+1→pairB l j l[j]=true:=by
      intro h j hj hji;by_cases e:j=i
      ·subst e;exact h
      ·exact hP.out j hj (by omega)
     have hBA: ∀x:Av,Below w.heap.size w (wr.alloc (.cells #[.string x.t,.string x.v] 51)):=fun x=>hB.alloc hsz _;have CC: ∀x:Av,Calls Tryz.prog 208 #[.slice ao i cap,.func (.func 209) #[] #[.pointer (some ⟨wr.heap.size,0,none⟩)]] (wr.alloc (.cells #[.string x.t,.string x.v] 51)) fun e w'=>e= .returned (.bool (hasB l i x.t))∧Below (wr.alloc (.cells #[.string x.t,.string x.v] 51)).heap.size (wr.alloc (.cells #[.string x.t,.string x.v] 51)) w':=
      fun x=>contains_any ao i cap wr.heap.size l x.t _ (Lib.hid (avas_below hA.out (hBA x))) hi (by omega) (by rw[World.cell?_alloc_new];rfl)
     subst hao;have hx:pairB l i l[i]=(!hasB l i l[i].t&&typeOK l[i].t.data.toList&&valOK l[i].v.data.toList):=rfl;have CC1:=CC l[i];have hBA1:=Lib.hid (hBA l[i]);generalize l[i]=x at hc0 hc1 hts hvs hpn hpy CC1 hx hBA1;have HTy:Hid (∀W,Calls Tryz.prog 204 #[.string x.t] W fun e w'=>e= .returned (.bool (typeOK x.t.data.toList))∧W=w'):=fun W=>rightType_any x.t W hts;have HVa:Hid (∀W,Hid (prw.Env W)→Calls Tryz.prog 210 #[.string x.v] W fun e w'=>e= .returned (.bool (valOK x.v.data.toList))∧Below W.heap.size W w'):=fun W h=>rightValue_any x.v W hvs h;generalize hasB l i x.t=b1 at CC1 hx;generalize typeOK x.t.data.toList=b2 at HTy hx;generalize valOK x.v.data.toList=b3 at HVa hx;have HC:=Lib.hid CC1;clear CC CC1 hBA;go_wp2_with fail;refine HC.out.mono ?_;rintro e w2 ⟨rfl,hC2⟩;have hnb:wr.heap.size<(wr.alloc (.cells #[.string x.t,.string x.v] 51)).heap.size:=(by simp);have y0:w2.cell? ⟨wr.heap.size,0,none⟩=some (.string x.t):=(hC2.cell (p:=⟨wr.heap.size,0,none⟩) hnb).trans (by rw[World.cell?_alloc_new];rfl);have y1:w2.cell? ⟨wr.heap.size,1,none⟩=some (.string x.v):=(hC2.cell (p:=⟨wr.heap.size,1,none⟩) hnb).trans (by rw[World.cell?_alloc_new];rfl);have hB2:=hBA1.out.trans (hC2.mono hBA1.out.size);have HE2:=Lib.hid (prw.env_below hE.out hB2);have hsz2:=hB2.size;clear hc0 hc1 hC2 hnb HC;cases b1 with
     | true=>have HN:=Lib.hid (hpn (by rw[hx];rfl));clear hpn hpy hx;go_wp2_with fail;go_ret;exact⟨kt.ret_bool HN.out,hB2⟩
     | false=>
      cases b2 with
      | false=>have HN:=Lib.hid (hpn (by rw[hx];rfl));clear hpn hpy hx;go_wp2_with fail;refine(HTy.out _).mono ?_;rintro e w3 ⟨rfl,rfl⟩;go_wp2_with fail;go_ret;exact⟨kt.ret_bool HN.out,hB2⟩
      | true=>
       have HV2:=Lib.hid (HVa.out w2 HE2);cases b3 with
       | false=>have HN:=Lib.hid (hpn (by rw[hx];rfl));clear hpn hpy hx;go_wp2_with fail;refine(HTy.out _).mono ?_;rintro e w3 ⟨rfl,rfl⟩;go_wp2_with fail;refine HV2.out.mono ?_;rintro e w4 ⟨rfl,hB4⟩;go_wp2_with fail;go_ret;exact⟨kt.ret_bool HN.out,hB2.trans (hB4.mono hsz2)⟩
       | true=>
        have HY:=Lib.hid (hpy (by rw[hx];rfl));clear hpn hpy hx;go_wp2_with fail;refine(HTy.out _).mono ?_;rintro e w3 ⟨rfl,rfl⟩;go_wp2_with fail;refine HV2.out.mono ?_;rintro e w4 ⟨rfl,hB4⟩;go_wp2_with fail;go_roundw;case rel=>exact⟨i+1,by omega,by go_num,HY,hB2.trans (hB4.mono hsz2)⟩
        case measure=>simp[intOf];omega
    ·obtain rfl:i=l.length:=(by omega);have HN:=Lib.hid (rdnOK_yes (l:=l) (by omega) (by omega) (fun j hj=>hP.out j hj hj));go_wp2_with fail;go_ret;exact⟨kt.ret_bool HN.out,hB⟩
end dnw
open Go.RowKit
namespace dnw
open dnp
def nameOK (n:List (List Av)):Bool:=decide (n.length≤12)&&n.all rdnOK
theorem nameOK_len {n:List (List Av)}(h:12<n.length):false=nameOK n:=by unfold nameOK;rw[decide_eq_false (by omega: ¬n.length≤12)];rfl
theorem nameOK_no {n:List (List Av)}{i:Nat}(hi:i<n.length)(h:rdnOK n[i]=false):false=nameOK n:=by symm;unfold nameOK;rw[Bool.and_eq_false_iff];right;rw[Bool.eq_false_iff];intro e;have:=List.all_eq_true.1 e n[i] (List.getElem_mem hi);rw[h]at this;cases this
theorem nameOK_all {n:List (List Av)}(h: ∀i (hi:i<n.length),rdnOK n[i]=true):decide (n.length≤12)=nameOK n:=by
 unfold nameOK;have:n.all rdnOK=true:=by rw[List.all_eq_true];intro l hl;obtain⟨i,hi,rfl⟩:=List.mem_iff_getElem.1 hl;exact h i hi
 rw[this,Bool.and_true]
theorem right_any (ao:Option Addr)(cap:Nat)(n:List (List Av))(w:World)(hA:Hid (Rdns w ao n))(hE:Hid (prw.Env w))(hS:Hid (∀l∈n,l.length≤4→Smalls l)):
  Calls Tryz.prog 97 #[.slice ao n.length cap] w fun e w'=>e= .returned (.bool (nameOK n))∧Below w.heap.size w w':=by
 by_cases h12:12<n.length
 ·have h12':12<(n.length:Int):=by omega
  have HN:=Lib.hid (nameOK_len h12);go_enter Tryz.func97,Tryz.ntmps97;go_wp2_with fail;go_ret;exact⟨kt.ret_bool HN.out,Below.refl _ _⟩
 ·have h12': ¬12<(n.length:Int):=by omega
  have hn12:n.length≤12:=by omega
  go_enter Tryz.func97,Tryz.ntmps97;go_wp2_with fail;go_loopw [4,10] (fun _ iv wr=> ∃i:Nat,i≤n.length∧iv= .int .i64 (i:Int)∧Hid (∀j (hj:j<n.length),j<i→rdnOK n[j]=true)∧Below w.heap.size w wr) (fun _ iv _=>n.length- (intOf iv).toNat);case atStart=>exact⟨0,Nat.zero_le _,rfl,fun j _ h=>by omega,Below.refl _ _⟩
  case round=>
   obtain⟨i,hi,rfl,hP,hB⟩:=hrel;have hsz:=hB.size;by_cases hlt:i<n.length
   ·have hlt':(i:Int)<(n.length:Int):=(by omega);obtain⟨b,o,ao',cap',hao,hc0,hcc,hAv⟩:=(rdns_below hA.out hB) i hlt;subst hao;have hSm:=hS.out n[i] (List.getElem_mem hlt);have hpn:=fun h=>nameOK_no (n:=n) hlt h;have hpy:rdnOK n[i]=true→ ∀j (hj:j<n.length),j<i+1→rdnOK n[j]=true:=by
     intro h j hj hji;by_cases e:j=i
     ·subst e;exact h
     ·exact hP.out j hj (by omega)
    have CR:=rightRdn_any ao' cap' n[i] wr (Lib.hid hAv) (Lib.hid (prw.env_below hE.out hB)) (Lib.hid hSm) hcc;generalize n[i]=l at hc0 hpn hpy CR;generalize hm:l.length=m at hc0 CR;cases hr:rdnOK l with
    | false=>rw[hr]at CR;have HN:=Lib.hid (hpn hr);have HC:=Lib.hid CR;clear CR hpn hpy hr hm hAv hSm hcc;go_wp2_with fail;refine HC.out.mono ?_;rintro e w2 ⟨rfl,hB2⟩;go_wp2_with fail;go_ret;exact⟨kt.ret_bool HN.out,hB.trans (hB2.mono hsz)⟩
    | true=>
     rw[hr]at CR;have HY:=Lib.hid (hpy hr);have HC:=Lib.hid CR;clear CR hpn hpy hr hm hAv hSm hcc;go_wp2_with fail;refine HC.out.mono ?_;rintro e w2 ⟨rfl,hB2⟩;go_wp2_with fail;go_roundw;case rel=>exact⟨i+1,by omega,by go_num,HY,hB.trans (hB2.mono hsz)⟩
     case measure=>simp[intOf];omega
   ·obtain rfl:i=n.length:=(by omega);have HN:=Lib.hid ((decide_eq_true hn12).symm.trans (nameOK_all (n:=n) (fun j hj=>hP.out j hj hj)));go_wp2_with fail;go_ret;exact⟨kt.ret_bool HN.out,hB⟩
end dnw
open Go.RowKit
namespace dnw
def acell (x:Av):List Value:=[.string x.t,.string x.v]
def acells (l:List Av):List Value:=l.flatMap acell
theorem acells_append (a b:List Av):acells (a++b)=acells a++acells b:=List.flatMap_append ..
theorem infoAva:(Tryz.prog.info? 51).map (fun i=>(i.zero,i.size,i.bytes))=some (some (.agg #[.string ByteArray.empty,.string ByteArray.empty]),2,32):=by kernel_rfl
theorem infoRow:(Tryz.prog.info? 23).map (fun i=>(i.zero,i.size,i.bytes))=some (some (.slice none 0 0),1,24):=by kernel_rfl
def OwnA (w:World)(B:Nat)(v:Value)(l:List Av):Prop:=kt.SegX w B 51 2 v l.length (acells l)
theorem ownA_nil (w:World)(B:Nat):OwnA w B (.slice none 0 0) []:=kt.segX_nil _ _ _ _
theorem ownA_same {w w':World}{B:Nat}{v:Value}{l:List Av}(h:OwnA w B v l)(hb: ∀k,v.ownBlock=some k→w'.heap[k]? =w.heap[k]?):OwnA w' B v l:=kt.segX_same h hb
theorem ownA_lt {w:World}{B:Nat}{v:Value}{l:List Av}(h:OwnA w B v l): ∀k,v.ownBlock=some k→B≤k∧k<w.heap.size:=kt.segX_lt h
theorem ownA_form {w:World}{B:Nat}{v:Value}{l:List Av}(h:OwnA w B v l): ∃ao cap,v= .slice ao l.length cap∧l.length≤cap:=kt.segX_slice h
theorem ownA_avas {w:World}{B cap:Nat}{ao:Option Addr}{l:List Av}(h:OwnA w B (.slice ao l.length cap) l):Avas w ao l:=by
 intro i hi;obtain⟨g,o,cap',hv,_,_,hc⟩:=kt.segX_cell h (by omega);simp only[Value.slice.injEq]at hv;obtain⟨rfl,_,_⟩:=hv;have h0:=kt.flat_get acell 2 (fun _=>rfl) l i 0 hi (by omega);have h1:=kt.flat_get acell 2 (fun _=>rfl) l i 1 hi (by omega);refine⟨g,o,rfl,?_,?_⟩
 ·exact hc _ _ h0
 ·rw[Nat.add_assoc];exact hc _ _ h1
structure Nest (w:World)(B:Nat)(vn vl:Value)(ns:List (List Av))(cur:List Av)(vals:List Value):Prop where
 outer:kt.SegX w B 23 1 vn vals.length vals
 len:vals.length=ns.length
 inner: ∀j (h:j<vals.length) (h':j<ns.length),OwnA w B vals[j] ns[j]∧ ∀k,vals[j].ownBlock=some k→vn.ownBlock≠some k∧vl.ownBlock≠some k
 cur:OwnA w B vl cur
 apart: ∀k,vl.ownBlock=some k→vn.ownBlock≠some k
theorem nest_nil (w:World)(B:Nat):Nest w B (.slice none 0 0) (.slice none 0 0) [] [] []:=⟨kt.segX_nil _ _ _ _,rfl,fun j h _=>by simp at h,ownA_nil _ _,fun k h=>by simp[Value.ownBlock]at h⟩
theorem nest_same {w w':World}{B:Nat}{vn vl:Value}{ns:List (List Av)}{cur:List Av}{vals:List Value}(h:Nest w B vn vl ns cur vals)(hb: ∀k,B≤k→k<w.heap.size→w'.heap[k]? =w.heap[k]?):Nest w' B vn vl ns cur vals:=by
 refine⟨kt.segX_same h.outer fun k hk=> ?_,h.len,fun j h1 h2=>⟨ownA_same (h.inner j h1 h2).1 fun k hk=> ?_,(h.inner j h1 h2).2⟩,ownA_same h.cur fun k hk=> ?_,h.apart⟩
 ·have:=kt.segX_lt h.outer k hk;exact hb k this.1 this.2
 ·have:=ownA_lt (h.inner j h1 h2).1 k hk;exact hb k this.1 this.2
 ·have:=ownA_lt h.cur k hk;exact hb k this.1 this.2
theorem nest_gr {w w':World}{B b:Nat}{vn vl:Value}{ns:List (List Av)}{cur:List Av}{vals:List Value}(h:Nest w B vn vl ns cur vals)(hb:b<B)(hg:w.grownBy w' (some b)):Nest w' B vn vl ns cur vals:=nest_same h fun k hk hlt=>hg.block k hlt (by intro e;cases e;omega)
theorem nest_below {w w':World}{B:Nat}{vn vl:Value}{ns:List (List Av)}{cur:List Av}{vals:List Value}(h:Nest w B vn vl ns cur vals)(hb:Below w.heap.size w w'):Nest w' B vn vl ns cur vals:=nest_same h fun k _ hlt=>hb.block k hlt
theorem below_of_gr {w w1:World}{B:Nat}{v:Value}(hg:w.grownBy w1 v.ownBlock)(hB:B≤w.heap.size)(hv: ∀k,v.ownBlock=some k→B≤k):Below B w w1:=(Below.refl B w).grown hg hB hv
theorem nest_app {w:World}{B:Nat}{vn vl:Value}{ns:List (List Av)}{cur:List Av}{vals:List Value}(x:Av)(h:Nest w B vn vl ns cur vals)(hl:cur.length≤1100000)(hB:B≤w.heap.size):
  ∃vl' w1,(Builtin.append_ #[23,23] 23 #[vl,.slice (some ⟨w.heap.size,0,none⟩) 1 1]).run Tryz.prog (w.alloc (.cells #[.string x.t,.string x.v] 51))= .ok vl' w1∧Nest w1 B vn vl' ns (cur++[x]) vals∧Below B w w1:=by
 have hn:=nest_below h (w':=w.alloc (.cells #[.string x.t,.string x.v] 51)) ((Below.refl _ _).alloc (Nat.le_refl _) _);obtain⟨vl',w1,h1,h2,h3,h4⟩:=kt.segX_append (P:=Tryz.prog) (t:=23) (ty:=23) Tryz.underlying23 infoAva rfl (by omega) ⟨w.heap.size,0,none⟩ 1 1 (acell x) rfl (fun j u hj=>by rw[kt.addr_add,World.cell?_alloc_new];simpa[acell]using hj) (by intro u hu;simp[acell]at hu;rcases hu with rfl | rfl<;>rfl) hn.cur (by unfold maxLen;omega) (by omega) (by simp;omega);have hne: ∀ (v:Value),(∀k,v.ownBlock=some k→vl.ownBlock≠some k)→ ∀k,v.ownBlock=some k→k<(w.alloc (.cells #[.string x.t,.string x.v] 51)).heap.size→w1.heap[k]? =(w.alloc (.cells #[.string x.t,.string x.v] 51)).heap[k]? :=by intro v hv k hk hlt;exact h3.block k hlt (fun e=>hv k hk e.symm)
 have hnew: ∀k,k<(w.alloc (.cells #[.string x.t,.string x.v] 51)).heap.size→vl.ownBlock≠some k→vl'.ownBlock≠some k:=by
  intro k hlt hk e;rcases h4 k e with e2 | e2
  ·exact hk e2
  ·omega
 refine⟨vl',w1,h1,⟨kt.segX_same hn.outer fun k hk=> ?_,hn.len,fun j a b=> ?_,?_,?_⟩,?_⟩
 ·have hlt:=(kt.segX_lt hn.outer k hk).2;exact hne vn (fun k hk e=>hn.apart k e hk) k hk hlt
 ·obtain⟨i1,i2⟩:=hn.inner j a b;refine⟨ownA_same i1 fun k hk=>hne _ (fun k hk=>(i2 k hk).2) k hk (ownA_lt i1 k hk).2,fun k hk=>⟨(i2 k hk).1,hnew k (ownA_lt i1 k hk).2 (i2 k hk).2⟩⟩
 ·unfold OwnA;rw[List.length_append,acells_append];have e:acells [x]=acell x:=by simp[acells]
  rw[e];exact h2
 ·intro k hk e;have hlt:=(kt.segX_lt hn.outer k e).2;exact hnew k hlt (fun e2=>hn.apart k e2 e) hk
 ·refine((Below.refl B w).alloc hB _).trans (below_of_gr h3 (by simp;omega) (fun k hk=>(ownA_lt hn.cur k hk).1))
theorem nest_push {w:World}{B:Nat}{vn vl:Value}{ns:List (List Av)}{cur:List Av}{vals:List Value}(h:Nest w B vn vl ns cur vals)(hl:vals.length≤1100000)(hB:B≤w.heap.size):
  ∃vn' w1,(Builtin.append_ #[55,55] 55 #[vn,.slice (some ⟨w.heap.size,0,none⟩) 1 1]).run Tryz.prog (w.alloc (.cells #[vl] 23))= .ok vn' w1∧Nest w1 B vn' (.slice none 0 0) (ns++[cur]) [] (vals++[vl])∧Below B w w1:=by
 have hn:=nest_below h (w':=w.alloc (.cells #[vl] 23)) ((Below.refl _ _).alloc (Nat.le_refl _) _);obtain⟨ao,cap,hvl,_⟩:=ownA_form h.cur;obtain⟨vn',w1,h1,h2,h3,h4⟩:=kt.segX_append (P:=Tryz.prog) (t:=55) (ty:=55) Tryz.underlying55 infoRow rfl (by omega) ⟨w.heap.size,0,none⟩ 1 1 [vl] rfl (fun j u hj=>by rw[kt.addr_add,World.cell?_alloc_new];simpa using hj) (by intro u hu;simp at hu;subst hu;rw[hvl];rfl) hn.outer (by unfold maxLen;omega) (by omega) (by simp;omega);have hne: ∀ (v:Value),(∀k,v.ownBlock=some k→vn.ownBlock≠some k)→ ∀k,v.ownBlock=some k→k<(w.alloc (.cells #[vl] 23)).heap.size→w1.heap[k]? =(w.alloc (.cells #[vl] 23)).heap[k]? :=by intro v hv k hk hlt;exact h3.block k hlt (fun e=>hv k hk e.symm)
 have hnew: ∀k,k<(w.alloc (.cells #[vl] 23)).heap.size→vn.ownBlock≠some k→vn'.ownBlock≠some k:=by
  intro k hlt hk e;rcases h4 k e with e2 | e2
  ·exact hk e2
  ·omega
 have hnil: ∀k,(Value.slice none 0 0).ownBlock≠some k:=fun k e=>by simp[Value.ownBlock]at e
 refine⟨vn',w1,h1,⟨?_,by simp[h.len],fun j a b=> ?_,ownA_nil _ _,fun k hk=>absurd hk (hnil k)⟩,?_⟩
 ·rw[List.length_append];exact h2
 ·by_cases e:j<vals.length
  ·rw[List.getElem_append_left e,List.getElem_append_left (by rw[←h.len];exact e)];obtain⟨i1,i2⟩:=hn.inner j e (by rw[←h.len];exact e);exact⟨ownA_same i1 fun k hk=>hne _ (fun k hk=>(i2 k hk).1) k hk (ownA_lt i1 k hk).2,fun k hk=>⟨hnew k (ownA_lt i1 k hk).2 (i2 k hk).1,hnil k⟩⟩
  ·have ej:j=vals.length:=(by simp at a;omega);subst ej;rw[List.getElem_append_right (Nat.le_refl _),List.getElem_append_right (by rw[h.len];exact Nat.le_refl _)];simp only[Nat.sub_self,h.len,List.getElem_cons_zero];exact⟨ownA_same hn.cur fun k hk=>hne _ hn.apart k hk (ownA_lt hn.cur k hk).2,fun k hk=>⟨hnew k (ownA_lt hn.cur k hk).2 (hn.apart k hk),hnil k⟩⟩
 ·refine((Below.refl B w).alloc hB _).trans (below_of_gr h3 (by simp;omega) (fun k hk=>(kt.segX_lt hn.outer k hk).1))
theorem nest_form {w:World}{B:Nat}{vn vl:Value}{ns:List (List Av)}{cur:List Av}{vals:List Value}(h:Nest w B vn vl ns cur vals):(∃ao cap,vn= .slice ao ns.length cap∧ns.length≤cap)∧(∃ao cap,vl= .slice ao cur.length cap∧cur.length≤cap):=by refine⟨?_,ownA_form h.cur⟩;have:=kt.segX_slice h.outer;rw[h.len]at this;exact this
theorem nest_rdns {w:World}{B cap:Nat}{ao:Option Addr}{vl:Value}{ns:List (List Av)}{cur:List Av}{vals:List Value}(h:Nest w B (.slice ao ns.length cap) vl ns cur vals):Rdns w ao ns:=by
 intro i hi;have hi':i<vals.length:=by rw[h.len];exact hi
 obtain⟨g,o,cap',hv,_,_,hc⟩:=kt.segX_cell h.outer (by omega);simp only[Value.slice.injEq]at hv;obtain⟨rfl,_,_⟩:=hv;obtain⟨i1,_⟩:=h.inner i hi' hi;obtain⟨ao',cap2,hf,hcap⟩:=ownA_form i1;rw[hf]at i1;refine⟨g,o,ao',cap2,rfl,?_,hcap,ownA_avas i1⟩;rw[←hf];exact hc i vals[i] (List.getElem?_eq_getElem hi')
end dnw
namespace dnw
open dnp
def av (p:Pr):Av:=⟨⟨p.1.toArray⟩,⟨p.2.toArray⟩⟩
def grpA (cur:List Av):List (UInt8 × Pr)→List (List Av)
 | []=>[cur]
 | (c,p)::r=>if c=43 then grpA (cur++[av p]) r else cur::grpA [av p] r
def P (l:List UInt8):Option (Pr × List (UInt8 × Pr)):=PF (l.length+1) l
theorem P_step (l:List UInt8):P l=(kindP l).bind fun k=>(valueP k.2).bind fun v=>match v.2 with
  | []=>some ((k.1,v.1),[])
  | c::r=>(P r).map fun p=>((k.1,v.1),(c,p.1)::p.2):=by
 unfold P;rw[PF];cases hk:kindP l with
 | none=>rfl
 | some k=>
  simp only[Option.bind_some];cases hv:valueP k.2 with
  | none=>rfl
  | some v=>
   simp only[Option.bind_some];cases hr:v.2 with
   | nil=>rfl
   | cons c r=>
    simp only[]
    -- the rest is shorter
    have hlen:r.length<l.length:=by
     obtain⟨t,rr⟩:=k;obtain⟨x,T,y,rfl,_,_,_,_⟩:=kindP_some hk;have h1:(c::r).length≤rr.length:=by
      unfold valueP at hv;split at hv
      ·cases hv
      ·obtain⟨q,hq,hq2⟩:=Option.map_eq_some_iff.1 hv;rw[←hq2]at hr;simp only at hr;obtain⟨a,ha,_⟩:=dropW_split (fun c:UInt8=>decide (c=32)) rr;have h2:(rr.dropWhile fun c=>decide (c=32)).length≤rr.length:=(by have:=congrArg List.length ha;rw[List.length_append]at this;omega);rcases scan_signs _ (rr.dropWhile fun c=>decide (c=32)) (Nat.le_refl _)with⟨e1,_⟩ | ⟨B,e1,_⟩ | ⟨B,c',r',e1,_,e3,_⟩
       ·rw[e1]at hq;cases hq
       ·rw[e1]at hq;cases hq;cases hr
       ·rw[e1]at hq;cases hq;cases hr;simp only[List.length_cons];omega
     simp only[List.length_append,List.length_cons]at h1 ⊢;omega
    rw[P_eq_R _ r (by omega),P_eq_R _ r (by omega)]
def GP (ns:List (List Av))(cur:List Av)(l:List UInt8):Option (List (List Av)):=(P l).map fun q=>ns++grpA (cur++[av q.1]) q.2
theorem GP_kind {ns:List (List Av)}{cur:List Av}{l:List UInt8}(h:kindP l=none):GP ns cur l=none:=by unfold GP;rw[P_step,h];rfl
theorem GP_value {ns:List (List Av)}{cur:List Av}{l t r:List UInt8}(h:kindP l=some (t,r))(h2:valueP r=none):GP ns cur l=none:=by unfold GP;rw[P_step,h];simp only[Option.bind_some];rw[h2];rfl
theorem GP_end {ns:List (List Av)}{cur:List Av}{l t r v:List UInt8}(h:kindP l=some (t,r))(h2:valueP r=some (v,[])):GP ns cur l=some (ns++[cur++[av (t,v)]]):=by unfold GP;rw[P_step,h];simp only[Option.bind_some];rw[h2];rfl
theorem GP_plus {ns:List (List Av)}{cur:List Av}{l t r v u:List UInt8}(h:kindP l=some (t,r))(h2:valueP r=some (v,43::u)):GP ns cur l=GP ns (cur++[av (t,v)]) u:=by unfold GP;rw[P_step,h];simp only[Option.bind_some];rw[h2];simp only[Option.bind_some,Option.map_map];congr 1
theorem GP_next {ns:List (List Av)}{cur:List Av}{l t r v u:List UInt8}{c:UInt8}(h:kindP l=some (t,r))(h2:valueP r=some (v,c::u))(hc:c≠43):GP ns cur l=GP (ns++[cur++[av (t,v)]]) [] u:=by unfold GP;rw[P_step,h];simp only[Option.bind_some];rw[h2];simp only[Option.bind_some,Option.map_map];congr 1;funext q;simp only[Function.comp];rw[grpA,if_neg hc];first | done | simp
theorem scan_len: ∀ (n:Nat) (l:List UInt8) (B:List Sg) (r:List UInt8),l.length≤n→scan l=some (B,r)→B.length≤l.length
 | n,[],B,r,_,h=>by rw[scan_nil]at h;cases h;exact Nat.le_refl _
 | 0,_::_,_,_,h,_=>by simp at h
 | n+1,c::t,B,r,hn,h=>by
  simp only[List.length_cons]at hn;by_cases hs:isSep c=true
  ·rw[scan_sep c t hs]at h;cases h;exact Nat.zero_le _
  ·have hs':isSep c=false:=(by simpa using hs);by_cases hb:bad c=true
   ·rw[scan_bad c t hs' hb]at h;cases h
   ·have hb':bad c=false:=(by simpa using hb);by_cases h92:c=92
    ·subst h92;cases he:esc t with
     | none=>rw[scan_none t he]at h;cases h
     | some p=>obtain⟨d,k⟩:=p;rw[scan_esc t d k he]at h;obtain⟨q,hq,hq2⟩:=Option.map_eq_some_iff.1 h;cases hq2;have:=scan_len n (t.drop k) q.1 q.2 (by rw[List.length_drop];omega) hq;rw[List.length_drop]at this;simp only[List.length_cons];omega
    ·rw[scan_bare c t hs' hb' h92]at h;obtain⟨q,hq,hq2⟩:=Option.map_eq_some_iff.1 h;cases hq2;have:=scan_len n t q.1 q.2 (by omega) hq;simp only[List.length_cons];omega
theorem value_len {r v u:List UInt8}(h:valueP r=some (v,u)):v.length≤r.length:=by
 unfold valueP at h;split at h
 ·cases h
 ·obtain⟨q,hq,hq2⟩:=Option.map_eq_some_iff.1 h;cases hq2;have h1:=scan_len _ _ q.1 q.2 (Nat.le_refl _) hq;have h2:=trimR_len q.1;obtain⟨a,ha,_⟩:=dropW_split (fun c:UInt8=>decide (c=32)) r;have h3:=congrArg List.length ha;rw[List.length_append]at h3;rw[List.length_map];omega
theorem kind_len {l t r:List UInt8}(h:kindP l=some (t,r)):t.length≤32:=by obtain⟨x,T,y,_,_,_,hT,rfl⟩:=kindP_some h;unfold typeOK at hT;simp only[Bool.and_eq_true,decide_eq_true_eq]at hT;exact hT.1.2
theorem av_small {t v:List UInt8}(ht:t.length≤32)(hv:v.length≤10000):(av (t,v)).t.size≤100000∧(av (t,v)).v.size≤1100000:=by
 unfold av;refine⟨?_,?_⟩
 ·rw[←kt.size_len];show t.length≤_;omega
 ·rw[←kt.size_len];show v.length≤_;omega
def parseR (l:List UInt8):Option (List (List Av)):=
 if l.dropWhile (· =32)=[]then some []else match GP [] [] (l.dropWhile (· =32))with
  | none=>none
  | some n=>if nameOK n=true then some n else none
end dnw
end Go.Proofs.YtmnpfkbjpeaemaaGreatDoor
