/- One text out of several: RPackW, UnpM, BldW, PackW. -/
import Derived.IntWalk
import Derived.Test.YtmnpfkbjpeaemaaGreatDoorJ13
import Derived.Test.YtmnpfkbjpeaemaaGreatDoorJ15
import Derived.Test.YtmnpfkbjpeaemaaGreatDoorJ11
import Derived.Test.YtmnpfkbjpeaemaaGreatDoorJ14
import Derived.Test.YtmnpfkbjpeaemaaGreatDoorJ1
import Derived.Test.YtmnpfkbjpeaemaaGreatDoorJ2
import Derived.Test.YtmnpfkbjpeaemaaGreatDoorJ10
set_option linter.unusedVariables false
set_option linter.unusedSimpArgs false
set_option maxRecDepth 20000
set_option maxHeartbeats 16000000
namespace Go.Proofs.YtmnpfkbjpeaemaaGreatDoor
open Go.RowKit
namespace etw
open atp atw etp
open dnw (Av Avas)
open tupw (Strs strs_below)
def txtS (s:ByteArray):ByteArray:=⟨(txt s).toArray⟩
theorem txtS_list (s:ByteArray):(txtS s).data.toList=txt s:=rfl
theorem txtS_size (s:ByteArray):(txtS s).size=2+s.size:=by rw[←kt.size_len,txtS_list,txt_len]
theorem lit0 {P:Program}{src dst e:TypeId}(hs:P.underlying src=some (.slice e))(he:P.underlying e=some (.int .u8))(hd:P.underlying dst=some .string)
  (w:World) (l:List UInt8) (hl:l.length≤1000):(convert src dst (.slice (some ⟨w.heap.size,0,none⟩) l.length l.length)).run P (w.alloc (.cells (Lib.byteCells l).toArray e))= .ok (.string ⟨l.toArray⟩) (w.alloc (.cells (Lib.byteCells l).toArray e)):=by
 have h:(w.alloc (.cells (Lib.byteCells l).toArray e)).ownsRow w.heap.size e 1 (.slice (some ⟨w.heap.size,0,none⟩) l.length l.length) l.length (Lib.byteCells l):=by have hbl:=Lib.byteCells_length l;refine⟨by rw[hbl];omega,Or.inr ⟨w.heap.size,l.length,(Lib.byteCells l).toArray,rfl,Nat.le_refl _,heap_alloc_new w _,Nat.le_refl _,by unfold maxLen;omega,by simp[hbl],?_⟩⟩;rw[Nat.mul_one,List.toList_toArray,List.take_of_length_le (by omega)]
 exact kt.str_of_row hs he hd (B:=w.heap.size) h
theorem lit1 (w:World)(n:Nat)(hn:n≤255):(convert 131 9 (.slice (some ⟨w.heap.size,0,none⟩) 1 1)).run Tryz.prog (w.alloc (.cells #[.int .u8 (n:Int)] 5))= .ok (.string {data:=#[UInt8.ofNat n]}) (w.alloc (.cells #[.int .u8 (n:Int)] 5)):=by
 have cv:=lit0 (P:=Tryz.prog) Tryz.underlying131 Tryz.underlying5 Tryz.underlying9 w [UInt8.ofNat n] (by show 1≤1000;omega);have e:((UInt8.ofNat n).toNat:Int)=(n:Int):=by rw[ofNat_toNat hn]
 change (convert _ _ (.slice (some ⟨w.heap.size,0,none⟩) 1 1)).run Tryz.prog (w.alloc (.cells #[.int .u8 ((UInt8.ofNat n).toNat:Int)] 5))= .ok (.string {data:=#[UInt8.ofNat n]}) (w.alloc (.cells #[.int .u8 ((UInt8.ofNat n).toNat:Int)] 5))at cv;rw[e]at cv;exact cv
theorem lit1b (w:World)(g n:Nat)(hn:n≤255)(h:w.heap[g]? =some (.cells #[.int .u8 (n:Int)] 5 (0,0))):(convert 131 9 (.slice (some ⟨g,0,none⟩) 1 1)).run Tryz.prog w= .ok (.string {data:=#[UInt8.ofNat n]}) w:=by
 have e:(n:Int)=((UInt8.ofNat n).toNat:Int):=by rw[ofNat_toNat hn]
 rw[e]at h;have hr:w.ownsRow 0 5 1 (.slice (some ⟨g,0,none⟩) [UInt8.ofNat n].length 1) [UInt8.ofNat n].length (Lib.byteCells [UInt8.ofNat n]):=
  ⟨rfl,Or.inr ⟨g,1,_,rfl,Nat.zero_le _,h,Nat.le_refl _,by unfold maxLen;omega,rfl,rfl⟩⟩
 exact kt.str_of_row Tryz.underlying131 Tryz.underlying5 Tryz.underlying9 (B:=0) hr
theorem rtxt_any (t:ByteArray)(w:World)(ht:t.size≤65535):Calls Tryz.prog 131 #[.string t] w fun e w'=>e= .returned (.string (txtS t))∧Below w.heap.size w w':=by
 have hp:txtS t=(⟨(fld.be t.size 2).toArray⟩:ByteArray)++t:=kt.str_eq (by simp[txtS,txt]);obtain⟨x,hx⟩: ∃x:UInt8,Hid (x=UInt8.ofNat (t.size / 256)):=⟨_,rfl⟩;obtain⟨y,hy⟩: ∃y:UInt8,Hid (y=UInt8.ofNat t.size):=⟨_,rfl⟩;have ex:(t.size:Int) / 256=(x.toNat:Int):=by rw[hx.out,UInt8.toNat_ofNat'];omega
 have ey:(t.size:Int) % 256=(y.toNat:Int):=by rw[hy.out,UInt8.toNat_ofNat'];omega
 have cv:=lit0 (P:=Tryz.prog) Tryz.underlying131 Tryz.underlying5 Tryz.underlying9 w [x,y] (by show 2≤1000;omega);change (convert _ _ (.slice (some ⟨w.heap.size,0,none⟩) 2 2)).run Tryz.prog (w.alloc (.cells #[.int .u8 (x.toNat:Int),.int .u8 (y.toNat:Int)] 5))= .ok (.string {data:=#[x,y]}) (w.alloc (.cells #[.int .u8 (x.toNat:Int),.int .u8 (y.toNat:Int)] 5))at cv;have hz:(⟨(fld.be t.size 2).toArray⟩:ByteArray)={data:=#[x,y]}:=by have be2:fld.be t.size 2=[UInt8.ofNat (t.size / 256),UInt8.ofNat t.size]:=rfl;rw[be2,←hx.out,←hy.out]
 rw[hz]at hp;have HP:=Lib.hid hp;clear hp hz;go_enter Tryz.func131,Tryz.ntmps131;go_wp2_with fail;go_ret;exact⟨by rw[HP.out];rfl,(Below.refl _ _).alloc (Nat.le_refl _) _⟩
structure Pk (e:En):Prop where
 rl:e.rdn.length≤255
 rs: ∀a∈e.rdn,a.t.size≤5000∧a.v.size≤5000
 al:e.ats.length≤255
 as_: ∀a∈e.ats,a.t.size≤5000∧a.vs.length≤255∧ ∀v∈a.vs,v.size≤5000
theorem pk_bd {e:En}(h:Pk e):Bd e:=⟨by have:=h.rl;omega,fun a ha=>by have:=h.rs a ha;omega,by have:=h.al;omega,fun a ha=>by have:=h.as_ a ha;exact⟨by omega,by omega,fun v hv=>by have:=this.2.2 v hv;omega⟩⟩
def packS (e:En):ByteArray × Int:=match packE e with
 | .ok s=>(⟨s.toArray⟩,0)
 | .error f=>(⟨#[]⟩,f)
theorem packS_eq (e:En):packS e=if rightE e=false then(⟨#[]⟩,4)else if 4000<(packB e).length then(⟨#[]⟩,5)else(⟨(packB e).toArray⟩,0):=by
 unfold packS packE;split
 ·rename_i h;split at h
  ·cases h
  ·rename_i h1;split at h
   ·cases h
   ·rename_i h2;cases h;rw[if_neg h1,if_neg h2]
 ·rename_i h;split at h
  ·rename_i h1;cases h;rw[if_pos h1]
  ·rename_i h1;split at h
   ·rename_i h2;cases h;rw[if_neg h1,if_pos h2]
   ·cases h
theorem rpack_any (v:Value)(E:En)(w:World)(hv:Hid (EntV w v E))(hb:Hid (Pk E)):
  Calls Tryz.prog 69 #[v] w fun e w'=>e= .returned (.tuple #[.string (packS E).1,.int .i64 (packS E).2])∧Below w.heap.size w w':=by
 have HBD:=Lib.hid (pk_bd hb.out);have HRI0:Hid (∀W,Below w.heap.size w W→Calls Tryz.prog 76 #[v] W fun e w'=>e= .returned (.bool (rightE E))∧Below W.heap.size W w'):=fun W h=>rright_any v E W (Lib.hid (entV_below hv.out h)) HBD;have HTX:Hid (∀t:ByteArray,t.size≤5000→ ∀W,Calls Tryz.prog 131 #[.string t] W fun e w'=>e= .returned (.string (txtS t))∧Below W.heap.size W w'):=fun t h W=>rtxt_any t W (by omega);have HRS:=Lib.hid hb.out.rs;have HAS:=Lib.hid hb.out.as_;have HRES:=Lib.hid (packS_eq E);obtain⟨ro,rc,ao,ac,Nr,N,rfl,HN,HA,hac,HNr,HAv,hrc⟩:=ent_form hv.out;have hNr:Nr≤255:=by rw[←HNr.out];exact hb.out.rl
 have hN:N≤255:=by rw[←HN.out];exact hb.out.al
 have HPB:Hid (packB E=UInt8.ofNat E.rdn.length::(etp.encR E.rdn++(UInt8.ofNat E.ats.length::encL E.ats))):=rfl;rw[HN.out,HNr.out]at HPB;obtain⟨PB,hPB⟩: ∃l,packB E=l:=⟨_,rfl⟩;obtain⟨PS,hPS⟩: ∃l,packS E=l:=⟨_,rfl⟩;rw[hPB]at HPB HRES;rw[hPS]at HRES ⊢;clear hPB hPS;obtain⟨W1,hW1⟩: ∃W,w.alloc (.cells #[.slice ro Nr rc,.slice ao N ac] 26)=W:=⟨_,rfl⟩;have hB1:Below w.heap.size w W1:=by rw[←hW1];exact(Below.refl _ _).alloc (Nat.le_refl _) _
 have HT1:Hid (EntB W1 w.heap.size (.slice ro Nr rc) (.slice ao N ac)):=by rw[←hW1];exact entB_new _ _ _
 obtain⟨k0,k1⟩:=entB_cells HT1.out;have HB1:=Lib.hid hB1;have HRI:=Lib.hid (HRI0.out W1 hB1);generalize rightE E=rt at HRI HRES;obtain⟨rdn,L⟩:=E;simp only at HN HA HNr HAv HRS HAS HPB;clear hB1 HRI0 hv hb HBD;go_enter Tryz.func69,Tryz.ntmps69;cases rt with
 | false=>rw[if_pos rfl]at HRES;go_wp2_with fail;refine HRI.out.mono ?_;rintro e w2 ⟨rfl,hB2⟩;have HBE:=Lib.hid (HB1.out.trans (hB2.mono HB1.out.size));clear hB2 k0 k1 hW1;go_wp2_with fail;go_ret2;exact⟨by rw[HRES.out];rfl,HBE.out⟩
 | true=>
  rw[if_neg (by decide)]at HRES;go_wp2_with fail;refine HRI.out.mono ?_;rintro e w2 ⟨rfl,hB2⟩;have HB2:=Lib.hid (HB1.out.trans (hB2.mono HB1.out.size));have HT2:=Lib.hid (entB_below HT1.out hB2);have hs2:=HB2.out.size;clear hB2 k0 k1 hW1 HRI;obtain⟨k0,k1⟩:=entB_cells HT2.out;have cv:=lit1 w2 Nr hNr;have HB3:Hid (Below w2.heap.size w2 (w2.alloc (.cells #[.int .u8 (Nr:Int)] 5))):=(Below.refl _ _).alloc (Nat.le_refl _) _;obtain⟨cn,hcn⟩: ∃c,UInt8.ofNat Nr=c:=⟨_,rfl⟩;rw[hcn]at cv HPB;obtain⟨dn,hdn⟩: ∃c,UInt8.ofNat N=c:=⟨_,rfl⟩;rw[hdn]at HPB;have HDN:=Lib.hid hdn;clear hcn hdn;go_wp2_with fail;clear cv k0 k1;go_loopw [4,5] (fun sv iv wr=> ∃ (i:Nat) (s:ByteArray),i≤Nr∧iv= .int .i64 (i:Int)∧sv= .string s∧s.size≤1+i*11000∧Hid (s.data.toList=cn::etp.encR (rdn.take i))∧Hid (Below w2.heap.size w2 wr)) (fun _ iv _=>Nr- (intOf iv).toNat);case atStart=>exact⟨0,_,Nat.zero_le _,rfl,rfl,by show 1≤_;omega,rfl,HB3.out⟩
  case round=>
   obtain⟨i,s,hi,rfl,rfl,hsz,hS,hBr⟩:=hrel;have HBr:=Lib.hid (HB2.out.trans (hBr.out.mono hs2));obtain⟨k0,k1⟩:=entB_cells (entB_below HT2.out hBr.out);by_cases hlt:i<Nr
   ·have hltI:(i:Int)<(Nr:Int):=(by omega);have hil:i<rdn.length:=(by rw[HNr.out];exact hlt);obtain⟨b,o,hro,x0,x1⟩:=(dnw.avas_below HAv.out HBr.out) i hil;subst hro;have HSN:=Lib.hid (encR_snoc hil);have hbd:=HRS.out rdn[i] (List.getElem_mem _);obtain⟨a,ha⟩: ∃a,rdn[i]=a:=⟨_,rfl⟩;rw[ha]at HSN hbd x0 x1;have HX1:=Lib.hid (HTX.out a.t (by omega));have HX2:=Lib.hid (HTX.out a.v (by omega));have HL1:=Lib.hid (txtS_list a.t);have HL2:=Lib.hid (txtS_list a.v);have hz1:(txtS a.t).size≤5002:=(by rw[txtS_size];omega);have hz2:(txtS a.v).size≤5002:=(by rw[txtS_size];omega);clear ha hbd;generalize txtS a.t=X1 at HX1 HL1 hz1;generalize txtS a.v=X2 at HX2 HL2 hz2;have g1: ¬9223372036854775807<s.size+X1.size:=(by omega);have g2: ¬9223372036854775807<s.size+X1.size+X2.size:=(by omega);have hk0:=World.block_lt_of_cell? wr _ k0;have hx0:=World.block_lt_of_cell? wr _ x0;have hx1:=World.block_lt_of_cell? wr _ x1;have HNX:Hid ((s++X1++X2).data.toList=cn::etp.encR (rdn.take (i+1))):=(by show _=_;rw[HSN.out,←HL1.out,←HL2.out];have:=hS.out;simp[this]);have hsz2:(s++X1++X2).size≤1+(i+1)*11000:=(by simp only[ByteArray.size_append];omega);have HSZ2:=Lib.hid hsz2;clear hsz2 k1;go_wp2_with fail;refine wp_region_held_drew (S:=fun W=>W.cell? ⟨w.heap.size,0,none⟩=some (.slice (some ⟨b,o,none⟩) Nr rc)∧W.cell? ⟨b,o+i*2,none⟩=some (.string a.t)∧W.cell? ⟨b,o+i*2+1,none⟩=some (.string a.v)) (by kernel_rfl) (⟨k0,x0,x1⟩) (fun hHeld=> ?_);refine tk 0 ⟨some 24,_,_,_,_,_⟩ rfl ?_;refine tk 1 ⟨some 25,_,_,_,_,_⟩ rfl ?_;refine tk 2 ⟨some 26,_,_,_,_,_⟩ rfl ?_;refine tk 3 ⟨some 27,_,_,_,_,_⟩ rfl ?_;refine tk 4 ⟨some 28,_,_,_,_,_⟩ rfl ?_;refine tk 5 ⟨some 29,_,_,_,_,_⟩ rfl ?_;refine tk 6 ⟨some 30,_,_,_,_,_⟩ rfl ?_;refine tk 9 ⟨some 33,_,_,_,_,_⟩ rfl ?_;refine tk 10 ⟨some 34,_,_,_,_,_⟩ rfl ?_;refine tk 11 ⟨some 35,_,_,_,_,_⟩ rfl ?_;refine tk 12 ⟨some 36,_,_,_,_,_⟩ rfl ?_;refine tk 13 ⟨some 37,_,_,_,_,_⟩ rfl ?_;refine tk 14 ⟨some 38,_,_,_,_,_⟩ rfl ?_;refine tc 7 ⟨some 31,_,_,_,_,_⟩ rfl (fun K hK=> ?_);go_simp;go_at_call 131;refine(HX1.out _).mono ?_;rintro e w6 ⟨rfl,hB6⟩;refine hK.out _ _ (⟨(hB6.cell (p:=⟨w.heap.size,0,none⟩) hk0).trans (k0),(hB6.cell (p:=⟨b,o+i*2,none⟩) hx0).trans (x0),(hB6.cell (p:=⟨b,o+i*2+1,none⟩) hx1).trans (x1)⟩) (fun hHeld=> ?_);clear hK;try simp only[Act.put,List.setIfInBounds_toArray,List.set_cons_zero,List.set_cons_succ]
    refine tk 8 ⟨some 32,_,_,_,_,_⟩ rfl ?_;refine tc 15 ⟨some 39,_,_,_,_,_⟩ rfl (fun K hK=> ?_);go_simp;go_at_call 131;refine(HX2.out _).mono ?_;rintro e w7 ⟨rfl,hB7⟩;refine hK.out _ _ (⟨(hB7.cell (p:=⟨w.heap.size,0,none⟩) (Nat.lt_of_lt_of_le hk0 hB6.size)).trans ((hB6.cell (p:=⟨w.heap.size,0,none⟩) hk0).trans (k0)),(hB7.cell (p:=⟨b,o+i*2,none⟩) (Nat.lt_of_lt_of_le hx0 hB6.size)).trans ((hB6.cell (p:=⟨b,o+i*2,none⟩) hx0).trans (x0)),(hB7.cell (p:=⟨b,o+i*2+1,none⟩) (Nat.lt_of_lt_of_le hx1 hB6.size)).trans ((hB6.cell (p:=⟨b,o+i*2+1,none⟩) hx1).trans (x1))⟩) (fun hHeld=> ?_);clear hK;try simp only[Act.put,List.setIfInBounds_toArray,List.set_cons_zero,List.set_cons_succ]
    refine tk 16 ⟨some 40,_,_,_,_,_⟩ rfl ?_;refine tk 17 ⟨some 4,_,_,_,_,_⟩ rfl ?_;have hBF:=((Below.refl wr.heap.size wr).drew.trans hB6).trans (hB7.mono hB6.size);refine wpAnyH_done (by kernel_rfl) ?_ _;all_goals
     have HB6:=Lib.hid (hBr.out.trans (hBF.mono hBr.out.size));clear hHeld hB6 hB7 hBF k0 x0 x1 g1 g2;go_wp2_with fail;go_roundw;case rel=>exact⟨i+1,_,by omega,by go_num,rfl,HSZ2.out,HNX,HB6⟩
     case measure=>simp[intOf];omega
   ·obtain rfl:Nr=i:=(by omega);have hfull:rdn.take Nr=rdn:=List.take_of_length_le (by rw[HNr.out];omega);rw[hfull]at hS;have cv:=lit1 wr N hN;rw[HDN.out]at cv;have HB3':Hid (Below w2.heap.size w2 (wr.alloc (.cells #[.int .u8 (N:Int)] 5))):=hBr.out.trans (((Below.refl _ _).alloc (Nat.le_refl _) _).mono hBr.out.size);have g1: ¬9223372036854775807<s.size+1:=(by omega);have HQ0:Hid ((s++({data:=#[dn]}:ByteArray)).data.toList=cn::(etp.encR rdn++[dn])):=(by show _=_;have:=hS.out;simp[this]);have HZ0:Hid ((s++({data:=#[dn]}:ByteArray)).size≤3000000):=(by show _≤_;simp only[ByteArray.size_append];have:({data:=#[dn]}:ByteArray).size=1:=rfl;omega);clear hfull;go_wp2_with fail;clear cv k0 k1 g1;obtain⟨Q,hQ⟩: ∃Q,cn::(etp.encR rdn++[dn])=Q:=⟨_,rfl⟩;rw[hQ]at HQ0;have HPQ:Hid (PB=Q++encL L):=(by show _=_;rw[HPB.out,←hQ];simp);clear hQ HPB;have HB0:=HB3';clear HB3' HBr hBr hS hsz hi;go_loopw [4,6] (fun sv iv wr=> ∃ (i:Nat) (s:ByteArray),i≤N∧iv= .int .i64 (i:Int)∧sv= .string s∧s.size≤3000000+i*1400000∧Hid (s.data.toList=Q++encL (L.take i))∧Hid (Below w2.heap.size w2 wr)) (fun _ iv _=>N- (intOf iv).toNat);case atStart=>exact⟨0,_,Nat.zero_le _,rfl,rfl,by have:=HZ0.out;omega,(by show _=_;rw[HQ0.out];simp[encL]),HB0.out⟩
    case round=>
     obtain⟨i,s,hi,rfl,rfl,hsz,hS,hBr⟩:=hrel;have HBr:=Lib.hid (HB2.out.trans (hBr.out.mono hs2));obtain⟨k0,k1⟩:=entB_cells (entB_below HT2.out hBr.out);by_cases hlt:i<N
     ·have hltI:(i:Int)<(N:Int):=(by omega);have hil:i<L.length:=(by rw[HN.out];exact hlt);have HSN:=Lib.hid (encL_snoc hil);have HAE:Hid (encA L[i]=txt L[i].t++(UInt8.ofNat L[i].vs.length::encV L[i].vs)):=rfl;obtain⟨b,o,ax,cx,hao,x0w,x1w,hcx,hSTw⟩:=HA.out i hil;have hbd:=HAS.out L[i] (List.getElem_mem _);obtain⟨tt,htt⟩: ∃t,L[i].t=t:=⟨_,rfl⟩;obtain⟨vs,hvs⟩: ∃t,L[i].vs=t:=⟨_,rfl⟩;rw[htt]at HAE x0w hbd;rw[hvs]at HAE x1w hcx hSTw hbd;clear htt hvs;subst hao;obtain⟨M,hM⟩: ∃M,vs.length=M:=⟨_,rfl⟩;rw[hM]at HAE x1w hcx hbd;have HXW:Hid (∀W,Below w.heap.size w W→W.cell? ⟨b,o+i*2,none⟩=some (.string tt)∧W.cell? ⟨b,o+i*2+1,none⟩=some (.slice ax M cx)∧Strs W ax vs):=fun W h=>⟨(h.cell (World.block_lt_of_cell? w _ x0w)).trans x0w,(h.cell (World.block_lt_of_cell? w _ x1w)).trans x1w,strs_below hSTw h⟩;obtain⟨x0,x1,_⟩:=HXW.out wr HBr.out;clear x0w x1w hSTw;have HM:=Lib.hid hM;have hM255:M≤255:=hbd.2.1;have HVB:=Lib.hid hbd.2.2;have htz:=hbd.1;have HX1:=Lib.hid (HTX.out tt htz);have HL1:=Lib.hid (txtS_list tt);have hz1:(txtS tt).size≤5002:=(by rw[txtS_size];omega);generalize txtS tt=X1 at HX1 HL1 hz1;obtain⟨mb,hmb⟩: ∃c,UInt8.ofNat M=c:=⟨_,rfl⟩;rw[hmb]at HAE;have HMB:=Lib.hid hmb;clear hM hbd htz hmb;have g1: ¬9223372036854775807<s.size+X1.size:=(by omega);have g2: ¬9223372036854775807<s.size+X1.size+1:=(by omega);have hwM:IntKind.u8.wrap (M:Int)=(M:Int):=IntWalk.u8_in _ (by omega);have hk1:=World.block_lt_of_cell? wr _ k1;have hx0:=World.block_lt_of_cell? wr _ x0;have hx1:=World.block_lt_of_cell? wr _ x1;obtain⟨P1,hP1⟩: ∃l,(s++X1++({data:=#[mb]}:ByteArray)).data.toList=l:=⟨_,rfl⟩;have HP1:Hid (P1=Q++encL (L.take i)++(txt tt++[mb])):=(by show _=_;rw[←hP1,←HL1.out];have:=hS.out;simp[this]);have HP1':=Lib.hid hP1;have HZ1:Hid ((s++X1++({data:=#[mb]}:ByteArray)).size≤3000000+i*1400000+6000):=(by show _≤_;simp only[ByteArray.size_append];have:({data:=#[mb]}:ByteArray).size=1:=rfl;omega);have HND:Hid (Q++encL (L.take (i+1))=P1++encV vs):=(by show _=_;rw[HP1.out,HSN.out,HAE.out];simp);clear hP1 HP1 k0;go_wp2_with fail;refine wp_region_held_drew (S:=fun W=>W.cell? ⟨w.heap.size,1,none⟩=some (.slice (some ⟨b,o,none⟩) N ac)∧W.cell? ⟨b,o+i*2,none⟩=some (.string tt)∧W.cell? ⟨b,o+i*2+1,none⟩=some (.slice ax M cx)) (by kernel_rfl) (⟨k1,x0,x1⟩) (fun hHeld=> ?_);refine tk 0 ⟨some 56,_,_,_,_,_⟩ rfl ?_;refine tk 1 ⟨some 57,_,_,_,_,_⟩ rfl ?_;refine tk 2 ⟨some 58,_,_,_,_,_⟩ rfl ?_;refine tk 3 ⟨some 59,_,_,_,_,_⟩ rfl ?_;refine tk 4 ⟨some 60,_,_,_,_,_⟩ rfl ?_;refine tk 5 ⟨some 61,_,_,_,_,_⟩ rfl ?_;refine tk 6 ⟨some 62,_,_,_,_,_⟩ rfl ?_;refine tk 9 ⟨some 65,_,_,_,_,_⟩ rfl ?_;refine tk 10 ⟨some 66,_,_,_,_,_⟩ rfl ?_;refine tk 11 ⟨some 67,_,_,_,_,_⟩ rfl ?_;refine tk 12 ⟨some 68,_,_,_,_,_⟩ rfl ?_;refine tk 13 ⟨some 69,_,_,_,_,_⟩ rfl ?_;refine tk 14 ⟨some 70,_,_,_,_,_⟩ rfl ?_;refine tk 15 ⟨some 71,_,_,_,_,_⟩ rfl ?_;refine tk 16 ⟨some 72,_,_,_,_,_⟩ rfl ?_;refine wpAnyH_ready (rs:=[7,17]) (by kernel_rfl) (by simp) ?_;refine AllReadyH.cons (o:=⟨some 63,_,_,_,_,_⟩) rfl (fun K hK=> ?_) (AllReadyH.cons (o:=⟨some 73,_,_,_,_,_⟩) rfl (fun K hK=> ?_) AllReadyH.nil);go_simp;go_at_call 131;refine(HX1.out _).mono ?_;rintro e w6 ⟨rfl,hB6⟩;refine hK.out _ _ (⟨(hB6.cell (p:=⟨w.heap.size,1,none⟩) hk1).trans (k1),(hB6.cell (p:=⟨b,o+i*2,none⟩) hx0).trans (x0),(hB6.cell (p:=⟨b,o+i*2+1,none⟩) hx1).trans (x1)⟩) (fun hHeld=> ?_);clear hK;try simp only[Act.put,List.setIfInBounds_toArray,List.set_cons_zero,List.set_cons_succ]
      refine tk 8 ⟨some 64,_,_,_,_,_⟩ rfl ?_;have cv:=lit1 w6 M hM255;rw[HMB.out]at cv;have hB7:Below w6.heap.size w6 (w6.alloc (.cells #[.int .u8 (M:Int)] 5)):=(Below.refl _ _).alloc (Nat.le_refl _) _;refine tc 17 ⟨some 73,_,_,_,_,_⟩ rfl (fun K hK=> ?_);go_simp;refine hK.out _ _ (⟨(hB7.cell (p:=⟨w.heap.size,1,none⟩) (Nat.lt_of_lt_of_le hk1 hB6.size)).trans ((hB6.cell (p:=⟨w.heap.size,1,none⟩) hk1).trans (k1)),(hB7.cell (p:=⟨b,o+i*2,none⟩) (Nat.lt_of_lt_of_le hx0 hB6.size)).trans ((hB6.cell (p:=⟨b,o+i*2,none⟩) hx0).trans (x0)),(hB7.cell (p:=⟨b,o+i*2+1,none⟩) (Nat.lt_of_lt_of_le hx1 hB6.size)).trans ((hB6.cell (p:=⟨b,o+i*2+1,none⟩) hx1).trans (x1))⟩) (fun hHeld=> ?_);clear hK;try simp only[Act.put,List.setIfInBounds_toArray,List.set_cons_zero,List.set_cons_succ]
      refine tc 18 ⟨some 74,_,_,_,_,_⟩ rfl (fun K hK=> ?_);go_simp;refine hK.out _ _ (⟨(hB7.cell (p:=⟨w.heap.size,1,none⟩) (Nat.lt_of_lt_of_le hk1 hB6.size)).trans ((hB6.cell (p:=⟨w.heap.size,1,none⟩) hk1).trans (k1)),(hB7.cell (p:=⟨b,o+i*2,none⟩) (Nat.lt_of_lt_of_le hx0 hB6.size)).trans ((hB6.cell (p:=⟨b,o+i*2,none⟩) hx0).trans (x0)),(hB7.cell (p:=⟨b,o+i*2+1,none⟩) (Nat.lt_of_lt_of_le hx1 hB6.size)).trans ((hB6.cell (p:=⟨b,o+i*2+1,none⟩) hx1).trans (x1))⟩) (fun hHeld=> ?_);clear hK;try simp only[Act.put,List.setIfInBounds_toArray,List.set_cons_zero,List.set_cons_succ]
      clear cv;refine tk 19 ⟨some 75,_,_,_,_,_⟩ rfl ?_;refine tk 20 ⟨some 4,_,_,_,_,_⟩ rfl ?_;have hBF:=((Below.refl wr.heap.size wr).drew.trans hB6).trans (hB7.mono hB6.size);refine wpAnyH_done (by kernel_rfl) ?_ _
      rotate_left 1
      have hB7:Below wr.heap.size wr.drew (wr.drew.alloc (.cells #[.int .u8 (M:Int)] 5)):=(by have h:Below wr.drew.heap.size wr.drew (wr.drew.alloc (.cells #[.int .u8 (M:Int)] 5)):=(Below.refl _ _).alloc (Nat.le_refl _) _;exact h);go_simp;refine hK.out _ _ (⟨(hB7.cell (p:=⟨w.heap.size,1,none⟩) hk1).trans (k1),(hB7.cell (p:=⟨b,o+i*2,none⟩) hx0).trans (x0),(hB7.cell (p:=⟨b,o+i*2+1,none⟩) hx1).trans (x1)⟩) (fun hHeld=> ?_);clear hK;try simp only[Act.put,List.setIfInBounds_toArray,List.set_cons_zero,List.set_cons_succ]
      refine wpAnyH_ready (rs:=[7,18]) (by kernel_rfl) (by simp) ?_;refine AllReadyH.cons (o:=⟨some 63,_,_,_,_,_⟩) rfl (fun K hK=> ?_) (AllReadyH.cons (o:=⟨some 74,_,_,_,_,_⟩) rfl (fun K hK=> ?_) AllReadyH.nil);go_simp;go_at_call 131;refine(HX1.out _).mono ?_;rintro e w6 ⟨rfl,hB6⟩;refine hK.out _ _ (⟨(hB6.cell (p:=⟨w.heap.size,1,none⟩) (Nat.lt_of_lt_of_le hk1 hB7.size)).trans ((hB7.cell (p:=⟨w.heap.size,1,none⟩) hk1).trans (k1)),(hB6.cell (p:=⟨b,o+i*2,none⟩) (Nat.lt_of_lt_of_le hx0 hB7.size)).trans ((hB7.cell (p:=⟨b,o+i*2,none⟩) hx0).trans (x0)),(hB6.cell (p:=⟨b,o+i*2+1,none⟩) (Nat.lt_of_lt_of_le hx1 hB7.size)).trans ((hB7.cell (p:=⟨b,o+i*2+1,none⟩) hx1).trans (x1))⟩) (fun hHeld=> ?_);clear hK;try simp only[Act.put,List.setIfInBounds_toArray,List.set_cons_zero,List.set_cons_succ]
      refine tk 8 ⟨some 64,_,_,_,_,_⟩ rfl ?_;have cv:=lit1b w6 wr.heap.size M hM255 ((hB6.block wr.heap.size (by simp)).trans (heap_alloc_new wr.drew _));rw[HMB.out]at cv;refine tc 18 ⟨some 74,_,_,_,_,_⟩ rfl (fun K hK=> ?_);go_simp;refine hK.out _ _ (⟨(hB6.cell (p:=⟨w.heap.size,1,none⟩) (Nat.lt_of_lt_of_le hk1 hB7.size)).trans ((hB7.cell (p:=⟨w.heap.size,1,none⟩) hk1).trans (k1)),(hB6.cell (p:=⟨b,o+i*2,none⟩) (Nat.lt_of_lt_of_le hx0 hB7.size)).trans ((hB7.cell (p:=⟨b,o+i*2,none⟩) hx0).trans (x0)),(hB6.cell (p:=⟨b,o+i*2+1,none⟩) (Nat.lt_of_lt_of_le hx1 hB7.size)).trans ((hB7.cell (p:=⟨b,o+i*2+1,none⟩) hx1).trans (x1))⟩) (fun hHeld=> ?_);clear hK;try simp only[Act.put,List.setIfInBounds_toArray,List.set_cons_zero,List.set_cons_succ]
      clear cv;refine tk 19 ⟨some 75,_,_,_,_,_⟩ rfl ?_;refine tk 20 ⟨some 4,_,_,_,_,_⟩ rfl ?_;have hBF:=((Below.refl wr.heap.size wr).drew.trans hB7).trans (hB6.mono hB7.size);refine wpAnyH_done (by kernel_rfl) ?_ _
      rotate_left 1
      have cv:=lit1b ((wr.alloc (.cells #[.int .u8 (M:Int)] 5)).drew) wr.heap.size M hM255 (heap_alloc_new wr _);rw[HMB.out]at cv;go_simp;refine hK.out _ _ (⟨(hB7.cell (p:=⟨w.heap.size,1,none⟩) hk1).trans (k1),(hB7.cell (p:=⟨b,o+i*2,none⟩) hx0).trans (x0),(hB7.cell (p:=⟨b,o+i*2+1,none⟩) hx1).trans (x1)⟩) (fun hHeld=> ?_);clear hK;try simp only[Act.put,List.setIfInBounds_toArray,List.set_cons_zero,List.set_cons_succ]
      clear cv;refine tc 7 ⟨some 63,_,_,_,_,_⟩ rfl (fun K hK=> ?_);go_simp;go_at_call 131;refine(HX1.out _).mono ?_;rintro e w6 ⟨rfl,hB6⟩;refine hK.out _ _ (⟨(hB6.cell (p:=⟨w.heap.size,1,none⟩) (Nat.lt_of_lt_of_le hk1 hB7.size)).trans ((hB7.cell (p:=⟨w.heap.size,1,none⟩) hk1).trans (k1)),(hB6.cell (p:=⟨b,o+i*2,none⟩) (Nat.lt_of_lt_of_le hx0 hB7.size)).trans ((hB7.cell (p:=⟨b,o+i*2,none⟩) hx0).trans (x0)),(hB6.cell (p:=⟨b,o+i*2+1,none⟩) (Nat.lt_of_lt_of_le hx1 hB7.size)).trans ((hB7.cell (p:=⟨b,o+i*2+1,none⟩) hx1).trans (x1))⟩) (fun hHeld=> ?_);clear hK;try simp only[Act.put,List.setIfInBounds_toArray,List.set_cons_zero,List.set_cons_succ]
      refine tk 8 ⟨some 64,_,_,_,_,_⟩ rfl ?_;refine tk 19 ⟨some 75,_,_,_,_,_⟩ rfl ?_;refine tk 20 ⟨some 4,_,_,_,_,_⟩ rfl ?_;have hBF:=((Below.refl wr.heap.size wr).drew.trans hB7).trans (hB6.mono hB7.size);refine wpAnyH_done (by kernel_rfl) ?_ _;all_goals
       have HB7:=Lib.hid (hBr.out.trans (hBF.mono hBr.out.size));clear hHeld hB6 hB7 hBF k1 x0 x1 g1 g2 hwM;go_wp2_with fail;go_loopw [4,7] (fun sv jv wr=> ∃ (j:Nat) (s:ByteArray),j≤M∧jv= .int .i64 (j:Int)∧sv= .string s∧s.size≤3000000+i*1400000+6000+j*5010∧Hid (s.data.toList=P1++encV (vs.take j))∧Hid (Below w2.heap.size w2 wr)) (fun _ jv _=>M- (intOf jv).toNat);case atStart=>exact⟨0,_,Nat.zero_le _,rfl,rfl,by have:=HZ1.out;omega,(by show _=_;rw[HP1'.out];simp[encV]),HB7.out⟩
       case round=>
        obtain⟨j,s2,hj,rfl,rfl,hsz3,hS3,hBr3⟩:=hrel;have HBr3:=Lib.hid (HB2.out.trans (hBr3.out.mono hs2));obtain⟨k0,k1⟩:=entB_cells (entB_below HT2.out hBr3.out);obtain⟨x0,x1,hST3⟩:=HXW.out wr HBr3.out;clear k0 x0;by_cases hlt3:j<M
        ·have hltI3:(j:Int)<(M:Int):=(by omega);have hjl:j<vs.length:=(by rw[HM.out];exact hlt3);obtain⟨g,og,hax,y0⟩:=hST3 j hjl;subst hax;have HSN3:=Lib.hid (encV_snoc hjl);have hyb:=HVB.out vs[j] (List.getElem_mem _);obtain⟨y,hy⟩: ∃y,vs[j]=y:=⟨_,rfl⟩;rw[hy]at HSN3 hyb y0;have HX3:=Lib.hid (HTX.out y hyb);have HL3:=Lib.hid (txtS_list y);have hz3:(txtS y).size≤5002:=(by rw[txtS_size];omega);clear hy hyb hST3;generalize txtS y=X3 at HX3 HL3 hz3;have g3: ¬9223372036854775807<s2.size+X3.size:=(by omega);have HNX3:Hid ((s2++X3).data.toList=P1++encV (vs.take (j+1))):=(by show _=_;rw[HSN3.out,←HL3.out];have:=hS3.out;simp[this]);have HSZ3:Hid ((s2++X3).size≤3000000+i*1400000+6000+(j+1)*5010):=(by show _≤_;simp only[ByteArray.size_append];omega);go_wp2_with fail;refine(HX3.out _).mono ?_;rintro e w8 ⟨rfl,hB8⟩;have HB8:=Lib.hid (hBr3.out.trans (hB8.mono hBr3.out.size));clear hB8 y0 k1 x1;go_wp2_with fail;go_roundw;case rel=>exact⟨j+1,_,by omega,by go_num,rfl,HSZ3.out,HNX3,HB8⟩
         case measure=>simp[intOf];omega
        ·obtain rfl:M=j:=(by omega);have hfull:vs.take M=vs:=List.take_of_length_le (by rw[HM.out];omega);have HNE:Hid (s2.data.toList=Q++encL (L.take (i+1))):=(by show _=_;rw[hS3.out,hfull,←HND.out]);have HZE:Hid (s2.size≤3000000+(i+1)*1400000):=(by show _≤_;omega);clear hfull hST3;go_wp2_with fail;go_roundw;case rel=>exact⟨i+1,s2,by omega,by go_num,rfl,HZE.out,HNE,hBr3⟩
         case measure=>simp[intOf];omega
     ·obtain rfl:N=i:=(by omega);have hfull:L.take N=L:=List.take_of_length_le (by rw[HN.out];omega);rw[hfull,←HPQ.out]at hS;have hl4:(PB.length:Nat)=s.size:=(by rw[←hS.out,kt.size_len]);rw[hl4]at HRES;have hse:s=⟨PB.toArray⟩:=kt.str_eq (by rw[hS.out]);have HSE:=Lib.hid hse;clear hfull hl4 hse;by_cases hbig:4000<s.size
      ·have hbig':(4000:Int)<(s.size:Int):=(by omega);rw[if_pos hbig]at HRES;go_wp2_with fail;go_ret2;exact⟨by rw[HRES.out];rfl,HBr.out⟩
      ·have hbig': ¬ (4000:Int)<(s.size:Int):=(by omega);rw[if_neg hbig,←HSE.out]at HRES;go_wp2_with fail;go_ret2;exact⟨by rw[HRES.out];rfl,HBr.out⟩
end etw
open Go.RowKit
namespace etw
open atp atw etp
open dnw (Av Avas)
open tupw (Strs strs_below)
def SR (w:World)(B:Nat)(v:Value)(l:List ByteArray):Prop:=kt.SegX w B 9 1 v l.length (prw.scells l)
def AR (w:World)(B:Nat)(v:Value)(l:List Av):Prop:=kt.SegX w B 51 2 v l.length (l.flatMap avc)
def TR (w:World)(B:Nat)(v:Value)(l:List AV):Prop:=kt.SegX w B 43 2 v l.length (l.flatMap acell)
theorem seg_ne {w:World}{B n:Nat}{e T:TypeId}{sz p:Nat}{v:Value}{xs:List Value}{cs:Array Value}{f:Nat × Nat}(h:kt.SegX w B e sz v n xs)(hp:w.heap[p]? =some (.cells cs T f))(ht:T≠e):v.ownBlock≠some p:=by
 rcases h.2 with⟨rfl,_⟩ | ⟨g,o,cap,pre,post,rfl,_,hg,_⟩
 ·intro e1;cases e1
 ·intro e1;have:g=p:=by simpa[Value.ownBlock]using e1
  subst this;rw[hg]at hp;have:=Option.some.inj hp;injection this with _ h2 _;exact ht h2.symm
theorem seg_diff {w:World}{B C n m:Nat}{e T:TypeId}{sz tz:Nat}{v u:Value}{xs ys:List Value}(h:kt.SegX w B e sz v n xs)(h2:kt.SegX w C T tz u m ys)(ht:T≠e): ∀k,u.ownBlock=some k→v.ownBlock≠some k:=by
 intro k hk;rcases h2.2 with⟨rfl,_⟩ | ⟨g,o,cap,pre,post,rfl,_,hg,_⟩
 ·cases hk
 ·have:g=k:=by simpa[Value.ownBlock]using hk
  subst this;exact seg_ne h hg ht
theorem seg_grown {w w':World}{B n:Nat}{e:TypeId}{sz:Nat}{v:Value}{xs:List Value}{row:Option Nat}(h:kt.SegX w B e sz v n xs)(hg:w.grownBy w' row)(hne: ∀k,v.ownBlock=some k→row≠some k):kt.SegX w' B e sz v n xs:=kt.segX_same h fun k hk=>hg.block k (kt.segX_lt h k hk).2 (fun e1=>hne k hk e1.symm)
theorem seg_set {w:World}{B n:Nat}{e:TypeId}{sz p j:Nat}{v u:Value}{xs:List Value}(h:kt.SegX w B e sz v n xs)(hne:v.ownBlock≠some p):kt.SegX (w.setCell ⟨p,j,none⟩ u) B e sz v n xs:=kt.segX_same h fun k hk=>Below.heap_setCell _ _ _ _ (fun e1=>hne (by rw[hk];exact congrArg some e1))
structure Un (w:World)(B q:Nat)(l:List Av)(la:List AV)(rv av:Value):Prop where
 hB:B≤q
 eb:EntB w q rv av
 rr:AR w B rv l
 aa:TR w B av la
 inn: ∀x∈la,SR w B x.2 x.1.vs
structure Cu (w:World)(B a:Nat)(t:ByteArray)(xv:Value)(vs:List ByteArray)(la:List AV)(av:Value):Prop where
 hB:B≤a
 ab:AttrB w a t xv
 rr:SR w B xv vs
 ne:av.ownBlock≠some a
 df: ∀x∈la,∀k,x.2.ownBlock=some k→xv.ownBlock≠some k
def KU (q:Nat)(w w':World):Prop:= ∀ (k:Nat) (cs:Array Value) (T:TypeId) (f:Nat × Nat),w.heap[k]? =some (.cells cs T f)→T≠51→T≠43→T≠9→k≠q→w'.heap[k]? =some (.cells cs T f)
theorem ku_rb {w w':World}{q p:Nat}{s:ByteArray}{k:Int}{b:Bool}(h:RB w p s k b)(hk:KU q w w')(hp:p≠q):RB w' p s k b:=hk p _ _ _ h (by decide) (by decide) (by decide) hp
theorem ku_ent {w w':World}{q p:Nat}{r a:Value}(h:EntB w p r a)(hk:KU q w w')(hp:p≠q):EntB w' p r a:=hk p _ _ _ h (by decide) (by decide) (by decide) hp
theorem un_below {w w':World}{B q:Nat}{l:List Av}{la:List AV}{rv av:Value}(h:Un w B q l la rv av)(hb:Below w.heap.size w w'):Un w' B q l la rv av:=⟨h.hB,entB_below h.eb hb,kt.segX_below h.rr hb,kt.segX_below h.aa hb,fun x hx=>kt.segX_below (h.inn x hx) hb⟩
theorem cu_below {w w':World}{B a:Nat}{t:ByteArray}{xv av:Value}{vs:List ByteArray}{la:List AV}(h:Cu w B a t xv vs la av)(hb:Below w.heap.size w w'):Cu w' B a t xv vs la av:=⟨h.hB,attrB_below h.ab hb,kt.segX_below h.rr hb,h.ne,h.df⟩
theorem un_read {w w':World}{B q p:Nat}{l:List Av}{la:List AV}{rv av:Value}{s:ByteArray}{k:Int}{b:Bool}(h:Un w B q l la rv av)(hp:RB w p s k b)(hg:w.grownBy w' (some p)):Un w' B q l la rv av:=by
 have hq:q≠p:=by rintro rfl;have:=h.eb.symm.trans hp;have:=Option.some.inj this;injection this with _ h2 _;exact absurd h2 (by decide)
 have key: ∀ {e:TypeId} {sz n:Nat} {v:Value} {xs:List Value},91≠e→kt.SegX w B e sz v n xs→kt.SegX w' B e sz v n xs:=fun he hs=>seg_grown hs hg (fun k hk e1=>by have:=Option.some.inj e1;subst this;exact seg_ne hs hp he hk);exact⟨h.hB,(hg.block q (kt.bld_lt h.eb) (fun e1=>hq (Option.some.inj e1))).trans h.eb,key (by decide) h.rr,key (by decide) h.aa,fun x hx=>key (by decide) (h.inn x hx)⟩
theorem cu_read {w w':World}{B a p:Nat}{t:ByteArray}{xv av:Value}{vs:List ByteArray}{la:List AV}{s:ByteArray}{k:Int}{b:Bool}(h:Cu w B a t xv vs la av)(hp:RB w p s k b)(hg:w.grownBy w' (some p)):Cu w' B a t xv vs la av:=by
 have hq:a≠p:=by rintro rfl;have:=h.ab.symm.trans hp;have:=Option.some.inj this;injection this with _ h2 _;exact absurd h2 (by decide)
 refine⟨h.hB,(hg.block a (kt.bld_lt h.ab) (fun e1=>hq (Option.some.inj e1))).trans h.ab,seg_grown h.rr hg (fun k hk e1=> ?_),h.ne,h.df⟩;have:=Option.some.inj e1;subst this;exact seg_ne h.rr hp (by decide) hk
theorem ent_read {w w':World}{q p:Nat}{r a:Value}{s:ByteArray}{k:Int}{b:Bool}(h:EntB w q r a)(hp:RB w p s k b)(hg:w.grownBy w' (some p)):EntB w' q r a:=by refine(hg.block q (kt.bld_lt h) (fun e1=> ?_)).trans h;have:=Option.some.inj e1;subst this;have:=h.symm.trans hp;have:=Option.some.inj this;injection this with _ h2 _;exact absurd h2 (by decide)
theorem below_grown {B0 p:Nat}{w0 w w':World}(h:Below B0 w0 w)(hg:w.grownBy w' (some p))(hp:B0≤p)(hB:B0≤w.heap.size):Below B0 w0 w':=h.trans ((Below.refl B0 w).grown hg hB (fun k hk=>by cases hk;exact hp))
theorem ku_app {w w7:World}{q j B n:Nat}{e:TypeId}{sz:Nat}{v u:Value}{xs:List Value}(hs:kt.SegX w B e sz v n xs)(he:e=51∨e=43∨e=9)(ws:World)(ha:Below w.heap.size w ws)(hg:ws.grownBy w7 v.ownBlock):KU q w (w7.setCell ⟨q,j,none⟩ u):=by intro k cs T f hk h1 h2 h3 hq;have hlt:=kt.bld_lt hk;rw[Below.heap_setCell _ _ _ _ (fun e1=>hq (by rw[e1]))];rw[hg.block k (Nat.lt_of_lt_of_le hlt ha.size) (fun e1=> ?_),ha.block k hlt,hk];exact seg_ne hs hk (by rcases he with rfl | rfl | rfl<;>assumption) e1.symm
theorem un_pair {w:World}{B q:Nat}{l:List Av}{la:List AV}{rv av:Value}(h:Un w B q l la rv av)(x:Av)(hl:l.length≤1000):
  ∃ao m cap w7,(Builtin.append_ #[23,23] 23 #[rv,.slice (some ⟨w.heap.size,0,none⟩) 1 1]).run Tryz.prog (w.alloc (.cells #[.string x.t,.string x.v] 51))= .ok (.slice ao m cap) w7∧
   w7.frozen? ⟨q,0,none⟩=false∧w7.cell? ⟨q,0,none⟩=some rv∧Un (w7.setCell ⟨q,0,none⟩ (.slice ao m cap)) B q (l++[x]) la (.slice ao m cap) av∧Below B w (w7.setCell ⟨q,0,none⟩ (.slice ao m cap))∧KU q w (w7.setCell ⟨q,0,none⟩ (.slice ao m cap)):=by
 have hA:Below w.heap.size w (w.alloc (.cells #[.string x.t,.string x.v] 51)):=(Below.refl _ _).alloc (Nat.le_refl _) _;have hn:=un_below h hA;have hBw:B≤w.heap.size:=Nat.le_trans h.hB (Nat.le_of_lt (kt.bld_lt h.eb));obtain⟨v',w7,h1,h2,h3,h4⟩:=kt.segX_append (P:=Tryz.prog) (t:=23) (ty:=23) Tryz.underlying23 infoAv rfl (by omega) ⟨w.heap.size,0,none⟩ 1 1 (avc x) rfl (fun j u hj=>by rw[kt.addr_add,World.cell?_alloc_new];simpa[avc]using hj) (by intro u hu;simp[avc]at hu;rcases hu with rfl | rfl<;>rfl) hn.rr (by unfold maxLen;omega) (by omega) (Nat.le_trans hBw hA.size);obtain⟨ao,cap,rfl,hc⟩:=kt.segX_slice h2;have hq:rv.ownBlock≠some q:=seg_ne hn.rr hn.eb (by decide);have he:EntB w7 q rv av:=(h3.block q (kt.bld_lt hn.eb) (fun e1=>hq e1.symm)).trans hn.eb;have h2':AR w7 B (.slice ao (l.length+1) cap) (l++[x]):=by unfold AR;rw[List.length_append,List.flatMap_append];simpa using h2
 have hq7:(Value.slice ao (l.length+1) cap).ownBlock≠some q:=seg_ne h2' he (by decide);have haa:TR w7 B av la:=seg_grown hn.aa h3 (fun k hk e1=>seg_diff hn.rr hn.aa (by decide) k hk e1);have hin: ∀y∈la,SR w7 B y.2 y.1.vs:=fun y hy=>seg_grown (hn.inn y hy) h3 (fun k hk e1=>seg_diff hn.rr (hn.inn y hy) (by decide) k hk e1);refine⟨ao,_,cap,w7,h1,Lib.frozen_of_heap he 0,(entB_cells he).1,⟨h.hB,entB_set0 he _,seg_set h2' hq7,seg_set haa (seg_ne haa he (by decide)),fun y hy=>seg_set (hin y hy) (seg_ne (hin y hy) he (by decide))⟩,?_,?_⟩
 ·exact(((hA.mono hBw).trans ((Below.refl B _).grown h3 (Nat.le_trans hBw hA.size) (fun k hk=>(kt.segX_lt hn.rr k hk).1))).setCell (p:=⟨q,0,none⟩) h.hB _)
 ·exact ku_app h.rr (Or.inl rfl) _ hA h3
theorem un_val {w:World}{B q a:Nat}{l:List Av}{la:List AV}{rv av:Value}{t:ByteArray}{xv:Value}{vs:List ByteArray}(h:Un w B q l la rv av)(c:Cu w B a t xv vs la av)(y:ByteArray)(hl:vs.length≤1000):
  ∃ao m cap w7,(Builtin.append_ #[35,35] 35 #[xv,.slice (some ⟨w.heap.size,0,none⟩) 1 1]).run Tryz.prog (w.alloc (.cells #[.string y] 9))= .ok (.slice ao m cap) w7∧
   w7.frozen? ⟨a,1,none⟩=false∧w7.cell? ⟨a,1,none⟩=some xv∧Un (w7.setCell ⟨a,1,none⟩ (.slice ao m cap)) B q l la rv av∧Cu (w7.setCell ⟨a,1,none⟩ (.slice ao m cap)) B a t (.slice ao m cap) (vs++[y]) la av∧Below B w (w7.setCell ⟨a,1,none⟩ (.slice ao m cap))∧KU q w (w7.setCell ⟨a,1,none⟩ (.slice ao m cap)):=by
 have hA:Below w.heap.size w (w.alloc (.cells #[.string y] 9)):=(Below.refl _ _).alloc (Nat.le_refl _) _;have hn:=un_below h hA;have cn:=cu_below c hA;have hBw:B≤w.heap.size:=Nat.le_trans h.hB (Nat.le_of_lt (kt.bld_lt h.eb));obtain⟨v',w7,h1,h2,h3,h4⟩:=kt.segX_append (P:=Tryz.prog) (t:=35) (ty:=35) Tryz.underlying35 prw.infoStr rfl (by omega) ⟨w.heap.size,0,none⟩ 1 1 [.string y] rfl (fun j u hj=>by rw[kt.addr_add,World.cell?_alloc_new];simpa using hj) (by intro u hu;simp at hu;rw[hu];rfl) cn.rr (by unfold maxLen;omega) (by omega) (Nat.le_trans hBw hA.size);obtain⟨ao,cap,rfl,hc⟩:=kt.segX_slice h2;have hea:q≠a:=by rintro rfl;have:=Option.some.inj (hn.eb.symm.trans cn.ab);injection this with _ h2 _;exact absurd h2 (by decide)
 have ha:xv.ownBlock≠some a:=seg_ne cn.rr cn.ab (by decide);have hab:AttrB w7 a t xv:=(h3.block a (kt.bld_lt cn.ab) (fun e1=>ha e1.symm)).trans cn.ab;have heb:EntB w7 q rv av:=(h3.block q (kt.bld_lt hn.eb) (fun e1=>seg_ne cn.rr hn.eb (by decide) e1.symm)).trans hn.eb;have h2':SR w7 B (.slice ao (vs.length+1) cap) (vs++[y]):=by
  unfold SR;rw[List.length_append];have e:prw.scells (vs++[y])=prw.scells vs++[.string y]:=by simp[prw.scells]
  rw[e];simpa using h2
 have hrr:AR w7 B rv l:=seg_grown hn.rr h3 (fun k hk e1=>seg_diff cn.rr hn.rr (by decide) k hk e1);have haa:TR w7 B av la:=seg_grown hn.aa h3 (fun k hk e1=>seg_diff cn.rr hn.aa (by decide) k hk e1);have hin: ∀z∈la,SR w7 B z.2 z.1.vs:=fun z hz=>seg_grown (hn.inn z hz) h3 (fun k hk e1=>cn.df z hz k hk e1);have hdf: ∀z∈la,∀k,z.2.ownBlock=some k→(Value.slice ao (vs.length+1) cap).ownBlock≠some k:=fun z hz k hk e1=>by
  rcases h4 k e1 with e2 | e2
  ·exact cn.df z hz k hk e2
  ·have:=(kt.segX_lt (hn.inn z hz) k hk).2;omega
 refine⟨ao,_,cap,w7,h1,Lib.frozen_of_heap hab 1,(attrB_cells hab).2,⟨h.hB,(Below.heap_setCell _ _ _ _ hea).trans heb,seg_set hrr (seg_ne hrr hab (by decide)),seg_set haa cn.ne,fun z hz=>seg_set (hin z hz) (seg_ne (hin z hz) hab (by decide))⟩,⟨c.hB,?_,seg_set h2' (seg_ne h2' hab (by decide)),c.ne,hdf⟩,?_,?_⟩
 ·exact Joins.block_setCell hab _
 ·exact(((hA.mono hBw).trans ((Below.refl B _).grown h3 (Nat.le_trans hBw hA.size) (fun k hk=>(kt.segX_lt cn.rr k hk).1))).setCell (p:=⟨a,1,none⟩) c.hB _)
 ·intro k cs T f hk k1 k2 k3 hkq;have hlt:=kt.bld_lt hk;have hka:k≠a:=by rintro rfl;have:=Option.some.inj (hk.symm.trans c.ab);injection this with _ h2 _;exact k2 h2
  rw[Below.heap_setCell _ _ _ _ hka,h3.block k (Nat.lt_of_lt_of_le hlt hA.size) (fun e1=> ?_),hA.block k hlt,hk];exact seg_ne c.rr hk k3 e1.symm
theorem un_attr {w:World}{B q a:Nat}{l:List Av}{la:List AV}{rv av:Value}{t:ByteArray}{xv:Value}{vs:List ByteArray}(h:Un w B q l la rv av)(c:Cu w B a t xv vs la av)(hl:la.length≤1000):
  ∃ao m cap w7,(Builtin.append_ #[24,24] 24 #[av,.slice (some ⟨w.heap.size,0,none⟩) 1 1]).run Tryz.prog (w.alloc (.cells #[.string t,xv] 43))= .ok (.slice ao m cap) w7∧
   w7.frozen? ⟨q,1,none⟩=false∧w7.cell? ⟨q,1,none⟩=some av∧Un (w7.setCell ⟨q,1,none⟩ (.slice ao m cap)) B q l (la++[(⟨t,vs⟩,xv)]) rv (.slice ao m cap)∧Below B w (w7.setCell ⟨q,1,none⟩ (.slice ao m cap))∧KU q w (w7.setCell ⟨q,1,none⟩ (.slice ao m cap)):=by
 have hA:Below w.heap.size w (w.alloc (.cells #[.string t,xv] 43)):=(Below.refl _ _).alloc (Nat.le_refl _) _;have hn:=un_below h hA;have cn:=cu_below c hA;have hBw:B≤w.heap.size:=Nat.le_trans h.hB (Nat.le_of_lt (kt.bld_lt h.eb));obtain⟨xo,xc,hxe,_⟩:=kt.segX_slice c.rr;obtain⟨v',w7,h1,h2,h3,h4⟩:=kt.segX_append (P:=Tryz.prog) (t:=24) (ty:=24) Tryz.underlying24 infoAt rfl (by omega) ⟨w.heap.size,0,none⟩ 1 1 (acell (⟨t,vs⟩,xv)) rfl (fun j u hj=>by rw[kt.addr_add,World.cell?_alloc_new];simpa[acell]using hj) (by intro u hu;simp[acell]at hu;rcases hu with rfl | rfl<;>(try rw[hxe])<;>rfl) hn.aa (by unfold maxLen;omega) (by omega) (Nat.le_trans hBw hA.size);obtain⟨ao,cap,rfl,hc⟩:=kt.segX_slice h2;have hq:av.ownBlock≠some q:=seg_ne hn.aa hn.eb (by decide);have he:EntB w7 q rv av:=(h3.block q (kt.bld_lt hn.eb) (fun e1=>hq e1.symm)).trans hn.eb;have h2':TR w7 B (.slice ao (la.length+1) cap) (la++[(⟨t,vs⟩,xv)]):=by unfold TR;rw[List.length_append,List.flatMap_append];simpa using h2
 have hq7:(Value.slice ao (la.length+1) cap).ownBlock≠some q:=seg_ne h2' he (by decide);have hrr:AR w7 B rv l:=seg_grown hn.rr h3 (fun k hk e1=>seg_diff hn.aa hn.rr (by decide) k hk e1);have hin: ∀y∈la++[((⟨t,vs⟩:At),xv)],SR w7 B y.2 y.1.vs:=fun y hy=>by
  rcases List.mem_append.1 hy with hy | hy
  ·exact seg_grown (hn.inn y hy) h3 (fun k hk e1=>seg_diff hn.aa (hn.inn y hy) (by decide) k hk e1)
  ·rw[List.mem_singleton]at hy;subst hy;exact seg_grown cn.rr h3 (fun k hk e1=>seg_diff hn.aa cn.rr (by decide) k hk e1)
 refine⟨ao,_,cap,w7,h1,Lib.frozen_of_heap he 1,(entB_cells he).2,⟨h.hB,entB_set1 he _,seg_set hrr (seg_ne hrr he (by decide)),seg_set h2' hq7,fun y hy=>seg_set (hin y hy) (seg_ne (hin y hy) he (by decide))⟩,?_,?_⟩
 ·exact(((hA.mono hBw).trans ((Below.refl B _).grown h3 (Nat.le_trans hBw hA.size) (fun k hk=>(kt.segX_lt hn.aa k hk).1))).setCell (p:=⟨q,1,none⟩) h.hB _)
 ·exact ku_app h.aa (Or.inr (Or.inl rfl)) _ hA h3
theorem cu_new {w:World}{B q:Nat}{l:List Av}{la:List AV}{rv av:Value}(h:Un w B q l la rv av)(t:ByteArray):Cu (w.alloc (.cells #[.string t,.slice none 0 0] 43)) B w.heap.size t (.slice none 0 0) [] la av:=⟨Nat.le_trans h.hB (Nat.le_of_lt (kt.bld_lt h.eb)),attrB_new _ _ _,kt.segX_nil _ _ _ _,fun e=>absurd (kt.segX_lt h.aa _ e).2 (Nat.lt_irrefl _),fun x hx k hk e=>by cases e⟩
theorem sr_elem {w:World}{B:Nat}{v:Value}{l:List ByteArray}(h:SR w B v l):ElemAt w v l:=by obtain⟨ao,cap,rfl,hc⟩:=kt.segX_slice h;refine⟨ao,cap,rfl,hc,fun i hi=> ?_⟩;obtain⟨g,o,cap',hv,_,_,hcell⟩:=kt.segX_cell h (by omega);simp only[Value.slice.injEq]at hv;obtain⟨rfl,_,rfl⟩:=hv;exact⟨g,o,rfl,hcell i _ (by unfold prw.scells;rw[List.getElem?_map,List.getElem?_eq_getElem hi];rfl)⟩
theorem un_ent {w:World}{B q:Nat}{l:List Av}{la:List AV}{rv av:Value}(h:Un w B q l la rv av):EntV w (.agg #[rv,av]) ⟨l,la.map Prod.fst⟩:=by
 obtain⟨ro,rc,rfl,hrc,hA⟩:=seg_avas h.rr;have hO:OwnA w B av la:=⟨h.aa,fun x hx=>⟨sr_elem (h.inn x hx),fun _ k hk=>seg_diff h.aa (h.inn x hx) (by decide) k hk⟩⟩;obtain⟨ao,n,ac,rfl,hn,hac⟩:=ownA_form hO;have hT:=ownA_ats hO;have e:n=(la.map Prod.fst).length:=by rw[List.length_map];exact hn.out
 subst e;exact⟨ro,rc,ao,ac,rfl,hrc,hac,hA,hT⟩
theorem un_forms {w:World}{B q:Nat}{l:List Av}{la:List AV}{rv av:Value}(h:Un w B q l la rv av): ∃r1 n1 c1 r2 n2 c2,rv= .slice r1 n1 c1∧av= .slice r2 n2 c2:=by obtain⟨ro,rc,rfl,_⟩:=kt.segX_slice h.rr;obtain⟨ao,ac,rfl,_⟩:=kt.segX_slice h.aa;exact⟨_,_,_,_,_,_,rfl,rfl⟩
theorem cu_form {w:World}{B a:Nat}{t:ByteArray}{xv av:Value}{vs:List ByteArray}{la:List AV}(h:Cu w B a t xv vs la av): ∃r n c,xv= .slice r n c:=by obtain⟨ro,rc,rfl,_⟩:=kt.segX_slice h.rr;exact⟨_,_,_,rfl⟩
theorem r_start (s:ByteArray):InvR s.data.toList (cntR s 0).2 1 ((cntR s 0).1:Int) []:=by
 unfold cntR;cases h:fld.take s.data.toList 0 1 with
 | ok n=>exact invR_start h
 | error e=>exact invR_none (start_none h) _ _ _ _
theorem r_step {s:ByteArray}{k n:Int}{l:List Av}(h:InvR s.data.toList false k n l)(hn:0<n):
  InvR s.data.toList ((txtR s k).2.2||(txtR s ((txtR s k).2.1:Int)).2.2) ((txtR s ((txtR s k).2.1:Int)).2.1:Int) (n-1) (l++[⟨(txtR s k).1,(txtR s ((txtR s k).2.1:Int)).1⟩]):=by
 obtain⟨h1,h2⟩:=invR_text h hn;cases e1:fld.takeT s.data.toList k with
 | error x=>exact invR_none (h1 x e1) _ _ _ _
 | ok r=>
  obtain⟨t,p⟩:=r;have f1:txtR s k=(⟨t.toArray⟩,p,false):=by unfold txtR;rw[e1]
  rw[f1];obtain⟨h3,h4⟩:=h2 t p e1;cases e2:fld.takeT s.data.toList (p:Int)with
  | error x=>exact invR_none (h3 x e2) _ _ _ _
  | ok r2=>obtain⟨v,q⟩:=r2;have f2:txtR s (p:Int)=(⟨v.toArray⟩,q,false):=(by unfold txtR;rw[e2]);simp only[f2];exact h4 v q e2
theorem r_end {s:ByteArray}{b:Bool}{k n:Int}{l:List Av}(h:InvR s.data.toList b k n l)(hn: ¬0<n∨b=true):InvA s.data.toList (b||(cntR s k).2) (k+1) ((cntR s k).1:Int) l []:=by
 rcases hn with hn | hn
 ·obtain⟨h1,h2⟩:=invR_cnt h hn;cases e1:fld.take s.data.toList k 1 with
  | error x=>exact invA_none (h1 x e1) _ _ _ _ _
  | ok c=>have f1:cntR s k=(c,false):=(by unfold cntR;rw[e1]);rw[f1,Bool.or_false];exact h2 c e1
 ·subst hn;exact invA_none (invR_bad h) _ _ _ _ _
theorem a_step {s:ByteArray}{k n:Int}{rd:List Av}{l:List At}(h:InvA s.data.toList false k n rd l)(hn:0<n):
  InvV s.data.toList ((txtR s k).2.2||(cntR s ((txtR s k).2.1:Int)).2) (((txtR s k).2.1:Int)+1) n ((cntR s ((txtR s k).2.1:Int)).1:Int) rd l (txtR s k).1 []:=by
 obtain⟨h1,h2⟩:=invA_head h hn;cases e1:fld.takeT s.data.toList k with
 | error x=>exact invV_none (h1 x e1) _ _ _ _ _ _ _ _
 | ok r=>
  obtain⟨t,p⟩:=r;have f1:txtR s k=(⟨t.toArray⟩,p,false):=by unfold txtR;rw[e1]
  rw[f1];obtain⟨h3,h4⟩:=h2 t p e1;cases e2:fld.take s.data.toList (p:Int) 1 with
  | error x=>exact invV_none (h3 x e2) _ _ _ _ _ _ _ _
  | ok c=>have f2:cntR s (p:Int)=(c,false):=(by unfold cntR;rw[e2]);simp only[f2];exact h4 c e2
theorem v_step {s:ByteArray}{k n m:Int}{rd:List Av}{l:List At}{t:ByteArray}{vs:List ByteArray}(h:InvV s.data.toList false k n m rd l t vs)(hm:0<m):
  InvV s.data.toList (txtR s k).2.2 ((txtR s k).2.1:Int) n (m-1) rd l t (vs++[(txtR s k).1]):=by
 obtain⟨h1,h2⟩:=invV_text h hm;cases e1:fld.takeT s.data.toList k with
 | error x=>exact invV_none (h1 x e1) _ _ _ _ _ _ _ _
 | ok r=>
  obtain⟨v,q⟩:=r;have f1:txtR s k=(⟨v.toArray⟩,q,false):=by unfold txtR;rw[e1]
  rw[f1];exact h2 v q e1
theorem v_end {s:ByteArray}{b:Bool}{k n m:Int}{rd:List Av}{l:List At}{t:ByteArray}{vs:List ByteArray}(h:InvV s.data.toList b k n m rd l t vs)(hm: ¬0<m∨b=true):InvA s.data.toList b k (n-1) rd (l++[⟨t,vs⟩]):=by
 rcases hm with hm | hm
 ·exact invV_done h hm
 ·subst hm;exact invA_none (invV_bad h) _ _ _ _ _
theorem a_end {s:ByteArray}{b:Bool}{k n:Int}{rd:List Av}{l:List At}(h:InvA s.data.toList b k n rd l)(hn: ¬0<n∨b=true)(hs:SmallE ⟨rd,l⟩):
  UnpE s.data.toList (if b=true∨ ¬packS ⟨rd,l⟩=(s,0)then .error 4 else .ok ⟨rd,l⟩):=by
 cases hb:b with
 | true=>subst hb;rw[if_pos (Or.inl rfl)];exact unp_none (invA_bad h)
 | false=>
  subst hb;have hn': ¬0<n:=by rcases hn with h | h;exact h;cases h
  have key:=invA_done h hn';by_cases hp:packS ⟨rd,l⟩=(s,0)
  ·rw[if_neg (by rintro(h1 | h1);cases h1;exact h1 hp)];refine unp_yes key ?_ hs;unfold packS at hp;cases hq:packE ⟨rd,l⟩with
   | error f=>
    rw[hq]at hp;simp only[Prod.mk.injEq]at hp;obtain⟨_,rfl⟩:=hp;exfalso;unfold packE at hq;split at hq
    ·cases hq
    ·split at hq<;>cases hq
   | ok x=>rw[hq]at hp;simp only[Prod.mk.injEq,and_true]at hp;rw[←hp]
  ·rw[if_pos (Or.inr hp)];refine unp_none (none_of key fun hq=>hp ?_);unfold packS;rw[hq]
end etw
open Go.RowKit
namespace bld
def Keep (b:Nat)(w w':World):Prop:= ∀ (k:Nat) (o:Obj),w.heap[k]? =some o→(∀cs f,o≠ .cells cs 5 f)→k≠b→w'.heap[k]? =some o
theorem Keep.refl (b:Nat)(w:World):Keep b w w:=fun k o h _ _=>h
theorem Keep.trans {b:Nat}{w w' w'':World}(h:Keep b w w')(h':Keep b w' w''):Keep b w w'':=fun k o h1 h2 h3=>h' k o (h k o h1 h2 h3) h2 h3
theorem Keep.set {b j:Nat}{w w':World}(h:Keep b w w')(u:Value):Keep b w (w'.setCell ⟨b,j,none⟩ u):=fun k o h1 h2 h3=>by rw[Below.heap_setCell _ _ _ _ (fun e=>h3 (by rw[e]))];exact h k o h1 h2 h3
theorem Keep.below {b:Nat}{w w':World}(h:Below w.heap.size w w'):Keep b w w':=fun k o h1 _ _=>(h.block k (lt_of_heap h1)).trans h1
theorem Keep.row {b B n:Nat}{w w' w'':World}{v:Value}{xs:List Value}(h:Keep b w w')(hown:w'.ownsRow B 5 1 v n xs)(hg:w'.grownBy w'' v.ownBlock):Keep b w w'':=fun k o h1 h2 h3=>by
 have h4:=h k o h1 h2 h3;rw[hg.block k (lt_of_heap h4) ?_]
 ·exact h4
 ·intro e;rcases hown.2 with⟨rfl,_⟩ | ⟨g,cap,cur,rfl,_,hg2,_⟩
  ·cases e
  ·have:k=g:=(by simpa[Value.ownBlock]using e);subst this;rw[h4]at hg2;exact h2 _ _ (Option.some.inj hg2)
theorem copyCheck_keep (B b:Nat)(bs:List Value)(w:World)(h:Lib.IsBuilder 133 5 B b bs w):
  Calls Tryz.prog 167 #[.pointer (some ⟨b,0,none⟩)] w fun e w'=>e= .returned (.tuple #[])∧(Lib.BuilderAt 133 5 B b (.pointer (some ⟨b,0,none⟩)) bs w'∧Below B w w'∧Keep b w w'):=by
 rcases h with h | h
 ·refine(copyCheck_fresh b w h.cell0 h.shape h.frozen0).mono ?_;rintro e w' ⟨rfl,rfl⟩;exact⟨rfl,h.used _,(Below.refl B w).setCell (p:=⟨b,0,none⟩) h.1 _,(Keep.refl b w).set _⟩
 ·refine(copyCheck_used b w h.cell0).mono ?_;rintro e w' ⟨rfl,rfl⟩;exact⟨rfl,h,Below.refl B _,Keep.refl b _⟩
theorem writeString_keep (B b:Nat)(l:List UInt8)(t:ByteArray)(w:World)(h:Is B b l w)(hlen:l.length+t.size≤140737488355328)(hBw:B≤w.heap.size):
  Calls Tryz.prog 101 #[.pointer (some ⟨b,0,none⟩),.string t] w fun e w'=>e= .returned (.tuple #[.int .i64 (t.size:Int),.nilIface])∧(Is B b (l++t.data.toList) w'∧Below B w w'∧Keep b w w'):=by
 have hbc:(Lib.byteCells l).length=l.length:=Lib.byteCells_length l;have hbc':Lib.byteCells (l++t.data.toList)=Lib.byteCells l++Lib.strCells t:=by rw[Lib.byteCells_append];rfl
 unfold Is;rw[hbc'];have h0:Lib.IsBuilder 133 5 B b (Lib.byteCells l) w:=h;clear h hbc';generalize Lib.byteCells l=bs at h0 hbc ⊢;have C:=Lib.hid (copyCheck_keep B b bs w h0);clear h0;obtain⟨i0,hi,hz0,hz1,hz2⟩:=info_parts infoByte;go_enter Tryz.func101,Tryz.ntmps101;go_wp2_with fail;refine C.out.mono ?_;rintro e w1 ⟨rfl,h1,hb1,hk1⟩;obtain⟨hB,v,hbk,hown,hne⟩:=h1;have hsz:=hb1.size;have c0:w1.cell? ⟨b,0,none⟩=some (.pointer (some ⟨b,0,none⟩)):=by rw[Lib.cell_of_heap hbk];rfl
 have c1:w1.cell? ⟨b,1,none⟩=some v:=by rw[Lib.cell_of_heap hbk];rfl
 obtain⟨v',w2,hap,hown',hgr,_⟩:=Lib.run_append_own_string (P:=Tryz.prog) w1 B 131 9 131 5 i0 Tryz.underlying131 Tryz.underlying9 hi hz0 hz1 hz2 v bs.length bs hown t (by rw[hbc];unfold maxLen;omega) (by rw[hbc];omega) (by omega);have hlt:=lt_of_heap hbk;have hbk2:w2.heap[b]? =some (.cells #[.pointer (some ⟨b,0,none⟩),v] 133 (0,0)):=by rw[hgr.block b hlt (fun e=>hne e.symm)];exact hbk
 have hb2:Below B w1 w2:=(Below.refl B w1).grown hgr (by omega) (fun k hk=>(hown.lt k hk).1);have d1:w2.cell? ⟨b,1,none⟩=some v:=by rw[Lib.cell_of_heap hbk2];rfl
 have f1:w2.frozen? ⟨b,1,none⟩=false:=Lib.frozen_of_heap hbk2 1;have hown2:w2.ownsRow B 5 1 v' (bs++Lib.strCells t).length (bs++Lib.strCells t):=by rw[List.length_append,Lib.strCells_length];exact hown'
 obtain⟨ao,n,cap,rfl,hn⟩:=kt.row_form hown2;have H1:=Lib.hid hown2;have HK:=Lib.hid (hk1.row hown hgr);have HB:=Lib.hid hbk2;clear hk1 hown' hown hbk2 hbk hne hgr C hown2;go_wp2_with (at_builtin;refine Lib.wpList_append_run _ rfl _ _ _ _ rfl _ _ rfl rfl _ _ hap ?_);go_ret2;exact⟨rfl,Or.inr (Lib.BuilderAt.put hB HB.out H1.out (by decide)),(hb1.trans hb2).setCell (p:=⟨b,1,none⟩) hB _,HK.out.set _⟩
theorem writeByte_keep (B b:Nat)(l:List UInt8)(c:UInt8)(w:World)(h:Is B b l w)(hlen:l.length+1≤140737488355328)(hBw:B≤w.heap.size):
  Calls Tryz.prog 128 #[.pointer (some ⟨b,0,none⟩),.int .u8 (c.toNat:Int)] w fun e w'=>e= .returned .nilIface∧(Is B b (l++[c]) w'∧Below B w w'∧Keep b w w'):=by
 have hbc:(Lib.byteCells l).length=l.length:=Lib.byteCells_length l;have hbc':Lib.byteCells (l++[c])=Lib.byteCells l++[.int .u8 (c.toNat:Int)]:=by rw[Lib.byteCells_append];rfl
 unfold Is;rw[hbc'];have h0:Lib.IsBuilder 133 5 B b (Lib.byteCells l) w:=h;clear h hbc';generalize Lib.byteCells l=bs at h0 hbc ⊢;have C:=Lib.hid (copyCheck_keep B b bs w h0);clear h0;go_enter Tryz.func128,Tryz.ntmps128;go_wp2_with fail;refine C.out.mono ?_;rintro e w1 ⟨rfl,h1,hb1,hk1⟩;obtain⟨hB,v,hbk,hown,hne⟩:=h1;have hsz:=hb1.size;have c0:w1.cell? ⟨b,0,none⟩=some (.pointer (some ⟨b,0,none⟩)):=by rw[Lib.cell_of_heap hbk];rfl
 have c1:w1.cell? ⟨b,1,none⟩=some v:=by rw[Lib.cell_of_heap hbk];rfl
 obtain⟨v',w2,hap,hown',hgr,hb2⟩:=kt.app1 (P:=Tryz.prog) (ty:=131) Tryz.underlying131 infoByte rfl (.int .u8 (c.toNat:Int)) rfl hown (by rw[hbc];unfold maxLen;omega) (by rw[hbc];omega) (by omega);have hlt:=lt_of_heap hbk;have hbk2:w2.heap[b]? =some (.cells #[.pointer (some ⟨b,0,none⟩),v] 133 (0,0)):=by rw[hgr.block b hlt (fun e=>hne e.symm)];exact hbk
 have d1:w2.cell? ⟨b,1,none⟩=some v:=by rw[Lib.cell_of_heap hbk2];rfl
 have f1:w2.frozen? ⟨b,1,none⟩=false:=Lib.frozen_of_heap hbk2 1;obtain⟨ao,n,cap,rfl,hn⟩:=kt.row_form hown';have H1:=Lib.hid hown';have HKK:=Lib.hid (hk1.row hown hgr);have H2:=Lib.hid hown;have HB:=Lib.hid hbk2;have HK:=Lib.hid hbk;have HN:=Lib.hid hne;have HG:=Lib.hid hgr;clear hk1 hown' hown hbk2 hbk hne hgr C;go_wp2_with (at_builtin;refine Lib.wpList_append_run _ rfl _ _ _ _ rfl _ _ rfl rfl _ _ hap ?_);go_ret;exact⟨rfl,Or.inr (Lib.BuilderAt.put hB HB.out H1.out (by decide)),(hb1.trans hb2).setCell (p:=⟨b,1,none⟩) hB _,HKK.out.set _⟩
end bld
open Go.RowKit
namespace etw
open atp atw etp
open dnw (Av Avas)
open tupw (Strs strs_below)
open bld (Is Keep)
theorem isb_below {B b:Nat}{l:List UInt8}{w w':World}(h:Is B b l w)(hb:Below w.heap.size w w'):Is B b l w':=by
 rcases h with⟨h1,v,h2,h3,h4⟩ | ⟨h1,v,h2,h3,h4⟩
 ·exact Or.inl ⟨h1,v,(hb.block b (kt.bld_lt h2)).trans h2,kt.row_below h3 hb,h4⟩
 ·exact Or.inr ⟨h1,v,(hb.block b (kt.bld_lt h2)).trans h2,kt.row_below h3 hb,h4⟩
theorem isb_lt {B b:Nat}{l:List UInt8}{w:World}(h:Is B b l w):b<w.heap.size:=by rcases h with⟨_,v,h2,_⟩ | ⟨_,v,h2,_⟩<;>exact kt.bld_lt h2
theorem entB_lt {w w':World}{p b:Nat}{r a:Value}(h:EntB w p r a)(hb:Below b w w')(hp:p<b):EntB w' p r a:=(hb.block p hp).trans h
theorem avaB_keep {w w':World}{p b:Nat}{x y:ByteArray}(h:AvaB w p x y)(hk:Keep b w w')(hp:p≠b):AvaB w' p x y:=hk p _ h (fun cs f e=>by injection e with _ e2 _;exact absurd e2 (by decide)) hp
theorem attrB_keep {w w':World}{p b:Nat}{x:ByteArray}{y:Value}(h:AttrB w p x y)(hk:Keep b w w')(hp:p≠b):AttrB w' p x y:=hk p _ h (fun cs f e=>by injection e with _ e2 _;exact absurd e2 (by decide)) hp
theorem pclo_any (B b:Nat)(l:List UInt8)(s:ByteArray)(w:World)(h:Hid (Is B b l w))(hl:l.length≤1000000000)(hs:s.size≤5000)(hB:B≤w.heap.size):
  Calls Tryz.prog 126 #[.string s,.pointer (some ⟨b,0,none⟩)] w fun e w'=>e= .returned (.tuple #[])∧(Is B b (l++txt s) w'∧Below B w w'∧Keep b w w'):=by
 have hT:Calls Tryz.prog 127 #[.string {data:=#[]},.string s] w fun e w'=>e= .returned (.tuple #[.string (txtS s),.int .i64 0])∧Below w.heap.size w w':=by have:=fldw.text_any {data:=#[]} s w (by show 0≤_;omega) (by omega);unfold fldw.textV at this;rw[if_neg (by omega)]at this;exact this
 have HT:=Lib.hid hT;have hz:(txtS s).size≤5002:=by rw[txtS_size];omega
 have HL:=Lib.hid (txtS_list s);clear hT;rw[←HL.out];generalize txtS s=x at HT hz ⊢;go_enter Tryz.func126,Tryz.ntmps126;go_wp2_with fail;refine HT.out.mono ?_;rintro e w1 ⟨rfl,hB1⟩;have HW:=Lib.hid (bld.writeString_keep B b l x w1 (isb_below h.out hB1) (by omega) (Nat.le_trans hB hB1.size));have HB1:=Lib.hid (hB1.mono hB);have HK1:=Lib.hid (Keep.below (b:=b) hB1);clear hB1;go_wp2_with fail;refine HW.out.mono ?_;rintro e w2 ⟨rfl,h2,h3,h4⟩;have H2:=Lib.hid h2;have H3:=Lib.hid (HB1.out.trans h3);have H4:=Lib.hid (HK1.out.trans h4);clear h2 h3 h4 HW;go_wp2_with fail;go_end0;exact⟨rfl,H2.out,H3.out,H4.out⟩
theorem pack_any (v:Value)(E:En)(w:World)(hv:Hid (EntV w v E))(hb:Hid (Pk E))(hE:Hid (EnvE w)):
  Calls Tryz.prog 66 #[v] w fun e w'=>e= .returned (.tuple #[.string (packS E).1,.int .i64 (packS E).2])∧Below w.heap.size w w':=by
 have HBD:=Lib.hid (pk_bd hb.out);have HRI0:Hid (∀W,Below w.heap.size w W→Calls Tryz.prog 71 #[v] W fun e w'=>e= .returned (.bool (rightE E))∧Below W.heap.size W w'):=fun W h=>right_any v E W (Lib.hid (entV_below hv.out h)) HBD (Lib.hid (envE_below hE.out h));have HRS:=Lib.hid hb.out.rs;have HAS:=Lib.hid hb.out.as_;have HRES:=Lib.hid (packS_eq E);obtain⟨ro,rc,ao,ac,Nr,N,rfl,HN,HA,hac,HNr,HAv,hrc⟩:=ent_form hv.out;have hNr:Nr≤255:=by rw[←HNr.out];exact hb.out.rl
 have hN:N≤255:=by rw[←HN.out];exact hb.out.al
 have HPB:Hid (packB E=UInt8.ofNat E.rdn.length::(etp.encR E.rdn++(UInt8.ofNat E.ats.length::encL E.ats))):=rfl;rw[HN.out,HNr.out]at HPB;obtain⟨PB,hPB⟩: ∃l,packB E=l:=⟨_,rfl⟩;obtain⟨PS,hPS⟩: ∃l,packS E=l:=⟨_,rfl⟩;rw[hPB]at HPB HRES;rw[hPS]at HRES ⊢;clear hPB hPS;obtain⟨W1,hW1⟩: ∃W,w.alloc (.cells #[.slice ro Nr rc,.slice ao N ac] 26)=W:=⟨_,rfl⟩;have hB1:Below w.heap.size w W1:=by rw[←hW1];exact(Below.refl _ _).alloc (Nat.le_refl _) _
 have HT1:Hid (EntB W1 w.heap.size (.slice ro Nr rc) (.slice ao N ac)):=by rw[←hW1];exact entB_new _ _ _
 obtain⟨k0,k1⟩:=entB_cells HT1.out;have HB1:=Lib.hid hB1;have HRI:=Lib.hid (HRI0.out W1 hB1);generalize rightE E=rt at HRI HRES;obtain⟨rdn,L⟩:=E;simp only at HN HA HNr HAv HRS HAS HPB;clear hB1 HRI0 hv hb HBD hE;go_enter Tryz.func66,Tryz.ntmps66;cases rt with
 | false=>rw[if_pos rfl]at HRES;go_wp2_with fail;refine HRI.out.mono ?_;rintro e w2 ⟨rfl,hB2⟩;have HBE:=Lib.hid (HB1.out.trans (hB2.mono HB1.out.size));clear hB2 k0 k1 hW1;go_wp2_with fail;go_ret2;exact⟨by rw[HRES.out];rfl,HBE.out⟩
 | true=>
  rw[if_neg (by decide)]at HRES;go_wp2_with fail;refine HRI.out.mono ?_;rintro e w2 ⟨rfl,hB2⟩;have HB2:=Lib.hid (HB1.out.trans (hB2.mono HB1.out.size));have HT2:=Lib.hid (entB_below HT1.out hB2);clear hB2 k0 k1 hW1 HRI;have hwb:w.heap.size<w2.heap.size:=kt.bld_lt HT2.out;obtain⟨w3,hw3⟩: ∃W,w2.alloc (.cells #[.pointer none,.slice none 0 0] 133)=W:=⟨_,rfl⟩;have hB3:Below w2.heap.size w2 w3:=by rw[←hw3];exact(Below.refl _ _).alloc (Nat.le_refl _) _
  have hI3:Is w2.heap.size w2.heap.size [] w3:=by rw[←hw3];exact bld.fresh w2
  have HT3:=Lib.hid (entB_below HT2.out hB3);have HB3:=Lib.hid (HB2.out.trans (hB3.mono HB2.out.size));have hz3:=hB3.size;obtain⟨b,hbb⟩: ∃b,w2.heap.size=b:=⟨_,rfl⟩;rw[hbb]at hI3 hwb hz3;have hwle:w.heap.size≤b:=Nat.le_of_lt hwb;have HWB0:Hid (∀ (n:Nat) (l:List UInt8) W,n≤255→Is b b l W→l.length≤1000000000→b≤W.heap.size→Calls Tryz.prog 128 #[.pointer (some ⟨b,0,none⟩),.int .u8 (n:Int)] W fun e w'=>e= .returned .nilIface∧(Is b b (l++[UInt8.ofNat n]) w'∧Below b W w'∧Keep b W w')):=by intro n l W hn hi hl hbW;have:=bld.writeByte_keep b b l (UInt8.ofNat n) W hi (by omega) hbW;rw[ofNat_toNat hn]at this;exact this
  have HCL0:Hid (∀ (s:ByteArray) (l:List UInt8) W,s.size≤5000→Is b b l W→l.length≤1000000000→b≤W.heap.size→Calls Tryz.prog 126 #[.string s,.pointer (some ⟨b,0,none⟩)] W fun e w'=>e= .returned (.tuple #[])∧(Is b b (l++txt s) w'∧Below b W w'∧Keep b W w')):=fun s l W hs hi hl hbW=>pclo_any b b l s W (Lib.hid hi) hl hs hbW;have HWB:=Lib.hid (HWB0.out Nr [] w3 hNr hI3 (by simp) hz3);obtain⟨k0,k1⟩:=entB_cells HT3.out;have hwN:IntKind.u8.wrap (Nr:Int)=(Nr:Int):=IntWalk.u8_in _ (by omega);clear hB3 hI3 hz3;go_wp2_with fail;refine HWB.out.mono ?_;rintro e w4 ⟨rfl,hI4,hB4,_⟩;obtain⟨cn,hcn⟩: ∃c,UInt8.ofNat Nr=c:=⟨_,rfl⟩;rw[hcn,List.nil_append]at hI4;rw[hcn]at HPB;obtain⟨dn,hdn⟩: ∃c,UInt8.ofNat N=c:=⟨_,rfl⟩;rw[hdn]at HPB;have HDN:=Lib.hid hdn;have HI4:=Lib.hid hI4;have HT4:=Lib.hid (entB_lt HT3.out hB4 hwb);have HB4:=Lib.hid (HB3.out.trans (hB4.mono hwle));have HLT4:=Lib.hid (isb_lt hI4);obtain⟨m0,m1⟩:=entB_cells HT4.out;clear hI4 hB4 k0 k1 HWB hw3 hbb hcn hdn hwN;go_wp2_with fail;clear m0 m1;go_loopw [24] (fun iv wr=> ∃i:Nat,i≤Nr∧iv= .int .i64 (i:Int)∧Hid (Is b b (cn::etp.encR (rdn.take i)) wr)∧Hid ((etp.encR (rdn.take i)).length≤i*11000)∧Hid (Below b w4 wr)) (fun iv _=>Nr- (intOf iv).toNat);case atStart=>exact⟨0,Nat.zero_le _,rfl,HI4.out,Nat.zero_le _,Below.refl _ _⟩
  case round=>
   obtain⟨i,hi,rfl,hI,hLN,hBr⟩:=hrel;have HBr:=Lib.hid (HB4.out.trans (hBr.out.mono hwle));have hbr:b<wr.heap.size:=Nat.lt_of_lt_of_le HLT4.out hBr.out.size;by_cases hlt:i<Nr
   ·have hltI:(i:Int)<(Nr:Int):=(by omega);have hil:i<rdn.length:=(by rw[HNr.out];exact hlt);obtain⟨g,o,hro,x0,x1⟩:=(dnw.avas_below HAv.out HBr.out) i hil;subst hro;have HSN:=Lib.hid (encR_snoc hil);have hbd:=HRS.out rdn[i] (List.getElem_mem _);obtain⟨a,ha⟩: ∃a,rdn[i]=a:=⟨_,rfl⟩;rw[ha]at HSN hbd x0 x1;obtain⟨Wa,hWa⟩: ∃W,wr.alloc (.cells #[.string a.t,.string a.v] 51)=W:=⟨_,rfl⟩;have hBa:Below wr.heap.size wr Wa:=(by rw[←hWa];exact(Below.refl _ _).alloc (Nat.le_refl _) _);have HTa:Hid (AvaB Wa wr.heap.size a.t a.v):=(by rw[←hWa];exact avaB_new _ _ _);obtain⟨y0,y1⟩:=avaB_cells HTa.out;have hIa:=isb_below hI.out hBa;have hlr:=hLN.out;have HC1:=Lib.hid (HCL0.out a.t _ Wa (by omega) hIa (by simp only[List.length_cons];omega) (Nat.le_trans (Nat.le_of_lt hbr) hBa.size));have HBa:=Lib.hid (hBr.out.trans (hBa.mono (Nat.le_of_lt hbr)));have hl1:=txt_len a.t;have hl2:=txt_len a.v;have HLN2:Hid ((etp.encR (rdn.take (i+1))).length≤(i+1)*11000):=(by show _≤_;rw[HSN.out,List.length_append,List.length_append];omega);have HL1:Hid ((cn::etp.encR (rdn.take i)++txt a.t).length≤1000000000):=(by show _≤_;simp only[List.length_append,List.length_cons];omega);have HEQ:Hid (cn::etp.encR (rdn.take i)++txt a.t++txt a.v=cn::etp.encR (rdn.take (i+1))):=(by show _=_;rw[HSN.out];simp);have hvs:=hbd.2;clear ha hbd hBa hIa hlr hl1 hl2;go_wp2_with fail;refine HC1.out.mono ?_;rintro e w5 ⟨rfl,hI5,hB5,hK5⟩;have HB5:=Lib.hid (HBa.out.trans hB5);have HT5:=Lib.hid (avaB_keep HTa.out hK5 (Nat.ne_of_gt hbr));have HC2:=Lib.hid (HCL0.out a.v _ w5 hvs hI5 HL1.out (Nat.le_trans (Nat.le_of_lt (Nat.lt_of_lt_of_le hbr (by have:=HBa.out.size;exact Nat.le_trans (by rw[←hWa];simp) hB5.size))) (Nat.le_refl _)));clear hI5 hB5 hK5 y0 y1 x0 x1 hWa HC1;obtain⟨z0,z1⟩:=avaB_cells HT5.out;go_wp2_with fail;refine HC2.out.mono ?_;rintro e w6 ⟨rfl,hI6,hB6,hK6⟩;rw[HEQ.out]at hI6;have HI6:=Lib.hid hI6;have HB6:=Lib.hid (HB5.out.trans hB6);clear hI6 hB6 hK6 z0 z1 HC2;go_wp2_with fail;go_roundw;case rel=>exact⟨i+1,by omega,by go_num,HI6.out,HLN2,HB6⟩
    case measure=>simp[intOf];omega
   ·obtain rfl:Nr=i:=(by omega);have hfull:rdn.take Nr=rdn:=List.take_of_length_le (by rw[HNr.out];omega);rw[hfull]at hI hLN;have HTr:=Lib.hid (entB_lt HT4.out hBr.out hwb);obtain⟨m0,m1⟩:=entB_cells HTr.out;have hlr:=hLN.out;have HWB:=Lib.hid (HWB0.out N _ wr hN hI.out (by simp only[List.length_cons];omega) (Nat.le_of_lt hbr));rw[HDN.out]at HWB;have hwN:IntKind.u8.wrap (N:Int)=(N:Int):=IntWalk.u8_in _ (by omega);have HQL:Hid ((cn::etp.encR rdn++[dn]).length≤3000000):=(by show _≤_;simp only[List.length_append,List.length_cons,List.length_nil];omega);clear hfull hlr;go_wp2_with fail;refine HWB.out.mono ?_;rintro e w5 ⟨rfl,hI5,hB5,_⟩;have HI5:=Lib.hid hI5;have HB5:=Lib.hid (hBr.out.trans hB5);have HT5:=Lib.hid (entB_lt HTr.out hB5 hwb);have HW5:=Lib.hid (HB4.out.trans (HB5.out.mono hwle));have HLT5:=Lib.hid (isb_lt hI5);obtain⟨Q,hQ⟩: ∃Q,cn::etp.encR rdn++[dn]=Q:=⟨_,rfl⟩;rw[hQ]at HI5 HQL;have HPQ:Hid (PB=Q++encL L):=(by show _=_;rw[HPB.out,←hQ];simp);clear hI5 hB5 m0 m1 HWB hwN hQ HPB hI hLN hBr HBr HTr hbr hi HB5;obtain⟨m0,m1⟩:=entB_cells HT5.out;go_wp2_with fail;clear m0 m1;go_loopw [45] (fun iv wr=> ∃i:Nat,i≤N∧iv= .int .i64 (i:Int)∧Hid (Is b b (Q++encL (L.take i)) wr)∧Hid ((encL (L.take i)).length≤i*1400000)∧Hid (Below b w5 wr)) (fun iv _=>N- (intOf iv).toNat);case atStart=>exact⟨0,Nat.zero_le _,rfl,(by have h:=HI5.out;rw[show Q++encL (L.take 0)=Q from by simp[encL]];exact h),Nat.zero_le _,Below.refl _ _⟩
    case round=>
     obtain⟨i,hi,rfl,hI,hLN,hBr⟩:=hrel;have HBr:=Lib.hid (HW5.out.trans (hBr.out.mono hwle));have hbr:b<wr.heap.size:=Nat.lt_of_lt_of_le HLT5.out hBr.out.size;by_cases hlt:i<N
     ·have hltI:(i:Int)<(N:Int):=(by omega);have hil:i<L.length:=(by rw[HN.out];exact hlt);have HSN:=Lib.hid (encL_snoc hil);have HAE:Hid (encA L[i]=txt L[i].t++(UInt8.ofNat L[i].vs.length::encV L[i].vs)):=rfl;obtain⟨g,o,ax,cx,hao,x0w,x1w,hcx,hST⟩:=HA.out i hil;have x0:=(HBr.out.cell (World.block_lt_of_cell? w _ x0w)).trans x0w;have x1:=(HBr.out.cell (World.block_lt_of_cell? w _ x1w)).trans x1w;clear x0w x1w;have hbd:=HAS.out L[i] (List.getElem_mem _);obtain⟨tt,htt⟩: ∃t,L[i].t=t:=⟨_,rfl⟩;obtain⟨vs,hvs⟩: ∃t,L[i].vs=t:=⟨_,rfl⟩;rw[htt]at HAE x0 hbd;rw[hvs]at HAE x1 hcx hST hbd;clear htt hvs;subst hao;obtain⟨M,hM⟩: ∃M,vs.length=M:=⟨_,rfl⟩;rw[hM]at HAE x1 hcx hbd;have HM:=Lib.hid hM;have hM255:M≤255:=hbd.2.1;have HVB:=Lib.hid hbd.2.2;have htz:=hbd.1;have HTZ:=Lib.hid hbd.1;have HSX:Hid (∀W,Below w.heap.size w W→Strs W ax vs):=fun W h=>strs_below hST h;obtain⟨mb,hmb⟩: ∃c,UInt8.ofNat M=c:=⟨_,rfl⟩;rw[hmb]at HAE;obtain⟨Wa,hWa⟩: ∃W,wr.alloc (.cells #[.string tt,.slice ax M cx] 43)=W:=⟨_,rfl⟩;have hBa:Below wr.heap.size wr Wa:=(by rw[←hWa];exact(Below.refl _ _).alloc (Nat.le_refl _) _);have HTa:Hid (AttrB Wa wr.heap.size tt (.slice ax M cx)):=(by rw[←hWa];exact attrB_new _ _ _);obtain⟨y0,y1⟩:=attrB_cells HTa.out;have hIa:=isb_below hI.out hBa;have hlr:=hLN.out;have hql:=HQL.out;have HC1:=Lib.hid (HCL0.out tt _ Wa htz hIa (by simp only[List.length_append];omega) (Nat.le_trans (Nat.le_of_lt hbr) hBa.size));have HBa:=Lib.hid (hBr.out.trans (hBa.mono (Nat.le_of_lt hbr)));have hl1:=txt_len tt;have HL1:Hid ((Q++encL (L.take i)++txt tt).length≤1000000000):=(by show _≤_;simp only[List.length_append];omega);have HQ1:Hid ((Q++encL (L.take i)++txt tt++[mb]).length≤3000000+i*1400000+6000):=(by show _≤_;simp only[List.length_append,List.length_cons,List.length_nil];omega);have hga:b≤Wa.heap.size:=Nat.le_trans (Nat.le_of_lt hbr) hBa.size;have hwM:IntKind.u8.wrap (M:Int)=(M:Int):=IntWalk.u8_in _ (by omega);have HQA:=Lib.hid hbr;clear hM hbd htz hST hBa hIa hlr hl1 hql;go_wp2_with fail;refine HC1.out.mono ?_;rintro e w6 ⟨rfl,hI6,hB6,hK6⟩;have HB6:=Lib.hid (HBa.out.trans hB6);have HT6:=Lib.hid (attrB_keep HTa.out hK6 (Nat.ne_of_gt hbr));have HWB:=Lib.hid (HWB0.out M _ w6 hM255 hI6 HL1.out (Nat.le_trans hga hB6.size));rw[hmb]at HWB;have hgb:=Nat.le_trans hga hB6.size;clear hI6 hB6 hK6 y0 y1 x0 x1 HC1 hWa hga hmb;obtain⟨z0,z1⟩:=attrB_cells HT6.out;go_wp2_with fail;refine HWB.out.mono ?_;rintro e w7 ⟨rfl,hI7,hB7,hK7⟩;have HB7:=Lib.hid (HB6.out.trans hB7);have HT7:=Lib.hid (attrB_keep HT6.out hK7 (Nat.ne_of_gt hbr));obtain⟨P1,hP1⟩: ∃l,Q++encL (L.take i)++txt tt++[mb]=l:=⟨_,rfl⟩;rw[hP1]at hI7 HQ1;have HI7:=Lib.hid hI7;have htz2:tt.size≤5000:=HTZ.out;have HND:Hid (Q++encL (L.take (i+1))=P1++encV vs):=(by show _=_;rw[←hP1,HSN.out,HAE.out];simp);have HLE:Hid ((encL (L.take (i+1))).length=(encL (L.take i)).length+(3+tt.size)+(encV vs).length):=(by show _=_;rw[HSN.out,HAE.out];simp only[List.length_append,List.length_cons,txt_len];omega);have hgc:=Nat.le_trans hgb hB7.size;clear hI7 hB7 hK7 z0 z1 HWB hwM hP1 hgb;obtain⟨z0,z1⟩:=attrB_cells HT7.out;have HWW:=Lib.hid (HW5.out.trans (HB7.out.mono hwle));go_wp2_with fail;clear z0 z1;go_loopw [61] (fun jv wr=> ∃j:Nat,j≤M∧jv= .int .i64 (j:Int)∧Hid (Is b b (P1++encV (vs.take j)) wr)∧Hid ((encV (vs.take j)).length≤j*5010)∧Hid (Below b w7 wr)) (fun jv _=>M- (intOf jv).toNat);case atStart=>exact⟨0,Nat.zero_le _,rfl,(by have h:=HI7.out;rw[show P1++encV (vs.take 0)=P1 from by simp[encV]];exact h),Nat.zero_le _,Below.refl _ _⟩
      case round=>
       obtain⟨j,hj,rfl,hI3,hLN3,hBr3⟩:=hrel;have HBr3:=Lib.hid (HWW.out.trans (hBr3.out.mono hwle));have hbr3:b≤wr.heap.size:=Nat.le_trans hgc hBr3.out.size;by_cases hlt3:j<M
       ·have hltI3:(j:Int)<(M:Int):=(by omega);have hjl:j<vs.length:=(by rw[HM.out];exact hlt3);obtain⟨g2,og,hax,q0⟩:=HSX.out wr HBr3.out j hjl;subst hax;have HSN3:=Lib.hid (encV_snoc hjl);have hyb:=HVB.out vs[j] (List.getElem_mem _);obtain⟨y,hy⟩: ∃y,vs[j]=y:=⟨_,rfl⟩;rw[hy]at HSN3 hyb q0;have hq1:=HQ1.out;have hl3:=hLN3.out;have hl4:=txt_len y;have HC3:=Lib.hid (HCL0.out y _ wr hyb hI3.out (by simp only[List.length_append];omega) hbr3);have HEQ3:Hid (P1++encV (vs.take j)++txt y=P1++encV (vs.take (j+1))):=(by show _=_;rw[HSN3.out];simp);have HLN4:Hid ((encV (vs.take (j+1))).length≤(j+1)*5010):=(by show _≤_;rw[HSN3.out,List.length_append];omega);clear hy hyb hq1 hl3 hl4;go_wp2_with fail;refine HC3.out.mono ?_;rintro e w8 ⟨rfl,hI8,hB8,_⟩;rw[HEQ3.out]at hI8;have HI8:=Lib.hid hI8;have HB8:=Lib.hid (hBr3.out.trans hB8);clear hI8 hB8 q0 HC3;go_wp2_with fail;go_roundw;case rel=>exact⟨j+1,by omega,by go_num,HI8.out,HLN4,HB8⟩
        case measure=>simp[intOf];omega
       ·obtain rfl:M=j:=(by omega);have hfull:vs.take M=vs:=List.take_of_length_le (by rw[HM.out];omega);rw[hfull,←HND.out]at hI3;rw[hfull]at hLN3;have HLN5:Hid ((encL (L.take (i+1))).length≤(i+1)*1400000):=(by show _≤_;have h1:=HLE.out;have h2:=hLN3.out;have h3:=hLN.out;omega);have HB8:=Lib.hid (HB7.out.trans hBr3.out);clear hfull;go_wp2_with fail;go_roundw;case rel=>exact⟨i+1,by omega,by go_num,hI3.out,HLN5,HB8⟩
        case measure=>simp[intOf];omega
     ·obtain rfl:N=i:=(by omega);have hfull:L.take N=L:=List.take_of_length_le (by rw[HN.out];omega);rw[hfull,←HPQ.out]at hI;have HLN:=Lib.hid (Tryz.Builder_Len b b _ wr hI.out);rw[Lib.byteCells_length]at HLN;have HST:=Lib.hid (Tryz.Builder_String_any b b PB wr hI.out (Nat.le_of_lt hbr));clear hfull;by_cases hbig:4000<PB.length
      ·have hbig':(4000:Int)<(PB.length:Int):=(by omega);rw[if_pos hbig]at HRES;go_wp2_with fail;refine HLN.out.mono ?_;rintro e w6 ⟨rfl,rfl⟩;go_wp2_with fail;go_ret2;exact⟨by rw[HRES.out];rfl,HBr.out⟩
      ·have hbig': ¬ (4000:Int)<(PB.length:Int):=(by omega);rw[if_neg hbig]at HRES;go_wp2_with fail;refine HLN.out.mono ?_;rintro e w6 ⟨rfl,rfl⟩;go_wp2_with fail;refine HST.out.mono ?_;rintro e w7 ⟨rfl,hB7⟩;go_wp2_with fail;go_ret2;refine⟨by rw[HRES.out];rfl,?_⟩;exact HBr.out.trans (Below.mono (by assumption) hwle)
end etw
end Go.Proofs.YtmnpfkbjpeaemaaGreatDoor
