/- One text out of several: SchD, SchC, SchR. -/
import Derived.Test.YtmnpfkbjpeaemaaGreatDoorP7
import Derived.Test.YtmnpfkbjpeaemaaGreatDoorP9
set_option linter.unusedVariables false
set_option linter.unusedSimpArgs false
set_option maxRecDepth 20000
set_option maxHeartbeats 16000000
namespace Go.Proofs.YtmnpfkbjpeaemaaGreatDoor
open Go.RowKit
namespace scw
open scp atp atw etp etw
open tupw (Strs strs_below)
def tc (x:T):Value:= .string (bs x)
def SegT (w:World)(q:Nat)(v:Value)(l:List T):Prop:=kt.SegX w q 9 1 v l.length (l.map tc)
theorem segT_nil (w:World)(q:Nat):SegT w q (.slice none 0 0) []:=kt.segX_nil _ _ _ _
theorem segT_below {w w':World}{q:Nat}{v:Value}{l:List T}(h:SegT w q v l)(hb:Below w.heap.size w w'):SegT w' q v l:=kt.segX_below h hb
theorem segT_elem {w:World}{q:Nat}{v:Value}{l:List T}(h:SegT w q v l):ElemAt w v (l.map bs):=by obtain⟨ao,cap,rfl,hc⟩:=kt.segX_slice h;refine⟨ao,cap,by rw[List.length_map],by rw[List.length_map];exact hc,fun i hi=> ?_⟩;rw[List.length_map]at hi;obtain⟨g,o,cap',hv,_,_,hcell⟩:=kt.segX_cell h (by omega);simp only[Value.slice.injEq]at hv;obtain⟨rfl,_,_⟩:=hv;refine⟨g,o,rfl,?_⟩;rw[hcell i _ (by rw[List.getElem?_map,List.getElem?_eq_getElem hi];rfl)];rw[List.getElem_map];rfl
theorem segT_app {w:World}{q:Nat}{v x:Value}{l ys:List T}(h:SegT w q v l)(hx:ElemAt w x (ys.map bs))(hl:l.length≤10000000)(hy:ys.length≤10000000)(hB:q≤w.heap.size):
  ∃v' w1,(Builtin.append_ #[35,35] 35 #[v,x]).run Tryz.prog w= .ok v' w1∧SegT w1 q v' (l++ys)∧w.grownBy w1 v.ownBlock∧kt.SameOrNew w v v':=by
 obtain⟨a,c,rfl,hc,hs⟩:=hx;rw[List.length_map]at hc ⊢;cases a with
 | none=>
  have h0:ys=[]:=by
   cases ys with
   | nil=>rfl
   | cons y t=>obtain⟨b,o,e,_⟩:=hs 0 (by simp);cases e
  subst h0;obtain⟨i0,hi,_⟩:=info_parts prw.infoStr;refine⟨v,w,?_,by rw[List.append_nil];exact h,⟨rfl,rfl,rfl,Nat.le_refl _,fun _ _ _=>rfl⟩,fun k hk=>Or.inl hk⟩;obtain⟨ao,cap,rfl,hnc⟩:=kt.segX_slice h;cases ao with
  | none=>
   rcases h.2 with⟨hv,hn⟩ | ⟨g,o,cap',pre,post,hv,_⟩
   ·simp only[Value.slice.injEq]at hv;obtain⟨_,h1,rfl⟩:=hv;rw[h1];simp[Builtin.append_,run_underlying Tryz.underlying35,sizeOf,typeInfo,hi,Builtin.lenOf,Builtin.firstCells]
   ·cases hv
  | some ad=>simp[Builtin.append_,run_underlying Tryz.underlying35,sizeOf,typeInfo,hi,Builtin.lenOf,Builtin.firstCells,hnc,storeCells]
 | some ad=>
  obtain⟨v',w1,h1,h2,h3,h4⟩:=kt.segX_append (P:=Tryz.prog) (t:=35) (ty:=35) Tryz.underlying35 prw.infoStr rfl (by decide) ad ys.length c (ys.map tc) (by simp) (fun j u hj=>by
   rw[List.getElem?_map]at hj;cases hy2:ys[j]? with
   | none=>rw[hy2]at hj;cases hj
   | some y=>rw[hy2]at hj;cases hj;have hj':j<ys.length:=(List.getElem?_eq_some_iff.1 hy2).1;obtain⟨b,o,e,hcell⟩:=hs j (by rw[List.length_map];exact hj');have e':ad=⟨b,o,none⟩:=(by simpa using e);rw[e',Addr.add_mid,hcell,List.getElem_map];have:=(List.getElem?_eq_some_iff.1 hy2).2;rw[this];rfl) (fun u hu=>by obtain⟨s,_,rfl⟩:=List.mem_map.1 hu;rfl) h (by unfold maxLen;omega) (by omega) hB
  refine⟨v',w1,h1,?_,h3,h4⟩;unfold SegT;rw[List.length_append,List.map_append];exact h2
def Tw (w:World)(q:Nat)(mv yv:Value)(lm ly:List T):Prop:=SegT w q mv lm∧SegT w q yv ly∧ ∀k,mv.ownBlock=some k→yv.ownBlock≠some k
theorem tw_nil (w:World)(q:Nat):Tw w q (.slice none 0 0) (.slice none 0 0) [] []:=⟨segT_nil _ _,segT_nil _ _,fun k hk=>by cases hk⟩
theorem tw_below {w w':World}{q:Nat}{mv yv:Value}{lm ly:List T}(h:Tw w q mv yv lm ly)(hb:Below w.heap.size w w'):Tw w' q mv yv lm ly:=⟨segT_below h.1 hb,segT_below h.2.1 hb,h.2.2⟩
theorem tw_swap {w:World}{q:Nat}{mv yv:Value}{lm ly:List T}(h:Tw w q mv yv lm ly):Tw w q yv mv ly lm:=⟨h.2.1,h.1,fun k hk h2=>h.2.2 k h2 hk⟩
theorem tw_app {w:World}{q:Nat}{mv yv x:Value}{lm ly ys:List T}(h:Tw w q mv yv lm ly)(hx:ElemAt w x (ys.map bs))(hl:lm.length≤10000000)(hy:ys.length≤10000000)(hB:q≤w.heap.size):
  ∃v' w1,(Builtin.append_ #[35,35] 35 #[mv,x]).run Tryz.prog w= .ok v' w1∧Tw w1 q v' yv (lm++ys) ly∧Below q w w1∧w.grownBy w1 mv.ownBlock:=by
 obtain⟨v',w1,h1,h2,h3,h4⟩:=segT_app h.1 hx hl hy hB;refine⟨v',w1,h1,⟨h2,kt.segX_same h.2.1 fun k hk=>h3.block k (kt.segX_lt h.2.1 k hk).2 (fun e=>h.2.2 k e.symm hk),fun k hk h5=> ?_⟩,(Below.refl q w).grown h3 hB (fun k hk=>(kt.segX_lt h.1 k hk).1),h3⟩;rcases h4 k hk with h6 | h6
 ·exact h.2.2 k h6 h5
 ·have:=(kt.segX_lt h.2.1 k h5).2;omega
theorem tw_app2 {w:World}{q:Nat}{mv yv x:Value}{lm ly ys:List T}(h:Tw w q mv yv lm ly)(hx:ElemAt w x (ys.map bs))(hl:ly.length≤10000000)(hy:ys.length≤10000000)(hB:q≤w.heap.size):
  ∃v' w1,(Builtin.append_ #[35,35] 35 #[yv,x]).run Tryz.prog w= .ok v' w1∧Tw w1 q mv v' lm (ly++ys)∧Below q w w1:=by
 obtain⟨v',w1,h1,h2,h3,_⟩:=tw_app (tw_swap h) hx hl hy hB;exact⟨v',w1,h1,tw_swap h2,h3⟩
theorem contE {w:World}{v:Value}{l:List T}(x:T)(h:ElemAt w v (l.map bs))(hl:l.length≤100000000):
  Calls Tryz.prog 75 #[v,.string (bs x)] w fun e w'=>e= .returned (.bool (decide (x∈l)))∧w'=w:=by
 obtain⟨a,c,rfl,hc,hs⟩:=h;rw[List.length_map]at hc ⊢;cases l with
 | nil=>exact Tryz.slices_Contains_string_empty a c (bs x) w
 | cons y r=>obtain⟨b,o,rfl,_⟩:=hs 0 (by simp);have C:=Tryz.slices_Contains_string b o (y::r).length c ((y::r).map bs) (bs x) w (by simp) (by omega) (fun j hj=>by obtain⟨b2,o2,e,hcell⟩:=hs j hj;simp only[Option.some.injEq,Addr.mk.injEq,and_true]at e;obtain⟨rfl,rfl⟩:=e;rw[hcell,List.getD_eq_getElem?_getD,List.getElem?_eq_getElem hj];rfl);rw[List.take_of_length_le (by simp),contains_in]at C;exact C
theorem ownS_elem {w:World}{B:Nat}{v:Value}{l:List T}(h:OwnS w B v l):ElemAt w v (l.map bs):=own_elem h
end scw
open Go.RowKit
namespace scw
open scp atp atw etp etw
open tupw (Strs strs_below)
def mustA (ks:List Nat):List T:=ks.flatMap mustK
def mayA (ks:List Nat):List T:=ks.flatMap mayK
def lacks (E:En)(m:T):Bool:=(valsA E.ats (bs m)).isEmpty
def odd (ks:List Nat)(a:At):Bool:= !decide (a.t.data.toList∈mustA ks)&& !decide (a.t.data.toList∈mayA ks)
def checkE (E:En):Int:=
 if rightE E=false then 4 else match clsOf (valsA E.ats (bs ocL))with
  | none=>15
  | some ks=>if chainK ks=false then 15 else if(mustA ks).any (lacks E)=true then 15 else if E.ats.any (odd ks)=true then 15 else if namedE E=false then 18 else 0
theorem must_name: ∀k:Fin 13,∀m∈mustK k.val,(findS (sml.lowL m)).map (·.name)=some m:=by decide+kernel
theorem must_at {ks:List Nat}(h: ∀k∈ks,k<13){m:T}(hm:m∈mustA ks): ∃ty,findS (sml.lowL m)=some ty∧ty.name=m:=by obtain⟨k,hk,hm⟩:=List.mem_flatMap.1 hm;have:=must_name ⟨k,h k hk⟩ m hm;rw[Option.map_eq_some_iff]at this;exact this
theorem mustK_len {k:Nat}(hk:k<13):(mustK k).length≤10∧(mayK k).length≤20:=must_len ⟨k,hk⟩
theorem mustA_len {ks:List Nat}(h: ∀k∈ks,k<13):(mustA ks).length≤10*ks.length∧(mayA ks).length≤20*ks.length:=by
 induction ks with
 | nil=>exact⟨Nat.le_refl _,Nat.le_refl _⟩
 | cons k r ih=>have h1:=mustK_len (h k (by simp));have h2:=ih fun j hj=>h j (by simp[hj]);unfold mustA mayA at*;rw[List.flatMap_cons,List.flatMap_cons,List.length_append,List.length_append,List.length_cons];omega
theorem must_msize: ∀k:Fin 13,∀m∈mustK k.val,m.length≤100:=by decide+kernel
theorem mustN_name {k:Nat}(hk:k<13):mustN (sml.lowL (clsA k).name)=mustK k∧mayN (sml.lowL (clsA k).name)=mayK k:=by rw[name_low ⟨k,hk⟩];unfold mustN mayN;rw[idx_name ⟨k,hk⟩];exact⟨rfl,rfl⟩
theorem values_must {E:En}(hr:rightE E=true){m:T}{ty:Ty}(hf:findS (sml.lowL m)=some ty)(hn:ty.name=m):valuesE E (bs m).data.toList=valsA E.ats (bs m):=by unfold valuesE;rw[bs_data,hf];simp only;rw[if_pos hr,hn]
theorem at_name {E:En}(hr:rightE E=true){a:At}(ha:a∈E.ats): ∃ty,findS (sml.lowL a.t.data.toList)=some ty∧bs ty.name=a.t:=by
 have h1:=((atsF_iff _ _).1 (right_iff.1 hr).2).1 a ha;unfold atOK tyOf at h1;cases hf:findS a.t.data.toList with
 | none=>rw[hf]at h1;cases h1
 | some ty=>refine⟨ty,find_small hf,kt.str_eq ?_⟩;rw[bs_data];exact(findS_some hf).2
theorem check_any (v:Value)(E:En)(w:World)(hv:Hid (EntV w v E))(hb:Hid (Bd E))(hE:Hid (EnvE w)):
  Calls Tryz.prog 19 #[v] w fun e w'=>e= .returned (.int .i64 (checkE E))∧Below w.heap.size w w':=by
 have HRT0:Hid (∀W,Below w.heap.size w W→Calls Tryz.prog 71 #[v] W fun e w'=>e= .returned (.bool (rightE E))∧Below W.heap.size W w'):=fun W h=>right_any v E W (Lib.hid (entV_below hv.out h)) hb (Lib.hid (envE_below hE.out h));have HNC0:Hid (rightE E=true→ ∀W,Below w.heap.size w W→Calls Tryz.prog 72 #[v] W fun e w'=>NamE (clsOf (valsA E.ats (bs ocL))) W e w'):=fun hr W h=>named_cls v E W (Lib.hid (entV_below hv.out h)) hb (Lib.hid (envE_below hE.out h)) hr;have HVA0:Hid (rightE E=true→ ∀ (m:T) ty,findS (sml.lowL m)=some ty→ty.name=m→m.length≤100→ ∀W,Below w.heap.size w W→Calls Tryz.prog 31 #[v,.string (bs m)] W fun e w'=>ValsE (valsA E.ats (bs m)) W e w'):=by intro hr m ty hf hn hm W h;have:=values_any v E (bs m) W (Lib.hid (entV_below hv.out h)) hb (by rw[bs_size];omega) (Lib.hid (envE_below hE.out h));rw[values_must hr hf hn]at this;exact this
 have HFD0:Hid (∀ (x:ByteArray) W,x.size≤100000→Below w.heap.size w W→Calls Tryz.prog 74 #[.string x] W fun e w'=>e= .returned (resT (findS (sml.lowL x.data.toList)))∧Below W.heap.size W w'):=fun x W hx h=>find_any x W (by omega) (Lib.hid (envE_below hE.out h).y);have HNM0:Hid (∀W,Below w.heap.size w W→Calls Tryz.prog 63 #[v] W fun e w'=>e= .returned (.bool (namedE E))∧Below W.heap.size W w'):=fun W h=>named_any v E W (Lib.hid (entV_below hv.out h)) hb (Lib.hid (envE_below hE.out h));have HVL:=Lib.hid (vals_len hb.out (bs ocL)).1;have HLN:=Lib.hid (fun ks h=>(clsOf_lt (l:=valsA E.ats (bs ocL)) (ks:=ks) h));have HATS:=Lib.hid hb.out.as_;have HATN:=Lib.hid (fun h a ha=>at_name (E:=E) h (a:=a) ha);have HCE:Hid (checkE E=if rightE E=false then 4 else match clsOf (valsA E.ats (bs ocL))with
  | none=>15
  | some ks=>if chainK ks=false then 15 else if(mustA ks).any (lacks E)=true then 15 else if E.ats.any (odd ks)=true then 15 else if namedE E=false then 18 else 0):=rfl
 obtain⟨R,hR⟩: ∃R,checkE E=R:=⟨_,rfl⟩;rw[hR]at HCE;obtain⟨ro,rc,ao,ac,Nr,N,rfl,HN,HA,hac,HNr,HAv,hrc⟩:=ent_form hv.out;have hNb:N≤100000:=by rw[←HN.out];exact hb.out.al
 obtain⟨W1,hW1⟩: ∃W,w.alloc (.cells #[.slice ro Nr rc,.slice ao N ac] 26)=W:=⟨_,rfl⟩;have hB1:Below w.heap.size w W1:=by rw[←hW1];exact(Below.refl _ _).alloc (Nat.le_refl _) _
 have HT1:Hid (EntB W1 w.heap.size (.slice ro Nr rc) (.slice ao N ac)):=by rw[←hW1];exact entB_new _ _ _
 obtain⟨k0,k1⟩:=entB_cells HT1.out;have HB1:=Lib.hid hB1;have HRT:=Lib.hid (HRT0.out W1 hB1);rw[hR];clear hB1 HRT0 hR hv hac hrc;cases hr:rightE E with
 | false=>rw[hr]at HRT HCE;have HR:Hid (R=4):=HCE.out;clear hr HCE HNC0 HVA0 HFD0 HNM0;rw[HR.out];go_enter Tryz.func19,Tryz.ntmps19;go_wp2_with fail;refine HRT.out.mono ?_;rintro e w2 ⟨rfl,hB2⟩;have HB2:=Lib.hid (HB1.out.trans (hB2.mono HB1.out.size));clear hB2 k0 k1 hW1;go_wp2_with fail;go_ret;exact⟨rfl,HB2.out⟩
 | true=>
  rw[hr]at HRT HCE;have HNC:=Lib.hid (HNC0.out hr);have HVA:=Lib.hid (HVA0.out hr);have HATM:=Lib.hid (HATN.out hr);have HCE2:Hid (R=match clsOf (valsA E.ats (bs ocL))with
   | none=>15
   | some ks=>if chainK ks=false then 15 else if(mustA ks).any (lacks E)=true then 15 else if E.ats.any (odd ks)=true then 15 else if namedE E=false then 18 else 0):=HCE.out
  clear hr HCE HNC0 HVA0 HATN;generalize namedE E=nb at HNM0 HCE2;go_enter Tryz.func19,Tryz.ntmps19;go_wp2_with fail;refine HRT.out.mono ?_;rintro e w2 ⟨rfl,hB2⟩;have HB2:=Lib.hid (HB1.out.trans (hB2.mono HB1.out.size));have HT2:=Lib.hid (entB_below HT1.out hB2);have HNC1:=Lib.hid (HNC.out w2 HB2.out);clear hB2 k0 k1 hW1 HNC HRT;obtain⟨k0,k1⟩:=entB_cells HT2.out;cases hcl:clsOf (valsA E.ats (bs ocL))with
  | none=>rw[hcl]at HNC1 HCE2;have HR:Hid (R=15):=HCE2.out;have HNC2:Hid (Calls Tryz.prog 72 #[.agg #[.slice ro Nr rc,.slice ao N ac]] w2 fun e w'=>e= .returned (.tuple #[.slice none 0 0,.bool false])∧Below w2.heap.size w2 w'):=HNC1.out.mono fun e w' h=>⟨h.2,h.1⟩;clear hcl HNC1 HCE2;go_wp2_with fail;refine HNC2.out.mono ?_;rintro e w3 ⟨rfl,hB3⟩;have HB3:=Lib.hid (HB2.out.trans (hB3.mono HB2.out.size));clear hB3 k0 k1;go_wp2_with fail;go_ret;exact⟨kt.ret_int HR.out.symm,HB3.out⟩
  | some ks=>
   rw[hcl]at HNC1 HCE2;have HCE3:Hid (R=if chainK ks=false then 15 else if(mustA ks).any (lacks E)=true then 15 else if E.ats.any (odd ks)=true then 15 else if nb=false then 18 else 0):=HCE2.out;have HNC2:Hid (Calls Tryz.prog 72 #[.agg #[.slice ro Nr rc,.slice ao N ac]] w2 fun e w'=> ∃a c,e= .returned (.tuple #[.slice a ks.length c,.bool true])∧OwnC w' w2.heap.size (.slice a ks.length c) ks∧Below w2.heap.size w2 w'):=HNC1.out.mono fun e w' h=>by obtain⟨hB,v,he,ho⟩:=h;obtain⟨a,c,rfl,_⟩:=kt.rowS_slice ho;exact⟨a,c,he,ho,hB⟩
   obtain⟨hk13,hkl⟩:=HLN.out ks hcl;have HK:=Lib.hid hk13;obtain⟨M,hM⟩: ∃M,ks.length=M:=⟨_,rfl⟩;have hMb:M≤100000:=(by rw[←hM,hkl];exact HVL.out);have HM:=Lib.hid hM;have hmal:=mustA_len hk13;rw[hM]at HNC2 hmal;have HMAL:=Lib.hid hmal;clear hcl HNC1 HCE2 hk13 hkl hM hmal HLN;go_wp2_with fail;refine HNC2.out.mono ?_;rintro e w3 ⟨la,lc,rfl,ho,hB3⟩;have HB3:=Lib.hid (HB2.out.trans (hB3.mono HB2.out.size));have HT3:=Lib.hid (entB_below HT2.out hB3);have HO:=Lib.hid ho;have HCH:Hid (Calls Tryz.prog 73 #[.slice la M lc] w3 fun e w'=>e= .returned (.bool (chainK ks))∧Below w3.heap.size w3 w'):=(by have:=chain_any la lc w2.heap.size ks w3 (Lib.hid (by rw[HM.out];exact ho)) HK (by rw[HM.out];exact hMb);rw[HM.out]at this;exact this);clear hB3 ho k0 k1 HNC2;cases hch:chainK ks with
   | false=>rw[hch]at HCH HCE3;have HR:Hid (R=15):=HCE3.out;clear hch HCE3;go_wp2_with fail;refine HCH.out.mono ?_;rintro e w4 ⟨rfl,hB4⟩;have HB4:=Lib.hid (HB3.out.trans (hB4.mono HB3.out.size));clear hB4;go_wp2_with fail;go_ret;exact⟨kt.ret_int HR.out.symm,HB4.out⟩
   | true=>
    rw[hch]at HCH HCE3;have HCE4:Hid (R=if(mustA ks).any (lacks E)=true then 15 else if E.ats.any (odd ks)=true then 15 else if nb=false then 18 else 0):=HCE3.out;clear hch HCE3;go_wp2_with fail;refine HCH.out.mono ?_;rintro e w4 ⟨rfl,hB4⟩;have HB4:=Lib.hid (HB3.out.trans (hB4.mono HB3.out.size));have HT4:=Lib.hid (entB_below HT3.out hB4);have HO4:=Lib.hid (ownC_below HO.out hB4);obtain⟨q,hq⟩: ∃q,w4.heap.size=q:=⟨_,rfl⟩;have HQ:=Lib.hid hq;have hqw:w.heap.size≤q:=(by rw[←hq];exact HB4.out.size);clear hB4 HCH HT3 HO hq;go_wp2_with fail;go_loopw [5,6,32] (fun mv yv iv wr=> ∃i:Nat,i≤M∧iv= .int .i64 (i:Int)∧Hid (Tw wr q mv yv (mustA (ks.take i)) (mayA (ks.take i)))∧Hid (Below q w4 wr)) (fun _ _ iv _=>M- (intOf iv).toNat);case atStart=>exact⟨0,Nat.zero_le _,rfl,tw_nil _ _,by rw[←HQ.out];exact Below.refl _ _⟩
    case round=>
     obtain⟨i,hi,rfl,hTW,hB⟩:=hrel;have hq2:=HQ.out;have hB':Below w4.heap.size w4 wr:=(by rw[hq2];exact hB.out);have hsz:q≤wr.heap.size:=(by rw[←hq2];exact hB'.size);have HBw:=Lib.hid (HB4.out.trans (hB'.mono HB4.out.size));have HBq:=Lib.hid hB';clear hq2 hB';by_cases hlt:i<M
     ·have hlt':(i:Int)<(M:Int):=(by omega);have hil:i<ks.length:=(by rw[HM.out];exact hlt);obtain⟨g,hg,hca0⟩:=ownC_at HO4.out hil;subst hg;have hka:=HK.out ks[i] (List.getElem_mem _);have HTS:Hid (ks.take (i+1)=ks.take i++[ks[i]]):=(by show _=_;rw[List.take_succ_eq_append_getElem hil]);have hca:=ca_below hca0 HBq.out;obtain⟨a,ha⟩: ∃a,ks[i]=a:=⟨_,rfl⟩;rw[ha]at hca hka HTS;obtain⟨a0,a1,a2,a3,a4,a5,a6,a7,a8,a9,a10,hva,hax0,hax1,hax2⟩:=cls_letters (clsA a);obtain⟨ae0,ae1,ae2,ae3,ae4,ae5,ae6,ae7,ae8,ae9,ae10⟩:=ca_cells hca hva;obtain⟨W5,hW5⟩: ∃W,wr.alloc (.cells #[.string a0,.int .i64 a1,.string a2,.string a3,.string a4,.string a5,.string a6,.string a7,.string a8,.string a9,.string a10] 106)=W:=⟨_,rfl⟩;have hBW5:Below wr.heap.size wr W5:=(by rw[←hW5];exact(Below.refl _ _).alloc (Nat.le_refl _) _);obtain⟨pa,hpa⟩: ∃p,wr.heap.size=p:=⟨_,rfl⟩;have HPA:=Lib.hid hpa;have HCB:Hid (CB W5 pa (clsA a)):=(by rw[←hW5,←hpa];have:=cb_new wr (clsA a);rw[hva]at this;exact this);obtain⟨ga0,ga1,ga2,ga3,ga4,ga5,ga6,ga7,ga8,ga9,ga10⟩:=cb_cells HCB.out hva;have HVa:=Lib.hid hva;have HB5:=Lib.hid (hB.out.trans (hBW5.mono hsz));have hs5:q≤W5.heap.size:=Nat.le_trans hsz hBW5.size;have HTW5:=Lib.hid (tw_below hTW.out hBW5);have HMU:Hid (∀W,Calls Tryz.prog 27 #[.string a0] W fun e w'=> ∃v,e= .returned v∧OwnS w' W.heap.size v (mustK a)∧Below W.heap.size W w'):=(by intro W;rw[hax0,←(mustN_name hka).1];exact smust_any _ W (name_size hka));have HYA:Hid (∀W,Calls Tryz.prog 28 #[.string a0] W fun e w'=> ∃v,e= .returned v∧OwnS w' W.heap.size v (mayK a)∧Below W.heap.size W w'):=(by intro W;rw[hax0,←(mustN_name hka).2];exact smay_any _ W (name_size hka));have HMA:Hid (mustA (ks.take (i+1))=mustA (ks.take i)++mustK a∧mayA (ks.take (i+1))=mayA (ks.take i)++mayK a):=(by show _∧_;rw[HTS.out];unfold mustA mayA;rw[List.flatMap_append,List.flatMap_append];simp);have hlen1:=mustK_len hka;have hlen2:=mustA_len (ks:=ks.take i) (fun k hk=>HK.out k (List.mem_of_mem_take hk));have hlen3:(ks.take i).length≤100000:=(by rw[List.length_take];omega);have HMU5:=Lib.hid (HMU.out W5);clear ha hca hca0 hva hax0 hax1 hax2 hBW5 HMU;go_wp2_with fail;clear hW5 hpa ae0 ae1 ae2 ae3 ae4 ae5 ae6 ae7 ae8 ae9 ae10;refine HMU5.out.mono ?_;rintro e w6 ⟨v6,rfl,ho6,hB6⟩;have hs6:q≤w6.heap.size:=Nat.le_trans hs5 hB6.size;obtain⟨v7,w7,hrun7,htw7,hB7,hg7⟩:=tw_app (tw_below HTW5.out hB6) (ownS_elem ho6) (by omega) (by omega) hs6;have HB7:=Lib.hid ((HB5.out.trans (hB6.mono hs5)).trans hB7);have HTW7:=Lib.hid htw7;have hs7:q≤w7.heap.size:=Nat.le_trans hs6 hB7.size;have HCB7:Hid (CB w7 pa (clsA a)):=(by have hc6:=cb_below HCB.out hB6;refine cb_same hc6 (hg7.block pa (cb_lt hc6) (fun e=> ?_));have h1:=(kt.segX_lt hTW.out.1 pa e.symm).2;have h2:=HPA.out;omega);have HYA7:=Lib.hid (HYA.out w7);clear hB6 ho6 hB7 htw7 hg7 ga0 ga1 ga2 ga3 ga4 ga5 ga6 ga7 ga8 ga9 ga10 HMU5 HYA;obtain⟨ga0,ga1,ga2,ga3,ga4,ga5,ga6,ga7,ga8,ga9,ga10⟩:=cb_cells HCB7.out HVa.out;go_wp2_with (refine Lib.wpList_append_run _ rfl _ _ _ _ rfl _ _ rfl rfl _ _ hrun7 ?_);refine HYA7.out.mono ?_;rintro e w8 ⟨v8,rfl,ho8,hB8⟩;have hs8:q≤w8.heap.size:=Nat.le_trans hs7 hB8.size;obtain⟨v9,w9,hrun9,htw9,hB9⟩:=tw_app2 (tw_below HTW7.out hB8) (ownS_elem ho8) (by omega) (by omega) hs8;have HB9:=Lib.hid ((HB7.out.trans (hB8.mono hs7)).trans hB9);have HTW9:Hid (Tw w9 q v7 v9 (mustA (ks.take (i+1))) (mayA (ks.take (i+1)))):=(by show Tw _ _ _ _ _ _;rw[HMA.out.1,HMA.out.2];exact htw9);clear hB8 ho8 hB9 htw9 ga0 ga1 ga2 ga3 ga4 ga5 ga6 ga7 ga8 ga9 ga10 hrun7 HYA7 hlen1 hlen2 hlen3;go_wp2_with (refine Lib.wpList_append_run _ rfl _ _ _ _ rfl _ _ rfl rfl _ _ hrun9 ?_);go_roundw;case rel=>exact⟨i+1,by omega,by go_num,HTW9,HB9⟩
      case measure=>simp[intOf];omega
     ·obtain rfl:M=i:=(by omega);have hTW2:=hTW.out;rw[←HM.out,List.take_length]at hTW2;have HTM:=Lib.hid (segT_elem hTW2.1);have HTY:=Lib.hid (segT_elem hTW2.2.1);have HMR:=Lib.hid (fun m hm=>must_at HK.out (m:=m) hm);have HMS:Hid (∀m∈mustA ks,m.length≤100):=(by intro m hm;obtain⟨k,hk,hm⟩:=List.mem_flatMap.1 hm;exact must_msize ⟨k,HK.out k hk⟩ m hm);have hTT:=entB_below HT4.out HBq.out;have HTT:=Lib.hid hTT;clear hTW2 hTT;obtain⟨a1,n1,c1,hv1,hn1,hc1,hs1⟩:=elem_form HTM.out;obtain⟨a2,n2,c2,hv2,hn2,hc2,hs2⟩:=elem_form HTY.out;subst hv1 hv2;have hn1':=hn1.out;rw[List.length_map]at hn1';have HL1:=Lib.hid hn1';have HS1:=Lib.hid hs1;have hn1b:n1≤10000000:=(by have:=HMAL.out.1;omega);clear hn1' hs1 hs2 hn1;go_wp2_with fail;obtain⟨w10,hw10⟩: ∃W,wr=W:=⟨_,rfl⟩;rw[hw10]at HBw HTT HS1 ⊢;have HTYw:Hid (ElemAt w10 (.slice a2 n2 c2) ((mayA ks).map bs)):=(by rw[←hw10];exact HTY.out);have HTMw:Hid (ElemAt w10 (.slice a1 n1 c1) ((mustA ks).map bs)):=(by rw[←hw10];exact HTM.out);have HBX:=HBw;clear hw10 HTY HTM hTW hB HBq HBw hsz;go_loopw [49] (fun jv wi=> ∃j:Nat,j≤n1∧jv= .int .i64 (j:Int)∧Hid (((mustA ks).take j).any (lacks E)=false)∧Hid (Below w10.heap.size w10 wi)) (fun jv _=>n1- (intOf jv).toNat);case atStart=>exact⟨0,Nat.zero_le _,rfl,rfl,Below.refl _ _⟩
      case round=>
       obtain⟨j,hj,rfl,hQ,hB⟩:=hrel;have HBw:=Lib.hid (HBX.out.trans (hB.out.mono HBX.out.size));have HTr:=Lib.hid (entB_below HTT.out hB.out);obtain⟨k0,k1⟩:=entB_cells HTr.out;by_cases hjt:j<n1
       ·have hjt':(j:Int)<(n1:Int):=(by omega);have hjl:j<(mustA ks).length:=(by rw[←HL1.out];exact hjt);obtain⟨b,o,hao,hc⟩:=(strs_below HS1.out hB.out) j (by rw[List.length_map];exact hjl);subst hao;rw[List.getElem_map]at hc;have HTJ:Hid ((mustA ks).take (j+1)=(mustA ks).take j++[(mustA ks)[j]]):=(by show _=_;rw[List.take_succ_eq_append_getElem hjl]);have HMM:Hid ((mustA ks)[j]∈mustA ks):=List.getElem_mem _;obtain⟨ty,hty,htn⟩:=HMR.out (mustA ks)[j] (List.getElem_mem _);have hms:=HMS.out (mustA ks)[j] (List.getElem_mem _);obtain⟨m,hm⟩: ∃m,(mustA ks)[j]=m:=⟨_,rfl⟩;rw[hm]at hc HTJ HMM hty htn hms;have HVJ:=Lib.hid (HVA.out m ty hty htn hms wr HBw.out);have HLK:Hid (lacks E m=(valsA E.ats (bs m)).isEmpty):=rfl;clear hm hty htn hms;generalize valsA E.ats (bs m)=vs at HVJ HLK;cases vs with
        | nil=>have HR:Hid (R=15):=(by show _=_;rw[HCE4.out,if_pos];exact List.any_eq_true.2 ⟨m,HMM.out,HLK.out⟩);go_wp2_with fail;refine HVJ.out.mono ?_;rintro e w11 ⟨x,rfl,hx,hB11⟩;obtain⟨ax,cx,rfl,_,_⟩:=hx;have HB11:=Lib.hid (HBw.out.trans (hB11.mono HBw.out.size));clear hB11 hc k0 k1 HVJ;go_wp2_with fail;go_ret;exact⟨kt.ret_int HR.out.symm,HB11.out⟩
        | cons v0 vr=>
         have HQ2:Hid (((mustA ks).take (j+1)).any (lacks E)=false):=(by show _=_;rw[HTJ.out,List.any_append,hQ.out];simp[HLK.out]);go_wp2_with fail;refine HVJ.out.mono ?_;rintro e w11 ⟨x,rfl,hx,hB11⟩;obtain⟨ax,nx,cx,rfl,hnx,_,_⟩:=elem_form hx;have hn0:=hnx.out;rw[List.length_cons]at hn0;have hn1: ¬ (nx:Int)=0:=(by omega);have HB11:=Lib.hid (hB.out.trans (hB11.mono hB.out.size));clear hB11 hc k0 k1 HVJ hx hnx hn0;go_wp2_with fail;go_roundw;case rel=>exact⟨j+1,by omega,by go_num,HQ2,HB11⟩
         case measure=>simp[intOf];omega
       ·obtain rfl:n1=j:=(by omega);have hQ2:=hQ.out;rw[HL1.out,List.take_length]at hQ2;have HCE5:Hid (R=if E.ats.any (odd ks)=true then 15 else if nb=false then 18 else 0):=(by show _=_;rw[HCE4.out,hQ2,if_neg (by decide)]);have HTYr:=Lib.hid (elem_below HTYw.out hB.out);have HTMr:=Lib.hid (elem_below HTMw.out hB.out);clear hQ hQ2 HCE4 HS1 HTYw HTMw HTT HMR HMS HVA;have hMA:=HMAL.out;have hMb2:(mustA ks).length≤10000000∧(mayA ks).length≤10000000:=(by omega);clear hMA;go_wp2_with fail;obtain⟨w12,hw12⟩: ∃W,wr=W:=⟨_,rfl⟩;rw[hw12]at HBw HTr HTYr HTMr hB ⊢;have HBX2:=HBw;clear hw12 k0 k1 hB HBw;go_loopw [62] (fun jv wi=> ∃j:Nat,j≤N∧jv= .int .i64 (j:Int)∧Hid ((E.ats.take j).any (odd ks)=false)∧Hid (Below w12.heap.size w12 wi)) (fun jv _=>N- (intOf jv).toNat);case atStart=>exact⟨0,Nat.zero_le _,rfl,rfl,Below.refl _ _⟩
        case round=>
         obtain⟨j,hj,rfl,hQ,hB⟩:=hrel;have hszr:=hB.out.size;have HBw:=Lib.hid (HBX2.out.trans (hB.out.mono HBX2.out.size));have HTq:=Lib.hid (entB_below HTr.out hB.out);by_cases hjt:j<N
         ·have hjt':(j:Int)<(N:Int):=(by omega);have hjl:j<E.ats.length:=(by rw[HN.out];exact hjt);obtain⟨b,o,ca,cc,hao,hc0,hc1,_,_⟩:=(ats_below HA.out HBw.out) j hjl;subst hao;have HTJ:Hid (E.ats.take (j+1)=E.ats.take j++[E.ats[j]]):=(by show _=_;rw[List.take_succ_eq_append_getElem hjl]);have HMM:Hid (E.ats[j]∈E.ats):=List.getElem_mem _;obtain⟨ty,hty,htn⟩:=HATM.out E.ats[j] (List.getElem_mem _);have hts:=(HATS.out E.ats[j] (List.getElem_mem _)).1;obtain⟨a,ha⟩: ∃a,E.ats[j]=a:=⟨_,rfl⟩;rw[ha]at hc0 hc1 HTJ HMM hty htn hts;have hFD:=HFD0.out a.t wr hts HBw.out;rw[hty]at hFD;have hFD2:Calls Tryz.prog 74 #[.string a.t] wr fun e w'=>e= .returned (.tuple #[.agg #[.string (bs ty.name),.int .i64 ty.syn,.bool ty.single],.bool true])∧Below wr.heap.size wr w':=hFD;rw[htn]at hFD2;obtain⟨W13,hW13⟩: ∃W,wr.alloc (.cells #[.string a.t,.slice ca a.vs.length cc] 43)=W:=⟨_,rfl⟩;have hB13:Below wr.heap.size wr W13:=(by rw[←hW13];exact(Below.refl _ _).alloc (Nat.le_refl _) _);obtain⟨y0,y1⟩:=attrB_cells (w:=W13) (p:=wr.heap.size) (t:=a.t) (v:= .slice ca a.vs.length cc) (by rw[←hW13];exact attrB_new _ _ _);have HFD3:Hid (Calls Tryz.prog 74 #[.string a.t] W13 fun e w'=>e= .returned (.tuple #[.agg #[.string a.t,.int .i64 ty.syn,.bool ty.single],.bool true])∧Below W13.heap.size W13 w'):=(by have hFD:=HFD0.out a.t W13 hts (HBw.out.trans (hB13.mono HBw.out.size));rw[hty]at hFD;have hFD2:Calls Tryz.prog 74 #[.string a.t] W13 fun e w'=>e= .returned (.tuple #[.agg #[.string (bs ty.name),.int .i64 ty.syn,.bool ty.single],.bool true])∧Below W13.heap.size W13 w':=hFD;rw[htn]at hFD2;exact hFD2);have HB13:=Lib.hid (hB.out.trans (hB13.mono hszr));have HODD:Hid (odd ks a=(!decide (a.t.data.toList∈mustA ks)&& !decide (a.t.data.toList∈mayA ks))):=rfl;have HC1:Hid (∀W,Below w12.heap.size w12 W→Calls Tryz.prog 75 #[.slice a1 n1 c1,.string a.t] W fun e w'=>e= .returned (.bool (decide (a.t.data.toList∈mustA ks)))∧Below W.heap.size W w'):=(by intro W h;rw[←bs_of a.t];exact(contE _ (elem_below HTMr.out h) (by omega)).mono fun e w' ⟨h1,h2⟩=>⟨h1,by rw[h2];exact Below.refl _ _⟩);have HC2:Hid (∀W,Below w12.heap.size w12 W→Calls Tryz.prog 75 #[.slice a2 n2 c2,.string a.t] W fun e w'=>e= .returned (.bool (decide (a.t.data.toList∈mayA ks)))∧Below W.heap.size W w'):=(by intro W h;rw[←bs_of a.t];exact(contE _ (elem_below HTYr.out h) (by omega)).mono fun e w' ⟨h1,h2⟩=>⟨h1,by rw[h2];exact Below.refl _ _⟩);generalize decide (a.t.data.toList∈mustA ks)=x1 at HODD HC1;generalize decide (a.t.data.toList∈mayA ks)=x2 at HODD HC2;generalize ty.syn=syn at HFD3;generalize ty.single=sg at HFD3;have hs13:=HB13.out.size;clear ha hty htn hts hFD hFD2 hB13;go_wp2_with fail;clear hc0 hc1 hW13 y0 y1;refine HFD3.out.mono ?_;rintro e w14 ⟨rfl,hB14⟩;obtain⟨W15,hW15⟩: ∃W,w14.alloc (.cells #[.string a.t,.int .i64 syn,.bool sg] 108)=W:=⟨_,rfl⟩;have hB15:Below w14.heap.size w14 W15:=(by rw[←hW15];exact(Below.refl _ _).alloc (Nat.le_refl _) _);have HTB:Hid (TB W15 w14.heap.size a.t syn sg):=(by rw[←hW15];exact tb_new _ _ _ _);obtain⟨t0,t1,t2⟩:=tb_cells HTB.out;have HB15:=Lib.hid (HB13.out.trans ((hB14.trans (hB15.mono hB14.size)).mono hs13));have HC3:=Lib.hid (HC1.out W15 HB15.out);clear HC1 hB14 HFD3;cases x1 with
          | true=>
           have HQ2:Hid ((E.ats.take (j+1)).any (odd ks)=false):=(by show _=_;rw[HTJ.out,List.any_append,hQ.out];simp[HODD.out]);go_wp2_with fail;clear hW15;refine HC3.out.mono ?_;rintro e w16 ⟨rfl,hB16⟩;have HB16:=Lib.hid (HB15.out.trans (hB16.mono HB15.out.size));clear hB16 hB15 t0 t1 t2;go_wp2_with fail;go_roundw;case rel=>exact⟨j+1,by omega,by go_num,HQ2,HB16⟩
           case measure=>simp[intOf];omega
          | false=>
           go_wp2_with fail;clear hW15;refine HC3.out.mono ?_;rintro e w16 ⟨rfl,hB16⟩;have HB16:=Lib.hid (HB15.out.trans (hB16.mono HB15.out.size));have HC4:=Lib.hid (HC2.out w16 HB16.out);clear t0 t1 t2;obtain⟨t0,t1,t2⟩:=tb_cells (tb_below HTB.out hB16);clear hB16 hB15 HC3;cases x2 with
           | true=>
            have HQ2:Hid ((E.ats.take (j+1)).any (odd ks)=false):=(by show _=_;rw[HTJ.out,List.any_append,hQ.out];simp[HODD.out]);go_wp2_with fail;refine HC4.out.mono ?_;rintro e w17 ⟨rfl,hB17⟩;have HB17:=Lib.hid (HB16.out.trans (hB17.mono HB16.out.size));clear hB17 t0 t1 t2;go_wp2_with fail;go_roundw;case rel=>exact⟨j+1,by omega,by go_num,HQ2,HB17⟩
            case measure=>simp[intOf];omega
           | false=>have HR:Hid (R=15):=(by show _=_;rw[HCE5.out,if_pos];exact List.any_eq_true.2 ⟨a,HMM.out,by rw[HODD.out];rfl⟩);go_wp2_with fail;refine HC4.out.mono ?_;rintro e w17 ⟨rfl,hB17⟩;have HB17:=Lib.hid (HBX2.out.trans ((HB16.out.trans (hB17.mono HB16.out.size)).mono HBX2.out.size));clear hB17 t0 t1 t2;go_wp2_with fail;go_ret;exact⟨kt.ret_int HR.out.symm,HB17.out⟩
         ·obtain rfl:N=j:=(by omega);have hQ2:=hQ.out;rw[←HN.out,List.take_length]at hQ2;have HCE6:Hid (R=if nb=false then 18 else 0):=(by show _=_;rw[HCE5.out,hQ2,if_neg (by decide)]);have HNM:=Lib.hid (HNM0.out wr HBw.out);clear hQ hQ2 HCE5;obtain⟨k0,k1⟩:=entB_cells HTq.out;cases nb with
          | true=>have HR:Hid (R=0):=HCE6.out;go_wp2_with fail;refine HNM.out.mono ?_;rintro e w18 ⟨rfl,hB18⟩;have HB18:=Lib.hid (HBw.out.trans (hB18.mono HBw.out.size));clear hB18 k0 k1;go_wp2_with fail;go_ret;exact⟨kt.ret_int HR.out.symm,HB18.out⟩
          | false=>have HR:Hid (R=18):=HCE6.out;go_wp2_with fail;refine HNM.out.mono ?_;rintro e w18 ⟨rfl,hB18⟩;have HB18:=Lib.hid (HBw.out.trans (hB18.mono HBw.out.size));clear hB18 k0 k1;go_wp2_with fail;go_ret;exact⟨kt.ret_int HR.out.symm,HB18.out⟩
end scw
namespace scw
open scp atp atw etp etw
def mustV (n:T)(v:ByteArray):Bool:=decide (n∈mustN (sml.lowL (readyT v)))
def mineV (n:ByteArray)(x:dnw.Av):Bool:=decide (x.t=n)
def lessI (E:En)(n:ByteArray):Int:=if(valsA E.ats (bs ocL)).any (mustV n.data.toList)=true then 15 else if E.rdn.any (mineV n)=true then 18 else 0
theorem mem_mid {n:ByteArray}{L lo mid hi:List At}(h:Part n L lo mid hi){a:At}(ha:a∈L)(e:a.t=n):mid=[a]:=by
 rw[h.eq]at ha;rcases List.mem_append.1 ha with hl | hr
 ·exact absurd e (ltB_ne (h.lo a hl))
 ·rcases List.mem_append.1 hr with hm | hh
  ·rcases h.mid with rfl | ⟨v,rfl⟩
   ·cases hm
   ·rw[List.mem_singleton]at hm;rw[hm]
  ·exact absurd e.symm (ltB_ne (h.hi a hh))
theorem vals_self {E:En}(hr:rightE E=true){a:At}(ha:a∈E.ats):valsA E.ats a.t=a.vs∧a.vs≠[]:=by
 obtain⟨lo,mid,hi,hp⟩:=part_of a.t E.ats none (right_iff.1 hr).2;refine⟨by rw[vals_part hp,mem_mid hp ha rfl];rfl,fun e=> ?_⟩;have h1:=((atsF_iff _ _).1 (right_iff.1 hr).2).1 a ha;unfold atOK at h1;cases hf:tyOf a.t with
 | none=>rw[hf]at h1;cases h1
 | some ty=>rw[hf]at h1;simp only[valsOK,Bool.and_eq_true,decide_eq_true_iff]at h1;have h2:=h1.1.1;rw[e]at h2;exact absurd h2 (by decide)
theorem remove_all {E:En}(hr:rightE E=true){a:At}(ha:a∈E.ats):removeE E a.t.data.toList []= .ok ⟨E.rdn,withF a.t [] true E.ats⟩:=by obtain⟨ty,h1,h2⟩:=at_name hr ha;unfold removeE;rw[findE_of hr h1];simp only;rw[h2,if_neg (by simp[faultI]),if_neg (by rw[(vals_self hr ha).1];exact(vals_self hr ha).2)];rfl
theorem cls_must {n:T}: ∀ {l:List ByteArray} {ks:List Nat},clsOf l=some ks→l.any (mustV n)=decide (n∈mustA ks)
 | [],ks,h=>by cases h;rfl
 | v::r,ks,h=>by
  unfold clsOf at h;cases hi:idx (readyT v)with
  | none=>rw[hi]at h;cases h
  | some k=>rw[hi]at h;simp only[Option.map_eq_some_iff]at h;obtain⟨m,hm,rfl⟩:=h;have e1:mustV n v=decide (n∈mustK k):=(by unfold mustV;obtain⟨hk,e⟩:=idx_some hi;rw[←e,(mustN_name hk).1]);rw[List.any_cons,e1,cls_must hm,Bool.eq_iff_iff,Bool.or_eq_true,decide_eq_true_iff,decide_eq_true_iff,decide_eq_true_iff];unfold mustA;rw[List.flatMap_cons,List.mem_append]
theorem oc_must: ∀k:Fin 13,ocL∈mustK k.val:=by decide+kernel
theorem sub_less {n:ByteArray}{L lo mid hi:List At}(h:Part n L lo mid hi){a:At}(ha:a∈withF n [] true L):a∈L:=by
 rw[with_part h [] true]at ha;rw[h.eq];rcases List.mem_append.1 ha with hl | hr
 ·exact List.mem_append.2 (Or.inl hl)
 ·rcases List.mem_append.1 hr with hm | hh
  ·cases hm
  ·exact List.mem_append.2 (Or.inr (List.mem_append.2 (Or.inr hh)))
theorem any_same {α:Type}{f g:α→Bool}: ∀ {l:List α},(∀x∈l,f x=g x)→l.any f=l.any g
 | [],_=>rfl
 | a::r,h=>by rw[List.any_cons,List.any_cons,h a (by simp),any_same fun x hx=>h x (by simp[hx])]
theorem check_zero {E:En}(hc:checkE E=0):rightE E=true∧ ∃ks,clsOf (valsA E.ats (bs ocL))=some ks∧chainK ks=true∧(mustA ks).any (lacks E)=false∧E.ats.any (odd ks)=false∧namedE E=true:=by
 unfold checkE at hc;cases hr:rightE E with
 | false=>rw[hr,if_pos rfl]at hc;exact absurd hc (by decide)
 | true=>
  rw[hr,if_neg (by decide)]at hc;cases hk:clsOf (valsA E.ats (bs ocL))with
  | none=>rw[hk]at hc;exact absurd (show(15:Int)=0 from hc) (by decide)
  | some ks=>
   rw[hk]at hc;simp only at hc;refine⟨rfl,ks,rfl,?_⟩;cases h1:chainK ks with
   | false=>rw[h1,if_pos rfl]at hc;exact absurd hc (by decide)
   | true=>
    rw[h1,if_neg (by decide)]at hc;cases h2:(mustA ks).any (lacks E)with
    | true=>rw[h2,if_pos rfl]at hc;exact absurd hc (by decide)
    | false=>
     rw[h2,if_neg (by decide)]at hc;cases h3:E.ats.any (odd ks)with
     | true=>rw[h3,if_pos rfl]at hc;exact absurd hc (by decide)
     | false=>
      rw[h3,if_neg (by decide)]at hc;cases h4:namedE E with
      | false=>rw[h4,if_pos rfl]at hc;exact absurd hc (by decide)
      | true=>exact⟨rfl,rfl,rfl,rfl⟩
theorem like_none (syn:Int)(v:ByteArray):decide (0≤likeI syn [] v)=false:=by rw[like_nil];decide
theorem less_law {E:En}{a:At}(hc:checkE E=0)(ha:a∈E.ats):checkE ⟨E.rdn,withF a.t [] true E.ats⟩=lessI E a.t:=by
 obtain⟨hr,ks,hk,h1,h2,h3,h4⟩:=check_zero hc;obtain⟨lo,mid,hi,hp⟩:=part_of a.t E.ats none (right_iff.1 hr).2;have hr2:rightE ⟨E.rdn,withF a.t [] true E.ats⟩=true:=right_iff.2 ⟨(right_iff.1 hr).1,with_right (right_iff.1 hr).2 (fun h=>by cases h)⟩;have hself:valsA (withF a.t [] true E.ats) a.t=[]:=by rw[vals_part (part_with hp [] true)];rfl
 have hother: ∀m,m≠a.t→valsA (withF a.t [] true E.ats) m=valsA E.ats m:=fun m hm=>vals_other hp hm [] true;have hM:(valsA E.ats (bs ocL)).any (mustV a.t.data.toList)=decide (a.t.data.toList∈mustA ks):=cls_must hk;unfold lessI;rw[hM];unfold checkE;rw[hr2,if_neg (by decide)];simp only;by_cases he:bs ocL=a.t
 ·rw[he,hself];have hm:a.t.data.toList∈mustA ks:=by
   rw[←he,bs_data];cases ks with
   | nil=>exact absurd h1 (by decide)
   | cons k r=>exact List.mem_flatMap.2 ⟨k,by simp,oc_must ⟨k,(clsOf_lt hk).1 k (by simp)⟩⟩
  rw[decide_eq_true hm,if_pos rfl];rfl
 ·rw[hother _ he,hk];simp only;rw[h1,if_neg (by decide)];by_cases hm:a.t.data.toList∈mustA ks
  ·rw[decide_eq_true hm,if_pos rfl,if_pos];rw[List.any_eq_true];refine⟨_,hm,?_⟩;unfold lacks;rw[bs_of,hself];rfl
  ·rw[decide_eq_false hm];rw[show(mustA ks).any (lacks ⟨E.rdn,withF a.t [] true E.ats⟩)=false from by rw[←h2];refine any_same fun m hmm=> ?_;unfold lacks;rw[hother (bs m) fun e=>hm (by rw[←e,bs_data];exact hmm)],if_neg (show¬ (false=true)by decide)];rw[show(withF a.t [] true E.ats).any (odd ks)=false from by rw[List.any_eq_false];exact fun x hx=>List.any_eq_false.1 h3 x (sub_less hp hx),if_neg (by decide)];unfold namedE at h4;rw[Bool.and_eq_true,List.all_eq_true]at h4;rw[if_neg (show¬ (false=true)by decide)];by_cases hq:E.rdn.any (mineV a.t)=true
   ·rw[if_pos hq,if_pos];unfold namedE;rw[hr2,Bool.true_and,List.all_eq_false];obtain⟨x,hx,hxt⟩:=List.any_eq_true.1 hq;refine⟨x,hx,?_⟩;have e:x.t=a.t:=of_decide_eq_true hxt;unfold namedA;rw[e,hself];cases findS a.t.data.toList with
    | none=>exact Bool.false_ne_true
    | some ty=>simp only[like_none];decide
   ·rw[if_neg hq,if_neg];unfold namedE;rw[hr2,Bool.true_and,Bool.not_eq_false,List.all_eq_true];intro x hx;have e:x.t≠a.t:=fun e=>hq (List.any_eq_true.2 ⟨x,hx,decide_eq_true e⟩);have:=h4.2 x hx;unfold namedA at this ⊢;rw[hother _ e];exact this
end scw
end Go.Proofs.YtmnpfkbjpeaemaaGreatDoor
