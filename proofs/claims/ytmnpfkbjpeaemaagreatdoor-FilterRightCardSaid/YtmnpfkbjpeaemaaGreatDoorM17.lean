/- One text out of several: FilO, TyF. -/
import Derived.Test.YtmnpfkbjpeaemaaGreatDoorM7
import Derived.Test.YtmnpfkbjpeaemaaGreatDoorM16
import Derived.Lib.LaidU8
import Derived.Deep.Strs
import Derived.Test.YtmnpfkbjpeaemaaGreatDoorM5
set_option linter.unusedVariables false
set_option linter.unusedSimpArgs false
set_option maxRecDepth 20000
namespace Go.Proofs.YtmnpfkbjpeaemaaGreatDoor
open Go.RowKit Go.ChangeShapes Go.WideShapes Go.Deep
namespace flw
open flp etp etw
open tupw (Strs)
theorem array7 {α:Type}{cs:Array α}(h:cs.size=7): ∃c0 c1 c2 c3 c4 c5 c6,cs=#[c0,c1,c2,c3,c4,c5,c6]:=by
 obtain⟨l⟩:=cs
 match l,h with
 | [c0,c1,c2,c3,c4,c5,c6],_=>exact⟨c0,c1,c2,c3,c4,c5,c6,rfl⟩
theorem list7 {α:Type}{l:List α}(h:l.length=7): ∃c0 c1 c2 c3 c4 c5 c6,l=[c0,c1,c2,c3,c4,c5,c6]:=by
 match l,h with
 | [c0,c1,c2,c3,c4,c5,c6],_=>exact⟨c0,c1,c2,c3,c4,c5,c6,rfl⟩
theorem cellsFl:Tryz.prog.cellsOf 73=7:=by kernel_rfl
section
variable {H : Type} {enc : TypeId × Value → H} {w : World} {base : Nat} {sp : Nat → Bool} {held : Bool}
theorem fields_of {fuel:Nat}{v0 v1 v2 v3 v4 v5 v6:Value}{x:DataW H × List MemPlace}(h:DataW.trod enc Tryz.prog w base sp held fuel 73 [v0,v1,v2,v3,v4,v5,v6]=some x):
  ∃ (n:Nat) (y0 y1 y2 y3 y4 y5 y6:DataW H × List MemPlace),fuel=n+1∧DataW.trod enc Tryz.prog w base sp held n 3 [v0]=some y0∧DataW.trod enc Tryz.prog w base sp held n 9 [v1]=some y1∧DataW.trod enc Tryz.prog w base sp held n 9 [v2]=some y2∧DataW.trod enc Tryz.prog w base sp held n 9 [v3]=some y3∧
   DataW.trod enc Tryz.prog w base sp held n 35 [v4]=some y4∧DataW.trod enc Tryz.prog w base sp held n 9 [v5]=some y5∧DataW.trod enc Tryz.prog w base sp held n 70 [v6]=some y6:=by
 obtain⟨xs,n,hn,_,_,hlen,hf⟩:=DataW.trod_struct Tryz.underlying73 h;obtain⟨y0,y1,y2,y3,y4,y5,y6,rfl⟩:=list7 (hlen.trans rfl);exact⟨n,y0,y1,y2,y3,y4,y5,y6,hn,hf 0 _ rfl,hf 1 _ rfl,hf 2 _ rfl,hf 3 _ rfl,hf 4 _ rfl,hf 5 _ rfl,hf 6 _ rfl⟩
theorem nil_cap {fuel:Nat}{ao:Option Addr}{n cap:Nat}{x:DataW H × List MemPlace}(h:DataW.trod enc Tryz.prog w base sp held fuel 35 [.slice ao n cap]=some x):ao=none→cap=0:=by
 rcases DataW.trod_slice Tryz.underlying35 h with⟨hcs,_⟩ | ⟨a,len,cap',elems,rest,m,_,hcs,_⟩
 ·simp only[List.cons.injEq,Value.slice.injEq,and_true]at hcs;exact fun _=>hcs.2.2
 ·simp only[List.cons.injEq,Value.slice.injEq,and_true]at hcs;intro e;rw[e]at hcs;cases hcs.1
theorem kids_of: ∀ (fuel:Nat) {cs:List Value} {x:DataW H × List MemPlace},DataW.trod enc Tryz.prog w base sp held fuel 70 cs=some x→
  ∃ (ao:Option Addr) (l:List Fl) (cap:Nat),cs=[.slice ao l.length cap]∧l.length≤cap∧l.length≤9223372036854775807∧Kids w anyB fuel ao l:=by
 intro fuel;induction fuel using Nat.strongRecOn with
 | ind fuel ih=>
  intro cs x h;rcases DataW.trod_slice Tryz.underlying70 h with⟨hcs,_⟩ | ⟨a,len,cap,elems,rest,n,hn,hcs,_,hb,hl,hm,hlen,hel,_,_⟩
  ·exact⟨none,[],0,hcs,Nat.le_refl _,by simp,kids_nil _ _ _ _⟩
  ·have hspot:0<len→ ∃b o,a=⟨b,o,none⟩:=(by intro h0;have h1:=hel 0 h0;rw[List.getElem?_eq_getElem (by omega),cellsFl,Option.bind_eq_some_iff]at h1;obtain⟨cs',hc,_⟩:=h1;obtain⟨_,hcl,hcell⟩:=World.cells?_some hc;obtain⟨v0,v1,v2,v3,v4,v5,v6,rfl⟩:=list7 hcl;obtain⟨b,o,s⟩:=a;have c0:=hcell 0 (by omega);have e:((⟨b,o,s⟩:Addr).add (0*7)).add 0=⟨b,o,s⟩:=(by unfold Addr.add;rfl);rw[e]at c0;obtain rfl:=opn.cell_spot c0;exact⟨b,o,rfl⟩);have key: ∀i,i<len→ ∃F:Fl,∃b o xa xc ka kc,a=⟨b,o,none⟩∧CellsF w b (o+i*7) F (.slice xa F.any.length xc) (.slice ka F.kids.length kc)∧OkA xa F.any.length xc∧Strs w xa F.any∧F.kids.length≤kc∧Kids w anyB n ka F.kids:=by
    intro i hi;have h1:=hel i hi;have hi2:i<elems.length:=(by omega);rw[List.getElem?_eq_getElem hi2,cellsFl,Option.bind_eq_some_iff]at h1;obtain⟨cs',hc,ht⟩:=h1;obtain⟨_,hcl,hcell⟩:=World.cells?_some hc;obtain⟨v0,v1,v2,v3,v4,v5,v6,rfl⟩:=list7 hcl;obtain⟨n',y0,y1,y2,y3,y4,y5,y6,hn',t0,t1,t2,t3,t4,t5,t6⟩:=fields_of ht;obtain⟨kd,e0,_⟩:=DataW.trod_int Tryz.underlying3 t0;obtain⟨s1,e1,_⟩:=DataW.trod_string Tryz.underlying9 t1;obtain⟨s2,e2,_⟩:=DataW.trod_string Tryz.underlying9 t2;obtain⟨s3,e3,_⟩:=DataW.trod_string Tryz.underlying9 t3;obtain⟨xa,m,xc,e4,g1,_,g2⟩:=strs_any t4;obtain⟨s5,e5,_⟩:=DataW.trod_string Tryz.underlying9 t5;obtain⟨ka,ks,kc,e6,k1,_,k2⟩:=ih n' (by omega) t6;simp only[List.cons.injEq,and_true]at e0 e1 e2 e3 e4 e5 e6;subst e0 e1 e2 e3 e4 e5 e6;have gn:=nil_cap t4;have c0:=hcell 0 (by omega);have c1:=hcell 1 (by omega);have c2:=hcell 2 (by omega);have c3:=hcell 3 (by omega);have c4:=hcell 4 (by omega);have c5:=hcell 5 (by omega);have c6:=hcell 6 (by omega);obtain⟨b,o,rfl⟩:=hspot (by omega);have ad: ∀j,((⟨b,o,none⟩:Addr).add (i*7)).add j=⟨b,o+i*7+j,none⟩:=fun j=>by rw[Addr.add_mid,Addr.add_mid]
    rw[ad]at c0 c1 c2 c3 c4 c5 c6;exact⟨.mk kd s1 s2 s3 m s5 ks,b,o,xa,xc,ka,kc,rfl,⟨c0,c1,c2,c3,c4,c5,c6⟩,⟨g1,gn⟩,g2,k1,kids_mono k2 (by omega)⟩
   obtain⟨l,hll,hq⟩:=opn.list_of len key;subst hll;subst hn;unfold maxLen at hm;refine⟨some a,l,cap,hcs,hl,by omega,fun i hi=> ?_⟩;obtain⟨b,o,xa,xc,ka,kc,e,hc,h1,h2,h3,h4⟩:=hq i hi;exact⟨b,o,xa,xc,ka,kc,by rw[e],trivial,hc,h1,⟨h2,fun _ _ _=>trivial⟩,h3,h4⟩
theorem fl_of {r:Reach}{b0:Nat}{v:Value}{d:DataW H}{p:List MemPlace}(hv:Value.okWide Tryz.prog w r b0 73 v)(h:DataW.Trod enc Tryz.prog w base sp held 73 v d p): ∃ (F:Fl) (n:Nat),FlV w anyB n v F:=by obtain⟨cs,rfl,hsz⟩:=okWide_struct Tryz.underlying73 hv;obtain⟨v0,v1,v2,v3,v4,v5,v6,rfl⟩:=array7 (hsz.trans cellsFl);obtain⟨fuel,hf⟩:=h;obtain⟨n,y0,y1,y2,y3,y4,y5,y6,_,t0,t1,t2,t3,t4,t5,t6⟩:=fields_of (by simpa[Value.cells]using hf);obtain⟨kd,e0,_⟩:=DataW.trod_int Tryz.underlying3 t0;obtain⟨s1,e1,_⟩:=DataW.trod_string Tryz.underlying9 t1;obtain⟨s2,e2,_⟩:=DataW.trod_string Tryz.underlying9 t2;obtain⟨s3,e3,_⟩:=DataW.trod_string Tryz.underlying9 t3;obtain⟨xa,m,xc,e4,g1,_,g2⟩:=strs_any t4;obtain⟨s5,e5,_⟩:=DataW.trod_string Tryz.underlying9 t5;obtain⟨ka,ks,kc,e6,k1,_,k2⟩:=kids_of n t6;simp only[List.cons.injEq,and_true]at e0 e1 e2 e3 e4 e5 e6;subst e0 e1 e2 e3 e4 e5 e6;exact⟨.mk kd s1 s2 s3 m s5 ks,n,xa,xc,ka,kc,rfl,⟨g1,nil_cap t4⟩,⟨g2,fun _ _ _=>trivial⟩,k1,k2⟩
end
end flw
open Go.RowKit
namespace atw
open atp
def tyData:DataW Unit:= .agg (tys.map fun t=> .agg [.lit (.string t.name),.lit (.int .i64 t.syn),.lit (.bool t.single)])
theorem rows_take {α β:Type}(f:β→List α)(n:Nat): ∀ (l:List β) (cs:List α),(∀i (h:i<l.length),(cs.drop (i*n)).take n=f l[i])→cs.take (l.length*n)=l.flatMap f:=by
 intro l;induction l with
 | nil=>intro cs _;simp
 | cons b r ih=>intro cs h;have h0:=h 0 (by simp);rw[Nat.zero_mul,List.drop_zero]at h0;have h1:=ih (cs.drop n) (by intro i hi;have:=h (i+1) (by simp;omega);rw[List.drop_drop,show n+i*n=(i+1)*n by rw[Nat.add_mul,Nat.one_mul,Nat.add_comm]];exact this);rw[List.flatMap_cons,List.length_cons,show(r.length+1)*n=n+r.length*n by rw[Nat.add_mul,Nat.one_mul,Nat.add_comm],List.take_add,h0,h1];rfl
theorem trod_ty {H:Type}{enc:TypeId × Value→H}{w:World}{base:Nat}{sp:Nat→Bool}{held:Bool}{fuel:Nat}{cs:List Value}{q:List MemPlace}{t:Ty}
  (h:DataW.trod enc Tryz.prog w base sp held fuel 108 cs=some (.agg [.lit (.string t.name),.lit (.int .i64 t.syn),.lit (.bool t.single)],q)):cs=tval t:=by
 obtain⟨y0,y1,y2,n,hx,hl,h0,h1,h2⟩:=Deep.trod_struct3 Tryz.underlying108 h;obtain⟨s,e0,rfl,_⟩:=DataW.trod_string Tryz.underlying9 h0;obtain⟨z,e1,rfl,_⟩:=DataW.trod_int Tryz.underlying3 h1;obtain⟨b,e2,rfl⟩:=DataW.trod_bool Tryz.underlying4 h2;have hx1:=congrArg Prod.fst hx;simp only[DataW.agg.injEq,List.cons.injEq,DataW.lit.injEq,Lit.string.injEq,Lit.int.injEq,Lit.bool.injEq,true_and,and_true]at hx1;obtain⟨x0,x1,x2⟩:=hx1;have k0:Tryz.prog.cellsOf 9=1:=by kernel_rfl
 have k1:Tryz.prog.cellsOf 3=1:=by kernel_rfl
 have k2:Tryz.prog.cellsOf 4=1:=by kernel_rfl
 have k3:Tryz.prog.cellsOf 108=3:=by kernel_rfl
 rw[k3]at hl;obtain⟨a,b',c,rfl⟩: ∃a b' c,cs=[a,b',c]:=by
  match cs,hl with
  | [a,b',c],_=>exact⟨a,b',c,rfl⟩
 ·skip
  have e0':[a]=[Value.string s]:=by simpa[k0]using e0
  have e1':[b']=[Value.int .i64 z]:=by simpa[k1]using e1
  have e2':[c]=[Value.bool b]:=by simpa[k2]using e2
  cases e0';cases e1';cases e2';unfold tval bs;rw[x0,x1,x2]
theorem tyEnv_of_reads {w:World}(h:Lib.VarReads Tryz.prog w "rollbook/attr.types" tyData):Hid (TyEnv w):=by
 obtain⟨g,t,cs,fuel,p,hg,hty,hvar,hd⟩:=h;obtain rfl:=Option.some.inj ((show Tryz.prog.globalNamed "rollbook/attr.types" =some 0 by kernel_rfl).symm.trans hg);obtain rfl:=Option.some.inj ((show(Tryz.prog.globals[0]?).map (·.type)=some 169 by kernel_rfl).symm.trans hty);have k3:Tryz.prog.cellsOf 108=3:=by kernel_rfl
 have hall:=rows_take tval 3 tys cs.toList (by intro i hi;obtain⟨fuel',d,q,hdi,he⟩:=Lib.array_elem Tryz.underlying169 hd i hi;rw[List.getElem?_map,List.getElem?_eq_getElem hi]at hdi;simp only[Option.map_some,Option.some.injEq]at hdi;subst hdi;rw[k3]at he;exact trod_ty he);intro j v hj;have hlt:j<60:=by
  have h1:=(List.getElem?_eq_some_iff.1 hj).1;have h2:tcells.length=60:=by kernel_rfl
  omega
 have hj2:(cs.toList.take (tys.length*3))[j]? =some v:=by rw[hall];exact hj
 rw[List.getElem?_take,if_pos (by rw[tys_len];omega)]at hj2;rw[Nat.zero_add,World.var?_cell hg hvar j,←Array.getElem?_toList];exact hj2
end atw
end Go.Proofs.YtmnpfkbjpeaemaaGreatDoor
