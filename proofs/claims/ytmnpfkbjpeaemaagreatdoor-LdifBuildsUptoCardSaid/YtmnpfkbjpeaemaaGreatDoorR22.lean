/- LdifBuilds -/
import Derived.Test.YtmnpfkbjpeaemaaGreatDoorCards
import Derived.Test.YtmnpfkbjpeaemaaGreatDoorTie
import Derived.Lay
import Derived.Lib.LaidU8
import Derived.Lib.SmallJoins
import Derived.PinnedBridge
import Derived.WalkKit
import Derived.ProofKit
import Derived.OpenShut
import Derived.ChangeOld
import Derived.Below
import Derived.SizedLaws
import Derived.LaidMore
import Derived.Deep.DeepHandedRow
import Derived.Deep.DeepWitnessRowRef
import Derived.Lib.LaidTab
import Derived.Test.YtmnpfkbjpeaemaaGreatDoorR21
set_option linter.unusedVariables false
set_option linter.unusedSimpArgs false
set_option maxRecDepth 100000
namespace Go.Proofs.YtmnpfkbjpeaemaaGreatDoor.ldifBuilds
open Go.ChangeShapes Go.WideShapes Go.ChangeAt Go.RowKit
open Go.ChangeMaps (open_string shut_string)
theorem own:ownKnob Tryz.prog.godebug=none:=by kernel_rfl
theorem laidOut:laidOutB Tryz.prog=true:=by kernel_rfl
theorem u8x:U8Extra Tryz.prog Tryz.lays260_ren where
 n3:=by kernel_rfl
 n4:=by kernel_rfl
 y3:=by kernel_rfl
 y4:=by kernel_rfl
 c5:=by kernel_rfl
 c119:=by kernel_rfl
 c138:=by kernel_rfl
theorem accEq:(Rows.laid_unicode_utf8_acceptRanges:DataW Unit)=Lib.acceptData:=by kernel_rfl
theorem tyEq:(Rows.laid_rollbook_attr_types:DataW Unit)=atw.tyData:=by kernel_rfl
theorem tabs {W:World}(h:laidMetH Tryz.prog Rows.ldifBuildsUptoRow.laid W):Hid (dnw.Tabs W):=utf8Tabs_of_reads Tryz.lays260 u8x (by have:=Lib.laidMet.reads h (n:= "unicode/utf8.first") (d:=Rows.laid_unicode_utf8_first) (by simp[Rows.ldifBuildsUptoRow]);rw[show Rows.laid_unicode_utf8_first=Lib.firstData from Pinned.utf8First_eq]at this;exact this) (by have:=Lib.laidMet.reads h (n:= "unicode/utf8.acceptRanges") (d:=Rows.laid_unicode_utf8_acceptRanges) (by simp[Rows.ldifBuildsUptoRow]);rw[accEq]at this;exact this)
theorem env {W:World}(hsh:W.ShapedOpen Tryz.prog):Hid (prw.Env W):=Tryz.laysM146.s1_3 W hsh
theorem typ {W:World}(h:laidMetH Tryz.prog Rows.ldifBuildsUptoRow.laid W):Hid (atw.TyEnv W):=atw.tyEnv_of_reads (by have:=Lib.laidMet.reads h (n:= "rollbook/attr.types") (d:=Rows.laid_rollbook_attr_types) (by simp[Rows.ldifBuildsUptoRow]);rw[tyEq]at this;exact this)
theorem envE {W:World}(hsh:W.ShapedOpen Tryz.prog)(h:laidMetH Tryz.prog Rows.ldifBuildsUptoRow.laid W):Hid (etw.EnvE W):=Lib.hid ⟨(env hsh).out,(tabs h).out,(typ h).out⟩
theorem contract (H:Type)(enc:TypeId × Value→H)(W:World)(base:Nat)(args:Array Value)(ds gs:List (DataW H))(before:List MemPlace)
  (hval: ∀ (j:Nat) t v,Tryz.f7.params[j]? =some t→args[j]? =some v→Value.okWide Tryz.prog W .any base t v)
  (hW:DataW.Whole enc Tryz.prog Tryz.f7.params.toList Rows.ldifBuildsSpec.vars false W args.toList ds gs before)
  (hk:Rows.uptoSmall H (ds++gs)=true)
  (hsz0:(DataW.weightsEach Tryz.prog (Tryz.f7.params.toList++Rows.ldifBuildsSpec.plain.varTypes Tryz.prog) (ds++gs)).all (· ≤reachBytes)=true)
  (hL:laidMetH Tryz.prog Rows.ldifBuildsUptoRow.laid W) (hsh:W.ShapedOpen Tryz.prog):
  Calls Tryz.prog 7 args W fun e W'=> ∃v,e= .returned v∧Rows.ldifBuildsSpec.post enc Tryz.prog Tryz.f7 false true false false W args v W':=by
 have hW':=hW;obtain⟨p,q,hA0,hV,rfl,hfz,hnd⟩:=hW;have hA:DataW.TrodAll enc Tryz.prog W 0 (fun _=>true) true Tryz.f7.params.toList args.toList ds p:=hA0;have hsz:=hsz0;rw[Tryz.params7]at hA hval hsz;obtain⟨v0,vs0,d0,ds0,p0,q0,hargs,rfl,rfl,h0,r0⟩:=trodAll_cons hA;obtain⟨v1,vs1,d1,ds1,p1,q1,rfl,rfl,rfl,h1,r1⟩:=trodAll_cons r0;obtain⟨v2,vs2,d2,ds2,p2,q2,rfl,rfl,rfl,h2,r2⟩:=trodAll_cons r1;obtain⟨rfl,rfl,rfl⟩:=trodAll_nil r2;obtain rfl:args=#[v0,v1,v2]:=by cases args;simp_all
 obtain⟨rfl,rfl⟩:=trodVars_none hV;have k0:=h0;have lt0: ∀x∈p0,x.block<W.heap.size:=by obtain⟨m,hm⟩:=k0;exact DataW.trod_lt m _ _ _ hm
 have k1:=h1;have lt1: ∀x∈p1,x.block<W.heap.size:=by obtain⟨m,hm⟩:=k1;exact DataW.trod_lt m _ _ _ hm
 have k2:=h2;have lt2: ∀x∈p2,x.block<W.heap.size:=by obtain⟨m,hm⟩:=k2;exact DataW.trod_lt m _ _ _ hm
 obtain⟨nm0,po0,ps0,pc0,rfl,bA0,bc0,bk0⟩:=lbw.rec_of (hval 0 54 v0 rfl rfl) h0;obtain⟨no1,len1,nc1,rfl⟩:=WideShapes.okWide_slice Tryz.underlying55 (hval 1 55 v1 rfl rfl);obtain⟨nn1,hlen1,bN1,bc1,bk1⟩:=lbw.rdns_bulk h1;subst hlen1;obtain⟨E2,hE2,hr2,ha2,hv2⟩:=etw.ent_of (hval 2 26 v2 rfl rfl) h2;clear hA0;simp only[List.append_nil]at hW';have walk:Calls Tryz.prog 7 #[.agg #[.string nm0,.slice po0 ps0.length pc0],.slice no1 nn1.length nc1,v2] W fun e w'=>e= .returned (.bool true)∧Below W.heap.size W w':=by have hbk:=hk;simp[Rows.uptoSmall,Rows.uptoBulkAll]at hbk;exact lbw.builds21_law nm0 po0 pc0 ps0 no1 nc1 nn1 v2 E2 W (Lib.hid bA0) (by omega) (Lib.hid bN1) (Lib.hid fun l hl=>by have:=bk1 l hl;omega) (Lib.hid hE2) (envE hsh hL)
 refine walk.mono fun e W' ⟨he,hb⟩=> ?_;subst he;exact⟨_,rfl,_,_,_,[],_,[],hW',trodAll_cons_mk (shut_bool Tryz.underlying4 _) trodAll_mk0,(trodAll_cons_mk (Below.trod laidOut (by kernel_rfl) (of_decide_eq_true (by kernel_rfl)) k0 hb lt0) (trodAll_cons_mk (Below.trod laidOut (by kernel_rfl) (of_decide_eq_true (by kernel_rfl)) k1 hb lt1) (trodAll_cons_mk (Below.trod laidOut (by kernel_rfl) (of_decide_eq_true (by kernel_rfl)) k2 hb lt2) trodAll_mk0))),rfl,hb.frame _,fun h=>by cases h⟩
theorem laid_met (os:Os):laidMet Tryz.prog Rows.ldifBuildsUptoRow.laid ((World.laidAll Tryz.prog os Rows.ldifBuildsUptoRow.laid).forCall (fun _ _=>0) ⟨#[],#[.agg #[.string ByteArray.empty,.slice none 0 0],.slice none 0 0,.agg #[.slice none 0 0,.slice none 0 0]],[]⟩).memory:=laidMet_laidAll _ (by kernel_rfl) (by kernel_rfl)
theorem reads (os:Os){H:Type}(enc:TypeId × Value→H): ∃places,DataW.whole enc Tryz.prog ((World.laidAll Tryz.prog os Rows.ldifBuildsUptoRow.laid).forCall (fun _ _=>0) ⟨#[],#[.agg #[.string ByteArray.empty,.slice none 0 0],.slice none 0 0,.agg #[.slice none 0 0,.slice none 0 0]],[]⟩).memory Tryz.f7.params.toList Rows.ldifBuildsSpec.vars false (#[.agg #[.string ByteArray.empty,.slice none 0 0],.slice none 0 0,.agg #[.slice none 0 0,.slice none 0 0]]:Array Value).toList 8=some ([.agg [.lit (.string []),.nil],.nil,.agg [.nil,.nil]],[],places):=⟨[],by kernel_rfl⟩
theorem lifted (os:Os)(started:os.Started)(H:Type)(enc:TypeId × Value→H)(F:Stop.Interp):
  ReturnsInHanded {} Tryz.checked os 7 .any ((Rows.OpenSpec.upto Rows.ldifBuildsSpec).preRow enc Tryz.prog Tryz.f7 Rows.ldifBuildsUptoRow.domain false Rows.ldifBuildsUptoRow.laid) (((Rows.OpenSpec.upto Rows.ldifBuildsSpec).at F).post enc Tryz.prog Tryz.f7 false true false false):=by
 obtain⟨places,hx⟩:=reads os enc;refine returnsInHanded_of_row (C:=Tryz.checked) (s:=(Rows.OpenSpec.upto Rows.ldifBuildsSpec)) own started (by kernel_rfl) Tryz.func7
  (witness_row_at (enc:=enc) (C:=Tryz.checked) false (World.laidAll Tryz.prog os Rows.ldifBuildsUptoRow.laid) #[.agg #[.string ByteArray.empty,.slice none 0 0],.slice none 0 0,.agg #[.slice none 0 0,.slice none 0 0]] (World.laidAll_os _ _ _) (by kernel_rfl) (by kernel_rfl) (by kernel_rfl)
   (OpenSpec.preRow_of_cond 8 hx (by kernel_rfl) (fun k hk=>by cases hk;kernel_rfl) (by kernel_rfl) (laid_met os))) ?_
 intro W base args ds gs before hval hW _ hcond hsz hL hsh _;exact contract H enc W base args ds gs before hval hW (hcond _ rfl) hsz hL hsh
theorem band {a b:Bool}(h1:a=true)(h2:b=true):(a&&b)=true:=by rw[h1,h2];rfl
noncomputable abbrev S:=(OpenSpec.ofChange Rows.ldifBuildsSpec).bare
noncomputable abbrev R:=Rows.ldifBuildsRow
noncomputable abbrev P:=Tryz.pinned.checked.prog
noncomputable abbrev Q:=Tryz.f7.params.toList
noncomputable abbrev T:=Tryz.f7.resultTypes.toList
theorem k0:(Rows.ldifBuildsUptoRow.wf (OpenSpec.ofChange (Rows.OpenSpec.upto Rows.ldifBuildsSpec).bare))=true:=by kernel_rfl
theorem k1:(laidOutB P)=true:=by kernel_rfl
theorem k2:(mapsRowed P)=true:=by kernel_rfl
theorem k3:(Tryz.f7.params.all (P.readableRec ·))=true:=by kernel_rfl
theorem k4:(namedTie P Rows.ldifBuildsUptoRow.named (Rows.OpenSpec.upto Rows.ldifBuildsSpec).bare.vars)=true:=by kernel_rfl
theorem k5:((Rows.ldifBuildsUptoRow.stops==[]))=true:=by kernel_rfl
theorem k6:((P.stops==[]))=true:=by kernel_rfl
theorem k7:((Rows.ldifBuildsUptoRow.knobs==[]))=true:=by kernel_rfl
theorem k8:((P.stopKnobs==[]))=true:=by kernel_rfl
theorem k9:((Rows.ldifBuildsUptoRow.inPlace==P.inPlace 7))=true:=by kernel_rfl
theorem k10:((Rows.ldifBuildsUptoRow.unfollowed==P.unfollowed 7))=true:=by kernel_rfl
theorem k11:((Rows.ldifBuildsUptoRow.recurses==P.recurses 7))=true:=by kernel_rfl
theorem k12:((Rows.ldifBuildsUptoRow.named==P.varsNamed 7))=true:=by kernel_rfl
theorem k13:((Rows.ldifBuildsUptoRow.maps==(Q++(Rows.OpenSpec.upto Rows.ldifBuildsSpec).bare.plain.varTypes P).any (P.mapsRec ·)))=true:=by kernel_rfl
theorem k14:((Rows.ldifBuildsUptoRow.ifaces==(Q++(Rows.OpenSpec.upto Rows.ldifBuildsSpec).bare.plain.varTypes P).any (P.ifacesRec ·)))=true:=by kernel_rfl
theorem k15:((Rows.ldifBuildsUptoRow.mapsOut==P.mapsAmong T))=true:=by kernel_rfl
theorem k16:((Rows.ldifBuildsUptoRow.loops==(Q++(Rows.OpenSpec.upto Rows.ldifBuildsSpec).bare.plain.varTypes P).any (P.loopsFrom ·)))=true:=by kernel_rfl
theorem k17:((Rows.ldifBuildsUptoRow.wideKeys==(Q++(Rows.OpenSpec.upto Rows.ldifBuildsSpec).bare.plain.varTypes P++T).any (P.wideKeysFrom ·)))=true:=by kernel_rfl
theorem k18:((Rows.OpenSpec.upto Rows.ldifBuildsSpec).bare.vars.all (P.varReadable ·))=true:=by kernel_rfl
theorem k19:(Tryz.f7.resultTypes.all (fun t=>P.readableRec t&&decide (t<P.types.size)))=true:=by kernel_rfl
theorem k20:((Rows.ldifBuildsUptoRow.ifacesOut==T.any (P.ifacesRec ·)))=true:=by kernel_rfl
theorem k21:((Rows.ldifBuildsUptoRow.loopsOut==T.any (P.loopsFrom ·)))=true:=by kernel_rfl
theorem k22:((Rows.ldifBuildsUptoRow.plainKeys==P.plainKeys))=true:=by kernel_rfl
theorem k23:(Rows.ldifBuildsUptoRow.shortTexts.isNone)=true:=by kernel_rfl
theorem k24:(P.stopsHeard)=true:=by kernel_rfl
theorem k25:(P.mayEnter)=true:=by kernel_rfl
theorem k26:((Rows.ldifBuildsUptoRow.lifted==P.liftsFinal))=true:=by kernel_rfl
theorem k27:((P.make==some Rows.ldifBuildsUptoRow.make))=true:=by kernel_rfl
theorem k28:((Rows.ldifBuildsUptoRow.kinds==(if Rows.ldifBuildsUptoRow.domain.isEmpty then[]else Q.map fun t=>match P.underlying t with | some (.int k)=>some k | _=>none)))=true:=by kernel_rfl
theorem k29:((Rows.ldifBuildsUptoRow.pinned==Rows.ldifBuildsUptoRow.pinnedBy))=true:=by kernel_rfl
theorem k30:((Rows.ldifBuildsUptoRow.veiled==(Q++(Rows.OpenSpec.upto Rows.ldifBuildsSpec).bare.plain.varTypes P++T).any (P.veiledRec ·)))=true:=by kernel_rfl
theorem k31:(Rows.ldifBuildsUptoRow.veiledFits P Q (Q++(Rows.OpenSpec.upto Rows.ldifBuildsSpec).bare.plain.varTypes P++T))=true:=by kernel_rfl
theorem joined:joinedFacts P 7 Tryz.f7 (Rows.OpenSpec.upto Rows.ldifBuildsSpec).bare Rows.ldifBuildsUptoRow=true:=by unfold joinedFacts;exact(band (band (band (band (band (band (band (band (band (band (band (band (band (band (band (band (band (band (band (band (band (band (band (band (band (band (band (band (band (band (band k0 k1) k2) k3) k4) k5) k6) k7) k8) k9) k10) k11) k12) k13) k14) k15) k16) k17) k18) k19) k20) k21) k22) k23) k24) k25) k26) k27) k28) k29) k30) k31)
theorem named:P.funcNamed Rows.ldifBuildsUptoRow.func=some 7:=by kernel_rfl
theorem inst:Tryz.f7.isInstance Tryz.pinned.checked.prog Rows.ldifBuildsUptoRow.origin Rows.ldifBuildsUptoRow.targs:=of_decide_eq_true (by kernel_rfl)
theorem wrap:Tryz.f7.isWrapper Tryz.pinned.checked.prog Rows.ldifBuildsUptoRow.wrapper Rows.ldifBuildsUptoRow.mainSum:=by unfold Func.isWrapper;first | (rw[if_pos (by decide+kernel)];kernel_rfl) | (rw[if_neg (by decide+kernel)];exact⟨rfl,rfl⟩)
theorem said:Rows.LdifBuildsUptoSaid:=
 OpenClaim.holds_of_cond 7 Tryz.f7 rfl rfl rfl rfl rfl rfl rfl ⟨rfl,rfl,rfl,rfl,rfl⟩ rfl rfl rfl rfl rfl named Tryz.func7 joined inst wrap
  (fun os started H enc _ F=>by rw[OpenClaim.pre_eq_preRow];exact lifted os started H enc F)
theorem plain (f:FuncId)(fn:Func)(hf:Tryz.pinned.checked.prog.funcNamed "rollbook/rollbooklaw21.LdifBuilds" =some f)(hfn:Tryz.pinned.checked.prog.funcs[f]? =some fn):
  true=Tryz.pinned.checked.prog.looks []∧ ∀ (j:Nat) t,fn.params[j]? =some t→Tryz.pinned.checked.prog.wantsStandIn t=false:=by
 obtain rfl:f=7:=Option.some.inj ((show Tryz.prog.funcNamed "rollbook/rollbooklaw21.LdifBuilds" =some 7 by kernel_rfl).symm.trans hf) |>.symm;obtain rfl:fn=Tryz.f7:=(Option.some.inj (Tryz.func7.symm.trans hfn)).symm;refine⟨by kernel_rfl,fun j t ht=> ?_⟩;rw[Tryz.params7]at ht;have hm:t∈[54,55,26]:=by simpa using Array.mem_of_getElem? ht
 have hall:([54,55,26].all fun u=> !Tryz.prog.wantsStandIn u)=true:=by kernel_rfl
 exact(show Tryz.prog.wantsStandIn t=false by simpa using List.all_eq_true.1 hall t hm)
theorem pw:Rows.ldifBuildsUptoRow.wfByText (Rows.OpenSpec.upto Rows.ldifBuildsSpec)=true:=by kernel_rfl
theorem pm:Tryz.pinned.checked.prog.mainIs=some (Rows.ldifBuildsUptoCard.stood.harness.1,Rows.ldifBuildsUptoCard.stood.harness.2.toList):=by kernel_rfl
theorem pg:false=Rows.ldifBuildsUptoRow.goesBy Tryz.pinned.checked.prog:=by kernel_rfl
theorem proved:Rows.LdifBuildsUptoCardSaid:=Claim7.holds_tied_plain_at .later [] _ _ _ _ said (fun _ h=>by cases h) pw (fun _ h=>by cases h) ldifBuildsUpto_row_tie rfl ⟨rfl,rfl⟩ pm rfl plain pg
#print axioms proved
end Go.Proofs.YtmnpfkbjpeaemaaGreatDoor.ldifBuilds
