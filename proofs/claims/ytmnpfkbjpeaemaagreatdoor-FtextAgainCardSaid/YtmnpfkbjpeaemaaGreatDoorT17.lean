/- FtextAgain -/
import Derived.Test.YtmnpfkbjpeaemaaGreatDoorCards
import Derived.Test.YtmnpfkbjpeaemaaGreatDoorTie
import Derived.Lay
import Derived.Lib.LaidU8
import Derived.Lib.SmallJoins
import Derived.PinnedBridge
import Derived.WalkKit
import Derived.ProofKit
import Derived.OpenShut
import Derived.ChangeOld
import Derived.Below
import Derived.SizedLaws
import Derived.LaidMore
import Derived.Deep.DeepHandedRow
import Derived.Deep.DeepWitnessRowRef
import Derived.Lib.LaidTab
import Derived.Test.YtmnpfkbjpeaemaaGreatDoorT16
set_option linter.unusedVariables false
set_option linter.unusedSimpArgs false
set_option maxRecDepth 100000
namespace Go.Proofs.YtmnpfkbjpeaemaaGreatDoor.ftextAgain
open Go.ChangeShapes Go.WideShapes Go.ChangeAt Go.RowKit
open Go.ChangeMaps (open_string shut_string)
theorem own:ownKnob Tryz.prog.godebug=none:=by kernel_rfl
theorem laidOut:laidOutB Tryz.prog=true:=by kernel_rfl
theorem u8x:U8Extra Tryz.prog Tryz.lays260_ren where
 n3:=by kernel_rfl
 n4:=by kernel_rfl
 y3:=by kernel_rfl
 y4:=by kernel_rfl
 c5:=by kernel_rfl
 c119:=by kernel_rfl
 c138:=by kernel_rfl
theorem accEq:(Rows.laid_unicode_utf8_acceptRanges:DataW Unit)=Lib.acceptData:=by kernel_rfl
theorem tyEq:(Rows.laid_rollbook_attr_types:DataW Unit)=atw.tyData:=by kernel_rfl
theorem tabs {W:World}(h:laidMetH Tryz.prog Rows.ftextAgainRow.laid W):Hid (dnw.Tabs W):=utf8Tabs_of_reads Tryz.lays260 u8x (by have:=Lib.laidMet.reads h (n:= "unicode/utf8.first") (d:=Rows.laid_unicode_utf8_first) (by simp[Rows.ftextAgainRow]);rw[show Rows.laid_unicode_utf8_first=Lib.firstData from Pinned.utf8First_eq]at this;exact this) (by have:=Lib.laidMet.reads h (n:= "unicode/utf8.acceptRanges") (d:=Rows.laid_unicode_utf8_acceptRanges) (by simp[Rows.ftextAgainRow]);rw[accEq]at this;exact this)
theorem env {W:World}(hsh:W.ShapedOpen Tryz.prog):Hid (prw.Env W):=Tryz.laysM146.s1_3 W hsh
theorem typ {W:World}(h:laidMetH Tryz.prog Rows.ftextAgainRow.laid W):Hid (atw.TyEnv W):=atw.tyEnv_of_reads (by have:=Lib.laidMet.reads h (n:= "rollbook/attr.types") (d:=Rows.laid_rollbook_attr_types) (by simp[Rows.ftextAgainRow]);rw[tyEq]at this;exact this)
theorem envE {W:World}(hsh:W.ShapedOpen Tryz.prog)(h:laidMetH Tryz.prog Rows.ftextAgainRow.laid W):Hid (etw.EnvE W):=Lib.hid ⟨(env hsh).out,(tabs h).out,(typ h).out⟩
theorem contract (H:Type)(enc:TypeId × Value→H)(W:World)(base:Nat)(args:Array Value)(ds gs:List (DataW H))(before:List MemPlace)
  (hval: ∀ (j:Nat) t v,Tryz.f12.params[j]? =some t→args[j]? =some v→Value.okWide Tryz.prog W .any base t v)
  (hW:DataW.Whole enc Tryz.prog Tryz.f12.params.toList Rows.ftextAgainSpec.vars false W args.toList ds gs before)
  (hsz0:(DataW.weightsEach Tryz.prog (Tryz.f12.params.toList++Rows.ftextAgainSpec.plain.varTypes Tryz.prog) (ds++gs)).all (· ≤reachBytes)=true)
  (hL:laidMetH Tryz.prog Rows.ftextAgainRow.laid W) (hsh:W.ShapedOpen Tryz.prog):
  Calls Tryz.prog 12 args W fun e W'=> ∃v,e= .returned v∧Rows.ftextAgainSpec.post enc Tryz.prog Tryz.f12 false true false false W args v W':=by
 have hW':=hW;obtain⟨p,q,hA0,hV,rfl,hfz,hnd⟩:=hW;have hA:DataW.TrodAll enc Tryz.prog W 0 (fun _=>true) true Tryz.f12.params.toList args.toList ds p:=hA0;have hsz:=hsz0;rw[Tryz.params12]at hA hval hsz;obtain⟨v0,vs0,d0,ds0,p0,q0,hargs,rfl,rfl,h0,r0⟩:=trodAll_cons hA;obtain⟨v1,vs1,d1,ds1,p1,q1,rfl,rfl,rfl,h1,r1⟩:=trodAll_cons r0;obtain⟨rfl,rfl,rfl⟩:=trodAll_nil r1;obtain rfl:args=#[v0,v1]:=by cases args;simp_all
 obtain⟨rfl,rfl⟩:=trodVars_none hV;have k0:=h0;have lt0: ∀x∈p0,x.block<W.heap.size:=by obtain⟨m,hm⟩:=k0;exact DataW.trod_lt m _ _ _ hm
 have k1:=h1;have lt1: ∀x∈p1,x.block<W.heap.size:=by obtain⟨m,hm⟩:=k1;exact DataW.trod_lt m _ _ _ hm
 obtain⟨a0,rfl,rfl,rfl,ws0⟩:=open_string Tryz.underlying9 (hval 0 9 v0 rfl rfl) h0;have ha0:a0.size≤140737488351232:=by have:=sized_string hsz (j:=0) (t:=9) rfl rfl;simpa[reachBytes]using this
 obtain⟨ao1,len1,cap1,rfl⟩:=WideShapes.okWide_slice Tryz.underlying24 (hval 1 24 v1 rfl rfl);obtain⟨L1,hlen1,hA1,hc1,hz1⟩:=ftw.ats_wt h1 (fun n hn=>by have:=List.all_eq_true.1 hsz n (DataW.weights_mem_each (j:=1) (t:=24) (d:=d1) rfl rfl n hn);simpa using this);subst hlen1;clear hA0;simp only[List.append_nil]at hW';have walk:Calls Tryz.prog 12 #[.string a0,.slice ao1 L1.length cap1] W fun e w'=>e= .returned (.bool true)∧Below W.heap.size W w':=by exact ftw.again20_law a0 ao1 cap1 L1 W ha0 (Lib.hid hA1) hc1 (Lib.hid hz1) (envE hsh hL)
 refine walk.mono fun e W' ⟨he,hb⟩=> ?_;subst he;exact⟨_,rfl,_,_,_,[],_,[],hW',trodAll_cons_mk (shut_bool Tryz.underlying4 _) trodAll_mk0,(trodAll_cons_mk (Below.trod laidOut (by kernel_rfl) (of_decide_eq_true (by kernel_rfl)) k0 hb lt0) (trodAll_cons_mk (Below.trod laidOut (by kernel_rfl) (of_decide_eq_true (by kernel_rfl)) k1 hb lt1) trodAll_mk0)),rfl,hb.frame _,fun h=>by cases h⟩
theorem laid_met (os:Os):laidMet Tryz.prog Rows.ftextAgainRow.laid ((World.laidAll Tryz.prog os Rows.ftextAgainRow.laid).forCall (fun _ _=>0) ⟨#[],#[.string ByteArray.empty,.slice none 0 0],[]⟩).memory:=laidMet_laidAll _ (by kernel_rfl) (by kernel_rfl)
theorem reads (os:Os){H:Type}(enc:TypeId × Value→H): ∃places,DataW.whole enc Tryz.prog ((World.laidAll Tryz.prog os Rows.ftextAgainRow.laid).forCall (fun _ _=>0) ⟨#[],#[.string ByteArray.empty,.slice none 0 0],[]⟩).memory Tryz.f12.params.toList Rows.ftextAgainSpec.vars false (#[.string ByteArray.empty,.slice none 0 0]:Array Value).toList 8=some ([.lit (.string []),.nil],[],places):=⟨[],by kernel_rfl⟩
theorem lifted (os:Os)(started:os.Started)(H:Type)(enc:TypeId × Value→H)(F:Stop.Interp):
  ReturnsInHanded {} Tryz.checked os 12 .any ((OpenSpec.ofChange Rows.ftextAgainSpec).preRow enc Tryz.prog Tryz.f12 Rows.ftextAgainRow.domain false Rows.ftextAgainRow.laid) (((OpenSpec.ofChange Rows.ftextAgainSpec).at F).post enc Tryz.prog Tryz.f12 false true false false):=by
 obtain⟨places,hx⟩:=reads os enc;refine returnsInHanded_of_row (C:=Tryz.checked) (s:=(OpenSpec.ofChange Rows.ftextAgainSpec)) own started (by kernel_rfl) Tryz.func12
  (witness_row_at (enc:=enc) (C:=Tryz.checked) false (World.laidAll Tryz.prog os Rows.ftextAgainRow.laid) #[.string ByteArray.empty,.slice none 0 0] (World.laidAll_os _ _ _) (by kernel_rfl) (by kernel_rfl) (by kernel_rfl)
   (OpenSpec.preRow_of_cond 8 hx (by kernel_rfl) (fun k hk=>by cases hk) (by kernel_rfl) (laid_met os))) ?_
 intro W base args ds gs before hval hW _ _ hsz hL hsh _;exact contract H enc W base args ds gs before hval hW hsz hL hsh
theorem band {a b:Bool}(h1:a=true)(h2:b=true):(a&&b)=true:=by rw[h1,h2];rfl
noncomputable abbrev S:=(OpenSpec.ofChange Rows.ftextAgainSpec).bare
noncomputable abbrev R:=Rows.ftextAgainRow
noncomputable abbrev P:=Tryz.pinned.checked.prog
noncomputable abbrev Q:=Tryz.f12.params.toList
noncomputable abbrev T:=Tryz.f12.resultTypes.toList
theorem k0:(R.wf (OpenSpec.ofChange S))=true:=by kernel_rfl
theorem k1:(laidOutB P)=true:=by kernel_rfl
theorem k2:(mapsRowed P)=true:=by kernel_rfl
theorem k3:(Tryz.f12.params.all (P.readableRec ·))=true:=by kernel_rfl
theorem k4:(namedTie P R.named S.vars)=true:=by kernel_rfl
theorem k5:((R.stops==[]))=true:=by kernel_rfl
theorem k6:((P.stops==[]))=true:=by kernel_rfl
theorem k7:((R.knobs==[]))=true:=by kernel_rfl
theorem k8:((P.stopKnobs==[]))=true:=by kernel_rfl
theorem k9:((R.inPlace==P.inPlace 12))=true:=by kernel_rfl
theorem k10:((R.unfollowed==P.unfollowed 12))=true:=by kernel_rfl
theorem k11:((R.recurses==P.recurses 12))=true:=by kernel_rfl
theorem k12:((R.named==P.varsNamed 12))=true:=by kernel_rfl
theorem k13:((R.maps==(Q++S.plain.varTypes P).any (P.mapsRec ·)))=true:=by kernel_rfl
theorem k14:((R.ifaces==(Q++S.plain.varTypes P).any (P.ifacesRec ·)))=true:=by kernel_rfl
theorem k15:((R.mapsOut==P.mapsAmong T))=true:=by kernel_rfl
theorem k16:((R.loops==(Q++S.plain.varTypes P).any (P.loopsFrom ·)))=true:=by kernel_rfl
theorem k17:((R.wideKeys==(Q++S.plain.varTypes P++T).any (P.wideKeysFrom ·)))=true:=by kernel_rfl
theorem k18:(S.vars.all (P.varReadable ·))=true:=by kernel_rfl
theorem k19:(Tryz.f12.resultTypes.all (fun t=>P.readableRec t&&decide (t<P.types.size)))=true:=by kernel_rfl
theorem k20:((R.ifacesOut==T.any (P.ifacesRec ·)))=true:=by kernel_rfl
theorem k21:((R.loopsOut==T.any (P.loopsFrom ·)))=true:=by kernel_rfl
theorem k22:((R.plainKeys==P.plainKeys))=true:=by kernel_rfl
theorem k23:(R.shortTexts.isNone)=true:=by kernel_rfl
theorem k24:(P.stopsHeard)=true:=by kernel_rfl
theorem k25:(P.mayEnter)=true:=by kernel_rfl
theorem k26:((R.lifted==P.liftsFinal))=true:=by kernel_rfl
theorem k27:((P.make==some R.make))=true:=by kernel_rfl
theorem k28:((R.kinds==(if R.domain.isEmpty then[]else Q.map fun t=>match P.underlying t with | some (.int k)=>some k | _=>none)))=true:=by kernel_rfl
theorem k29:((R.pinned==R.pinnedBy))=true:=by kernel_rfl
theorem k30:((R.veiled==(Q++S.plain.varTypes P++T).any (P.veiledRec ·)))=true:=by kernel_rfl
theorem k31:(R.veiledFits P Q (Q++S.plain.varTypes P++T))=true:=by kernel_rfl
theorem joined:joinedFacts P 12 Tryz.f12 S R=true:=by unfold joinedFacts;exact(band (band (band (band (band (band (band (band (band (band (band (band (band (band (band (band (band (band (band (band (band (band (band (band (band (band (band (band (band (band (band k0 k1) k2) k3) k4) k5) k6) k7) k8) k9) k10) k11) k12) k13) k14) k15) k16) k17) k18) k19) k20) k21) k22) k23) k24) k25) k26) k27) k28) k29) k30) k31)
theorem named:P.funcNamed R.func=some 12:=by kernel_rfl
theorem inst:Tryz.f12.isInstance Tryz.pinned.checked.prog Rows.ftextAgainRow.origin Rows.ftextAgainRow.targs:=of_decide_eq_true (by kernel_rfl)
theorem wrap:Tryz.f12.isWrapper Tryz.pinned.checked.prog Rows.ftextAgainRow.wrapper Rows.ftextAgainRow.mainSum:=by unfold Func.isWrapper;first | (rw[if_pos (by decide+kernel)];kernel_rfl) | (rw[if_neg (by decide+kernel)];exact⟨rfl,rfl⟩)
theorem said:Rows.FtextAgainSaid:=
 OpenClaim.holds_of_cond 12 Tryz.f12 rfl rfl rfl rfl rfl rfl rfl ⟨rfl,rfl,rfl,rfl,rfl⟩ rfl rfl rfl rfl rfl named Tryz.func12 joined inst wrap
  (fun os started H enc _ F=>by rw[OpenClaim.pre_eq_preRow];exact lifted os started H enc F)
theorem plain (f:FuncId)(fn:Func)(hf:Tryz.pinned.checked.prog.funcNamed "rollbook/rollbooklaw20.FtextAgain" =some f)(hfn:Tryz.pinned.checked.prog.funcs[f]? =some fn):
  true=Tryz.pinned.checked.prog.looks []∧ ∀ (j:Nat) t,fn.params[j]? =some t→Tryz.pinned.checked.prog.wantsStandIn t=false:=by
 obtain rfl:f=12:=Option.some.inj ((show Tryz.prog.funcNamed "rollbook/rollbooklaw20.FtextAgain" =some 12 by kernel_rfl).symm.trans hf) |>.symm;obtain rfl:fn=Tryz.f12:=(Option.some.inj (Tryz.func12.symm.trans hfn)).symm;refine⟨by kernel_rfl,fun j t ht=> ?_⟩;rw[Tryz.params12]at ht;have hm:t∈[9,24]:=by simpa using Array.mem_of_getElem? ht
 have hall:([9,24].all fun u=> !Tryz.prog.wantsStandIn u)=true:=by kernel_rfl
 exact(show Tryz.prog.wantsStandIn t=false by simpa using List.all_eq_true.1 hall t hm)
theorem pw:Rows.ftextAgainRow.wfByText (OpenSpec.ofChange Rows.ftextAgainSpec)=true:=by kernel_rfl
theorem pm:Tryz.pinned.checked.prog.mainIs=some (Rows.ftextAgainCard.stood.harness.1,Rows.ftextAgainCard.stood.harness.2.toList):=by kernel_rfl
theorem pg:false=Rows.ftextAgainRow.goesBy Tryz.pinned.checked.prog:=by kernel_rfl
theorem proved:Rows.FtextAgainCardSaid:=Claim7.holds_tied_plain_at .later [] _ _ _ _ said (fun _ h=>by cases h) pw (fun _ h=>by cases h) ftextAgain_row_tie rfl ⟨rfl,rfl⟩ pm rfl plain pg
#print axioms proved
end Go.Proofs.YtmnpfkbjpeaemaaGreatDoor.ftextAgain
