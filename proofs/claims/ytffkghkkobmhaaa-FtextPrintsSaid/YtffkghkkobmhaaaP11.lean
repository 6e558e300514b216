/- THE STATEMENT 'FtextPrints': whatever the input, the law returns true and leaves its input as it was. Conditions: those of the row alone. -/
import Derived.Test.YtffkghkkobmhaaaRows
import Derived.WalkKit
import Derived.ProofKit
import Derived.OpenShut
import Derived.ChangeOld
import Derived.Below
import Derived.SizedLaws
import Derived.LaidMore
import Derived.Deep.DeepHandedRow
import Derived.Deep.DeepWitnessRowRef
import Derived.Lib.LaidTab
import Derived.Test.YtffkghkkobmhaaaP10
set_option linter.unusedVariables false
set_option linter.unusedSimpArgs false
set_option maxRecDepth 100000
namespace Go.Proofs.Ytffkghkkobmhaaa.ftextPrints
open Go.ChangeShapes Go.WideShapes Go.ChangeAt Go.RowKit
open Go.ChangeMaps (open_string shut_string)
theorem own:ownKnob Try.prog.godebug=none:=by kernel_rfl
theorem laidOut:laidOutB Try.prog=true:=by kernel_rfl
theorem contract (H:Type)(enc:TypeId × Value→H)(W:World)(base:Nat)(args:Array Value)(ds gs:List (DataW H))(before:List MemPlace)
  (hval: ∀ (j:Nat) t v,Try.f3.params[j]? =some t→args[j]? =some v→Value.okWide Try.prog W .any base t v)
  (hW:DataW.Whole enc Try.prog Try.f3.params.toList Rows.ftextPrintsSpec.vars false W args.toList ds gs before)
  (hsz0:(DataW.weightsEach Try.prog (Try.f3.params.toList++Rows.ftextPrintsSpec.plain.varTypes Try.prog) (ds++gs)).all (· ≤reachBytes)=true)
  (hL:laidMetH Try.prog Rows.ftextPrintsRow.laid W) (hsh:W.ShapedOpen Try.prog):
  Calls Try.prog 3 args W fun e W'=> ∃v,e= .returned v∧Rows.ftextPrintsSpec.post enc Try.prog Try.f3 false true false false W args v W':=by
 have hW':=hW;obtain⟨p,q,hA0,hV,rfl,hfz,hnd⟩:=hW;have hA:DataW.TrodAll enc Try.prog W 0 (fun _=>true) true Try.f3.params.toList args.toList ds p:=hA0;have hsz:=hsz0;rw[Try.params3]at hA hval hsz;obtain⟨v0,vs0,d0,ds0,p0,q0,hargs,rfl,rfl,h0,r0⟩:=trodAll_cons hA;obtain⟨rfl,rfl,rfl⟩:=trodAll_nil r0;obtain rfl:args=#[v0]:=by cases args;simp_all
 obtain⟨rfl,rfl⟩:=trodVars_none hV;have k0:=h0;have lt0: ∀x∈p0,x.block<W.heap.size:=by obtain⟨m,hm⟩:=k0;exact DataW.trod_lt m _ _ _ hm
 obtain⟨F0,n0,hF0⟩:=flw.fl_of (hval 0 25 v0 rfl rfl) h0;clear hA0;simp only[List.append_nil]at hW';have walk:Calls Try.prog 3 #[v0] W fun e w'=>e= .returned (.bool true)∧Below W.heap.size W w':=by exact ftw.prints20_law F0 v0 W (Lib.hid ⟨n0,hF0⟩)
 refine walk.mono fun e W' ⟨he,hb⟩=> ?_;subst he;exact⟨_,rfl,_,_,_,[],_,[],hW',trodAll_cons_mk (shut_bool Try.underlying4 _) trodAll_mk0,(trodAll_cons_mk (Below.trod laidOut (by kernel_rfl) (of_decide_eq_true (by kernel_rfl)) k0 hb lt0) trodAll_mk0),rfl,hb.frame _,fun h=>by cases h⟩
theorem laid_met (os:Os):laidMet Try.prog Rows.ftextPrintsRow.laid ((World.holding Try.prog os ⟨#[],#[],[]⟩).forCall (fun _ _=>0) ⟨#[],#[.agg #[.int .i64 0,.string ByteArray.empty,.string ByteArray.empty,.string ByteArray.empty,.slice none 0 0,.string ByteArray.empty,.slice none 0 0]],[]⟩).memory:=laidMet_of_run' 8 (by kernel_rfl) (by kernel_rfl)
theorem reads (os:Os){H:Type}(enc:TypeId × Value→H): ∃places,DataW.whole enc Try.prog ((World.holding Try.prog os ⟨#[],#[],[]⟩).forCall (fun _ _=>0) ⟨#[],#[.agg #[.int .i64 0,.string ByteArray.empty,.string ByteArray.empty,.string ByteArray.empty,.slice none 0 0,.string ByteArray.empty,.slice none 0 0]],[]⟩).memory Try.f3.params.toList Rows.ftextPrintsSpec.vars false (#[.agg #[.int .i64 0,.string ByteArray.empty,.string ByteArray.empty,.string ByteArray.empty,.slice none 0 0,.string ByteArray.empty,.slice none 0 0]]:Array Value).toList 8=some ([.agg [.lit (.int .i64 0),.lit (.string []),.lit (.string []),.lit (.string []),.nil,.lit (.string []),.nil]],[],places):=⟨[],by kernel_rfl⟩
theorem lifted (os:Os)(started:os.Started)(H:Type)(enc:TypeId × Value→H)(F:Stop.Interp):
  ReturnsInHanded {} Try.checked os 3 .any ((OpenSpec.ofChange Rows.ftextPrintsSpec).preRow enc Try.prog Try.f3 Rows.ftextPrintsRow.domain false Rows.ftextPrintsRow.laid) (((OpenSpec.ofChange Rows.ftextPrintsSpec).at F).post enc Try.prog Try.f3 false true false false):=by
 obtain⟨places,hx⟩:=reads os enc;refine returnsInHanded_of_row (C:=Try.checked) (s:=(OpenSpec.ofChange Rows.ftextPrintsSpec)) own started (by kernel_rfl) Try.func3
  (witness_row_at (enc:=enc) (C:=Try.checked) false (World.holding Try.prog os ⟨#[],#[],[]⟩) #[.agg #[.int .i64 0,.string ByteArray.empty,.string ByteArray.empty,.string ByteArray.empty,.slice none 0 0,.string ByteArray.empty,.slice none 0 0]] rfl (by kernel_rfl) (by kernel_rfl) (by kernel_rfl)
   (OpenSpec.preRow_of_cond 8 hx (by kernel_rfl) (fun k hk=>by cases hk) (by kernel_rfl) (laid_met os))) ?_
 intro W base args ds gs before hval hW _ _ hsz hL hsh _;exact contract H enc W base args ds gs before hval hW hsz hL hsh
theorem said:Rows.FtextPrintsSaid:=
 OpenClaim.holds_of_cond 3 Try.f3 rfl rfl rfl rfl rfl rfl rfl ⟨rfl,rfl,rfl,rfl,rfl⟩ rfl rfl rfl rfl rfl (by kernel_rfl) Try.func3 (by kernel_rfl)
  (of_decide_eq_true (by kernel_rfl)) (by unfold Func.isWrapper;first | (rw[if_pos (by decide+kernel)];kernel_rfl) | (rw[if_neg (by decide+kernel)];exact⟨rfl,rfl⟩))
  (fun os started H enc _ F=>by rw[OpenClaim.pre_eq_preRow];exact lifted os started H enc F)
theorem proved:Rows.FtextPrintsSaid:=said
#print axioms proved
end Go.Proofs.Ytffkghkkobmhaaa.ftextPrints
