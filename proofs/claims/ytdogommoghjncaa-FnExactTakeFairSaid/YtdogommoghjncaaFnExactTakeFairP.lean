/-
  The given statement of the law FnExactTakeFair.
  Conditions: none beyond the statement's own.
-/
import Derived.Test.YtdogommoghjncaaRows
import Derived.Test.YtdogommoghjncaaVAny
import Derived.Test.YtdogommoghjncaaFnExactTakeFairL
import Derived.WalkKit
import Derived.ProofKit
import Derived.OpenShut
import Derived.ShutString
import Derived.ChangeOld
import Derived.Below
namespace Go.Proofs.Ytdogommoghjncaa.fnExactTakeFair
open Go.ChangeShapes Go.WideShapes Go.ChangeAt Go.RowKit
set_option linter.all false

theorem own : ownKnob Try.prog.godebug = none := by kernel_rfl
theorem laidOut : laidOutB Try.prog = true := by kernel_rfl
theorem follows : Try.prog.follows .mixedOrders = true := by kernel_rfl

theorem tysOk : Go.Pv.tysR Try.prog [54] = some tysLaw := by kernel_rfl

set_option maxRecDepth 100000 in
theorem lifted (os : Os) (started : os.Started) (H : Type) (enc : TypeId × Value → H) :
    ReturnsInHanded {} Try.checked os 4 .any (Rows.fnExactTakeFairSpec.pre6 enc Try.prog Try.f4 Rows.fnExactTakeFairRow.domain false) (Rows.fnExactTakeFairSpec.post enc Try.prog Try.f4 false true false false) := by
  refine returnsInHanded_of_change (C := Try.checked) own started (by kernel_rfl) Try.func4
    (ChangeSpec.witness6 (enc := enc) (C := Try.checked) false ⟨#[], #[.agg #[.int .i64 0, .int .i64 0, .slice none 0 0, .slice none 0 0, .int .i64 0, .bool false]], []⟩ 8 (by kernel_rfl) (by kernel_rfl) (by kernel_rfl) (by kernel_rfl)) ?_
  intro W base args ds gs before hval0 hW hcnd _
  have hval : ∀ (j : Nat) t v, Try.f4.params[j]? = some t → args[j]? = some v → Value.okWide Try.prog W .any base t v := hval0
  have hW' := hW
  obtain ⟨p, q, hA0, hV, rfl, hfz, hnd⟩ := hW
  have hA : DataW.TrodAll enc Try.prog W 0 (fun _ => true) true Try.f4.params.toList args.toList ds p := hA0
  rw [Try.params4] at hA hval
  have hA1 : DataW.TrodAll enc Try.prog W 0 (fun _ => true) true [54] args.toList ds p := hA
  have walk := Go.Pv.pv_any (A := pvAnn) (d := 12) follows laidOut extAll lawAny (tysOk) hA1 (fun j t v h1 h2 => hval j t v (by simpa using h1) (by simpa using h2))
  obtain ⟨v0, vs0, d0, ds0, p0, q0, hargs, rfl, rfl, h0, r0⟩ := trodAll_cons hA
  obtain ⟨rfl, rfl, rfl⟩ := trodAll_nil r0
  obtain rfl : args = #[v0] := by cases args; simp_all
  have lt0 : ∀ x ∈ p0, x.block < W.heap.size := by obtain ⟨m, hm⟩ := h0; exact DataW.trod_lt m _ _ _ hm
  obtain ⟨rfl, rfl⟩ := trodVars_none hV
  clear hA0 hval0
  refine walk.mono fun e W' ⟨he, bel⟩ => ?_
  subst he
  exact ⟨_, rfl, _, _, _, [], _, [], hW', trodAll_mk1 (shut_bool Try.underlying4 _), (trodAll_cons_mk (Below.trod laidOut (by kernel_rfl) (of_decide_eq_true (by kernel_rfl)) h0 bel lt0) trodAll_mk0), rfl, bel.frame _, fun h => by cases h⟩

theorem k0 : Rows.fnExactTakeFairRow.wf (OpenSpec.ofChange Rows.fnExactTakeFairSpec) = true := by kernel_rfl
theorem k1 : laidOutB Try.pinned.checked.prog = true := by kernel_rfl
theorem k2 : mapsRowed Try.pinned.checked.prog = true := by kernel_rfl
theorem k3 : Try.f4.params.all (Try.pinned.checked.prog.readableRec ·) = true := by kernel_rfl
theorem k4 : namedTie Try.pinned.checked.prog Rows.fnExactTakeFairRow.named Rows.fnExactTakeFairSpec.vars = true := by kernel_rfl
theorem k5 : (Rows.fnExactTakeFairRow.stops == []) = true := by kernel_rfl
theorem k6 : (Try.pinned.checked.prog.stops == []) = true := by kernel_rfl
theorem k7 : (Rows.fnExactTakeFairRow.knobs == []) = true := by kernel_rfl
theorem k8 : (Try.pinned.checked.prog.stopKnobs == []) = true := by kernel_rfl
theorem k9 : (Rows.fnExactTakeFairRow.inPlace == Try.pinned.checked.prog.inPlace 4) = true := by kernel_rfl
theorem k10 : (Rows.fnExactTakeFairRow.unfollowed == Try.pinned.checked.prog.unfollowed 4) = true := by kernel_rfl
theorem k11 : (Rows.fnExactTakeFairRow.recurses == Try.pinned.checked.prog.recurses 4) = true := by kernel_rfl
theorem k12 : (Rows.fnExactTakeFairRow.named == Try.pinned.checked.prog.varsNamed 4) = true := by kernel_rfl
theorem k13 : (Rows.fnExactTakeFairRow.maps == (Try.f4.params.toList ++ Rows.fnExactTakeFairSpec.plain.varTypes Try.pinned.checked.prog).any (Try.pinned.checked.prog.mapsRec ·)) = true := by kernel_rfl
theorem k14 : (Rows.fnExactTakeFairRow.ifaces == (Try.f4.params.toList ++ Rows.fnExactTakeFairSpec.plain.varTypes Try.pinned.checked.prog).any (Try.pinned.checked.prog.ifacesRec ·)) = true := by kernel_rfl
theorem k15 : (Rows.fnExactTakeFairRow.mapsOut == Try.pinned.checked.prog.mapsAmong Try.f4.resultTypes.toList) = true := by kernel_rfl
theorem k16 : (Rows.fnExactTakeFairRow.loops == (Try.f4.params.toList ++ Rows.fnExactTakeFairSpec.plain.varTypes Try.pinned.checked.prog).any (Try.pinned.checked.prog.loopsFrom ·)) = true := by kernel_rfl
theorem k17 : (Rows.fnExactTakeFairRow.wideKeys == (Try.f4.params.toList ++ Rows.fnExactTakeFairSpec.plain.varTypes Try.pinned.checked.prog ++ Try.f4.resultTypes.toList).any (Try.pinned.checked.prog.wideKeysFrom ·)) = true := by kernel_rfl
theorem k18 : Rows.fnExactTakeFairSpec.vars.all (Try.pinned.checked.prog.varReadable ·) = true := by kernel_rfl
theorem k19 : Try.f4.resultTypes.all (fun t => Try.pinned.checked.prog.readableRec t && decide (t < Try.pinned.checked.prog.types.size)) = true := by kernel_rfl
theorem k20 : (Rows.fnExactTakeFairRow.ifacesOut == Try.f4.resultTypes.toList.any (Try.pinned.checked.prog.ifacesRec ·)) = true := by kernel_rfl
theorem k21 : (Rows.fnExactTakeFairRow.loopsOut == Try.f4.resultTypes.toList.any (Try.pinned.checked.prog.loopsFrom ·)) = true := by kernel_rfl
theorem k22 : (Rows.fnExactTakeFairRow.plainKeys == Try.pinned.checked.prog.plainKeys) = true := by kernel_rfl
theorem k23 : Rows.fnExactTakeFairRow.shortTexts.isNone = true := by kernel_rfl
theorem k24 : Try.pinned.checked.prog.stopsHeard = true := by kernel_rfl
theorem k25 : Try.pinned.checked.prog.mayEnter = true := by kernel_rfl
theorem k26 : (Rows.fnExactTakeFairRow.lifted == Try.pinned.checked.prog.liftsFinal) = true := by kernel_rfl
theorem k27 : (Try.pinned.checked.prog.make == some Rows.fnExactTakeFairRow.make) = true := by kernel_rfl
theorem k28 : (Rows.fnExactTakeFairRow.pinned == Rows.fnExactTakeFairRow.pinnedBy) = true := by kernel_rfl
theorem k29 : (Rows.fnExactTakeFairRow.veiled == (Try.f4.params.toList ++ Rows.fnExactTakeFairSpec.plain.varTypes Try.pinned.checked.prog ++ Try.f4.resultTypes.toList).any (Try.pinned.checked.prog.veiledRec ·)) = true := by kernel_rfl
theorem k30 : Rows.fnExactTakeFairRow.veiledFits Try.pinned.checked.prog Try.f4.params.toList (Try.f4.params.toList ++ Rows.fnExactTakeFairSpec.plain.varTypes Try.pinned.checked.prog ++ Try.f4.resultTypes.toList) = true := by kernel_rfl
theorem closed : joinedFacts Try.pinned.checked.prog 4 Try.f4 Rows.fnExactTakeFairSpec Rows.fnExactTakeFairRow = true := by
  unfold joinedFacts
  rw [k0, k1, k2, k3, k4, k5, k6, k7, k8, k9, k10, k11, k12, k13, k14, k15, k16, k17, k18, k19, k20, k21, k22, k23, k24, k25, k26, k27, k28, k29, k30]
  simp only [Bool.true_and, Bool.and_true]
  kernel_rfl

theorem over : Rows.fnExactTakeFairRow.holds Try.pinned (OpenSpec.ofChange Rows.fnExactTakeFairSpec) :=
  OpenClaim.holds_of_wide 4 Try.f4 rfl rfl rfl rfl rfl rfl rfl ⟨rfl, rfl, rfl, rfl, rfl⟩ rfl rfl rfl rfl rfl (by kernel_rfl) Try.func4 closed
    (of_decide_eq_true (by kernel_rfl)) (by unfold Func.isWrapper; first | (rw [if_pos (by decide +kernel)]; kernel_rfl) | (rw [if_neg (by decide +kernel)]; exact ⟨rfl, rfl⟩))
    (fun os started H enc _ => lifted os started H enc)

/-- ████ THE STATEMENT ████ -/
theorem proved : Rows.FnExactTakeFairSaid := over
end Go.Proofs.Ytdogommoghjncaa.fnExactTakeFair
