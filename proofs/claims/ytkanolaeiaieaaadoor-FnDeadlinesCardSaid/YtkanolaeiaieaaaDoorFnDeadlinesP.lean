/-
  The given statement of the law FnDeadlines.
  Conditions: none beyond the statement's own.
-/
import Derived.Test.YtkanolaeiaieaaaDoorRows
import Derived.Test.YtkanolaeiaieaaaDoorCards
import Derived.Test.YtkanolaeiaieaaaDoorTie
import Derived.Test.YtkanolaeiaieaaaDoorVAny
import Derived.Test.YtkanolaeiaieaaaDoorFnDeadlinesL
import Derived.WalkKit
import Derived.ProofKit
import Derived.OpenShut
import Derived.ShutString
import Derived.ChangeOld
import Derived.Below
import Derived.LaidMore
import Derived.Lay
import Derived.Handed
import Derived.SevenTiedAt
import Derived.Stop.Joined
import Derived.Stop.LaidErr
import Derived.Lib.LaidTab
namespace Go.Proofs.YtkanolaeiaieaaaDoor.fnDeadlines
open Go.ChangeShapes Go.WideShapes Go.ChangeAt Go.RowKit
set_option linter.all false

theorem own : ownKnob Tryd.prog.godebug = none := by kernel_rfl
theorem laidOut : laidOutB Tryd.prog = true := by kernel_rfl
theorem follows : Tryd.prog.follows .mixedOrders = true := by kernel_rfl

theorem tysOk : Go.Pv.tysR Tryd.prog [22, 22] = some tysLaw := by kernel_rfl

set_option maxRecDepth 100000 in
theorem lifted (os : Os) (started : os.Started) (H : Type) (enc : TypeId × Value → H) :
    ReturnsInHanded {} Tryd.checked os 3 .any (fun w args => (Rows.fnDeadlinesSpec.pre enc Tryd.prog Tryd.f3 Rows.fnDeadlinesRow.domain false w args ∧ laidMetH Tryd.prog Rows.fnDeadlinesRow.laid w) ∧ sizedMet enc Tryd.prog Tryd.f3 (OpenSpec.ofChange Rows.fnDeadlinesSpec) false w args)
      (Rows.fnDeadlinesSpec.post enc Tryd.prog Tryd.f3 false true false false) := by
  refine returnsInHanded_of_change_and (C := Tryd.checked) (X := fun w _ => laidMetH Tryd.prog Rows.fnDeadlinesRow.laid w) (fun _ _ _ hh h => h.of_heap hh) own started (by kernel_rfl) Tryd.func3
    (ChangeSpec.witness_shaped (enc := enc) (C := Tryd.checked) (os := os) (X := fun w _ => laidMetH Tryd.prog Rows.fnDeadlinesRow.laid w) false (World.laidAll Tryd.prog os Rows.fnDeadlinesRow.laid) #[.slice none 0 0, .slice none 0 0] 8 (World.laidAll_os _ _ _)
      (World.shaped_of_ZipB (by kernel_rfl) (by kernel_rfl)) (by kernel_rfl) (by kernel_rfl) (by kernel_rfl)
      (by rw [MakeChecks.laidMetH_plain _ _ _ (by kernel_rfl)]; exact laidMet_laidAll _ (by kernel_rfl) (by kernel_rfl))) ?_
  intro W base args ds gs before hval0 hW hc _ hL _
  have hval : ∀ (j : Nat) t v, Tryd.f3.params[j]? = some t → args[j]? = some v → Value.okWide Tryd.prog W .any base t v := hval0
  have hW' := hW
  obtain ⟨p, q, hA0, hV, rfl, hfz, hnd⟩ := hW
  have hA : DataW.TrodAll enc Tryd.prog W 0 (fun _ => true) true Tryd.f3.params.toList args.toList ds p := hA0
  rw [Tryd.params3] at hA hval
  have hA1 : DataW.TrodAll enc Tryd.prog W 0 (fun _ => true) true [22, 22] args.toList ds p := hA
  have hL' : laidMet Tryd.prog [("math/bits.deBruijn32tab", Rows.laid_math_bits_deBruijn32tab), ("math/bits.deBruijn64tab", Rows.laid_math_bits_deBruijn64tab), ("internal/strconv.uint64pow10", Rows.laid_internal_strconv_uint64pow10)] W := by
    have h := hL
    rw [MakeChecks.laidMetH_plain _ _ _ (by kernel_rfl)] at h
    exact h
  have et : (Rows.laid_internal_strconv_uint64pow10 : DataW Unit) = Lib.tabData .u64 Lib.pow10Tab := by kernel_rfl
  have hL2 : laidMet Tryd.prog [("internal/strconv.uint64pow10", Lib.tabData .u64 Lib.pow10Tab)] W := et ▸ hL'.tail.tail
  have gw : Go.Ev.GW W := gw_of (Lib.tabIs_of_head pow_name (by kernel_rfl) Tryd.underlying190 Tryd.underlying126 (by kernel_rfl) (by kernel_rfl) hL2)
  have walk := Go.Pv.pv_any (A := pvAnn) (d := 16) follows laidOut extAll lawAny (tysOk) hA1 (fun j t v h1 h2 => hval j t v (by simpa using h1) (by simpa using h2)) (gw)
  obtain ⟨v0, vs0, d0, ds0, p0, q0, hargs, rfl, rfl, h0, r0⟩ := trodAll_cons hA
  obtain ⟨v1, vs1, d1, ds1, p1, q1, rfl, rfl, rfl, h1, r1⟩ := trodAll_cons r0
  obtain ⟨rfl, rfl, rfl⟩ := trodAll_nil r1
  obtain rfl : args = #[v0, v1] := by cases args; simp_all
  have lt0 : ∀ x ∈ p0, x.block < W.heap.size := by obtain ⟨m, hm⟩ := h0; exact DataW.trod_lt m _ _ _ hm
  have lt1 : ∀ x ∈ p1, x.block < W.heap.size := by obtain ⟨m, hm⟩ := h1; exact DataW.trod_lt m _ _ _ hm
  obtain ⟨rfl, rfl⟩ := trodVars_none hV
  clear hA0 hval0
  refine walk.mono fun e W' ⟨he, bel⟩ => ?_
  subst he
  exact ⟨_, rfl, _, _, _, [], _, [], hW', trodAll_mk1 (shut_bool Tryd.underlying4 _), (trodAll_cons_mk (Below.trod laidOut (by kernel_rfl) (of_decide_eq_true (by kernel_rfl)) h0 bel lt0) (trodAll_cons_mk (Below.trod laidOut (by kernel_rfl) (of_decide_eq_true (by kernel_rfl)) h1 bel lt1) trodAll_mk0)), rfl, bel.frame _, fun h => by cases h⟩

theorem k0 : Rows.fnDeadlinesRow.wf (OpenSpec.ofChange Rows.fnDeadlinesSpec) = true := by kernel_rfl
theorem k1 : laidOutB Tryd.pinned.checked.prog = true := by kernel_rfl
theorem k2 : mapsRowed Tryd.pinned.checked.prog = true := by kernel_rfl
theorem k3 : Tryd.f3.params.all (Tryd.pinned.checked.prog.readableRec ·) = true := by kernel_rfl
theorem k4 : namedTie Tryd.pinned.checked.prog Rows.fnDeadlinesRow.named Rows.fnDeadlinesSpec.vars = true := by kernel_rfl
theorem k5 : (Rows.fnDeadlinesRow.stops == []) = true := by kernel_rfl
theorem k6 : (Tryd.pinned.checked.prog.stops == []) = true := by kernel_rfl
theorem k7 : (Rows.fnDeadlinesRow.knobs == []) = true := by kernel_rfl
theorem k8 : (Tryd.pinned.checked.prog.stopKnobs == []) = true := by kernel_rfl
theorem k9 : (Rows.fnDeadlinesRow.inPlace == Tryd.pinned.checked.prog.inPlace 3) = true := by kernel_rfl
theorem k10 : (Rows.fnDeadlinesRow.unfollowed == Tryd.pinned.checked.prog.unfollowed 3) = true := by kernel_rfl
theorem k11 : (Rows.fnDeadlinesRow.recurses == Tryd.pinned.checked.prog.recurses 3) = true := by kernel_rfl
theorem k12 : (Rows.fnDeadlinesRow.named == Tryd.pinned.checked.prog.varsNamed 3) = true := by kernel_rfl
theorem k13 : (Rows.fnDeadlinesRow.maps == (Tryd.f3.params.toList ++ Rows.fnDeadlinesSpec.plain.varTypes Tryd.pinned.checked.prog).any (Tryd.pinned.checked.prog.mapsRec ·)) = true := by kernel_rfl
theorem k14 : (Rows.fnDeadlinesRow.ifaces == (Tryd.f3.params.toList ++ Rows.fnDeadlinesSpec.plain.varTypes Tryd.pinned.checked.prog).any (Tryd.pinned.checked.prog.ifacesRec ·)) = true := by kernel_rfl
theorem k15 : (Rows.fnDeadlinesRow.mapsOut == Tryd.pinned.checked.prog.mapsAmong Tryd.f3.resultTypes.toList) = true := by kernel_rfl
theorem k16 : (Rows.fnDeadlinesRow.loops == (Tryd.f3.params.toList ++ Rows.fnDeadlinesSpec.plain.varTypes Tryd.pinned.checked.prog).any (Tryd.pinned.checked.prog.loopsFrom ·)) = true := by kernel_rfl
theorem k17 : (Rows.fnDeadlinesRow.wideKeys == (Tryd.f3.params.toList ++ Rows.fnDeadlinesSpec.plain.varTypes Tryd.pinned.checked.prog ++ Tryd.f3.resultTypes.toList).any (Tryd.pinned.checked.prog.wideKeysFrom ·)) = true := by kernel_rfl
theorem k18 : Rows.fnDeadlinesSpec.vars.all (Tryd.pinned.checked.prog.varReadable ·) = true := by kernel_rfl
theorem k19 : Tryd.f3.resultTypes.all (fun t => Tryd.pinned.checked.prog.readableRec t && decide (t < Tryd.pinned.checked.prog.types.size)) = true := by kernel_rfl
theorem k20 : (Rows.fnDeadlinesRow.ifacesOut == Tryd.f3.resultTypes.toList.any (Tryd.pinned.checked.prog.ifacesRec ·)) = true := by kernel_rfl
theorem k21 : (Rows.fnDeadlinesRow.loopsOut == Tryd.f3.resultTypes.toList.any (Tryd.pinned.checked.prog.loopsFrom ·)) = true := by kernel_rfl
theorem k22 : (Rows.fnDeadlinesRow.plainKeys == Tryd.pinned.checked.prog.plainKeys) = true := by kernel_rfl
theorem k23 : Rows.fnDeadlinesRow.shortTexts.isNone = true := by kernel_rfl
theorem k24 : Tryd.pinned.checked.prog.stopsHeard = true := by kernel_rfl
theorem k25 : Tryd.pinned.checked.prog.mayEnter = true := by kernel_rfl
theorem k26 : (Rows.fnDeadlinesRow.lifted == Tryd.pinned.checked.prog.liftsFinal) = true := by kernel_rfl
theorem k27 : (Tryd.pinned.checked.prog.make == some Rows.fnDeadlinesRow.make) = true := by kernel_rfl
theorem k28 : (Rows.fnDeadlinesRow.pinned == Rows.fnDeadlinesRow.pinnedBy) = true := by kernel_rfl
theorem k29 : (Rows.fnDeadlinesRow.veiled == (Tryd.f3.params.toList ++ Rows.fnDeadlinesSpec.plain.varTypes Tryd.pinned.checked.prog ++ Tryd.f3.resultTypes.toList).any (Tryd.pinned.checked.prog.veiledRec ·)) = true := by kernel_rfl
theorem k30 : Rows.fnDeadlinesRow.veiledFits Tryd.pinned.checked.prog Tryd.f3.params.toList (Tryd.f3.params.toList ++ Rows.fnDeadlinesSpec.plain.varTypes Tryd.pinned.checked.prog ++ Tryd.f3.resultTypes.toList) = true := by kernel_rfl
theorem closed : joinedFacts Tryd.pinned.checked.prog 3 Tryd.f3 Rows.fnDeadlinesSpec Rows.fnDeadlinesRow = true := by
  unfold joinedFacts
  rw [k0, k1, k2, k3, k4, k5, k6, k7, k8, k9, k10, k11, k12, k13, k14, k15, k16, k17, k18, k19, k20, k21, k22, k23, k24, k25, k26, k27, k28, k29, k30]
  simp only [Bool.true_and, Bool.and_true]
  kernel_rfl

theorem over : Rows.fnDeadlinesRow.holds Tryd.pinned (OpenSpec.ofChange Rows.fnDeadlinesSpec) :=
  OpenClaim.holds_of_wide 3 Tryd.f3 rfl rfl rfl rfl rfl rfl rfl ⟨rfl, rfl, rfl, rfl, rfl⟩ rfl rfl rfl rfl rfl (by kernel_rfl) Tryd.func3 closed
    (of_decide_eq_true (by kernel_rfl)) (by unfold Func.isWrapper; first | (rw [if_pos (by decide +kernel)]; kernel_rfl) | (rw [if_neg (by decide +kernel)]; exact ⟨rfl, rfl⟩))
    (fun os started H enc _ => lifted os started H enc)

/-- ████ THE STATEMENT: the tied card ████ -/
theorem proved : Rows.FnDeadlinesCardSaid :=
  Claim7.holds_tied_plain_at .later [] [.data, .data, .data] true (true, "8c3e44d23b043703e8e67fbe3aa916aa2b07bacbc82c2fbb4604075381f84882") false over (fun _ h => by cases h) (by kernel_rfl) (fun _ h => by cases h) fnDeadlines_row_tie rfl ⟨rfl, rfl⟩ (by kernel_rfl) rfl
    (fun f fn hf hfn => by
      obtain rfl : f = 3 := Option.some.inj ((show Tryd.prog.funcNamed "loop.example/g00838/laws.FnDeadlines" = some 3 by kernel_rfl).symm.trans hf) |>.symm
      obtain rfl : fn = Tryd.f3 := (Option.some.inj (Tryd.func3.symm.trans hfn)).symm
      exact ⟨by kernel_rfl, fun j t ht => by
        rw [Tryd.params3] at ht
        have hm : t ∈ [22, 22] := by simpa using Array.mem_of_getElem? ht
        have hall : ([22, 22].all fun u => !Tryd.prog.wantsStandIn u) = true := by kernel_rfl
        exact (show Tryd.prog.wantsStandIn t = false by simpa using List.all_eq_true.1 hall t hm)⟩)
    (by kernel_rfl)
end Go.Proofs.YtkanolaeiaieaaaDoor.fnDeadlines
