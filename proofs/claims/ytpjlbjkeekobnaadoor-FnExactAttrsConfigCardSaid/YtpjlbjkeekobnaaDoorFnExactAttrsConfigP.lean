/-
  The given statement of the law FnExactAttrsConfig.
  Conditions: none beyond the statement's own.
-/
import Derived.Test.YtpjlbjkeekobnaaDoorRows
import Derived.Test.YtpjlbjkeekobnaaDoorCards
import Derived.Test.YtpjlbjkeekobnaaDoorTie
import Derived.Test.YtpjlbjkeekobnaaDoorVAny
import Derived.Test.YtpjlbjkeekobnaaDoorFnExactAttrsConfigL
import Derived.Test.YtpjlbjkeekobnaaDoorVLaid
import Derived.OpenVars
import Derived.WalkKit
import Derived.ProofKit
import Derived.OpenShut
import Derived.ShutString
import Derived.ChangeOld
import Derived.Below
import Derived.LaidMore
import Derived.Lay
import Derived.Handed
import Derived.SevenTiedAt
import Derived.Stop.Joined
import Derived.Stop.LaidErr
import Derived.Lib.LaidTab
namespace Go.Proofs.YtpjlbjkeekobnaaDoor.fnExactAttrsConfig
open Go.ChangeShapes Go.WideShapes Go.ChangeAt Go.RowKit
set_option linter.all false

theorem own : ownKnob Tryd.prog.godebug = none := by kernel_rfl
theorem laidOut : laidOutB Tryd.prog = true := by kernel_rfl
theorem follows : Tryd.prog.follows .mixedOrders = true := by kernel_rfl

theorem tysOk : Go.Pv.tysR Tryd.prog [37] = some tysLaw := by kernel_rfl

set_option maxRecDepth 100000 in
theorem lifted (os : Os) (started : os.Started) (H : Type) (enc : TypeId × Value → H) :
    ReturnsInHanded {} Tryd.checked os 5 .any (fun w args => (Rows.fnExactAttrsConfigSpec.pre enc Tryd.prog Tryd.f5 Rows.fnExactAttrsConfigRow.domain false w args ∧ laidMetH Tryd.prog Rows.fnExactAttrsConfigRow.laid w) ∧ sizedMet enc Tryd.prog Tryd.f5 (OpenSpec.ofChange Rows.fnExactAttrsConfigSpec) false w args)
      (Rows.fnExactAttrsConfigSpec.post enc Tryd.prog Tryd.f5 false true false false) := by
  refine returnsInHanded_of_change_and (C := Tryd.checked) (X := fun w _ => laidMetH Tryd.prog Rows.fnExactAttrsConfigRow.laid w) (fun _ _ _ hh h => h.of_heap hh) own started (by kernel_rfl) Tryd.func5
    (ChangeSpec.witness_shaped (enc := enc) (C := Tryd.checked) (os := os) (X := fun w _ => laidMetH Tryd.prog Rows.fnExactAttrsConfigRow.laid w) false (World.laidAll Tryd.prog os Rows.fnExactAttrsConfigRow.laid) #[.slice none 0 0] 8 (World.laidAll_os _ _ _)
      (World.shaped_of_ZipB (by kernel_rfl) (by kernel_rfl)) (by kernel_rfl) (by kernel_rfl) (by kernel_rfl)
      (by rw [MakeChecks.laidMetH_plain _ _ _ (by kernel_rfl)]; exact laidMet_laidAll _ (by kernel_rfl) (by kernel_rfl))) ?_
  intro W base args ds gs before hval0 hW hc _ hL _
  have hval : ∀ (j : Nat) t v, Tryd.f5.params[j]? = some t → args[j]? = some v → Value.okWide Tryd.prog W .any base t v := hval0
  have hW' := hW
  obtain ⟨p, q, hA0, hV, rfl, hfz, hnd⟩ := hW
  have hA : DataW.TrodAll enc Tryd.prog W 0 (fun _ => true) true Tryd.f5.params.toList args.toList ds p := hA0
  rw [Tryd.params5] at hA hval
  have hA1 : DataW.TrodAll enc Tryd.prog W 0 (fun _ => true) true [37] args.toList ds p := hA
  have hL' : laidMet Tryd.prog [("loop.example/g00838/impl.keyWords", Rows.laid_loop_example_g00838_impl_keyWords)] W := by
    have h := hL
    rw [MakeChecks.laidMetH_plain _ _ _ (by kernel_rfl)] at h
    exact h
  have e0 : (Rows.laid_loop_example_g00838_impl_keyWords : DataW Unit) = Go.Pv.strData [[113, 100, 105, 115, 99], [100, 101, 102, 97, 117, 108, 116], [99, 108, 97, 115, 115], [114, 97, 116, 101], [99, 101, 105, 108], [98, 117, 114, 115, 116], [99, 98, 117, 114, 115, 116], [112, 114, 105, 111], [108, 105, 109, 105, 116], [102, 105, 108, 116, 101, 114], [115, 111, 117, 114, 99, 101], [100, 101, 115, 116], [112, 111, 114, 116], [109, 97, 114, 107]] := by kernel_rfl
  obtain ⟨z0, t0, f0, b0⟩ := Go.Pv.strs_block (name := "loop.example/g00838/impl.keyWords") (g := 0) (t := 126) (e := 9) (n := 14) (by kernel_rfl) (by kernel_rfl) Tryd.underlying126 Tryd.underlying9 (by kernel_rfl) (by kernel_rfl) (e0 ▸ hL')
  have gw : Go.Ev.GW W := by
    refine ⟨by unfold Go.Ev.gN; omega, fun p hp => ?_⟩
    unfold Go.Ev.gTabs at hp
    simp only [List.mem_cons, List.not_mem_nil, or_false] at hp
    rcases hp with rfl
    · exact ⟨by unfold Go.Ev.gN; simp, t0, f0, b0⟩
  have walk := Go.Pv.pv_any (A := pvAnn) (d := 9) follows laidOut extAll lawAny (tysOk) hA1 (fun j t v h1 h2 => hval j t v (by simpa using h1) (by simpa using h2)) (gw)
  obtain ⟨v0, vs0, d0, ds0, p0, q0, hargs, rfl, rfl, h0, r0⟩ := trodAll_cons hA
  obtain ⟨rfl, rfl, rfl⟩ := trodAll_nil r0
  obtain rfl : args = #[v0] := by cases args; simp_all
  have lt0 : ∀ x ∈ p0, x.block < W.heap.size := by obtain ⟨m, hm⟩ := h0; exact DataW.trod_lt m _ _ _ hm
  obtain ⟨y0, rfl⟩ : ∃ y0, gs = [y0] := by
    obtain ⟨_, _, _, _, _, _, rfl, _⟩ := trodVars_one hV
    exact ⟨_, rfl⟩
  clear hA0 hval0
  refine walk.mono fun e W' ⟨he, bel⟩ => ?_
  subst he
  exact ⟨_, rfl, _, _, _, [], _, _, hW', trodAll_mk1 (shut_bool Tryd.underlying4 _), (trodAll_cons_mk (Below.trod laidOut (by kernel_rfl) (of_decide_eq_true (by kernel_rfl)) h0 bel lt0) trodAll_mk0), Below.trodVars laidOut bel (by kernel_rfl) hV, bel.frame _, fun h => by cases h⟩

theorem k0 : Rows.fnExactAttrsConfigRow.wf (OpenSpec.ofChange Rows.fnExactAttrsConfigSpec) = true := by kernel_rfl
theorem k1 : laidOutB Tryd.pinned.checked.prog = true := by kernel_rfl
theorem k2 : mapsRowed Tryd.pinned.checked.prog = true := by kernel_rfl
theorem k3 : Tryd.f5.params.all (Tryd.pinned.checked.prog.readableRec ·) = true := by kernel_rfl
theorem k4 : namedTie Tryd.pinned.checked.prog Rows.fnExactAttrsConfigRow.named Rows.fnExactAttrsConfigSpec.vars = true := by kernel_rfl
theorem k5 : (Rows.fnExactAttrsConfigRow.stops == []) = true := by kernel_rfl
theorem k6 : (Tryd.pinned.checked.prog.stops == []) = true := by kernel_rfl
theorem k7 : (Rows.fnExactAttrsConfigRow.knobs == []) = true := by kernel_rfl
theorem k8 : (Tryd.pinned.checked.prog.stopKnobs == []) = true := by kernel_rfl
theorem k9 : (Rows.fnExactAttrsConfigRow.inPlace == Tryd.pinned.checked.prog.inPlace 5) = true := by kernel_rfl
theorem k10 : (Rows.fnExactAttrsConfigRow.unfollowed == Tryd.pinned.checked.prog.unfollowed 5) = true := by kernel_rfl
theorem k11 : (Rows.fnExactAttrsConfigRow.recurses == Tryd.pinned.checked.prog.recurses 5) = true := by kernel_rfl
theorem k12 : (Rows.fnExactAttrsConfigRow.named == Tryd.pinned.checked.prog.varsNamed 5) = true := by kernel_rfl
theorem k13 : (Rows.fnExactAttrsConfigRow.maps == (Tryd.f5.params.toList ++ Rows.fnExactAttrsConfigSpec.plain.varTypes Tryd.pinned.checked.prog).any (Tryd.pinned.checked.prog.mapsRec ·)) = true := by kernel_rfl
theorem k14 : (Rows.fnExactAttrsConfigRow.ifaces == (Tryd.f5.params.toList ++ Rows.fnExactAttrsConfigSpec.plain.varTypes Tryd.pinned.checked.prog).any (Tryd.pinned.checked.prog.ifacesRec ·)) = true := by kernel_rfl
theorem k15 : (Rows.fnExactAttrsConfigRow.mapsOut == Tryd.pinned.checked.prog.mapsAmong Tryd.f5.resultTypes.toList) = true := by kernel_rfl
theorem k16 : (Rows.fnExactAttrsConfigRow.loops == (Tryd.f5.params.toList ++ Rows.fnExactAttrsConfigSpec.plain.varTypes Tryd.pinned.checked.prog).any (Tryd.pinned.checked.prog.loopsFrom ·)) = true := by kernel_rfl
theorem k17 : (Rows.fnExactAttrsConfigRow.wideKeys == (Tryd.f5.params.toList ++ Rows.fnExactAttrsConfigSpec.plain.varTypes Tryd.pinned.checked.prog ++ Tryd.f5.resultTypes.toList).any (Tryd.pinned.checked.prog.wideKeysFrom ·)) = true := by kernel_rfl
theorem k18 : Rows.fnExactAttrsConfigSpec.vars.all (Tryd.pinned.checked.prog.varReadable ·) = true := by kernel_rfl
theorem k19 : Tryd.f5.resultTypes.all (fun t => Tryd.pinned.checked.prog.readableRec t && decide (t < Tryd.pinned.checked.prog.types.size)) = true := by kernel_rfl
theorem k20 : (Rows.fnExactAttrsConfigRow.ifacesOut == Tryd.f5.resultTypes.toList.any (Tryd.pinned.checked.prog.ifacesRec ·)) = true := by kernel_rfl
theorem k21 : (Rows.fnExactAttrsConfigRow.loopsOut == Tryd.f5.resultTypes.toList.any (Tryd.pinned.checked.prog.loopsFrom ·)) = true := by kernel_rfl
theorem k22 : (Rows.fnExactAttrsConfigRow.plainKeys == Tryd.pinned.checked.prog.plainKeys) = true := by kernel_rfl
theorem k23 : Rows.fnExactAttrsConfigRow.shortTexts.isNone = true := by kernel_rfl
theorem k24 : Tryd.pinned.checked.prog.stopsHeard = true := by kernel_rfl
theorem k25 : Tryd.pinned.checked.prog.mayEnter = true := by kernel_rfl
theorem k26 : (Rows.fnExactAttrsConfigRow.lifted == Tryd.pinned.checked.prog.liftsFinal) = true := by kernel_rfl
theorem k27 : (Tryd.pinned.checked.prog.make == some Rows.fnExactAttrsConfigRow.make) = true := by kernel_rfl
theorem k28 : (Rows.fnExactAttrsConfigRow.pinned == Rows.fnExactAttrsConfigRow.pinnedBy) = true := by kernel_rfl
theorem k29 : (Rows.fnExactAttrsConfigRow.veiled == (Tryd.f5.params.toList ++ Rows.fnExactAttrsConfigSpec.plain.varTypes Tryd.pinned.checked.prog ++ Tryd.f5.resultTypes.toList).any (Tryd.pinned.checked.prog.veiledRec ·)) = true := by kernel_rfl
theorem k30 : Rows.fnExactAttrsConfigRow.veiledFits Tryd.pinned.checked.prog Tryd.f5.params.toList (Tryd.f5.params.toList ++ Rows.fnExactAttrsConfigSpec.plain.varTypes Tryd.pinned.checked.prog ++ Tryd.f5.resultTypes.toList) = true := by kernel_rfl
theorem closed : joinedFacts Tryd.pinned.checked.prog 5 Tryd.f5 Rows.fnExactAttrsConfigSpec Rows.fnExactAttrsConfigRow = true := by
  unfold joinedFacts
  rw [k0, k1, k2, k3, k4, k5, k6, k7, k8, k9, k10, k11, k12, k13, k14, k15, k16, k17, k18, k19, k20, k21, k22, k23, k24, k25, k26, k27, k28, k29, k30]
  simp only [Bool.true_and, Bool.and_true]
  kernel_rfl

theorem over : Rows.fnExactAttrsConfigRow.holds Tryd.pinned (OpenSpec.ofChange Rows.fnExactAttrsConfigSpec) :=
  OpenClaim.holds_of_wide 5 Tryd.f5 rfl rfl rfl rfl rfl rfl rfl ⟨rfl, rfl, rfl, rfl, rfl⟩ rfl rfl rfl rfl rfl (by kernel_rfl) Tryd.func5 closed
    (of_decide_eq_true (by kernel_rfl)) (by unfold Func.isWrapper; first | (rw [if_pos (by decide +kernel)]; kernel_rfl) | (rw [if_neg (by decide +kernel)]; exact ⟨rfl, rfl⟩))
    (fun os started H enc _ => lifted os started H enc)

/-- ████ THE STATEMENT: the tied card ████ -/
theorem proved : Rows.FnExactAttrsConfigCardSaid :=
  Claim7.holds_tied_plain_at .later [] [.data] true (true, "04d022b6748c74240e769b352953bccdb6075165c5974efd4942c4cb2521ffe2") false over (fun _ h => by cases h) (by kernel_rfl) (fun _ h => by cases h) fnExactAttrsConfig_row_tie rfl ⟨rfl, rfl⟩ (by kernel_rfl) rfl
    (fun f fn hf hfn => by
      obtain rfl : f = 5 := Option.some.inj ((show Tryd.prog.funcNamed "loop.example/g00838/laws.FnExactAttrsConfig" = some 5 by kernel_rfl).symm.trans hf) |>.symm
      obtain rfl : fn = Tryd.f5 := (Option.some.inj (Tryd.func5.symm.trans hfn)).symm
      exact ⟨by kernel_rfl, fun j t ht => by
        rw [Tryd.params5] at ht
        have hm : t ∈ [37] := by simpa using Array.mem_of_getElem? ht
        have hall : ([37].all fun u => !Tryd.prog.wantsStandIn u) = true := by kernel_rfl
        exact (show Tryd.prog.wantsStandIn t = false by simpa using List.all_eq_true.1 hall t hm)⟩)
    (by kernel_rfl)
end Go.Proofs.YtpjlbjkeekobnaaDoor.fnExactAttrsConfig
