/-
  The decimal text of a number: by value, in the first interpreter, and in the model by a walk of the function in a world that holds the library's table.
  Conditions: the walk.
-/
import Derived.Test.YtkanolaeiaieaaaDoorVPure
import Derived.Test.YtkanolaeiaieaaaDoorVSort
import Derived.Lib.ItoaNum
set_option linter.all false
namespace Go.Pv
open Go.Ev

def itoaV (n : Int) : Option ByteArray := oif (decide (-9223372036854775808 ≤ n) && decide (n ≤ 9223372036854775807)) (some ⟨(Go.Lib.itoa n).toArray⟩) none

def itoaX : List Value → Nat → Heap → Option (Value × Heap)
  | [.int .i64 n], _, H => obind (itoaV n) fun s => some (.string s, H)
  | _, _, _ => none

def itoaSig : Sig := ⟨[(.ro, .int .i64)], [(false, .str)]⟩

theorem itoa_fn (lim : Nat) : FnOk itoaSig (fun n : Int => itoaV n) itoaX lim := by
  rintro (n : Int) r h H Ban ws idss hBan hlimH hnd hdis hh
  obtain ⟨w0, i0, rfl, rfl, h0⟩ : ∃ w0 i0, ws = [w0] ∧ idss = [i0] ∧ HR (fun z => z ∉ idss.flatten ∧ ¬ Ban z) H lim .fz ⟨.int .i64, n⟩ w0 i0 := by
    obtain ⟨w0, ws', i0, is', rfl, rfl, h0, hh⟩ := HRs.cons_inv hh
    obtain ⟨rfl, rfl⟩ := HRs.nil_inv hh
    exact ⟨w0, i0, rfl, rfl, h0⟩
  obtain ⟨cs0, e0, o0, q0⟩ := h0
  obtain rfl : cs0 = [w0] := e0
  unfold Rep at q0
  injection q0 with q0
  have o0 : i0 = [] := o0
  subst q0 o0
  replace h : itoaV n = some r := h
  refine ⟨.string r, H, [.string r], [[]], [], by simp only [itoaX, h, obind], rfl, Nat.le_refl _, fun _ _ _ => rfl, ?_, by simp, by simp, ⟨⟨[.string r], rfl, rfl, by unfold Rep; rfl⟩, trivial⟩, trivial⟩
  simp [itoaSig, outIds]

/-- What the walk of the function has to show. -/
def ItoaWalk (P : Program) (F : FuncId) : Prop :=
  ∀ (n : Int) (w : World), -9223372036854775808 ≤ n → n ≤ 9223372036854775807 → GW w → Calls P F #[.int .i64 n] w fun e w' => e = .returned (.string ⟨(Go.Lib.itoa n).toArray⟩) ∧ ∃ k os, w' = Go.Sort.grow (w.drewN k) os

theorem itoa_call {P : Program} {F : FuncId} (henter : ∀ (cargs : Array Value) (w : World), (callFunc F cargs).run P w = .ok (.enter F cargs) w) (walk : ItoaWalk P F) :
    ∀ args lim H v H', itoaX args lim H = some (v, H') → CallF P F args lim H v H' := by
  intro args lim H v H' h
  unfold itoaX at h
  split at h
  · rename_i n
    replace h := obind_some h; obtain ⟨s, h1, h⟩ := h
    simp at h; obtain ⟨rfl, rfl⟩ := h
    unfold itoaV oif at h1
    split at h1
    · rename_i hc
      simp only [Bool.and_eq_true, decide_eq_true_eq] at hc
      injection h1 with h1; subst h1
      refine ⟨fun _ _ => .str _, fun _ _ => Ab.refl lim H, henter, fun ι w cargs hR hargs => ?_⟩
      obtain ⟨xs, rfl⟩ : ∃ xs : List Value, cargs = xs.toArray := ⟨cargs.toList, by simp⟩
      obtain ⟨al, ar⟩ := hargs
      simp only [List.toList_toArray] at al ar
      match xs, al, ar with
      | [y0], _, ar =>
        have r0 := ar 0 (by simp) (by simp)
        simp only [List.getElem_cons_zero] at r0
        have e0 := r0.inv_int
        subst e0
        refine (walk n w hc.1 hc.2 hR.gw).mono ?_
        rintro e w' ⟨rfl, k, os, rfl⟩
        have hRd : Rel ι (Bel H.length) H (w.drewN k) := hR.same_heap (w' := w.drewN k) rfl
        exact ⟨ι, _, rfl, Rel.grow hRd os, .str _, ((Fr.refl ι H w).same_heap (w'' := w.drewN k) rfl rfl rfl rfl).trans (Fr.grow ι _ _ os)⟩
    · simp at h1
  · simp at h

end Go.Pv
