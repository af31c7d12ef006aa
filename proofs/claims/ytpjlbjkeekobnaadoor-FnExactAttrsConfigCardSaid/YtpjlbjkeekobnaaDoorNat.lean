/-
  Each step of the interpreter, taken with a continuation, is the step without one, followed by the continuation.
  Conditions: none.
-/
import Derived.Test.YtpjlbjkeekobnaaDoorHeap
set_option linter.unusedVariables false
namespace Go.Ev

section
variable {α β γ : Type}

theorem obind_assoc (x : Option α) (f : α → Option β) (g : β → Option γ) : obind (obind x f) g = obind x fun a => obind (f a) g := by cases x <;> rfl
theorem obind_pure (a : α) (f : α → Option β) : obind (some a) f = f a := rfl
theorem obind_none (f : α → Option β) : obind none f = none := rfl
theorem obind_ite (c : Prop) [Decidable c] (x y : Option α) (f : α → Option β) : obind (if c then x else y) f = if c then obind x f else obind y f := by split <;> rfl
theorem obind_oif (b : Bool) (x y : Option α) (f : α → Option β) : obind (oif b x y) f = oif b (obind x f) (obind y f) := by cases b <;> rfl

theorem viewL_eq {tm v : Value} {K : Value → Option β} {r : β} (h : viewL tm v K = some r) : K v = some r := by
  unfold viewL at h
  split at h
  · unfold vInt at h; split at h
    · split at h
      · rename_i hk; subst hk; exact h
      · simp at h
    · simp at h
  · unfold vBool at h; split at h
    · exact h
    · simp at h
  · unfold vStr at h; split at h
    · exact h
    · simp at h
  · unfold vSl at h; split at h
    · exact h
    · simp at h
  · unfold vPtr at h; split at h
    · exact h
    · simp at h
  · unfold ptrS at h; split at h
    · exact h
    · simp at h
  · unfold vFn at h; split at h
    · exact h
    · simp at h
  · exact h

theorem viewLs_eq {r : β} : ∀ {tms vs : List Value} {K : List Value → Option β}, viewLs tms vs K = some r → K vs = some r
  | [], vs, K, h => by
    unfold viewLs vNil at h
    split at h
    · exact h
    · simp at h
  | t :: ts, vs, K, h => by
    unfold viewLs vCons at h
    split at h
    · have h1 := viewL_eq h
      exact viewLs_eq (K := fun l => K (_ :: l)) h1
    · simp at h

theorem viewA_eq {tm v : Value} {K : Value → Option β} {r : β} (h : viewA tm v K = some r) : K v = some r := by
  unfold viewA at h
  split at h
  · unfold vAgg at h
    split at h
    · rename_i cs; exact viewLs_eq (K := fun l => K (.agg l.toArray)) h
    · simp at h
  · exact viewL_eq h

theorem viewAs_eq {r : β} : ∀ {tms vs : List Value} {K : List Value → Option β}, viewAs tms vs K = some r → K vs = some r
  | [], vs, K, h => by
    unfold viewAs vNil at h
    split at h
    · exact h
    · simp at h
  | t :: ts, vs, K, h => by
    unfold viewAs vCons at h
    split at h
    · have h1 := viewA_eq h
      exact viewAs_eq (K := fun l => K (_ :: l)) h1
    · simp at h

theorem viewT_eq {tm v : Value} {K : Value → Option β} {r : β} (h : viewT tm v K = some r) : K v = some r := by
  unfold viewT at h
  split at h
  · unfold vTup at h
    split at h
    · rename_i cs; exact viewAs_eq (K := fun l => K (.tuple l.toArray)) h
    · simp at h
  · exact viewA_eq h

end

end Go.Ev
