/-
  Variables of packages that are laid: what of the world is held while the program runs.
  Conditions: none.
-/
import Derived.Test.YtpjlbjkeekobnaaDoorEv
set_option linter.unusedVariables false
namespace Go.Ev

def GW (w : World) : Prop := gN ≤ w.heap.size ∧ ∀ p ∈ gTabs, p.1 < gN ∧ ∃ t f, w.heap[p.1]? = some (.cells p.2.toArray t f)

theorem GW.stable {w w' : World} (h : GW w) (hs : w.heap.size ≤ w'.heap.size) (hb : ∀ k, k < gN → w'.heap[k]? = w.heap[k]?) : GW w' :=
  ⟨by have := h.1; omega, fun p hp => by obtain ⟨h1, t, f, h2⟩ := h.2 p hp; exact ⟨h1, t, f, by rw [hb _ h1]; exact h2⟩⟩
theorem GW.heap {w w' : World} (h : GW w) (e : w'.heap = w.heap) : GW w' := h.stable (by rw [e]; exact Nat.le_refl _) (fun _ _ => by rw [e])

theorem gFind_mem {g : Nat} {l : List Value} : ∀ {t : List (Nat × List Value)}, gFind t g = some l → (g, l) ∈ t
  | [], h => by simp [gFind] at h
  | (a, k) :: r, h => by
    unfold gFind at h
    split at h
    · rename_i e
      have e := Nat.eq_of_beq_eq_true e
      injection h with h
      subst e h; exact List.mem_cons_self
    · exact List.mem_cons_of_mem _ (gFind_mem h)

theorem GW.cells {w : World} (h : GW w) {g : Nat} {l : List Value} (hf : gFind gTabs g = some l) (j : Nat) (v : Value) (hv : l[j]? = some v) : w.cell? ((⟨g, 0, none⟩ : Addr).add j) = some v := by
  obtain ⟨_, t, f, hb⟩ := h.2 _ (gFind_mem hf)
  have e : ((⟨g, 0, none⟩ : Addr).add j) = ⟨g, j, none⟩ := by
    unfold Addr.add
    by_cases h : j = 0
    · subst h; simp
    · simp [h]
  rw [e]
  simp only at hb
  simp [World.cell?, hb, hv]

end Go.Ev
