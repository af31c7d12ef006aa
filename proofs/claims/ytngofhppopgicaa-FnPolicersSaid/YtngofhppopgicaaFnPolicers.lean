/-
  The law FnPolicers in the abstract interpreter: for all bytes it gives true and leaves the heap as it was.
  Conditions: the two slices of bytes can be read.
-/
import Derived.Test.YtngofhppopgicaaPol
set_option linter.unusedVariables false
set_option linter.unusedSimpArgs false
set_option maxRecDepth 100000
set_option maxHeartbeats 4000000
set_option linter.all false
namespace Go.Proofs.Ytngofhppopgicaa
open Go.Ev Go.Ek

theorem colF_le (c z s g : Int) : 0 ≤ colF c z s g ∧ colF c z s g ≤ 2 ∧ colF c z s g ≤ colF c z s 2 ∧ (0 ≤ g → g ≤ 2 → colF c z s g ≤ g) ∧ (colF c z s g ≠ 0 → s ≤ z) ∧ (colF c z s g = 2 → s ≤ c) := by
  unfold colF; split <;> split <;> (try split) <;> (try split) <;> omega
theorem poOk_after {a b c x y z s : Int} (hp : poOk a b c x y z = true) (hs : szOk s = true) (g : Int) : poOk a b (loT (colF c z s g) c s) x y (hiT (colF c z s g) z s) = true := by
  have h := colF_le c z s g
  simp only [poOk, bkOk, szOk, Bool.and_eq_true, decide_eq_true_eq] at hp hs ⊢
  unfold loT hiT
  have h1 : colF c z s g ≠ 0 → IntKind.i64.wrap (z - s) = z - s := fun _ => wrapI (by omega) (by omega)
  have h2 : colF c z s g = 2 → IntKind.i64.wrap (c - s) = c - s := fun _ => wrapI (by omega) (by omega)
  split <;> split <;> simp_all <;> omega
theorem polEnd {a b c x y z s gv : Int} {G : Heap} (hp : poOk a b c x y z = true) (hz : szOk s = true) (hco : coOk gv = true) : W
    (oif (decide (colF c z s gv > gv)) (some (Value.bool false, G))
      (oif (decide (colF c z s gv > colF c z s 2)) (some (Value.bool false, G))
        (oif (colF c z s gv != 0)
          (oif (colF c z s gv == 2)
            (oif (IntKind.i64.wrap (z - hiT (colF c z s gv) z s) == s)
              (some (Value.bool (IntKind.i64.wrap (c - loT (colF c z s gv) c s) == s), G))
              (some (Value.bool false, G)))
            (oif (IntKind.i64.wrap (z - hiT (colF c z s gv) z s) == s)
              (some (Value.bool (IntKind.i64.wrap (c - loT (colF c z s gv) c s) == 0), G))
              (some (Value.bool false, G))))
          (oif (colF c z s gv == 2)
            (oif (IntKind.i64.wrap (z - hiT (colF c z s gv) z s) == 0)
              (some (Value.bool (IntKind.i64.wrap (c - loT (colF c z s gv) c s) == s), G))
              (some (Value.bool false, G)))
            (oif (IntKind.i64.wrap (z - hiT (colF c z s gv) z s) == 0)
              (some (Value.bool (IntKind.i64.wrap (c - loT (colF c z s gv) c s) == 0), G))
              (some (Value.bool false, G)))))))
    fun u H => u = Value.bool true ∧ H = G := by
  obtain ⟨h0, h1, h2, h3, h4, h5⟩ := colF_le c z s gv
  simp only [poOk, bkOk, szOk, coOk, Bool.and_eq_true, decide_eq_true_eq] at hp hz hco
  have w1 : IntKind.i64.wrap (z - hiT (colF c z s gv) z s) = if colF c z s gv = 0 then 0 else s := by
    unfold hiT
    split
    · rw [wrapI (by omega) (by omega)]; omega
    · rw [wrapI (n := z - s) (by omega) (by omega), wrapI (by omega) (by omega)]; omega
  have w2 : IntKind.i64.wrap (c - loT (colF c z s gv) c s) = if colF c z s gv = 2 then s else 0 := by
    unfold loT
    split
    · rw [wrapI (n := c - s) (by omega) (by omega), wrapI (by omega) (by omega)]; omega
    · rw [wrapI (by omega) (by omega)]; omega
  rw [w1, w2]
  generalize colF c z s gv = q at *
  generalize colF c z s 2 = q2 at *
  have e1 : decide (q > gv) = false := by simp; omega
  have e2 : decide (q > q2) = false := by simp; omega
  rw [e1, e2]
  have : q = 0 ∨ q = 1 ∨ q = 2 := by omega
  rcases this with rfl | rfl | rfl <;> simp [go_sem, W]
theorem s_FnPolicers {d fuel lim l e l' e' : Nat} {a a' : Option Addr} {G : Heap} {g g' : Option (Nat × Blk)} (hg : CodeAt g G) (hv : CodeV g a l) (hg' : CodeAt g' G) (hv' : CodeV g' a' l') :
    run Try.prog (ann fuel) (d + 8) 3 [.slice a l e, .slice a' l' e'] lim G = some (.bool true, G) := by
  apply W_val
  rw [run3]; unfold f3
  refine W_oif ?_ ?_ <;> intro h0
  · simp only [go_sem]; exact W_some ⟨rfl, rfl⟩
  refine W_bind (s_DrawPolicePacket hg hv) ?_
  rintro _ _ ⟨a, b, c, x, y, z, s, gv, rfl, rfl⟩
  cases hok : awOk a b c x y z s gv
  · simp only [go_sem, s_PolicePacket, s_sPolicePacket, s_ColourAware, s_sColourAware, ppV, hok, cond_true, cond_false]
    refine W_bind (s_DrawColourOf (hg'.app _) hv') ?_
    rintro _ _ ⟨a2, b2, c2, x2, y2, z2, s2, rfl, rfl⟩
    simp only [go_sem, s_ColourOf, s_sColourOf]
    refine W_bind (s_DrawFullPolicer (hg'.app _) hv') ?_
    rintro _ _ ⟨a3, b3, x3, y3, rfl, rfl⟩
    cases hf : poOk a3 b3 b3 x3 y3 y3
    · simp only [go_sem, s_FullPolicer, s_sFullPolicer, fpV, hf, cond_true, cond_false, s_IsPolicer, s_sIsPolicer, BEq.rfl, bne_self_eq_false]
      exact W_some ⟨rfl, rfl⟩
    · simp only [go_sem, s_FullPolicer, s_sFullPolicer, fpV, hf, cond_true, cond_false, s_IsPolicer, s_sIsPolicer, BEq.rfl, bne_self_eq_false]
      exact W_some ⟨rfl, rfl⟩
  · obtain ⟨hp, hz, hco⟩ : poOk a b c x y z = true ∧ szOk s = true ∧ coOk gv = true := by
      simpa [awOk, and_assoc] using hok
    have ok2 : awOk a b c x y z s 2 = true := by simp [awOk, hp, hz]; decide
    have hcol := colF_le c z s gv
    have hpo := poOk_after hp hz gv
    simp only [go_sem, s_PolicePacket, s_sPolicePacket, s_ColourAware, s_sColourAware, ppV, hok, cond_true, cond_false]
    refine W_bind (s_DrawColourOf (hg'.app _) hv') ?_
    rintro _ _ ⟨a2, b2, c2, x2, y2, z2, s2, rfl, rfl⟩
    simp only [go_sem, s_ColourOf, s_sColourOf]
    refine W_bind (s_DrawFullPolicer (hg'.app _) hv') ?_
    rintro _ _ ⟨a3, b3, x3, y3, rfl, rfl⟩
    cases hf : poOk a3 b3 b3 x3 y3 y3
    · simp only [go_sem, s_FullPolicer, s_sFullPolicer, fpV, hf, cond_true, cond_false, s_IsPolicer, s_sIsPolicer, BEq.rfl, bne_self_eq_false, s_ColourOf, s_sColourOf, s_ColourAware, ok2, hpo]
      exact polEnd hp hz hco
    · simp only [go_sem, s_FullPolicer, s_sFullPolicer, fpV, hf, cond_true, cond_false, s_IsPolicer, s_sIsPolicer, BEq.rfl, bne_self_eq_false, s_ColourOf, s_sColourOf, s_ColourAware, ok2, hpo]
      exact polEnd hp hz hco

end Go.Proofs.Ytngofhppopgicaa
