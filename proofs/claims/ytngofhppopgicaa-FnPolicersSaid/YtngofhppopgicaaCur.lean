/-
  What the cursor's functions give (next, pick, one, among): a number within its bounds, and the cursor moved on.
  Conditions: the cursor's block is in the heap, its bytes can be read, and it has not been moved 2^62 times.
-/
import Derived.Test.YtngofhppopgicaaRes
set_option linter.unusedVariables false
set_option linter.unusedSimpArgs false
set_option maxRecDepth 100000
set_option linter.all false
namespace Go.Proofs.Ytngofhppopgicaa
open Go.Ev Go.Ek

theorem wrapI {n : Int} (h1 : -9223372036854775808 ≤ n) (h2 : n ≤ 9223372036854775807) : IntKind.i64.wrap n = n := IntWalk.i64_in n ⟨h1, h2⟩

theorem seedByte (s : Int) : 0 ≤ IntKind.i64.wrap (IntKind.u64.wrap ((BitVec.ofInt IntKind.u64.bits s &&& BitVec.ofInt IntKind.u64.bits 255).toNat : Int)) ∧
    IntKind.i64.wrap (IntKind.u64.wrap ((BitVec.ofInt IntKind.u64.bits s &&& BitVec.ofInt IntKind.u64.bits 255).toNat : Int)) < 256 := by
  have h : (BitVec.ofInt IntKind.u64.bits s &&& BitVec.ofInt IntKind.u64.bits 255).toNat < 256 := by
    rw [BitVec.toNat_and]
    have : (BitVec.ofInt IntKind.u64.bits 255).toNat = 255 := by decide
    rw [this]
    exact Nat.lt_of_le_of_lt Nat.and_le_right (by omega)
  rw [IntWalk.u64_in _ (by omega), wrapI (by omega) (by omega)]
  omega

theorem s_next {d fuel lim m : Nat} {G : Heap} {b : Nat} {g : Option (Nat × Blk)} (hc : Cu g m G b) (hm : m < 4611686018427387904) :
    W (run Try.prog (ann fuel) (d + 1) 173 [.pointer (some ⟨b, 0, none⟩)] lim G) fun v G' => ∃ n k, v = .int .i64 n ∧ G' = G.set b (some k) ∧ 0 ≤ n ∧ n < 256 ∧ CurB g (m + 1) k := by
  obtain ⟨k, hk, hg, a, l, e, t, s, rfl, h0, h1, hb⟩ := hc
  have hlt := hget_some_lt hk
  rw [run173]; unfold f173
  have hw : IntKind.i64.wrap (t + 1) = t + 1 := wrapI (by omega) (by omega)
  simp only [go_sem, hk]
  refine W_oif ?_ ?_ <;> intro h2
  · simp only [decide_eq_true_eq] at h2
    have hl : ¬ l = 0 := by omega
    obtain ⟨p, B, rfl, hgB, hbs⟩ := hb.resolve_left hl
    obtain ⟨x, hx, hx0, hx1⟩ := hbs t.toNat (by omega)
    obtain ⟨hro, hB⟩ := hg _ _ hgB
    have e1 : decide (0 ≤ t) = true := by simpa using h0
    have e2 : decide (t.toNat < l) = true := by simp; omega
    have e3 : decide (t + 1 ≤ (l : Int)) = true := by simp; omega
    simp only [go_sem, hk, e1, e2, hB, hx, hw, hget_set_self hlt, e3, List.length_set]
    refine W_some ⟨_, _, rfl, rfl, ?_, ?_, ?_⟩
    · rw [wrapI (by omega) (by omega)]; exact hx0
    · rw [wrapI (by omega) (by omega)]; exact hx1
    · exact ⟨_, l, e, t + 1, _, rfl, by omega, by omega, .inr ⟨p, B, rfl, hgB, hbs⟩⟩
  · simp only [decide_eq_false_iff_not] at h2
    have e3 : decide (t + 1 ≤ (l : Int)) = false := by simp; omega
    simp only [go_sem, hk, hw, hget_set_self hlt, e3, List.length_set]
    refine W_some ⟨_, _, rfl, rfl, (seedByte _).1, (seedByte _).2, ?_⟩
    exact ⟨a, l, e, t + 1, _, rfl, by omega, by omega, hb⟩

theorem s_pick {d fuel lim m : Nat} {G : Heap} {b : Nat} {n : Int} {g : Option (Nat × Blk)} (hc : Cu g m G b) (hm : m + 1 < 4611686018427387904) :
    W (run Try.prog (ann fuel) (d + 2) 120 [.pointer (some ⟨b, 0, none⟩), .int .i64 n] lim G) fun v G' => ∃ x k, v = .int .i64 x ∧ G' = G.set b (some k) ∧ 0 ≤ x ∧ (x < n ∨ x = 0) ∧ CurB g (m + 2) k := by
  rw [run120]; unfold f120
  refine W_oif ?_ ?_ <;> intro h1
  · obtain ⟨k, hk, hg, hb⟩ := hc
    simp only [go_sem]
    exact W_some ⟨0, k, rfl, (set_self hk).symm, by omega, .inr rfl, hb.mono (by omega)⟩
  · simp only [decide_eq_false_iff_not] at h1
    refine W_bind (s_next hc (by omega)) ?_
    rintro _ _ ⟨x, k, rfl, rfl, hx0, hx1, hk⟩
    have en : (n == 0) = false := by simp; omega
    simp only [go_sem, en]
    refine W_oif ?_ ?_ <;> intro h2
    · refine W_bind (s_next (hc.set hk) (by omega)) ?_
      rintro _ _ ⟨y, k', rfl, rfl, hy0, hy1, hk'⟩
      simp only [go_sem]
      rw [wrapI (n := x * 256) (by omega) (by omega), wrapI (by omega) (by omega)]
      exact W_some ⟨_, k', rfl, rfl, Int.tmod_nonneg _ (by omega), .inl (Int.tmod_lt_of_pos _ (by omega)), hk'.mono (by omega)⟩
    · exact W_some ⟨_, k, rfl, rfl, Int.tmod_nonneg _ (by omega), .inl (Int.tmod_lt_of_pos _ (by omega)), hk.mono (by omega)⟩

theorem s_one {d fuel lim m : Nat} {G : Heap} {b : Nat} {n : Int} {g : Option (Nat × Blk)} (hc : Cu g m G b) (hm : m + 1 < 4611686018427387904) :
    W (run Try.prog (ann fuel) (d + 3) 141 [.pointer (some ⟨b, 0, none⟩), .int .i64 n] lim G) fun v G' => ∃ x k, v = .bool x ∧ G' = G.set b (some k) ∧ CurB g (m + 2) k := by
  rw [run141]; unfold f141
  refine W_bind (s_pick hc hm) ?_
  rintro _ _ ⟨x, k, rfl, rfl, hx0, hx1, hk⟩
  simp only [go_sem]
  exact W_some ⟨_, k, rfl, rfl, hk⟩

theorem s_among {d fuel lim m l e c : Nat} {G : Heap} {b : Nat} {cells : List Value} {ro : Bool} {g : Option (Nat × Blk)} (hc : Cu g m G b) (hm : m + 1 < 4611686018427387904)
    (hl : hget G c = some ⟨cells, ro⟩) (hn : cells.length = l) (h1 : 0 < l) (hi : ∀ x ∈ cells, ∃ v : Int, x = .int .i64 v) (hbc : b ≠ c) :
    W (run Try.prog (ann fuel) (d + 3) 115 [.pointer (some ⟨b, 0, none⟩), .slice (some ⟨c, 0, none⟩) l e] lim G) fun v G' => ∃ x k, v = .int .i64 x ∧ G' = G.set b (some k) ∧ (.int .i64 x) ∈ cells ∧ CurB g (m + 2) k := by
  rw [run115]; unfold f115
  refine W_bind (s_pick hc hm) ?_
  rintro _ _ ⟨x, k, rfl, rfl, hx0, hx1, hk⟩
  have hlt : x.toNat < cells.length := by omega
  have e1 : decide (0 ≤ x) = true := by simpa using hx0
  have e2 : decide (x.toNat < l) = true := by simp; omega
  obtain ⟨v, hv⟩ := hi _ (List.getElem_mem hlt)
  have hx : cells[x.toNat]? = some (.int .i64 v) := by rw [List.getElem?_eq_getElem hlt, hv]
  simp only [go_sem, e1, e2, hget_set_ne hbc, hl, hx]
  exact W_some ⟨v, k, rfl, rfl, hv ▸ List.getElem_mem hlt, hk⟩

end Go.Proofs.Ytngofhppopgicaa
