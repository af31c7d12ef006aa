/-
  What the functions that draw buckets, sizes and policers give: a value of the type, and the cursor moved on.
  Conditions: those of the cursor.
-/
import Derived.Test.YtngofhppopgicaaCur
set_option linter.unusedVariables false
set_option linter.unusedSimpArgs false
set_option maxRecDepth 100000
set_option maxHeartbeats 4000000
set_option linter.all false
namespace Go.Proofs.Ytngofhppopgicaa
open Go.Ev Go.Ek

theorem s_l1Least {d fuel lim : Nat} {G : Heap} {x y : Int} : run Try.prog (ann fuel) (d + 1) 175 [.int .i64 x, .int .i64 y] lim G = some (.int .i64 (min x y), G) := by
  rw [run175]; unfold f175
  refine oif_eq ?_ ?_ <;> intro h <;> simp only [decide_eq_true_eq, decide_eq_false_iff_not] at h <;> simp only [go_sem] <;> congr 3 <;> omega

theorem s_bucket {d fuel lim m : Nat} {G : Heap} {b : Nat} {g : Option (Nat × Blk)} (hc : Cu g m G b) (hm : m + 20 < 4611686018427387904) :
    W (run Try.prog (ann fuel) (d + 4) 128 [.pointer (some ⟨b, 0, none⟩)] lim G) fun v G' => ∃ (r c t : Int) (k : Blk), v = .agg #[.int .i64 r, .int .i64 c, .int .i64 t] ∧ G' = G.set b (some k) ∧ CurB g (m + 12) k ∧ -10000000 ≤ r ∧ r ≤ 10000000 ∧ -10000000 ≤ c ∧ c ≤ 10000000 ∧ -10000000 ≤ t ∧ t ≤ 10000000 := by
  have hb := hc.lt
  rw [run128]; unfold f128
  simp only [go_sem]
  refine W_bind (s_among (by first | exact hc | exact hc.app _ | exact hc.set (by assumption) | exact hc.step (by assumption) _ | exact Cu.loc hg (by assumption) rfl | exact Cu.loc0 hg (by assumption) rfl) (by omega) (by first | exact hget_add _ _ _ | exact hget_len _ _ | exact hget_sadd _ _ _ _ _ | exact hget_slen _ _ _ _) rfl (by decide) (by simp) (by omega)) ?_
  rintro _ _ ⟨x1, k1, rfl, rfl, hx1, hk1⟩
  simp only [go_sem, set_lt _ hb, set_slt _ _ hb]
  refine W_bind (s_among (by first | exact hc | exact hc.app _ | exact hc.set (by assumption) | exact hc.step (by assumption) _ | exact Cu.loc hg (by assumption) rfl | exact Cu.loc0 hg (by assumption) rfl) (by omega) (by first | exact hget_add _ _ _ | exact hget_len _ _ | exact hget_sadd _ _ _ _ _ | exact hget_slen _ _ _ _) rfl (by decide) (by simp) (by omega)) ?_
  rintro _ _ ⟨x2, k2, rfl, rfl, hx2, hk2⟩
  simp only [go_sem, set_lt _ hb, set_slt _ _ hb]
  refine W_bind (s_pick (by first | exact hc | exact hc.app _ | exact hc.set (by assumption) | exact hc.step (by assumption) _ | exact Cu.loc hg (by assumption) rfl | exact Cu.loc0 hg (by assumption) rfl) (by omega)) ?_
  rintro _ _ ⟨x3, k3, rfl, rfl, hx3, hx3', hk3⟩
  simp only [go_sem, set_lt _ hb, set_slt _ _ hb, s_l1Least]
  refine W_bind (s_among (by first | exact hc | exact hc.app _ | exact hc.set (by assumption) | exact hc.step (by assumption) _ | exact Cu.loc hg (by assumption) rfl | exact Cu.loc0 hg (by assumption) rfl) (by omega) (by first | exact hget_add _ _ _ | exact hget_len _ _ | exact hget_sadd _ _ _ _ _ | exact hget_slen _ _ _ _) rfl (by decide) (by simp) (by omega)) ?_
  rintro _ _ ⟨x4, k4, rfl, rfl, hx4, hk4⟩
  simp only [go_sem, set_lt _ hb, set_slt _ _ hb]
  refine W_bind (s_pick (by first | exact hc | exact hc.app _ | exact hc.set (by assumption) | exact hc.step (by assumption) _ | exact Cu.loc hg (by assumption) rfl | exact Cu.loc0 hg (by assumption) rfl) (by omega)) ?_
  rintro _ _ ⟨x5, k5, rfl, rfl, hx5, hx5', hk5⟩
  simp only [go_sem, set_lt _ hb, set_slt _ _ hb]
  simp only [List.mem_cons, Value.int.injEq, true_and, List.not_mem_nil, or_false] at hx1 hx2 hx4
  have hq : IntKind.i64.wrap (x2.tdiv 2) = x2 / 2 := by rw [Int.tdiv_eq_ediv_of_nonneg (by omega)]; exact wrapI (by omega) (by omega)
  rw [hq] at hx4
  refine W_oif ?_ ?_ <;> intro h1
  · refine W_bind (s_among (by first | exact hc | exact hc.app _ | exact hc.set (by assumption) | exact hc.step (by assumption) _ | exact Cu.loc hg (by assumption) rfl | exact Cu.loc0 hg (by assumption) rfl) (by omega) (by first | exact hget_add _ _ _ | exact hget_len _ _ | exact hget_sadd _ _ _ _ _ | exact hget_slen _ _ _ _) rfl (by decide) (by simp) (by omega)) ?_
    rintro _ _ ⟨x6, k6, rfl, rfl, hx6, hk6⟩
    simp only [List.mem_cons, Value.int.injEq, true_and, List.not_mem_nil, or_false] at hx6
    simp only [go_sem, set_lt _ hb, set_slt _ _ hb]
    exact W_some ⟨_, _, _, _, rfl, rfl, hk6.mono (by omega), by omega, by omega, by omega, by omega, by omega, by omega⟩
  · refine W_oif ?_ ?_ <;> intro h2
    · refine W_bind (s_among (by first | exact hc | exact hc.app _ | exact hc.set (by assumption) | exact hc.step (by assumption) _ | exact Cu.loc hg (by assumption) rfl | exact Cu.loc0 hg (by assumption) rfl) (by omega) (by first | exact hget_add _ _ _ | exact hget_len _ _ | exact hget_sadd _ _ _ _ _ | exact hget_slen _ _ _ _) rfl (by decide) (by simp) (by omega)) ?_
      rintro _ _ ⟨x6, k6, rfl, rfl, hx6, hk6⟩
      simp only [List.mem_cons, Value.int.injEq, true_and, List.not_mem_nil, or_false] at hx6
      simp only [go_sem, set_lt _ hb, set_slt _ _ hb]
      exact W_some ⟨_, _, _, _, rfl, rfl, hk6.mono (by omega), by omega, by omega, by omega, by omega, by omega, by omega⟩
    · refine W_oif ?_ ?_ <;> intro h3
      · refine W_bind (s_among (by first | exact hc | exact hc.app _ | exact hc.set (by assumption) | exact hc.step (by assumption) _ | exact Cu.loc hg (by assumption) rfl | exact Cu.loc0 hg (by assumption) rfl) (by omega) (by first | exact hget_add _ _ _ | exact hget_len _ _ | exact hget_sadd _ _ _ _ _ | exact hget_slen _ _ _ _) rfl (by decide) (by simp) (by omega)) ?_
        rintro _ _ ⟨x6, k6, rfl, rfl, hx6, hk6⟩
        rw [wrapI (n := x2 + 1) (by omega) (by omega)] at hx6
        simp only [List.mem_cons, Value.int.injEq, true_and, List.not_mem_nil, or_false] at hx6
        simp only [go_sem, set_lt _ hb, set_slt _ _ hb]
        exact W_some ⟨_, _, _, _, rfl, rfl, hk6.mono (by omega), by omega, by omega, by omega, by omega, by omega, by omega⟩
      · exact W_some ⟨_, _, _, _, rfl, rfl, hk5.mono (by omega), by omega, by omega, by omega, by omega, by omega, by omega⟩

theorem s_size {d fuel lim m : Nat} {G : Heap} {b : Nat} {g : Option (Nat × Blk)} (hc : Cu g m G b) (hm : m + 20 < 4611686018427387904) :
    W (run Try.prog (ann fuel) (d + 4) 114 [.pointer (some ⟨b, 0, none⟩)] lim G) fun v G' => ∃ (x : Int) (k : Blk), v = .int .i64 x ∧ G' = G.set b (some k) ∧ CurB g (m + 4) k ∧ 0 ≤ x ∧ x ≤ 1501 := by
  have hb := hc.lt
  rw [run114]; unfold f114
  simp only [go_sem]
  refine W_bind (s_among (by first | exact hc | exact hc.app _ | exact hc.set (by assumption) | exact hc.step (by assumption) _ | exact Cu.loc hg (by assumption) rfl | exact Cu.loc0 hg (by assumption) rfl) (by omega) (by first | exact hget_add _ _ _ | exact hget_len _ _ | exact hget_sadd _ _ _ _ _ | exact hget_slen _ _ _ _) rfl (by decide) (by simp) (by omega)) ?_
  rintro _ _ ⟨x1, k1, rfl, rfl, hx1, hk1⟩
  simp only [go_sem, set_lt _ hb, set_slt _ _ hb]
  refine W_bind (s_among (by first | exact hc | exact hc.app _ | exact hc.set (by assumption) | exact hc.step (by assumption) _ | exact Cu.loc hg (by assumption) rfl | exact Cu.loc0 hg (by assumption) rfl) (by omega) (by first | exact hget_add _ _ _ | exact hget_len _ _ | exact hget_sadd _ _ _ _ _ | exact hget_slen _ _ _ _) rfl (by decide) (by simp) (by omega)) ?_
  rintro _ _ ⟨x2, k2, rfl, rfl, hx2, hk2⟩
  simp only [go_sem, set_lt _ hb, set_slt _ _ hb]
  simp only [List.mem_cons, Value.int.injEq, true_and, List.not_mem_nil, or_false] at hx1 hx2
  exact W_some ⟨_, _, rfl, rfl, hk2, by omega, by omega⟩

theorem s_policer {d fuel lim m : Nat} {G : Heap} {b : Nat} {g : Option (Nat × Blk)} (hc : Cu g m G b) (hm : m + 60 < 4611686018427387904) :
    W (run Try.prog (ann fuel) (d + 5) 113 [.pointer (some ⟨b, 0, none⟩)] lim G) fun v G' => ∃ (x1 x2 x3 x4 x5 x6 : Int) (k : Blk), v = .agg #[.int .i64 x1, .int .i64 x2, .int .i64 x3, .int .i64 x4, .int .i64 x5, .int .i64 x6] ∧ G' = G.set b (some k) ∧ CurB g (m + 26) k := by
  have hb := hc.lt
  rw [run113]; unfold f113
  simp only [go_sem]
  refine W_bind (s_bucket (by first | exact hc | exact hc.app _ | exact hc.set (by assumption) | exact hc.step (by assumption) _ | exact Cu.loc hg (by assumption) rfl | exact Cu.loc0 hg (by assumption) rfl) (by omega)) ?_
  rintro _ _ ⟨x1, x2, x3, k1, rfl, rfl, hk1, _⟩
  simp only [go_sem, set_lt _ hb, set_slt _ _ hb]
  refine W_bind (s_bucket (by first | exact hc | exact hc.app _ | exact hc.set (by assumption) | exact hc.step (by assumption) _ | exact Cu.loc hg (by assumption) rfl | exact Cu.loc0 hg (by assumption) rfl) (by omega)) ?_
  rintro _ _ ⟨x4, x5, x6, k2, rfl, rfl, hk2, _⟩
  simp only [go_sem, set_lt _ hb, set_slt _ _ hb]
  refine W_oif ?_ ?_ <;> intro h1
  · refine W_bind (s_one (by first | exact hc | exact hc.app _ | exact hc.set (by assumption) | exact hc.step (by assumption) _ | exact Cu.loc hg (by assumption) rfl | exact Cu.loc0 hg (by assumption) rfl) (by omega)) ?_
    rintro _ _ ⟨o, k3, rfl, rfl, hk3⟩
    simp only [go_sem, set_lt _ hb, set_slt _ _ hb]
    refine W_oif ?_ ?_ <;> intro h2
    · exact W_some ⟨_, _, _, _, _, _, _, rfl, rfl, hk3.mono (by omega)⟩
    · exact W_some ⟨_, _, _, _, _, _, _, rfl, rfl, hk3.mono (by omega)⟩
  · exact W_some ⟨_, _, _, _, _, _, _, rfl, rfl, hk2.mono (by omega)⟩

end Go.Proofs.Ytngofhppopgicaa
