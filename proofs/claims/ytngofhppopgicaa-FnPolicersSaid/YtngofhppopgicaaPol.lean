/-
  What the functions that look at policers and colours give, in both packages, and what the functions that draw them give.
  Conditions: none for the former; those of the cursor for the latter.
-/
import Derived.Test.YtngofhppopgicaaBkt
set_option linter.unusedVariables false
set_option linter.unusedSimpArgs false
set_option maxRecDepth 100000
set_option maxHeartbeats 4000000
set_option linter.all false
namespace Go.Proofs.Ytngofhppopgicaa
open Go.Ev Go.Ek

def poOk (a b c x y z : Int) : Bool := bkOk a b c && bkOk x y z && decide (a ≤ x)
def coOk (g : Int) : Bool := decide (0 ≤ g ∧ g ≤ 2)
/-- The colour of a size, by the tokens of both buckets and the given colour. -/
def colF (c z s g : Int) : Int := if g = 0 ∨ z < s then 0 else if g = 1 ∨ c < s then 1 else 2
def hiT (col z s : Int) : Int := if col = 0 then z else IntKind.i64.wrap (z - s)
def loT (col c s : Int) : Int := if col = 2 then IntKind.i64.wrap (c - s) else c

theorem s_isColour {d fuel lim : Nat} {G : Heap} {x : Int} : run Try.prog (ann fuel) (d + 1) 105 [.int .i64 x] lim G = some (.bool (coOk x), G) := by
  rw [run105]; unfold f105
  simp only [go_sem, oif_ff]; exact some_bool (by simp [coOk])
theorem s_poColour {d fuel lim : Nat} {G : Heap} {x : Int} : run Try.prog (ann fuel) (d + 2) 109 [.int .i64 x] lim G = some (.bool (coOk x), G) := by
  rw [run109]; unfold f109
  simp only [go_sem, s_l1In]; rfl
theorem s_IsPolicer {d fuel lim : Nat} {G : Heap} {a b c x y z : Int} : run Try.prog (ann fuel) (d + 3) 20 [.agg #[.int .i64 a, .int .i64 b, .int .i64 c, .int .i64 x, .int .i64 y, .int .i64 z]] lim G = some (.bool (poOk a b c x y z), G) := by
  rw [run20]; unfold f20
  simp only [go_sem, s_IsBucket, oif_ff]; exact some_bool (by simp [poOk, and_assoc])
theorem s_poGood {d fuel lim : Nat} {G : Heap} {a b c x y z : Int} : run Try.prog (ann fuel) (d + 4) 107 [.agg #[.int .i64 a, .int .i64 b, .int .i64 c, .int .i64 x, .int .i64 y, .int .i64 z]] lim G = some (.bool (poOk a b c x y z), G) := by
  rw [run107]; unfold f107
  simp only [go_sem, s_buGood, oif_ff]; exact some_bool (by simp [poOk, and_assoc])
theorem s_sIsPolicer {d fuel lim : Nat} {G : Heap} {a b c x y z : Int} : run Try.prog (ann fuel) (d + 5) 21 [.agg #[.int .i64 a, .int .i64 b, .int .i64 c, .int .i64 x, .int .i64 y, .int .i64 z]] lim G = some (.bool (poOk a b c x y z), G) := by
  rw [run21]; unfold f21
  simp only [go_sem, s_poGood]

theorem s_colourOf {d fuel lim : Nat} {G : Heap} {a b c x y z s g : Int} : run Try.prog (ann fuel) (d + 1) 112 [.agg #[.int .i64 a, .int .i64 b, .int .i64 c, .int .i64 x, .int .i64 y, .int .i64 z], .int .i64 s, .int .i64 g] lim G = some (.int .i64 (colF c z s g), G) := by
  rw [run112]; unfold f112
  simp only [go_sem]
  repeat' (refine oif_eq ?_ ?_ <;> intro _)
  all_goals (simp_all [colF] <;> omega)
theorem s_poOf {d fuel lim : Nat} {G : Heap} {a b c x y z s g : Int} : run Try.prog (ann fuel) (d + 1) 110 [.agg #[.int .i64 a, .int .i64 b, .int .i64 c, .int .i64 x, .int .i64 y, .int .i64 z], .int .i64 s, .int .i64 g] lim G = some (.int .i64 (colF c z s g), G) := by
  rw [run110]; unfold f110
  simp only [go_sem]
  repeat' (refine oif_eq ?_ ?_ <;> intro _)
  all_goals (simp_all [colF] <;> omega)

def awOk (a b c x y z s g : Int) : Bool := poOk a b c x y z && szOk s && coOk g
theorem s_ColourAware {d fuel lim : Nat} {G : Heap} {a b c x y z s g : Int} : run Try.prog (ann fuel) (d + 4) 12 [.agg #[.int .i64 a, .int .i64 b, .int .i64 c, .int .i64 x, .int .i64 y, .int .i64 z], .int .i64 s, .int .i64 g] lim G = some (.tuple #[.int .i64 (bif awOk a b c x y z s g then colF c z s g else 0), .bool (awOk a b c x y z s g)], G) := by
  rw [run12]; unfold f12
  simp only [go_sem, s_IsPolicer, s_isSize, s_isColour, s_colourOf]
  repeat' (refine oif_eq ?_ ?_ <;> intro _)
  all_goals (simp_all [awOk])
theorem s_sColourAware {d fuel lim : Nat} {G : Heap} {a b c x y z s g : Int} : run Try.prog (ann fuel) (d + 5) 13 [.agg #[.int .i64 a, .int .i64 b, .int .i64 c, .int .i64 x, .int .i64 y, .int .i64 z], .int .i64 s, .int .i64 g] lim G = some (.tuple #[.int .i64 (bif awOk a b c x y z s g then colF c z s g else 0), .bool (awOk a b c x y z s g)], G) := by
  rw [run13]; unfold f13
  simp only [go_sem, s_poGood, s_buSize, s_poColour, s_poOf]
  repeat' (refine oif_eq ?_ ?_ <;> intro _)
  all_goals (simp_all [awOk])
theorem s_ColourOf {d fuel lim : Nat} {G : Heap} {a b c x y z s : Int} : run Try.prog (ann fuel) (d + 5) 15 [.agg #[.int .i64 a, .int .i64 b, .int .i64 c, .int .i64 x, .int .i64 y, .int .i64 z], .int .i64 s] lim G = some (.tuple #[.int .i64 (bif awOk a b c x y z s 2 then colF c z s 2 else 0), .bool (awOk a b c x y z s 2)], G) := by
  rw [run15]; unfold f15
  simp only [go_sem, s_ColourAware]
theorem s_sColourOf {d fuel lim : Nat} {G : Heap} {a b c x y z s : Int} : run Try.prog (ann fuel) (d + 6) 16 [.agg #[.int .i64 a, .int .i64 b, .int .i64 c, .int .i64 x, .int .i64 y, .int .i64 z], .int .i64 s] lim G = some (.tuple #[.int .i64 (bif awOk a b c x y z s 2 then colF c z s 2 else 0), .bool (awOk a b c x y z s 2)], G) := by
  rw [run16]; unfold f16
  simp only [go_sem, s_sColourAware]

theorem s_police {d fuel lim : Nat} {G : Heap} {p : Nat} {a b c x y z s g : Int} (hk : hget G p = some ⟨[.int .i64 a, .int .i64 b, .int .i64 c, .int .i64 x, .int .i64 y, .int .i64 z], false⟩) :
    run Try.prog (ann fuel) (d + 2) 106 [.pointer (some ⟨p, 0, none⟩), .int .i64 s, .int .i64 g] lim G
    = some (.int .i64 (colF c z s g), G.set p (some ⟨[.int .i64 a, .int .i64 b, .int .i64 (loT (colF c z s g) c s), .int .i64 x, .int .i64 y, .int .i64 (hiT (colF c z s g) z s)], false⟩)) := by
  have hl := hget_some_lt hk
  have hs := set_self hk
  rw [run106]; unfold f106
  simp only [go_sem, s_colourOf, hk, hget_set_self hl]
  repeat' (refine oif_eq ?_ ?_ <;> intro _)
  all_goals (simp_all [loT, hiT])
theorem s_police' {d fuel lim : Nat} {G L : Heap} {a b c x y z s g : Int} : run Try.prog (ann fuel) (d + 2) 106 [.pointer (some ⟨G.length, 0, none⟩), .int .i64 s, .int .i64 g] lim (G ++ some ⟨[.int .i64 a, .int .i64 b, .int .i64 c, .int .i64 x, .int .i64 y, .int .i64 z], false⟩ :: L)
    = some (.int .i64 (colF c z s g), G ++ some ⟨[.int .i64 a, .int .i64 b, .int .i64 (loT (colF c z s g) c s), .int .i64 x, .int .i64 y, .int .i64 (hiT (colF c z s g) z s)], false⟩ :: L) := by
  rw [s_police (hget_len _ _), set_len]; rfl

theorem s_poAfter {d fuel lim : Nat} {G : Heap} {a b c x y z s g : Int} : run Try.prog (ann fuel) (d + 1) 111 [.agg #[.int .i64 a, .int .i64 b, .int .i64 c, .int .i64 x, .int .i64 y, .int .i64 z], .int .i64 s, .int .i64 g] lim G
    = some (.agg #[.int .i64 a, .int .i64 b, .int .i64 (loT g c s), .int .i64 x, .int .i64 y, .int .i64 (hiT g z s)], G) := by
  rw [run111]; unfold f111
  simp only [go_sem]
  repeat' (refine oif_eq ?_ ?_ <;> intro _)
  all_goals (simp_all [loT, hiT])

def ppV (a b c x y z s g : Int) : Value :=
  bif awOk a b c x y z s g then .tuple #[.agg #[.int .i64 a, .int .i64 b, .int .i64 (loT (colF c z s g) c s), .int .i64 x, .int .i64 y, .int .i64 (hiT (colF c z s g) z s)], .int .i64 (colF c z s g), .bool true]
  else .tuple #[.agg #[.int .i64 0, .int .i64 0, .int .i64 0, .int .i64 0, .int .i64 0, .int .i64 0], .int .i64 0, .bool false]
theorem s_PolicePacket {d fuel lim : Nat} {G : Heap} {a b c x y z s g : Int} : run Try.prog (ann fuel) (d + 4) 10 [.agg #[.int .i64 a, .int .i64 b, .int .i64 c, .int .i64 x, .int .i64 y, .int .i64 z], .int .i64 s, .int .i64 g] lim G = some (ppV a b c x y z s g, G) := by
  rw [run10]; unfold f10
  simp only [go_sem, s_IsPolicer, s_isSize, s_isColour, s_police']
  repeat' (refine oif_eq ?_ ?_ <;> intro _)
  all_goals (simp_all [awOk, ppV])
theorem s_sPolicePacket {d fuel lim : Nat} {G : Heap} {a b c x y z s g : Int} : run Try.prog (ann fuel) (d + 5) 11 [.agg #[.int .i64 a, .int .i64 b, .int .i64 c, .int .i64 x, .int .i64 y, .int .i64 z], .int .i64 s, .int .i64 g] lim G = some (ppV a b c x y z s g, G) := by
  rw [run11]; unfold f11
  simp only [go_sem, s_poGood, s_buSize, s_poColour, s_poOf, s_poAfter]
  repeat' (refine oif_eq ?_ ?_ <;> intro _)
  all_goals (simp_all [awOk, ppV])

def fpV (a b x y : Int) : Value :=
  bif poOk a b b x y y then .tuple #[.agg #[.int .i64 a, .int .i64 b, .int .i64 b, .int .i64 x, .int .i64 y, .int .i64 y], .bool true]
  else .tuple #[.agg #[.int .i64 0, .int .i64 0, .int .i64 0, .int .i64 0, .int .i64 0, .int .i64 0], .bool false]
theorem s_FullPolicer {d fuel lim : Nat} {G : Heap} {a b x y : Int} : run Try.prog (ann fuel) (d + 4) 18 [.int .i64 a, .int .i64 b, .int .i64 x, .int .i64 y] lim G = some (fpV a b x y, G) := by
  rw [run18]; unfold f18
  simp only [go_sem, s_IsPolicer]
  repeat' (refine oif_eq ?_ ?_ <;> intro _)
  all_goals (simp_all [fpV])
theorem s_sFullPolicer {d fuel lim : Nat} {G : Heap} {a b x y : Int} : run Try.prog (ann fuel) (d + 5) 19 [.int .i64 a, .int .i64 b, .int .i64 x, .int .i64 y] lim G = some (fpV a b x y, G) := by
  rw [run19]; unfold f19
  simp only [go_sem, s_poGood]
  repeat' (refine oif_eq ?_ ?_ <;> intro _)
  all_goals (simp_all [fpV])

theorem s_DrawColourAware {d fuel lim l e : Nat} {a : Option Addr} {G : Heap} {g : Option (Nat × Blk)} (hg : CodeAt g G) (hv : CodeV g a l) :
    W (run Try.prog (ann fuel) (d + 6) 103 [.slice a l e] lim G) fun v G' => ∃ (a b c x y z s g : Int), v = .tuple #[.agg #[.int .i64 a, .int .i64 b, .int .i64 c, .int .i64 x, .int .i64 y, .int .i64 z], .int .i64 s, .int .i64 g] ∧ G' = G := by
  have hk0 := CurB.new hv e
  rw [run103]; unfold f103
  simp only [go_sem]
  refine W_bind (s_policer (by first | exact hc | exact hc.app _ | exact hc.set (by assumption) | exact hc.step (by assumption) _ | exact Cu.loc hg (by assumption) rfl | exact Cu.loc0 hg (by assumption) rfl) (by omega)) ?_
  rintro _ _ ⟨x1, x2, x3, x4, x5, x6, k1, rfl, rfl, hk1⟩
  simp only [go_sem]
  refine W_bind (s_size (by first | exact hc | exact hc.app _ | exact hc.set (by assumption) | exact hc.step (by assumption) _ | exact Cu.loc hg (by assumption) rfl | exact Cu.loc0 hg (by assumption) rfl) (by omega)) ?_
  rintro _ _ ⟨x7, k2, rfl, rfl, hk2, _⟩
  simp only [go_sem]
  refine W_bind (s_pick (by first | exact hc | exact hc.app _ | exact hc.set (by assumption) | exact hc.step (by assumption) _ | exact Cu.loc hg (by assumption) rfl | exact Cu.loc0 hg (by assumption) rfl) (by omega)) ?_
  rintro _ _ ⟨x8, k3, rfl, rfl, _, _, hk3⟩
  simp only [go_sem]
  refine W_bind (s_pick (by first | exact hc | exact hc.app _ | exact hc.set (by assumption) | exact hc.step (by assumption) _ | exact Cu.loc hg (by assumption) rfl | exact Cu.loc0 hg (by assumption) rfl) (by omega)) ?_
  rintro _ _ ⟨x9, k4, rfl, rfl, _, _, hk4⟩
  simp only [go_sem]
  exact W_some ⟨_, _, _, _, _, _, _, _, rfl, rfl⟩
theorem s_DrawPolicePacket {d fuel lim l e : Nat} {a : Option Addr} {G : Heap} {g : Option (Nat × Blk)} (hg : CodeAt g G) (hv : CodeV g a l) :
    W (run Try.prog (ann fuel) (d + 7) 9 [.slice a l e] lim G) fun v G' => ∃ (a b c x y z s g : Int), v = .tuple #[.agg #[.int .i64 a, .int .i64 b, .int .i64 c, .int .i64 x, .int .i64 y, .int .i64 z], .int .i64 s, .int .i64 g] ∧ G' = G := by
  rw [run9]; unfold f9
  simp only [go_sem]
  refine W_bind (s_DrawColourAware (hg.app _) hv) ?_
  rintro _ _ ⟨a, b, c, x, y, z, s, g, rfl, rfl⟩
  simp only [go_sem]
  exact W_some ⟨_, _, _, _, _, _, _, _, rfl, rfl⟩
theorem s_DrawColourOf {d fuel lim l e : Nat} {a : Option Addr} {G : Heap} {g : Option (Nat × Blk)} (hg : CodeAt g G) (hv : CodeV g a l) :
    W (run Try.prog (ann fuel) (d + 6) 14 [.slice a l e] lim G) fun v G' => ∃ (a b c x y z s : Int), v = .tuple #[.agg #[.int .i64 a, .int .i64 b, .int .i64 c, .int .i64 x, .int .i64 y, .int .i64 z], .int .i64 s] ∧ G' = G := by
  have hk0 := CurB.new hv e
  rw [run14]; unfold f14
  simp only [go_sem]
  refine W_bind (s_policer (by first | exact hc | exact hc.app _ | exact hc.set (by assumption) | exact hc.step (by assumption) _ | exact Cu.loc hg (by assumption) rfl | exact Cu.loc0 hg (by assumption) rfl) (by omega)) ?_
  rintro _ _ ⟨x1, x2, x3, x4, x5, x6, k1, rfl, rfl, hk1⟩
  simp only [go_sem]
  refine W_bind (s_size (by first | exact hc | exact hc.app _ | exact hc.set (by assumption) | exact hc.step (by assumption) _ | exact Cu.loc hg (by assumption) rfl | exact Cu.loc0 hg (by assumption) rfl) (by omega)) ?_
  rintro _ _ ⟨x7, k2, rfl, rfl, hk2, _⟩
  simp only [go_sem]
  exact W_some ⟨_, _, _, _, _, _, _, rfl, rfl⟩
theorem s_DrawFullPolicer {d fuel lim l e : Nat} {a : Option Addr} {G : Heap} {g : Option (Nat × Blk)} (hg : CodeAt g G) (hv : CodeV g a l) :
    W (run Try.prog (ann fuel) (d + 4) 17 [.slice a l e] lim G) fun v G' => ∃ (a b x y : Int), v = .tuple #[.int .i64 a, .int .i64 b, .int .i64 x, .int .i64 y] ∧ G' = G := by
  have hk0 := CurB.new hv e
  rw [run17]; unfold f17
  simp only [go_sem]
  refine W_bind (s_among (by first | exact hc | exact hc.app _ | exact hc.set (by assumption) | exact hc.step (by assumption) _ | exact Cu.loc hg (by assumption) rfl | exact Cu.loc0 hg (by assumption) rfl) (by omega) (by first | exact hget_add _ _ _ | exact hget_len _ _ | exact hget_sadd _ _ _ _ _ | exact hget_slen _ _ _ _) rfl (by decide) (by simp) (by omega)) ?_
  rintro _ _ ⟨x1, k1, rfl, rfl, _, hk1⟩
  simp only [go_sem]
  refine W_bind (s_among (by first | exact hc | exact hc.app _ | exact hc.set (by assumption) | exact hc.step (by assumption) _ | exact Cu.loc hg (by assumption) rfl | exact Cu.loc0 hg (by assumption) rfl) (by omega) (by first | exact hget_add _ _ _ | exact hget_len _ _ | exact hget_sadd _ _ _ _ _ | exact hget_slen _ _ _ _) rfl (by decide) (by simp) (by omega)) ?_
  rintro _ _ ⟨x2, k2, rfl, rfl, _, hk2⟩
  simp only [go_sem]
  refine W_bind (s_among (by first | exact hc | exact hc.app _ | exact hc.set (by assumption) | exact hc.step (by assumption) _ | exact Cu.loc hg (by assumption) rfl | exact Cu.loc0 hg (by assumption) rfl) (by omega) (by first | exact hget_add _ _ _ | exact hget_len _ _ | exact hget_sadd _ _ _ _ _ | exact hget_slen _ _ _ _) rfl (by decide) (by simp) (by omega)) ?_
  rintro _ _ ⟨x3, k3, rfl, rfl, _, hk3⟩
  simp only [go_sem]
  refine W_bind (s_among (by first | exact hc | exact hc.app _ | exact hc.set (by assumption) | exact hc.step (by assumption) _ | exact Cu.loc hg (by assumption) rfl | exact Cu.loc0 hg (by assumption) rfl) (by omega) (by first | exact hget_add _ _ _ | exact hget_len _ _ | exact hget_sadd _ _ _ _ _ | exact hget_slen _ _ _ _) rfl (by decide) (by simp) (by omega)) ?_
  rintro _ _ ⟨x4, k4, rfl, rfl, _, hk4⟩
  simp only [go_sem]
  exact W_some ⟨_, _, _, _, rfl, rfl⟩

end Go.Proofs.Ytngofhppopgicaa
