/-
  Append and copy: they agree with the model's run.
  Conditions: none.
-/
import Derived.Test.YtpjlbjkeekobnaaDoorOpE
set_option linter.unusedVariables false
set_option linter.unusedSimpArgs false
namespace Go.Ev

/-- What an append of a given source does in a world. -/
structure ASrc (P : Program) (t u ty e : TypeId) (i : TypeInfo) (z : Value) (x : Value) (n : Nat) (cs : List Value) (w : World) : Prop where
  len : cs.length = n * i.size
  room : ∀ b off sLen sCap : Nat, sLen + n ≤ sCap → (∀ j, j < cs.length → (w.cell? ⟨b, off + sLen * i.size + j, none⟩).isSome = true) → (∀ j, j < cs.length → w.frozen? ⟨b, off + sLen * i.size + j, none⟩ = false) →
    (Builtin.append_ #[t, u] ty #[.slice (some ⟨b, off, none⟩) sLen sCap, x]).run P w = .ok (.slice (some ⟨b, off, none⟩) (sLen + n) sCap) (w.setCells b (off + sLen * i.size) cs)
  grow : ∀ (base : Option Addr) (sLen sCap : Nat) (olds : List Value), (Builtin.firstCells i.size sLen (.slice base sLen sCap)).run P w.drew = .ok olds.toArray w.drew → sCap < sLen + n → ((sLen + n : Nat) : Int) ≤ 9223372036854775807 →
    Builtin.nextslicecap (sLen + n) sCap * i.bytes ≤ 281474976710656 →
    (Builtin.append_ #[t, u] ty #[.slice base sLen sCap, x]).run P w = .ok (.slice (some ⟨w.heap.size, 0, none⟩) (sLen + n) (grownCap w (sLen + n) sCap e))
        (w.drew.alloc (.cells ((olds ++ cs).toArray ++ Builtin.zeroCells z.cells (grownCap w (sLen + n) sCap e - (sLen + n))) e))
  nothing : n = 0 → ∀ (base : Option Addr) (sLen sCap : Nat), sLen ≤ sCap → (Builtin.append_ #[t, u] ty #[.slice base sLen sCap, x]).run P w = .ok (.slice base sLen sCap) w

section
variable {P : Program} {nt lim : Nat} {o : Oper} {env : Env} {H H' : Heap} {X : Cx} {β : Type} {K : Value → Heap → Option β} {r : β}

theorem ASrc.ofSrc {t u ty e : TypeId} {i : TypeInfo} {z x : Value} {n : Nat} {cs : List Value} {w : World} (ht : P.underlying t = some (.slice e)) (hi : P.info? e = some i) (hz : i.zero = some z) (h : Src P i.size u x n cs w) : ASrc P t u ty e i z x n cs w := by
  refine ⟨h.newsLen, fun b off sLen sCap h1 h2 h3 => run_append_room_src w t u ty e i ht hi b off sLen sCap x n cs h h1 h2 h3,
    fun base sLen sCap olds h1 h2 h3 h4 => run_append_grow_src w t u ty e i z ht hi hz base sLen sCap olds h1 x n cs h h2 h3 h4, fun hn base sLen sCap hle => ?_⟩
  subst hn
  have : cs = [] := List.length_eq_zero_iff.1 (by simpa using h.newsLen)
  subst this
  exact run_append_nothing w t u ty e i ht hi base sLen sCap hle x h

theorem oneCell_zeros {z : Value} (h : z.cells.toList.all leafOk = true) (n : Nat) : ∀ v ∈ (List.replicate n z.cells.toList).flatten, v.oneCell' = true := by
  intro v hv
  rw [isCell_oneCell]
  exact leafOk_isCell (List.all_eq_true.1 (zeros_all h n) v hv)

theorem zeroCells_list (z : Array Value) (n : Nat) : Builtin.zeroCells z n = (List.replicate n z.toList).flatten.toArray := by
  apply Array.ext'
  have := zeros_eq z n
  simpa [Builtin.zeroCells] using this

theorem ASrc.ofZeros {t u ty e : TypeId} {i : TypeInfo} {z : Value} {k k' : IntKind} {n : Nat} {w : World} (ht : P.underlying t = some (.slice e)) (hi : P.info? e = some i) (hz : i.zero = some z) (hu : P.underlying u = some (.int k)) (h1 : n * i.bytes ≤ 140737488355328) (hb : 1 ≤ i.bytes)
    (h4 : z.cells.toList.all leafOk = true) (h5 : z.cells.size = i.size) : ASrc P t u ty e i z (.int k' (n : Int)) n (List.replicate n z.cells.toList).flatten w := by
  have hle : n ≤ 140737488355328 := by
    have : n * 1 ≤ n * i.bytes := Nat.mul_le_mul_left n hb
    omega
  have hw : IntKind.i64.wrap (n : Int) = n := wrap_nat n (by omega)
  have hmake : ¬ (281474976710656 < (n : Int) * (i.bytes : Int)) := by
    have : ((n : Int) * (i.bytes : Int)) = ((n * i.bytes : Nat) : Int) := by push_cast; rfl
    rw [this]; omega
  have hn0 : ¬ ((n : Int) < 0) := by omega
  have hcs : ((List.replicate n z.cells.toList).flatten).length = n * i.size := by simp [h5]
  refine ⟨hcs, fun b off sLen sCap g1 g2 g3 => ?_, fun base sLen sCap olds g1 g2 g3 g4 => ?_, fun hn base sLen sCap hle' => ?_⟩
  · have hst := run_storeCells_cells (P := P) b (off + sLen * i.size) _ 0 w (by simpa using g2) (by simpa using g3) (oneCell_zeros h4 n)
    simp only [Nat.add_zero] at hst
    by_cases hz0 : n * i.size = 0
    · have e0 : (List.replicate n z.cells.toList).flatten = [] := List.length_eq_zero_iff.1 (by rw [hcs]; exact hz0)
      rw [e0] at hst ⊢
      have hz0' : n = 0 ∨ i.size = 0 := Nat.mul_eq_zero.1 hz0
      simp [Builtin.append_, run_underlying ht, run_underlying hu, sizeOf, typeInfo, hi, asInt, asIntOf, hw, hn0, hmake, g1, hz0, Addr.add_lit, hst]
    · have hz0' : ¬ (n = 0 ∨ i.size = 0) := fun h => hz0 (Nat.mul_eq_zero.2 h)
      simp [Builtin.append_, run_underlying ht, run_underlying hu, sizeOf, typeInfo, hi, asInt, asIntOf, hw, hn0, hmake, g1, hz0, zeroValue, hz, zeroCells_list, Addr.add_lit, hst]
  · have hn : ¬ (sLen + n ≤ sCap) := by omega
    have h63' : ¬ (9223372036854775807 < ((sLen : Int) + (n : Int))) := by omega
    have h48' : ¬ (281474976710656 < Builtin.nextslicecap (sLen + n) sCap * i.bytes) := by omega
    by_cases hz0 : n * i.size = 0
    · have e0 : (List.replicate n z.cells.toList).flatten = [] := List.length_eq_zero_iff.1 (by rw [hcs]; exact hz0)
      rw [e0]
      have hz0' : n = 0 ∨ i.size = 0 := Nat.mul_eq_zero.1 hz0
      simp [Builtin.append_, run_underlying ht, run_underlying hu, sizeOf, typeInfo, hi, asInt, asIntOf, hw, hn0, hmake, hn, h63', h48', hz0, zeroValue, hz, Question.forced, g1, newRow, grownCap]
    · have hz0' : ¬ (n = 0 ∨ i.size = 0) := fun h => hz0 (Nat.mul_eq_zero.2 h)
      simp [Builtin.append_, run_underlying ht, run_underlying hu, sizeOf, typeInfo, hi, asInt, asIntOf, hw, hn0, hmake, hn, h63', h48', hz0, zeroValue, hz, Question.forced, g1, newRow, grownCap, zeroCells_list]
  · subst hn
    have hw0 : IntKind.i64.wrap 0 = 0 := by decide
    cases base <;> simp [hw0, Builtin.append_, run_underlying ht, run_underlying hu, sizeOf, typeInfo, hi, asInt, asIntOf, hw, hn0, hle', storeCells]

theorem append_run {c : Call} {t u : TypeId} {x y : Operand} (ho : o.op = .call c) (hb : c.callee = .builtin .append) (ht : c.argTypes = #[t, u]) (ha : c.args = #[x, y]) (a : Act) (w : World) :
    (execOp a.eval o).run P w = ((Builtin.append_ #[t, u] o.type #[a.eval x, a.eval y]).run P w).andThen fun v w' => .ok (.value v) w' := by
  obtain ⟨cs, hcs⟩ := run_builtin (P := P) ho hb a.eval w
  rw [hcs, ht, ha]
  simp [builtin]

/-- Both kinds of append. -/
theorem eff_append {c : Call} {t u e : TypeId} {x y : Operand} {i : TypeInfo} {z s : Value} {news : List Value} {n : Nat} (ho : o.op = .call c) (hb : c.callee = .builtin .append) (ht : c.argTypes = #[t, u]) (ha : c.args = #[x, y])
    (hu : P.underlying t = some (.slice e)) (hi : P.info? e = some i) (hz : i.zero = some z) (hz5 : z.cells.size = i.size) (hb1 : 1 ≤ i.bytes) (hx : ev env x = some s)
    (hsrc : ∀ (ι : Io) (a : Act) (w : World), Rel ι (Bel H.length) H w → ERel ι (Bel H.length) nt env a → ∃ cs, LRel ι (Bel H.length) news cs ∧ (∀ v ∈ news, isCell v = true) ∧ ASrc P t u o.type e i z (a.eval y) n cs w)
    (hlt : EnvLt (Bel H.length) env → closedAt H.length H → LLt (Bel H.length) news) {K : Value → Heap → Option β} {r : β} (h : appendA i.size i.bytes s news n H K = some r) :
    ∃ v H', K v H' = some r ∧ EffF P nt lim o env H v H' := by
  have hroomN : ∀ k : Nat, k * i.bytes ≤ roomMax → k ≤ 140737488355328 := by
    intro k hk
    have e1 : k * 1 ≤ k * i.bytes := Nat.mul_le_mul_left k hb1
    have e2 : k * i.bytes ≤ 140737488355328 := hk
    omega
  have hrow : ∀ (w : World) (sLen sCap : Nat) (cs olds : List Value), olds.length = sLen * i.size → cs.length = n * i.size →
      ((olds ++ cs).toArray ++ Builtin.zeroCells z.cells (grownCap w (sLen + n) sCap e - (sLen + n))) = ((olds ++ cs) ++ (Builtin.zeroCells z.cells (grownCap w (sLen + n) sCap e - (sLen + n))).toList).toArray ∧
      grownCap w (sLen + n) sCap e * i.size ≤ ((olds ++ cs) ++ (Builtin.zeroCells z.cells (grownCap w (sLen + n) sCap e - (sLen + n))).toList).length := by
    intro w sLen sCap cs olds h1 h2
    refine ⟨by apply Array.ext'; simp, ?_⟩
    have hge := grownCap_ge w (sLen + n) sCap e
    simp only [List.length_append, Array.length_toList, size_zeroCells, hz5, h1, h2]
    rw [← Nat.add_mul, ← Nat.add_mul]
    exact Nat.mul_le_mul_right _ (by omega)
  unfold appendA at h
  replace h := obind_some h; obtain ⟨⟨rv, rh⟩, hr0, h⟩ := h
  replace h := vSl_some h; obtain ⟨ra, rn, rc, hrv, h⟩ := h
  simp only at hrv h
  rw [← hrv] at h
  clear hrv
  refine ⟨rv, rh, h, ?_⟩
  clear h
  unfold appendV at hr0
  split at hr0
  · split at hr0
    · simp at hr0; obtain ⟨rfl, rfl⟩ := hr0
      refine ⟨fun _ _ => .slNil, fun _ _ => Ab.refl _ _, fun ι a w hR he next Q hn => ?_⟩
      obtain ⟨cs, h1, hcell, h2⟩ := hsrc ι a w hR he
      have ex : a.eval x = .slice none 0 0 := by
        have := ev_rel he hx
        cases hq : a.eval x <;> rw [hq] at this <;> cases this; rfl
      have hrun : (execOp a.eval o).run P w = .ok (.value (.slice none 0 0)) w := by
        rw [append_run ho hb ht ha, ex, h2.nothing rfl none 0 0 (Nat.le_refl _)]; rfl
      exact wp_value hrun (hn ι w _ hR .slNil (Fr.refl ι H w))
    · rename_i m
      rcases oif_some hr0 with ⟨hroom, hr0⟩ | ⟨_, hr0⟩
      · have hroom : (m + 1) * i.bytes ≤ roomMax := Nat.le_of_ble_eq_true hroom
        simp at hr0; obtain ⟨rfl, rfl⟩ := hr0
        refine ⟨fun _ _ => .sl _ _ _ (by simp [Bel, length_push]), fun he hc => hpush_ab _ (hlt he hc), fun ι a w hR he next Q hn => ?_⟩
        obtain ⟨cs, h1, hcell, h2⟩ := hsrc ι a w hR he
        have ex : a.eval x = .slice none 0 0 := by
          have := ev_rel he hx
          cases hq : a.eval x <;> rw [hq] at this <;> cases this; rfl
        have hN := hroomN (m + 1) hroom
        have hg := h2.grow none 0 0 [] (by simp [Builtin.firstCells]) (by omega) (by omega) (growslice_fits (by omega) (by rw [Nat.zero_add]; exact hroom))
        obtain ⟨r1, r2⟩ := hrow w 0 0 cs [] (by simp) h2.len
        rw [r1] at hg
        simp only [List.nil_append, Nat.zero_add] at hg r2
        have hrun : (execOp a.eval o).run P w = .ok (.value (.slice (some ⟨w.heap.size, 0, none⟩) (m + 1) (grownCap w (m + 1) 0 e))) (w.drew.alloc (.cells (cs ++ (Builtin.zeroCells z.cells (grownCap w (m + 1) 0 e - (m + 1))).toList).toArray e)) := by
          rw [append_run ho hb ht ha, ex, hg]; rfl
        obtain ⟨g1, g2⟩ := (hR.same_heap (w' := w.drew) rfl).push h1 hcell (Builtin.zeroCells z.cells (grownCap w (m + 1) 0 e - (m + 1))).toList e (0, 0) (Thaw.zero _)
        refine wp_value hrun (hn _ _ _ g1 ?_ ((Fr.drew ι H w).trans g2))
        rw [length_push]
        exact (sl_new (ι := ι) (D := Bel H.length) H.length (by have := grownCap_ge w (m + 1) 0 e; omega) r2).mono (by intro b hb'; simp [Bel] at hb' ⊢; omega) fun _ _ => rfl
      · simp at hr0
  · rename_i p len c'
    replace hr0 := obind_some hr0; obtain ⟨k, hk, hr0⟩ := hr0
    rcases oif_some hr0 with ⟨hcond, hr0⟩ | ⟨_, hr0⟩
    · simp only [Bool.and_eq_true, Bool.not_eq_true'] at hcond
      obtain ⟨⟨⟨hro, hc'⟩, hfront⟩, hroom⟩ := hcond
      have hc' := Nat.eq_of_beq_eq_true hc'
      have hfr0 := Nat.le_of_ble_eq_true hfront
      have hroom : (len + n) * i.bytes ≤ roomMax := Nat.le_of_ble_eq_true hroom
      simp at hr0; obtain ⟨rfl, rfl⟩ := hr0
      subst hc'
      obtain ⟨kc, kr⟩ := k
      simp only at hro hfr0; subst hro
      generalize hkm : kc.take (p.off + len * i.size) = km at *
      have hfront : p.off + len * i.size = km.length := by rw [← hkm]; simp; omega
      have hlen : (H.set p.block none).length = H.length := by simp
      have hset1 : (H.set p.block (some ⟨km, false⟩)).set p.block none = H.set p.block none := by simp
      have hlen1 : (H.set p.block (some ⟨km, false⟩)).length = H.length := by simp
      have hN := hroomN (len + n) hroom
      have holdsD : (km.drop p.off).length = len * i.size := by simp; omega
      refine ⟨fun _ _ => .sl _ _ _ (by simp [Bel, length_push]), fun he hc => ?_, fun ι a w hR he next Q hn => ?_⟩
      · refine (kill_ab lim H p.block).trans (hpush_ab _ ?_)
        rw [hlen]
        intro v hv
        rcases List.mem_append.1 hv with hv | hv
        · exact hc _ (hget_lt hk) _ hk v (List.mem_of_mem_take (by rw [hkm]; exact List.mem_of_mem_drop hv))
        · exact hlt he hc v hv
      · obtain ⟨cs, h1, hcell, h2⟩ := hsrc ι a w hR he
        have hlc : cs.length = n * i.size := h2.len
        obtain ⟨hk1, hR1, hF1⟩ := hR.trunc hk rfl (p.off + len * i.size)
        simp only [hkm] at hk1 hR1 hF1
        have hbk := hR1.blk _ _ hk1
        have hR2 : Rel ι (Bel (H.set p.block (some ⟨km, false⟩)).length) (H.set p.block (some ⟨km, false⟩)) w := by rw [hlen1]; exact hR1
        have hslice : sliceCells (H.set p.block (some ⟨km, false⟩)) i.size (.slice (some p) len i.size) = some (km.drop p.off) := by
          have h0 : hload0 (H.set p.block (some ⟨km, false⟩)) p (len * i.size) = hloadN (H.set p.block (some ⟨km, false⟩)) p (len * i.size) := by
            cases hz : len * i.size with
            | zero =>
              have : Nat.ble (p.off + 0) km.length = true := Nat.ble_eq_true_of_le (by omega)
              simp only [hload0, hloadN, hk1, obind, this]; simp
            | succ m => rfl
          simp only [sliceCells, h0, hloadN, hk1, obind]
          have : Nat.ble (p.off + len * i.size) km.length = true := Nat.ble_eq_true_of_le (by omega)
          rw [this]
          simp only [Option.some.injEq]
          rw [List.take_of_length_le (by simp; omega)]
        have hgrow : ∀ (q : Addr) (cap : Nat), a.eval x = .slice (some q) len cap → cap < len + n → o.wp P a w next Q := by
          intro q cap ex hcap
          have hv := ev_rel he hx
          rw [ex] at hv
          obtain ⟨olds, o1, o2, o3, o4, _⟩ := sliceCells_rel (P := P) (hR1.same_heap (w' := w.drew) rfl) hslice hv
          have hg := h2.grow (some q) len cap olds o4 hcap (by omega) (growslice_fits hcap hroom)
          obtain ⟨r1, r2⟩ := hrow w len cap cs olds o1 hlc
          rw [r1] at hg
          have hrun : (execOp a.eval o).run P w = .ok (.value (.slice (some ⟨w.heap.size, 0, none⟩) (len + n) (grownCap w (len + n) cap e))) (w.drew.alloc (.cells ((olds ++ cs) ++ (Builtin.zeroCells z.cells (grownCap w (len + n) cap e - (len + n))).toList).toArray e)) := by
            rw [append_run ho hb ht ha, ex, hg]; rfl
          have hkill : Rel ι (Bel (H.set p.block none).length) (H.set p.block none) w.drew := by rw [hlen]; exact (hR.same_heap (w' := w.drew) rfl).kill p.block
          have hall : ∀ v ∈ km.drop p.off ++ news, isCell v = true := by
            intro v hv
            rcases List.mem_append.1 hv with hv | hv
            · exact o3 v hv
            · exact hcell v hv
          obtain ⟨g1, g2⟩ := hkill.push (vs := km.drop p.off ++ news) (cs := olds ++ cs) (by rw [hlen]; exact o2.append h1) hall (Builtin.zeroCells z.cells (grownCap w (len + n) cap e - (len + n))).toList e (0, 0) (Thaw.zero _)
          have hfr : Fr ι H w ι (H.set p.block none) w.drew := ⟨by simp, fun _ _ => rfl, rfl, rfl, rfl, Nat.le_refl _, fun _ _ _ => rfl, fun b blk hb hr => .inr ⟨b, blk, hget_kill hb, hr, rfl⟩, fun b blk hb _ => hget_kill hb⟩
          have hlen2 : (hpush (H.set p.block none) (km.drop p.off ++ news)).length = H.length + 1 := by rw [length_push, hlen]
          rw [hlen] at g1 g2
          refine wp_value hrun (hn _ _ _ g1 ?_ (hfr.trans g2))
          rw [hlen2]
          exact (sl_new (ι := ι) (D := Bel H.length) H.length (by have := grownCap_ge w (len + n) cap e; omega) r2).mono (by intro b hb'; simp [Bel] at hb' ⊢; omega) fun _ _ => rfl
        have hv := ev_rel he hx
        generalize hq : a.eval x = q at hv
        cases hv with
        | slGo _ _ _ cap hD hlcap hcap =>
          by_cases hroom' : len + n ≤ cap
          · obtain ⟨ety, hshape⟩ := hbk.shape
            have hmul : (len + n) * i.size ≤ cap * i.size := Nat.mul_le_mul_right _ hroom'
            have hfit : (ι p.block).off + km.length + cs.length ≤ (ι p.block).size := by rw [hlc, ← hfront]; rw [Nat.add_mul] at hmul; omega
            have hplace : (ι p.block).off + p.off + len * i.size = (ι p.block).off + km.length := by omega
            have hr := h2.room (ι p.block).blk ((ι p.block).off + p.off) len cap hroom' (fun j hj => cell_of_shape hshape (by omega)) (fun j hj => hbk.thaw rfl _ (by omega) (by omega))
            rw [hplace] at hr
            have hrun : (execOp a.eval o).run P w = .ok (.value (.slice (some ⟨(ι p.block).blk, (ι p.block).off + p.off, none⟩) (len + n) cap)) (w.setCells (ι p.block).blk ((ι p.block).off + km.length) cs) := by
              rw [append_run ho hb ht ha, hq]
              show ((Builtin.append_ #[t, u] o.type #[.slice (some ⟨(ι p.block).blk, (ι p.block).off + p.off, none⟩) len cap, a.eval y]).run P w).andThen _ = _
              rw [hr]; rfl
            obtain ⟨g1, g2⟩ := hR2.alias hk1 rfl (off := p.off) (by simp only; omega) (by rw [hlen1]; exact h1) hcell (by simp only; exact hfit)
            simp only [hset1, hlen1] at g1 g2
            replace g2 := hF1.trans g2
            have hlen2 : (hpush (H.set p.block none) (km.drop p.off ++ news)).length = H.length + 1 := by rw [length_push, hlen]
            rw [← hlen2] at g1
            refine wp_value hrun (hn _ _ _ g1 ?_ g2)
            rw [hlen2]
            have := VRel.slGo (ι := ι.set H.length ⟨(ι p.block).blk, (ι p.block).off + p.off, (ι p.block).size⟩) (D := Bel (H.length + 1)) ⟨H.length, 0, none⟩ (len + n) i.size cap (by simp [Bel]) hroom' (by simp only [Io.set_same]; omega)
            simp only [Io.addr, Io.set_same, Nat.add_zero] at this
            exact this
          · exact hgrow _ cap hq (by omega)
        | slEmpty _ b _ hD =>
          by_cases hn0 : n = 0
          · subst hn0
            have hcs0 : cs = [] := List.length_eq_zero_iff.1 (by simpa using hlc)
            subst hcs0
            have hrun : (execOp a.eval o).run P w = .ok (.value (.slice (some b) 0 0)) w := by
              rw [append_run ho hb ht ha, hq, h2.nothing rfl (some b) 0 0 (Nat.le_refl _)]; rfl
            obtain ⟨g1, g2⟩ := hR2.alias hk1 rfl (off := p.off) (by simp only; omega) (by rw [hlen1]; exact h1) hcell (by simpa using hbk.fit)
            simp only [hset1, hlen1] at g1 g2
            replace g2 := hF1.trans g2
            have hlen2 : (hpush (H.set p.block none) (km.drop p.off ++ news)).length = H.length + 1 := by rw [length_push, hlen]
            rw [← hlen2] at g1
            refine wp_value hrun (hn _ _ _ g1 ?_ g2)
            rw [hlen2]
            exact .slEmpty _ _ _ (by simp [Bel])
          · exact hgrow b 0 hq (by omega)
    · simp at hr0
  · simp at hr0

end

end Go.Ev
