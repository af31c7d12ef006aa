/-
  Copy; and all operations together: what one step of the interpreter says of the model's run.
  Conditions: none.
-/
import Derived.Test.YtpjlbjkeekobnaaDoorOpA
set_option linter.unusedVariables false
set_option linter.unusedSimpArgs false
namespace Go.Ev

section
variable {P : Program} {nt lim : Nat} {o : Oper} {env : Env} {H H' : Heap} {X : Cx} {β : Type} {K : Value → Heap → Option β} {r : β}

theorem copy_run {c : Call} {t u : TypeId} {x y : Operand} (ho : o.op = .call c) (hb : c.callee = .builtin .copy) (ht : c.argTypes = #[t, u]) (ha : c.args = #[x, y]) (a : Act) (w : World) :
    (execOp a.eval o).run P w = ((Builtin.copy_ #[t, u] o.type #[a.eval x, a.eval y]).run P w).andThen fun v w' => .ok (.value v) w' := by
  obtain ⟨cs, hcs⟩ := run_builtin (P := P) ho hb a.eval w
  rw [hcs, ht, ha]
  simp [builtin]

theorem hstoreN_len {a : Addr} {vs : List Value} (h : hstoreN H lim a vs = some H') : H'.length = H.length := by
  obtain ⟨k, hk, hx⟩ := obind_some h
  split at hx
  · simp at hx; subst hx; simp
  · simp at hx

/-- A copy of given cells. -/
theorem eff_copy {c : Call} {t u e : TypeId} {x y : Operand} {i : TypeInfo} {p : Addr} {n m : Nat} {q : Nat} {vs : List Value} (ho : o.op = .call c) (hb : c.callee = .builtin .copy) (ht : c.argTypes = #[t, u]) (ha : c.args = #[x, y])
    (hu : P.underlying t = some (.slice e)) (hi : P.info? e = some i) (hx : ev env x = some (.slice (some p) n m)) (hle : vs.length ≤ n * i.size)
    (hsrc : ∀ (ι : Io) (a : Act) (w : World), Rel ι (Bel H.length) H w → ERel ι (Bel H.length) nt env a → ∃ cs sl, LRel ι (Bel H.length) vs cs ∧ (Builtin.lenOf (a.eval y)).run P w = .ok sl w ∧ Nat.min sl n = q ∧ (Builtin.firstCells i.size q (a.eval y)).run P w = .ok cs.toArray w)
    (hlt : EnvLt (Bel H.length) env → closedAt H.length H → LLt (Bel H.length) vs) (hh : hstoreN H lim p vs = some H') : EffF P nt lim o env H (.int .i64 q) H' := by
  have hlen := hstoreN_len hh
  refine ⟨fun _ _ => .int _ _, fun he hc => hstoreN_ab hh (hlt he hc), fun ι a w hR he next Q hn => ?_⟩
  obtain ⟨cs, sl, h1, h2, h3, h4⟩ := hsrc ι a w hR he
  obtain ⟨g1, g2, g3⟩ := hR.store (P := P) hh h1
  have hv := ev_rel he hx
  have key : ∀ (d : Addr) (cap : Nat), a.eval x = .slice (some d) n cap → (storeCells d cs).run P w = .ok () (w.setCells (ι p.block).blk ((ι p.block).off + p.off) cs) →
      o.wp P a w next Q := by
    intro d cap ex hst
    have hrun : (execOp a.eval o).run P w = .ok (.value (.int .i64 q)) (w.setCells (ι p.block).blk ((ι p.block).off + p.off) cs) := by
      rw [copy_run ho hb ht ha, ex]
      simp [Builtin.copy_, run_underlying hu, h2, h3, sizeOf, typeInfo, hi, h4, hst, goInt]
    rw [← hlen] at g2
    exact wp_value hrun (hn ι _ _ g2 (.int _ _) g3)
  generalize hq : a.eval x = xv at hv
  cases hv with
  | slGo _ _ _ cap hD hl hc => exact key _ cap hq g1
  | slEmpty _ b _ hD =>
    have hvs : vs = [] := List.length_eq_zero_iff.1 (by simpa using hle)
    subst hvs
    have hcs : cs = [] := List.length_eq_zero_iff.1 (by have := h1.1; simpa using this.symm)
    subst hcs
    exact key b 0 hq rfl

/-- A copy into nothing. -/
theorem eff_copy0 {c : Call} {t u e : TypeId} {x y : Operand} {i : TypeInfo} {sv : Value} (ho : o.op = .call c) (hb : c.callee = .builtin .copy) (ht : c.argTypes = #[t, u]) (ha : c.args = #[x, y])
    (hu : P.underlying t = some (.slice e)) (hi : P.info? e = some i) (hx : ev env x = some (.slice none 0 0)) (hy : ev env y = some sv) (hs : (∃ a n m, sv = .slice a n m) ∨ ∃ s, sv = .string s) : EffF P nt lim o env H (.int .i64 0) H := by
  refine ⟨fun _ _ => .int _ _, fun he hc => Ab.refl _ _, fun ι a w hR he next Q hn => ?_⟩
  have hv := ev_rel he hx
  have hw := ev_rel he hy
  have ex : a.eval x = .slice none 0 0 := by
    generalize a.eval x = xv at hv
    cases hv; rfl
  have hl : ∃ sl cs, (Builtin.lenOf (a.eval y)).run P w = .ok sl w ∧ (Builtin.firstCells i.size 0 (a.eval y)).run P w = .ok cs w := by
    generalize a.eval y = yv at hw
    rcases hs with ⟨p, n, m, rfl⟩ | ⟨s, rfl⟩
    · cases hw with
      | slNil => exact ⟨0, #[], rfl, by simp [Builtin.firstCells]⟩
      | slGo _ _ _ cap hD hl hc => exact ⟨n, #[], rfl, by simp [Builtin.firstCells, loadCells, loadCellsFrom]⟩
      | slEmpty _ b _ hD => exact ⟨0, #[], rfl, by simp [Builtin.firstCells, loadCells, loadCellsFrom]⟩
    · cases hw; exact ⟨s.size, _, rfl, rfl⟩
  obtain ⟨sl, cs, h2, h4⟩ := hl
  have hrun : (execOp a.eval o).run P w = .ok (.value (.int .i64 0)) w := by
    rw [copy_run ho hb ht ha, ex]
    simp [Builtin.copy_, run_underlying hu, h2, sizeOf, typeInfo, hi, h4, goInt]
  exact wp_value hrun (hn ι _ _ hR (.int _ _) (Fr.refl _ _ _))

/-- What one operation gives, by its class. -/
def OpF (X : Cx) (o : Oper) (env : Env) (H : Heap) (v : Value) (H' : Heap) : Prop :=
  match clsOf X.P o.op with
  | 0 => H' = H ∧ PureF X.P X.nt o env v
  | 1 => H' = H ∧ ∃ raw, ReadF X.P X.nt o env H raw v
  | 2 => ∃ vs mk, v = mk H.length ∧ H' = hpush H vs ∧ AllocF X.P X.nt o env vs mk
  | _ => EffF X.P X.nt X.lim o env H v H'

theorem opF_pure {v : Value} (hc : clsOf X.P o.op = 0) (h : PureF X.P X.nt o env v) : OpF X o env H v H := by unfold OpF; rw [hc]; exact ⟨rfl, h⟩
theorem opF_read {raw v : Value} (hc : clsOf X.P o.op = 1) (h : ReadF X.P X.nt o env H raw v) : OpF X o env H v H := by unfold OpF; rw [hc]; exact ⟨rfl, raw, h⟩
theorem opF_alloc {vs : List Value} {mk : Nat → Value} (hc : clsOf X.P o.op = 2) (h : AllocF X.P X.nt o env vs mk) : OpF X o env H (mk H.length) (hpush H vs) := by unfold OpF; rw [hc]; exact ⟨vs, mk, rfl, rfl, h⟩
theorem opF_eff {v : Value} (hc : clsOf X.P o.op = 3) (h : EffF X.P X.nt X.lim o env H v H') : OpF X o env H v H' := by unfold OpF; rw [hc]; exact h

theorem vBool_some {v : Value} {F : Bool → Option β} {r : β} (h : vBool v F = some r) : ∃ b, v = .bool b ∧ F b = some r := by
  unfold vBool at h; split at h
  · exact ⟨_, rfl, h⟩
  · simp at h

def clsB : Builtin → Nat
  | .append => 3
  | .copy => 3
  | _ => 0

theorem cls_builtin {c : Call} {b : Builtin} (hop : o.op = .call c) (hb : c.callee = .builtin b) : clsOf P o.op = clsB b := by
  rw [hop]
  obtain ⟨callee, args, ts⟩ := c
  simp only at hb
  subst hb
  cases b <;> rfl

theorem facts_builtin {c : Call} {b : Builtin} {vs : List Value} (hop : o.op = .call c) (hb : c.callee = .builtin b) (hv : evs env c.args.toList = some vs) (h : callBuiltin X.P X.lim b c.argTypes.toList vs H K = some r) :
    ∃ v H', K v H' = some r ∧ OpF X o env H v H' := by
  have hcls := cls_builtin (P := X.P) hop hb
  generalize hts : c.argTypes.toList = ts at h
  unfold callBuiltin at h
  split at h
  · rename_i t a n m
    split at h
    · rename_i e hu; exact ⟨_, _, h, opF_pure hcls (pure_lenSl hop hb hts hv hu)⟩
    · simp at h
  · rename_i t s
    split at h
    · rename_i hu; exact ⟨_, _, h, opF_pure hcls (pure_lenStr hop hb hts hv hu)⟩
    · simp at h
  · rename_i t
    split at h
    · rename_i e hu; exact ⟨_, _, h, opF_pure hcls (pure_capNil hop hb hts hv hu)⟩
    · simp at h
  · split at h
    · exact ⟨_, _, h, opF_pure hcls (pure_min hop hb hv)⟩
    · simp at h
  · split at h
    · exact ⟨_, _, h, opF_pure hcls (pure_max hop hb hv)⟩
    · simp at h
  · rename_i t u s x
    replace h := obind_some h
    obtain ⟨⟨e, size, bytes, z⟩, he, h⟩ := h
    obtain ⟨i, hu, hi, rfl, rfl, hz, hz4, hz5, hb1⟩ := elemOf_some he
    obtain ⟨p, q, hargs, hp, hq⟩ := args_two hv
    have ht := types_two hts
    simp only at h
    split at h
    · rename_i e' a n m huu
      replace h := obind_some h
      obtain ⟨news, hnews, h⟩ := h
      obtain ⟨v, H', h1, h2⟩ := eff_append (lim := X.lim) hop hb ht hargs hu hi hz hz5 hb1 hp (fun ι act w hR hE => by
        obtain ⟨cs, g1, g2, g3⟩ := src_slice (P := X.P) hR huu hnews (ev_rel hE hq)
        exact ⟨cs, g1, g2, ASrc.ofSrc hu hi hz g3⟩) (fun hE hc => sliceCells_lt hnews hc) h
      exact ⟨v, H', h1, opF_eff hcls h2⟩
    · rename_i s' huu
      split at h
      · rename_i hs1
        obtain ⟨v, H', h1, h2⟩ := eff_append (lim := X.lim) (nt := X.nt) (news := byteCells s') (n := s'.size) hop hb ht hargs hu hi hz hz5 hb1 hp (fun ι act w hR hE => by
          have hs := Src.ofString (P := X.P) w huu s'
          rw [← hs1] at hs
          rw [(ev_rel hE hq).inv_str]
          exact ⟨byteCells s', LRel.refl_leaf (bytes_all s') ι _, fun v hv => leafOk_isCell (List.all_eq_true.1 (bytes_all s') v hv), ASrc.ofSrc hu hi hz hs⟩) (fun hE hc v hv => leafOk_lt (List.all_eq_true.1 (bytes_all s') v hv) _)
          (K := K) (r := r) (by rw [hs1]; exact h)
        exact ⟨v, H', h1, opF_eff hcls h2⟩
      · simp at h
    · rename_i k k' l huu
      rcases oif_some h with ⟨hl, h⟩ | ⟨_, h⟩
      · simp only [Bool.and_eq_true, decide_eq_true_eq] at hl
        obtain ⟨hl0, hl1⟩ := hl
        obtain ⟨n, rfl⟩ := Int.eq_ofNat_of_zero_le hl0
        simp only [Int.toNat_natCast] at h
        have hl2 : n * i.bytes ≤ 140737488355328 := by
          have : ((n : Int) * (i.bytes : Int)) = ((n * i.bytes : Nat) : Int) := by push_cast; rfl
          rw [this] at hl1
          have : roomMax = 140737488355328 := rfl
          omega
        obtain ⟨v, H', h1, h2⟩ := eff_append (lim := X.lim) (nt := X.nt) hop hb ht hargs hu hi hz hz5 hb1 hp (fun ι act w hR hE => by
          rw [(ev_rel hE hq).inv_int]
          exact ⟨_, LRel.refl_leaf (zeros_all hz4 n) ι _, fun v hv => leafOk_isCell (List.all_eq_true.1 (zeros_all hz4 n) v hv), ASrc.ofZeros hu hi hz huu hl2 hb1 hz4 hz5⟩) (fun hE hc v hv => leafOk_lt (List.all_eq_true.1 (zeros_all hz4 n) v hv) _) h
        exact ⟨v, H', h1, opF_eff hcls h2⟩
      · simp at h
    · simp at h
  · rename_i t u sa sn sc
    replace h := obind_some h
    obtain ⟨⟨e, size, bytes, z⟩, he, h⟩ := h
    obtain ⟨i, hu, hi, rfl, rfl, hz, hz4, hz5, hb1⟩ := elemOf_some he
    obtain ⟨p, q, hargs, hp, hq⟩ := args_two hv
    have ht := types_two hts
    exact ⟨_, _, h, opF_eff hcls (eff_copy0 hop hb ht hargs hu hi hp hq (.inl ⟨_, _, _, rfl⟩))⟩
  · rename_i t u ss
    replace h := obind_some h
    obtain ⟨⟨e, size, bytes, z⟩, he, h⟩ := h
    obtain ⟨i, hu, hi, rfl, rfl, hz, hz4, hz5, hb1⟩ := elemOf_some he
    obtain ⟨p, q, hargs, hp, hq⟩ := args_two hv
    have ht := types_two hts
    exact ⟨_, _, h, opF_eff hcls (eff_copy0 hop hb ht hargs hu hi hp hq (.inr ⟨_, rfl⟩))⟩
  · rename_i t u d src
    replace h := obind_some h
    obtain ⟨⟨e, size, bytes, z⟩, he, h⟩ := h
    obtain ⟨i, hu, hi, rfl, rfl, hz, hz4, hz5, hb1⟩ := elemOf_some he
    simp only at h
    replace h := slS_some h; obtain ⟨a, n, m, rfl, h⟩ := h
    obtain ⟨p, q, hargs, hp, hq⟩ := args_two hv
    have ht := types_two hts
    replace h := obind_some h; obtain ⟨⟨cn, H'⟩, hcv, h⟩ := h
    refine ⟨_, _, h, ?_⟩
    unfold copyV at hcv
    split at hcv
    · replace hcv := obind_some hcv; obtain ⟨H2, hh, hcv⟩ := hcv
      simp at hcv; obtain ⟨rfl, rfl⟩ := hcv
      refine opF_eff hcls (eff_copy (q := 0) hop hb ht hargs hu hi hp (by simp) (fun ι act w hR hE => ⟨[], 0, LRel.nil ι _, ?_, by simp, ?_⟩) (fun _ _ v hv => by simp at hv) hh)
      · have ex : act.eval q = .slice none 0 0 := by
          have := ev_rel hE hq
          cases hw : act.eval q <;> rw [hw] at this <;> cases this; rfl
        rw [ex]; rfl
      · have ex : act.eval q = .slice none 0 0 := by
          have := ev_rel hE hq
          cases hw : act.eval q <;> rw [hw] at this <;> cases this; rfl
        rw [ex]; simp [Builtin.firstCells]
    · rename_i b sl c'
      replace hcv := obind_some hcv; obtain ⟨l, hl, hcv⟩ := hcv
      replace hcv := obind_some hcv; obtain ⟨H2, hh, hcv⟩ := hcv
      simp at hcv; obtain ⟨rfl, rfl⟩ := hcv
      have hll : l.length = min sl n * i.size := by
        cases hz : min sl n * i.size with
        | zero => rw [hz] at hl; simp only [hload0, Option.some.injEq] at hl; subst hl; rfl
        | succ mm =>
          rw [hz] at hl
          obtain ⟨k, hk, hx⟩ := obind_some hl
          split at hx
          · rename_i hle; have := Nat.le_of_ble_eq_true hle; simp at hx; subst hx; simp; omega
          · simp at hx
      refine opF_eff hcls (eff_copy (q := min sl n) hop hb ht hargs hu hi hp (by rw [hll]; exact Nat.mul_le_mul_right _ (Nat.min_le_right _ _)) (fun ι act w hR hE => ?_) (fun _ hc => hload0_lt hl hc) hh)
      obtain ⟨cs, g1, g2, g3, g4⟩ := hR.load0 hl
      have hv' := ev_rel hE hq
      generalize hw : act.eval q = qv at hv'
      cases hv' with
      | slGo _ _ _ cap hD hl2 hc2 =>
        have hrun := run_loadCells_list (P := X.P) w (ι.addr b) cs g3
        rw [g1] at hrun
        exact ⟨cs, sl, g2, rfl, rfl, by simp only [Builtin.firstCells]; exact hrun⟩
      | slEmpty _ b' _ hD =>
        have : cs = [] := List.length_eq_zero_iff.1 (by simpa using g1)
        subst this
        exact ⟨[], 0, g2, rfl, rfl, by simp [Builtin.firstCells, loadCells, loadCellsFrom]⟩
    · rename_i s'
      split at hcv
      · rename_i hs1
        replace hcv := obind_some hcv; obtain ⟨H2, hh, hcv⟩ := hcv
        simp at hcv; obtain ⟨rfl, rfl⟩ := hcv
        have hb' : (s'.data.toList.map fun b => Value.int .u8 b.toNat) = byteCells s' := rfl
        rw [hb'] at hh
        refine opF_eff hcls (eff_copy (q := min s'.size n) hop hb ht hargs hu hi hp (by rw [hs1]; simp; omega) (fun ι act w hR hE => ⟨(byteCells s').take n, s'.size, ?_, ?_, rfl, ?_⟩) (fun _ _ v hv => leafOk_lt (List.all_eq_true.1 (bytes_all s') v (List.mem_of_mem_take hv)) _) hh)
        · refine LRel.refl_leaf ?_ ι _
          rw [List.all_eq_true]
          exact fun v hv => List.all_eq_true.1 (bytes_all s') v (List.mem_of_mem_take hv)
        · rw [(ev_rel hE hq).inv_str]; rfl
        · rw [(ev_rel hE hq).inv_str]
          simp only [Builtin.firstCells, Sem.run_pure, byteCells]
          congr 1
          apply Array.ext'
          have e1 : (s'.extract 0 (min s'.size n)).data.toList = s'.data.toList.take (min s'.size n) := by simp [ByteArray.data_extract]
          rw [Array.toList_map, e1, List.map_take]
          have e2 : s'.size = (s'.data.toList.map fun b => Value.int .u8 b.toNat).length := by simp
          rw [e2, Nat.min_comm, ← List.take_take, List.take_length]
      · simp at hcv
    · simp at hcv
  · simp at h

theorem evOp_facts (hX : CallsOk X.P X.call) (h : evOp X o env H K = some r) : ∃ v H', K v H' = some r ∧ OpF X o env H v H' := by
  have c0 : ∀ {op : Op}, o.op = op → clsOf X.P op = 0 → clsOf X.P o.op = 0 := fun e h => by rw [e]; exact h
  have c1 : ∀ {op : Op}, o.op = op → clsOf X.P op = 1 → clsOf X.P o.op = 1 := fun e h => by rw [e]; exact h
  have c2 : ∀ {op : Op}, o.op = op → clsOf X.P op = 2 → clsOf X.P o.op = 2 := fun e h => by rw [e]; exact h
  have c3 : ∀ {op : Op}, o.op = op → clsOf X.P op = 3 → clsOf X.P o.op = 3 := fun e h => by rw [e]; exact h
  unfold evOp at h
  split at h
  · rename_i x hop
    replace h := obind_some h; obtain ⟨v, hv, h⟩ := h
    exact ⟨v, H, h, opF_pure (c0 hop rfl) (pure_move hop hv)⟩
  · rename_i x hop
    replace h := obind_some h; obtain ⟨v, hv, h⟩ := h
    exact ⟨v, H, h, opF_pure (c0 hop rfl) (pure_assign hop hv)⟩
  · rename_i c a b hop
    replace h := obind_some h; obtain ⟨v, hv, h⟩ := h
    replace h := vBool_some h; obtain ⟨t, rfl, h⟩ := h
    rcases oif_some h with ⟨rfl, h⟩ | ⟨rfl, h⟩
    · replace h := obind_some h; obtain ⟨u, hu, h⟩ := h
      exact ⟨u, H, h, opF_pure (c0 hop rfl) (pure_pick hop hv (by simpa using hu))⟩
    · replace h := obind_some h; obtain ⟨u, hu, h⟩ := h
      exact ⟨u, H, h, opF_pure (c0 hop rfl) (pure_pick hop hv (by simpa using hu))⟩
  · rename_i t hop
    replace h := obind_some h; obtain ⟨z, hz, h⟩ := h
    split at h
    · rename_i hl
      exact ⟨_, _, h, opF_alloc (c2 hop rfl) (alloc_alloc hop hz hl)⟩
    · simp at h
  · rename_i t x hop
    replace h := obind_some h; obtain ⟨v, hv, h⟩ := h
    split at h
    · rename_i hl
      exact ⟨_, _, h, opF_alloc (c2 hop rfl) (alloc_box hop hv hl)⟩
    · simp at h
  · rename_i t parts hop
    replace h := obind_some h; obtain ⟨ps, hp, h⟩ := h
    replace h := obind_some h; obtain ⟨cs, hc, h⟩ := h
    exact ⟨_, _, h, opF_pure (c0 hop rfl) (pure_build hop hp hc)⟩
  · rename_i t len parts hop
    replace h := obind_some h; obtain ⟨ps, hp, h⟩ := h
    replace h := obind_some h; obtain ⟨⟨e, size, bytes, z⟩, he, h⟩ := h
    simp only at h
    split at h
    · rename_i h1
      replace h := obind_some h; obtain ⟨cs, hc, h⟩ := h
      split at h
      · rename_i g1 g2
        exact ⟨_, _, h, opF_alloc (c2 hop rfl) (alloc_buildSlice hop hp he h1 hc g1 (Nat.eq_of_beq_eq_true g2))⟩
      · simp at h
    · simp at h
  · rename_i t x hop
    split at h
    · rename_i v hg
      exact ⟨v, H, h, opF_read (c1 hop rfl) (read_global hop hg)⟩
    replace h := obind_some h; obtain ⟨v, hv, h⟩ := h
    replace h := ptrS_some h; obtain ⟨p, rfl, h⟩ := h
    replace h := obind_some h; obtain ⟨i, hi, h⟩ := h
    split at h
    · rename_i fs hu
      replace h := obind_some h; obtain ⟨l, hl, h⟩ := h
      split at h
      · exact ⟨_, _, viewA_eq h, opF_read (c1 hop rfl) (read_load_agg hop hv hi hu (.inl ⟨_, rfl⟩) hl)⟩
      · simp at h
    · rename_i n e hu
      replace h := obind_some h; obtain ⟨l, hl, h⟩ := h
      split at h
      · exact ⟨_, _, viewA_eq h, opF_read (c1 hop rfl) (read_load_agg hop hv hi hu (.inr ⟨_, _, rfl⟩) hl)⟩
      · simp at h
    · rename_i d n1 n2 hu
      replace h := obind_some h; obtain ⟨u, hl, h⟩ := h
      split at h
      · exact ⟨_, _, viewL_eq h, opF_read (c1 hop rfl) (read_load hop hv hi hu ⟨fun fs e => n1 fs (by rw [← e]), fun n e' e => n2 n e' (by rw [← e])⟩ hl)⟩
      · simp at h
    · simp at h
  · rename_i t x y hop
    replace h := obind_some h; obtain ⟨v, hv, h⟩ := h
    replace h := obind_some h; obtain ⟨u, hu, h⟩ := h
    replace h := ptrS_some h; obtain ⟨p, rfl, h⟩ := h
    replace h := obind_some h; obtain ⟨i, hi, h⟩ := h
    split at h
    · rename_i hs
      replace h := obind_some h; obtain ⟨H', hh, h⟩ := h
      exact ⟨_, _, h, opF_eff (c3 hop rfl) (eff_store hop hv hu hi hs hh)⟩
    · simp at h
  · rename_i x hop
    replace h := obind_some h; obtain ⟨v, hv, h⟩ := h
    split at h
    · exact ⟨_, _, h, opF_pure (c0 hop rfl) (pure_nilCheck_func hop hv)⟩
    · replace h := ptrS_some h; obtain ⟨p, rfl, h⟩ := h
      exact ⟨_, _, h, opF_pure (c0 hop rfl) (pure_nilCheck_ptr hop hv)⟩
  · rename_i op t x y t' hop
    replace h := obind_some h; obtain ⟨v, hv, h⟩ := h
    replace h := obind_some h; obtain ⟨u, hu, h⟩ := h
    obtain ⟨z, h1, h2⟩ := binA_pure hop hv hu h
    exact ⟨_, _, h1, opF_pure (c0 hop rfl) h2⟩
  · rename_i op t x hop
    replace h := obind_some h; obtain ⟨v, hv, h⟩ := h
    obtain ⟨z, h1, h2⟩ := unA_nat h
    exact ⟨_, _, h2, opF_pure (c0 hop rfl) (pure_unOp hop hv h1)⟩
  · rename_i src dst x hop
    replace h := obind_some h; obtain ⟨v, hv, h⟩ := h
    unfold convA at h
    split at h
    · rename_i k0 k k' n h1 h2
      exact ⟨_, _, h, opF_pure (c0 hop (by simp [clsOf, h1, h2])) (pure_convInt hop hv h1 h2)⟩
    · rename_i s h1 h2
      exact ⟨_, _, h, opF_pure (c0 hop (by simp [clsOf, h1, h2])) (pure_convStr hop hv h1 h2)⟩
    · rename_i e a n c h1 h2
      split at h
      · rename_i h3
        replace h := obind_some h; obtain ⟨l, hl, h⟩ := h
        replace h := obind_some h; obtain ⟨bs, hb, h⟩ := h
        exact ⟨_, _, h, opF_read (c1 hop (by simp [clsOf, h1])) (read_convBytes hop hv h1 h2 h3 hl hb)⟩
      · simp at h
    · rename_i e s h1 h2
      split at h
      · rename_i h3
        exact ⟨_, _, h, opF_alloc (c2 hop (by simp [clsOf, h1, h2])) (alloc_convStr hop hv h1 h2 h3)⟩
      · simp at h
    · simp at h
  · rename_i f first cap hop
    replace h := obind_some h; obtain ⟨fs, hf, h⟩ := h
    replace h := obind_some h; obtain ⟨cs, hc, h⟩ := h
    exact ⟨_, _, h, opF_pure (c0 hop rfl) (pure_makeFunc hop hf hc)⟩
  · rename_i t l c hop
    replace h := obind_some h; obtain ⟨v, hv, h⟩ := h
    replace h := obind_some h; obtain ⟨u, hu, h⟩ := h
    replace h := asNat_some h; obtain ⟨n, rfl, h⟩ := h
    replace h := asNat_some h; obtain ⟨m, rfl, h⟩ := h
    replace h := obind_some h; obtain ⟨⟨e, size, bytes, z⟩, he, h⟩ := h
    simp only at h
    rcases oif_some h with ⟨hc, h⟩ | ⟨_, h⟩
    · simp only [Bool.and_eq_true] at hc
      exact ⟨_, _, h, opF_alloc (c2 hop rfl) (alloc_makeSlice hop hv hu he (Nat.le_of_ble_eq_true hc.1) (Nat.le_of_ble_eq_true hc.2))⟩
    · simp at h
  · rename_i t x lo hi hop
    replace h := obind_some h; obtain ⟨v, hv, h⟩ := h
    split at h
    · rename_i p n c
      split at h
      · rename_i e hu
        replace h := obind_some h; obtain ⟨i, hi', h⟩ := h
        replace h := boundOr_some h; obtain ⟨hb, h, hhi⟩ := h
        replace h := boundOr_some h; obtain ⟨lb, h, hlo⟩ := h
        replace h := obind_some h; obtain ⟨u, hsv, h⟩ := h
        replace h := vSl_some h; obtain ⟨a', n', c', hu', h⟩ := h
        rw [← hu'] at h
        refine ⟨_, _, h, opF_pure (c0 hop rfl) ?_⟩
        unfold sliceV at hsv
        split at hsv
        · rcases oif_some hsv with ⟨hc, hsv'⟩ | ⟨_, hsv'⟩
          · clear hsv
            simp only [Bool.and_eq_true] at hc
            obtain ⟨⟨⟨q1, q2⟩, q3⟩, q4⟩ := hc
            have q3 := Nat.eq_of_beq_eq_true q3
            have q4 := Nat.eq_of_beq_eq_true q4
            subst q3; subst q4
            simp only [Option.some.injEq] at hsv'; rw [← hsv']
            exact pure_sliceNil hop hv hu hi' hhi hlo (Nat.le_of_ble_eq_true q1) (Nat.le_of_ble_eq_true q2)
          · simp at hsv'
        · rcases oif_some hsv with ⟨hc, hsv'⟩ | ⟨_, hsv'⟩
          · clear hsv
            simp only [Bool.and_eq_true] at hc
            obtain ⟨⟨q1, q2⟩, q3⟩ := hc
            have q3 := Nat.eq_of_beq_eq_true q3
            simp only [Option.some.injEq] at hsv'; rw [← hsv']
            exact pure_slice hop hv hu hi' hhi hlo (Nat.le_of_ble_eq_true q1) (Nat.le_of_ble_eq_true q2) q3
          · simp at hsv'
      · simp at h
    · rename_i s
      split at h
      · rename_i hu
        replace h := boundOr_some h; obtain ⟨hb, h, hhi⟩ := h
        replace h := boundOr_some h; obtain ⟨lb, h, hlo⟩ := h
        rcases oif_some h with ⟨hc, h⟩ | ⟨_, h⟩
        · simp only [Bool.and_eq_true] at hc
          exact ⟨_, _, h, opF_pure (c0 hop rfl) (pure_sliceStr hop hv hu hhi hlo (Nat.le_of_ble_eq_true hc.1) (Nat.le_of_ble_eq_true hc.2))⟩
        · simp at h
      · simp at h
    · simp at h
  · rename_i s x f hop
    replace h := obind_some h; obtain ⟨v, hv, h⟩ := h
    replace h := ptrS_some h; obtain ⟨p, rfl, h⟩ := h
    split at h
    · rename_i fs hu
      replace h := obind_some h; obtain ⟨fd, hf, h⟩ := h
      replace h := obind_some h; obtain ⟨i, hi, h⟩ := h
      split at h
      · rename_i hz
        exact ⟨_, _, h, opF_pure (c0 hop rfl) (pure_fieldAddr hop hv hu hf hi hz)⟩
      · simp at h
    · simp at h
  · rename_i t x f hop
    replace h := obind_some h; obtain ⟨v, hv, h⟩ := h
    split at h
    · rename_i cs
      split at h
      · rename_i fs hu
        replace h := obind_some h; obtain ⟨fd, hf, h⟩ := h
        replace h := obind_some h; obtain ⟨u, hp, h⟩ := h
        exact ⟨_, _, h, opF_pure (c0 hop rfl) (pure_field hop hv hu hf hp)⟩
      · simp at h
    · simp at h
  · rename_i t x ix hop
    replace h := obind_some h; obtain ⟨v, hv, h⟩ := h
    replace h := obind_some h; obtain ⟨j, hj, h⟩ := h
    split at h
    · rename_i e hu
      replace h := slS_some h; obtain ⟨p, n, c, rfl, h⟩ := h
      replace h := obind_some h; obtain ⟨i, hi, h⟩ := h
      replace h := asIx_some h; obtain ⟨kd, k, rfl, h⟩ := h
      rcases oif_some h with ⟨hk, h⟩ | ⟨_, h⟩
      · have hk : k + 1 ≤ n := by simpa [Nat.blt] using hk
        exact ⟨_, _, h, opF_pure (c0 hop rfl) (pure_indexAddr hop hv hj hu hi hk)⟩
      · simp at h
    · rename_i n e hu
      replace h := ptrS_some h; obtain ⟨p, rfl, h⟩ := h
      replace h := obind_some h; obtain ⟨i, hi, h⟩ := h
      replace h := asIx_some h; obtain ⟨kd, k, rfl, h⟩ := h
      rcases oif_some h with ⟨hk, h⟩ | ⟨_, h⟩
      · have hk : k + 1 ≤ n := by simpa [Nat.blt] using hk
        exact ⟨_, _, h, opF_pure (c0 hop rfl) (pure_indexArr hop hv hj hu hi hk)⟩
      · simp at h
    · simp at h
  · rename_i t x ix hop
    replace h := obind_some h; obtain ⟨v, hv, h⟩ := h
    replace h := obind_some h; obtain ⟨j, hj, h⟩ := h
    split at h
    · rename_i s
      split at h
      · rename_i hu
        replace h := asIx_some h; obtain ⟨kd, k, rfl, h⟩ := h
        replace h := obind_some h; obtain ⟨b, hb, h⟩ := h
        exact ⟨_, _, h, opF_pure (c0 hop rfl) (pure_index hop hv hj hu hb)⟩
      · simp at h
    · rename_i cs
      split at h
      · rename_i n e hu
        replace h := obind_some h; obtain ⟨i, hi, h⟩ := h
        replace h := asIx_some h; obtain ⟨kd, k, rfl, h⟩ := h
        rcases oif_some h with ⟨hk, h⟩ | ⟨_, h⟩
        · have hk : k + 1 ≤ n := by simpa [Nat.blt] using hk
          replace h := obind_some h; obtain ⟨u, hp, h⟩ := h
          exact ⟨_, _, h, opF_pure (c0 hop rfl) (pure_indexAgg hop hv hj hu hi hk hp)⟩
        · simp at h
      · simp at h
    · simp at h
  · rename_i x i hop
    replace h := obind_some h; obtain ⟨v, hv, h⟩ := h
    split at h
    · rename_i vs
      replace h := obind_some h; obtain ⟨u, hu, h⟩ := h
      exact ⟨_, _, h, opF_pure (c0 hop rfl) (pure_extract hop hv hu)⟩
    · simp at h
  · rename_i c hop
    split at h
    · rename_i b hb
      replace h := obind_some h; obtain ⟨vs, hv, h⟩ := h
      exact facts_builtin hop hb hv h
    · rename_i f hf
      replace h := obind_some h; obtain ⟨g, hg, h⟩ := h
      replace h := obind_some h; obtain ⟨vs, hv, h⟩ := h
      have hcls : clsOf X.P o.op = 3 := by
        rw [hop]
        obtain ⟨callee, args, ts⟩ := c
        simp only at hf
        subst hf
        rfl
      split at h
      · rename_i n first cap
        replace h := obind_some h; obtain ⟨⟨rv, rh⟩, hr, h⟩ := h
        have hk : K rv rh = some r := by
          simp only at h
          split at h
          · exact viewT_eq h
          · exact h
        exact ⟨_, _, hk, opF_eff hcls (eff_call hop hf hg hv (hX _ _ _ _ _ _ hr))⟩
      · simp at h
    · simp at h
  · simp at h

end

end Go.Ev
