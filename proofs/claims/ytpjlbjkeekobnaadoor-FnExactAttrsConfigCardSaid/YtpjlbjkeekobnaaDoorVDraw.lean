/-
  Drawn regions: what is read stays the same.
  Conditions: the state is a good one; callees agree.
-/
import Derived.Test.YtpjlbjkeekobnaaDoorVReg
set_option linter.all false
namespace Go.Pv
open Go.Ev

theorem sameLs_refl : ∀ {l : List Value}, (∀ v ∈ l, sameLeaf v v = true) → sameLs l l = true
  | [], _ => rfl
  | v :: l, h => by
    simp only [sameLs, Bool.and_eq_true]
    exact ⟨h v (by simp), sameLs_refl (fun w hw => h w (List.mem_cons_of_mem _ hw))⟩

theorem sameRd_agg {l : List Value} (h : ∀ v ∈ l, sameLeaf v v = true) : sameRd (some (.agg l.toArray)) (some (.agg l.toArray)) = true := by
  simp [sameRd, sameLs_refl h]

theorem sameRd_leaf {v : Value} (h : sameLeaf v v = true) : sameRd (some v) (some v) = true := by
  unfold sameRd
  split
  · rfl
  · rename_i xs ys e1 e2
    injection e1 with e1; subst e1; simp [sameLeaf] at h
  · rename_i e1 e2; injection e1 with e1; injection e2 with e2; subst e1 e2; exact h
  · rename_i h1 h2; exact absurd rfl (h2 v v rfl)

theorem ob1 {α β : Type} (a : α) (f : α → Option β) : obind (some a) f = f a := rfl

/-- A load that reads the same block gives the same. -/
theorem rd_load {P : Program} {t : TypeId} {a : Operand} {e : Env} {H G : Heap} {z off : Nat} {k : Blk} (hv : ev e a = some (.pointer (some ⟨z, off, none⟩))) (hk : hget H z = some k) (hg : hget G z = some k)
    (hp : ∀ i, P.info? t = some i → ∀ j, j < max i.size 1 → ∀ v, k.cells[off + j]? = some v → sameLeaf v v = true) : sameRd (rdOp P (.load t a) e G) (rdOp P (.load t a) e H) = true := by
  have hN : ∀ n, hloadN G ⟨z, off, none⟩ n = hloadN H ⟨z, off, none⟩ n := fun n => by unfold hloadN; simp only [hk, hg]
  have hL : hload G ⟨z, off, none⟩ = hload H ⟨z, off, none⟩ := by unfold hload; simp only [hk, hg]
  simp only [rdOp, gRead_ev hv, hv, ob1, ptrS, hN, hL]
  cases hi : P.info? t with
  | none => rfl
  | some i =>
    simp only [ob1]
    have agg : sameRd (obind (hloadN H ⟨z, off, none⟩ i.size) fun l => some (.agg l.toArray)) (obind (hloadN H ⟨z, off, none⟩ i.size) fun l => some (.agg l.toArray)) = true := by
      cases hl : hloadN H ⟨z, off, none⟩ i.size with
      | none => rfl
      | some l =>
        refine sameRd_agg (fun v hv => ?_)
        unfold hloadN at hl; simp only [hk, obind] at hl
        split at hl
        · simp at hl; subst hl
          obtain ⟨j, hj, ej⟩ := List.getElem_of_mem hv
          have hjn : j < i.size := by simp at hj; omega
          refine hp i hi j (by omega) v ?_
          have : ((k.cells.drop off).take i.size)[j]? = some v := by rw [List.getElem?_eq_getElem hj, ej]
          rw [List.getElem?_take_of_lt hjn, List.getElem?_drop] at this; exact this
        · simp at hl
    have leaf : sameRd (hload H ⟨z, off, none⟩) (hload H ⟨z, off, none⟩) = true := by
      cases hl : hload H ⟨z, off, none⟩ with
      | none => rfl
      | some v =>
        refine sameRd_leaf (hp i hi 0 (by omega) v ?_)
        unfold hload at hl; simp only [hk, obind] at hl; simpa using hl
    cases P.underlying t with
    | none => rfl
    | some d => cases d <;> first | exact agg | exact leaf

theorem rd_conv {P : Program} {s1 s2 : TypeId} {a : Operand} {e : Env} {H G : Heap} {v : Value} {l : List Value} (hv : ev e a = some v) (hH : sliceCells H 1 v = some l) (hG : sliceCells G 1 v = some l) (hp : ∀ w ∈ l, sameLeaf w w = true) : sameRd (rdOp P (.convert s1 s2 a) e G) (rdOp P (.convert s1 s2 a) e H) = true := by
  simp only [rdOp, hv, obind, hH, hG]
  exact sameRd_agg hp

theorem rd_none {P : Program} {o : Op} {e : Env} {H G : Heap} (h1 : rdOp P o e H = none) (h2 : rdOp P o e G = none) : sameRd (rdOp P o e G) (rdOp P o e H) = true := by rw [h1, h2]; rfl

/-- The states of a region: the two are in order. -/
def Near (s t : S) : Prop := Keep s t ∨ Keep t s

theorem Near.same {s t : S} (h : Near s t) {b : Nat} (hv : sameVer s.L t.L b = true) {m : MB} (hm : s.μ b = some m) : ∃ B, lget s.L b = some B ∧ lget t.L b = some B ∧ hget t.H m.z = hget s.H m.z := by
  unfold sameVer at hv
  split at hv
  · rename_i x y hx hy
    have hv := Nat.eq_of_beq_eq_true hv
    rcases h with h | h
    · obtain ⟨B, b1, b2, b3⟩ := h.live b y (lget_lt hx) hy
      rw [hx] at b1; injection b1 with b1; subst b1
      obtain ⟨c1, c2, _⟩ := b3 hv
      subst c1
      exact ⟨y, hx, hy, c2 m hm⟩
    · obtain ⟨B, b1, b2, b3⟩ := h.live b x (lget_lt hy) hx
      rw [hy] at b1; injection b1 with b1; subst b1
      obtain ⟨c1, c2, _⟩ := b3 hv.symm
      subst c1
      refine ⟨x, hx, hy, (c2 m ?_).symm⟩
      rw [← h.mu b (lget_lt hy)]; exact hm
  · simp at hv

theorem rd_same {P : Program} {s0 si sm : S} {c0 : Nat} (hs : StR si) (k0i : Keep s0 si) (k0m : Keep s0 sm) (hc : c0 ≤ s0.L.clk) (hold : ∀ z, s0.Old c0 z → z < s0.H.length ∧ ¬ Own s0 z) (hn : Near si sm) {env : PEnv} {e : Env} (he : EnvR si env e)
    {o : Op} (h : rdSame P c0 o env si.L sm.L = true) : sameRd (rdOp P o e sm.H) (rdOp P o e si.H) = true := by
  have fz : ∀ {st z : Nat} {k : Blk}, si.NN st z → st < c0 → hget si.H z = some k → hget sm.H z = some k := by
    intro st z k hnn hst hk
    have h1 := hnn.2 c0 hst (Nat.le_trans hc k0i.ck.1)
    rw [k0i.ck.2.1 c0 hc] at h1
    obtain ⟨h2, h3⟩ := hold z h1
    rw [k0m.fr z h2 h3, ← k0i.fr z h2 h3]; exact hk
  unfold rdSame at h
  split at h
  · rename_i t a
    cases hg : gRead P t a with
    | some v =>
      obtain ⟨g, l, i, n, e', _, _, _, _, _, h2, rfl⟩ := gRead_some hg
      simp only [rdOp, hg]
      refine sameRd_agg fun v hv => ?_
      have := List.all_eq_true.1 h2 v hv
      unfold leafOk at this
      split at this <;> simp_all [sameLeaf]
    | none =>
    rw [hg] at h
    simp only at h
    cases hp : pev env a with
    | none =>
      rw [hp] at h
      have hev : ev e a = none := by
        cases a with
        | tmp q => have := he q; rw [show pget env q = none from hp] at this; exact this
        | _ => simp [isTmp] at h
      exact rd_none (by simp [rdOp, hg, hev, obind]) (by simp [rdOp, hg, hev, obind])
    | some p =>
      rw [hp] at h
      obtain ⟨v, e1, r1⟩ := pev_rel he hp
      cases p with
      | rp st u x =>
        simp only [Bool.and_eq_true] at h
        obtain ⟨z, oo, k, rfl, hnn, hk, hle, hrep⟩ := r1
        refine rd_load e1 hk (fz hnn (blt_lt h.1) hk) (fun i hi j hj w hw => ?_)
        have h2 := h.2
        rw [hi] at h2
        have hsz := Nat.eq_of_beq_eq_true h2
        have hpos := Ty.size_pos u
        refine Rep.plain u hrep w (List.mem_iff_getElem?.2 ⟨j, ?_⟩)
        rw [List.getElem?_take_of_lt (by omega), List.getElem?_drop]; exact hw
      | ep b j fo =>
        obtain ⟨hlb, m, hm, rfl⟩ := r1
        obtain ⟨B, b1, b2, b3⟩ := hn.same h hm
        have hB := hs.blk b B b1
        obtain ⟨ver, rw', bo⟩ := B
        cases bo with
        | cells cs =>
          unfold BR at hB; simp only at hB
          obtain ⟨_, m', k, hm', hsh, hk, hcs, _⟩ := hB
          rw [hm] at hm'; injection hm' with hm'; subst hm'
          refine rd_load e1 hk (by rw [b3]; exact hk) (fun i hi j' hj w hw => ?_)
          have : ∀ {cs : List PV} {vs : List Value}, LRs si cs vs → ∀ v ∈ vs, sameLeaf v v = true := by
            intro cs; induction cs with
            | nil => intro vs h v hv; cases vs <;> simp_all [LRs, All2]
            | cons p cs ih => intro vs h v hv; match vs, h with
              | w :: vs, h => rcases List.mem_cons.1 hv with rfl | hv; exact h.1.plain; exact ih h.2 v hv
          exact this hcs w (List.mem_of_getElem? hw)
        | arr t' xs =>
          obtain ⟨a1, a2, k, a3, a4, a5, _⟩ := arr_info hs b1 hm
          refine rd_load e1 a3 (by rw [b3]; exact a3) (fun i hi j' hj w hw => ?_)
          refine (arr_fit hs b1 hm a3).2 w (List.mem_iff_getElem?.2 ⟨j * m.es + fo + j', ?_⟩)
          rw [List.getElem?_drop, show m.sh + (j * m.es + fo + j') = m.sh + j * m.es + fo + j' by omega]; exact hw
        | rows t' xs ho =>
          obtain ⟨_, _, ⟨hm0, _⟩ | ⟨m', k, hm', a1, a2, a3, a4, _⟩⟩ := rows_info hs b1
          · rw [hm] at hm0; simp at hm0
          rw [hm] at hm'; injection hm' with hm'; subst hm'
          refine rd_load e1 a3 (by rw [b3]; exact a3) (fun i hi j' hj w hw => ?_)
          refine a4.2 w (List.mem_iff_getElem?.2 ⟨j * m.es + fo + j', ?_⟩)
          rw [List.getElem?_drop, show m.sh + (j * m.es + fo + j') = m.sh + j * m.es + fo + j' by omega]; exact hw
      | ptr b off =>
        obtain ⟨hlb, m, hm, hsh, rfl⟩ := r1
        obtain ⟨B, b1, b2, b3⟩ := hn.same h hm
        have hB := hs.blk b B b1
        obtain ⟨ver, rw', bo⟩ := B
        cases bo with
        | cells cs =>
          unfold BR at hB; simp only at hB
          obtain ⟨_, m', k, hm', _, hk, hcs, _⟩ := hB
          rw [hm] at hm'; injection hm' with hm'; subst hm'
          refine rd_load e1 hk (by rw [b3]; exact hk) (fun i hi j' hj w hw => ?_)
          have : ∀ {cs : List PV} {vs : List Value}, LRs si cs vs → ∀ v ∈ vs, sameLeaf v v = true := by
            intro cs; induction cs with
            | nil => intro vs h v hv; cases vs <;> simp_all [LRs, All2]
            | cons p cs ih => intro vs h v hv; match vs, h with
              | w :: vs, h => rcases List.mem_cons.1 hv with rfl | hv; exact h.1.plain; exact ih h.2 v hv
          exact this hcs w (List.mem_of_getElem? hw)
        | arr t' xs =>
          obtain ⟨a1, a2, k, a3, a4, a5, _⟩ := arr_info hs b1 hm
          refine rd_load e1 a3 (by rw [b3]; exact a3) (fun i hi j' hj w hw => ?_)
          refine (arr_fit hs b1 hm a3).2 w (List.mem_iff_getElem?.2 ⟨off + j', ?_⟩)
          rw [List.getElem?_drop, hsh, Nat.zero_add]; exact hw
        | rows t' xs ho =>
          obtain ⟨_, _, ⟨hm0, _⟩ | ⟨m', k, hm', a1, a2, a3, a4, _⟩⟩ := rows_info hs b1
          · rw [hm] at hm0; simp at hm0
          rw [hm] at hm'; injection hm' with hm'; subst hm'
          refine rd_load e1 a3 (by rw [b3]; exact a3) (fun i hi j' hj w hw => ?_)
          refine a4.2 w (List.mem_iff_getElem?.2 ⟨off + j', ?_⟩)
          rw [List.getElem?_drop, hsh, Nat.zero_add]; exact hw
      | dp b off0 n0 u0 k0 =>
        obtain ⟨hlb, m, hm, hsh, rfl⟩ := r1
        generalize off0 + k0 * u0.size = off at *
        obtain ⟨B, b1, b2, b3⟩ := hn.same h hm
        have hB := hs.blk b B b1
        obtain ⟨ver, rw', bo⟩ := B
        cases bo with
        | cells cs =>
          unfold BR at hB; simp only at hB
          obtain ⟨_, m', k, hm', _, hk, hcs, _⟩ := hB
          rw [hm] at hm'; injection hm' with hm'; subst hm'
          refine rd_load e1 hk (by rw [b3]; exact hk) (fun i hi j' hj w hw => ?_)
          have : ∀ {cs : List PV} {vs : List Value}, LRs si cs vs → ∀ v ∈ vs, sameLeaf v v = true := by
            intro cs; induction cs with
            | nil => intro vs h v hv; cases vs <;> simp_all [LRs, All2]
            | cons p cs ih => intro vs h v hv; match vs, h with
              | w :: vs, h => rcases List.mem_cons.1 hv with rfl | hv; exact h.1.plain; exact ih h.2 v hv
          exact this hcs w (List.mem_of_getElem? hw)
        | arr t' xs =>
          obtain ⟨a1, a2, k, a3, a4, a5, _⟩ := arr_info hs b1 hm
          refine rd_load e1 a3 (by rw [b3]; exact a3) (fun i hi j' hj w hw => ?_)
          refine (arr_fit hs b1 hm a3).2 w (List.mem_iff_getElem?.2 ⟨off + j', ?_⟩)
          rw [List.getElem?_drop, hsh, Nat.zero_add]; exact hw
        | rows t' xs ho =>
          obtain ⟨_, _, ⟨hm0, _⟩ | ⟨m', k, hm', a1, a2, a3, a4, _⟩⟩ := rows_info hs b1
          · rw [hm] at hm0; simp at hm0
          rw [hm] at hm'; injection hm' with hm'; subst hm'
          refine rd_load e1 a3 (by rw [b3]; exact a3) (fun i hi j' hj w hw => ?_)
          refine a4.2 w (List.mem_iff_getElem?.2 ⟨off + j', ?_⟩)
          rw [List.getElem?_drop, hsh, Nat.zero_add]; exact hw
      | undef =>
        obtain rfl : v = undef := r1
        exact rd_none (by simp [rdOp, hg, e1, obind]; rfl) (by simp [rdOp, hg, e1, obind]; rfl)
      | _ => simp at h
  · rename_i t u a
    cases hp : pev env a with
    | none =>
      rw [hp] at h
      have hev : ev e a = none := by
        cases a with
        | tmp q => have := he q; rw [show pget env q = none from hp] at this; exact this
        | _ => simp [isTmp] at h
      exact rd_none (by simp [rdOp, hev, obind]) (by simp [rdOp, hev, obind])
    | some p =>
      rw [hp] at h
      obtain ⟨v, e1, r1⟩ := pev_rel he hp
      cases p with
      | nil => obtain rfl : v = _ := r1; exact rd_conv e1 rfl rfl (by simp)
      | undef =>
        obtain rfl : v = undef := r1
        exact rd_none (by simp [rdOp, e1, obind]; rfl) (by simp [rdOp, e1, obind]; rfl)
      | ro st ty x =>
        have r1 : Rep (si.NN st) si.H (.sl ty) x [v] := r1
        unfold Rep at r1
        rcases r1 with ⟨rfl, e2⟩ | ⟨rfl, z, oo, e2⟩ | ⟨z, oo, k, e2, hnn, hk, hle, hi⟩
        · simp at e2; subst e2; exact rd_conv e1 rfl rfl (by simp)
        · simp at e2; subst e2
          exact rd_conv (l := []) e1 (by simp [sliceCells, hload0]) (by simp [sliceCells, hload0]) (by simp)
        · simp at e2; subst e2
          have hk' := fz hnn (blt_lt h) hk
          have hpos := Ty.size_pos ty
          have hle2 : oo + x.length * 1 ≤ k.cells.length := by
            have := Nat.mul_le_mul_left x.length hpos
            simp at this ⊢; omega
          have hsc : ∀ G : Heap, hget G z = some k → sliceCells G 1 (.slice (some ⟨z, oo, none⟩) x.length ty.size) = some ((k.cells.drop oo).take (x.length * 1)) := by
            intro G hG
            simp only [sliceCells]
            cases hz : x.length * 1 with
            | zero => simp [hload0]
            | succ q =>
              simp only [hload0, hloadN, hG, obind]
              have : Nat.ble (oo + (q + 1)) k.cells.length = true := Nat.ble_eq_true_of_le (by omega)
              rw [this]
          refine rd_conv e1 (hsc _ hk) (hsc _ hk') (fun w hw => ?_)
          have hRL : RL (si.NN st) si.H ty x ((k.cells.drop oo).take (x.length * ty.size)) := by
            refine ⟨by simp; omega, fun i hi' => ?_⟩
            have hm := mul_lt (k := ty.size) hi'
            have e2 : seg ((k.cells.drop oo).take (x.length * ty.size)) (i * ty.size) ty.size = (k.cells.drop (oo + i * ty.size)).take ty.size := by
              unfold seg; rw [List.drop_take, List.take_take, Nat.min_eq_left (by omega), List.drop_drop]
            rw [e2]; exact hi i hi'
          refine hRL.plain w ?_
          have hle3 : x.length * 1 ≤ x.length * ty.size := Nat.mul_le_mul_left _ hpos
          have : (k.cells.drop oo).take (x.length * 1) = ((k.cells.drop oo).take (x.length * ty.size)).take (x.length * 1) := by
            rw [List.take_take, Nat.min_eq_left hle3]
          rw [this] at hw; exact List.mem_of_mem_take hw
      | osl b off n =>
        have r1 : LR0 si (.osl b off n) v := r1
        obtain ⟨hlb, r1⟩ := r1
        cases hm : si.μ b with
        | none =>
          rw [hm] at r1; obtain ⟨_, _, rfl⟩ := r1
          exact rd_conv e1 rfl rfl (by simp)
        | some m =>
          rw [hm] at r1; obtain ⟨g0, rfl⟩ := r1
          obtain ⟨B, b1, b2, b3⟩ := hn.same h hm
          obtain ⟨ver, rw', bo⟩ := B
          have hdone : ∀ k : Blk, hget si.H m.z = some k → (∀ w ∈ k.cells.drop m.sh, sameLeaf w w = true) → sameRd (rdOp P (.convert t u a) e sm.H) (rdOp P (.convert t u a) e si.H) = true := by
            intro k hk hpl
            have hk' : hget sm.H m.z = some k := by rw [b3]; exact hk
            have heq : sliceCells sm.H 1 (.slice (some ⟨m.z, m.sh + off * m.es, none⟩) (n.getD (m.n - off)) m.es) = sliceCells si.H 1 (.slice (some ⟨m.z, m.sh + off * m.es, none⟩) (n.getD (m.n - off)) m.es) := by
              simp only [sliceCells, hload0]
              split
              · rfl
              · simp only [hloadN, hk, hk']
            cases hl : sliceCells si.H 1 (.slice (some ⟨m.z, m.sh + off * m.es, none⟩) (n.getD (m.n - off)) m.es) with
            | none => exact rd_none (by simp [rdOp, e1, obind, hl]) (by simp [rdOp, e1, obind, heq, hl])
            | some l =>
              refine rd_conv e1 hl (by rw [heq]; exact hl) (fun w hw => ?_)
              simp only [sliceCells, hload0] at hl
              split at hl
              · simp at hl; subst hl; simp at hw
              · simp only [hloadN, hk, obind] at hl
                split at hl
                · simp at hl; subst hl
                  have := List.mem_of_mem_take hw
                  rw [← List.drop_drop] at this
                  exact hpl w (List.mem_of_mem_drop this)
                · simp at hl
          cases bo with
          | cells cs =>
            have hB := hs.blk b _ b1
            unfold BR at hB; simp only at hB
            obtain ⟨_, m', k, hm', hsh, hk, hcs, _⟩ := hB
            rw [hm] at hm'; injection hm' with hm'; subst hm'
            refine hdone k hk (fun w hw => ?_)
            have : ∀ {cs : List PV} {vs : List Value}, LRs si cs vs → ∀ v ∈ vs, sameLeaf v v = true := by
              intro cs; induction cs with
              | nil => intro vs h v hv; cases vs <;> simp_all [LRs, All2]
              | cons p cs ih => intro vs h v hv; match vs, h with
                | w :: vs, h => rcases List.mem_cons.1 hv with rfl | hv; exact h.1.plain; exact ih h.2 v hv
            exact this hcs w (List.mem_of_mem_drop hw)
          | arr t' xs =>
            obtain ⟨a1, a2, k, a3, a4, a5, _⟩ := arr_info hs b1 hm
            exact hdone k a3 (arr_fit hs b1 hm a3).2
          | rows t' xs ho =>
            obtain ⟨_, _, ⟨hm0, _⟩ | ⟨m', k, hm', a1, a2, a3, a4, _⟩⟩ := rows_info hs b1
            · rw [hm] at hm0; simp at hm0
            rw [hm] at hm'; injection hm' with hm'; subst hm'
            exact hdone k a3 a4.2
      | _ => simp at h
  · simp at h

theorem TrR.get : ∀ {ss : List S} {tr : List (PEnv × LS)} {te : List (Env × Heap)}, TrR ss tr te → ∀ (i : Nat) q, tr[i]? = some q → ∃ s e, ss[i]? = some s ∧ te[i]? = some e ∧ s.L = q.2 ∧ s.H = e.2 ∧ StR s ∧ EnvR s q.1 e.1
  | s :: ss, (env, L) :: tr, (e, H) :: te, h, 0, q, hq => by
    simp at hq; subst hq
    obtain ⟨h1, h2, h3, h4, _⟩ := h
    exact ⟨s, (e, H), rfl, rfl, h1, h2, h3, h4⟩
  | s :: ss, (env, L) :: tr, (e, H) :: te, h, i + 1, q, hq => by
    obtain ⟨_, _, _, _, _, h6⟩ := h
    simp only [List.getElem?_cons_succ] at hq ⊢
    exact TrR.get h6 i q hq
  | [], [], [], _, i, q, hq => by simp at hq

theorem TrR.len : ∀ {ss : List S} {tr : List (PEnv × LS)} {te : List (Env × Heap)}, TrR ss tr te → tr.length = te.length ∧ ss.length = te.length
  | [], [], [], _ => ⟨rfl, rfl⟩
  | _ :: _, (_, _) :: _, (_, _) :: _, h => by
    obtain ⟨_, _, _, _, _, h6⟩ := h
    have := TrR.len h6; simp; exact this

theorem TrR.near : ∀ {ss : List S} {tr : List (PEnv × LS)} {te : List (Env × Heap)}, TrR ss tr te → ∀ (i j : Nat) s t, ss[i]? = some s → ss[j]? = some t → Near s t
  | s :: ss, (env, L) :: tr, (e, H) :: te, h, 0, 0, x, y, hx, hy => by
    simp at hx hy; subst hx hy; exact .inl (Keep.refl _)
  | s :: ss, (env, L) :: tr, (e, H) :: te, h, 0, j + 1, x, y, hx, hy => by
    simp at hx; subst hx
    simp only [List.getElem?_cons_succ] at hy
    obtain ⟨_, _, _, _, h5, _⟩ := h
    exact .inr (h5 y (List.mem_of_getElem? hy))
  | s :: ss, (env, L) :: tr, (e, H) :: te, h, i + 1, 0, x, y, hx, hy => by
    simp at hy; subst hy
    simp only [List.getElem?_cons_succ] at hx
    obtain ⟨_, _, _, _, h5, _⟩ := h
    exact .inl (h5 x (List.mem_of_getElem? hx))
  | s :: ss, (env, L) :: tr, (e, H) :: te, h, i + 1, j + 1, x, y, hx, hy => by
    obtain ⟨_, _, _, _, _, h6⟩ := h
    simp only [List.getElem?_cons_succ] at hx hy
    exact TrR.near h6 i j x y hx hy
  | [], [], [], _, i, j, x, y, hx, _ => by simp at hx

theorem rev_get {α : Type} (l : List α) (i : Nat) (x : α) (h : l.reverse[i]? = some x) : l[l.length - 1 - i]? = some x ∧ i < l.length := by
  have hi : i < l.length := by
    have := (List.getElem?_eq_some_iff.1 h).1; simpa using this
  rw [List.getElem?_reverse hi] at h; exact ⟨h, hi⟩

section
variable {A : AnnV} {β γ : Type} {s : S} {env : PEnv} {e : Env} {X : CxV A β} {XE : Cx} {r : β} {Q : γ → Prop}

theorem stableAt_eq {P : Program} {ops : Array Oper} {c0 : Nat} {s0 : S} {ss : List S} {tr : List (PEnv × LS)} {te : List (Env × Heap)} (ht : TrR ss tr te) (h0 : ∀ t ∈ ss, Keep s0 t) (hc : c0 ≤ s0.L.clk) (hold : ∀ z, s0.Old c0 z → z < s0.H.length ∧ ¬ Own s0 z) {i : Nat} {o : Oper} {x : Option γ} :
    ∀ {ms : List Nat}, pstableAt c0 P ops tr.reverse i o ms = true → stableAt P ops te.reverse i o ms x = x
  | [], _ => rfl
  | m :: ms, h => by
    simp only [pstableAt, Bool.and_eq_true] at h
    obtain ⟨h1, h2⟩ := h
    simp only [stableAt]
    cases hq : quietBetween P ops m i || madeHere P ops i o m with
    | true => simp only; exact stableAt_eq ht h0 hc hold h2
    | false =>
      rw [hq] at h1
      simp only [Bool.false_or] at h1
      simp only
      have hlen := ht.len
      cases hi : tr.reverse[i]? with
      | none => rw [hi] at h1; simp at h1
      | some q =>
        cases hm : tr.reverse[m]? with
        | none => rw [hi, hm] at h1; simp at h1
        | some q' =>
          rw [hi, hm] at h1
          simp only at h1
          obtain ⟨g1, g2⟩ := rev_get _ _ _ hi
          obtain ⟨g3, g4⟩ := rev_get _ _ _ hm
          obtain ⟨si, ei, a1, a2, a3, a4, a5, a6⟩ := ht.get _ _ g1
          obtain ⟨sm, em, b1, b2, b3, b4, b5, b6⟩ := ht.get _ _ g3
          have e1 : te.reverse[i]? = some ei := by rw [List.getElem?_reverse (by omega), ← hlen.1]; exact a2
          have e2 : te.reverse[m]? = some em := by rw [List.getElem?_reverse (by omega), ← hlen.1]; exact b2
          rw [e1, e2]
          simp only
          rw [← a3, ← b3] at h1
          have := rd_same a5 (h0 si (List.mem_of_getElem? a1)) (h0 sm (List.mem_of_getElem? b1)) hc hold (ht.near _ _ _ _ a1 b1) a6 h1
          rw [← a4, ← b4, this]
          simp only [oif]
          exact stableAt_eq ht h0 hc hold h2

theorem stable_eq {P : Program} {ops : Array Oper} {c0 : Nat} {s0 : S} {ss : List S} {tr : List (PEnv × LS)} {te : List (Env × Heap)} (ht : TrR ss tr te) (h0 : ∀ t ∈ ss, Keep s0 t) (hc : c0 ≤ s0.L.clk) (hold : ∀ z, s0.Old c0 z → z < s0.H.length ∧ ¬ Own s0 z) {x : Option γ} :
    ∀ {l : List Nat}, pstable c0 P ops tr.reverse l = true → stable P ops te.reverse l x = x
  | [], _ => rfl
  | i :: l, h => by
    simp only [pstable, Bool.and_eq_true] at h
    obtain ⟨h1, h2⟩ := h
    simp only [stable]
    split
    · rename_i o hb ho
      rw [hb, ho] at h1
      simp only at h1
      rw [stableAt_eq ht h0 hc hold h1]
      exact stable_eq ht h0 hc hold h2
    · exact stable_eq ht h0 hc hold h2

/-- A drawn region begins. -/
theorem StR.tick (hs : StR s) : ∃ s0, s0.L = ⟨s.L.bl, s.L.clk + 1⟩ ∧ s0.H = s.H ∧ s0.μ = s.μ ∧ Keep s s0 ∧ StR s0 ∧ (∀ z, s0.Old (s.L.clk + 1) z → z < s0.H.length ∧ ¬ Own s0 z) := by
  let s0 : S := { s with L := ⟨s.L.bl, s.L.clk + 1⟩, Old := fun c z => if c = s.L.clk + 1 then (z < s.H.length ∧ ¬ Own s z) else s.Old c z }
  have hk : Keep s s0 := by
    refine ⟨rfl, ⟨Nat.le_succ _, fun c hc => ?_, fun c z h1 h2 h3 h4 => ?_⟩, rfl, Nat.le_refl _, fun _ _ => rfl, Nat.le_refl _, fun _ _ _ => rfl, fun z h => .inl h, fun b B' _ h => ⟨B', h, Nat.le_refl _, fun _ => ⟨rfl, fun _ _ => rfl, fun _ _ h => ⟨h, rfl⟩⟩⟩⟩
    · funext z; show (if c = s.L.clk + 1 then _ else _) = _
      rw [if_neg (by omega)]
    · show (if c = s.L.clk + 1 then _ else _)
      have h2' : c ≤ s.L.clk + 1 := h2
      rw [if_pos (by omega)]; exact ⟨h3, h4.1⟩
  refine ⟨s0, rfl, rfl, rfl, hk, ⟨fun b B hB => ?_, hs.inj, hs.ban, hs.limH, hs.lm, hs.lml, hs.kl, hs.ka⟩, fun z hz => ?_⟩
  · have hB' : lget s.L b = some B := hB
    exact (hs.blk b B hB').keep hk (lget_lt hB') (fun _ _ => rfl) (fun _ _ h => ⟨h, rfl⟩)
  · have hz' : (if s.L.clk + 1 = s.L.clk + 1 then (z < s.H.length ∧ ¬ Own s z) else s.Old (s.L.clk + 1) z) := hz
    rw [if_pos rfl] at hz'; exact hz'

theorem vdraw_sim {ops : Array Oper} {W : List Nat} {KV : PEnv → LS → Option β} {KE : Env → Heap → Option γ} (hX : XOk X XE) (hW : ∀ (j : Nat) (d : Nat), (ops[j]?).bind (fun (x : Oper) => x.dst) = some d → d ∈ W) (hl : ∀ o ∈ ops.toList, ∀ d, o.dst = some d → d ∈ W) (hlim : s.lim = XE.lim) (hs : StR s) (he : EnvR s env e) (hK : COk W env e s r KV KE Q) (h : vdraw X ops env s.L KV = some r) : ∃ y, evDraw XE ops e s.H KE = some y ∧ Q y := by
  unfold vdraw at h; unfold evDraw
  rw [hX.P] at h
  split at h
  · rename_i hd
    rw [hd]; simp only
    obtain ⟨s0, l0, g0, u0, k0, t0, hold⟩ := hs.tick
    rw [← l0] at h; rw [← g0]
    refine vopsT_sim hX hW env e s0 (ss := []) hl (k0.lim.trans hlim) t0 (k0.env he) (Unch.refl _ _ _) (show TrR [] [] [] from trivial) (by simp) (Keep.refl s0) (by simp) (fun env' e' s' ss' tr' te' k' t' he' hu' ht hall h => ?_) h
    split at h
    · rename_i hst
      have hc : s.L.clk + 1 ≤ s0.L.clk := by rw [l0]; exact Nat.le_refl _
      rw [stable_eq ht hall hc hold hst]
      exact hK env' e' s' (k0.trans k') t' he' hu' h
    · simp at h
  · simp at h

end
end Go.Pv
