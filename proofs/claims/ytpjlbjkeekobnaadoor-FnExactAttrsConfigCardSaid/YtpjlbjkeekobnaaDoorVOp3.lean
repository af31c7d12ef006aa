/-
  Operations that write: stores, new blocks, conversions, parts of slices, built-in functions.
  Conditions: the state is a good one.
-/
import Derived.Test.YtpjlbjkeekobnaaDoorVOp2
set_option linter.all false
namespace Go.Pv
open Go.Ev

section
variable {A : AnnV} {β γ : Type} {s : S} {env : PEnv} {e : Env} {X : CxV A β} {XE : Cx} {o : Oper} {KV : PV → LS → Option β} {KE : Value → Heap → Option γ} {r : β} {Q : γ → Prop}

theorem KOk.keep {s' : S} (hk : Keep s s') (hK : KOk s r KV KE Q) : KOk s' r KV KE Q := fun pv v t hk' => hK pv v t (hk.trans hk')

/-- A new block of cells. -/
theorem push_cells (hs : StR s) {cs : List PV} {vs : List Value} (hr : LRs s cs vs) : ∃ s', s'.L = lpush s.L (.cells cs) ∧ s'.H = hpush s.H vs ∧ Keep s s' ∧ StR s' ∧ LR0 s' (.ptr s.L.bl.length 0) (.pointer (some ⟨s.H.length, 0, none⟩)) := by
  obtain ⟨s', e1, e2, e3, hk, hs'⟩ := hs.push (.cells cs) vs ⟨s.H.length, 0, 0, 0⟩ rfl (fun s' hk hm hg hN => by
    unfold BR; simp only
    exact ⟨trivial, _, _, hm, rfl, hg, hk.LRs hr, rfl, by rw [hk.lim]; exact hs.limH⟩)
  exact ⟨s', e1, e2, hk, hs', by rw [e1, lpush_len]; omega, _, e3, rfl, rfl⟩

/-- A new array. -/
theorem push_arr (hs : StR s) {t : Ty} {xs : List t.T} {cells : List Value} (hr : RL s.N s.H t xs cells) : ∃ s', s'.L = lpush s.L (.arr t xs) ∧ s'.H = hpush s.H cells ∧ Keep s s' ∧ StR s' ∧ LR0 s' (.osl s.L.bl.length 0 none) (.slice (some ⟨s.H.length, 0, none⟩) xs.length t.size) := by
  obtain ⟨s', e1, e2, e3, hk, hs'⟩ := hs.push (.arr t xs) cells ⟨s.H.length, 0, t.size, xs.length⟩ rfl (fun s' hk hm hg hN => by
    unfold BR; simp only [hm]
    refine ⟨trivial, trivial, _, hg, ⟨by simp [hr.1], fun v hv => hr.plain v (by simpa using hv)⟩, fun i hi => ?_, fun _ => ⟨rfl, by rw [hk.lim]; exact hs.limH⟩, fun e => absurd e (by decide)⟩
    have := hk.repN (hr.2 i hi)
    unfold seg at this; rw [Nat.zero_add]; exact this)
  refine ⟨s', e1, e2, hk, hs', by rw [e1, lpush_len]; omega, ?_⟩
  rw [e3]; simp

/-- New rows, all nil. -/
theorem push_rows0 (hs : StR s) {t : Ty} (hf : t.flat = true) (n : Nat) : ∃ s', s'.L = lpush s.L (.rows t (List.replicate n []) none) ∧ s'.H = hpush s.H (List.replicate n (.slice none 0 0)) ∧ Keep s s' ∧ StR s' ∧ LR0 s' (.osl s.L.bl.length 0 none) (.slice (some ⟨s.H.length, 0, none⟩) n 1) := by
  obtain ⟨s', e1, e2, e3, hk, hs'⟩ := hs.push (.rows t (List.replicate n []) none) (List.replicate n (.slice none 0 0)) ⟨s.H.length, 0, 1, n⟩ rfl (fun s' hk hm hg hN => by
    unfold BR; simp only [hm]
    refine ⟨trivial, hf, trivial, by simp, _, hg, ⟨by simp, fun v hv => ?_⟩, rfl, by rw [hk.lim]; exact hs.limH, fun i hi _ => ?_⟩
    · have := List.mem_of_mem_drop hv
      rw [List.mem_replicate] at this; rw [this.2]; simp [sameLeaf]
    · simp at hi
      exact ⟨.slice none 0 0, by simp [hi], .inl ⟨by simp, rfl⟩⟩)
  refine ⟨s', e1, e2, hk, hs', by rw [e1, lpush_len]; omega, ?_⟩
  rw [e3]; simp

/-- A new array of rows, all nil. -/
theorem push_rowsA (hs : StR s) {t : Ty} (hf : t.flat = true) (n : Nat) : ∃ s', s'.L = lpush s.L (.rows t (List.replicate n []) none) ∧ s'.H = hpush s.H (List.replicate n (.slice none 0 0)) ∧ Keep s s' ∧ StR s' ∧ LR0 s' (.ptr s.L.bl.length 0) (.pointer (some ⟨s.H.length, 0, none⟩)) := by
  obtain ⟨s', e1, e2, e3, hk, hs'⟩ := hs.push (.rows t (List.replicate n []) none) (List.replicate n (.slice none 0 0)) ⟨s.H.length, 0, 1, n⟩ rfl (fun s' hk hm hg hN => by
    unfold BR; simp only [hm]
    refine ⟨trivial, hf, trivial, by simp, _, hg, ⟨by simp, fun v hv => ?_⟩, rfl, by rw [hk.lim]; exact hs.limH, fun i hi _ => ?_⟩
    · have := List.mem_of_mem_drop hv
      rw [List.mem_replicate] at this; rw [this.2]; simp [sameLeaf]
    · simp at hi
      exact ⟨.slice none 0 0, by simp [hi], .inl ⟨by simp, rfl⟩⟩)
  exact ⟨s', e1, e2, hk, hs', by rw [e1, lpush_len]; omega, _, e3, rfl, rfl⟩

theorem nilsN_eq : ∀ {n : Nat} {l : List Value}, nilsN n l = true → l = List.replicate n (.slice none 0 0)
  | 0, [], _ => rfl
  | 0, _ :: _, h => by simp [nilsN] at h
  | n + 1, [], h => by simp [nilsN] at h
  | n + 1, v :: r, h => by
    unfold nilsN at h
    split at h
    · simp_all
    · rename_i heq1 heq2
      injection heq1 with heq1
      injection heq2 with e1 e2
      subst e1 e2 heq1
      rw [List.replicate_succ, nilsN_eq h]
    · simp at h

theorem rowsTy_flat {P : Program} {t : TypeId} {n : Nat} {u : Ty} (h : rowsTy P t = some (n, u)) : u.flat = true := by
  unfold rowsTy at h
  split at h
  · split at h
    · split at h
      · rename_i hf
        simp only [Option.some.injEq, Prod.mk.injEq] at h
        obtain ⟨_, rfl⟩ := h; exact hf
      · simp at h
    · simp at h
  · simp at h

theorem zeroOk_sl {z : Value} {t : Ty} (h : zeroOk z (.sl t) = true) : z.cells.toList = [.slice none 0 0] := by
  unfold zeroOk at h
  split at h
  · rename_i l hl
    unfold goZ at h
    split at h
    · match hc : z.cells.toList, hl with
      | [], hl => simp [ofCs] at hl
      | [v], hl =>
        simp only [ofCs] at hl
        obtain ⟨x, h1, h2⟩ := ob hl
        simp only [obind] at h2
        simp at h2; subst h2
        unfold ofC1 at h1
        split at h1 <;> simp_all
      | v :: w :: r, hl =>
        simp only [ofCs] at hl
        obtain ⟨x, h1, h2⟩ := ob hl
        obtain ⟨y, h3, h4⟩ := ob h2
        obtain ⟨x', h5, h6⟩ := ob h3
        obtain ⟨y', h7, h8⟩ := ob h6
        simp at h4 h8; subst h8; simp at h4
    · simp at h
  · simp at h

/-- A row taken out of the store: what it leads to is owned by no block. -/
theorem takeO_row {s : S} (hs : StR s) {t : Ty} (hf : t.flat = true) {p : PV} {v : Value} (hr : LR0 s p v) {x : List t.T} {L' : LS} (h : takeO t p s.L = some (x, L')) :
    ∃ s', s'.L = L' ∧ s'.H = s.H ∧ s'.μ = s.μ ∧ Keep s s' ∧ StR s' ∧ RowC (fun z => s'.Lim z ∧ ¬ s.Lim z) s.H s.lim t x v ∧ (∀ z, s.Lim z → s'.Lim z) ∧ (∀ z, Own s' z ↔ Own s z) ∧ (∀ z, s'.Lim z → ¬ s.Lim z → ∃ k, hget s.H z = some k) := by
  unfold takeO at h
  split at h
  · simp at h; obtain ⟨rfl, rfl⟩ := h
    obtain rfl : v = _ := hr
    exact ⟨s, rfl, rfl, rfl, Keep.refl s, hs, .inl ⟨rfl, rfl⟩, fun _ h => h, fun _ => Iff.rfl, fun z h1 h2 => absurd h1 h2⟩
  · rename_i b off no
    split at h
    · rename_i ver w xs hb
      split at h
      · simp at h
      obtain ⟨y, h1, h⟩ := ob h
      simp at h; obtain ⟨rfl, rfl⟩ := h
      obtain ⟨e, hx⟩ := tcast_some h1
      injection e with e; subst e
      simp at hx; subst hx
      obtain ⟨s', e1, e2, e3, hk, hs', hl, ho⟩ := hs.kill hb rfl false
      refine ⟨s', e1, e2, e3, hk, hs', ?_, fun z hz => (hl z).2 (.inl hz), ho, fun z h1 h2 => (by
        rcases (hl z).1 h1 with h3 | ⟨m, hm, rfl⟩
        · exact absurd h3 h2
        · obtain ⟨_, _, k, g3, _⟩ := arr_info hs hb hm
          exact ⟨k, g3⟩)⟩
      have hr' : LR0 s (.osl b off no) v := hr
      obtain ⟨hlb, hr'⟩ := hr'
      cases hm : s.μ b with
      | none =>
        rw [hm] at hr'; obtain ⟨rfl, h5, rfl⟩ := hr'
        have hx := arr_nil hs hb hm
        subst hx
        exact .inl ⟨by cases no <;> simp [cut], rfl⟩
      | some m =>
        rw [hm] at hr'
        obtain ⟨g1, g2, k, g3, g4, g5, g6, g7⟩ := arr_info hs hb hm
        have hfit := arr_fit hs hb hm g3
        obtain ⟨a1, rfl⟩ := hr'
        have hlen : (cut xs off no).length = no.getD (m.n - off) := by
          cases no with
          | none => simp [cut, g2]
          | some l => simp [cut] at a1 ⊢; omega
        have hle : off + (cut xs off no).length ≤ xs.length := by rw [hlen]; omega
        have hget : ∀ i (hi : i < (cut xs off no).length), (cut xs off no)[i] = xs[off + i]'(by omega) := by
          intro i hi
          cases no with
          | none => simp [cut]
          | some l => simp [cut]
        have hmul : (off + (cut xs off no).length) * w.size ≤ xs.length * w.size := Nat.mul_le_mul_right _ hle
        rw [Nat.add_mul] at hmul
        refine .inr ⟨m.z, m.sh + off * w.size, k, by rw [hlen, g1], ⟨(hl _).2 (.inr ⟨m, hm, rfl⟩), hs.lm b _ m hb hm⟩, g3, (g6 rfl).1, (g6 rfl).2, hfit.sub (by omega), fun i hi => ?_⟩
        rw [hget i hi]
        have := g5 (off + i) (by omega)
        rw [Nat.add_mul, ← Nat.add_assoc] at this
        exact Rep.flat w hf this
    · rename_i ver w xs hb
      split at h
      · obtain ⟨y, h1, h⟩ := ob h
        have e := tcast_eq h1
        injection e with e; subst e
        simp [Ty.flat] at hf
      · simp at h
    · simp at h
  · rename_i b i ver w x'
    split at h
    · rename_i v' t' xs hb
      split at h
      · rename_i hv
        have hv := Nat.eq_of_beq_eq_true hv
        obtain ⟨y, h1, h⟩ := ob h
        simp at h; obtain ⟨rfl, rfl⟩ := h
        obtain ⟨e, hx⟩ := tcast_some h1
        injection e with e; subst e
        simp at hx; subst hx
        obtain ⟨_, _, hval⟩ : LR0 s (.rw b i ver w x') v := hr
        obtain ⟨r1, r2, _⟩ := (hval _ hb).2 hv
        rcases r2 with ⟨rfl, rfl⟩ | ⟨z, o, k, rfl, q1, q2, q3⟩
        · obtain ⟨s', e1, e2, e3, hk, hs', hl, ho⟩ := hs.detach (i := i) hb none (fun z h => by simp at h)
          exact ⟨s', e1, e2, e3, hk, hs', .inl ⟨rfl, rfl⟩, fun z hz => (hl z).2 (.inl hz), ho, fun z h1 h2 => (by
            rcases (hl z).1 h1 with h3 | h3
            · exact absurd h3 h2
            · simp at h3)⟩
        · obtain ⟨s', e1, e2, e3, hk, hs', hl, ho⟩ := hs.detach (i := i) hb (some z) (fun y h => by injection h with h; subst h; exact q1)
          exact ⟨s', e1, e2, e3, hk, hs', .inr ⟨z, o, k, rfl, ⟨(hl z).2 (.inr rfl), (hs.kl z _ q1).2.2.1⟩, q2, q3⟩, fun z hz => (hl z).2 (.inl hz), ho, fun y h1 h2 => (by
            rcases (hl y).1 h1 with h3 | h3
            · exact absurd h3 h2
            · injection h3 with h3; subst h3; exact ⟨k, q2⟩)⟩
      · simp at h
    · simp at h
  · simp at h

theorem sim_alloc {t : TypeId} (hP : X.P = XE.P) (ho : o.op = .alloc t) (hs : StR s) (he : EnvR s env e) (hK : KOk s r KV KE Q) (h : vop X o env s.L KV = some r) : ∃ y, evOp XE o e s.H KE = some y ∧ Q y := by
  simp only [vop, ho] at h; simp only [evOp, ho]
  replace h := ob h; obtain ⟨z, h1, h⟩ := h
  split at h
  · rename_i n u hown hty
    split at h
    · rename_i hz
      have hz := nilsN_eq hz
      obtain ⟨s', e1, e2, hk, hs', hr⟩ := push_rowsA hs (rowsTy_flat hty) n
      have hno : (List.replicate n (Value.slice none 0 0)).all leafOk = true := by
        rw [List.all_eq_true]; intro v hv; rw [List.mem_replicate] at hv; rw [hv.2]; rfl
      rw [← hP, h1]; simp only [obind]
      rw [hz]
      rw [← e1] at h
      rw [hno, ← e2]
      exact hK _ _ s' hk hs' (ER.of0 hr) h
    · simp at h
  replace h := ob h; obtain ⟨cs, h2, h⟩ := h
  obtain ⟨a1, a2⟩ := ofCs_rel (s := s) h2
  rw [← hP, h1]; simp only [obind, a2]
  obtain ⟨s', e1, e2, hk, hs', hr⟩ := push_cells hs a1
  rw [← e2]; rw [← e1] at h
  exact hK _ _ s' hk hs' (ER.of0 hr) h

theorem sim_box {t : TypeId} {x : Operand} (ho : o.op = .box t x) (hs : StR s) (he : EnvR s env e) (hK : KOk s r KV KE Q) (h : vop X o env s.L KV = some r) : ∃ y, evOp XE o e s.H KE = some y ∧ Q y := by
  simp only [vop, ho] at h; simp only [evOp, ho]
  replace h := ob h; obtain ⟨p, h1, h⟩ := h
  obtain ⟨v, ev1, r1⟩ := pev_rel he h1
  rw [ev1]; simp only [obind]
  split at h
  · rename_i hok
    have hc := r1.cells hok
    have : v.cells.toList.all isCell = true := List.all_eq_true.2 (fun x hx => LRs.cell hc x hx)
    rw [this]
    obtain ⟨s', e1, e2, hk, hs', hr⟩ := push_cells hs hc
    simp only
    rw [← e2]; rw [← e1] at h
    exact hK _ _ s' hk hs' (ER.of0 hr) h
  · simp at h

theorem sim_makeSlice {t : TypeId} {l c : Operand} (hP : X.P = XE.P) (ho : o.op = .makeSlice t l c) (hs : StR s) (he : EnvR s env e) (hK : KOk s r KV KE Q) (h : vop X o env s.L KV = some r) : ∃ y, evOp XE o e s.H KE = some y ∧ Q y := by
  simp only [vop, ho] at h; simp only [evOp, ho]
  replace h := ob h; obtain ⟨p, h1, h⟩ := h
  replace h := ob h; obtain ⟨q, h2, h⟩ := h
  obtain ⟨v, ev1, r1⟩ := pev_rel he h1
  obtain ⟨u, ev2, r2⟩ := pev_rel he h2
  rw [ev1, ev2]; simp only [obind]
  refine pNat_sim r1 h (fun n h => pNat_sim r2 h (fun m h => ?_))
  replace h := ob h; obtain ⟨⟨el, size, bytes, z⟩, h3, h⟩ := h
  replace h := ob h; obtain ⟨w, h4, h⟩ := h
  rw [← hP, h3]; simp only [obind]
  split at h
  · rename_i hz hsz
    have hsz := Nat.eq_of_beq_eq_true hsz
    unfold oif at h ⊢
    split at h
    · rename_i hc
      rw [hc]
      split at h
      · rename_i hown t'
        split at h
        · rename_i hfl
          obtain ⟨s', e1, e2, hk, hs', hr⟩ := push_rows0 hs hfl n
          simp only
          have hz2 := zeroOk_sl hz
          have hcells : (List.replicate n z.cells.toList).flatten = List.replicate n (.slice none 0 0) := by
            rw [hz2]; induction n with
            | zero => rfl
            | succ n ih => rw [List.replicate_succ, List.flatten_cons, List.replicate_succ]; simp at ih ⊢
          have hsz' : (1 : Nat) = size := hsz
          rw [hcells, ← e2]; rw [← e1] at h
          rw [← hsz']
          exact hK _ _ s' hk hs' (ER.of0 hr) h
        · simp at h
      · obtain ⟨s', e1, e2, hk, hs', hr⟩ := push_arr hs (RL.rep (N := s.N) (H := s.H) n (zeroOk_rep s hz))
        simp only
        rw [← e2]; rw [← e1] at h
        refine hK _ _ s' hk hs' (ER.of0 ?_) h
        rw [List.length_replicate, hsz] at hr; exact hr
    · simp at h
  · simp at h

theorem hstoreN_ok {H : Heap} {lim z o : Nat} {k : Blk} {vs : List Value} (hk : hget H z = some k) (hro : k.ro = false) (hc : ∀ v ∈ vs, isCell v = true) (hl : lim ≤ z) (hle : o + vs.length ≤ k.cells.length) :
    hstoreN H lim ⟨z, o, none⟩ vs = some (H.set z (some ⟨lay k.cells o vs, false⟩)) := by
  unfold hstoreN
  simp only [hk, obind]
  have h1 : vs.all isCell = true := List.all_eq_true.2 hc
  have h2 : Nat.ble lim z = true := Nat.ble_eq_true_of_le hl
  have h3 : Nat.ble (o + vs.length) k.cells.length = true := Nat.ble_eq_true_of_le hle
  obtain ⟨kc, kr⟩ := k
  simp only at hro; subst hro
  simp only at h3
  simp only [h1, h2, h3, Bool.or_true]
  rfl

/-- A block of cells gets other ones. -/
theorem set_cells (hs : StR s) {b ver : Nat} {cs cs' : List PV} (hb : lget s.L b = some ⟨ver, true, .cells cs⟩) {m : MB} (hm : s.μ b = some m) {vs' : List Value} (hr : LRs s cs' vs') :
    ∃ s', s'.L = lset s.L b ⟨ver + 1, true, .cells cs'⟩ ∧ s'.H = s.H.set m.z (some ⟨vs', false⟩) ∧ s'.μ = s.μ ∧ Keep s s' ∧ StR s' := by
  have hB := hs.blk b _ hb
  unfold BR at hB; simp only at hB
  obtain ⟨_, m', k, hm', hsh, hk, hcs, hro, hlim⟩ := hB
  rw [hm] at hm'; injection hm' with hm'; subst hm'
  exact hs.set hb rfl hm ⟨ver + 1, true, .cells cs'⟩ rfl rfl ⟨vs', false⟩ (fun s' hk' hm' hg hN => by
    unfold BR; simp only
    exact ⟨trivial, m, _, hm', hsh, hg, hk'.LRs hr, rfl, by rw [hk'.lim]; exact hlim⟩)

/-- An array gets other elements. -/
theorem set_arr (hs : StR s) {b ver : Nat} {t : Ty} {xs xs' : List t.T} (hb : lget s.L b = some ⟨ver, true, .arr t xs⟩) {m : MB} (hm : s.μ b = some m) {cells' : List Value} {k : Blk} (hk : hget s.H m.z = some k) (hl : xs'.length = xs.length)
    (hfit : Fit m.sh (xs'.length * t.size) cells') (hr : RL s.N s.H t xs' ((cells'.drop m.sh).take (xs'.length * t.size))) :
    ∃ s', s'.L = lset s.L b ⟨ver + 1, true, .arr t xs'⟩ ∧ s'.H = s.H.set m.z (some ⟨cells', false⟩) ∧ s'.μ = s.μ ∧ Keep s s' ∧ StR s' := by
  obtain ⟨a1, a2, k', a3, a4, a5, a6, a7⟩ := arr_info hs hb hm
  rw [hk] at a3; injection a3 with a3; subst a3
  exact hs.set hb rfl hm ⟨ver + 1, true, .arr t xs'⟩ rfl rfl ⟨cells', false⟩ (fun s' hk' hm' hg hN => by
    unfold BR; simp only [hm']
    refine ⟨a1, by omega, _, hg, hfit, fun i hi => ?_, fun _ => ⟨rfl, by rw [hk'.lim]; exact (a6 rfl).2⟩, fun e => absurd e (by decide)⟩
    have := hk'.repN (hr.2 i hi)
    have hmi := mul_lt (k := t.size) hi
    unfold seg at this; rw [List.drop_take, List.take_take, Nat.min_eq_left (by omega), List.drop_drop] at this; exact this)

theorem vecOf_rep {N : Nat → Prop} {H : Heap} (u : Ty) : ∀ (n : Nat) (hn : 0 < n) {xs : List u.T} {cells : List Value} {p : (vecTy n u).T}, xs.length = n → RL N H u xs cells → vecOf n u xs = some p → Rep N H (vecTy n u) p cells
  | 1, _, [x], cells, p, hl, hr, h => by
    obtain rfl : x = p := Option.some.inj h
    have := hr.2 0 (by simp)
    have hl := hr.1
    simp only [List.length_singleton, Nat.one_mul] at hl
    simp only [List.getElem_cons_zero, Nat.zero_mul] at this
    have e : seg cells 0 u.size = cells := by unfold seg; rw [List.drop_zero, List.take_of_length_le (by omega)]
    rw [e] at this; exact this
  | n + 2, _, x :: r, cells, p, hl, hr, h => by
    simp only [vecOf] at h
    obtain ⟨y, h1, h⟩ := ob h
    obtain rfl : (x, y) = p := Option.some.inj h
    have h0 := hr.2 0 (by simp)
    simp only [List.getElem_cons_zero, Nat.zero_mul] at h0
    have hd : RL N H u r (cells.drop u.size) := by have := hr.drop 1 (by simp); rw [Nat.one_mul] at this; exact this
    have := vecOf_rep u (n + 1) (by omega) (by simpa using hl) hd h1
    refine Rep.pairMk ?_ this
    unfold seg at h0; simpa using h0
  | 1, _, [], _, _, hl, _, _ => by simp at hl
  | 1, _, _ :: _ :: _, _, _, hl, _, _ => by simp at hl
  | n + 2, _, [], _, _, hl, _, _ => by simp at hl

theorem lay1_get (l : List Value) (o : Nat) (v : Value) (h : o < l.length) (i : Nat) : (lay l o [v])[i]? = if i = o then some v else l[i]? := by
  rw [lay_get l o [v] (by simp; omega)]
  by_cases c1 : i < o
  · rw [if_pos c1, if_neg (by omega)]
  · rw [if_neg c1]
    by_cases c2 : i = o
    · subst c2; simp
    · rw [if_neg (by simp; omega), if_neg c2]

/-- A row is put at a place. -/
theorem place_row {s : S} (hs : StR s) {b ver j : Nat} {e : Ty} {xs : List (List e.T)} {ho : Option Nat} (hb : lget s.L b = some ⟨ver, true, .rows e xs ho⟩) {m : MB} (hm : s.μ b = some m) {k : Blk} (hk : hget s.H m.z = some k) (hj : j < xs.length) (hh : ho = none ∨ ho = some j)
    {y : List e.T} {v : Value} (hr : RowC (fun z => s.Lim z ∨ s.Kid z = some (b, j)) s.H s.lim e y v) (hp : sameLeaf v v = true) :
    ∃ s', s'.L = lset s.L b ⟨ver + 1, true, .rows e (xs.set j y) none⟩ ∧ s'.H = s.H.set m.z (some ⟨lay k.cells (m.sh + j) [v], false⟩) ∧ Keep s s' ∧ StR s' ∧ (∀ z, s'.Lim z → s.Lim z) := by
  obtain ⟨_, hfl, ⟨hm0, _⟩ | ⟨m', k', hm', a1, a2, a3, a4, a5, a6, a7⟩⟩ := rows_info hs hb
  · rw [hm] at hm0; simp at hm0
  rw [hm] at hm'; injection hm' with hm'; subst hm'
  rw [hk] at a3; injection a3 with a3; subst a3
  -- the block that comes in, if any
  obtain ⟨inn, hin, hrow⟩ : ∃ inn : Option (Nat × Nat), (∀ z i, inn = some (z, i) → s.Lim z ∧ ∃ k, hget s.H z = some k) ∧ ∀ (K : Nat → Prop), (∀ z, s.Kid z = some (b, j) → K z) → (∀ z, inn = some (z, j) → K z) → RowC K s.H s.lim e y v := by
    rcases hr with ⟨rfl, rfl⟩ | ⟨z, o, k2, h1, h2 | h2, h3⟩
    · exact ⟨none, fun _ _ h => by simp at h, fun K _ _ => .inl ⟨rfl, rfl⟩⟩
    · exact ⟨some (z, j), fun z' i h => by injection h with h; injection h with h _; subst h; exact ⟨h2, _, h3.1⟩, fun K _ hK => .inr ⟨z, o, k2, h1, hK z rfl, h3⟩⟩
    · exact ⟨none, fun _ _ h => by simp at h, fun K hK _ => .inr ⟨z, o, k2, h1, hK z h2, h3⟩⟩
  have hfit := a4
  obtain ⟨s', e1, e2, e3, hk', hs', hl⟩ := hs.setR hb rfl hm ⟨ver + 1, true, .rows e (xs.set j y) none⟩ rfl rfl ⟨lay k.cells (m.sh + j) [v], false⟩ inn hin (fun s' hk' hm' hg hH hkid hinn => by
    unfold BR; simp only [hm']
    refine ⟨trivial, hfl, a1, by simp [a2], _, hg, ?_, rfl, by rw [hk'.lim]; exact a6, fun i hi _ => ?_⟩
    · rw [List.length_set]; exact hfit.lay (p := j) (by simp; have := hfit.1; omega) (fun w hw => by simp at hw; subst hw; exact hp)
    · simp only [List.length_set] at hi
      by_cases hij : i = j
      · subst hij
        refine ⟨v, by rw [lay1_get _ _ _ (by have := hfit.1; omega), if_pos rfl], ?_⟩
        simp only [List.getElem_set_self]
        have := hrow (fun z => s'.Kid z = some (b, i) ∧ hget s'.H z = hget s.H z) (fun z hz => ⟨hkid z i hz, hH z (fun e => hs.kid_ne hz hb hm e.symm)⟩) (fun z hz => ⟨hinn z i hz, hH z (fun e => hs.lm b _ m hb hm (e ▸ (hin z i hz).1))⟩)
        rw [hk'.lim]
        exact this.mono hfl (fun z hz => hz)
      · obtain ⟨w, q1, q2⟩ := a7 i hi (by rcases hh with rfl | rfl <;> simp; omega)
        refine ⟨w, by rw [lay1_get _ _ _ (by have := hfit.1; omega), if_neg (by omega)]; exact q1, ?_⟩
        rw [List.getElem_set_ne (by omega), hk'.lim]
        exact q2.mono hfl (fun z hz => ⟨hkid z i hz, hH z (fun e => hs.kid_ne hz hb hm e.symm)⟩))
  exact ⟨s', e1, e2, hk', hs', fun z hz => ((hl z).1 hz).1⟩

theorem allNil_rel {s : S} : ∀ {n : Nat} {cs : List PV} {vs : List Value}, allNil n cs = true → LRs s cs vs → cs.length = n ∧ vs = List.replicate n (.slice none 0 0)
  | 0, [], [], _, _ => ⟨rfl, rfl⟩
  | 0, [], _ :: _, _, h => h.elim
  | 0, _ :: _, _, h, _ => by simp [allNil] at h
  | n + 1, [], _, h, _ => by simp [allNil] at h
  | n + 1, c :: r, [], _, h => h.elim
  | n + 1, c :: r, v :: vs, h, hr => by
    unfold allNil at h
    split at h
    · simp_all
    · rename_i heq1 heq2
      injection heq1 with heq1
      injection heq2 with e1 e2
      subst e1 e2 heq1
      obtain ⟨h1, h2⟩ := allNil_rel h hr.2
      have : v = .slice none 0 0 := hr.1
      rw [this, h2, List.replicate_succ]
      exact ⟨by simp [h1], rfl⟩
    · simp at h

/-- All rows become nil. -/
theorem clear_rows {s : S} (hs : StR s) {b ver : Nat} {e : Ty} {xs : List (List e.T)} {ho : Option Nat} (hb : lget s.L b = some ⟨ver, true, .rows e xs ho⟩) {m : MB} (hm : s.μ b = some m) {k : Blk} (hk : hget s.H m.z = some k) (hsh : m.sh = 0) :
    ∃ s', s'.L = lset s.L b ⟨ver + 1, true, .rows e (List.replicate xs.length []) none⟩ ∧ s'.H = s.H.set m.z (some ⟨lay k.cells 0 (List.replicate xs.length (.slice none 0 0)), false⟩) ∧ Keep s s' ∧ StR s' := by
  obtain ⟨_, hfl, ⟨hm0, _⟩ | ⟨m', k', hm', a1, a2, a3, a4, a5, a6, a7⟩⟩ := rows_info hs hb
  · rw [hm] at hm0; simp at hm0
  rw [hm] at hm'; injection hm' with hm'; subst hm'
  rw [hk] at a3; injection a3 with a3; subst a3
  have hfit := a4
  have hle : xs.length ≤ k.cells.length := by have := hfit.1; omega
  obtain ⟨s', e1, e2, e3, hk', hs', hl⟩ := hs.setR hb rfl hm ⟨ver + 1, true, .rows e (List.replicate xs.length []) none⟩ rfl rfl ⟨lay k.cells 0 (List.replicate xs.length (.slice none 0 0)), false⟩ none (fun _ _ h => by simp at h) (fun s' hk' hm' hg hH hkid hinn => by
    unfold BR; simp only [hm']
    refine ⟨trivial, hfl, a1, by simp [a2], _, hg, ?_, rfl, by rw [hk'.lim]; exact a6, fun i hi _ => ?_⟩
    · rw [List.length_replicate]
      have := hfit.lay (p := 0) (d := List.replicate xs.length (.slice none 0 0)) (by simp; omega) (fun w hw => by rw [List.mem_replicate] at hw; rw [hw.2]; simp [sameLeaf])
      rw [hsh] at this ⊢; exact this
    · simp only [List.length_replicate] at hi
      refine ⟨.slice none 0 0, ?_, .inl ⟨by simp, rfl⟩⟩
      rw [hsh, Nat.zero_add, lay_get _ _ _ (by simp; omega)]
      simp [hi])
  exact ⟨s', e1, e2, hk', hs'⟩

theorem rowsAt_some {L : LS} {b ver : Nat} {e : Ty} {xs : List (List e.T)} {ho : Option Nat} (h : rowsAt L b = some (ver, ⟨e, xs, ho⟩)) : lget L b = some ⟨ver, true, .rows e xs ho⟩ := by
  unfold rowsAt at h
  split at h
  · rename_i hb
    injection h with h; injection h with h1 h2; subst h1
    injection h2 with h2 h3; subst h2
    have h3 := eq_of_heq h3
    injection h3 with h3 h4; subst h3; subst h4; exact hb
  · simp at h

theorem sim_store {t : TypeId} {a x : Operand} (hP : X.P = XE.P) (hlim : XE.lim = s.lim) (ho : o.op = .store t a x) (hs : StR s) (he : EnvR s env e) (hK : KOk s r KV KE Q) (h : vop X o env s.L KV = some r) : ∃ y, evOp XE o e s.H KE = some y ∧ Q y := by
  simp only [vop, ho] at h; simp only [evOp, ho]
  replace h := ob h; obtain ⟨p, h1, h⟩ := h
  replace h := ob h; obtain ⟨q, h2, h⟩ := h
  replace h := ob h; obtain ⟨i, h3, h⟩ := h
  obtain ⟨v, ev1, r1⟩ := pev_rel he h1
  obtain ⟨u, ev2, r2⟩ := pev_rel he h2
  rw [ev1, ev2]; simp only [obind]
  rw [← hP]
  split at h
  · rename_i hsz
    simp only [Bool.and_eq_true] at hsz
    have hc := r2.cells hsz.2
    have hl := All2.length hc
    have hsize := Nat.eq_of_beq_eq_true hsz.1
    have hbeq : Nat.beq u.cells.size i.size = true := by
      have : u.cells.size = i.size := by simp only [Array.length_toList] at hl; omega
      rw [this]; exact Nat.beq_refl _
    split at h
    · rename_i b j fo
      split at h
      · rename_i ver el xs ho hrows
        have hb := rowsAt_some hrows
        split at h
        · simp at h
        rename_i hfs
        simp only [Bool.and_eq_true] at hfs
        have hfo := Nat.eq_of_beq_eq_true hfs.1
        have hsz1 := Nat.eq_of_beq_eq_true hfs.2
        subst hfo
        obtain ⟨hlb, m, hm, rfl⟩ : LR0 s (.ep b j 0) v := r1
        obtain ⟨_, hfl, hrow⟩ := rows_info hs hb
        simp only [ptrS, h3, obind, hbeq]
        -- the cell that is stored
        have hcell : ∀ (y : List el.T) (K : Nat → Prop), RowC K s.H s.lim el y u → u.cells.toList = [u] ∧ sameLeaf u u = true := by
          intro y K hr
          rcases hr with ⟨_, rfl⟩ | ⟨_, _, _, rfl, _⟩ <;> exact ⟨rfl, by simp [sameLeaf]⟩
        split at h
        · rename_i b' i' ver' e' x
          split at h
          · rename_i hbv
            simp only [Bool.and_eq_true] at hbv
            have hb1 := Nat.eq_of_beq_eq_true hbv.1
            have hb2 := Nat.eq_of_beq_eq_true hbv.2
            subst hb1; subst hb2
            replace h := ob h; obtain ⟨x', h4, h⟩ := h
            have e4 := tcast_eq h4; injection e4 with e4; subst e4
            have := tcast_self h4; subst this
            unfold oif at h; split at h
            · rename_i hij
              have hij := Nat.eq_of_beq_eq_true hij
              subst hij
              replace h := ob h; obtain ⟨x0, h5, h⟩ := h
              obtain ⟨hj, _⟩ := List.getElem?_eq_some_iff.1 h5
              obtain ⟨_, _, hval⟩ : LR0 s (.rw b' i' ver' e' x) u := r2
              obtain ⟨_, q2, _⟩ := (hval _ hb).2 rfl
              obtain ⟨c1, c2⟩ := hcell _ _ q2
              rcases hrow with ⟨hm0, _⟩ | ⟨m', k, hm', a1, a2, a3, a4, a5, a6, a7⟩
              · rw [hm] at hm0; simp at hm0
              rw [hm] at hm'; injection hm' with hm'; subst hm'
              obtain ⟨s2, e1, e2, k2, t2, _⟩ := place_row hs hb hm a3 hj (.inl rfl) (q2.mono hfl (fun z hz => ⟨.inr hz, rfl⟩)) c2
              have hst := hstoreN_ok (o := m.sh + i' * m.es + 0) (vs := u.cells.toList) a3 a5 (fun v hv => LRs.cell hc v hv) a6 (by rw [c1, a1]; have := a4.1; simp; omega)
              rw [hlim, hst, c1]
              rw [a1, Nat.mul_one, Nat.add_zero, ← e2]; rw [← e1] at h
              exact hK .undef undef s2 k2 t2 rfl h
            · simp at h
          · simp at h
        · replace h := ob h; obtain ⟨⟨y, L1⟩, h4, h⟩ := h
          have hr2 : LR0 s q u := by
            have h4' := h4
            unfold takeO at h4'
            split at h4'
            · exact r2
            · exact r2
            · exact r2
            · simp at h4'
          obtain ⟨s1, l1, g1, u1, k1, t1, q2, lm1, _, _⟩ := takeO_row hs hfl hr2 h4
          obtain ⟨c1, c2⟩ := hcell _ _ q2
          simp only at h
          rw [← l1] at h
          split at h
          · rename_i ver1 e' xs' h' hb1
            replace h := ob h; obtain ⟨x', h5, h⟩ := h
            have e5 := tcast_eq h5; injection e5 with e5; subst e5
            have := tcast_self h5; subst this
            have hhole : (h' = none ∨ h' = some j) ∧ (obind xs'[j]? fun _ => KV .undef (lset s1.L b ⟨ver1 + 1, true, .rows el (xs'.set j y) none⟩)) = some r := by
              unfold holeIs at h; split at h
              · exact ⟨.inl rfl, h⟩
              · unfold oif at h; split at h
                · rename_i hij
                  have := Nat.eq_of_beq_eq_true hij
                  subst this
                  exact ⟨.inr rfl, h⟩
                · simp at h
            obtain ⟨hh, h⟩ := hhole
            replace h := ob h; obtain ⟨x0, h6, h⟩ := h
            obtain ⟨hj, _⟩ := List.getElem?_eq_some_iff.1 h6
            obtain ⟨_, _, hrow1⟩ := rows_info t1 hb1
            rcases hrow1 with ⟨hm0, rfl⟩ | ⟨m', k, hm', a1, a2, a3, a4, a5, a6, a7⟩
            · simp at hj
            rw [u1, hm] at hm'; injection hm' with hm'; subst hm'
            have q3 : RowC (fun z => s1.Lim z ∨ s1.Kid z = some (b, j)) s1.H s1.lim el y u := by
              rw [k1.lim]; exact q2.mono hfl (fun z hz => ⟨.inl hz.1, by rw [g1]⟩)
            obtain ⟨s2, e1, e2, k2, t2, _⟩ := place_row t1 hb1 (by rw [u1]; exact hm) a3 hj hh q3 c2
            have hst := hstoreN_ok (o := m.sh + j * m.es + 0) (vs := u.cells.toList) a3 a5 (fun v hv => LRs.cell hc v hv) a6 (by rw [c1, a1]; have := a4.1; simp; omega)
            rw [hlim, ← k1.lim, ← g1, hst, c1]
            rw [a1, Nat.mul_one, Nat.add_zero, ← e2]; rw [← e1] at h
            exact hK .undef undef s2 (k1.trans k2) t2 rfl h
          · simp at h
      replace h := ob h; obtain ⟨w, h4, h⟩ := h
      replace h := ob h; obtain ⟨⟨y, L1⟩, h5, h⟩ := h
      obtain ⟨s1, l1, g1, u1, k1, t1, rr1, o1, _⟩ := refl_fz w hs hc h5
      simp only at h
      rw [← l1] at h
      split at h
      · rename_i ver el xs hb
        replace h := ob h; obtain ⟨x0, h6, h⟩ := h
        replace h := ob h; obtain ⟨x1, h7, h⟩ := h
        obtain ⟨hlb, m, hm, rfl⟩ := k1.LR0 (p := .ep b j fo) r1
        simp only [ptrS, h3, obind, hbeq]
        obtain ⟨a1, a2, k, a3, a4, a5, a6, a7⟩ := arr_info t1 hb hm
        obtain ⟨hj, ej⟩ := List.getElem?_eq_some_iff.1 h6
        have hrep := a5 j hj
        rw [ej] at hrep
        obtain ⟨g2, g3⟩ := upd_rep _ _ h7 hrep rr1
        have hlw := Rep.len _ rr1
        have hm2 := mul_lt (k := el.size) hj
        have hst := hstoreN_ok (o := m.sh + j * m.es + fo) a3 (a6 rfl).1 (fun v hv => LRs.cell hc v hv) (a6 rfl).2 (by rw [a1, hlw]; omega)
        rw [hlim, ← k1.lim, ← g1, hst]
        have hRL := RL.ofBlk a4 a5
        have hd : ((k.cells.drop m.sh).take (xs.length * el.size)).length = xs.length * el.size := hRL.1
        have hnew : ((lay k.cells (m.sh + j * m.es + fo) u.cells.toList).drop m.sh).take ((xs.set j x1).length * el.size) = lay ((k.cells.drop m.sh).take (xs.length * el.size)) (j * el.size) (lay (seg ((k.cells.drop m.sh).take (xs.length * el.size)) (j * el.size) el.size) fo u.cells.toList) := by
          rw [List.length_set, a1, Nat.add_assoc, lay_win a4 (by omega), lay_part (z := el.size) (by omega) (by omega)]
        have hrep2 : Rep s1.N s1.H el x1 (lay (seg ((k.cells.drop m.sh).take (xs.length * el.size)) (j * el.size) el.size) fo u.cells.toList) := by
          have : (k.cells.drop (m.sh + j * el.size)).take el.size = seg ((k.cells.drop m.sh).take (xs.length * el.size)) (j * el.size) el.size := by
            unfold seg; rw [List.drop_take, List.take_take, Nat.min_eq_left (by omega), List.drop_drop]
          rw [this] at g2; exact g2
        obtain ⟨s2, e1, e2, e3, k2, t2⟩ := set_arr t1 (xs' := xs.set j x1) hb hm (cells' := lay k.cells (m.sh + j * m.es + fo) u.cells.toList) a3 (by simp) (by rw [List.length_set, a1, Nat.add_assoc]; exact (arr_fit t1 hb hm a3).lay (by omega) (fun v hv => LRs.plain hc v hv)) (by rw [hnew]; exact hRL.set hj hrep2)
        rw [← e2]; rw [← e1] at h
        exact hK .undef undef s2 (k1.trans k2) t2 rfl h
      · simp at h
    · rename_i b off
      split at h
      · rename_i ver cs hb
        split at h
        · rename_i hle
          have hle := Nat.le_of_ble_eq_true hle
          obtain ⟨hlb, m, hm, hsh, rfl⟩ := r1
          simp only [ptrS, h3, obind, hbeq]
          have hB := hs.blk b _ hb
          unfold BR at hB; simp only at hB
          obtain ⟨_, m', k, hm', _, hk, hcs, hro, hlm⟩ := hB
          rw [hm] at hm'; injection hm' with hm'; subst hm'
          have hlk := All2.length hcs
          have hst := hstoreN_ok (o := off) hk hro (fun v hv => LRs.cell hc v hv) hlm (by omega)
          rw [hlim, hst]
          obtain ⟨s2, e1, e2, e3, k2, t2⟩ := set_cells hs hb hm (lay_rel hcs hc off)
          rw [← e2]; rw [← e1] at h
          exact hK .undef undef s2 k2 t2 rfl h
        · simp at h
      · rename_i ver e xs hb
        split at h
        · rename_i hcn
          simp only [Bool.and_eq_true] at hcn
          have ho := Nat.eq_of_beq_eq_true hcn.1
          subst ho
          obtain ⟨hlb, m, hm, hsh, rfl⟩ := r1
          simp only [ptrS, h3, obind, hbeq]
          obtain ⟨n1, n2⟩ := allNil_rel hcn.2 hc
          obtain ⟨_, hfl, ⟨hm0, _⟩ | ⟨m', k, hm', a1, a2, a3, a4, a5, a6, a7⟩⟩ := rows_info hs hb
          · rw [hm] at hm0; simp at hm0
          rw [hm] at hm'; injection hm' with hm'; subst hm'
          have hst := hstoreN_ok (o := 0) a3 a5 (fun v hv => LRs.cell hc v hv) a6 (by rw [n2]; have := a4.1; simp; omega)
          rw [hlim, hst]
          obtain ⟨s2, e1, e2, k2, t2⟩ := clear_rows hs hb hm a3 hsh
          rw [n2, ← e2]; rw [n1, ← e1] at h
          exact hK .undef undef s2 k2 t2 rfl h
        · simp at h
      · simp at h
    · rename_i b off n w k0
      split at h
      · rename_i ver cs hb hwf
        replace h := ob h; obtain ⟨y, h4, h⟩ := h
        replace h := ob h; obtain ⟨xs, h5, h⟩ := h
        replace h := ob h; obtain ⟨p, h6, h⟩ := h
        obtain ⟨hlb, m, hm, hsh, rfl⟩ := r1
        simp only [ptrS, h3, obind, hbeq]
        have hB := hs.blk b _ hb
        unfold BR at hB; simp only at hB
        obtain ⟨_, m', k, hm', _, hk, hcs, hro, hlm⟩ := hB
        rw [hm] at hm'; injection hm' with hm'; subst hm'
        have hlk := All2.length hcs
        obtain ⟨_, ry⟩ := refl_any (x := y.1) (L' := y.2) hs w hc (by rw [h4])
        have hly := Rep.len _ ry
        obtain ⟨g1, g2, g3⟩ := reflN_any hs w (All2.drop off hcs) h5
        unfold setV at h6
        split at h6
        · rename_i hlt
          have hlt := blt_lt hlt
          have hm2 := mul_lt (k := w.size) hlt
          rw [g1] at hm2
          simp only [List.length_drop] at g2
          have hpos := Ty.size_pos w
          have hst := hstoreN_ok (o := off + k0 * w.size) hk hro (fun v hv => LRs.cell hc v hv) hlm (by omega)
          rw [hlim, hst]
          have hRL : RL (s.NN s.L.clk) s.H w xs (seg k.cells off (n * w.size)) := by
            refine ⟨by rw [seg_len _ _ _ (by omega), g1], fun i hi => ?_⟩
            have := Rep.flat (M := s.NN s.L.clk) (G := s.H) w hwf (g3 i hi)
            have hm3 := mul_lt (k := w.size) hi
            have e2 : seg (seg k.cells off (n * w.size)) (i * w.size) w.size = ((k.cells.drop off).drop (i * w.size)).take w.size := by
              unfold seg; rw [List.drop_take, List.take_take, Nat.min_eq_left (by rw [g1] at hm3; omega)]
            rw [e2]; exact this
          have hRL2 := hRL.set hlt (Rep.flat (M := s.NN s.L.clk) (G := s.H) w hwf ry)
          have hn0 : 0 < n := by omega
          have hrep := vecOf_rep w n hn0 (by simp [g1]) hRL2 h6
          have hlr := reify_rel _ hrep
          have hll : (lay (seg k.cells off (n * w.size)) (k0 * w.size) u.cells.toList).length = n * w.size := by
            rw [lay_len _ _ _ (by rw [seg_len _ _ _ (by omega)]; omega), seg_len _ _ _ (by omega)]
          have hfin := lay_rel hcs hlr off
          have hlay : lay k.cells off (lay (seg k.cells off (n * w.size)) (k0 * w.size) u.cells.toList) = lay k.cells (off + k0 * w.size) u.cells.toList := by
            have hsl := seg_len k.cells off (n * w.size) (by omega)
            apply List.ext_getElem?; intro i'
            rw [lay_get k.cells off _ (by rw [hll]; omega), hll, lay_get k.cells (off + k0 * w.size) _ (by omega)]
            by_cases c1 : i' < off
            · rw [if_pos c1, if_pos (by omega)]
            · rw [if_neg c1]
              by_cases c2 : i' < off + n * w.size
              · rw [if_pos c2, lay_get (seg k.cells off (n * w.size)) (k0 * w.size) _ (by omega)]
                by_cases c3 : i' - off < k0 * w.size
                · have d1 : i' < off + k0 * w.size := by omega
                  rw [if_pos c3, if_pos d1, seg_get, if_pos (by omega)]; congr 1; omega
                · have d1 : ¬ i' < off + k0 * w.size := by omega
                  rw [if_neg c3, if_neg d1]
                  by_cases c4 : i' - off < k0 * w.size + u.cells.toList.length
                  · have d2 : i' < off + k0 * w.size + u.cells.toList.length := by omega
                    rw [if_pos c4, if_pos d2]; congr 1; omega
                  · have d2 : ¬ i' < off + k0 * w.size + u.cells.toList.length := by omega
                    rw [if_neg c4, if_neg d2, seg_get, if_pos (by omega)]; congr 1; omega
              · rw [if_neg c2, if_neg (by omega), if_neg (by omega)]
          rw [hlay] at hfin
          obtain ⟨s2, e1, e2, e3, k2, t2⟩ := set_cells hs hb hm hfin
          rw [← e2]; rw [← e1] at h
          exact hK .undef undef s2 k2 t2 rfl h
        · simp at h6
      · simp at h
    · simp at h
  · simp at h

theorem sim_nilCheck {x : Operand} (ho : o.op = .nilCheck x) (hs : StR s) (he : EnvR s env e) (hK : KOk s r KV KE Q) (h : vop X o env s.L KV = some r) : ∃ y, evOp XE o e s.H KE = some y ∧ Q y := by
  simp only [vop, ho] at h; simp only [evOp, ho]
  replace h := ob h; obtain ⟨p, h1, h⟩ := h
  obtain ⟨v, ev1, r1⟩ := pev_rel he h1
  rw [ev1]; simp only [obind]
  split at h
  · have r0 := r1
    obtain ⟨a, b, rfl, _⟩ := r1
    exact hK.here hs r0 h
  · have r0 := r1
    obtain ⟨_, m, _, _, rfl⟩ := r1
    exact hK.here hs r0 h
  · have r0 := r1
    obtain ⟨_, m, _, rfl⟩ := r1
    exact hK.here hs r0 h
  · have r0 := r1
    obtain ⟨z, oo, k, rfl, _⟩ := r1
    exact hK.here hs r0 h
  · have r0 := r1
    obtain ⟨_, ⟨_, _, rfl⟩, _⟩ := r1
    exact hK.here hs r0 h
  · have r0 := r1
    obtain ⟨_, m, _, _, rfl⟩ := r1
    exact hK.here hs r0 h
  · simp at h

/-- What a slice's elements are, cell by cell. -/
theorem content_cells (hs : StR s) {p : PV} {v : Value} (hr : ER s p v) {t : Ty} {x : List t.T} (h : content s.L p t = some x) (hnr : ∀ u, t = .sl u → isRows s.L p = false) :
    ∃ cells a c, v = .slice a x.length c ∧ sliceCells s.H t.size v = some cells ∧ RL s.N s.H t x cells := by
  have keyF : ∀ {N : Nat → Prop}, Rep N s.H (.sl t) x [v] → ∃ cells a c, v = .slice a x.length c ∧ sliceCells s.H t.size v = some cells ∧ RL N s.H t x cells := by
    intro N r
    unfold Rep at r
    rcases r with ⟨rfl, e1⟩ | ⟨rfl, z, oo, e1⟩ | ⟨z, oo, k, e1, hn, hk, hle, hi⟩
    · simp at e1; subst e1; exact ⟨[], _, _, rfl, rfl, by simp [RL]⟩
    · simp at e1; subst e1; exact ⟨[], _, _, rfl, by simp [sliceCells, hload0], by simp [RL]⟩
    · simp at e1; subst e1
      refine ⟨(k.cells.drop oo).take (x.length * t.size), _, _, rfl, ?_, by simp; omega, fun i hi' => ?_⟩
      · simp only [sliceCells]
        cases hz : x.length * t.size with
        | zero => simp [hload0]
        | succ q =>
          simp only [hload0, hloadN, hk, obind]
          have : Nat.ble (oo + (q + 1)) k.cells.length = true := Nat.ble_eq_true_of_le (by omega)
          rw [this]
      · have := hi i hi'
        have hm := mul_lt (k := t.size) hi'
        have e2 : seg ((k.cells.drop oo).take (x.length * t.size)) (i * t.size) t.size = (k.cells.drop (oo + i * t.size)).take t.size := by
          unfold seg; rw [List.drop_take, List.take_take, Nat.min_eq_left (by omega), List.drop_drop]
        rw [e2]; exact this
  have key : ∀ {N : Nat → Prop}, (∀ z, N z → s.N z) → Rep N s.H (.sl t) x [v] → ∃ cells a c, v = .slice a x.length c ∧ sliceCells s.H t.size v = some cells ∧ RL s.N s.H t x cells := by
    intro N hN r
    obtain ⟨cells, a, c, g1, g2, g3⟩ := keyF r
    exact ⟨cells, a, c, g1, g2, g3.1, fun i hi => Rep.mono hN t (g3.2 i hi)⟩
  have h' := h
  unfold content at h
  split at h
  · obtain rfl : v = _ := hr
    simp at h; subst h
    exact ⟨[], _, _, rfl, rfl, by simp [RL]⟩
  · rename_i st u y
    obtain ⟨e1, hx⟩ := tcast_some h
    injection e1 with e1; subst e1
    simp at hx; subst hx
    exact key (fun z hz => hz.1) hr
  · rename_i b off n
    split at h
    · rename_i ver rw u xs hb
      obtain ⟨e1, hx⟩ := tcast_some h
      injection e1 with e1; subst e1
      simp at hx; subst hx
      have hr : LR0 s (.osl b off n) v := hr
      obtain ⟨hlb, hr⟩ := hr
      cases hm : s.μ b with
      | none =>
        rw [hm] at hr; obtain ⟨rfl, h5, rfl⟩ := hr
        have hx := arr_nil hs hb hm
        subst hx
        have : cut ([] : List u.T) 0 n = [] := by cases n <;> simp [cut]
        rw [this]; exact ⟨[], _, _, rfl, rfl, by simp [RL]⟩
      | some m =>
        rw [hm] at hr
        obtain ⟨g1, g2, k, g3, g4, g5, g6, g7⟩ := arr_info hs hb hm
        obtain ⟨a1, rfl⟩ := hr
        have hlen : (cut xs off n).length = n.getD (m.n - off) := by
          cases n with
          | none => simp [cut, g2]
          | some l => simp [cut] at a1 ⊢; omega
        have hRL := RL.ofBlk g4 g5
        have hoff : off ≤ xs.length := by omega
        have hmul : (off + (cut xs off n).length) * u.size ≤ xs.length * u.size := Nat.mul_le_mul_right _ (by omega)
        rw [Nat.add_mul] at hmul
        refine ⟨(k.cells.drop (m.sh + off * u.size)).take ((cut xs off n).length * u.size), _, _, by rw [hlen], ?_, ?_⟩
        · rw [← hlen, g1]
          simp only [sliceCells]
          cases hz : (cut xs off n).length * u.size with
          | zero => simp [hload0]
          | succ q =>
            simp only [hload0, hloadN, g3, obind]
            have : Nat.ble (m.sh + off * u.size + (q + 1)) k.cells.length = true := Nat.ble_eq_true_of_le (by omega)
            rw [this]
        · cases n with
          | none =>
            have h1 := RL.sub (n := xs.length - off) g4 g5 (show off + (xs.length - off) ≤ xs.length by omega)
            rw [List.take_of_length_le (l := xs.drop off) (by simp)] at h1
            simp only [cut]
            rw [List.length_drop]; exact h1
          | some l =>
            have h1 := RL.sub (n := l) g4 g5 (show off + l ≤ xs.length by simp at a1; omega)
            simp only [cut]
            have e3 : ((xs.drop off).take l).length = l := by simp at a1 ⊢; omega
            rw [e3]; exact h1
    · rename_i ver u xs hb
      have e1 := tcast_eq h
      injection e1 with e1
      have := hnr u e1.symm
      simp [isRows, hb] at this
    · simp at h
  · rename_i b i ver u y
    split at h
    · rename_i v' t' xs' h'' hb
      split at h
      · rename_i hv
        have hv := Nat.eq_of_beq_eq_true hv
        obtain ⟨e1, hx⟩ := tcast_some h
        injection e1 with e1; subst e1
        simp at hx; subst hx
        obtain ⟨_, _, hval⟩ : LR0 s (.rw b i ver u y) v := hr
        obtain ⟨r1, r2, _⟩ := (hval _ hb).2 hv
        obtain ⟨cells, a, c, g1, g2, g3⟩ := keyF (r2.rep (M := Any) r1 (fun _ _ => trivial))
        exact ⟨cells, a, c, g1, g2, g3.1, fun i hi => Rep.flat u r1 (g3.2 i hi)⟩
      · simp at h
    · simp at h
  · simp at h

theorem bytesOf_map : ∀ (x : List Int) (cells : List Value) {N : Nat → Prop} {H : Heap}, RL N H (.int .u8) x cells → bytesOf cells = some (x.map fun n => UInt8.ofNat n.toNat) := by
  intro x
  induction x with
  | nil =>
    intro cells N H h
    have h1 := h.1
    have : cells = [] := List.length_eq_zero_iff.1 (by simpa using h1)
    subst this; rfl
  | cons n r ih =>
    intro cells N H h
    have h1 := h.1
    match cells, h1 with
    | [], h1 => simp [Ty.size] at h1
    | c :: cs, h1 =>
      have h0 := h.2 0 (by simp)
      simp [Ty.size, Rep, seg] at h0
      subst h0
      have hr : RL N H (.int .u8) r cs := by
        refine ⟨by simp [Ty.size] at h1 ⊢; exact h1, fun i hi => ?_⟩
        have := h.2 (i + 1) (by simp; omega)
        simp [Ty.size, seg] at this ⊢; exact this
      simp [bytesOf, ih cs hr, obind]

theorem RL.bytes {N : Nat → Prop} {H : Heap} (q : List UInt8) : RL N H (.int .u8) (q.map fun b => (b.toNat : Int)) (q.map fun b => .int .u8 b.toNat) := by
  refine ⟨by simp [Ty.size], fun i hi => ?_⟩
  simp at hi
  simp only [Ty.size, Nat.mul_one, seg]
  unfold Rep
  rw [List.drop_eq_getElem_cons (by simpa using hi)]; simp

theorem sim_convert {src dst : TypeId} {x : Operand} (hP : X.P = XE.P) (ho : o.op = .convert src dst x) (hs : StR s) (he : EnvR s env e) (hK : KOk s r KV KE Q) (h : vop X o env s.L KV = some r) : ∃ y, evOp XE o e s.H KE = some y ∧ Q y := by
  simp only [vop, ho] at h; simp only [evOp, ho]
  replace h := ob h; obtain ⟨p, h1, h⟩ := h
  obtain ⟨v, ev1, r1⟩ := pev_rel he h1
  rw [ev1]; simp only [obind]
  rw [← hP]
  split at h
  · rename_i hu1 hu2
    obtain rfl : v = .int _ _ := r1
    simp only [convA, hu1, hu2]
    exact hK.here hs (p := .int _ _) rfl h
  · rename_i hu1 hu2
    obtain rfl : v = .string _ := r1
    simp only [convA, hu1, hu2]
    exact hK.here hs (p := .str _) rfl h
  · rename_i el hu1 hu2
    split at h
    · rename_i hu3
      replace h := ob h; obtain ⟨l, h2, h⟩ := h
      obtain ⟨cells, a, c, rfl, hsc, hrl⟩ := content_cells hs r1 h2 (fun u e => by simp at e)
      simp only [convA, hu1, hu2, hu3]
      have hsc' : sliceCells s.H 1 (.slice a l.length c) = some cells := hsc
      rw [hsc']; simp only [obind]
      rw [bytesOf_map l cells hrl]
      exact hK.here hs (p := .str (strL l)) rfl h
    · simp at h
  · rename_i el q hu1 hu2
    obtain rfl : v = .string q := r1
    split at h
    · rename_i hu3
      simp only [convA, hu1, hu2, hu3]
      obtain ⟨s', e1, e2, hk, hs', hr⟩ := push_arr (s := s) hs (RL.bytes q.data.toList)
      rw [← e2]
      have h' : KV (.osl s.L.bl.length 0 none) (lpush s.L (.arr (.int .u8) (bytesL q))) = some r := h
      have e1' : s'.L = lpush s.L (.arr (.int .u8) (bytesL q)) := e1
      rw [← e1'] at h'
      refine hK _ _ s' hk hs' (ER.of0 ?_) h'
      have : (q.data.toList.map fun b => (b.toNat : Int)).length = q.size := by simp
      rw [this] at hr; exact hr
    · simp at h
  · simp at h

end
end Go.Pv
