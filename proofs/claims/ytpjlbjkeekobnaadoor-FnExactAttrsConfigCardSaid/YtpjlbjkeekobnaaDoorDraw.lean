/-
  A region that draws its order: whatever the order, it ends as the interpreter says.
  Conditions: none.
-/
import Derived.Test.YtpjlbjkeekobnaaDoorChain
set_option linter.unusedVariables false
set_option linter.unusedSimpArgs false
namespace Go.Ev

/-- The run in the order of the text, with what the checks say. -/
structure Runs (X : Cx) (ops : Array Oper) (S : Nat → St) : Prop where
  step : ∀ k o, ops[k]? = some o → StepOk X ops o (S k) (S (k + 1))
  ok : drawOk X.P ops = true
  envLt : EnvLt (Bel (S 0).H.length) (S 0).inn
  closed : closedAt (S 0).H.length (S 0).H

section
variable {X : Cx} {ops : Array Oper} {S : Nat → St}

theorem get_op {i : Nat} (h : i < ops.size) : ∃ o, ops[i]? = some o := ⟨ops[i], Array.getElem?_eq_getElem h⟩
theorem op_lt {i : Nat} {o : Oper} (h : ops[i]? = some o) : i < ops.size := (Array.getElem?_eq_some_iff.1 h).1
theorem cls_at {P : Program} {i : Nat} {o : Oper} (h : ops[i]? = some o) : clsAt P ops i = clsOf P o.op := by simp [clsAt, h]
theorem cls_none {P : Program} {i : Nat} (h : ¬ i < ops.size) : clsAt P ops i = 0 := by
  unfold clsAt; rw [Array.getElem?_eq_none (by omega)]

theorem cls_le (P : Program) (op : Op) : clsOf P op ≤ 3 := by
  unfold clsOf
  split <;> first | omega | (split <;> omega)

theorem EnvLt.restr {D : Nat → Prop} {env : Env} {ts : List Tmp} (h : EnvLt D env) : EnvLt D (restr ts env) := fun s v hs => h s v (eget_restr_some hs).2

theorem Runs.abs (h : Runs X ops S) : ∀ i, i ≤ ops.size → EnvLt (Bel (S i).H.length) (S i).inn ∧ closedAt (S i).H.length (S i).H ∧ Ab X.lim (S 0).H (S i).H
  | 0, _ => ⟨h.envLt, h.closed, Ab.refl _ _⟩
  | i + 1, hi => by
    obtain ⟨h1, h2, h3⟩ := h.abs i (by omega)
    obtain ⟨o, ho⟩ := get_op (ops := ops) (i := i) (by omega)
    have hs := h.step i o ho
    have hE : EnvLt (Bel (S i).H.length) (S i).env := fun s v hv => h1 s v (by rw [← hs.same]; exact hv)
    have key : Ab X.lim (S i).H (S (i + 1)).H ∧ VLt (Bel (S (i + 1)).H.length) (S i).v := by
      cases ht : (S i).t with
      | true => exact opF_ab (hs.yes ht) hE.restr h2
      | false => obtain ⟨e1, e2⟩ := hs.no ht; rw [e1, e2]; exact ⟨Ab.refl _ _, undef_lt _⟩
    exact ⟨put_lt (hE.mono (Bel.mono key.1.len)) key.2 hs.put, key.1.all h2, h3.trans key.1⟩

theorem Runs.envLt' (h : Runs X ops S) {i : Nat} (hi : i < ops.size) : EnvLt (Bel (S i).H.length) (S i).env := by
  obtain ⟨o, ho⟩ := get_op hi
  exact fun s v hv => (h.abs i (by omega)).1 s v (by rw [← (h.step i o ho).same]; exact hv)

theorem Runs.len_succ (h : Runs X ops S) {i : Nat} (hi : i < ops.size) : (S i).H.length ≤ (S (i + 1)).H.length := by
  obtain ⟨o, ho⟩ := get_op hi
  have hs := h.step i o ho
  cases ht : (S i).t with
  | true => exact (opF_ab (hs.yes ht) (h.envLt' hi).restr (h.abs i (by omega)).2.1).1.len
  | false => rw [(hs.no ht).2]; exact Nat.le_refl _

theorem Runs.len_le (h : Runs X ops S) {m : Nat} : ∀ {i : Nat}, m ≤ i → i ≤ ops.size → (S m).H.length ≤ (S i).H.length
  | 0, h1, _ => by rw [Nat.le_zero.1 h1]; exact Nat.le_refl _
  | i + 1, h1, h2 => by
    by_cases e : m = i + 1
    · subst e; exact Nat.le_refl _
    · exact Nat.le_trans (h.len_le (by omega) (by omega)) (h.len_succ (by omega))

/-- Operations below class 3 leave the old blocks alone. -/
theorem Runs.quiet (h : Runs X ops S) {i : Nat} (hi : i < ops.size) (hc : clsAt X.P ops i ≠ 3) :
    ((S (i + 1)).H = (S i).H) ∨ (clsAt X.P ops i = 2 ∧ (S i).t = true ∧ ∃ vs, (S (i + 1)).H = hpush (S i).H vs) := by
  obtain ⟨o, ho⟩ := get_op hi
  have hs := h.step i o ho
  have hcls := cls_at (P := X.P) ho
  cases ht : (S i).t with
  | false => exact .inl (hs.no ht).2
  | true =>
    have hF := hs.yes ht
    unfold OpF at hF
    split at hF
    · exact .inl hF.1
    · exact .inl hF.1
    · rename_i hc2; obtain ⟨vs, mk, _, e, _⟩ := hF; exact .inr ⟨by rw [hcls]; exact hc2, rfl, vs, e⟩
    · rename_i h0 h1 h2
      have hle := cls_le X.P o.op
      rw [hcls] at hc
      exact absurd hF (by
        intro _
        have : clsOf X.P o.op = 0 ∨ clsOf X.P o.op = 1 ∨ clsOf X.P o.op = 2 := by omega
        rcases this with e | e | e
        · exact h0 e
        · exact h1 e
        · exact h2 e)

theorem Runs.alloc_len (h : Runs X ops S) {i : Nat} (hi : i < ops.size) (hc : clsAt X.P ops i = 2) (ht : (S i).t = true) : (S (i + 1)).H.length = (S i).H.length + 1 := by
  obtain ⟨o, ho⟩ := get_op hi
  have hF := (h.step i o ho).yes ht
  have hcls := cls_at (P := X.P) ho
  rw [hc] at hcls
  unfold OpF at hF
  rw [← hcls] at hF
  obtain ⟨vs, mk, _, e, _⟩ := hF
  rw [e, length_push]

theorem Runs.keep (h : Runs X ops S) {m : Nat} : ∀ {i : Nat}, m ≤ i → i ≤ ops.size → (∀ k, m ≤ k → k < i → clsAt X.P ops k ≠ 3) → ∀ x, x < (S m).H.length → hget (S i).H x = hget (S m).H x
  | 0, h1, _, _, x, hx => by rw [Nat.le_zero.1 h1]
  | i + 1, h1, h2, h3, x, hx => by
    by_cases e : m = i + 1
    · subst e; rfl
    · have ih := h.keep (i := i) (by omega) (by omega) (fun k h4 h5 => h3 k h4 (by omega)) x hx
      rcases h.quiet (i := i) (by omega) (h3 i (by omega) (by omega)) with e | ⟨_, _, vs, e⟩
      · rw [e, ih]
      · have := h.len_le (m := m) (i := i) (by omega) (by omega)
        rw [e, hget_push_lt (by omega), ih]

theorem Runs.made (h : Runs X ops S) {m : Nat} : ∀ {e : Nat}, m ≤ e → e ≤ ops.size → (∀ k, m ≤ k → k < e → clsAt X.P ops k ≠ 3) → ∀ x, (S m).H.length ≤ x → x < (S e).H.length →
    ∃ i, m ≤ i ∧ i < e ∧ clsAt X.P ops i = 2 ∧ (S i).t = true ∧ x = (S i).H.length ∧ hget (S (i + 1)).H x = hget (S e).H x
  | 0, h1, _, _, x, hx, hx' => by rw [Nat.le_zero.1 h1] at hx; omega
  | e + 1, h1, h2, h3, x, hx, hx' => by
    by_cases he : m = e + 1
    · subst he; omega
    · rcases h.quiet (i := e) (by omega) (h3 e (by omega) (by omega)) with q | ⟨hc, ht, vs, q⟩
      · rw [q] at hx'
        obtain ⟨i, g1, g2, g3, g4, g5, g6⟩ := h.made (e := e) (by omega) (by omega) (fun k h4 h5 => h3 k h4 (by omega)) x hx hx'
        exact ⟨i, g1, by omega, g3, g4, g5, by rw [g6, q]⟩
      · by_cases hxe : x < (S e).H.length
        · obtain ⟨i, g1, g2, g3, g4, g5, g6⟩ := h.made (e := e) (by omega) (by omega) (fun k h4 h5 => h3 k h4 (by omega)) x hx hxe
          exact ⟨i, g1, by omega, g3, g4, g5, by rw [g6, q, hget_push_lt hxe]⟩
        · rw [q, length_push] at hx'
          exact ⟨e, by omega, by omega, hc, ht, by omega, rfl⟩

def dstAt (ops : Array Oper) (j : Nat) : Option Tmp := (ops[j]?).bind (·.dst)

theorem Runs.look (h : Runs X ops S) {q : Nat} {k : Nat} : ∀ {i : Nat}, k ≤ i → i ≤ ops.size → (∀ j, k ≤ j → j < i → dstAt ops j ≠ some q) → eget (S i).inn q = eget (S k).inn q
  | 0, h1, _, _ => by rw [Nat.le_zero.1 h1]
  | i + 1, h1, h2, h3 => by
    by_cases e : k = i + 1
    · subst e; rfl
    · have ih := h.look (i := i) (by omega) (by omega) (fun j h4 h5 => h3 j h4 (by omega))
      obtain ⟨o, ho⟩ := get_op (ops := ops) (i := i) (by omega)
      have hs := h.step i o ho
      have hne := h3 i (by omega) (by omega)
      have hd : o.dst ≠ some q := by simpa [dstAt, ho] using hne
      rcases hs.put with ⟨_, e⟩ | ⟨d, hd', _, e⟩
      · rw [e, hs.same, ih]
      · rw [e, eget_cons, if_neg (fun e => hd (by rw [hd', e])), hs.same, ih]

theorem Runs.wrote (h : Runs X ops S) {q : Nat} {k i : Nat} (hk : k < i) (hi : i ≤ ops.size) (hd : dstAt ops k = some q) (hn : ∀ j, k < j → j < i → dstAt ops j ≠ some q) : eget (S i).inn q = some (S k).v ∧ q < X.nt := by
  obtain ⟨o, ho⟩ := get_op (ops := ops) (i := k) (by omega)
  have hs := h.step k o ho
  have hd' : o.dst = some q := by simpa [dstAt, ho] using hd
  rw [h.look (k := k + 1) (by omega) hi (fun j h1 h2 => hn j (by omega) h2)]
  rcases hs.put with ⟨e, _⟩ | ⟨d, e, hlt, e'⟩
  · rw [e] at hd'; simp at hd'
  · rw [e] at hd'; simp at hd'; subst hd'
    exact ⟨by rw [e', eget_cons, if_pos rfl], hlt⟩

theorem Runs.pair (h : Runs X ops S) {i j : Nat} (hij : i < j) (hj : j < ops.size) : bitOf (Region.before ops) j i = true ∨ (¬ (clsAt X.P ops j = 3 ∧ 2 ≤ clsAt X.P ops i) ∧ ∃ x y, ops[i]? = some x ∧ ops[j]? = some y ∧ x.apart ops y = true) := by
  have hok := h.ok
  unfold drawOk at hok
  simp only [List.all_eq_true, List.mem_range, Bool.and_eq_true] at hok
  have := (hok j hj).2 i hij
  unfold pairOk at this
  rcases Bool.or_eq_true_iff.1 this with h1 | h1
  · exact .inl h1
  · right
    simp only [Bool.and_eq_true, Bool.not_eq_true'] at h1
    obtain ⟨h2, h3⟩ := h1
    refine ⟨fun ⟨e1, e2⟩ => ?_, ?_⟩
    · rw [e1] at h2
      have : Nat.ble 2 (clsAt X.P ops i) = true := Nat.ble_eq_true_of_le e2
      rw [this] at h2; simp at h2
    · split at h3
      · rename_i x y hx hy; exact ⟨x, y, hx, hy, h3⟩
      · simp at h3

theorem Runs.edges (h : Runs X ops S) {j : Nat} {o : Oper} (ho : ops[j]? = some o) : ∀ e ∈ o.after.toList, Region.binds .any e = true → e.on < j := by
  have hok := h.ok
  unfold drawOk at hok
  simp only [List.all_eq_true, List.mem_range, Bool.and_eq_true] at hok
  have := (hok j (op_lt ho)).1
  unfold edgesOk at this
  rw [ho] at this
  simp only [List.all_eq_true] at this
  intro e he hb
  have := this e he
  rw [hb] at this
  have h2 : e.on + 1 ≤ j := by simpa [Nat.blt] using this
  exact h2

/-- The blocks that are there when a set of operations has run: those of the stage, and those that were made since. -/
def Dom (X : Cx) (ops : Array Oper) (S : Nat → St) (m : Nat) (L : Nat → Prop) (x : Nat) : Prop :=
  x < (S m).H.length ∨ ∃ i, m ≤ i ∧ i < ops.size ∧ L i ∧ clsAt X.P ops i = 2 ∧ (S i).t = true ∧ x = (S i).H.length

structure Inv (X : Cx) (ops : Array Oper) (S : Nat → St) (ι₀ : Io) (w₀ : World) (L : Nat → Prop) (ι : Io) (G : Heap) (m : Nat) (a : Act) (w : World) : Prop where
  mle : m ≤ ops.size
  stage : ∀ e, e < ops.size → clsAt X.P ops e = 3 → (L e ↔ e < m)
  last : m = 0 ∨ clsAt X.P ops (m - 1) = 3
  down : ∀ j i, L j → bitOf (Region.before ops) j i = true → L i
  dom : ∀ j, L j → j < ops.size
  len : G.length = (S ops.size).H.length
  old : ∀ x, x < (S m).H.length → hget G x = hget (S m).H x
  pend : ∀ i, m ≤ i → i < ops.size → L i → clsAt X.P ops i = 2 → (S i).t = true → hget G (S i).H.length = hget (S (i + 1)).H (S i).H.length
  dead : ∀ x, (S m).H.length ≤ x → x < (S ops.size).H.length → (∀ i, m ≤ i → i < ops.size → L i → clsAt X.P ops i = 2 → (S i).t = true → x ≠ (S i).H.length) → G[x]? = some none
  rel : Rel ι (Dom X ops S m L) G w
  fr : Fr ι₀ (S 0).H w₀ ι G w
  size : a.tmps.size = X.nt
  env : ∀ q i, i ≤ ops.size → (∀ j, j < ops.size → dstAt ops j = some q → (L j ↔ j < i)) → ∀ v, eget (S i).inn q = some v → VRel ι (Dom X ops S m L) v (a.tmps.getD q undef)
  defers : a.defers = []

variable {ι₀ : Io} {w₀ : World} {L : Nat → Prop} {ι : Io} {G : Heap} {m : Nat} {a : Act} {w : World}

/-- An operation that may run next: it has not run, and what it comes behind has. -/
structure Next (ops : Array Oper) (L : Nat → Prop) (i : Nat) (o : Oper) : Prop where
  op : ops[i]? = some o
  not : ¬ L i
  anc : ∀ k, bitOf (Region.before ops) i k = true → L k

theorem Inv.loc (h : Inv X ops S ι₀ w₀ L ι G m a w) (hr : Runs X ops S) {i : Nat} {o : Oper} (hn : Next ops L i o) : LocE ι (Dom X ops S m L) X.nt (o.looksAt ops) (S i).inn a := by
  have hi := op_lt hn.op
  refine ⟨h.size, fun s hs v hv => h.env s i (by omega) (fun j hj hd => ?_) v hv⟩
  obtain ⟨oj, hoj⟩ := get_op hj
  have hd' : oj.dst = some s := by simpa [dstAt, hoj] using hd
  rcases Nat.lt_trichotomy j i with hlt | rfl | hlt
  · refine ⟨fun _ => hlt, fun _ => ?_⟩
    rcases hr.pair hlt hi with hb | ⟨_, x, y, hx, hy, hap⟩
    · exact hn.anc j hb
    · rw [hoj] at hx; rw [hn.op] at hy; simp at hx hy; subst hx; subst hy
      exact absurd hs ((Oper.apart_spec hap).1 s hd')
  · exact ⟨fun hL => absurd hL hn.not, fun hlt => by omega⟩
  · refine ⟨fun hL => ?_, fun h => by omega⟩
    rcases hr.pair hlt hj with hb | ⟨_, x, y, hx, hy, hap⟩
    · exact absurd (h.down j i hL hb) hn.not
    · rw [hn.op] at hx; rw [hoj] at hy; simp at hx hy; subst hx; subst hy
      exact absurd hs ((Oper.apart_spec hap).2.2 s hd')

def addL (L : Nat → Prop) (i : Nat) : Nat → Prop := fun j => L j ∨ j = i

theorem Next.down' {i : Nat} {o : Oper} (hn : Next ops L i o) (hdown : ∀ j k, L j → bitOf (Region.before ops) j k = true → L k) : ∀ j k, addL L i j → bitOf (Region.before ops) j k = true → addL L i k := by
  rintro j k (hj | rfl) hb
  · exact .inl (hdown j k hj hb)
  · exact .inl (hn.anc k hb)

/-- The slots behind an operation. -/
theorem Inv.env_put (h : Inv X ops S ι₀ w₀ L ι G m a w) (hr : Runs X ops S) {i : Nat} {o : Oper} (hn : Next ops L i o) {ι' : Io} {D' : Nat → Prop} {c : Value} (hc : VRel ι' D' (S i).v c)
    (hmono : ∀ {v c : Value}, VRel ι (Dom X ops S m L) v c → VRel ι' D' v c) :
    ∀ q k, k ≤ ops.size → (∀ j, j < ops.size → dstAt ops j = some q → (addL L i j ↔ j < k)) → ∀ v, eget (S k).inn q = some v → VRel ι' D' v ((a.put o.dst c).tmps.getD q undef) := by
  intro q k hk hcond v hv
  have hi := op_lt hn.op
  by_cases hq : o.dst = some q
  · have hdi : dstAt ops i = some q := by simp [dstAt, hn.op, hq]
    have hik : i < k := (hcond i hi hdi).1 (.inr rfl)
    have hno : ∀ j, i < j → j < k → dstAt ops j ≠ some q := by
      intro j h1 h2 hd
      have hj : j < ops.size := by omega
      have hL : L j := by
        rcases (hcond j hj hd).2 h2 with hL | rfl
        · exact hL
        · omega
      rcases hr.pair h1 hj with hb | ⟨_, x, y, hx, hy, hap⟩
      · exact hn.not (h.down j i hL hb)
      · rw [hn.op] at hx; simp at hx; subst hx
        have : y.dst = some q := by simpa [dstAt, hy] using hd
        exact (Oper.apart_spec hap).2.1 q hq this
    obtain ⟨e1, e2⟩ := hr.wrote hik hk hdi hno
    rw [e1] at hv; simp at hv; subst hv
    rw [hq]
    simp only [Act.put]
    rw [getD_set (by rw [h.size]; exact e2), if_pos rfl]
    exact hc
  · have hsame : (a.put o.dst c).tmps.getD q undef = a.tmps.getD q undef := by
      cases hd : o.dst with
      | none => rfl
      | some d =>
        have hne : d ≠ q := fun e => hq (by rw [hd, e])
        simp only [Act.put, Array.getD_eq_getD_getElem?, Array.getElem?_setIfInBounds_ne hne]
    rw [hsame]
    refine hmono (h.env q k hk (fun j hj hd => ?_) v hv)
    have hji : j ≠ i := fun e => hq (by subst e; simpa [dstAt, hn.op] using hd)
    rw [← hcond j hj hd]
    exact ⟨fun hL => .inl hL, fun hL => hL.resolve_right hji⟩

theorem put_size (a : Act) (dst : Option Tmp) (c : Value) : (a.put dst c).tmps.size = a.tmps.size := by cases dst <;> simp [Act.put]

/-- An operation that leaves the blocks alone. -/
theorem Inv.still (h : Inv X ops S ι₀ w₀ L ι G m a w) (hr : Runs X ops S) {i : Nat} {o : Oper} (hn : Next ops L i o) (hc3 : clsAt X.P ops i ≠ 3) (hc2 : clsAt X.P ops i = 2 → (S i).t = false) {c : Value} (hc : VRel ι (Dom X ops S m L) (S i).v c) :
    Inv X ops S ι₀ w₀ (addL L i) ι G m (a.put o.dst c) w := by
  have hi := op_lt hn.op
  have hdom : ∀ x, Dom X ops S m L x → Dom X ops S m (addL L i) x := by
    rintro x (hx | ⟨k, h1, h2, h3, h4, h5, h6⟩)
    · exact .inl hx
    · exact .inr ⟨k, h1, h2, .inl h3, h4, h5, h6⟩
  have hback : ∀ k, addL L i k → clsAt X.P ops k = 2 → (S k).t = true → L k := by
    rintro k (hL | rfl) h2 ht
    · exact hL
    · rw [hc2 h2] at ht; simp at ht
  have hmono : ∀ {v c : Value}, VRel ι (Dom X ops S m L) v c → VRel ι (Dom X ops S m (addL L i)) v c := fun hv => hv.mono hdom fun _ _ => rfl
  refine ⟨h.mle, fun e he hce => ?_, h.last, hn.down' h.down, ?_, h.len, h.old, fun k h1 h2 h3 h4 h5 => h.pend k h1 h2 (hback k h3 h4 h5) h4 h5, fun x h1 h2 h3 => h.dead x h1 h2 (fun k g1 g2 g3 g4 g5 => h3 k g1 g2 (.inl g3) g4 g5), h.rel.domain hdom, h.fr,
    by rw [put_size]; exact h.size, h.env_put hr hn (hmono hc) hmono, by rw [put_defers]; exact h.defers⟩
  · have hne : e ≠ i := fun e' => hc3 (e' ▸ hce)
    rw [← h.stage e he hce]
    exact ⟨fun hL => hL.resolve_right hne, fun hL => .inl hL⟩
  · rintro j (hL | rfl)
    · exact h.dom j hL
    · exact hi

theorem Inv.a_after (h : Inv X ops S ι₀ w₀ L ι G m a w) (hr : Runs X ops S) {i : Nat} {o : Oper} (hn : Next ops L i o) (hc : clsAt X.P ops i = 2) : m ≤ i := by
  have hi := op_lt hn.op
  by_cases hlt : m ≤ i
  · exact hlt
  · exfalso
    rcases h.last with hm | hm
    · omega
    · have hm1 : m - 1 < ops.size := by have := h.mle; omega
      have hL : L (m - 1) := (h.stage (m - 1) hm1 hm).2 (by omega)
      have hne : i ≠ m - 1 := fun e => by rw [e, hm] at hc; omega
      rcases hr.pair (i := i) (j := m - 1) (by omega) hm1 with hb | ⟨hx, _⟩
      · exact hn.not (h.down _ _ hL hb)
      · exact hx ⟨hm, by omega⟩

/-- An operation that makes a block. -/
theorem Inv.make (h : Inv X ops S ι₀ w₀ L ι G m a w) (hr : Runs X ops S) {i : Nat} {o : Oper} (hn : Next ops L i o) (hc : clsAt X.P ops i = 2) (ht : (S i).t = true) {vs cs rest : List Value} {ety : TypeId} {fz : Nat × Nat} {w0 : World} {c : Value}
    (hH : (S (i + 1)).H = hpush (S i).H vs) (hl : LRel ι (Dom X ops S m L) vs cs) (hcell : ∀ v ∈ vs, isCell v = true) (hfz : Thaw fz (cs ++ rest).length) (e1 : w0.heap = w.heap) (e2 : w0.os = w.os) (e3 : w0.tape = w.tape) (e4 : w0.output = w.output)
    (hv : VRel (ι.set (S i).H.length ⟨w.heap.size, 0, (cs ++ rest).length⟩) (fun b => Dom X ops S m L b ∨ b = (S i).H.length) (S i).v c) :
    Inv X ops S ι₀ w₀ (addL L i) (ι.set (S i).H.length ⟨w.heap.size, 0, (cs ++ rest).length⟩) (G.set (S i).H.length (some ⟨vs, false⟩)) m (a.put o.dst c) (w0.alloc (.cells (cs ++ rest).toArray ety fz)) := by
  have hi := op_lt hn.op
  have hmi := h.a_after hr hn hc
  have hlen := hr.alloc_len hi hc ht
  have hmle := hr.len_le hmi (by omega)
  have hle := hr.len_le (m := i + 1) (i := ops.size) (by omega) (Nat.le_refl _)
  have hinj : ∀ k, m ≤ k → k < ops.size → clsAt X.P ops k = 2 → (S k).t = true → k ≠ i → (S k).H.length ≠ (S i).H.length := by
    intro k h1 h2 h3 h4 h5
    rcases Nat.lt_or_gt_of_ne h5 with hlt | hlt
    · have := hr.alloc_len h2 h3 h4
      have := hr.len_le (m := k + 1) (i := i) (by omega) (by omega)
      omega
    · have := hr.len_le (m := i + 1) (i := k) (by omega) (by omega)
      omega
  have hnD : ¬ Dom X ops S m L (S i).H.length := by
    rintro (hx | ⟨k, h1, h2, h3, h4, h5, h6⟩)
    · omega
    · by_cases e : k = i
      · subst e; exact hn.not h3
      · exact hinj k h1 h2 h4 h5 e h6.symm
  have hG : G[(S i).H.length]? = some none := h.dead _ hmle (by omega) (fun k g1 g2 g3 g4 g5 e => hinj k g1 g2 g4 g5 (fun e' => hn.not (e' ▸ g3)) e.symm)
  have hGl : (S i).H.length < G.length := (List.getElem?_eq_some_iff.1 hG).1
  have hD : ∀ b, (Dom X ops S m L b ∨ b = (S i).H.length) → Dom X ops S m (addL L i) b := by
    rintro b ((hx | ⟨k, h1, h2, h3, h4, h5, h6⟩) | rfl)
    · exact .inl hx
    · exact .inr ⟨k, h1, h2, .inl h3, h4, h5, h6⟩
    · exact .inr ⟨i, hmi, hi, .inr rfl, hc, ht, rfl⟩
  have hw : w0.heap.size = w.heap.size := by rw [e1]
  have hrel := (h.rel.same_heap e1).fill hG hnD hl hcell rest ety fz hfz
  rw [hw] at hrel
  have hmono : ∀ {v c : Value}, VRel ι (Dom X ops S m L) v c → VRel (ι.set (S i).H.length ⟨w.heap.size, 0, (cs ++ rest).length⟩) (Dom X ops S m (addL L i)) v c :=
    fun hr => hr.mono (fun b hb => hD b (.inl hb)) fun b hb => Io.set_ne _ _ (fun e => hnD (e ▸ hb))
  refine ⟨h.mle, fun e he hce => ?_, h.last, hn.down' h.down, ?_, by rw [List.length_set]; exact h.len, fun x hx => ?_, fun k g1 g2 g3 g4 g5 => ?_, fun x g1 g2 g3 => ?_, hrel.domain hD, ?_, by rw [put_size]; exact h.size,
    h.env_put hr hn (hv.mono hD fun _ _ => rfl) hmono, by rw [put_defers]; exact h.defers⟩
  · have hne : e ≠ i := fun e' => by rw [e'] at hce; omega
    rw [← h.stage e he hce]
    exact ⟨fun hL => hL.resolve_right hne, fun hL => .inl hL⟩
  · rintro j (hL | rfl)
    · exact h.dom j hL
    · exact hi
  · rw [hget_set_ne (by omega)]; exact h.old x hx
  · by_cases e : k = i
    · subst e; rw [hget_set_same hGl, hH, hget_push_new]
    · rw [hget_set_ne (Ne.symm (hinj k g1 g2 g4 g5 e))]
      exact h.pend k g1 g2 (g3.resolve_right e) g4 g5
  · have hne : (S i).H.length ≠ x := Ne.symm (g3 i hmi hi (.inr rfl) hc ht)
    rw [List.getElem?_set_ne hne]
    exact h.dead x g1 g2 (fun k q1 q2 q3 q4 q5 => g3 k q1 q2 (.inl q3) q4 q5)
  · have hgc : ∀ {b : Nat} {k : Blk}, hget (G.set (S i).H.length (some ⟨vs, false⟩)) b = some k → (b = (S i).H.length ∧ k.ro = false) ∨ (b ≠ (S i).H.length ∧ hget G b = some k) := by
      intro b k hb
      by_cases e : b = (S i).H.length
      · subst e; rw [hget_set_same hGl] at hb; simp at hb; subst hb; exact .inl ⟨rfl, rfl⟩
      · rw [hget_set_ne (Ne.symm e)] at hb; exact .inr ⟨e, hb⟩
    have h0 := hr.len_le (m := 0) (i := i) (by omega) (by omega)
    refine ⟨by rw [List.length_set]; exact h.fr.len, fun b hb => by rw [Io.set_ne _ _ (by omega)]; exact h.fr.io b hb, e2.trans h.fr.os, e3.trans h.fr.tape, e4.trans h.fr.output, ?_, fun k hk hno => ?_, fun b k hb hro => ?_, fun b k hb hro => ?_⟩
    · rw [World.size_alloc, hw]; have := h.fr.size; omega
    · rw [heap_alloc_lt _ _ (by rw [hw]; have := h.fr.size; omega), e1]; exact h.fr.frame k hk hno
    · rcases hgc hb with ⟨rfl, _⟩ | ⟨e, hb⟩
      · left; rw [Io.set_same]; exact h.fr.size
      · rw [Io.set_ne _ _ e]; exact h.fr.new b k hb hro
    · rcases hgc hb with ⟨rfl, e⟩ | ⟨e, hb⟩
      · rw [e] at hro; simp at hro
      · exact h.fr.ro b k hb hro

/-- Before an operation of class 3 the blocks are those of the text's order. -/
theorem Inv.at_e (h : Inv X ops S ι₀ w₀ L ι G m a w) (hr : Runs X ops S) {e : Nat} {o : Oper} (hn : Next ops L e o) (hc : clsAt X.P ops e = 3) :
    m ≤ e ∧ (∀ x, x < (S e).H.length → hget G x = hget (S e).H x) ∧ (∀ x, Dom X ops S m L x → x < (S e).H.length ∨ ∃ i, e + 1 ≤ i ∧ i < ops.size ∧ L i ∧ clsAt X.P ops i = 2 ∧ (S i).t = true ∧ x = (S i).H.length) := by
  have he := op_lt hn.op
  have hme : m ≤ e := by
    by_cases hlt : m ≤ e
    · exact hlt
    · exact absurd ((h.stage e he hc).2 (by omega)) hn.not
  have hno : ∀ k, m ≤ k → k < e → clsAt X.P ops k ≠ 3 := by
    intro k h1 h2 h3
    rcases hr.pair h2 he with hb | ⟨hx, _⟩
    · have := (h.stage k (by omega) h3).1 (hn.anc k hb); omega
    · exact hx ⟨hc, by omega⟩
  refine ⟨hme, fun x hx => ?_, ?_⟩
  · by_cases hxm : x < (S m).H.length
    · rw [h.old x hxm, hr.keep hme (by omega) hno x hxm]
    · obtain ⟨i, g1, g2, g3, g4, g5, g6⟩ := hr.made hme (by omega) hno x (by omega) hx
      have hL : L i := by
        rcases hr.pair g2 he with hb | ⟨hx, _⟩
        · exact hn.anc i hb
        · exact absurd ⟨hc, by omega⟩ hx
      have := h.pend i g1 (by omega) hL g3 g4
      rw [← g5] at this
      rw [this, g6]
  · rintro x (hx | ⟨i, h1, h2, h3, h4, h5, h6⟩)
    · have := hr.len_le hme (by omega); exact .inl (by omega)
    · rcases Nat.lt_trichotomy i e with hlt | rfl | hlt
      · have := hr.alloc_len h2 h4 h5
        have := hr.len_le (m := i + 1) (i := e) (by omega) (by omega)
        exact .inl (by omega)
      · rw [hc] at h4; omega
      · exact .inr ⟨i, by omega, h2, h3, h4, h5, h6⟩

/-- An operation of class 3 that is not wanted. -/
theorem Inv.skip3 (h : Inv X ops S ι₀ w₀ L ι G m a w) (hr : Runs X ops S) {e : Nat} {o : Oper} (hn : Next ops L e o) (hc : clsAt X.P ops e = 3) (ht : (S e).t = false) {c : Value} (hv : ∀ D, VRel ι D (S e).v c) :
    Inv X ops S ι₀ w₀ (addL L e) ι G (e + 1) (a.put o.dst c) w := by
  have he := op_lt hn.op
  obtain ⟨hme, hold, hdom⟩ := h.at_e hr hn hc
  have hH : (S (e + 1)).H = (S e).H := ((hr.step e o hn.op).no ht).2
  have hD : ∀ x, Dom X ops S m L x → Dom X ops S (e + 1) (addL L e) x := by
    intro x hx
    rcases hdom x hx with h1 | ⟨i, h1, h2, h3, h4, h5, h6⟩
    · left; rw [hH]; exact h1
    · exact .inr ⟨i, h1, h2, .inl h3, h4, h5, h6⟩
  have hmono : ∀ {v c : Value}, VRel ι (Dom X ops S m L) v c → VRel ι (Dom X ops S (e + 1) (addL L e)) v c := fun hr => hr.mono hD fun _ _ => rfl
  have hback : ∀ k, addL L e k → clsAt X.P ops k = 2 → L k := by
    rintro k (hL | rfl) h2
    · exact hL
    · rw [hc] at h2; omega
  refine ⟨by omega, fun k hk hck => ?_, .inr hc, hn.down' h.down, ?_, h.len, fun x hx => by rw [hH] at hx ⊢; exact hold x hx, fun k g1 g2 g3 g4 g5 => h.pend k (by omega) g2 (hback k g3 g4) g4 g5, fun x g1 g2 g3 => ?_, h.rel.domain hD, h.fr, by rw [put_size]; exact h.size,
    h.env_put hr hn (hv _) hmono, by rw [put_defers]; exact h.defers⟩
  · constructor
    · rintro (hL | rfl)
      · have := (h.stage k hk hck).1 hL; omega
      · omega
    · intro hlt
      by_cases e' : k = e
      · exact .inr e'
      · refine .inl ?_
        by_cases hkm : k < m
        · exact (h.stage k hk hck).2 hkm
        · exfalso
          rcases hr.pair (i := k) (j := e) (by omega) he with hb | ⟨hx, _⟩
          · have := (h.stage k hk hck).1 (hn.anc k hb); omega
          · exact hx ⟨hc, by omega⟩
  · rintro j (hL | rfl)
    · exact h.dom j hL
    · exact he
  · refine h.dead x ?_ g2 (fun k q1 q2 q3 q4 q5 hx => ?_)
    · have := hr.len_le hme (by omega); rw [hH] at g1; omega
    · rcases Nat.lt_trichotomy k e with hlt | rfl | hlt
      · have := hr.alloc_len q2 q4 q5
        have := hr.len_le (m := k + 1) (i := e) (by omega) (by omega)
        rw [hH] at g1; omega
      · rw [hc] at q4; omega
      · exact g3 k (by omega) q2 (.inl q3) q4 q5 hx

theorem Inv.rel_e (h : Inv X ops S ι₀ w₀ L ι G m a w) (hr : Runs X ops S) {e : Nat} {o : Oper} (hn : Next ops L e o) (hc : clsAt X.P ops e = 3) : Rel ι (Bel (S e).H.length) (S e).H w := by
  have he := op_lt hn.op
  obtain ⟨hme, hold, hdom⟩ := h.at_e hr hn hc
  have hcl := (hr.abs e (by omega)).2.1
  have hG : ∀ {b : Nat} {k : Blk}, hget (S e).H b = some k → hget G b = some k := fun hb => by rw [hold _ (hget_lt hb)]; exact hb
  refine ⟨fun b k hb => ?_, fun b b' k k' h1 h2 => h.rel.inj b b' k k' (hG h1) (hG h2), fun b k hb hr => h.rel.nog b k (hG hb) hr, h.rel.gw⟩
  exact (h.rel.blk b k (hG hb)).of_block rfl rfl fun i hi c hv => hv.re (hcl b (hget_lt hb) k hb _ (List.getElem_mem hi)) fun _ _ _ => rfl

theorem Inv.env_e (h : Inv X ops S ι₀ w₀ L ι G m a w) (hr : Runs X ops S) {e : Nat} {o : Oper} (hn : Next ops L e o) : ERel ι (Dom X ops S m L) X.nt (restr (opTmps o) (S e).env) a := by
  have hl := h.loc hr hn
  refine LocE.restr ⟨hl.size, fun s hs v hv => ?_⟩
  rw [(hr.step e o hn.op).same] at hv
  exact hl.get s (by rw [looksAt_eq]; exact List.mem_append.2 (.inl hs)) v hv

theorem Inv.env_e3 (h : Inv X ops S ι₀ w₀ L ι G m a w) (hr : Runs X ops S) {e : Nat} {o : Oper} (hn : Next ops L e o) : ERel ι (Bel (S e).H.length) X.nt (restr (opTmps o) (S e).env) a := by
  have h1 := h.env_e hr hn
  exact ⟨h1.size, fun s v hv => (h1.get s v hv).re ((hr.envLt' (op_lt hn.op)).restr s v hv) fun _ _ _ => rfl⟩

/-- An operation of class 3. -/
theorem Inv.eff (h : Inv X ops S ι₀ w₀ L ι G m a w) (hr : Runs X ops S) {e : Nat} {o : Oper} (hn : Next ops L e o) (hc : clsAt X.P ops e = 3) {ι' : Io} {w' : World} {c : Value}
    (hR : Rel ι' (Bel (S (e + 1)).H.length) (S (e + 1)).H w') (hv : VRel ι' (Bel (S (e + 1)).H.length) (S e).v c) (hf : Fr ι (S e).H w ι' (S (e + 1)).H w') :
    Inv X ops S ι₀ w₀ (addL L e) (fun x => if x < (S (e + 1)).H.length then ι' x else ι x) ((S (e + 1)).H ++ G.drop (S (e + 1)).H.length) (e + 1) (a.put o.dst c) w' := by
  have he := op_lt hn.op
  obtain ⟨hme, hold, hdom⟩ := h.at_e hr hn hc
  have hle : (S (e + 1)).H.length ≤ G.length := by rw [h.len]; exact hr.len_le (by omega) (Nat.le_refl _)
  have hlen1 := hr.len_succ he
  have hG : ∀ {b : Nat} {k : Blk}, hget (S e).H b = some k → hget G b = some k := fun hb => by rw [hold _ (hget_lt hb)]; exact hb
  have hlt : ∀ {x : Nat}, x < (S (e + 1)).H.length → hget ((S (e + 1)).H ++ G.drop (S (e + 1)).H.length) x = hget (S (e + 1)).H x := fun hx => hget_append_left hx
  have hge : ∀ {x : Nat}, (S (e + 1)).H.length ≤ x → ((S (e + 1)).H ++ G.drop (S (e + 1)).H.length)[x]? = G[x]? := by
    intro x hx
    rw [List.getElem?_append_right hx, List.getElem?_drop]
    congr 1; omega
  have hge' : ∀ {x : Nat}, (S (e + 1)).H.length ≤ x → hget ((S (e + 1)).H ++ G.drop (S (e + 1)).H.length) x = hget G x := by
    intro x hx; unfold hget; rw [hge hx]
  have hpl : ∀ i, e + 1 ≤ i → i < ops.size → (S (e + 1)).H.length ≤ (S i).H.length := fun i h1 h2 => hr.len_le h1 (by omega)
  have hD : ∀ x, Dom X ops S m L x → Dom X ops S (e + 1) (addL L e) x ∧ (if x < (S (e + 1)).H.length then ι' x else ι x) = ι x := by
    intro x hx
    rcases hdom x hx with h1 | ⟨i, h1, h2, h3, h4, h5, h6⟩
    · exact ⟨.inl (by omega), by rw [if_pos (by omega)]; exact hf.io x h1⟩
    · have := hpl i h1 h2
      exact ⟨.inr ⟨i, h1, h2, .inl h3, h4, h5, h6⟩, by rw [if_neg (by omega)]⟩
  have hmono : ∀ {v c : Value}, VRel ι (Dom X ops S m L) v c → VRel (fun x => if x < (S (e + 1)).H.length then ι' x else ι x) (Dom X ops S (e + 1) (addL L e)) v c :=
    fun hr => hr.mono (fun x hx => (hD x hx).1) fun x hx => (hD x hx).2
  have hmono' : ∀ {v c : Value}, VRel ι' (Bel (S (e + 1)).H.length) v c → VRel (fun x => if x < (S (e + 1)).H.length then ι' x else ι x) (Dom X ops S (e + 1) (addL L e)) v c :=
    fun hr => hr.mono (fun x hx => .inl hx) fun x hx => if_pos hx
  have hback : ∀ k, addL L e k → clsAt X.P ops k = 2 → L k := by
    rintro k (hL | rfl) h2
    · exact hL
    · rw [hc] at h2; omega
  -- a block that lies behind those of the text's order
  have hpend : ∀ {x : Nat} {k : Blk}, (S (e + 1)).H.length ≤ x → hget G x = some k → ∃ i, e + 1 ≤ i ∧ i < ops.size ∧ L i ∧ clsAt X.P ops i = 2 ∧ (S i).t = true ∧ x = (S i).H.length ∧ k.ro = false := by
    intro x k hx hk
    have hxG := hget_lt hk
    rw [h.len] at hxG
    apply Classical.byContradiction
    intro hno
    have hdead := h.dead x (by have := hr.len_le hme (by omega : e ≤ ops.size); omega) hxG (fun i g1 g2 g3 g4 g5 hx' => by
      rcases Nat.lt_trichotomy i e with hl | rfl | hl
      · have := hr.alloc_len g2 g4 g5
        have := hr.len_le (m := i + 1) (i := e) (by omega) (by omega)
        omega
      · rw [hc] at g4; omega
      · have hp := h.pend i g1 g2 g3 g4 g5
        rw [← hx', hk] at hp
        obtain ⟨oi, hoi⟩ := get_op g2
        have hF := (hr.step i oi hoi).yes g5
        have hcls := cls_at (P := X.P) hoi
        rw [g4] at hcls
        unfold OpF at hF
        rw [← hcls] at hF
        obtain ⟨vs, mk, _, eH, _⟩ := hF
        rw [hx', eH, hget_push_new] at hp
        simp at hp
        exact hno ⟨i, by omega, g2, g3, g4, g5, hx', by rw [hp]⟩)
    unfold hget at hk; rw [hdead] at hk; simp at hk
  have hlive : ∀ {x : Nat} {k : Blk}, hget ((S (e + 1)).H ++ G.drop (S (e + 1)).H.length) x = some k → (x < (S (e + 1)).H.length ∧ hget (S (e + 1)).H x = some k) ∨ ((S (e + 1)).H.length ≤ x ∧ hget G x = some k ∧ k.ro = false) := by
    intro x k hk
    by_cases hx : x < (S (e + 1)).H.length
    · rw [hlt hx] at hk; exact .inl ⟨hx, hk⟩
    · rw [hge' (by omega)] at hk
      obtain ⟨i, _, _, _, _, _, _, hro⟩ := hpend (by omega) hk
      exact .inr ⟨by omega, hk, hro⟩
  -- the places of the two kinds differ
  have hapart : ∀ {x y : Nat} {k k' : Blk}, x < (S (e + 1)).H.length → hget (S (e + 1)).H x = some k → (S (e + 1)).H.length ≤ y → hget G y = some k' → k'.ro = false → (ι' x).blk ≠ (ι y).blk := by
    intro x y k k' hx hk hy hk' hro
    have hyl := h.rel.lt hk'
    cases hkr : k.ro with
    | false =>
      rcases hf.new x k hk hkr with h1 | ⟨b0, k0, h1, h2, h3⟩
      · omega
      · rw [← h3]
        have := hget_lt h1
        exact h.rel.inj b0 y k0 k' (hG h1) hk' (by omega) (.inr hro)
    | true =>
      have h1 := hf.ro x k hk hkr
      have h2 := hget_lt h1
      rw [hf.io x h2]
      exact h.rel.inj x y k k' (hG h1) hk' (by omega) (.inr hro)
  refine ⟨by omega, fun k hk hck => ?_, .inr hc, hn.down' h.down, ?_, by rw [List.length_append, List.length_drop, ← h.len]; omega, fun x hx => hlt hx, fun k g1 g2 g3 g4 g5 => ?_, fun x g1 g2 g3 => ?_, ⟨fun x k hk => ?_, fun x y k k' h1 h2 hne hro => ?_, fun x k hk hro => (by
      rcases hlive hk with ⟨g1, g2⟩ | ⟨g1, g2, _⟩
      · rw [if_pos g1]; exact hR.nog x k g2 hro
      · rw [if_neg (by omega)]; exact h.rel.nog x k g2 hro), hR.gw⟩, ?_, by rw [put_size]; exact h.size,
    h.env_put hr hn (hmono' hv) hmono, by rw [put_defers]; exact h.defers⟩
  · constructor
    · rintro (hL | rfl)
      · have := (h.stage k hk hck).1 hL; omega
      · omega
    · intro hlt'
      by_cases e' : k = e
      · exact .inr e'
      · refine .inl ?_
        by_cases hkm : k < m
        · exact (h.stage k hk hck).2 hkm
        · exfalso
          rcases hr.pair (i := k) (j := e) (by omega) he with hb | ⟨hx, _⟩
          · have := (h.stage k hk hck).1 (hn.anc k hb); omega
          · exact hx ⟨hc, by omega⟩
  · rintro j (hL | rfl)
    · exact h.dom j hL
    · exact he
  · rw [hge' (hpl k g1 g2)]; exact h.pend k (by omega) g2 (hback k g3 g4) g4 g5
  · rw [hge g1]
    refine h.dead x (by have := hr.len_le hme (by omega : e ≤ ops.size); omega) g2 (fun k q1 q2 q3 q4 q5 hx => ?_)
    rcases Nat.lt_trichotomy k e with hl | rfl | hl
    · have := hr.alloc_len q2 q4 q5
      have := hr.len_le (m := k + 1) (i := e) (by omega) (by omega)
      omega
    · rw [hc] at q4; omega
    · exact g3 k (by omega) q2 (.inl q3) q4 q5 hx
  · rcases hlive hk with ⟨h1, h2⟩ | ⟨h1, h2, hro⟩
    · exact (hR.blk x k h2).of_block rfl (if_pos h1) fun i hi c hr => hmono' hr
    · refine (h.rel.blk x k h2).of_block (hf.frame _ (h.rel.lt h2) ?_) (if_neg (by omega)) fun i hi c hr => hmono hr
      intro b k' hb hro'
      have := hget_lt hb
      exact h.rel.inj b x k' k (hG hb) h2 (by omega) (.inl hro')
  · rcases hlive h1 with ⟨g1, g2⟩ | ⟨g1, g2, hro1⟩
    · rcases hlive h2 with ⟨q1, q2⟩ | ⟨q1, q2, hro2⟩
      · rw [if_pos g1, if_pos q1]; exact hR.inj x y k k' g2 q2 hne hro
      · rw [if_pos g1, if_neg (by omega)]; exact hapart g1 g2 q1 q2 hro2
    · rcases hlive h2 with ⟨q1, q2⟩ | ⟨q1, q2, hro2⟩
      · rw [if_neg (by omega), if_pos q1]; exact Ne.symm (hapart q1 q2 g1 g2 hro1)
      · rw [if_neg (by omega), if_neg (by omega)]; exact h.rel.inj x y k k' g2 q2 hne hro
  · have h0 := hr.len_le (m := 0) (i := e) (by omega) (by omega)
    refine ⟨by simp; omega, fun b hb => by rw [if_pos (by omega), hf.io b (by omega)]; exact h.fr.io b hb, hf.os.trans h.fr.os, hf.tape.trans h.fr.tape, hf.output.trans h.fr.output, Nat.le_trans h.fr.size hf.size, fun k hk hno => ?_, fun x k hk hro => ?_, fun x k hk hro => ?_⟩
    · rw [hf.frame k (Nat.lt_of_lt_of_le hk h.fr.size) ?_, h.fr.frame k hk hno]
      intro b k' hb hro heq
      rcases h.fr.new b k' (hG hb) hro with h1 | ⟨b0, k0, h1, h2, h3⟩
      · omega
      · exact hno b0 k0 h1 h2 (h3.trans heq)
    · rcases hlive hk with ⟨g1, g2⟩ | ⟨g1, g2, _⟩
      · rw [if_pos g1]
        rcases hf.new x k g2 hro with h1 | ⟨b0, k0, h1, h2, h3⟩
        · exact .inl (Nat.le_trans h.fr.size h1)
        · rw [← h3]; exact h.fr.new b0 k0 (hG h1) h2
      · rw [if_neg (by omega)]; exact h.fr.new x k g2 hro
    · rcases hlive hk with ⟨g1, g2⟩ | ⟨g1, g2, hro'⟩
      · exact h.fr.ro x k (hG (hf.ro x k g2 hro)) hro
      · rw [hro'] at hro; simp at hro

theorem hget_ext {H G : Heap} (hlen : H.length ≤ G.length) {b : Nat} {k : Blk} (h : ∀ x, x < H.length → hget G x = hget H x) (hb : hget H b = some k) : hget G b = some k := by
  rw [h b (hget_lt hb)]; exact hb

theorem hload_ext {H G : Heap} (h : ∀ x, x < H.length → hget G x = hget H x) {p : Addr} {v : Value} (hl : hload H p = some v) : hload G p = some v := by
  unfold hload at hl ⊢
  obtain ⟨k, hk, hv⟩ := obind_some hl
  rw [h _ (hget_lt hk), hk]; exact hv

theorem hloadN_ext {H G : Heap} (h : ∀ x, x < H.length → hget G x = hget H x) {p : Addr} {n : Nat} {l : List Value} (hl : hloadN H p n = some l) : hloadN G p n = some l := by
  unfold hloadN at hl ⊢
  obtain ⟨k, hk, hv⟩ := obind_some hl
  rw [h _ (hget_lt hk), hk]; exact hv

theorem hload0_ext {H G : Heap} (h : ∀ x, x < H.length → hget G x = hget H x) {p : Addr} {n : Nat} {l : List Value} (hl : hload0 H p n = some l) : hload0 G p n = some l := by
  cases n with
  | zero => exact hl
  | succ m => exact hloadN_ext h hl

theorem rdOp_ext {P : Program} {op : Op} {env : Env} {H G : Heap} (h : ∀ x, x < H.length → hget G x = hget H x) {v : Value} (hl : rdOp P op env H = some v) : rdOp P op env G = some v := by
  unfold rdOp at hl ⊢
  cases op with
  | load t x =>
    simp only at hl ⊢
    cases hg : gRead P t x with
    | some q => rw [hg] at hl; exact hl
    | none =>
    rw [hg] at hl
    simp only at hl ⊢
    replace hl := obind_some hl; obtain ⟨u, hu, hl⟩ := hl
    rw [hu]; simp only [obind]
    replace hl := ptrS_some hl; obtain ⟨p, rfl, hl⟩ := hl
    simp only [ptrS]
    replace hl := obind_some hl; obtain ⟨i, hi, hl⟩ := hl
    rw [hi]; simp only
    split at hl
    · replace hl := obind_some hl; obtain ⟨l, h1, hl⟩ := hl
      rw [hloadN_ext h h1]; exact hl
    · replace hl := obind_some hl; obtain ⟨l, h1, hl⟩ := hl
      rw [hloadN_ext h h1]; exact hl
    · exact hload_ext h hl
    · simp at hl
  | convert s d x =>
    simp only at hl ⊢
    replace hl := obind_some hl; obtain ⟨u, hu, hl⟩ := hl
    rw [hu]; simp only [obind]
    replace hl := obind_some hl; obtain ⟨l, h1, hl⟩ := hl
    have : sliceCells G 1 u = some l := by
      unfold sliceCells at h1 ⊢
      split at h1
      · exact h1
      · exact hload0_ext h h1
      · simp at h1
    rw [this]; exact hl
  | _ => simp at hl

end

end Go.Ev
