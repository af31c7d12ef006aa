/-
  How the states of the interpreter by value stand for those of the first interpreter; what a step keeps.
  Conditions: none.
-/
import Derived.Test.YtpjlbjkeekobnaaDoorVDef
import Derived.Test.YtpjlbjkeekobnaaDoorHeap
set_option linter.all false
namespace Go.Pv
open Go.Ev

def All2 {α β : Type} (R : α → β → Prop) : List α → List β → Prop
  | [], [] => True
  | a :: r, b :: s => R a b ∧ All2 R r s
  | _, _ => False

theorem All2.length {α β : Type} {R : α → β → Prop} : ∀ {l : List α} {m : List β}, All2 R l m → l.length = m.length
  | [], [], _ => rfl
  | _ :: r, _ :: s, h => by simp [All2.length h.2]
theorem All2.mono {α β : Type} {R S : α → β → Prop} (f : ∀ a b, R a b → S a b) : ∀ {l : List α} {m : List β}, All2 R l m → All2 S l m
  | [], [], _ => trivial
  | _ :: r, _ :: s, h => ⟨f _ _ h.1, All2.mono f h.2⟩
theorem All2.append {α β : Type} {R : α → β → Prop} : ∀ {l : List α} {m : List β} {l' : List α} {m' : List β}, All2 R l m → All2 R l' m' → All2 R (l ++ l') (m ++ m')
  | [], [], _, _, _, h' => h'
  | _ :: r, _ :: s, _, _, h, h' => ⟨h.1, All2.append h.2 h'⟩
theorem All2.take {α β : Type} {R : α → β → Prop} : ∀ (n : Nat) {l : List α} {m : List β}, All2 R l m → All2 R (l.take n) (m.take n)
  | 0, _, _, _ => by simp [All2]
  | n + 1, [], [], _ => by simp [All2]
  | n + 1, _ :: r, _ :: s, h => by simp only [List.take_succ_cons]; exact ⟨h.1, All2.take n h.2⟩
theorem All2.drop {α β : Type} {R : α → β → Prop} : ∀ (n : Nat) {l : List α} {m : List β}, All2 R l m → All2 R (l.drop n) (m.drop n)
  | 0, _, _, h => by simpa using h
  | n + 1, [], [], _ => by simp [All2]
  | n + 1, _ :: r, _ :: s, h => by simp only [List.drop_succ_cons]; exact All2.drop n h.2
theorem All2.get {α β : Type} {R : α → β → Prop} : ∀ (n : Nat) {l : List α} {m : List β} {a : α}, All2 R l m → l[n]? = some a → ∃ b, m[n]? = some b ∧ R a b
  | 0, _ :: r, _ :: s, _, h, e => by simp at e; subst e; exact ⟨_, rfl, h.1⟩
  | n + 1, _ :: r, _ :: s, a, h, e => by simp only [List.getElem?_cons_succ] at e ⊢; exact All2.get n h.2 e
  | n, [], [], _, _, e => by simp at e

/-- How cells stand for a typed value; N tells which blocks it may lie in. -/
def Rep (N : Nat → Prop) (H : Heap) : (t : Ty) → t.T → List Value → Prop
  | .int k, x, cs => cs = [.int k x]
  | .bool, x, cs => cs = [.bool x]
  | .str, x, cs => cs = [.string x]
  | .sl t, x, cs => (x = [] ∧ cs = [.slice none 0 0]) ∨ (x = [] ∧ ∃ z o, cs = [.slice (some ⟨z, o, none⟩) 0 t.size]) ∨
      ∃ z o k, cs = [.slice (some ⟨z, o, none⟩) x.length t.size] ∧ N z ∧ hget H z = some k ∧ o + x.length * t.size ≤ k.cells.length ∧
        ∀ i (h : i < x.length), Rep N H t (x[i]) ((k.cells.drop (o + i * t.size)).take t.size)
  | .os _, _, cs => ∃ v, cs = [v] ∧ isCell v = true ∧ sameLeaf v v = true
  | .pair a b, x, cs => Rep N H a x.1 (cs.take a.size) ∧ Rep N H b x.2 (cs.drop a.size)

theorem Ty.size_pos : ∀ t : Ty, 0 < t.size
  | .int _ => by simp [Ty.size]
  | .bool => by simp [Ty.size]
  | .str => by simp [Ty.size]
  | .sl _ => by simp [Ty.size]
  | .os _ => by simp [Ty.size]
  | .pair a b => by have := Ty.size_pos a; simp [Ty.size]; omega

theorem Rep.len {N : Nat → Prop} {H : Heap} : ∀ (t : Ty) {x : t.T} {cs : List Value}, Rep N H t x cs → cs.length = t.size
  | .int _, _, _, h => by unfold Rep at h; subst h; rfl
  | .bool, _, _, h => by unfold Rep at h; subst h; rfl
  | .str, _, _, h => by unfold Rep at h; subst h; rfl
  | .sl t, _, _, h => by
    unfold Rep at h
    rcases h with ⟨_, rfl⟩ | ⟨_, _, _, rfl⟩ | ⟨_, _, _, rfl, _⟩ <;> rfl
  | .os t, _, _, h => by unfold Rep at h; obtain ⟨v, rfl, _⟩ := h; rfl
  | .pair a b, _, cs, h => by
    unfold Rep at h
    have h1 := Rep.len a h.1; have h2 := Rep.len b h.2
    have := Ty.size_pos a; have := Ty.size_pos b
    simp at h1 h2; simp [Ty.size]; omega

/-- It stays where its blocks stay. -/
theorem Rep.frame {N M : Nat → Prop} {H G : Heap} (h : ∀ z, N z → z < H.length → M z ∧ hget G z = hget H z) : ∀ (t : Ty) {x : t.T} {cs : List Value}, Rep N H t x cs → Rep M G t x cs
  | .int _, _, _, r => by unfold Rep at r ⊢; exact r
  | .bool, _, _, r => by unfold Rep at r ⊢; exact r
  | .str, _, _, r => by unfold Rep at r ⊢; exact r
  | .sl t, x, _, r => by
    unfold Rep at r ⊢
    rcases r with r | r | ⟨z, o, k, e, hN, hk, hl, hi⟩
    · exact .inl r
    · exact .inr (.inl r)
    · obtain ⟨g1, g2⟩ := h z hN (hget_lt hk)
      exact .inr (.inr ⟨z, o, k, e, g1, by rw [g2]; exact hk, hl, fun i hi' => Rep.frame h t (hi i hi')⟩)
  | .os _, _, _, r => by unfold Rep at r ⊢; exact r
  | .pair a b, _, _, r => by
    unfold Rep at r ⊢
    exact ⟨Rep.frame h a r.1, Rep.frame h b r.2⟩

theorem Rep.flat {N M : Nat → Prop} {H G : Heap} : ∀ (t : Ty) {x : t.T} {cs : List Value}, t.flat = true → Rep N H t x cs → Rep M G t x cs
  | .int _, _, _, _, r => by unfold Rep at r ⊢; exact r
  | .bool, _, _, _, r => by unfold Rep at r ⊢; exact r
  | .str, _, _, _, r => by unfold Rep at r ⊢; exact r
  | .sl t, x, _, f, r => by simp [Ty.flat] at f
  | .os t, x, _, f, r => by simp [Ty.flat] at f
  | .pair a b, _, _, f, r => by
    simp only [Ty.flat, Bool.and_eq_true] at f
    unfold Rep at r ⊢
    exact ⟨Rep.flat a f.1 r.1, Rep.flat b f.2 r.2⟩

theorem Rep.cell {N : Nat → Prop} {H : Heap} : ∀ (t : Ty) {x : t.T} {cs : List Value}, Rep N H t x cs → ∀ v ∈ cs, isCell v = true
  | .int _, _, _, h => by unfold Rep at h; subst h; simp [isCell]
  | .bool, _, _, h => by unfold Rep at h; subst h; simp [isCell]
  | .str, _, _, h => by unfold Rep at h; subst h; simp [isCell]
  | .sl t, _, _, h => by
    unfold Rep at h
    rcases h with ⟨_, rfl⟩ | ⟨_, _, _, rfl⟩ | ⟨_, _, _, rfl, _⟩ <;> simp [isCell]
  | .os t, _, _, h => by unfold Rep at h; obtain ⟨v, rfl, hv, _⟩ := h; simpa using hv
  | .pair a b, _, cs, h => by
    unfold Rep at h
    intro v hv
    rw [← List.take_append_drop a.size cs] at hv
    rcases List.mem_append.1 hv with hv | hv
    · exact Rep.cell a h.1 v hv
    · exact Rep.cell b h.2 v hv

theorem tcast_some {a b : Ty} {x : a.T} {y : b.T} (h : tcast a b x = some y) : ∃ e : a = b, e ▸ x = y := by
  unfold tcast at h
  split at h
  · rename_i hb
    exact ⟨Ty.beq_eq hb, by simpa using h⟩
  · simp at h
theorem tcast_eq {a b : Ty} {x : a.T} {y : b.T} (h : tcast a b x = some y) : a = b := (tcast_some h).1
theorem tcast_self {a : Ty} {x y : a.T} (h : tcast a a x = some y) : x = y := by
  obtain ⟨e, h⟩ := tcast_some h; exact h

/-- Where a block of the store lies: block, the place of its first cell, the cells of an element, the number of elements. -/
structure MB where
  z : Nat
  sh : Nat
  es : Nat
  n : Nat

/-- A state: the store, the heap, and how they belong together. -/
structure S where
  μ : Nat → Option MB
  L : LS
  H : Heap
  Ban : Nat → Prop
  Old : Nat → Nat → Prop
  Lim : Nat → Prop
  lim : Nat
  Kid : Nat → Option (Nat × Nat)

/-- What is owned: by a block of the store, or for now by none. -/
def Own (s : S) (z : Nat) : Prop := (∃ b B m, lget s.L b = some B ∧ B.rw = true ∧ s.μ b = some m ∧ m.z = z) ∨ s.Lim z ∨ ∃ p, s.Kid z = some p
def S.N (s : S) (z : Nat) : Prop := ¬ Own s z ∧ ¬ s.Ban z
def S.NN (s : S) (st : Nat) (z : Nat) : Prop := s.N z ∧ ∀ c, st < c → c ≤ s.L.clk → s.Old c z

/-- Room for an array in a block's cells; they are all plain. -/
def Fit (sh n : Nat) (c : List Value) : Prop := sh + n ≤ c.length ∧ ∀ v ∈ c.drop sh, sameLeaf v v = true

/-- A slice of a length. -/
def SlOf (n k : Nat) (v : Value) : Prop := (n = 0 ∧ v = .slice none 0 0) ∨ ∃ z o, v = .slice (some ⟨z, o, none⟩) n k

/-- A row: an owned slice of plain elements. -/
def RowC (K : Nat → Prop) (H : Heap) (lim : Nat) (t : Ty) (x : List t.T) (v : Value) : Prop :=
  (x = [] ∧ v = .slice none 0 0) ∨ ∃ z o k, v = .slice (some ⟨z, o, none⟩) x.length t.size ∧ K z ∧ hget H z = some k ∧ k.ro = false ∧ lim ≤ z ∧ Fit o (x.length * t.size) k.cells ∧
    ∀ i (h : i < x.length), Rep (fun _ => False) H t x[i] ((k.cells.drop (o + i * t.size)).take t.size)

theorem RowC.sl {K : Nat → Prop} {H : Heap} {lim : Nat} {t : Ty} {x : List t.T} {v : Value} (h : RowC K H lim t x v) : SlOf x.length t.size v := by
  rcases h with ⟨rfl, rfl⟩ | ⟨z, o, k, rfl, _⟩
  · exact .inl ⟨rfl, rfl⟩
  · exact .inr ⟨z, o, rfl⟩

theorem RowC.mono {K K' : Nat → Prop} {H G : Heap} {lim : Nat} {t : Ty} {x : List t.T} {v : Value} (h : RowC K H lim t x v) (hf : t.flat = true) (hk : ∀ z, K z → K' z ∧ hget G z = hget H z) : RowC K' G lim t x v := by
  rcases h with h | ⟨z, o, k, h1, h2, h3, h4, h5, h6, h7⟩
  · exact .inl h
  · exact .inr ⟨z, o, k, h1, (hk z h2).1, by rw [(hk z h2).2]; exact h3, h4, h5, h6, fun i hi => Rep.flat t hf (h7 i hi)⟩

/-- A row that is as long as its place's row is the one that lies there. -/
def WholeC (s : S) (b i n : Nat) (v : Value) : Prop := ∀ B e xs h m k, lget s.L b = some B → B.body = .rows e xs h → s.μ b = some m → hget s.H m.z = some k → ∀ y, xs[i]? = some y → n ≤ y.length ∧ (y.length = n → k.cells[m.sh + i]? = some v)

def LR0 (s : S) : PV → Value → Prop
  | .int k n, v => v = .int k n
  | .bool b, v => v = .bool b
  | .str x, v => v = .string x
  | .nil, v => v = .slice none 0 0
  | .nilp, v => v = .pointer none
  | .ro st t x, v => Rep (s.NN st) s.H (.sl t) x [v]
  | .rp st t x, v => ∃ z o k, v = .pointer (some ⟨z, o, none⟩) ∧ s.NN st z ∧ hget s.H z = some k ∧ o + t.size ≤ k.cells.length ∧ Rep (s.NN st) s.H t x ((k.cells.drop o).take t.size)
  | .osl b off n, v => b < s.L.bl.length ∧ match s.μ b with
    | none => off = 0 ∧ n.getD 0 = 0 ∧ v = .slice none 0 0
    | some m => off + n.getD (m.n - off) ≤ m.n ∧ v = .slice (some ⟨m.z, m.sh + off * m.es, none⟩) (n.getD (m.n - off)) m.es
  | .ep b j fo, v => b < s.L.bl.length ∧ ∃ m, s.μ b = some m ∧ v = .pointer (some ⟨m.z, m.sh + j * m.es + fo, none⟩)
  | .ptr b off, v => b < s.L.bl.length ∧ ∃ m, s.μ b = some m ∧ m.sh = 0 ∧ v = .pointer (some ⟨m.z, off, none⟩)
  | .dp b off _ u k, v => b < s.L.bl.length ∧ ∃ m, s.μ b = some m ∧ m.sh = 0 ∧ v = .pointer (some ⟨m.z, off + k * u.size, none⟩)
  | .hole, v => isCell v = true ∧ sameLeaf v v = true
  | .rw b i ver t x, v => b < s.L.bl.length ∧ SlOf x.length t.size v ∧ ∀ B, lget s.L b = some B → ver ≤ B.ver ∧ (B.ver = ver → t.flat = true ∧ RowC (fun z => s.Kid z = some (b, i)) s.H s.lim t x v ∧ WholeC s b i x.length v)
  | .rq b ver t x, v => b < s.L.bl.length ∧ (∃ z o, v = .pointer (some ⟨z, o, none⟩)) ∧ ∀ B, lget s.L b = some B → ver ≤ B.ver ∧ (B.ver = ver → ∃ z o k i, v = .pointer (some ⟨z, o, none⟩) ∧ s.Kid z = some (b, i) ∧ hget s.H z = some k ∧ o + t.size ≤ k.cells.length ∧ Rep (fun _ => False) s.H t x ((k.cells.drop o).take t.size))
  | _, _ => False

def LRs (s : S) (cs : List PV) (vs : List Value) : Prop := All2 (LR0 s) cs vs

def AR (s : S) : PV → Value → Prop
  | .agg cs, v => ∃ vs, v = .agg ⟨vs⟩ ∧ LRs s cs vs
  | .fn f a b, v => ∃ a' b', v = .func (.func f) ⟨a'⟩ ⟨b'⟩ ∧ LRs s a a' ∧ LRs s b b'
  | .undef, v => v = undef
  | p, v => LR0 s p v

def ER (s : S) : PV → Value → Prop
  | .tup cs, v => ∃ vs, v = .tuple ⟨vs⟩ ∧ All2 (AR s) cs vs
  | p, v => AR s p v

def EnvR (s : S) (env : PEnv) (e : Env) : Prop := ∀ q, match pget env q with
  | none => eget e q = none
  | some p => ∃ v, eget e q = some v ∧ ER s p v


/-- A block of the store and what it stands for. -/
def BR (s : S) (b : Nat) (B : VB) : Prop :=
  match B.body with
  | .cells cs => B.rw = true ∧ ∃ m k, s.μ b = some m ∧ m.sh = 0 ∧ hget s.H m.z = some k ∧ LRs s cs k.cells ∧ k.ro = false ∧ s.lim ≤ m.z
  | .arr t xs => match s.μ b with
    | none => xs = []
    | some m => m.es = t.size ∧ m.n = xs.length ∧ ∃ k, hget s.H m.z = some k ∧ Fit m.sh (xs.length * t.size) k.cells ∧
      (∀ i (h : i < xs.length), Rep s.N s.H t xs[i] ((k.cells.drop (m.sh + i * t.size)).take t.size)) ∧
      (B.rw = true → k.ro = false ∧ s.lim ≤ m.z) ∧ (B.rw = false → s.N m.z)
  | .rows t xs h => B.rw = true ∧ t.flat = true ∧ match s.μ b with
    | none => xs = []
    | some m => m.es = 1 ∧ m.n = xs.length ∧ ∃ k, hget s.H m.z = some k ∧ Fit m.sh xs.length k.cells ∧ k.ro = false ∧ s.lim ≤ m.z ∧
      ∀ i (hi : i < xs.length), h ≠ some i → ∃ v, k.cells[m.sh + i]? = some v ∧ RowC (fun z => s.Kid z = some (b, i)) s.H s.lim t xs[i] v

structure StR (s : S) : Prop where
  blk : ∀ b B, lget s.L b = some B → BR s b B
  inj : ∀ b b' B B' m m', lget s.L b = some B → lget s.L b' = some B' → B.rw = true → s.μ b = some m → s.μ b' = some m' → m.z = m'.z → b = b'
  ban : ∀ z, s.Ban z → z < s.H.length ∧ ¬ Own s z
  limH : s.lim ≤ s.H.length
  lm : ∀ b B m, lget s.L b = some B → s.μ b = some m → ¬ s.Lim m.z
  lml : ∀ z, s.Lim z → z < s.H.length
  kl : ∀ z p, s.Kid z = some p → z < s.H.length ∧ p.1 < s.L.bl.length ∧ ¬ s.Lim z ∧ ∀ b B m, lget s.L b = some B → s.μ b = some m → m.z ≠ z
  ka : ∀ z p, s.Kid z = some p → ∃ k, hget s.H z = some k

/-- Clocks: what was there when a clock began stays known. -/
def CK (s s' : S) : Prop := s.L.clk ≤ s'.L.clk ∧ (∀ c, c ≤ s.L.clk → s'.Old c = s.Old c) ∧ ∀ c z, s.L.clk < c → c ≤ s'.L.clk → z < s.H.length → s.N z → s'.Old c z
theorem CK.same {s s' : S} (h : s'.Old = s.Old) (g : s'.L.clk = s.L.clk) : CK s s' := ⟨by rw [g]; exact Nat.le_refl _, fun _ _ => by rw [h], fun c z h1 h2 => by omega⟩

structure Keep (s s' : S) : Prop where
  ban : s'.Ban = s.Ban
  ck : CK s s'
  lim : s'.lim = s.lim
  nb : s.L.bl.length ≤ s'.L.bl.length
  mu : ∀ b, b < s.L.bl.length → s'.μ b = s.μ b
  len : s.H.length ≤ s'.H.length
  fr : ∀ z, z < s.H.length → ¬ Own s z → hget s'.H z = hget s.H z
  own : ∀ z, Own s' z → Own s z ∨ s.H.length ≤ z
  live : ∀ b B', b < s.L.bl.length → lget s'.L b = some B' → ∃ B, lget s.L b = some B ∧ B.ver ≤ B'.ver ∧ (B.ver = B'.ver → B' = B ∧ (∀ m, s.μ b = some m → hget s'.H m.z = hget s.H m.z) ∧ ∀ z i, s.Kid z = some (b, i) → s'.Kid z = some (b, i) ∧ hget s'.H z = hget s.H z)

theorem lget_lt {L : LS} {b : Nat} {B : VB} (h : lget L b = some B) : b < L.bl.length := by
  unfold lget at h
  rcases Nat.lt_or_ge b L.bl.length with g | g
  · exact g
  · rw [List.getElem?_eq_none g] at h; simp at h

theorem Keep.refl (s : S) : Keep s s :=
  ⟨rfl, CK.same rfl rfl, rfl, Nat.le_refl _, fun _ _ => rfl, Nat.le_refl _, fun _ _ _ => rfl, fun _ h => .inl h, fun b B' _ h => ⟨B', h, Nat.le_refl _, fun _ => ⟨rfl, fun _ _ => rfl, fun _ _ h => ⟨h, rfl⟩⟩⟩⟩

theorem Keep.N {s s' : S} (h : Keep s s') {z : Nat} (hz : z < s.H.length) (hn : s.N z) : s'.N z := by
  refine ⟨fun ho => ?_, by rw [h.ban]; exact hn.2⟩
  rcases h.own z ho with h1 | h1
  · exact hn.1 h1
  · omega

theorem Keep.trans {s t u : S} (h : Keep s t) (g : Keep t u) : Keep s u := by
  refine ⟨g.ban.trans h.ban, ⟨Nat.le_trans h.ck.1 g.ck.1, fun c hc => (g.ck.2.1 c (Nat.le_trans hc h.ck.1)).trans (h.ck.2.1 c hc), fun c z h1 h2 h3 h4 => ?_⟩, g.lim.trans h.lim, Nat.le_trans h.nb g.nb, fun b hb => ?_, Nat.le_trans h.len g.len, fun z hz hn => ?_, fun z hz => ?_, fun b B' hb hB => ?_⟩
  · rcases Nat.lt_or_ge t.L.clk c with h5 | h5
    · exact g.ck.2.2 c z h5 h2 (Nat.lt_of_lt_of_le h3 h.len) (h.N h3 h4)
    · rw [g.ck.2.1 c h5]; exact h.ck.2.2 c z h1 h5 h3 h4
  · rw [g.mu b (Nat.lt_of_lt_of_le hb h.nb), h.mu b hb]
  · rw [g.fr z (Nat.lt_of_lt_of_le hz h.len) (fun ho => by rcases h.own z ho with h1 | h1; exact hn h1; omega), h.fr z hz hn]
  · rcases g.own z hz with h1 | h1
    · exact h.own z h1
    · exact .inr (Nat.le_trans h.len h1)
  · obtain ⟨B1, h1, v1, e1⟩ := g.live b B' (Nat.lt_of_lt_of_le hb h.nb) hB
    obtain ⟨B0, h0, v0, e0⟩ := h.live b B1 hb h1
    refine ⟨B0, h0, Nat.le_trans v0 v1, fun e => ?_⟩
    have ea : B0.ver = B1.ver := by omega
    have eb : B1.ver = B'.ver := by omega
    obtain ⟨x1, x2, x3⟩ := e0 ea
    obtain ⟨y1, y2, y3⟩ := e1 eb
    exact ⟨y1.trans x1, fun m hm => (y2 m (by rw [h.mu b hb]; exact hm)).trans (x2 m hm), fun z i hz => ⟨(y3 z i (x3 z i hz).1).1, (y3 z i (x3 z i hz).1).2.trans (x3 z i hz).2⟩⟩

theorem Keep.NN {s s' : S} (h : Keep s s') {st z : Nat} (hz : z < s.H.length) (hn : s.NN st z) : s'.NN st z :=
  ⟨h.N hz hn.1, fun c h1 h2 => by
    rcases Nat.lt_or_ge s.L.clk c with h5 | h5
    · exact h.ck.2.2 c z h5 h2 hz hn.1
    · rw [h.ck.2.1 c h5]; exact hn.2 c h1 h5⟩

theorem Keep.rep {s s' : S} (h : Keep s s') {st : Nat} {t : Ty} {x : t.T} {cs : List Value} (r : Rep (s.NN st) s.H t x cs) : Rep (s'.NN st) s'.H t x cs :=
  Rep.frame (fun z hz hl => ⟨h.NN hl hz, h.fr z hl hz.1.1⟩) t r
theorem Keep.repN {s s' : S} (h : Keep s s') {t : Ty} {x : t.T} {cs : List Value} (r : Rep s.N s.H t x cs) : Rep s'.N s'.H t x cs :=
  Rep.frame (fun z hz hl => ⟨h.N hl hz, h.fr z hl hz.1⟩) t r

theorem Keep.LR0 {s s' : S} (h : Keep s s') : ∀ {p : PV} {v : Value}, LR0 s p v → LR0 s' p v := by
  intro p v r
  cases p with
  | ro st t x => exact h.rep (t := .sl t) r
  | rp st t x =>
    obtain ⟨z, o, k, e, hn, hk, hl, hr⟩ := r
    have hz := hget_lt hk
    exact ⟨z, o, k, e, h.NN hz hn, by rw [h.fr z hz hn.1.1]; exact hk, hl, h.rep hr⟩
  | osl b off n => obtain ⟨hb, r⟩ := r; exact ⟨Nat.lt_of_lt_of_le hb h.nb, by rw [h.mu b hb]; exact r⟩
  | ep b j fo => obtain ⟨hb, r⟩ := r; exact ⟨Nat.lt_of_lt_of_le hb h.nb, by rw [h.mu b hb]; exact r⟩
  | ptr b off => obtain ⟨hb, r⟩ := r; exact ⟨Nat.lt_of_lt_of_le hb h.nb, by rw [h.mu b hb]; exact r⟩
  | dp b off n u k => obtain ⟨hb, r⟩ := r; exact ⟨Nat.lt_of_lt_of_le hb h.nb, by rw [h.mu b hb]; exact r⟩
  | rw b i ver t x =>
    obtain ⟨hb, hs, r⟩ := r
    refine ⟨Nat.lt_of_lt_of_le hb h.nb, hs, fun B' hB' => ?_⟩
    obtain ⟨B, g1, g2, g3⟩ := h.live b B' hb hB'
    obtain ⟨r1, r2⟩ := r B g1
    refine ⟨Nat.le_trans r1 g2, fun e => ?_⟩
    obtain ⟨k1, k2, k3⟩ := g3 (by omega)
    obtain ⟨r3, r4, r5⟩ := r2 (by omega)
    refine ⟨r3, by rw [h.lim]; exact r4.mono r3 (fun z hz => k3 z i hz), fun B2 e2 xs h2 m k hb2 hbody hm2 hk2 y hy => ?_⟩
    have : B2 = B := by rw [hB'] at hb2; injection hb2 with hb2; rw [← hb2, k1]
    subst this
    rw [h.mu b hb] at hm2
    rw [k2 m hm2] at hk2
    exact r5 B2 e2 xs h2 m k g1 hbody hm2 hk2 y hy
  | rq b ver t x =>
    obtain ⟨hb, hs, r⟩ := r
    refine ⟨Nat.lt_of_lt_of_le hb h.nb, hs, fun B' hB' => ?_⟩
    obtain ⟨B, g1, g2, g3⟩ := h.live b B' hb hB'
    obtain ⟨r1, r2⟩ := r B g1
    refine ⟨Nat.le_trans r1 g2, fun e => ?_⟩
    obtain ⟨_, _, k3⟩ := g3 (by omega)
    obtain ⟨z, o, k, i, e1, e2, e3, e4, e5⟩ := r2 (by omega)
    exact ⟨z, o, k, i, e1, (k3 z i e2).1, by rw [(k3 z i e2).2]; exact e3, e4, Rep.frame (fun _ hz _ => absurd hz id) t e5⟩
  | _ => exact r

theorem Keep.LRs {s s' : S} (h : Keep s s') {cs : List PV} {vs : List Value} (r : LRs s cs vs) : LRs s' cs vs := All2.mono (fun _ _ => h.LR0) r

theorem Keep.AR {s s' : S} (h : Keep s s') : ∀ {p : PV} {v : Value}, AR s p v → AR s' p v := by
  intro p v r
  cases p with
  | agg cs => obtain ⟨vs, e, r⟩ := r; exact ⟨vs, e, h.LRs r⟩
  | fn f a b => obtain ⟨x, y, e, r1, r2⟩ := r; exact ⟨x, y, e, h.LRs r1, h.LRs r2⟩
  | undef => exact r
  | tup cs => exact absurd r id
  | _ => (simp only [Pv.AR] at r ⊢; exact h.LR0 r)

theorem Keep.ER {s s' : S} (h : Keep s s') : ∀ {p : PV} {v : Value}, ER s p v → ER s' p v := by
  intro p v r
  cases p with
  | tup cs => obtain ⟨vs, e, r⟩ := r; exact ⟨vs, e, All2.mono (fun _ _ => h.AR) r⟩
  | _ => (simp only [Pv.ER] at r ⊢; exact h.AR r)

theorem Keep.env {s s' : S} (h : Keep s s') {env : PEnv} {e : Env} (r : EnvR s env e) : EnvR s' env e := by
  intro q
  have := r q
  split at this
  · exact this
  · obtain ⟨v, e1, e2⟩ := this; exact ⟨v, e1, h.ER e2⟩

theorem EnvR.cons {s : S} {env : PEnv} {e : Env} (r : EnvR s env e) {d : Nat} {p : PV} {v : Value} (h : ER s p v) : EnvR s ((d, p) :: env) ((d, v) :: e) := by
  intro q
  simp only [pget, eget]
  cases Nat.beq d q with
  | true => exact ⟨v, rfl, h⟩
  | false => exact r q

theorem EnvR.get {s : S} {env : PEnv} {e : Env} (r : EnvR s env e) {q : Nat} {p : PV} (h : pget env q = some p) : ∃ v, eget e q = some v ∧ ER s p v := by
  have := r q; rw [h] at this; exact this

theorem AR.of {s : S} {p : PV} {v : Value} (h : LR0 s p v) : AR s p v := by
  cases p <;> first | exact h | exact absurd h id
theorem ER.of {s : S} {p : PV} {v : Value} (h : AR s p v) : ER s p v := by
  cases p <;> first | exact h | exact absurd h id
theorem ER.of0 {s : S} {p : PV} {v : Value} (h : LR0 s p v) : ER s p v := ER.of (AR.of h)

/-- The cells of a value. -/
theorem AR.cells {s : S} {p : PV} {v : Value} (h : AR s p v) (hn : ∀ f a b, p ≠ .fn f a b) (hu : p ≠ .undef) : LRs s (vcells p) v.cells.toList := by
  cases p with
  | agg cs => obtain ⟨vs, rfl, r⟩ := h; exact r
  | fn f a b => exact absurd rfl (hn f a b)
  | undef => exact absurd rfl hu
  | int k n => obtain rfl := h; exact ⟨rfl, trivial⟩
  | bool b => obtain rfl := h; exact ⟨rfl, trivial⟩
  | str b => obtain rfl := h; exact ⟨rfl, trivial⟩
  | nil => obtain rfl := h; exact ⟨rfl, trivial⟩
  | nilp => obtain rfl := h; exact ⟨rfl, trivial⟩
  | tup cs => exact absurd h id
  | ro st t x =>
    have h' : Rep (s.NN st) s.H (.sl t) x [v] := h
    have : v.cells.toList = [v] := by
      unfold Rep at h'
      rcases h' with ⟨_, e⟩ | ⟨_, _, _, e⟩ | ⟨_, _, _, e, _⟩ <;> (simp at e; subst e; rfl)
    rw [this]; exact ⟨h, trivial⟩
  | rp st t x =>
    obtain ⟨z, o, k, rfl, r⟩ := id h
    exact ⟨h, trivial⟩
  | osl b off n =>
    have : v.cells.toList = [v] := by
      have h' := h
      obtain ⟨_, r⟩ := h'
      split at r
      · rw [r.2.2]; rfl
      · rw [r.2]; rfl
    rw [this]; exact ⟨h, trivial⟩
  | ep b j fo =>
    obtain ⟨_, m, _, rfl⟩ := id h
    exact ⟨h, trivial⟩
  | ptr b off =>
    obtain ⟨_, m, _, _, rfl⟩ := id h
    exact ⟨h, trivial⟩
  | dp b off n u k =>
    obtain ⟨_, m, _, _, rfl⟩ := id h
    exact ⟨h, trivial⟩
  | rw b i ver t x =>
    have : v.cells.toList = [v] := by
      obtain ⟨_, r, _⟩ := id h
      rcases r with ⟨_, rfl⟩ | ⟨_, _, rfl⟩ <;> rfl
    rw [this]; exact ⟨h, trivial⟩
  | rq b ver t x =>
    obtain ⟨_, ⟨_, _, rfl⟩, _⟩ := id h
    exact ⟨h, trivial⟩
  | hole =>
    have h : isCell v = true ∧ sameLeaf v v = true := h
    have h' := h.1
    have : v.cells.toList = [v] := by cases v <;> first | rfl | simp [isCell] at h'
    rw [this]; exact ⟨h, trivial⟩

theorem LR0.cell {s : S} {p : PV} {v : Value} (h : LR0 s p v) : isCell v = true := by
  cases p with
  | int k n => obtain rfl := h; rfl
  | bool b => obtain rfl := h; rfl
  | str b => obtain rfl := h; rfl
  | nil => obtain rfl := h; rfl
  | nilp => obtain rfl := h; rfl
  | ro st t x => exact Rep.cell (.sl t) h v (by simp)
  | rp st t x => obtain ⟨z, o, k, rfl, r⟩ := id h; rfl
  | osl b off n =>
    obtain ⟨_, r⟩ := id h
    split at r
    · rw [r.2.2]; rfl
    · rw [r.2]; rfl
  | ep b j fo => obtain ⟨_, m, _, rfl⟩ := id h; rfl
  | ptr b off => obtain ⟨_, m, _, _, rfl⟩ := id h; rfl
  | dp b off n u k => obtain ⟨_, m, _, _, rfl⟩ := id h; rfl
  | hole => exact h.1
  | rw b i ver t x => obtain ⟨_, r, _⟩ := id h; rcases r with ⟨_, rfl⟩ | ⟨_, _, rfl⟩ <;> rfl
  | rq b ver t x => obtain ⟨_, ⟨_, _, rfl⟩, _⟩ := id h; rfl
  | fn f a b => exact absurd h id
  | agg cs => exact absurd h id
  | tup cs => exact absurd h id
  | undef => exact absurd h id

theorem LRs.cell {s : S} : ∀ {cs : List PV} {vs : List Value}, LRs s cs vs → ∀ v ∈ vs, isCell v = true
  | [], [], _ => by simp
  | p :: r, v :: w, h => by
    intro u hu
    rcases List.mem_cons.1 hu with rfl | hu
    · exact h.1.cell
    · exact LRs.cell h.2 u hu

theorem hpush_len (H : Heap) (c : List Value) : (hpush H c).length = H.length + 1 := by simp [hpush]
theorem hget_push {H : Heap} {c : List Value} {z : Nat} (h : z < H.length) : hget (hpush H c) z = hget H z := by
  unfold hget hpush; rw [List.getElem?_append_left h]
theorem hget_push_new (H : Heap) (c : List Value) : hget (hpush H c) H.length = some ⟨c, false⟩ := by
  unfold hget hpush; simp
theorem hget_set_self' {H : Heap} {b : Nat} {x : Option Blk} (h : b < H.length) : hget (H.set b x) b = x := by
  cases x <;> simp [hget, h]
theorem hget_set_ne' {H : Heap} {b c : Nat} {x : Option Blk} (h : b ≠ c) : hget (H.set b x) c = hget H c := by
  unfold hget; rw [List.getElem?_set_ne h]
theorem hget_none_ge {H : Heap} {z : Nat} (h : H.length ≤ z) : hget H z = none := by
  unfold hget; rw [List.getElem?_eq_none h]

theorem lget_push {L : LS} {B : Body} {b : Nat} (h : b < L.bl.length) : lget (lpush L B) b = lget L b := by
  unfold lget lpush; simp only; rw [List.getElem?_append_left h]
theorem lget_push_new (L : LS) (B : Body) : lget (lpush L B) L.bl.length = some ⟨0, true, B⟩ := by
  unfold lget lpush; simp
theorem lget_push_gt {L : LS} {B : Body} {b : Nat} (h : L.bl.length < b) : lget (lpush L B) b = none := by
  unfold lget lpush; simp only; rw [List.getElem?_eq_none (by simp; omega)]
theorem lpush_len (L : LS) (B : Body) : (lpush L B).bl.length = L.bl.length + 1 := by simp [lpush]
theorem lget_set_self {L : LS} {b : Nat} {B : VB} (h : b < L.bl.length) : lget (lset L b B) b = some B := by
  unfold lget lset; simp [h]
theorem lget_set_ne {L : LS} {b c : Nat} {B : VB} (h : b ≠ c) : lget (lset L b B) c = lget L c := by
  unfold lget lset; simp only; rw [List.getElem?_set_ne h]
theorem lset_len (L : LS) (b : Nat) (B : VB) : (lset L b B).bl.length = L.bl.length := by simp [lset]
theorem lget_kill_self {L : LS} {b : Nat} : lget (lkill L b) b = none := by
  unfold lget lkill; simp only
  rcases Nat.lt_or_ge b L.bl.length with h | h
  · simp [h]
  · rw [List.getElem?_eq_none (by simpa using h)]
theorem lget_kill_ne {L : LS} {b c : Nat} (h : b ≠ c) : lget (lkill L b) c = lget L c := by
  unfold lget lkill; simp only; rw [List.getElem?_set_ne h]
theorem lkill_len (L : LS) (b : Nat) : (lkill L b).bl.length = L.bl.length := by simp [lkill]
theorem lget_kill_some {L : LS} {b c : Nat} {B : VB} (h : lget (lkill L b) c = some B) : b ≠ c ∧ lget L c = some B := by
  by_cases e : b = c
  · subst e; rw [lget_kill_self] at h; simp at h
  · rw [lget_kill_ne e] at h; exact ⟨e, h⟩

/-- The map with a new place. -/
def S.mu1 (μ : Nat → Option MB) (b : Nat) (m : Option MB) : Nat → Option MB := fun c => if c = b then m else μ c
theorem S.mu1_self (μ : Nat → Option MB) (b : Nat) (m : Option MB) : S.mu1 μ b m b = m := by simp [S.mu1]
theorem S.mu1_ne {μ : Nat → Option MB} {b c : Nat} {m : Option MB} (h : c ≠ b) : S.mu1 μ b m c = μ c := by simp [S.mu1, h]

end Go.Pv
