/-
  The relation between the abstract interpreter's values and heaps and the model's values and worlds; small lemmas about it.
  Conditions: none.
-/
import Derived.Test.YtpjlbjkeekobnaaDoorGlob
import Derived.Laws.IdiomCopy
set_option linter.unusedVariables false
namespace Go.Ev

/-- Where an abstract block lies: the block, the cell at which it begins, the number of the block's cells. -/
structure Loc where
  blk : Nat
  off : Nat
  size : Nat

abbrev Io := Nat → Loc

/-- Below a number. -/
def Bel (n : Nat) : Nat → Prop := fun b => b < n

def Io.addr (ι : Io) (a : Addr) : Addr := ⟨(ι a.block).blk, (ι a.block).off + a.off, none⟩

inductive VRel (ι : Io) (D : Nat → Prop) : Value → Value → Prop
  | bool (b : Bool) : VRel ι D (.bool b) (.bool b)
  | int (k : IntKind) (m : Int) : VRel ι D (.int k m) (.int k m)
  | str (s : ByteArray) : VRel ι D (.string s) (.string s)
  | nilFunc : VRel ι D .nilFunc .nilFunc
  | nilIface : VRel ι D .nilIface .nilIface
  | ptrNil : VRel ι D (.pointer none) (.pointer none)
  | ptr (a : Addr) (h : D a.block) : VRel ι D (.pointer (some a)) (.pointer (some (ι.addr a)))
  | slNil : VRel ι D (.slice none 0 0) (.slice none 0 0)
  | slGo (a : Addr) (len c cap : Nat) (h : D a.block) (hl : len ≤ cap) (hc : (ι a.block).off + a.off + cap * c ≤ (ι a.block).size) :
      VRel ι D (.slice (some a) len c) (.slice (some (ι.addr a)) len cap)
  | slEmpty (a b : Addr) (c : Nat) (h : D a.block) : VRel ι D (.slice (some a) 0 c) (.slice (some b) 0 0)
  | agg (xs ys : List Value) (hl : xs.length = ys.length) (h : ∀ i (h1 : i < xs.length) (h2 : i < ys.length), VRel ι D xs[i] ys[i]) : VRel ι D (.agg ⟨xs⟩) (.agg ⟨ys⟩)
  | tuple (xs ys : List Value) (hl : xs.length = ys.length) (h : ∀ i (h1 : i < xs.length) (h2 : i < ys.length), VRel ι D xs[i] ys[i]) : VRel ι D (.tuple ⟨xs⟩) (.tuple ⟨ys⟩)
  | func (f : FuncId) (xs ys xs' ys' : List Value) (hl : xs.length = ys.length) (h : ∀ i (h1 : i < xs.length) (h2 : i < ys.length), VRel ι D xs[i] ys[i])
      (hl' : xs'.length = ys'.length) (h' : ∀ i (h1 : i < xs'.length) (h2 : i < ys'.length), VRel ι D xs'[i] ys'[i]) : VRel ι D (.func (.func f) ⟨xs⟩ ⟨xs'⟩) (.func (.func f) ⟨ys⟩ ⟨ys'⟩)

/-- Pointwise. -/
def LRel (ι : Io) (D : Nat → Prop) (xs ys : List Value) : Prop := xs.length = ys.length ∧ ∀ i (h1 : i < xs.length) (h2 : i < ys.length), VRel ι D xs[i] ys[i]

inductive VLt (D : Nat → Prop) : Value → Prop
  | bool (b : Bool) : VLt D (.bool b)
  | int (k : IntKind) (m : Int) : VLt D (.int k m)
  | str (s : ByteArray) : VLt D (.string s)
  | nilFunc : VLt D .nilFunc
  | nilIface : VLt D .nilIface
  | ptrNil : VLt D (.pointer none)
  | ptr (a : Addr) (h : D a.block) : VLt D (.pointer (some a))
  | slNil : VLt D (.slice none 0 0)
  | sl (a : Addr) (len c : Nat) (h : D a.block) : VLt D (.slice (some a) len c)
  | agg (xs : List Value) (h : ∀ i (h1 : i < xs.length), VLt D xs[i]) : VLt D (.agg ⟨xs⟩)
  | tuple (xs : List Value) (h : ∀ i (h1 : i < xs.length), VLt D xs[i]) : VLt D (.tuple ⟨xs⟩)
  | func (f : FuncId) (xs xs' : List Value) (h : ∀ i (h1 : i < xs.length), VLt D xs[i]) (h' : ∀ i (h1 : i < xs'.length), VLt D xs'[i]) : VLt D (.func (.func f) ⟨xs⟩ ⟨xs'⟩)

theorem VRel.lt {ι : Io} {D : Nat → Prop} {v c : Value} (h : VRel ι D v c) : VLt D v := by
  induction h with
  | bool b => exact .bool b
  | int k m => exact .int k m
  | str s => exact .str s
  | nilFunc => exact .nilFunc
  | nilIface => exact .nilIface
  | ptrNil => exact .ptrNil
  | ptr a h => exact .ptr a h
  | slNil => exact .slNil
  | slGo a len c cap h _ _ => exact .sl a len c h
  | slEmpty a b c h => exact .sl a 0 c h
  | agg xs ys hl h ih => exact .agg xs fun i h1 => ih i h1 (hl ▸ h1)
  | tuple xs ys hl h ih => exact .tuple xs fun i h1 => ih i h1 (hl ▸ h1)
  | func f xs ys xs' ys' hl h hl' h' ih ih' => exact .func f xs xs' (fun i h1 => ih i h1 (hl ▸ h1)) (fun i h1 => ih' i h1 (hl' ▸ h1))

/-- The same relation under another map that agrees below, and another bound. -/
theorem VRel.re {ι ι' : Io} {D E : Nat → Prop} {v c : Value} (h : VRel ι D v c) (hv : VLt E v) (ha : ∀ b, D b → E b → ι' b = ι b) : VRel ι' E v c := by
  induction h with
  | bool b => exact .bool b
  | int k m => exact .int k m
  | str s => exact .str s
  | nilFunc => exact .nilFunc
  | nilIface => exact .nilIface
  | ptrNil => exact .ptrNil
  | ptr a h =>
    cases hv with
    | ptr _ h' =>
      have e : ι.addr a = ι'.addr a := by unfold Io.addr; rw [ha _ h h']
      rw [e]; exact .ptr a h'
  | slNil => exact .slNil
  | slGo a len c cap h hl hc =>
    cases hv with
    | sl _ _ _ h' =>
      have e : ι.addr a = ι'.addr a := by unfold Io.addr; rw [ha _ h h']
      rw [e]; exact .slGo a len c cap h' hl (by rw [ha _ h h']; exact hc)
  | slEmpty a b c h =>
    cases hv with
    | sl _ _ _ h' => exact .slEmpty a b c h'
  | agg xs ys hl h ih =>
    cases hv with
    | agg _ hv => exact .agg xs ys hl fun i h1 h2 => ih i h1 h2 (hv i h1)
  | tuple xs ys hl h ih =>
    cases hv with
    | tuple _ hv => exact .tuple xs ys hl fun i h1 h2 => ih i h1 h2 (hv i h1)
  | func f xs ys xs' ys' hl h hl' h' ih ih' =>
    cases hv with
    | func _ _ _ hv hv' => exact .func f xs ys xs' ys' hl (fun i h1 h2 => ih i h1 h2 (hv i h1)) hl' (fun i h1 h2 => ih' i h1 h2 (hv' i h1))

theorem VLt.mono {D E : Nat → Prop} {v : Value} (h : VLt D v) (hm : ∀ b, D b → E b) : VLt E v := by
  induction h with
  | bool b => exact .bool b
  | int k m => exact .int k m
  | str s => exact .str s
  | nilFunc => exact .nilFunc
  | nilIface => exact .nilIface
  | ptrNil => exact .ptrNil
  | ptr a h => exact .ptr a (hm _ h)
  | slNil => exact .slNil
  | sl a len c h => exact .sl a len c (hm _ h)
  | agg xs h ih => exact .agg xs ih
  | tuple xs h ih => exact .tuple xs ih
  | func f xs xs' h h' ih ih' => exact .func f xs xs' ih ih'

theorem VRel.mono {ι ι' : Io} {D E : Nat → Prop} {v c : Value} (h : VRel ι D v c) (hm : ∀ b, D b → E b) (ha : ∀ b, D b → ι' b = ι b) : VRel ι' E v c :=
  h.re (h.lt.mono hm) fun b hb _ => ha b hb

theorem leafOk_rel {v : Value} (h : leafOk v = true) (ι : Io) (D : Nat → Prop) : VRel ι D v v := by
  unfold leafOk at h
  split at h <;> first | exact .bool _ | exact .int _ _ | exact .str _ | exact .nilFunc | exact .nilIface | exact .ptrNil | exact .slNil | simp at h

theorem leafOk_lt {v : Value} (h : leafOk v = true) (D : Nat → Prop) : VLt D v := (leafOk_rel h (fun _ => ⟨0, 0, 0⟩) D).lt

theorem leafLt_lt {n : Nat} {v : Value} (h : leafLt n v = true) : VLt (Bel n) v := by
  unfold leafLt at h
  cases hl : leafOk v with
  | true => exact leafOk_lt hl _
  | false =>
    rw [hl, Bool.false_or] at h
    split at h
    · exact .ptr _ (by have := of_decide_eq_true h; exact this)
    · exact .sl _ _ _ (by have := of_decide_eq_true h; exact this)
    · simp at h

theorem noRef_rel {v : Value} (h : noRef v = true) (ι : Io) (D : Nat → Prop) : VRel ι D v v := by
  unfold noRef at h
  split at h
  · rename_i cs
    obtain ⟨l⟩ := cs
    exact .agg l l rfl fun i h1 _ => leafOk_rel (List.all_eq_true.1 h _ (List.getElem_mem h1)) ι D
  · rename_i cs
    obtain ⟨l⟩ := cs
    exact .tuple l l rfl fun i h1 _ => leafOk_rel (List.all_eq_true.1 h _ (List.getElem_mem h1)) ι D
  · exact leafOk_rel h ι D

theorem leafOk_isCell {v : Value} (h : leafOk v = true) : isCell v = true := by
  unfold leafOk at h
  split at h <;> first | rfl | simp at h

theorem VRel.isCell {ι : Io} {D : Nat → Prop} {v c : Value} (h : VRel ι D v c) : isCell c = isCell v := by cases h <;> rfl

theorem LRel.refl_leaf {xs : List Value} (h : xs.all leafOk = true) (ι : Io) (D : Nat → Prop) : LRel ι D xs xs :=
  ⟨rfl, fun i h1 _ => leafOk_rel (List.all_eq_true.1 h _ (List.getElem_mem h1)) ι D⟩

theorem LRel.nil (ι : Io) (D : Nat → Prop) : LRel ι D [] [] := ⟨rfl, fun _ h1 _ => absurd h1 (by simp)⟩

theorem LRel.cons {ι : Io} {D : Nat → Prop} {x y : Value} {xs ys : List Value} (h : VRel ι D x y) (hs : LRel ι D xs ys) : LRel ι D (x :: xs) (y :: ys) := by
  refine ⟨by simp [hs.1], fun i h1 h2 => ?_⟩
  cases i with
  | zero => exact h
  | succ i => exact hs.2 i (by simpa using h1) (by simpa using h2)

theorem LRel.head {ι : Io} {D : Nat → Prop} {x y : Value} {xs ys : List Value} (h : LRel ι D (x :: xs) (y :: ys)) : VRel ι D x y := h.2 0 (by simp) (by simp)
theorem LRel.tail {ι : Io} {D : Nat → Prop} {x y : Value} {xs ys : List Value} (h : LRel ι D (x :: xs) (y :: ys)) : LRel ι D xs ys :=
  ⟨by have := h.1; simpa using this, fun i h1 h2 => h.2 (i + 1) (by simpa using h1) (by simpa using h2)⟩

theorem LRel.append {ι : Io} {D : Nat → Prop} {xs ys as bs : List Value} (h : LRel ι D xs ys) (h' : LRel ι D as bs) : LRel ι D (xs ++ as) (ys ++ bs) := by
  induction xs generalizing ys with
  | nil =>
    have : ys = [] := List.length_eq_zero_iff.1 (by have := h.1; simpa using this.symm)
    subst this; exact h'
  | cons x xs ih =>
    cases ys with
    | nil => exact absurd h.1 (by simp)
    | cons y ys => exact LRel.cons h.head (ih h.tail)

theorem LRel.mono {ι ι' : Io} {D E : Nat → Prop} {xs ys : List Value} (h : LRel ι D xs ys) (hm : ∀ b, D b → E b) (ha : ∀ b, D b → ι' b = ι b) : LRel ι' E xs ys :=
  ⟨h.1, fun i h1 h2 => (h.2 i h1 h2).mono hm ha⟩

/-- One abstract block and its place. -/
structure BRel (ι : Io) (D : Nat → Prop) (w : World) (b : Nat) (k : Blk) : Prop where
  shape : ∃ ety, w.shape? (ι b).blk = some (ety, (ι b).size)
  fit : (ι b).off + k.cells.length ≤ (ι b).size
  cell : ∀ i (h : i < k.cells.length), ∃ c, w.cell? ⟨(ι b).blk, (ι b).off + i, none⟩ = some c ∧ VRel ι D k.cells[i] c ∧ isCell k.cells[i] = true
  thaw : k.ro = false → ∀ i, (ι b).off ≤ i → i < (ι b).size → w.frozen? ⟨(ι b).blk, i, none⟩ = false

structure Rel (ι : Io) (D : Nat → Prop) (H : Heap) (w : World) : Prop where
  blk : ∀ b k, hget H b = some k → BRel ι D w b k
  inj : ∀ b b' k k', hget H b = some k → hget H b' = some k' → b ≠ b' → (k.ro = false ∨ k'.ro = false) → (ι b).blk ≠ (ι b').blk
  nog : ∀ b k, hget H b = some k → k.ro = false → gN ≤ (ι b).blk
  gw : GW w

def closedAt (m : Nat) (H : Heap) : Prop := ∀ b, b < m → ∀ k, hget H b = some k → ∀ v ∈ k.cells, VLt (Bel m) v

/-- From one state to a later one. -/
structure Fr (ι : Io) (H : Heap) (w : World) (ι' : Io) (H' : Heap) (w' : World) : Prop where
  len : H.length ≤ H'.length
  io : ∀ b, b < H.length → ι' b = ι b
  os : w'.os = w.os
  tape : w'.tape = w.tape
  output : w'.output = w.output
  size : w.heap.size ≤ w'.heap.size
  frame : ∀ k, k < w.heap.size → (∀ b blk, hget H b = some blk → blk.ro = false → (ι b).blk ≠ k) → w'.heap[k]? = w.heap[k]?
  new : ∀ b blk, hget H' b = some blk → blk.ro = false → w.heap.size ≤ (ι' b).blk ∨ ∃ b0 blk0, hget H b0 = some blk0 ∧ blk0.ro = false ∧ (ι b0).blk = (ι' b).blk
  ro : ∀ b blk, hget H' b = some blk → blk.ro = true → hget H b = some blk

/-- What an abstract step keeps: no block goes, no address leads nowhere, blocks below a bound name none above it. -/
structure Ab (lim : Nat) (H H' : Heap) : Prop where
  len : H.length ≤ H'.length
  all : closedAt H.length H → closedAt H'.length H'
  closed : ∀ m, m ≤ lim → m ≤ H.length → closedAt m H → closedAt m H'

theorem Ab.refl (lim : Nat) (H : Heap) : Ab lim H H := ⟨Nat.le_refl _, fun h => h, fun _ _ _ h => h⟩
theorem Ab.trans {lim : Nat} {H H' H'' : Heap} (h : Ab lim H H') (g : Ab lim H' H'') : Ab lim H H'' :=
  ⟨Nat.le_trans h.len g.len, fun x => g.all (h.all x), fun m hm hl x => g.closed m hm (Nat.le_trans hl h.len) (h.closed m hm hl x)⟩

def EnvLt (D : Nat → Prop) (env : Env) : Prop := ∀ s v, eget env s = some v → VLt D v

theorem hget_lt {H : Heap} {b : Nat} {k : Blk} (h : hget H b = some k) : b < H.length := by
  unfold hget at h
  by_cases hb : b < H.length
  · exact hb
  · rw [List.getElem?_eq_none (by omega)] at h; simp at h

theorem Fr.refl (ι : Io) (H : Heap) (w : World) : Fr ι H w ι H w :=
  ⟨Nat.le_refl _, fun _ _ => rfl, rfl, rfl, rfl, Nat.le_refl _, fun _ _ _ => rfl, fun b blk h hr => .inr ⟨b, blk, h, hr, rfl⟩, fun _ _ h _ => h⟩

theorem Fr.trans {ι ι' ι'' : Io} {H H' H'' : Heap} {w w' w'' : World} (h : Fr ι H w ι' H' w') (g : Fr ι' H' w' ι'' H'' w'') : Fr ι H w ι'' H'' w'' := by
  refine ⟨Nat.le_trans h.len g.len, fun b hb => ?_, g.os.trans h.os, g.tape.trans h.tape, g.output.trans h.output, Nat.le_trans h.size g.size, fun k hk hn => ?_, fun b blk hb hr => ?_, fun b blk hb hr => h.ro b blk (g.ro b blk hb hr) hr⟩
  · rw [g.io b (Nat.lt_of_lt_of_le hb h.len), h.io b hb]
  · rw [g.frame k (Nat.lt_of_lt_of_le hk h.size), h.frame k hk hn]
    intro b blk hb hr he
    rcases h.new b blk hb hr with h1 | ⟨b0, k0, h0, hr0, e0⟩
    · omega
    · exact hn b0 k0 h0 hr0 (e0.trans he)
  · rcases g.new b blk hb hr with h1 | ⟨b0, k0, h0, hr0, e0⟩
    · exact .inl (Nat.le_trans h.size h1)
    · rcases h.new b0 k0 h0 hr0 with h2 | ⟨b1, k1, h1, hr1, e1⟩
      · exact .inl (e0 ▸ h2)
      · exact .inr ⟨b1, k1, h1, hr1, e1.trans e0⟩

/-- The slots. -/
structure ERel (ι : Io) (D : Nat → Prop) (nt : Nat) (env : Env) (a : Act) : Prop where
  size : a.tmps.size = nt
  get : ∀ s v, eget env s = some v → VRel ι D v (a.tmps.getD s undef)

theorem ERel.mono {ι ι' : Io} {D E : Nat → Prop} {nt : Nat} {env : Env} {a : Act} (h : ERel ι D nt env a) (hm : ∀ b, D b → E b) (ha : ∀ b, D b → ι' b = ι b) : ERel ι' E nt env a :=
  ⟨h.size, fun s v hs => (h.get s v hs).mono hm ha⟩

theorem ERel.lt {ι : Io} {D : Nat → Prop} {nt : Nat} {env : Env} {a : Act} (h : ERel ι D nt env a) : EnvLt D env := fun s v hs => (h.get s v hs).lt

theorem eget_cons (s : Nat) (v : Value) (env : Env) (t : Nat) : eget ((s, v) :: env) t = if s = t then some v else eget env t := by
  rw [eget]
  cases hb : Nat.beq s t with
  | true => rw [if_pos (Nat.eq_of_beq_eq_true hb)]
  | false => rw [if_neg (Nat.ne_of_beq_eq_false hb)]

theorem getD_set {a : Array Value} {d : Nat} {v : Value} (hd : d < a.size) (s : Nat) : (a.setIfInBounds d v).getD s undef = if d = s then v else a.getD s undef := by
  simp only [Array.getD_eq_getD_getElem?, Array.getElem?_setIfInBounds]
  by_cases h : d = s
  · subst h; simp [hd]
  · simp [h]

theorem ERel.put {ι : Io} {D : Nat → Prop} {nt : Nat} {env : Env} {a : Act} {d : Nat} {v c : Value} (h : ERel ι D nt env a) (hd : d < nt) (hv : VRel ι D v c) : ERel ι D nt ((d, v) :: env) (a.put (some d) c) := by
  refine ⟨by simp [Act.put, h.size], fun s u hs => ?_⟩
  rw [eget_cons] at hs
  simp only [Act.put]
  rw [getD_set (h.size ▸ hd)]
  by_cases e : d = s
  · subst e; simp at hs ⊢; subst hs; exact hv
  · simp [e] at hs ⊢; simpa using h.get s u hs

theorem ERel.lit {ι : Io} {D : Nat → Prop} {nt : Nat} {env : Env} {a : Act} {d : Nat} {b : Bool} (h : ERel ι D nt env a) (hv : eget env d = some (.bool b)) : ERel ι D nt ((d, .bool b) :: env) a := by
  refine ⟨h.size, fun s u hs => ?_⟩
  rw [eget_cons] at hs
  by_cases e : d = s
  · subst e; simp at hs; subst hs; exact h.get d _ hv
  · simp [e] at hs; exact h.get s u hs

theorem ev_rel {ι : Io} {D : Nat → Prop} {nt : Nat} {env : Env} {a : Act} (h : ERel ι D nt env a) {x : Operand} {v : Value} (hx : ev env x = some v) : VRel ι D v (a.eval x) := by
  cases x with
  | tmp t => exact h.get t v hx
  | const u =>
    simp only [ev] at hx
    split at hx
    · rename_i hr; simp at hx; subst hx; exact noRef_rel hr ι D
    · simp at hx
  | global g => simp [ev] at hx
  | func f =>
    simp [ev] at hx; subst hx
    exact .func f [] [] [] [] rfl (fun i h1 => absurd h1 (by simp)) rfl (fun i h1 => absurd h1 (by simp))

theorem evs_rel {ι : Io} {D : Nat → Prop} {nt : Nat} {env : Env} {a : Act} (h : ERel ι D nt env a) : ∀ {xs : List Operand} {vs : List Value}, evs env xs = some vs → LRel ι D vs (xs.map a.eval)
  | [], vs, hx => by simp [evs] at hx; subst hx; exact LRel.nil ι D
  | x :: r, vs, hx => by
    simp only [evs] at hx
    cases h1 : ev env x with
    | none => simp [h1, obind] at hx
    | some v =>
      cases h2 : evs env r with
      | none => simp [h1, h2, obind] at hx
      | some l =>
        simp [h1, h2, obind] at hx; subst hx
        exact LRel.cons (ev_rel h h1) (evs_rel h h2)

theorem obind_some {α β : Type} {x : Option α} {f : α → Option β} {r : β} (h : obind x f = some r) : ∃ a, x = some a ∧ f a = some r := by
  cases x with
  | none => simp [obind] at h
  | some a => exact ⟨a, rfl, h⟩

theorem oif_some {β : Type} {b : Bool} {x y : Option β} {r : β} (h : oif b x y = some r) : (b = true ∧ x = some r) ∨ (b = false ∧ y = some r) := by
  cases b with
  | true => exact .inl ⟨rfl, h⟩
  | false => exact .inr ⟨rfl, h⟩

theorem noRef_lt {v : Value} (h : noRef v = true) (D : Nat → Prop) : VLt D v := (noRef_rel h (fun _ => ⟨0, 0, 0⟩) D).lt

theorem ev_lt {D : Nat → Prop} {env : Env} (h : EnvLt D env) {x : Operand} {v : Value} (hx : ev env x = some v) : VLt D v := by
  cases x with
  | tmp t => exact h t v hx
  | const u =>
    simp only [ev] at hx
    split at hx
    · rename_i hr; simp at hx; subst hx; exact noRef_lt hr D
    · simp at hx
  | global g => simp [ev] at hx
  | func f =>
    simp [ev] at hx; subst hx
    exact .func f [] [] (fun i h1 => absurd h1 (by simp)) (fun i h1 => absurd h1 (by simp))

def LLt (D : Nat → Prop) (xs : List Value) : Prop := ∀ v ∈ xs, VLt D v

theorem evs_lt {D : Nat → Prop} {env : Env} (h : EnvLt D env) : ∀ {xs : List Operand} {vs : List Value}, evs env xs = some vs → LLt D vs
  | [], vs, hx => by simp [evs] at hx; subst hx; intro v hv; simp at hv
  | x :: r, vs, hx => by
    obtain ⟨v, h1, hx⟩ := obind_some hx
    obtain ⟨l, h2, hx⟩ := obind_some hx
    simp at hx; subst hx
    intro u hu
    rcases List.mem_cons.1 hu with rfl | hu
    · exact ev_lt h h1
    · exact evs_lt h h2 u hu

theorem EnvLt.put {D : Nat → Prop} {env : Env} (h : EnvLt D env) {d : Nat} {v : Value} (hv : VLt D v) : EnvLt D ((d, v) :: env) := by
  intro s u hs
  rw [eget_cons] at hs
  by_cases e : d = s
  · simp [e] at hs; subst hs; exact hv
  · simp [e] at hs; exact h s u hs

theorem EnvLt.mono {D E : Nat → Prop} {env : Env} (h : EnvLt D env) (hm : ∀ b, D b → E b) : EnvLt E env := fun s v hs => (h s v hs).mono hm

theorem Bel.mono {n m : Nat} (h : n ≤ m) : ∀ b, Bel n b → Bel m b := fun b hb => Nat.lt_of_lt_of_le hb h

end Go.Ev
