/-
  Parts of slices and strings, conversions, built-in functions that compute, structs put together: they agree with the model's run.
  Conditions: none.
-/
import Derived.Test.YtpjlbjkeekobnaaDoorOpB
set_option linter.unusedVariables false
namespace Go.Ev

section
variable {P : Program} {nt : Nat} {o : Oper} {env : Env} {H : Heap} {X : Cx} {β : Type} {K : Value → Heap → Option β} {r : β}

theorem run_sliceBound (w : World) (k : IntKind) (i y : Nat) (code : BoundsCode) (h : i ≤ y) : (Instr.sliceBound (.int k (i : Int)) y code).run P w = .ok i w := by
  simp [Instr.sliceBound, asIntOf, h]

/-- The bounds of 'x[lo:hi]'. -/
theorem run_sliceBounds (w : World) (isS : Bool) (len cap l h : Nat) (lo hi : Option Value) (hl : l ≤ h) (hh : h ≤ cap) (elo : (lo = none ∧ l = 0) ∨ lo = some (.int .i64 (l : Int))) (ehi : (hi = none ∧ h = len) ∨ hi = some (.int .i64 (h : Int))) :
    (Instr.sliceBounds isS len cap lo hi none).run P w = .ok (l, h, cap) w := by
  rcases elo with ⟨rfl, rfl⟩ | rfl <;> rcases ehi with ⟨rfl, rfl⟩ | rfl <;> simp [Instr.sliceBounds, run_sliceBound, hl, hh]

theorem opt_rel {ι : Io} {D : Nat → Prop} {a : Act} (he : ERel ι D nt env a) {x : Option Operand} {d n : Nat} (h : (x = none ∧ n = d) ∨ ∃ y, x = some y ∧ ev env y = some (.int .i64 (n : Int))) :
    (x.map a.eval = none ∧ n = d) ∨ x.map a.eval = some (.int .i64 (n : Int)) := by
  rcases h with ⟨rfl, rfl⟩ | ⟨y, rfl, hy⟩
  · exact .inl ⟨rfl, rfl⟩
  · exact .inr (by simp [(ev_rel he hy).inv_int])

theorem sliceAt_slice {t e : TypeId} (hu : P.underlying t = some (.slice e)) (x : Value) (lo hi mx : Option Value) (w : World) : (Instr.sliceAt t x lo hi mx).run P w = (Instr.slice t x lo hi mx).run P w := by
  simp [Instr.sliceAt, run_underlying hu]
theorem sliceAt_string {t : TypeId} (hu : P.underlying t = some .string) (x : Value) (lo hi mx : Option Value) (w : World) : (Instr.sliceAt t x lo hi mx).run P w = (Instr.slice t x lo hi mx).run P w := by
  simp [Instr.sliceAt, run_underlying hu]

theorem pure_sliceNil {t e : TypeId} {x : Operand} {lo hi : Option Operand} {l h : Nat} {i : TypeInfo} (ho : o.op = .slice t x lo hi none) (hx : ev env x = some (.slice none 0 0)) (hu : P.underlying t = some (.slice e)) (hi' : P.info? e = some i)
    (h1 : (hi = none ∧ h = 0) ∨ ∃ y, hi = some y ∧ ev env y = some (.int .i64 (h : Int))) (h2 : (lo = none ∧ l = 0) ∨ ∃ y, lo = some y ∧ ev env y = some (.int .i64 (l : Int))) (hl : l ≤ h) (hn : h ≤ 0) :
    PureF P nt o env (.slice none 0 0) := by
  refine ⟨fun ι D a w he => ?_, fun D h => .slNil⟩
  have ex : a.eval x = .slice none 0 0 := by
    have := ev_rel he hx
    cases hq : a.eval x <;> rw [hq] at this <;> cases this; rfl
  refine ⟨.slice none 0 0, ?_, .slNil⟩
  have hb := run_sliceBounds (P := P) w true 0 0 l h (lo.map a.eval) (hi.map a.eval) hl hn (opt_rel he h2) (opt_rel he h1)
  have hh : h = 0 := by omega
  have hl0 : l = 0 := by omega
  have hrun : (Instr.slice t (.slice none 0 0) (lo.map a.eval) (hi.map a.eval) none).run P w = .ok (.slice none 0 0) w := by
    simp only [Instr.slice, Sem.run_bind, run_underlying hu, Result.andThen_ok, hb]
    simp [sizeOf, typeInfo, hi', hh, hl0]
  simp only [execOp, ho, ex, Sem.run_bind, sliceAt_slice hu, Option.map_none, hrun, Result.andThen_ok, Sem.run_pure]

theorem pure_slice {t e : TypeId} {x : Operand} {lo hi : Option Operand} {p : Addr} {n c l h : Nat} {i : TypeInfo} (ho : o.op = .slice t x lo hi none) (hx : ev env x = some (.slice (some p) n c)) (hu : P.underlying t = some (.slice e)) (hi' : P.info? e = some i)
    (h1 : (hi = none ∧ h = n) ∨ ∃ y, hi = some y ∧ ev env y = some (.int .i64 (h : Int))) (h2 : (lo = none ∧ l = 0) ∨ ∃ y, lo = some y ∧ ev env y = some (.int .i64 (l : Int))) (hl : l ≤ h) (hn : h ≤ n) (hc : c = i.size) :
    PureF P nt o env (.slice (some ⟨p.block, p.off + l * i.size, none⟩) (h - l) c) := by
  subst hc
  refine ⟨fun ι D a w he => ?_, fun D h => .sl _ _ _ (ev_lt h hx).sl_inv⟩
  have hv := ev_rel he hx
  have key : ∀ (q : Addr) (cap : Nat), a.eval x = .slice (some q) n cap → h ≤ cap → (execOp a.eval o).run P w = .ok (.value (.slice (some (if cap = l then q else q.add (l * i.size))) (h - l) (cap - l))) w := by
    intro q cap ex hcap
    have hb := run_sliceBounds (P := P) w true n cap l h (lo.map a.eval) (hi.map a.eval) hl hcap (opt_rel he h2) (opt_rel he h1)
    have hrun : (Instr.slice t (.slice (some q) n cap) (lo.map a.eval) (hi.map a.eval) none).run P w = .ok (.slice (some (if cap = l then q else q.add (l * i.size))) (h - l) (cap - l)) w := by
      simp only [Instr.slice, Sem.run_bind, run_underlying hu, Result.andThen_ok, hb]
      simp [sizeOf, typeInfo, hi']
      split <;> rfl
    simp only [execOp, ho, ex, Sem.run_bind, sliceAt_slice hu, Option.map_none, hrun, Result.andThen_ok, Sem.run_pure]
  generalize hq : a.eval x = q at hv
  cases hv with
  | slGo _ _ _ cap hD hlc hcap =>
    refine ⟨_, key _ cap hq (by omega), ?_⟩
    by_cases e : cap = l
    · rw [if_pos e]
      have e1 : h - l = 0 := by omega
      have e2 : cap - l = 0 := by omega
      rw [e1, e2]; exact .slEmpty _ _ _ hD
    · rw [if_neg e]
      have ha : (ι.addr p).add (l * i.size) = ι.addr ⟨p.block, p.off + l * i.size, none⟩ := by
        rw [addr_add]; simp only [Io.addr, Nat.add_assoc]
      rw [ha]
      refine .slGo ⟨p.block, p.off + l * i.size, none⟩ _ _ _ hD (by omega) ?_
      simp only
      have : (cap - l) * i.size + l * i.size = cap * i.size := by rw [← Nat.add_mul]; congr 1; omega
      omega
  | slEmpty _ b _ hD =>
    refine ⟨_, key _ 0 hq (by omega), ?_⟩
    have e1 : l = 0 := by omega
    subst e1
    rw [if_pos rfl]
    have e2 : h - 0 = 0 := by omega
    rw [e2]; exact .slEmpty _ _ _ hD

theorem pure_sliceStr {t : TypeId} {x : Operand} {lo hi : Option Operand} {s : ByteArray} {l h : Nat} (ho : o.op = .slice t x lo hi none) (hx : ev env x = some (.string s)) (hu : P.underlying t = some .string)
    (h1 : (hi = none ∧ h = s.size) ∨ ∃ y, hi = some y ∧ ev env y = some (.int .i64 (h : Int))) (h2 : (lo = none ∧ l = 0) ∨ ∃ y, lo = some y ∧ ev env y = some (.int .i64 (l : Int))) (hl : l ≤ h) (hn : h ≤ s.size) :
    PureF P nt o env (.string (s.extract l h)) := by
  refine ⟨fun ι D a w he => ⟨_, ?_, .str _⟩, fun D h => .str _⟩
  have ex := (ev_rel he hx).inv_str
  have hb := run_sliceBounds (P := P) w false s.size s.size l h (lo.map a.eval) (hi.map a.eval) hl hn (opt_rel he h2) (opt_rel he h1)
  have hrun : (Instr.slice t (.string s) (lo.map a.eval) (hi.map a.eval) none).run P w = .ok (.string (s.extract l h)) w := by
    simp only [Instr.slice, Sem.run_bind, run_underlying hu, Result.andThen_ok, Option.isSome_none, Bool.false_eq_true, if_false, Sem.run_pure, hb]
  simp only [execOp, ho, ex, Sem.run_bind, sliceAt_string hu, Option.map_none, hrun, Result.andThen_ok, Sem.run_pure]

theorem pure_convInt {src dst : TypeId} {x : Operand} {k0 k k' : IntKind} {n : Int} (ho : o.op = .convert src dst x) (hx : ev env x = some (.int k' n)) (h1 : P.underlying src = some (.int k0)) (h2 : P.underlying dst = some (.int k)) : PureF P nt o env (.int k (k.wrap n)) := by
  refine ⟨fun ι D a w he => ⟨_, ?_, .int _ _⟩, fun D h => .int _ _⟩
  simp [execOp, ho, (ev_rel he hx).inv_int, convert, run_underlying h1, run_underlying h2, Conv.intToInt]

theorem pure_convStr {src dst : TypeId} {x : Operand} {s : ByteArray} (ho : o.op = .convert src dst x) (hx : ev env x = some (.string s)) (h1 : P.underlying src = some .string) (h2 : P.underlying dst = some .string) : PureF P nt o env (.string s) := by
  refine ⟨fun ι D a w he => ⟨_, ?_, .str _⟩, fun D h => .str _⟩
  simp [execOp, ho, (ev_rel he hx).inv_str, convert, run_underlying h1, run_underlying h2]

/-- A call of a built-in function. -/
theorem run_builtin {c : Call} {b : Builtin} (ho : o.op = .call c) (hb : c.callee = .builtin b) (ρ : Operand → Value) (w : World) :
    ∃ consts, (execOp ρ o).run P w = (builtin b c.argTypes o.type consts (c.args.map ρ)).run P w := by
  simp only [execOp, ho, resolve, hb, invoke, Sem.run_bind, Sem.run_pure, Result.andThen_ok]
  exact ⟨_, rfl⟩

theorem args_one {c : Call} {v : Value} (h : evs env c.args.toList = some [v]) : ∃ x, c.args = #[x] ∧ ev env x = some v := by
  generalize c.args = A at h ⊢
  obtain ⟨args⟩ := A
  match args, h with
  | [], h => simp [evs] at h
  | [x], h =>
    simp only [evs] at h
    obtain ⟨u, hu, h⟩ := obind_some h
    simp [obind] at h
    exact ⟨x, rfl, h ▸ hu⟩
  | x :: y :: r, h =>
    simp only [evs] at h
    obtain ⟨u, hu, h⟩ := obind_some h
    obtain ⟨l, hl, h⟩ := obind_some h
    obtain ⟨u', hu', hl⟩ := obind_some hl
    obtain ⟨l', hl', hl⟩ := obind_some hl
    simp at h hl
    rw [← hl] at h
    simp at h

theorem args_two {c : Call} {v v' : Value} (h : evs env c.args.toList = some [v, v']) : ∃ x y, c.args = #[x, y] ∧ ev env x = some v ∧ ev env y = some v' := by
  generalize c.args = A at h ⊢
  obtain ⟨args⟩ := A
  match args, h with
  | [], h => simp [evs] at h
  | x :: r, h =>
    simp only [evs] at h
    obtain ⟨u, hu, h⟩ := obind_some h
    obtain ⟨l, hl, h⟩ := obind_some h
    simp at h
    obtain ⟨h1, h2⟩ := h
    subst h1
    match r, hl with
    | [], hl => simp [evs] at hl; rw [← hl] at h2; simp at h2
    | [y], hl =>
      simp only [evs] at hl
      obtain ⟨u', hu', hl⟩ := obind_some hl
      simp [obind] at hl
      rw [← hl] at h2
      simp at h2
      exact ⟨x, y, rfl, hu, h2 ▸ hu'⟩
    | y :: z :: q, hl =>
      simp only [evs] at hl
      obtain ⟨u', hu', hl⟩ := obind_some hl
      obtain ⟨l', hl', hl⟩ := obind_some hl
      obtain ⟨u2, hu2, hl'⟩ := obind_some hl'
      obtain ⟨l2, hl2, hl'⟩ := obind_some hl'
      simp at hl hl'
      rw [← hl, ← hl'] at h2
      simp at h2

theorem types_one {c : Call} {t : TypeId} (h : c.argTypes.toList = [t]) : c.argTypes = #[t] := by
  generalize c.argTypes = A at h ⊢; obtain ⟨l⟩ := A; simp at h; rw [h]
theorem types_two {c : Call} {t u : TypeId} (h : c.argTypes.toList = [t, u]) : c.argTypes = #[t, u] := by
  generalize c.argTypes = A at h ⊢; obtain ⟨l⟩ := A; simp at h; rw [h]

theorem pure_lenSl {c : Call} {t e : TypeId} {a : Option Addr} {n m : Nat} (ho : o.op = .call c) (hb : c.callee = .builtin .len) (ht : c.argTypes.toList = [t]) (hv : evs env c.args.toList = some [.slice a n m]) (hu : P.underlying t = some (.slice e)) :
    PureF P nt o env (.int .i64 n) := by
  refine ⟨fun ι D act w he => ⟨_, ?_, .int _ _⟩, fun D h => .int _ _⟩
  obtain ⟨x, hx, hev⟩ := args_one hv
  obtain ⟨a', cap, e', _, _⟩ := (ev_rel he hev).inv_sl
  obtain ⟨cs, hcs⟩ := run_builtin (P := P) ho hb act.eval w
  rw [hcs, types_one ht, hx]
  simp [builtin, Builtin.len_, e', run_underlying hu, goInt]

theorem pure_capNil {c : Call} {t e : TypeId} (ho : o.op = .call c) (hb : c.callee = .builtin .cap) (ht : c.argTypes.toList = [t]) (hv : evs env c.args.toList = some [.slice none 0 0]) (hu : P.underlying t = some (.slice e)) :
    PureF P nt o env (.int .i64 0) := by
  refine ⟨fun ι D act w he => ⟨_, ?_, .int _ _⟩, fun D h => .int _ _⟩
  obtain ⟨x, hx, hev⟩ := args_one hv
  have e' : act.eval x = .slice none 0 0 := by
    have := ev_rel he hev
    cases hq : act.eval x <;> rw [hq] at this <;> cases this; rfl
  obtain ⟨cs, hcs⟩ := run_builtin (P := P) ho hb act.eval w
  rw [hcs, types_one ht, hx]
  simp [builtin, Builtin.cap_, e', run_underlying hu, goInt]

theorem pure_lenStr {c : Call} {t : TypeId} {s : ByteArray} (ho : o.op = .call c) (hb : c.callee = .builtin .len) (ht : c.argTypes.toList = [t]) (hv : evs env c.args.toList = some [.string s]) (hu : P.underlying t = some .string) :
    PureF P nt o env (.int .i64 s.size) := by
  refine ⟨fun ι D act w he => ⟨_, ?_, .int _ _⟩, fun D h => .int _ _⟩
  obtain ⟨x, hx, hev⟩ := args_one hv
  obtain ⟨cs, hcs⟩ := run_builtin (P := P) ho hb act.eval w
  rw [hcs, types_one ht, hx]
  simp [builtin, Builtin.len_, (ev_rel he hev).inv_str, run_underlying hu, goInt]

theorem pure_min {c : Call} {k k' : IntKind} {x y : Int} (ho : o.op = .call c) (hb : c.callee = .builtin .min) (hv : evs env c.args.toList = some [.int k x, .int k' y]) : PureF P nt o env (.int k (if y < x then y else x)) := by
  refine ⟨fun ι D act w he => ⟨_, ?_, .int _ _⟩, fun D h => .int _ _⟩
  obtain ⟨p, q, hx, h1, h2⟩ := args_two hv
  obtain ⟨cs, hcs⟩ := run_builtin (P := P) ho hb act.eval w
  rw [hcs, hx]
  simp [builtin, (ev_rel he h1).inv_int, (ev_rel he h2).inv_int, run_min_int2]

theorem pure_max {c : Call} {k k' : IntKind} {x y : Int} (ho : o.op = .call c) (hb : c.callee = .builtin .max) (hv : evs env c.args.toList = some [.int k x, .int k' y]) : PureF P nt o env (.int k (if y > x then y else x)) := by
  refine ⟨fun ι D act w he => ⟨_, ?_, .int _ _⟩, fun D h => .int _ _⟩
  obtain ⟨p, q, hx, h1, h2⟩ := args_two hv
  obtain ⟨cs, hcs⟩ := run_builtin (P := P) ho hb act.eval w
  rw [hcs, hx]
  simp [builtin, (ev_rel he h1).inv_int, (ev_rel he h2).inv_int, run_max_int2]

/-- Parts with their places. -/
def PRel (ι : Io) (D : Nat → Prop) : List (Nat × Value) → List (Nat × Value) → Prop
  | [], [] => True
  | x :: r, y :: q => x.1 = y.1 ∧ VRel ι D x.2 y.2 ∧ PRel ι D r q
  | _, _ => False

theorem evParts_rel {ι : Io} {D : Nat → Prop} {a : Act} (he : ERel ι D nt env a) : ∀ {xs : List (Nat × Operand)} {ps : List (Nat × Value)}, evParts env xs = some ps → PRel ι D ps (xs.map fun (i, x) => (i, a.eval x))
  | [], ps, h => by simp [evParts] at h; subst h; trivial
  | (i, x) :: r, ps, h => by
    simp only [evParts] at h
    obtain ⟨v, hv, h⟩ := obind_some h
    obtain ⟨l, hl, h⟩ := obind_some h
    simp at h; subst h
    exact ⟨rfl, ev_rel he hv, evParts_rel he hl⟩

theorem evParts_lt {D : Nat → Prop} (he : EnvLt D env) : ∀ {xs : List (Nat × Operand)} {ps : List (Nat × Value)}, evParts env xs = some ps → ∀ p ∈ ps, VLt D p.2
  | [], ps, h => by simp [evParts] at h; subst h; simp
  | (i, x) :: r, ps, h => by
    simp only [evParts] at h
    obtain ⟨v, hv, h⟩ := obind_some h
    obtain ⟨l, hl, h⟩ := obind_some h
    simp at h; subst h
    intro p hp
    rcases List.mem_cons.1 hp with rfl | hp
    · exact ev_lt he hv
    · exact evParts_lt he hl p hp

theorem VRel.cells {ι : Io} {D : Nat → Prop} {v c : Value} (h : VRel ι D v c) : LRel ι D v.cells.toList c.cells.toList := by
  cases hv : Ev.isCell v with
  | true =>
    have hc := h.isCell
    have e1 : v.cells = #[v] := by cases v <;> first | rfl | simp [Ev.isCell] at hv
    have e2 : c.cells = #[c] := by rw [hv] at hc; cases c <;> first | rfl | simp [Ev.isCell] at hc
    rw [e1, e2]; exact LRel.cons h (LRel.nil ι D)
  | false =>
    cases h <;> first | (simp [Ev.isCell] at hv; done) | skip
    case agg xs ys hl h => exact ⟨hl, h⟩
    case tuple xs ys hl h => exact LRel.cons (.tuple xs ys hl h) (LRel.nil ι D)

theorem VLt.cells {D : Nat → Prop} {v : Value} (h : VLt D v) : LLt D v.cells.toList := by
  cases v
  case agg xs => exact h.agg_mem
  all_goals
    intro u hu
    simp [Value.cells] at hu
    subst hu; exact h

theorem LRel.set {ι : Io} {D : Nat → Prop} {xs ys : Array Value} (h : LRel ι D xs.toList ys.toList) {v c : Value} (hv : VRel ι D v c) (i : Nat) : LRel ι D (xs.setIfInBounds i v).toList (ys.setIfInBounds i c).toList := by
  simp only [Array.toList_setIfInBounds]
  refine ⟨by simp [h.1], fun j h1 h2 => ?_⟩
  simp only [List.getElem_set]
  split
  · exact hv
  · exact h.2 j _ _

theorem foldl_rel {ι : Io} {D : Nat → Prop} (off : Nat) : ∀ (l l' : List Value) (n : Nat) (A A' : Array Value), LRel ι D l l' → LRel ι D A.toList A'.toList →
    LRel ι D ((l.zipIdx n).foldl (fun cs (c, j) => cs.setIfInBounds (off + j) c) A).toList ((l'.zipIdx n).foldl (fun cs (c, j) => cs.setIfInBounds (off + j) c) A').toList
  | [], [], n, A, A', _, hA => by simpa using hA
  | [], _ :: _, _, _, _, h, _ => absurd h.1 (by simp)
  | _ :: _, [], _, _, _, h, _ => absurd h.1 (by simp)
  | v :: l, c :: l', n, A, A', h, hA => by
    simp only [List.zipIdx_cons, List.foldl_cons]
    exact foldl_rel off l l' (n + 1) _ _ h.tail (hA.set h.head _)

theorem fill_rel {ι : Io} {D : Nat → Prop} (place : Nat → Option (Nat × Nat)) : ∀ (ps qs : List (Nat × Value)) (A A' cs : Array Value), PRel ι D ps qs → LRel ι D A.toList A'.toList → Instr.fill place A ps = some cs → ∃ cs', Instr.fill place A' qs = some cs' ∧ LRel ι D cs.toList cs'.toList
  | [], [], A, A', cs, _, hA, h => by simp [Instr.fill] at h; subst h; exact ⟨A', rfl, hA⟩
  | [], _ :: _, _, _, _, h, _, _ => h.elim
  | _ :: _, [], _, _, _, h, _, _ => h.elim
  | (i, v) :: ps, (j, c) :: qs, A, A', cs, ⟨e, hv, hp⟩, hA, h => by
    simp only at e hv
    subst e
    simp only [Instr.fill] at h ⊢
    cases hpl : place i with
    | none => rw [hpl] at h; simp at h
    | some os =>
      obtain ⟨off, size⟩ := os
      rw [hpl] at h
      simp only at h ⊢
      have hcs : c.cells.size = v.cells.size := by have := hv.cells.1; simpa using this.symm
      have hAs : A'.size = A.size := by have := hA.1; simpa using this.symm
      rw [hcs, hAs]
      split at h
      · simp at h
      · rename_i hn
        rw [if_neg hn]
        refine fill_rel place ps qs _ _ cs hp ?_ h
        have := foldl_rel (ι := ι) (D := D) off v.cells.toList c.cells.toList 0 A A' hv.cells hA
        rw [← Array.foldl_toList, ← Array.foldl_toList]
        simpa using this

theorem foldl_lt {D : Nat → Prop} (off : Nat) : ∀ (l : List Value) (n : Nat) (A : Array Value), LLt D l → LLt D A.toList → LLt D ((l.zipIdx n).foldl (fun cs (c, j) => cs.setIfInBounds (off + j) c) A).toList
  | [], n, A, _, hA => by simpa using hA
  | v :: l, n, A, h, hA => by
    simp only [List.zipIdx_cons, List.foldl_cons]
    refine foldl_lt off l (n + 1) _ (fun u hu => h u (List.mem_cons_of_mem _ hu)) ?_
    intro u hu
    simp only [Array.toList_setIfInBounds] at hu
    rcases List.mem_or_eq_of_mem_set hu with hu | rfl
    · exact hA u hu
    · exact h _ (List.mem_cons_self ..)

theorem fill_lt {D : Nat → Prop} (place : Nat → Option (Nat × Nat)) : ∀ (ps : List (Nat × Value)) (A cs : Array Value), (∀ p ∈ ps, VLt D p.2) → LLt D A.toList → Instr.fill place A ps = some cs → LLt D cs.toList
  | [], A, cs, _, hA, h => by simp [Instr.fill] at h; subst h; exact hA
  | (i, v) :: ps, A, cs, hp, hA, h => by
    simp only [Instr.fill] at h
    cases hpl : place i with
    | none => rw [hpl] at h; simp at h
    | some os =>
      obtain ⟨off, size⟩ := os
      rw [hpl] at h
      simp only at h
      split at h
      · simp at h
      · refine fill_lt place ps _ cs (fun p h => hp p (List.mem_cons_of_mem _ h)) ?_ h
        have := foldl_lt (D := D) off v.cells.toList 0 A (hp _ (List.mem_cons_self ..)).cells hA
        rw [← Array.foldl_toList]
        simpa using this

theorem built_fill {t : TypeId} {ps : List (Nat × Value)} {cs : Array Value} (h : P.built t ps = some cs) : ∃ z place, zeroOf P t = some z ∧ (∀ qs, P.built t qs = Instr.fill place z.cells qs) := by
  unfold Program.built at h
  cases hit : P.info? t with
  | none => simp [hit] at h
  | some it =>
    cases hu : P.underlying t with
    | none => simp [hit, hu] at h
    | some d =>
      cases hz : it.zero with
      | none => cases d <;> simp [hit, hu, hz] at h
      | some z =>
        have hzo : zeroOf P t = some z := by simp [zeroOf, hit, obind, hz]
        cases d <;> try (simp [hit, hu] at h; done)
        case array n e =>
          cases hie : P.info? e with
          | none => simp [hit, hu, hz, hie] at h
          | some ie => exact ⟨z, fun i => some (i * ie.size, ie.size), hzo, fun qs => by simp only [Program.built, hit, hu, hz, hie]⟩
        case struct fields =>
          cases hp : fields.toList.mapM (fun f => (P.info? f.type).map fun i => (f.offset, i.size)) with
          | none => simp [hit, hu, hz, hp] at h
          | some places => exact ⟨z, fun x => places.toArray[x]?, hzo, fun qs => by simp only [Program.built, hit, hu, hz, hp]⟩

theorem pure_build {t : TypeId} {parts : Array (Nat × Operand)} {ps : List (Nat × Value)} {cs : Array Value} (ho : o.op = .build t parts) (hp : evParts env parts.toList = some ps) (hf : fillA P t ps = some cs) : PureF P nt o env (.agg cs) := by
  unfold fillA at hf
  obtain ⟨z, hz, hf⟩ := obind_some hf
  split at hf
  · rename_i hleaf
    obtain ⟨z', place, hz', hb⟩ := built_fill hf
    rw [hz] at hz'; simp at hz'; subst hz'
    refine ⟨fun ι D a w he => ?_, fun D he => ?_⟩
    · rw [hb] at hf
      obtain ⟨cs', h1, h2⟩ := fill_rel place _ _ _ _ cs (evParts_rel he hp) (LRel.refl_leaf hleaf ι D) hf
      refine ⟨.agg cs', ?_, h2.mkAgg⟩
      have hrun := run_build (P := P) w t (parts.map fun (i, x) => (i, a.eval x)) cs' (by rw [hb, ← h1]; congr 1; simp)
      simp only [execOp, ho, Sem.run_bind, hrun, Result.andThen_ok, Sem.run_pure]
    · rw [hb] at hf
      exact VLt.mkAgg (fill_lt place _ _ cs (evParts_lt he hp) (fun v hv => leafOk_lt (List.all_eq_true.1 hleaf v hv) D) hf)
  · simp at hf

end

end Go.Ev
