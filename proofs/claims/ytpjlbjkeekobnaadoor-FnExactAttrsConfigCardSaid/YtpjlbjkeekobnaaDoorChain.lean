/-
  A region that draws its order: the run in the order of the text, state by state, and what the checks on it say.
  Conditions: none.
-/
import Derived.Test.YtpjlbjkeekobnaaDoorRun
set_option linter.unusedVariables false
set_option linter.unusedSimpArgs false
namespace Go.Ev

def stepB (acc : Array Nat) (o : Oper) : Nat := o.after.foldl (fun s e => if Region.binds .any e then s ||| 2 ^ e.on ||| acc.getD e.on 0 else s) 0

theorem before_eq (ops : Array Oper) : Region.before ops = ops.toList.foldl (fun acc o => acc.push (stepB acc o)) #[] := by
  rw [Array.foldl_toList]; rfl

theorem foldB : ∀ (l : List Oper) (acc : Array Nat), (l.foldl (fun acc o => acc.push (stepB acc o)) acc).size = acc.size + l.length ∧ (∀ j, j < acc.size → (l.foldl (fun acc o => acc.push (stepB acc o)) acc)[j]? = acc[j]?) ∧
    ∀ k o, l[k]? = some o → ∃ acc' : Array Nat, acc'.size = acc.size + k ∧ (∀ j, j < acc'.size → (l.foldl (fun acc o => acc.push (stepB acc o)) acc)[j]? = acc'[j]?) ∧ (l.foldl (fun acc o => acc.push (stepB acc o)) acc)[acc.size + k]? = some (stepB acc' o)
  | [], acc => ⟨by simp, fun j _ => rfl, fun k o h => by simp at h⟩
  | x :: l, acc => by
    obtain ⟨h1, h2, h3⟩ := foldB l (acc.push (stepB acc x))
    simp only [List.foldl_cons]
    refine ⟨by rw [h1]; simp; omega, fun j hj => ?_, fun k o hk => ?_⟩
    · rw [h2 j (by simp; omega), Array.getElem?_push, if_neg (by omega)]
    · cases k with
      | zero =>
        simp at hk; subst hk
        refine ⟨acc, by simp, fun j hj => ?_, ?_⟩
        · rw [h2 j (by simp; omega), Array.getElem?_push, if_neg (by omega)]
        · rw [Nat.add_zero, h2 acc.size (by simp), Array.getElem?_push, if_pos rfl]
      | succ k =>
        obtain ⟨acc', g1, g2, g3⟩ := h3 k o (by simpa using hk)
        refine ⟨acc', by rw [g1]; simp; omega, g2, ?_⟩
        rw [show acc.size + (k + 1) = (acc.push (stepB acc x)).size + k by simp; omega]
        exact g3

theorem stepB_bit (acc : Array Nat) (i : Nat) : ∀ (l : List Edge) (s : Nat), (l.foldl (fun s e => if Region.binds .any e then s ||| 2 ^ e.on ||| acc.getD e.on 0 else s) s).testBit i = true →
    s.testBit i = true ∨ ∃ e ∈ l, Region.binds .any e = true ∧ (e.on = i ∨ (acc.getD e.on 0).testBit i = true)
  | [], s, h => .inl h
  | e :: l, s, h => by
    simp only [List.foldl_cons] at h
    rcases stepB_bit acc i l _ h with h | ⟨e', h1, h2⟩
    · split at h
      · rename_i hb
        simp only [Nat.testBit_or, Bool.or_eq_true, Nat.testBit_two_pow, decide_eq_true_eq] at h
        rcases h with (h | h) | h
        · exact .inl h
        · exact .inr ⟨e, by simp, hb, .inl h⟩
        · exact .inr ⟨e, by simp, hb, .inr h⟩
      · exact .inl h
    · exact .inr ⟨e', List.mem_cons_of_mem _ h1, h2⟩

theorem bit_step {ops : Array Oper} {j i : Nat} (h : bitOf (Region.before ops) j i = true) : ∃ o e, ops[j]? = some o ∧ e ∈ o.after.toList ∧ Region.binds .any e = true ∧ (e.on = i ∨ bitOf (Region.before ops) e.on i = true) := by
  obtain ⟨h1, _, h3⟩ := foldB ops.toList #[]
  rw [← before_eq] at h1 h3
  unfold bitOf at h
  cases hj : ops[j]? with
  | none =>
    have hlt : ops.size ≤ j := by
      by_cases hlt : j < ops.size
      · rw [Array.getElem?_eq_getElem hlt] at hj; simp at hj
      · omega
    have : (Region.before ops).getD j 0 = 0 := by
      rw [Array.getD_eq_getD_getElem?, Array.getElem?_eq_none (by rw [h1]; simp; omega)]; rfl
    rw [this] at h; simp at h
  | some o =>
    obtain ⟨acc', g1, g2, g3⟩ := h3 j o (by rw [Array.getElem?_toList]; exact hj)
    simp only [List.size_toArray, List.length_nil, Nat.zero_add] at g1 g3
    have e1 : (Region.before ops).getD j 0 = stepB acc' o := by rw [Array.getD_eq_getD_getElem?, g3]; rfl
    rw [e1] at h
    unfold stepB at h
    rw [← Array.foldl_toList] at h
    rcases stepB_bit acc' i o.after.toList 0 h with h | ⟨e, k1, k2, k3⟩
    · simp at h
    · refine ⟨o, e, rfl, k1, k2, ?_⟩
      rcases k3 with k3 | k3
      · exact .inl k3
      · right
        unfold bitOf
        by_cases hl : e.on < acc'.size
        · have : (Region.before ops).getD e.on 0 = acc'.getD e.on 0 := by rw [Array.getD_eq_getD_getElem?, Array.getD_eq_getD_getElem?, g2 _ hl]
          rw [this]; exact k3
        · rw [Array.getD_eq_getD_getElem?, Array.getElem?_eq_none (by omega)] at k3; simp at k3

section
variable {X : Cx} {β : Type} {r : β} {o : Oper} {env : Env} {H : Heap}

def opTmps (o : Oper) : List Tmp := o.op.operands.toList.filterMap fun | .tmp t => some t | _ => none

def restr (ts : List Tmp) (env : Env) : Env := env.filter fun p => ts.contains p.1

theorem eget_restr {ts : List Tmp} : ∀ {env : Env} {t : Nat}, t ∈ ts → eget (restr ts env) t = eget env t
  | [], t, h => rfl
  | (s, v) :: env, t, h => by
    have ih := eget_restr (ts := ts) (env := env) h
    unfold restr at ih ⊢
    rw [List.filter_cons]
    by_cases e : s = t
    · subst e
      have : ts.contains s = true := by simpa using h
      rw [if_pos this, eget_cons, eget_cons, if_pos rfl, if_pos rfl]
    · rw [eget_cons, if_neg e]
      split
      · rw [eget_cons, if_neg e]; exact ih
      · exact ih

theorem eget_restr_some {ts : List Tmp} : ∀ {env : Env} {t : Nat} {v : Value}, eget (restr ts env) t = some v → t ∈ ts ∧ eget env t = some v
  | [], t, v, h => by simp [restr, eget] at h
  | (s, u) :: env, t, v, h => by
    by_cases ht : t ∈ ts
    · exact ⟨ht, by rw [← eget_restr ht]; exact h⟩
    · exfalso
      unfold restr at h
      rw [List.filter_cons] at h
      have ih := fun h => ht (eget_restr_some (ts := ts) (env := env) (t := t) (v := v) h).1
      split at h
      · rename_i hc
        rw [eget_cons] at h
        by_cases e : s = t
        · subst e; exact ht (by simpa using hc)
        · rw [if_neg e] at h; exact ih h
      · exact ih h

theorem ev_restr {x : Operand} (h : x ∈ o.op.operands.toList) : ev (restr (opTmps o) env) x = ev env x := by
  cases x with
  | tmp t =>
    simp only [ev]
    exact eget_restr (by unfold opTmps; rw [List.mem_filterMap]; exact ⟨_, h, rfl⟩)
  | const v => rfl
  | global g => rfl
  | func f => rfl

theorem evs_restr : ∀ {xs : List Operand}, (∀ x ∈ xs, x ∈ o.op.operands.toList) → evs (restr (opTmps o) env) xs = evs env xs
  | [], _ => rfl
  | x :: xs, h => by
    simp only [evs]
    rw [ev_restr (h x (by simp)), evs_restr fun y hy => h y (List.mem_cons_of_mem _ hy)]

theorem evParts_restr : ∀ {xs : List (Nat × Operand)}, (∀ x ∈ xs, x.2 ∈ o.op.operands.toList) → evParts (restr (opTmps o) env) xs = evParts env xs
  | [], _ => rfl
  | (i, x) :: xs, h => by
    simp only [evParts]
    rw [ev_restr (h (i, x) (by simp)), evParts_restr fun y hy => h y (List.mem_cons_of_mem _ hy)]

theorem boundOr_restr {x : Option Operand} {d : Nat} {K : Nat → Option β} (h : ∀ y, x = some y → y ∈ o.op.operands.toList) : boundOr (restr (opTmps o) env) x d K = boundOr env x d K := by
  cases x with
  | none => rfl
  | some y => simp only [boundOr]; rw [ev_restr (h y rfl)]

theorem evOp_restr (K : Value → Heap → Option β) : evOp X o (restr (opTmps o) env) H K = evOp X o env H K := by
  have hop : ∀ {op : Op}, o.op = op → ∀ x, x ∈ op.operands.toList → ev (restr (opTmps o) env) x = ev env x := fun e x hx => ev_restr (by rw [e]; exact hx)
  unfold evOp
  cases ho : o.op with
  | move x => simp only [hop ho x (by simp [Op.operands])]
  | assign x => simp only [hop ho x (by simp [Op.operands])]
  | pick c a b => simp only [hop ho c (by simp [Op.operands]), hop ho a (by simp [Op.operands]), hop ho b (by simp [Op.operands])]
  | box t x => simp only [hop ho x (by simp [Op.operands])]
  | build t ps =>
    simp only
    rw [evParts_restr]
    intro x hx; rw [ho]; simp only [Op.operands, List.mem_map]
    exact ⟨x, hx, rfl⟩
  | buildSlice t n ps =>
    simp only
    rw [evParts_restr]
    intro x hx; rw [ho]; simp only [Op.operands, List.mem_map]
    exact ⟨x, hx, rfl⟩
  | load t x => simp only [hop ho x (by simp [Op.operands])]
  | store t x y => simp only [hop ho x (by simp [Op.operands]), hop ho y (by simp [Op.operands])]
  | nilCheck x => simp only [hop ho x (by simp [Op.operands])]
  | binOp op t x y t' => simp only [hop ho x (by simp [Op.operands]), hop ho y (by simp [Op.operands])]
  | unOp op t x => simp only [hop ho x (by simp [Op.operands])]
  | convert s d x => simp only [hop ho x (by simp [Op.operands])]
  | makeFunc fn first cap =>
    cases fn with
    | func f =>
      simp only
      rw [evs_restr (xs := first.toList), evs_restr (xs := cap.toList)]
      · intro x hx; rw [ho]; simp [Op.operands]; exact .inr (by simpa using hx)
      · intro x hx; rw [ho]; simp [Op.operands]; exact .inl (by simpa using hx)
    | _ => rfl
  | makeSlice t x y => simp only [hop ho x (by simp [Op.operands]), hop ho y (by simp [Op.operands])]
  | slice t x lo hi mx =>
    cases mx with
    | none =>
      simp only [hop ho x (by simp [Op.operands])]
      have b1 : ∀ (d : Nat) (K : Nat → Option β), boundOr (restr (opTmps o) env) hi d K = boundOr env hi d K := fun d K => boundOr_restr (fun y e => by rw [ho, e]; simp [Op.operands])
      have b2 : ∀ (d : Nat) (K : Nat → Option β), boundOr (restr (opTmps o) env) lo d K = boundOr env lo d K := fun d K => boundOr_restr (fun y e => by rw [ho, e]; simp [Op.operands])
      simp only [b1, b2]
    | some y => rfl
  | fieldAddr t x f => simp only [hop ho x (by simp [Op.operands])]
  | field t x f => simp only [hop ho x (by simp [Op.operands])]
  | indexAddr t x y => simp only [hop ho x (by simp [Op.operands]), hop ho y (by simp [Op.operands])]
  | index t x y => simp only [hop ho x (by simp [Op.operands]), hop ho y (by simp [Op.operands])]
  | extract x i => simp only [hop ho x (by simp [Op.operands])]
  | call c =>
    have hargs : evs (restr (opTmps o) env) c.args.toList = evs env c.args.toList := evs_restr fun x hx => by
      rw [ho]; simp only [Op.operands, Call.operands, Array.toList_append, List.mem_append]; exact .inr hx
    simp only [hargs]
    cases hc : c.callee with
    | builtin b => rfl
    | value f =>
      simp only
      rw [hop ho f (by simp [Op.operands, Call.operands, hc])]
    | invoke x m => rfl
  | _ => rfl

theorem rdOp_blk {P : Program} {o : Op} {env : Env} {G H : Heap} {z : Nat} {t : Tmp} {v : Value} (h : rdTmp o = some t) (hv : eget env t = some v) (hz : valBlk v = some z) (g : hget G z = hget H z) : rdOp P o env G = rdOp P o env H := by
  unfold rdTmp at h
  split at h
  · rename_i ty t'
    simp at h; subst h
    unfold rdOp
    simp only [gRead_ev (show ev env (.tmp t') = some v from hv), ev, hv, obind]
    cases v <;> simp only [ptrS]
    rename_i p
    cases p with
    | none => rfl
    | some p =>
      simp only [valBlk, Option.some.injEq] at hz; subst hz
      simp only
      unfold hloadN hload
      rw [g]
  · rename_i a b t'
    simp at h; subst h
    unfold rdOp
    simp only [ev, hv, obind]
    cases v <;> try (first | rfl | (simp [valBlk] at hz; done))
    rename_i p n c
    cases p with
    | none => simp [valBlk] at hz
    | some p =>
      simp only [valBlk, Option.some.injEq] at hz; subst hz
      have : hload0 G p (n * 1) = hload0 H p (n * 1) := by
        cases n * 1 with
        | zero => rfl
        | succ q => simp only [hload0]; unfold hloadN; rw [g]
      simp only [sliceCells, this]
  · simp at h

theorem rdOp_restr {P : Program} {G : Heap} : rdOp P o.op (restr (opTmps o) env) G = rdOp P o.op env G := by
  have hop : ∀ {op : Op}, o.op = op → ∀ x, x ∈ op.operands.toList → ev (restr (opTmps o) env) x = ev env x := fun e x hx => ev_restr (by rw [e]; exact hx)
  unfold rdOp
  cases ho : o.op with
  | load t x => simp only [hop ho x (by simp [Op.operands])]
  | convert s d x => simp only [hop ho x (by simp [Op.operands])]
  | _ => rfl

/-- The slot that an operation's guard looks at. -/
def guardTmps (ops : Array Oper) (o : Oper) : List Tmp := match o.guard with
  | some (g, _) => ((ops[g]?).bind (·.dst)).toList
  | none => []

theorem looksAt_eq (ops : Array Oper) (o : Oper) : o.looksAt ops = opTmps o ++ guardTmps ops o := rfl

/-- Related slots, of those in a list. -/
structure LocE (ι : Io) (D : Nat → Prop) (nt : Nat) (ts : List Tmp) (env : Env) (a : Act) : Prop where
  size : a.tmps.size = nt
  get : ∀ s ∈ ts, ∀ v, eget env s = some v → VRel ι D v (a.tmps.getD s undef)

theorem LocE.restr {ι : Io} {D : Nat → Prop} {nt : Nat} {ts : List Tmp} {env : Env} {a : Act} (h : LocE ι D nt ts env a) : ERel ι D nt (restr ts env) a :=
  ⟨h.size, fun s v hs => by obtain ⟨h1, h2⟩ := eget_restr_some hs; exact h.get s h1 v h2⟩

def GuardF (nt : Nat) (ops : Array Oper) (o : Oper) (env : Env) (t : Bool) : Prop :=
  ∀ (ι : Io) (D : Nat → Prop) (a : Act), LocE ι D nt (guardTmps ops o) env a → Region.wanted o (yielded ops a.tmps) = t

theorem wantedK_loc {nt : Nat} {ops : Array Oper} {K : Bool → Env → Option β} (h : wantedK ops o env K = some r) : ∃ t env', K t env' = some r ∧ (∀ s, eget env' s = eget env s) ∧ GuardF nt ops o env t := by
  unfold wantedK at h
  split at h
  · rename_i hg
    exact ⟨true, env, h, fun _ => rfl, fun ι D a hE => by simp [Region.wanted, hg]⟩
  · rename_i j want hg
    split at h
    · rename_i d hd
      replace h := obind_some h; obtain ⟨v, hv, h⟩ := h
      have hy : ∀ (ι : Io) (D : Nat → Prop) (a : Act), LocE ι D nt (guardTmps ops o) env a → yielded ops a.tmps j = match v with | .bool b => some b | _ => none := by
        intro ι D a hE
        have hr := hE.get d (by simp [guardTmps, hg, hd]) v hv
        unfold yielded
        rw [hd]
        simp only [Option.bind_some]
        by_cases hlt : d < a.tmps.size
        · rw [Array.getElem?_eq_getElem hlt]
          have e : a.tmps.getD d undef = a.tmps[d] := by simp [Array.getD, hlt]
          rw [e] at hr
          generalize a.tmps[d] = c at hr ⊢
          cases hr <;> rfl
        · rw [Array.getElem?_eq_none (Nat.le_of_not_lt hlt)]
          have e : a.tmps.getD d undef = undef := by simp [Array.getD, hlt]
          rw [e] at hr
          cases hr <;> rfl
      have hsame : ∀ b, v = .bool b → ∀ s, eget ((d, .bool b) :: env) s = eget env s := by
        intro b e s
        rw [eget_cons]
        by_cases hs : d = s
        · subst hs; rw [if_pos rfl, hv, e]
        · rw [if_neg hs]
      split at h
      · rename_i b
        rcases oif_some h with ⟨rfl, h⟩ | ⟨rfl, h⟩
        · refine ⟨_, _, h, hsame _ rfl, fun ι D a hE => ?_⟩
          simp only [Region.wanted, hg, hy ι D a hE]
          cases want <;> rfl
        · refine ⟨_, _, h, hsame _ rfl, fun ι D a hE => ?_⟩
          simp only [Region.wanted, hg, hy ι D a hE]
          cases want <;> rfl
      · rename_i hnb
        refine ⟨_, _, h, fun _ => rfl, fun ι D a hE => ?_⟩
        simp only [Region.wanted, hg, hy ι D a hE]
        cases v <;> first | rfl | exact absurd rfl (hnb _)
    · simp at h

/-- A state of the run in the order of the text: the slots before an operation, those behind its guard's look, the heap, whether it is wanted, its value. -/
structure St where
  inn : Env
  env : Env
  H : Heap
  t : Bool
  v : Value

structure StepOk (X : Cx) (ops : Array Oper) (o : Oper) (s s' : St) : Prop where
  same : ∀ q, eget s.env q = eget s.inn q
  guard : GuardF X.nt ops o s.inn s.t
  yes : s.t = true → OpF X o (restr (opTmps o) s.env) s.H s.v s'.H
  no : s.t = false → s.v = undef ∧ s'.H = s.H
  put : (o.dst = none ∧ s'.inn = s.env) ∨ ∃ d, o.dst = some d ∧ d < X.nt ∧ s'.inn = (d, s.v) :: s.env

theorem evOpsT_chain (hX : CallsOk X.P X.call) {ops : Array Oper} {K : List (Env × Heap) → Env → Heap → Option β} : ∀ (l : List Oper) (env : Env) (H : Heap) (tr : List (Env × Heap)), evOpsT X ops l env H tr K = some r →
    ∃ S : Nat → St, (S 0).inn = env ∧ (S 0).H = H ∧ (S l.length).env = (S l.length).inn ∧ (∀ k o, l[k]? = some o → StepOk X ops o (S k) (S (k + 1))) ∧
      K (((List.range (l.length + 1)).map fun k => ((S k).env, (S k).H)).reverse ++ tr) (S l.length).inn (S l.length).H = some r
  | [], env, H, tr, h => by
    refine ⟨fun _ => ⟨env, env, H, true, undef⟩, rfl, rfl, rfl, fun k o hk => by simp at hk, ?_⟩
    unfold evOpsT at h
    simpa using h
  | o :: l, env, H, tr, h => by
    unfold evOpsT at h
    obtain ⟨t, env1, h, hsame, hg⟩ := wantedK_loc (nt := X.nt) h
    have fin : ∀ (v : Value) (H' : Heap) (env2 : Env), (t = true → OpF X o (restr (opTmps o) env1) H v H') → (t = false → v = undef ∧ H' = H) →
        ((o.dst = none ∧ env2 = env1) ∨ ∃ d, o.dst = some d ∧ d < X.nt ∧ env2 = (d, v) :: env1) → evOpsT X ops l env2 H' ((env1, H) :: tr) K = some r →
        ∃ S : Nat → St, (S 0).inn = env ∧ (S 0).H = H ∧ (S (o :: l).length).env = (S (o :: l).length).inn ∧ (∀ k q, (o :: l)[k]? = some q → StepOk X ops q (S k) (S (k + 1))) ∧
          K (((List.range ((o :: l).length + 1)).map fun k => ((S k).env, (S k).H)).reverse ++ tr) (S (o :: l).length).inn (S (o :: l).length).H = some r := by
      intro v H' env2 h1 h2 h3 h4
      obtain ⟨S, g1, g2, g3, g4, g5⟩ := evOpsT_chain hX l env2 H' _ h4
      refine ⟨fun k => match k with | 0 => ⟨env, env1, H, t, v⟩ | k + 1 => S k, rfl, rfl, g3, fun k q hk => ?_, ?_⟩
      · cases k with
        | zero =>
          simp at hk; subst hk
          exact ⟨hsame, hg, fun e => by simp only [g2]; exact h1 e, fun e => by simp only [g2]; exact h2 e, by simp only [g1]; exact h3⟩
        | succ k => exact g4 k q (by simpa using hk)
      · have : ((List.range ((o :: l).length + 1)).map fun k => (((fun k => match k with | 0 => (⟨env, env1, H, t, v⟩ : St) | k + 1 => S k) k).env, ((fun k => match k with | 0 => (⟨env, env1, H, t, v⟩ : St) | k + 1 => S k) k).H)) = (env1, H) :: ((List.range (l.length + 1)).map fun k => ((S k).env, (S k).H)) := by
          rw [List.length_cons, List.range_succ_eq_map, List.map_cons, List.map_map]
          rfl
        rw [this]
        simpa using g5
    cases t with
    | true =>
      simp only at h
      rw [← evOp_restr] at h
      obtain ⟨v, H', h, hF⟩ := evOp_facts hX h
      obtain ⟨env2, h, hp⟩ := putE_some h
      exact fin v H' env2 (fun _ => hF) (fun e => by simp at e) hp h
    | false =>
      simp only at h
      obtain ⟨env2, h, hp⟩ := putE_some h
      exact fin undef H env2 (fun e => by simp at e) (fun _ => ⟨rfl, rfl⟩) hp h

theorem sameLeaf_eq {x y : Value} (h : sameLeaf x y = true) : x = y := by
  unfold sameLeaf at h
  split at h
  · simp at h; rw [h]
  · simp at h; rw [h.1, h.2]
  · rename_i a b
    simp only [beq_iff_eq] at h
    have : a = b := by
      rw [ByteArray.toList_eq, ByteArray.toList_eq] at h
      obtain ⟨⟨x⟩⟩ := a; obtain ⟨⟨y⟩⟩ := b
      simp at h; rw [h]
    rw [this]
  · simp at h; rw [h]
  · simp at h; rw [h.1.1, h.1.2, h.2]
  · rfl
  · rfl
  · simp at h

theorem sameLs_eq : ∀ {x y : List Value}, sameLs x y = true → x = y
  | [], [], _ => rfl
  | [], _ :: _, h => by simp [sameLs] at h
  | _ :: _, [], h => by simp [sameLs] at h
  | a :: x, b :: y, h => by
    simp only [sameLs, Bool.and_eq_true] at h
    rw [sameLeaf_eq h.1, sameLs_eq h.2]

theorem sameRd_eq {x y : Option Value} (h : sameRd x y = true) : x = y := by
  unfold sameRd at h
  split at h
  · rfl
  · rename_i xs ys
    have := sameLs_eq h
    obtain ⟨xs⟩ := xs; obtain ⟨ys⟩ := ys
    simp at this; rw [this]
  · rw [sameLeaf_eq h]
  · simp at h

theorem stableAt_some {P : Program} {ops : Array Oper} {sts : List (Env × Heap)} {i : Nat} {o : Oper} {x : Option β} : ∀ {ms : List Nat}, stableAt P ops sts i o ms x = some r →
    x = some r ∧ ∀ m ∈ ms, (quietBetween P ops m i || madeHere P ops i o m) = true ∨ ∃ s q, sts[i]? = some s ∧ sts[m]? = some q ∧ rdOp P o.op s.1 q.2 = rdOp P o.op s.1 s.2
  | [], h => ⟨h, by simp⟩
  | m :: ms, h => by
    unfold stableAt at h
    split at h
    · rename_i hq
      obtain ⟨h1, h2⟩ := stableAt_some h
      exact ⟨h1, fun k hk => by
        rcases List.mem_cons.1 hk with rfl | hk
        · exact .inl hq
        · exact h2 k hk⟩
    · split at h
      · rename_i s q hs hq
        rcases oif_some h with ⟨e, h⟩ | ⟨_, h⟩
        · obtain ⟨h1, h2⟩ := stableAt_some h
          exact ⟨h1, fun k hk => by
            rcases List.mem_cons.1 hk with rfl | hk
            · exact .inr ⟨s, q, hs, hq, sameRd_eq e⟩
            · exact h2 k hk⟩
        · simp at h
      · simp at h

theorem stable_some {P : Program} {ops : Array Oper} {sts : List (Env × Heap)} {x : Option β} : ∀ {l : List Nat}, stable P ops sts l x = some r →
    x = some r ∧ ∀ i ∈ l, clsAt P ops i = 1 → ∀ o, ops[i]? = some o → ∀ m ∈ stagesOf P ops i, (quietBetween P ops m i || madeHere P ops i o m) = true ∨ ∃ s q, sts[i]? = some s ∧ sts[m]? = some q ∧ rdOp P o.op s.1 q.2 = rdOp P o.op s.1 s.2
  | [], h => ⟨h, by simp⟩
  | i :: l, h => by
    unfold stable at h
    split at h
    · rename_i o hc ho
      obtain ⟨h1, h2⟩ := stableAt_some h
      obtain ⟨h3, h4⟩ := stable_some h1
      refine ⟨h3, fun k hk hck o' ho' => ?_⟩
      rcases List.mem_cons.1 hk with rfl | hk
      · rw [ho] at ho'; simp at ho'; subst ho'; exact h2
      · exact h4 k hk hck o' ho'
    · rename_i hne
      obtain ⟨h3, h4⟩ := stable_some h
      refine ⟨h3, fun k hk hck o' ho' => ?_⟩
      rcases List.mem_cons.1 hk with rfl | hk
      · exact absurd ho' (hne o' (by rw [hck]; rfl))
      · exact h4 k hk hck o' ho'

end

end Go.Ev
