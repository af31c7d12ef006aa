/-
  Operations that compute, read, build: the interpreter by value agrees with the first one.
  Conditions: the state is a good one.
-/
import Derived.Test.YtpjlbjkeekobnaaDoorVVal
set_option linter.all false
namespace Go.Pv
open Go.Ev

theorem ER.cells {s : S} {p : PV} {v : Value} (h : ER s p v) (ho : okV p = true) : LRs s (vcells p) v.cells.toList := by
  cases p with
  | tup cs => simp [okV] at ho
  | fn f a b => simp [okV] at ho
  | undef => simp [okV] at ho
  | _ => exact AR.cells h (by intros; simp) (by simp)

theorem lay_rel {s : S} {cs ds : List PV} {vs ws : List Value} (h : LRs s cs vs) (g : LRs s ds ws) (o : Nat) : LRs s (splice cs o ds) (lay vs o ws) := by
  have e := All2.length g
  unfold splice lay
  rw [e]
  exact All2.append (All2.append (All2.take o h) g) (All2.drop _ h)

theorem fold_lay (off : Nat) : ∀ (l : List Value) (n : Nat) (A : Array Value), off + n + l.length ≤ A.size →
    ((l.zipIdx n).foldl (fun cs (c, j) => cs.setIfInBounds (off + j) c) A).toList = lay A.toList (off + n) l
  | [], n, A, _ => by simp [lay]
  | v :: l, n, A, h => by
    simp only [List.length_cons] at h
    simp only [List.zipIdx_cons, List.foldl_cons]
    rw [fold_lay off l (n + 1) _ (by simp; omega)]
    unfold lay
    rw [Array.toList_setIfInBounds]
    have hl : off + n < A.toList.length := by simp; omega
    rw [List.set_eq_take_append_cons_drop, if_pos hl]
    have h1 : (A.toList.take (off + n)).length = off + n := by simp; omega
    have e1 : ((A.toList.take (off + n) ++ v :: A.toList.drop (off + n + 1))).take (off + (n + 1)) = A.toList.take (off + n) ++ [v] := by
      rw [List.take_append, h1, show off + (n + 1) - (off + n) = 1 by omega, List.take_of_length_le (by omega)]; simp
    have e2 : ((A.toList.take (off + n) ++ v :: A.toList.drop (off + n + 1))).drop (off + (n + 1) + l.length) = A.toList.drop (off + n + (l.length + 1)) := by
      rw [List.drop_append, h1, List.drop_of_length_le (by omega), show off + (n + 1) + l.length - (off + n) = l.length + 1 by omega]
      simp only [List.drop_succ_cons, List.nil_append, List.drop_drop]
      congr 1; omega
    rw [e1, e2]; simp

theorem fill_sim {s : S} (place : Nat → Option (Nat × Nat)) : ∀ {ps : List (Nat × PV)} {qs : List (Nat × Value)} {zs cs : List PV} {B : Array Value}, All2 (PartR s) ps qs → LRs s zs B.toList → fillP place zs ps = some cs →
    ∃ C, Instr.fill place B qs = some C ∧ LRs s cs C.toList
  | [], [], zs, cs, B, _, hz, h => by simp [fillP] at h; subst h; exact ⟨B, rfl, hz⟩
  | (i, p) :: ps, (j, v) :: qs, zs, cs, B, ⟨⟨e, hv⟩, hp⟩, hz, h => by
    simp only at e hv; subst e
    simp only [fillP] at h
    simp only [Instr.fill]
    split at h
    · simp at h
    · rename_i off size hpl
      split at h
      · rename_i h1 h2 h3
        have hc := hv.cells h1
        have hl := All2.length hc
        have hlz := All2.length hz
        have e2 := Nat.eq_of_beq_eq_true h2
        have e3 := Nat.le_of_ble_eq_true h3
        have hsz : v.cells.size = size := by
          simp only [Array.length_toList] at hl; omega
        have hB : B.toList.length = B.size := by simp
        rw [hpl]
        have hcond : ¬ ((decide (v.cells.size ≠ size) || decide (off + v.cells.size > B.size)) = true) := by
          simp only [Bool.or_eq_true, decide_eq_true_eq]; omega
        simp only [hcond, if_false, Bool.false_eq_true]
        refine fill_sim place hp ?_ h
        have := fold_lay off v.cells.toList 0 B (by simp at hl hlz ⊢; omega)
        rw [Nat.add_zero] at this
        have e5 : (Array.foldl (fun cs (x : Value × Nat) => cs.setIfInBounds (off + x.2) x.1) B v.cells.zipIdx).toList = lay B.toList off v.cells.toList := by
          rw [← Array.foldl_toList]; simpa using this
        rw [e5]
        exact lay_rel hz hc off
      · simp at h

theorem ER.leaf {s : S} {p : PV} {v : Value} (h : ER s p v) (ho : leafV p = true) : LR0 s p v := by
  cases p with
  | tup cs => simp [okV, leafV] at ho
  | fn f a b => simp [okV, leafV] at ho
  | undef => simp [okV, leafV] at ho
  | agg cs => simp [leafV] at ho
  | _ => exact h

theorem ERs.leaf {s : S} : ∀ {ps : List PV} {vs : List Value}, All2 (ER s) ps vs → ps.all leafV = true → LRs s ps vs
  | [], [], _, _ => trivial
  | p :: ps, v :: vs, h, g => by
    simp only [List.all_cons, Bool.and_eq_true] at g
    exact ⟨h.1.leaf g.1, ERs.leaf h.2 g.2⟩

theorem both_some {β : Type} {x y : Option β} {r : β} (h : both x y = some r) : x = some r ∧ y = some r := by
  unfold both at h
  by_cases e : x = y
  · rw [if_pos e] at h; exact ⟨h, by rw [← e]; exact h⟩
  · rw [if_neg e] at h; simp at h

def negOp : Bool → BinOp
  | false => .eql
  | true => .neq
def NilV (L : LS) (v : PV) : Option Nat → Prop
  | none => v = .nil
  | some n => plen L v = some n

theorem nilCmp_some {P : Program} {op : BinOp} {t : TypeId} {L : LS} {v u : PV} {n : Option Nat} {neg : Bool} (h : nilCmp P op t L v u = some (n, neg)) :
    u = .nil ∧ (∃ el, P.underlying t = some (.slice el)) ∧ op = negOp neg ∧ NilV L v n := by
  unfold nilCmp at h
  split at h
  · rename_i hu
    split at h
    · simp at h; obtain ⟨rfl, rfl⟩ := h; exact ⟨rfl, ⟨_, hu⟩, rfl, rfl⟩
    · obtain ⟨m, h1, h⟩ := ob h
      simp at h; obtain ⟨rfl, rfl⟩ := h; exact ⟨rfl, ⟨_, hu⟩, rfl, h1⟩
  · rename_i hu
    split at h
    · simp at h; obtain ⟨rfl, rfl⟩ := h; exact ⟨rfl, ⟨_, hu⟩, rfl, rfl⟩
    · obtain ⟨m, h1, h⟩ := ob h
      simp at h; obtain ⟨rfl, rfl⟩ := h; exact ⟨rfl, ⟨_, hu⟩, rfl, h1⟩
  · simp at h

theorem nil_run {γ : Type} {P : Program} {op : BinOp} {t el : TypeId} {neg : Bool} (hu : P.underlying t = some (.slice el)) (hop : op = negOp neg) {a : Option Addr} {n c : Nat} {K : Value → Option γ} :
    binA P op t (.slice a n c) (.slice none 0 0) K = K (.bool (a.isNone != neg)) := by
  subst hop
  cases neg <;> simp only [negOp, binA, hu, eqOp]
  · cases a <;> rfl
  · cases a <;> rfl

theorem part_typed {P : Program} {s : S} {el : TypeId} {u : Ty} {cs : Array Value} {off : Nat} {i : TypeInfo} {y : u.T} {st : Nat} (hw : tyG P 8 el = some u) (hi : P.info? el = some i) (hsz : u.size = i.size) (hle : off + u.size ≤ cs.toList.length)
    (hr : Rep (s.NN st) s.H u y ((cs.toList.drop off).take u.size)) : ∃ q, partA P el cs off = some q ∧ AR s (wrapV u (reify st u y)) q := by
  have hlen := Rep.len _ hr
  unfold partA
  rw [hi]; simp only [obind]
  have hext : (cs.extract off (off + i.size)) = ⟨(cs.toList.drop off).take u.size⟩ := by
    apply Array.toList_inj.1
    simp only [Array.toList_extract, List.extract_eq_drop_take]
    rw [hsz]; congr 1; omega
  rcases tyG_pair hw with ⟨d, a, b, hu, hd, rfl⟩ | ⟨d, hu, hd1, hd2, hnp⟩
  · rcases hd with ⟨fs, rfl⟩ | ⟨n, e, rfl⟩ <;> rw [hu] <;> simp only <;> rw [hext] <;> exact ⟨_, rfl, wrap_rel (t := .pair a b) rfl hr⟩
  · have hone : u.size = 1 := by cases u <;> first | rfl | exact absurd rfl (hnp _ _)
    obtain ⟨q, hq⟩ : ∃ q, (cs.toList.drop off).take u.size = [q] := by
      match hc : (cs.toList.drop off).take u.size with
      | [q] => exact ⟨q, rfl⟩
      | [] => rw [hc] at hlen; simp at hlen; omega
      | _ :: _ :: _ => rw [hc] at hlen; simp at hlen; omega
    have hget : cs[off]? = some q := by
      have : ((cs.toList.drop off).take u.size)[0]? = some q := by rw [hq]; rfl
      rw [List.getElem?_take_of_lt (by omega), List.getElem?_drop] at this
      rw [← Array.getElem?_toList]; simpa using this
    refine ⟨q, ?_, wrap_rel (cs := [q]) (by cases u <;> first | rfl | exact absurd rfl (hnp _ _)) (by rw [← hq]; exact hr)⟩
    rw [hu]
    cases d <;> first | exact absurd rfl (hd1 _) | exact absurd rfl (hd2 _ _) | exact hget

section
variable {A : AnnV} {β γ : Type} {s : S} {env : PEnv} {e : Env} {X : CxV A β} {XE : Cx} {o : Oper} {KV : PV → LS → Option β} {KE : Value → Heap → Option γ} {r : β} {Q : γ → Prop}

/-- What follows an operation agrees. -/
def KOk (s : S) (r : β) (KV : PV → LS → Option β) (KE : Value → Heap → Option γ) (Q : γ → Prop) : Prop :=
  ∀ pv v s', Keep s s' → StR s' → ER s' pv v → KV pv s'.L = some r → ∃ y, KE v s'.H = some y ∧ Q y

theorem KOk.here (hs : StR s) (hK : KOk s r KV KE Q) {p : PV} {v : Value} (hr : ER s p v) (h : KV p s.L = some r) : ∃ y, KE v s.H = some y ∧ Q y :=
  hK p v s (Keep.refl s) hs hr h

theorem sim_move {x : Operand} (hs : StR s) (he : EnvR s env e) (hK : KOk s r KV KE Q) (h : (obind (pev env x) fun v => KV v s.L) = some r) :
    ∃ y, (obind (ev e x) fun v => KE v s.H) = some y ∧ Q y := by
  replace h := ob h; obtain ⟨p, h1, h⟩ := h
  obtain ⟨v, e1, hr⟩ := pev_rel he h1
  rw [e1]; exact hK.here hs hr h

theorem sim_pick {c a b : Operand} (ho : o.op = .pick c a b) (hs : StR s) (he : EnvR s env e) (hK : KOk s r KV KE Q) (h : vop X o env s.L KV = some r) : ∃ y, evOp XE o e s.H KE = some y ∧ Q y := by
  simp only [vop, ho] at h; simp only [evOp, ho]
  replace h := ob h; obtain ⟨p, h1, h⟩ := h
  obtain ⟨v, e1, hr⟩ := pev_rel he h1
  split at h
  · obtain rfl : v = .bool _ := hr
    rw [e1]; simp only [obind, vBool]
    rename_i t
    cases t with
    | true => simp only [oif] at h ⊢; exact sim_move hs he hK h
    | false => simp only [oif] at h ⊢; exact sim_move hs he hK h
  · simp at h

theorem sim_unOp {op : UnOp} {t : TypeId} {x : Operand} (ho : o.op = .unOp op t x) (hs : StR s) (he : EnvR s env e) (hK : KOk s r KV KE Q) (h : vop X o env s.L KV = some r) : ∃ y, evOp XE o e s.H KE = some y ∧ Q y := by
  simp only [vop, ho] at h; simp only [evOp, ho]
  replace h := ob h; obtain ⟨p, h1, h⟩ := h
  replace h := ob h; obtain ⟨v', h3, h⟩ := h
  obtain ⟨v, e1, r1⟩ := pev_rel he h1
  have := sc_rel r1 h3; subst this
  rw [unA_nat] at h
  replace h := ob h; obtain ⟨z, h5, h⟩ := h
  rw [e1]; simp only [obind]
  rw [unA_nat, h5]
  exact hK.here hs (ofS_rel (unA_scal h5)) h

theorem sim_build {t : TypeId} {parts : Array (Nat × Operand)} (hP : X.P = XE.P) (ho : o.op = .build t parts) (hs : StR s) (he : EnvR s env e) (hK : KOk s r KV KE Q) (h : vop X o env s.L KV = some r) : ∃ y, evOp XE o e s.H KE = some y ∧ Q y := by
  simp only [vop, ho] at h; simp only [evOp, ho]
  replace h := ob h; obtain ⟨ps, h1, h⟩ := h
  obtain ⟨qs, e1, r1⟩ := pevParts_rel he h1
  rw [e1]; simp only [obind]
  rw [← hP]
  split at h
  · rename_i it fs hi hu
    split at h
    · rename_i z places hz hpl
      replace h := ob h; obtain ⟨zs, h2, h⟩ := h
      replace h := ob h; obtain ⟨cs, h3, h⟩ := h
      obtain ⟨a1, a2⟩ := ofCs_rel (s := s) h2
      obtain ⟨C, f1, f2⟩ := fill_sim _ r1 a1 h3
      have : fillA X.P t qs = some C := by
        unfold fillA zeroOf
        simp only [hi, obind, hz, a2]
        unfold Program.built
        simp only [hi, hu, hz, hpl]
        exact f1
      rw [this]
      exact hK.here hs (p := .agg cs) ⟨C.toList, by simp, f2⟩ h
    · simp at h
  · rename_i it nn el hi hu
    split at h
    · rename_i z ie hz hie
      replace h := ob h; obtain ⟨zs, h2, h⟩ := h
      replace h := ob h; obtain ⟨cs, h3, h⟩ := h
      obtain ⟨a1, a2⟩ := ofCs_rel (s := s) h2
      obtain ⟨C, f1, f2⟩ := fill_sim _ r1 a1 h3
      have : fillA X.P t qs = some C := by
        unfold fillA zeroOf
        simp only [hi, obind, hz, a2]
        unfold Program.built
        simp only [hi, hu, hz, hie]
        exact f1
      rw [this]
      exact hK.here hs (p := .agg cs) ⟨C.toList, by simp, f2⟩ h
    · simp at h
  · simp at h

theorem sim_field {t : TypeId} {x : Operand} {f : Nat} (hP : X.P = XE.P) (ho : o.op = .field t x f) (hs : StR s) (he : EnvR s env e) (hK : KOk s r KV KE Q) (h : vop X o env s.L KV = some r) : ∃ y, evOp XE o e s.H KE = some y ∧ Q y := by
  simp only [vop, ho] at h; simp only [evOp, ho]
  replace h := ob h; obtain ⟨p, h1, h⟩ := h
  obtain ⟨v, e1, r1⟩ := pev_rel he h1
  rw [e1]; simp only [obind]
  split at h
  · rename_i cs
    obtain ⟨vs, rfl, r1⟩ := r1
    simp only
    rw [← hP]
    split at h
    · rename_i fs hu
      replace h := ob h; obtain ⟨fd, h2, h⟩ := h
      replace h := ob h; obtain ⟨u, h3, h⟩ := h
      simp only [hu, h2, obind]
      unfold partV at h3
      replace h3 := ob h3; obtain ⟨i, h4, h3⟩ := h3
      have hl := All2.length r1
      split at h3
      · rename_i fs' hu'
        split at h3
        · rename_i hle
          have hle := Nat.le_of_ble_eq_true hle
          simp at h3; subst h3
          have : partA X.P fd.type (⟨vs⟩ : Array Value) fd.offset = some (.agg ⟨(vs.drop fd.offset).take i.size⟩) := by
            unfold partA; simp only [h4, hu', obind]
            congr 2
            apply Array.toList_inj.1
            simp only [Array.toList_extract, List.extract_eq_drop_take]
            congr 1; omega
          rw [this]
          exact hK.here hs (p := .agg _) ⟨_, rfl, All2.take _ (All2.drop _ r1)⟩ h
        · simp at h3
      · rename_i nn' fs' hu'
        split at h3
        · rename_i hle
          have hle := Nat.le_of_ble_eq_true hle
          simp at h3; subst h3
          have : partA X.P fd.type (⟨vs⟩ : Array Value) fd.offset = some (.agg ⟨(vs.drop fd.offset).take i.size⟩) := by
            unfold partA; simp only [h4, hu', obind]
            congr 2
            apply Array.toList_inj.1
            simp only [Array.toList_extract, List.extract_eq_drop_take]
            congr 1; omega
          rw [this]
          exact hK.here hs (p := .agg _) ⟨_, rfl, All2.take _ (All2.drop _ r1)⟩ h
        · simp at h3
      · rename_i d hd1 hd2 hu'
        obtain ⟨w, g1, g2⟩ := All2.get _ r1 h3
        have : partA X.P fd.type (⟨vs⟩ : Array Value) fd.offset = some w := by
          unfold partA; rw [h4]; simp only [obind]; rw [hu']
          cases d <;> first | exact absurd rfl (hd1 _) | exact absurd rfl (hd2 _ _) | (simpa using g1)
        rw [this]
        exact hK.here hs (ER.of0 g2) h
      · simp at h3
    · simp at h
  · simp at h

theorem sim_extract {x : Operand} {i : Nat} (ho : o.op = .extract x i) (hs : StR s) (he : EnvR s env e) (hK : KOk s r KV KE Q) (h : vop X o env s.L KV = some r) : ∃ y, evOp XE o e s.H KE = some y ∧ Q y := by
  simp only [vop, ho] at h; simp only [evOp, ho]
  replace h := ob h; obtain ⟨p, h1, h⟩ := h
  obtain ⟨v, e1, r1⟩ := pev_rel he h1
  rw [e1]; simp only [obind]
  split at h
  · obtain ⟨vs, rfl, r1⟩ := r1
    simp only
    replace h := ob h; obtain ⟨u, h2, h⟩ := h
    obtain ⟨w, g1, g2⟩ := All2.get _ r1 h2
    have : (⟨vs⟩ : Array Value)[i]? = some w := by simpa using g1
    rw [this]
    exact hK.here hs (ER.of g2) h
  · simp at h

theorem pNat_sim {δ ε : Type} {p : PV} {v : Value} (hr : ER s p v) {K : Nat → Option δ} {K' : Nat → Option ε} {x : δ} {Q' : ε → Prop} (h : pNat p K = some x) (hk : ∀ n, K n = some x → ∃ y, K' n = some y ∧ Q' y) : ∃ y, asNat v K' = some y ∧ Q' y := by
  unfold pNat at h
  split at h
  · rename_i n
    obtain rfl : v = .int .i64 n := hr
    unfold oif at h
    split at h
    · rename_i hd
      simp only [asNat, hd, oif]; exact hk _ h
    · simp at h
  · simp at h

theorem pIx_sim {δ ε : Type} {p : PV} {v : Value} (hr : ER s p v) {K : Nat → Option δ} {K' : Nat → Option ε} {x : δ} {Q' : ε → Prop} (h : pIx p K = some x) (hk : ∀ n, K n = some x → ∃ y, K' n = some y ∧ Q' y) : ∃ y, asIx v K' = some y ∧ Q' y := by
  unfold pIx at h
  split at h
  · rename_i kd n
    obtain rfl : v = .int kd n := hr
    unfold oif at h
    split at h
    · rename_i hd
      simp only [asIx, hd, oif]; exact hk _ h
    · simp at h
  · simp at h

theorem rowsGo_get {w : Ty} {b ver : Nat} : ∀ {cs : List PV} {n : Nat} {l : List (List w.T)}, rowsGo w b ver n cs = some l → ∀ {k : Nat} {y : List w.T}, l[k]? = some y → cs[k]? = some (.rw b (n + k) ver w y)
  | [], n, l, h, k, y, hk => by simp [rowsGo] at h; subst h; simp at hk
  | c :: r, n, l, h, k, y, hk => by
    unfold rowsGo at h
    split at h
    · simp_all
    · rename_i b' i' ver' t x r' heq
      injection heq with e1 e2; subst e1 e2
      split at h
      · rename_i hc
        simp only [Bool.and_eq_true] at hc
        have c1 := Nat.eq_of_beq_eq_true hc.1
        have c2 := Nat.eq_of_beq_eq_true hc.2.1
        have c3 := Nat.eq_of_beq_eq_true hc.2.2
        subst c1 c2 c3
        replace h := ob h; obtain ⟨y0, h1, h⟩ := h
        replace h := ob h; obtain ⟨l', h2, h⟩ := h
        simp at h; subst h
        have e0 := tcast_eq h1
        injection e0 with e0; subst e0
        have := tcast_self h1; subst this
        cases k with
        | zero => simp at hk; subst hk; simp
        | succ k =>
          simp only [List.getElem?_cons_succ] at hk ⊢
          rw [rowsGo_get h2 hk, Nat.add_assoc, Nat.add_comm 1 k]
      · simp at h
    · simp at h

theorem rowsIn_get {w : Ty} {cs : List PV} {b ver : Nat} {l : List (List w.T)} (h : rowsIn w cs = some (b, ver, l)) {k : Nat} {y : List w.T} (hk : l[k]? = some y) : cs[k]? = some (.rw b k ver w y) := by
  unfold rowsIn at h
  split at h
  · replace h := ob h; obtain ⟨l', h1, h⟩ := h
    simp only [Option.some.injEq, Prod.mk.injEq] at h
    obtain ⟨rfl, rfl, rfl⟩ := h
    have := rowsGo_get h1 hk
    rw [Nat.zero_add] at this; exact this
  · simp at h

theorem sim_index {t : TypeId} {x ix : Operand} (hP : X.P = XE.P) (ho : o.op = .index t x ix) (hs : StR s) (he : EnvR s env e) (hK : KOk s r KV KE Q) (h : vop X o env s.L KV = some r) : ∃ y, evOp XE o e s.H KE = some y ∧ Q y := by
  simp only [vop, ho] at h; simp only [evOp, ho]
  replace h := ob h; obtain ⟨p, h1, h⟩ := h
  replace h := ob h; obtain ⟨j, h2, h⟩ := h
  obtain ⟨v, e1, r1⟩ := pev_rel he h1
  obtain ⟨w, e2, r2⟩ := pev_rel he h2
  rw [e1, e2]; simp only [obind]
  split at h
  · obtain rfl : v = .string _ := r1
    simp only
    rw [← hP]
    split at h
    · rename_i hu
      simp only [hu]
      refine pIx_sim r2 h (fun n h => ?_)
      replace h := ob h; obtain ⟨b, h3, h⟩ := h
      rw [h3]
      exact hK.here hs (p := .int .u8 b.toNat) rfl h
    · simp at h
  · rename_i cs
    obtain ⟨vs, rfl, r1⟩ := r1
    simp only
    rw [← hP]
    split at h
    · rename_i n el hu
      replace h := ob h; obtain ⟨i, h3, h⟩ := h
      replace h := ob h; obtain ⟨u, h4, h⟩ := h
      split at h
      · rename_i hc
        simp only [Bool.and_eq_true] at hc
        have hsz := Nat.eq_of_beq_eq_true hc.1
        replace h := ob h; obtain ⟨xs, h5, h⟩ := h
        obtain ⟨g1, g2, g3⟩ := reflN_any hs u r1 h5
        simp only [hu, h3, obind]
        refine pIx_sim r2 h (fun k h => ?_)
        replace h := ob h; obtain ⟨y, h6, h⟩ := h
        obtain ⟨hk, ek⟩ := List.getElem?_eq_some_iff.1 h6
        have hblt : Nat.blt k n = true := lt_blt (by omega)
        simp only [hblt, oif]
        have hrep := g3 k hk
        rw [ek] at hrep
        have hm : k * u.size + u.size ≤ n * u.size := by
          have := Nat.mul_le_mul_right u.size (show k + 1 ≤ n by omega)
          rw [Nat.add_mul, Nat.one_mul] at this; exact this
        obtain ⟨q, hq1, hq2⟩ := part_typed (P := X.P) (el := el) (cs := ⟨vs⟩) (off := k * i.size) h4 h3 hsz (by simp; rw [← hsz]; omega) (by rw [← hsz]; exact Rep.flat (M := s.NN s.L.clk) (G := s.H) u hc.2 hrep)
        rw [hq1]
        exact hK.here hs (ER.of hq2) h
      · split at h
        · rename_i w
          replace h := ob h; obtain ⟨⟨b, ver, xs⟩, h5, h⟩ := h
          split at h
          · rename_i hsz
            have hsz := Nat.eq_of_beq_eq_true hsz
            simp only [hu, h3, obind]
            refine pIx_sim r2 h (fun k h => ?_)
            unfold oif at h
            split at h
            · rename_i hlt
              simp only [hlt, oif]
              replace h := ob h; obtain ⟨y, h6, h⟩ := h
              have hq := rowsIn_get h5 h6
              obtain ⟨w', g1, g2⟩ := All2.get _ r1 hq
              have hp : partA X.P el ⟨vs⟩ (k * i.size) = some w' := by
                unfold partA
                rw [h3]; simp only [obind]
                have hg : (⟨vs⟩ : Array Value)[k * i.size]? = some w' := by rw [hsz]; simpa using g1
                rcases tyG_pair h4 with ⟨d', a, b', hu', hd, e⟩ | ⟨d', hu', hd1, hd2, _⟩
                · simp at e
                · rw [hu']
                  cases d' <;> first | exact absurd rfl (hd1 _) | exact absurd rfl (hd2 _ _) | exact hg
              rw [hp]
              exact hK.here hs (ER.of0 g2) h
            · simp at h
          · simp at h
        · simp at h
    · simp at h
  · simp at h

theorem sim_makeFunc {f : FuncId} {first cap : Array Operand} (ho : o.op = .makeFunc (.func f) first cap) (hs : StR s) (he : EnvR s env e) (hK : KOk s r KV KE Q)
    (h : vop X o env s.L KV = some r) : ∃ y, evOp XE o e s.H KE = some y ∧ Q y := by
  simp only [vop, ho] at h; simp only [evOp, ho]
  replace h := ob h; obtain ⟨ps, h1, h⟩ := h
  replace h := ob h; obtain ⟨qs, h2, h⟩ := h
  obtain ⟨vs, e1, r1⟩ := pevs_rel he h1
  obtain ⟨ws, e2, r2⟩ := pevs_rel he h2
  rw [e1, e2]; simp only [obind]
  split at h
  · rename_i hl
    simp only [Bool.and_eq_true] at hl
    exact hK.here hs (p := .fn f ps qs) ⟨vs, ws, rfl, ERs.leaf r1 hl.1, ERs.leaf r2 hl.2⟩ h
  · simp at h

theorem sim_fieldAddr {t : TypeId} {x : Operand} {f : Nat} (hP : X.P = XE.P) (ho : o.op = .fieldAddr t x f) (hs : StR s) (he : EnvR s env e) (hK : KOk s r KV KE Q) (h : vop X o env s.L KV = some r) : ∃ y, evOp XE o e s.H KE = some y ∧ Q y := by
  simp only [vop, ho] at h; simp only [evOp, ho]
  replace h := ob h; obtain ⟨p, h1, h⟩ := h
  obtain ⟨v, e1, r1⟩ := pev_rel he h1
  rw [e1]; simp only [obind]
  split at h
  · rename_i fs hu
    replace h := ob h; obtain ⟨fd, h2, h⟩ := h
    replace h := ob h; obtain ⟨i, h3, h⟩ := h
    split at h
    · simp at h
    · rename_i hz
      rw [← hP]
      split at h
      · rename_i b off
        obtain ⟨hb, m, hm, hsh, rfl⟩ := r1
        simp only [ptrS, hu, h2, h3, obind, hz]
        exact hK.here hs (p := .ptr b (off + fd.offset)) ⟨hb, m, hm, hsh, rfl⟩ h
      · rename_i b j fo
        obtain ⟨hb, m, hm, rfl⟩ := r1
        simp only [ptrS, hu, h2, h3, obind, hz]
        exact hK.here hs (p := .ep b j (fo + fd.offset)) ⟨hb, m, hm, by rw [Nat.add_assoc]⟩ h
      · rename_i st u y
        replace h := ob h; obtain ⟨w, h4, h⟩ := h
        replace h := ob h; obtain ⟨y', h5, h⟩ := h
        obtain ⟨z, oo, k, rfl, hn, hk, hl, hr⟩ := r1
        simp only [ptrS, hu, h2, h3, obind, hz]
        obtain ⟨g1, g2⟩ := sub_rep _ _ h5 hr
        refine hK.here hs (p := .rp st w y') ⟨z, oo + fd.offset, k, rfl, hn, hk, by omega, ?_⟩ h
        have : (((k.cells.drop oo).take u.size).drop fd.offset).take w.size = (k.cells.drop (oo + fd.offset)).take w.size := by
          rw [List.drop_take, List.take_take, Nat.min_eq_left (by omega), List.drop_drop]
        rw [this] at g1; exact g1
      · rename_i b ver u y
        replace h := ob h; obtain ⟨w, h4, h⟩ := h
        replace h := ob h; obtain ⟨y', h5, h⟩ := h
        obtain ⟨hb, ⟨z, oo, rfl⟩, hv⟩ := r1
        simp only [ptrS, hu, h2, h3, obind, hz]
        refine hK.here hs (p := .rq b ver w y') ⟨hb, ⟨z, oo + fd.offset, rfl⟩, fun B hB => ⟨(hv B hB).1, fun e => ?_⟩⟩ h
        obtain ⟨z', o', k, j, e1, hk1, hk, hl, hr⟩ := (hv B hB).2 e
        injection e1 with e1; injection e1 with e1; injection e1 with e1 e2 _; subst e1 e2
        obtain ⟨g1, g2⟩ := sub_rep _ _ h5 hr
        refine ⟨z, oo + fd.offset, k, j, rfl, hk1, hk, by omega, ?_⟩
        have : (((k.cells.drop oo).take u.size).drop fd.offset).take w.size = (k.cells.drop (oo + fd.offset)).take w.size := by
          rw [List.drop_take, List.take_take, Nat.min_eq_left (by omega), List.drop_drop]
        rw [this] at g1; exact g1
      · simp at h
  · simp at h

theorem rows_info (hs : StR s) {b : Nat} {ver : Nat} {rw : Bool} {t : Ty} {xs : List (List t.T)} {ho : Option Nat} (hb : lget s.L b = some ⟨ver, rw, .rows t xs ho⟩) : rw = true ∧ t.flat = true ∧
    ((s.μ b = none ∧ xs = []) ∨ ∃ m k, s.μ b = some m ∧ m.es = 1 ∧ m.n = xs.length ∧ hget s.H m.z = some k ∧ Fit m.sh xs.length k.cells ∧ k.ro = false ∧ s.lim ≤ m.z ∧
      ∀ i (hi : i < xs.length), ho ≠ some i → ∃ v, k.cells[m.sh + i]? = some v ∧ RowC (fun z => s.Kid z = some (b, i)) s.H s.lim t xs[i] v) := by
  have := hs.blk b _ hb
  unfold BR at this; simp only at this
  obtain ⟨h0, h1, h2⟩ := this
  refine ⟨h0, h1, ?_⟩
  cases hm : s.μ b with
  | none => rw [hm] at h2; exact .inl ⟨rfl, h2⟩
  | some m =>
    rw [hm] at h2
    obtain ⟨a1, a2, k, a3, a4, a5, a6, a7⟩ := h2
    exact .inr ⟨m, k, rfl, a1, a2, a3, a4, a5, a6, a7⟩

theorem arr_info (hs : StR s) {b : Nat} {ver : Nat} {rw : Bool} {u : Ty} {xs : List u.T} (hb : lget s.L b = some ⟨ver, rw, .arr u xs⟩) {m : MB} (hm : s.μ b = some m) : m.es = u.size ∧ m.n = xs.length ∧ ∃ k, hget s.H m.z = some k ∧ m.sh + xs.length * u.size ≤ k.cells.length ∧
      (∀ i (h : i < xs.length), Rep s.N s.H u xs[i] ((k.cells.drop (m.sh + i * u.size)).take u.size)) ∧ (rw = true → k.ro = false ∧ s.lim ≤ m.z) ∧ (rw = false → s.N m.z) := by
  have := hs.blk b _ hb
  unfold BR at this; simp only [hm] at this
  obtain ⟨h1, h2, k, h3, h4, h5⟩ := this
  exact ⟨h1, h2, k, h3, h4.1, h5⟩
theorem arr_fit (hs : StR s) {b : Nat} {ver : Nat} {rw : Bool} {u : Ty} {xs : List u.T} (hb : lget s.L b = some ⟨ver, rw, .arr u xs⟩) {m : MB} (hm : s.μ b = some m) {k : Blk} (hk : hget s.H m.z = some k) : Fit m.sh (xs.length * u.size) k.cells := by
  have := hs.blk b _ hb
  unfold BR at this; simp only [hm] at this
  obtain ⟨h1, h2, k', h3, h4, h5⟩ := this
  rw [hk] at h3; injection h3 with h3; subst h3; exact h4

theorem arr_nil (hs : StR s) {b : Nat} {ver : Nat} {rw : Bool} {u : Ty} {xs : List u.T} (hb : lget s.L b = some ⟨ver, rw, .arr u xs⟩) (hm : s.μ b = none) : xs = [] := by
  have := hs.blk b _ hb
  unfold BR at this; simp only [hm] at this; exact this

theorem offAdd_eq (off k : Nat) : offAdd off k = off + k := by cases off <;> simp [offAdd]

theorem plen_osl (hs : StR s) {b off : Nat} {n : Option Nat} {v : Value} (hr : LR0 s (.osl b off n) v) {ver : Nat} {rw : Bool} {u : Ty} {xs : List u.T} (hb : lget s.L b = some ⟨ver, rw, .arr u xs⟩) {l : Nat} (h : plen s.L (.osl b off n) = some l) :
    (∃ m, s.μ b = some m ∧ v = .slice (some ⟨m.z, m.sh + off * m.es, none⟩) l m.es ∧ off + l ≤ xs.length) ∨ (s.μ b = none ∧ v = .slice none 0 0 ∧ l = 0 ∧ off = 0 ∧ xs = []) := by
  obtain ⟨hlb, hr⟩ := hr
  cases hm : s.μ b with
  | none =>
    rw [hm] at hr; obtain ⟨rfl, h2, rfl⟩ := hr
    have hx := arr_nil hs hb hm
    subst hx
    right
    refine ⟨rfl, rfl, ?_, rfl, rfl⟩
    cases n with
    | none => simp [plen, hb] at h; exact h.symm
    | some q => simp [plen] at h h2; omega
  | some m =>
    rw [hm] at hr; obtain ⟨g1, rfl⟩ := hr
    left
    obtain ⟨a1, a2, _⟩ := arr_info hs hb hm
    have hl : l = n.getD (m.n - off) := by
      cases n with
      | none =>
        simp only [plen, hb] at h
        simp at h ⊢; omega
      | some q => simp [plen] at h ⊢; exact h.symm
    subst hl
    exact ⟨m, rfl, rfl, by omega⟩

theorem plen_rel (hs : StR s) {p : PV} {v : Value} (hr : ER s p v) {l : Nat} (h : plen s.L p = some l) : ∃ a c, v = .slice a l c := by
  unfold plen at h
  split at h
  · simp at h; subst h; obtain rfl : v = _ := hr; exact ⟨_, _, rfl⟩
  · rename_i st t x
    simp at h; subst h
    have hr : Rep (s.NN st) s.H (.sl t) x [v] := hr
    unfold Rep at hr
    rcases hr with ⟨rfl, e1⟩ | ⟨rfl, _, _, e1⟩ | ⟨_, _, _, e1, _⟩ <;> (simp at e1; subst e1; exact ⟨_, _, rfl⟩)
  · rename_i b off n
    have hr : LR0 s (.osl b off (some n)) v := hr
    simp at h; subst h
    obtain ⟨hlb, hr⟩ := hr
    split at hr
    · obtain ⟨_, h2, rfl⟩ := hr; simp at h2; subst h2; exact ⟨_, _, rfl⟩
    · obtain ⟨_, rfl⟩ := hr; exact ⟨_, _, rfl⟩
  · rename_i b off
    have hr : LR0 s (.osl b off none) v := hr
    split at h
    · rename_i ver rw t xs hb
      have hpl : plen s.L (.osl b off none) = some l := by simp only [plen, hb]; exact h
      rcases plen_osl hs hr hb hpl with ⟨m, _, rfl, _⟩ | ⟨_, rfl, rfl, _⟩ <;> exact ⟨_, _, rfl⟩
    · rename_i ver rw t xs ho hb
      split at h
      · simp at h; subst h
        obtain ⟨hlb, hr⟩ := hr
        obtain ⟨_, _, ⟨hm, rfl⟩ | ⟨m, k, hm, a1, a2, _⟩⟩ := rows_info hs hb
        · rw [hm] at hr; obtain ⟨_, _, rfl⟩ := hr; exact ⟨_, _, rfl⟩
        · rw [hm] at hr; obtain ⟨_, rfl⟩ := hr
          exact ⟨some ⟨m.z, m.sh + 0 * m.es, none⟩, m.es, by simp [a2]⟩
      · simp at h
    · simp at h
  · rename_i b i ver t x
    simp at h; subst h
    obtain ⟨_, hr, _⟩ : LR0 s (.rw b i ver t x) v := hr
    rcases hr with ⟨e, rfl⟩ | ⟨z, oo, rfl⟩
    · rw [e]; exact ⟨_, _, rfl⟩
    · exact ⟨_, _, rfl⟩
  · simp at h

theorem plen_nil (hs : StR s) {p : PV} {v : Value} (hr : ER s p v) {l : Nat} (h : plen s.L p = some l) : ∃ a c, v = .slice a l c ∧ (a = none → l = 0) := by
  obtain ⟨a, c, rfl⟩ := plen_rel hs hr h
  refine ⟨a, c, rfl, fun ha => ?_⟩
  subst ha
  unfold plen at h
  split at h
  · simp at h; exact h.symm
  · rename_i st t x
    have hr : Rep (s.NN st) s.H (.sl t) x [.slice none l c] := hr
    unfold Rep at hr
    rcases hr with ⟨rfl, e1⟩ | ⟨rfl, _, _, e1⟩ | ⟨_, _, _, e1, _⟩
    · simp at h; exact h.symm
    · simp at h; exact h.symm
    · simp at e1
  · rename_i b off n
    have hr : LR0 s (.osl b off (some n)) (.slice none l c) := hr
    simp at h; subst h
    obtain ⟨hlb, hr⟩ := hr
    split at hr
    · have := hr.2.1; simpa using this
    · have := hr.2; simp at this
  · rename_i b off
    have hr : LR0 s (.osl b off none) (.slice none l c) := hr
    split at h
    · rename_i ver rw t xs hb
      have hpl : plen s.L (.osl b off none) = some l := by simp only [plen, hb]; exact h
      rcases plen_osl hs hr hb hpl with ⟨m, _, e1, _⟩ | ⟨_, _, rfl, _⟩
      · simp at e1
      · rfl
    · rename_i ver rw t xs ho hb
      split at h
      · simp at h; subst h
        obtain ⟨hlb, hr⟩ := hr
        obtain ⟨_, _, ⟨hm, rfl⟩ | ⟨m, k, hm, a1, a2, _⟩⟩ := rows_info hs hb
        · rfl
        · rw [hm] at hr; obtain ⟨_, e⟩ := hr; simp at e
      · simp at h
    · simp at h
  · rename_i b i ver t x
    simp at h; subst h
    obtain ⟨_, hr, _⟩ : LR0 s (.rw b i ver t x) (.slice none x.length c) := hr
    rcases hr with ⟨e, _⟩ | ⟨z, oo, e⟩
    · exact e
    · simp at e
  · simp at h

theorem sim_binOp {op : BinOp} {t u : TypeId} {x y : Operand} (hP : X.P = XE.P) (ho : o.op = .binOp op t x y u) (hs : StR s) (he : EnvR s env e) (hK : KOk s r KV KE Q) (h : vop X o env s.L KV = some r) : ∃ y, evOp XE o e s.H KE = some y ∧ Q y := by
  simp only [vop, ho] at h; simp only [evOp, ho]
  replace h := ob h; obtain ⟨p, h1, h⟩ := h
  replace h := ob h; obtain ⟨q, h2, h⟩ := h
  obtain ⟨v, e1, r1⟩ := pev_rel he h1
  obtain ⟨w, e2, r2⟩ := pev_rel he h2
  rw [e1, e2]; simp only [obind]
  rw [← hP]
  split at h
  · rename_i neg hc
    obtain ⟨hq, ⟨el, hu⟩, hop, hv⟩ := nilCmp_some hc
    rw [hq] at r2
    obtain rfl : w = .slice none 0 0 := r2
    rw [show p = .nil from hv] at r1
    obtain rfl : v = .slice none 0 0 := r1
    rw [nil_run hu hop]
    have hz : (Option.isNone (none : Option Addr) != neg) = !neg := by cases neg <;> rfl
    rw [hz]
    exact hK.here hs (p := .bool (!neg)) rfl h
  · rename_i n neg hc
    obtain ⟨hq, ⟨el, hu⟩, hop, hv⟩ := nilCmp_some hc
    rw [hq] at r2
    obtain rfl : w = .slice none 0 0 := r2
    obtain ⟨a, c, rfl, hn⟩ := plen_nil hs r1 hv
    rw [nil_run hu hop]
    unfold nilB at h
    cases n with
    | zero =>
      obtain ⟨g1, g2⟩ := both_some h
      cases a with
      | none => have hz : (Option.isNone (none : Option Addr) != neg) = !neg := by cases neg <;> rfl
                rw [hz]; exact hK.here hs (p := .bool (!neg)) rfl g1
      | some a => have : (Option.isNone (some a) != neg) = neg := by cases neg <;> rfl
                  rw [this]; exact hK.here hs (p := .bool neg) rfl g2
    | succ n =>
      cases a with
      | none => exact absurd (hn rfl) (by omega)
      | some a => have : (Option.isNone (some a) != neg) = neg := by cases neg <;> rfl
                  rw [this]; exact hK.here hs (p := .bool neg) rfl h
  · replace h := ob h; obtain ⟨v', h3, h⟩ := h
    replace h := ob h; obtain ⟨u', h4, h⟩ := h
    have := sc_rel r1 h3; subst this
    have := sc_rel r2 h4; subst this
    rw [binA_nat] at h
    replace h := ob h; obtain ⟨z, h5, h⟩ := h
    rw [binA_nat, h5]
    exact hK.here hs (ofS_rel (binA_scal h5)) h

theorem sim_indexAddr {t : TypeId} {x ix : Operand} (hP : X.P = XE.P) (ho : o.op = .indexAddr t x ix) (hs : StR s) (he : EnvR s env e) (hK : KOk s r KV KE Q) (h : vop X o env s.L KV = some r) : ∃ y, evOp XE o e s.H KE = some y ∧ Q y := by
  simp only [vop, ho] at h; simp only [evOp, ho]
  replace h := ob h; obtain ⟨p, h1, h⟩ := h
  replace h := ob h; obtain ⟨j, h2, h⟩ := h
  obtain ⟨v, e1, r1⟩ := pev_rel he h1
  obtain ⟨w, e2, r2⟩ := pev_rel he h2
  rw [e1, e2]; simp only [obind]
  rw [← hP]
  split at h
  · rename_i el hu
    replace h := ob h; obtain ⟨i, h3, h⟩ := h
    split at h
    · rename_i st u l
      split at h
      · rename_i hsz
        have hsz := Nat.eq_of_beq_eq_true hsz
        have r1 : Rep (s.NN st) s.H (.sl u) l [v] := r1
        unfold Rep at r1
        have hne : ∀ (K : Nat → Option γ), True := fun _ => trivial
        rcases r1 with ⟨rfl, e3⟩ | ⟨rfl, z, oo, e3⟩ | ⟨z, oo, k, e3, hn, hk, hle, hi⟩
        · exfalso
          unfold pIx at h; split at h
          · unfold oif at h; split at h
            · simp [obind] at h
            · simp at h
          · simp at h
        · exfalso
          unfold pIx at h; split at h
          · unfold oif at h; split at h
            · simp [obind] at h
            · simp at h
          · simp at h
        · simp at e3; subst e3
          simp only [slS, hu, h3, obind]
          refine pIx_sim r2 h (fun n h => ?_)
          replace h := ob h; obtain ⟨y, h4, h⟩ := h
          obtain ⟨hlt, e5⟩ := List.getElem?_eq_some_iff.1 h4
          have : Nat.blt n l.length = true := lt_blt hlt
          simp only [this, oif]
          have hmul : n * u.size + u.size ≤ l.length * u.size := by
            have := Nat.mul_le_mul_right u.size (show n + 1 ≤ l.length from hlt)
            rw [Nat.add_mul, Nat.one_mul] at this; exact this
          refine hK.here hs (p := .rp st u y) ⟨z, oo + n * i.size, k, rfl, hn, hk, by rw [← hsz]; omega, ?_⟩ h
          have := hi n hlt
          rw [e5] at this; rw [← hsz]; exact this
      · simp at h
    · rename_i b off n
      split at h
      · rename_i ver rw u xs hb
        split at h
        · rename_i hsz
          have hsz := Nat.eq_of_beq_eq_true hsz
          have r1 : LR0 s (.osl b off n) v := r1
          have key : ∀ q, (obind (plen s.L (.osl b off n)) fun m => oif (Nat.blt q m) (KV (.ep b (offAdd off q) 0) s.L) none) = some r →
              ∃ m l, s.μ b = some m ∧ v = .slice (some ⟨m.z, m.sh + off * m.es, none⟩) l m.es ∧ q < l ∧ KV (.ep b (off + q) 0) s.L = some r := by
            intro q h
            replace h := ob h; obtain ⟨l, h4, h⟩ := h
            unfold oif at h; split at h
            · rename_i hlt
              have hlt := blt_lt hlt
              rcases plen_osl hs r1 hb h4 with ⟨m, a1, a2, a3⟩ | ⟨_, _, rfl, _⟩
              · refine ⟨m, l, a1, a2, hlt, ?_⟩
                rw [← offAdd_eq]; exact h
              · omega
            · simp at h
          have hex : ∃ a n' c, v = .slice (some a) n' c := by
            unfold pIx at h; split at h
            · rename_i nn
              cases hd : decide (0 ≤ nn) with
              | true =>
                rw [hd] at h
                obtain ⟨m, l, _, rfl, _⟩ := key nn.toNat h; exact ⟨_, _, _, rfl⟩
              | false => rw [hd] at h; simp [oif] at h
            · simp at h
          obtain ⟨a, n', c, rfl⟩ := hex
          simp only [slS, hu, h3, obind]
          refine pIx_sim r2 h (fun q h => ?_)
          obtain ⟨m, l, hm, ev', hlt, h⟩ := key q h
          injection ev' with e5 e6 e7
          injection e5 with e5
          subst e5 e6 e7
          have : Nat.blt q n' = true := lt_blt hlt
          simp only [this, oif]
          obtain ⟨a1, _⟩ := arr_info hs hb hm
          refine hK.here hs (p := .ep b (off + q) 0) ⟨r1.1, m, hm, ?_⟩ h
          rw [Nat.add_zero, Nat.add_mul, a1, hsz, Nat.add_assoc]
        · simp at h
      · rename_i ver rw u xs ho hb
        split at h
        · rename_i hsz
          simp only [Bool.and_eq_true] at hsz
          obtain ⟨hsz, ho0, hn0⟩ := hsz
          have hsz := Nat.eq_of_beq_eq_true hsz
          have ho0 := Nat.eq_of_beq_eq_true ho0
          subst ho0
          have hn0 : n = none := by cases n <;> simp_all
          subst hn0
          have r1 : LR0 s (.osl b 0 none) v := r1
          obtain ⟨_, _, hrow⟩ := rows_info hs hb
          have hex : ∃ q, KV (.ep b q 0) s.L = some r ∧ q < xs.length := by
            unfold pIx at h; split at h
            · rename_i nn
              cases hd : decide (0 ≤ nn) with
              | true =>
                rw [hd] at h
                simp only [oif] at h
                split at h
                · rename_i hlt; exact ⟨_, h, blt_lt hlt⟩
                · simp at h
              | false => rw [hd] at h; simp [oif] at h
            · simp at h
          obtain ⟨q0, _, hq0⟩ := hex
          rcases hrow with ⟨hm, rfl⟩ | ⟨m, k, hm, a1, a2, _⟩
          · simp at hq0
          have r1' := r1
          obtain ⟨_, r1'⟩ := r1'
          rw [hm] at r1'
          obtain ⟨_, rfl⟩ := r1'
          simp only [slS, hu, h3, obind]
          refine pIx_sim r2 h (fun q h => ?_)
          unfold oif at h; split at h
          · rename_i hlt
            have : Nat.blt q ((none : Option Nat).getD (m.n - 0)) = true := by simp [a2, hlt]
            simp only [this, oif]
            refine hK.here hs (p := .ep b q 0) ⟨r1.1, m, hm, ?_⟩ h
            rw [a1, ← hsz]; simp
          · simp at h
        · simp at h
      · simp at h
    · rename_i b i0 ver u l
      split at h
      · rename_i hsz
        have hsz := Nat.eq_of_beq_eq_true hsz
        obtain ⟨hlb, hsl, hval⟩ : LR0 s (.rw b i0 ver u l) v := r1
        rcases hsl with ⟨e3, rfl⟩ | ⟨z, oo, rfl⟩
        · exfalso
          have : l = [] := List.length_eq_zero_iff.1 e3
          subst this
          unfold pIx at h; split at h
          · unfold oif at h; split at h
            · simp [obind] at h
            · simp at h
          · simp at h
        · simp only [slS, hu, h3, obind]
          refine pIx_sim r2 h (fun n h => ?_)
          replace h := ob h; obtain ⟨y, h4, h⟩ := h
          obtain ⟨hlt, e5⟩ := List.getElem?_eq_some_iff.1 h4
          have : Nat.blt n l.length = true := lt_blt hlt
          simp only [this, oif]
          have hmul : n * u.size + u.size ≤ l.length * u.size := by
            have := Nat.mul_le_mul_right u.size (show n + 1 ≤ l.length from hlt)
            rw [Nat.add_mul, Nat.one_mul] at this; exact this
          refine hK.here hs (p := .rq b ver u y) ⟨hlb, ⟨z, oo + n * i.size, rfl⟩, fun B hB => ⟨(hval B hB).1, fun e => ?_⟩⟩ h
          obtain ⟨_, hrow, _⟩ := (hval B hB).2 e
          rcases hrow with ⟨_, e6⟩ | ⟨z', o', k, e6, g1, g2, g3, g4, g5, g6⟩
          · simp at e6
          · injection e6 with e6 _ _; injection e6 with e6; injection e6 with e6 e7 _; subst e6 e7
            have := g6 n hlt
            rw [e5] at this
            exact ⟨z, oo + n * i.size, k, i0, rfl, g1, g2, by have := g5.1; rw [← hsz]; omega, by rw [← hsz]; exact this⟩
      · simp at h
    · simp at h
  · rename_i n el hu
    replace h := ob h; obtain ⟨i, h3, h⟩ := h
    replace h := ob h; obtain ⟨u, h4, h⟩ := h
    split at h
    · rename_i b off
      split at h
      · rename_i ver rw u' xs ho hb
        split at h
        · rename_i hc
          simp only [Bool.and_eq_true] at hc
          obtain ⟨ho0, hsz⟩ := hc
          have ho0 := Nat.eq_of_beq_eq_true ho0
          have hsz := Nat.eq_of_beq_eq_true hsz
          subst ho0
          obtain ⟨hlb, m, hm, hsh, rfl⟩ := r1
          obtain ⟨_, _, hrow⟩ := rows_info hs hb
          simp only [ptrS, hu, h3, obind]
          refine pIx_sim r2 h (fun k h => ?_)
          unfold oif at h
          split at h
          · rename_i hlt
            simp only [Bool.and_eq_true] at hlt
            simp only [hlt.1, oif]
            have hk := blt_lt hlt.2
            rcases hrow with ⟨_, rfl⟩ | ⟨m', kk, hm', a1, a2, _⟩
            · simp at hk
            rw [hm] at hm'; injection hm' with hm'; subst hm'
            refine hK.here hs (p := .ep b k 0) ⟨hlb, m, hm, ?_⟩ h
            rw [hsh, a1, ← hsz]; simp
          · simp at h
        · simp at h
      split at h
      · rename_i hc
        simp only [Bool.and_eq_true] at hc
        have hsz := Nat.eq_of_beq_eq_true hc.1
        obtain ⟨hb, m, hm, hsh, rfl⟩ := r1
        simp only [ptrS, hu, h3, obind]
        refine pIx_sim r2 h (fun k h => ?_)
        unfold oif at h
        split at h
        · rename_i hlt
          simp only [hlt, oif]
          exact hK.here hs (p := .dp b off n u k) ⟨hb, m, hm, hsh, by rw [hsz]⟩ h
        · simp at h
      · simp at h
    · simp at h
  · simp at h

end
end Go.Pv
