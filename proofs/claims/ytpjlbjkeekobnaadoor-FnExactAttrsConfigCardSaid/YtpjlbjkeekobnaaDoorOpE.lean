/-
  Operations that write blocks, and calls: they agree with the model's run.
  Conditions: none.
-/
import Derived.Test.YtpjlbjkeekobnaaDoorOpM
set_option linter.unusedVariables false
namespace Go.Ev

/-- An operation that may write. -/
structure EffF (P : Program) (nt lim : Nat) (o : Oper) (env : Env) (H : Heap) (v : Value) (H' : Heap) : Prop where
  lt : EnvLt (Bel H.length) env → closedAt H.length H → VLt (Bel H'.length) v
  ab : EnvLt (Bel H.length) env → closedAt H.length H → Ab lim H H'
  run : ∀ (ι : Io) (a : Act) (w : World), Rel ι (Bel H.length) H w → ERel ι (Bel H.length) nt env a → ∀ (next : Act → World → Prop) (Q : Exit → Act → World → Prop),
    (∀ ι' w' c, Rel ι' (Bel H'.length) H' w' → VRel ι' (Bel H'.length) v c → Fr ι H w ι' H' w' → next (a.put o.dst c) w') → o.wp P a w next Q

/-- What a call of a function gives. -/
structure CallF (P : Program) (f : FuncId) (args : List Value) (lim : Nat) (H : Heap) (v : Value) (H' : Heap) : Prop where
  lt : LLt (Bel H.length) args → closedAt H.length H → VLt (Bel H'.length) v
  ab : LLt (Bel H.length) args → closedAt H.length H → Ab lim H H'
  enter : ∀ (cargs : Array Value) (w : World), (callFunc f cargs).run P w = .ok (.enter f cargs) w
  run : ∀ (ι : Io) (w : World) (cargs : Array Value), Rel ι (Bel H.length) H w → LRel ι (Bel H.length) args cargs.toList →
    Calls P f cargs w fun e w' => ∃ ι' c, e = .returned c ∧ Rel ι' (Bel H'.length) H' w' ∧ VRel ι' (Bel H'.length) v c ∧ Fr ι H w ι' H' w'

def CallsOk (P : Program) (call : FuncId → List Value → Nat → Heap → Option (Value × Heap)) : Prop :=
  ∀ f args lim H v H', call f args lim H = some (v, H') → CallF P f args lim H v H'

section
variable {P : Program} {nt lim : Nat} {o : Oper} {env : Env} {H H' : Heap} {X : Cx} {β : Type} {K : Value → Heap → Option β} {r : β}

theorem wp_value {a : Act} {w w' : World} {c : Value} {next : Act → World → Prop} {Q : Exit → Act → World → Prop} (h : (execOp a.eval o).run P w = .ok (.value c) w') (hn : next (a.put o.dst c) w') : o.wp P a w next Q := by
  unfold Oper.wp; rw [h]; exact hn

theorem undef_rel (ι : Io) (D : Nat → Prop) : VRel ι D undef undef := .tuple [] [] rfl fun i h1 => absurd h1 (by simp)
theorem undef_lt (D : Nat → Prop) : VLt D undef := (undef_rel (fun _ => ⟨0, 0, 0⟩) D).lt

theorem eff_store {t : TypeId} {x y : Operand} {p : Addr} {u : Value} {i : TypeInfo} (ho : o.op = .store t x y) (hx : ev env x = some (.pointer (some p))) (hy : ev env y = some u) (hi : P.info? t = some i) (hs : Nat.beq u.cells.size i.size = true)
    (hh : hstoreN H lim p u.cells.toList = some H') : EffF P nt lim o env H undef H' := by
  refine ⟨fun _ _ => undef_lt _, fun he _ => hstoreN_ab hh (ev_lt he hy).cells, fun ι a w hR he next Q hn => ?_⟩
  have ex := (ev_rel he hx).inv_ptr.1
  have hc := (ev_rel he hy).cells
  obtain ⟨h1, h2, h3⟩ := hR.store (P := P) hh hc
  have hlen : H'.length = H.length := by
    obtain ⟨k, hk, hx'⟩ := obind_some hh
    split at hx'
    · simp at hx'; subst hx'; simp
    · simp at hx'
  have hsz : ¬ ((a.eval y).cells.size ≠ i.size) := by
    have := hc.1
    have := Nat.eq_of_beq_eq_true hs
    simp at *; omega
  have hrun : (execOp a.eval o).run P w = .ok .skip (w.setCells (ι p.block).blk ((ι p.block).off + p.off) (a.eval y).cells.toList) := by
    simp only [execOp, ho, ex, Instr.storeAt, Instr.sureAddr, storeVar, Sem.run_bind, Sem.run_pure, Result.andThen_ok, sizeOf, typeInfo, run_program, hi, if_neg hsz, h1]
  unfold Oper.wp; rw [hrun]
  rw [← hlen] at h2
  exact hn ι _ undef h2 (undef_rel _ _) h3

theorem call_run {c : Call} {f : Operand} {g : FuncId} {first cap : Array Value} (ho : o.op = .call c) (hc : c.callee = .value f) {a : Act} {w : World} (hf : a.eval f = .func (.func g) first cap) :
    (execOp a.eval o).run P w = (callFunc g (first ++ c.args.map a.eval ++ cap)).run P w := by
  simp only [execOp, ho, resolve, hc, Deferred.ofValue, hf, invoke, Sem.run_bind, Sem.run_pure, Result.andThen_ok]

theorem eff_call {c : Call} {f : Operand} {g : FuncId} {first cap : Array Value} {vs : List Value} {v : Value} (ho : o.op = .call c) (hc : c.callee = .value f) (hf : ev env f = some (.func (.func g) first cap)) (hv : evs env c.args.toList = some vs)
    (hcall : CallF P g (first.toList ++ vs ++ cap.toList) lim H v H') : EffF P nt lim o env H v H' := by
  have hlt : EnvLt (Bel H.length) env → LLt (Bel H.length) (first.toList ++ vs ++ cap.toList) := by
    intro he u hu
    have h1 := (ev_lt he hf).func_mem
    simp only [List.mem_append] at hu
    rcases hu with (hu | hu) | hu
    · exact h1.1 u hu
    · exact evs_lt he hv u hu
    · exact h1.2 u hu
  refine ⟨fun he hcl => hcall.lt (hlt he) hcl, fun he hcl => hcall.ab (hlt he) hcl, fun ι a w hR he next Q hn => ?_⟩
  obtain ⟨first', cap', e1, h1, h2⟩ := (ev_rel he hf).inv_func
  have hargs := evs_rel he hv
  unfold Oper.wp
  rw [call_run ho hc e1, hcall.enter]
  simp only [Oper.upon]
  refine (hcall.run ι w _ hR ?_).mono ?_
  · simp only [Array.toList_append, Array.toList_map]
    exact (h1.append hargs).append h2
  · rintro e w' ⟨ι', c', rfl, g1, g2, g3⟩
    exact hn ι' w' c' g1 g2 g3

/-- Room for an append. -/
theorem Fr.drew (ι : Io) (H : Heap) (w : World) : Fr ι H w ι H w.drew := (Fr.refl ι H w).same_heap rfl rfl rfl rfl

theorem src_slice {ι : Io} {D : Nat → Prop} {w : World} (hR : Rel ι D H w) {size : Nat} {u e' : TypeId} (hu : P.underlying u = some (.slice e')) {a : Option Addr} {n m : Nat} {l : List Value} (hl : sliceCells H size (.slice a n m) = some l) {c : Value} (hc : VRel ι D (.slice a n m) c) :
    ∃ cs, LRel ι D l cs ∧ (∀ v ∈ l, isCell v = true) ∧ Src P size u c n cs w := by
  obtain ⟨cs, h1, h2, h3, h4, a', cap, h5, h6⟩ := sliceCells_rel (P := P) hR hl hc
  obtain ⟨cs2, k1, k2, k3, k4, _⟩ := sliceCells_rel (P := P) (hR.same_heap (w' := w.drew) rfl) hl hc
  have hone : ∀ x ∈ cs, x.oneCell' = true := by
    intro x hx
    obtain ⟨i, hi, e⟩ := List.getElem_of_mem hx
    rw [← e, isCell_oneCell, (h2.2 i (by have := h2.1; omega) hi).isCell]
    exact h3 _ (List.getElem_mem _)
  refine ⟨cs, h2, h3, ⟨.inl ⟨e', hu⟩, fun w' => by rw [h5]; rfl, h4, ?_, h1, hone⟩⟩
  -- the same cells behind a draw
  rw [h5] at h4 ⊢
  cases a' with
  | none => simp [Builtin.firstCells] at h4 ⊢; rw [h4]
  | some q =>
    simp only [Builtin.firstCells] at h4 ⊢
    have hld : ∀ (k i : Nat) (acc : Array Value), (loadCellsFrom q i k acc).run P w.drew = (match (loadCellsFrom q i k acc).run P w with | .ok v _ => .ok v w.drew | .halt h _ => .halt h w.drew) := by
      intro k
      induction k with
      | zero => intro i acc; simp [loadCellsFrom]
      | succ k ih =>
        intro i acc
        simp only [loadCellsFrom, Sem.run_bind, run_load]
        have e1 : w.drew.cell? (q.add i) = w.cell? (q.add i) := rfl
        have e2 : ∀ b, w.drew.farLoad P (q.add i) b = w.farLoad P (q.add i) b := fun b => rfl
        rw [e1]
        cases hcell : w.cell? (q.add i) with
        | some v => simp only [Result.andThen_ok]; exact ih _ _
        | none =>
          simp only
          rw [e2]
          cases hfar : w.farLoad P (q.add i) (Mode.plain == Mode.atomic) with
          | ok x => simp only [Result.andThen_ok]; exact ih _ _
          | error h => rfl
    have := hld (n * size) 0 #[]
    unfold loadCells at h4 ⊢
    rw [this, h4]

end

end Go.Ev
