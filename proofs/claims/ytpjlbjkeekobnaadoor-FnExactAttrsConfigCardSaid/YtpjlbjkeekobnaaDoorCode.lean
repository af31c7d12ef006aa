/-
  Regions in the order of the text, and code: what the interpreter says of the model's weakest preconditions.
  Conditions: none.
-/
import Derived.Test.YtpjlbjkeekobnaaDoorOpK
set_option linter.unusedVariables false
set_option linter.unusedSimpArgs false
namespace Go.Ev

section
variable {o : Oper} {env : Env} {H H' : Heap} {X : Cx} {β : Type} {r : β}

theorem Rel.closed {ι : Io} {w : World} (h : Rel ι (Bel H.length) H w) : closedAt H.length H := by
  intro b hb k hk v hv
  obtain ⟨i, hi, e⟩ := List.getElem_of_mem hv
  obtain ⟨c, h1, h2, h3⟩ := (h.blk b k hk).cell i hi
  exact e ▸ h2.lt

theorem opF_ab {v : Value} (h : OpF X o env H v H') (he : EnvLt (Bel H.length) env) (hc : closedAt H.length H) : Ab X.lim H H' ∧ VLt (Bel H'.length) v := by
  unfold OpF at h
  split at h
  · obtain ⟨rfl, h⟩ := h; exact ⟨Ab.refl _ _, h.lt _ he⟩
  · obtain ⟨rfl, raw, h⟩ := h; exact ⟨Ab.refl _ _, h.lt he hc⟩
  · obtain ⟨vs, mk, rfl, rfl, h⟩ := h
    exact ⟨hpush_ab _ (h.lt _ he), h.ltv _ _ (by simp [Bel, length_push])⟩
  · exact ⟨h.ab he hc, h.lt he hc⟩

theorem opF_seq {v : Value} (h : OpF X o env H v H') {ι : Io} {a : Act} {w : World} (hR : Rel ι (Bel H.length) H w) (hE : ERel ι (Bel H.length) X.nt env a) {next : Act → World → Prop} {Q : Exit → Act → World → Prop}
    (hn : ∀ ι' w' c, Rel ι' (Bel H'.length) H' w' → VRel ι' (Bel H'.length) v c → Fr ι H w ι' H' w' → next (a.put o.dst c) w') : o.wp X.P a w next Q := by
  unfold OpF at h
  split at h
  · obtain ⟨rfl, h⟩ := h
    obtain ⟨c, h1, h2⟩ := h.run ι _ a w hE
    exact wp_value h1 (hn ι w c hR h2 (Fr.refl _ _ _))
  · obtain ⟨rfl, raw, h⟩ := h
    obtain ⟨c, h1, h2⟩ := h.run ι _ a w H' h.rd hR hE
    exact wp_value h1 (hn ι w c hR h2 (Fr.refl _ _ _))
  · obtain ⟨vs, mk, rfl, rfl, h⟩ := h
    obtain ⟨cs, rest, ety, fz, w0, c, h1, h2, e1, e2, e3, e4, h3, h4⟩ := h.run ι _ a w hE
    obtain ⟨g1, g2⟩ := (hR.same_heap e1).push h1 h.cells rest ety fz h2
    have hw : w0.heap.size = w.heap.size := by rw [e1]
    have h4' := h4 H.length
    rw [← hw] at h4'
    refine wp_value h3 (hn _ _ c g1 ?_ (((Fr.refl ι H w).same_heap e1 e2 e3 e4).trans g2))
    rw [length_push]
    exact h4'.mono (by intro b hb; simp [Bel] at hb ⊢; omega) fun _ _ => rfl
  · exact h.run ι a w hR hE next Q hn

theorem putE_some {nt : Nat} {dst : Option Tmp} {v : Value} {K : Env → Option β} (h : putE nt dst v env K = some r) : ∃ env', K env' = some r ∧ ((dst = none ∧ env' = env) ∨ ∃ d, dst = some d ∧ d < nt ∧ env' = (d, v) :: env) := by
  unfold putE at h
  split at h
  · exact ⟨env, h, .inl ⟨rfl, rfl⟩⟩
  · rename_i d
    split at h
    · rename_i hd
      have hd' : d + 1 ≤ nt := by simpa [Nat.blt] using hd
      exact ⟨_, h, .inr ⟨d, rfl, hd', rfl⟩⟩
    · simp at h

theorem put_rel {ι : Io} {D : Nat → Prop} {nt : Nat} {env' : Env} {a : Act} {dst : Option Tmp} {v c : Value} (hE : ERel ι D nt env a) (hv : VRel ι D v c) (h : (dst = none ∧ env' = env) ∨ ∃ d, dst = some d ∧ d < nt ∧ env' = (d, v) :: env) : ERel ι D nt env' (a.put dst c) := by
  rcases h with ⟨rfl, rfl⟩ | ⟨d, rfl, hd, rfl⟩
  · exact hE
  · exact hE.put hd hv

theorem put_lt {D : Nat → Prop} {nt : Nat} {env' : Env} {dst : Option Tmp} {v : Value} (hE : EnvLt D env) (hv : VLt D v) (h : (dst = none ∧ env' = env) ∨ ∃ d, dst = some d ∧ d < nt ∧ env' = (d, v) :: env) : EnvLt D env' := by
  rcases h with ⟨rfl, rfl⟩ | ⟨d, rfl, hd, rfl⟩
  · exact hE
  · exact hE.put hv

/-- Whether an operation is wanted. -/
structure WantF (nt : Nat) (ops : Array Oper) (o : Oper) (env : Env) (t : Bool) (env' : Env) : Prop where
  run : ∀ (ι : Io) (D : Nat → Prop) (a : Act), ERel ι D nt env a → ERel ι D nt env' a ∧ Region.wanted o (yielded ops a.tmps) = t
  lt : ∀ D : Nat → Prop, EnvLt D env → EnvLt D env'

theorem wantedK_some {nt : Nat} {ops : Array Oper} {K : Bool → Env → Option β} (h : wantedK ops o env K = some r) : ∃ t env', K t env' = some r ∧ WantF nt ops o env t env' := by
  unfold wantedK at h
  split at h
  · rename_i hg
    exact ⟨true, env, h, fun ι D a hE => ⟨hE, by simp [Region.wanted, hg]⟩, fun D hE => hE⟩
  · rename_i j want hg
    split at h
    · rename_i d hd
      replace h := obind_some h; obtain ⟨v, hv, h⟩ := h
      have hy : ∀ (ι : Io) (D : Nat → Prop) (a : Act), ERel ι D nt env a → yielded ops a.tmps j = match v with | .bool b => some b | _ => none := by
        intro ι D a hE
        have hr := hE.get d v hv
        unfold yielded
        rw [hd]
        simp only [Option.bind_some]
        by_cases hlt : d < a.tmps.size
        · rw [Array.getElem?_eq_getElem hlt]
          have e : a.tmps.getD d undef = a.tmps[d] := by simp [Array.getD, hlt]
          rw [e] at hr
          generalize a.tmps[d] = c at hr ⊢
          cases hr <;> rfl
        · rw [Array.getElem?_eq_none (Nat.le_of_not_lt hlt)]
          have e : a.tmps.getD d undef = undef := by simp [Array.getD, hlt]
          rw [e] at hr
          cases hr <;> rfl
      split at h
      · rename_i b
        rcases oif_some h with ⟨rfl, h⟩ | ⟨rfl, h⟩
        · refine ⟨_, _, h, fun ι D a hE => ⟨hE.lit hv, ?_⟩, fun D hE => hE.put (.bool _)⟩
          simp only [Region.wanted, hg, hy ι D a hE]
          cases want <;> rfl
        · refine ⟨_, _, h, fun ι D a hE => ⟨hE.lit hv, ?_⟩, fun D hE => hE.put (.bool _)⟩
          simp only [Region.wanted, hg, hy ι D a hE]
          cases want <;> rfl
      · rename_i hnb
        refine ⟨_, _, h, fun ι D a hE => ⟨hE, ?_⟩, fun D hE => hE⟩
        simp only [Region.wanted, hg, hy ι D a hE]
        cases v <;> first | rfl | exact absurd rfl (hnb _)
    · simp at h

def exOf : AExit → Exit
  | .normal => .normal
  | .exit id => .exit id
  | .ret => .ret

/-- A later state in which the rest of the interpretation still gives r. -/
def Good (X : Cx) (ι₀ : Io) (H₀ : Heap) (w₀ : World) (K : AExit → Env → Heap → Option β) (r : β) (ex : Exit) (a : Act) (w : World) : Prop :=
  ∃ aex env ι H, exOf aex = ex ∧ Rel ι (Bel H.length) H w ∧ ERel ι (Bel H.length) X.nt env a ∧ Fr ι₀ H₀ w₀ ι H w ∧ Ab X.lim H₀ H ∧ a.defers = [] ∧ K aex env H = some r

theorem Good.later {ι₀ ι : Io} {H₀ : Heap} {w₀ w : World} {K : AExit → Env → Heap → Option β} {ex : Exit} {a : Act} {w' : World} (h : Good X ι H w K r ex a w') (hf : Fr ι₀ H₀ w₀ ι H w) (ha : Ab X.lim H₀ H) : Good X ι₀ H₀ w₀ K r ex a w' := by
  obtain ⟨aex, env, ι', H', h1, h2, h3, h4, h5, h6, h7⟩ := h
  exact ⟨aex, env, ι', H', h1, h2, h3, hf.trans h4, ha.trans h5, h6, h7⟩

theorem put_defers (a : Act) (dst : Option Tmp) (c : Value) : (a.put dst c).defers = a.defers := by cases dst <;> rfl

/-- The operations from a place on, in the order of the text. -/
theorem evOps_wp (hX : CallsOk X.P X.call) {ops : Array Oper} {K : Env → Heap → Option β} {Q : Exit → Act → World → Prop} : ∀ (l : List Oper) (i : Nat) (env : Env) (H : Heap), (∀ k, l[k]? = ops[i + k]?) → i + l.length = ops.size → evOps X ops l env H K = some r →
    ∀ (ι : Io) (a : Act) (w : World), Rel ι (Bel H.length) H w → ERel ι (Bel H.length) X.nt env a → a.defers = [] →
    (∀ env' ι' H' a' w', Rel ι' (Bel H'.length) H' w' → ERel ι' (Bel H'.length) X.nt env' a' → Fr ι H w ι' H' w' → Ab X.lim H H' → a'.defers = [] → K env' H' = some r → Q .normal a' w') →
    wpOps X.P ops Q (List.range' i l.length) a w
  | [], i, env, H, hl, hs, h, ι, a, w, hR, hE, hd, hQ => hQ env ι H a w hR hE (Fr.refl _ _ _) (Ab.refl _ _) hd h
  | o :: l, i, env, H, hl, hs, h, ι, a, w, hR, hE, hd, hQ => by
    have ho : ops[i]? = some o := by have := hl 0; simpa using this.symm
    have hl' : ∀ k, l[k]? = ops[i + 1 + k]? := fun k => by have := hl (k + 1); rw [show i + 1 + k = i + (k + 1) by omega]; simpa using this
    rw [List.length_cons, List.range'_succ]
    simp only [wpOps, ho]
    unfold evOps at h
    obtain ⟨t, env1, h, hw⟩ := wantedK_some (nt := X.nt) h
    obtain ⟨hE1, hwt⟩ := hw.run ι _ a hE
    cases t with
    | true =>
      rw [if_pos hwt]
      left
      simp only at h
      obtain ⟨v, H', h, hF⟩ := evOp_facts hX h
      obtain ⟨hab, hvl⟩ := opF_ab hF hE1.lt hR.closed
      refine opF_seq hF hR hE1 fun ι' w' c hR' hv' hf => ?_
      obtain ⟨env2, h, hp⟩ := putE_some h
      have hE2 : ERel ι' (Bel H'.length) X.nt env1 a := hE1.mono (Bel.mono hf.len) hf.io
      refine evOps_wp hX l (i + 1) env2 H' hl' (by simp at hs; omega) h ι' _ w' hR' (put_rel hE2 hv' hp) (by rw [put_defers]; exact hd) ?_
      intro env' ι2 H2 a2 w2 g1 g2 g3 g4 g5 g6
      exact hQ env' ι2 H2 a2 w2 g1 g2 (hf.trans g3) (hab.trans g4) g5 g6
    | false =>
      rw [if_neg (by rw [hwt]; simp)]
      simp only at h
      obtain ⟨env2, h, hp⟩ := putE_some h
      refine evOps_wp hX l (i + 1) env2 H hl' (by simp at hs; omega) h ι _ w hR (put_rel hE1 (undef_rel _ _) hp) (by rw [put_defers]; exact hd) ?_
      intro env' ι2 H2 a2 w2 g1 g2 g3 g4 g5 g6
      exact hQ env' ι2 H2 a2 w2 g1 g2 g3 g4 g5 g6

theorem evOps_ab (hX : CallsOk X.P X.call) {ops : Array Oper} {K : Env → Heap → Option β} : ∀ (l : List Oper) (env : Env) (H : Heap), evOps X ops l env H K = some r → EnvLt (Bel H.length) env → closedAt H.length H →
    ∃ env' H', K env' H' = some r ∧ EnvLt (Bel H'.length) env' ∧ closedAt H'.length H' ∧ Ab X.lim H H'
  | [], env, H, h, hE, hc => ⟨env, H, h, hE, hc, Ab.refl _ _⟩
  | o :: l, env, H, h, hE, hc => by
    unfold evOps at h
    obtain ⟨t, env1, h, hw⟩ := wantedK_some (nt := X.nt) h
    have hE1 := hw.lt _ hE
    cases t with
    | true =>
      simp only at h
      obtain ⟨v, H', h, hF⟩ := evOp_facts hX h
      obtain ⟨hab, hvl⟩ := opF_ab hF hE1 hc
      obtain ⟨env2, h, hp⟩ := putE_some h
      obtain ⟨env', H2, g1, g2, g3, g4⟩ := evOps_ab hX l env2 H' h (put_lt (hE1.mono (Bel.mono hab.len)) hvl hp) (hab.all hc)
      exact ⟨env', H2, g1, g2, g3, hab.trans g4⟩
    | false =>
      simp only at h
      obtain ⟨env2, h, hp⟩ := putE_some h
      exact evOps_ab hX l env2 H h (put_lt hE1 (undef_lt _) hp) hc

end

end Go.Ev
