/-
  The interpreter is sound: what it gives for a call, the model's call gives, whatever order each region draws and whatever room an append finds.
  Conditions: the program follows the mixed orders (every loaded program does).
-/
import Derived.Test.YtpjlbjkeekobnaaDoorDraw
set_option linter.unusedVariables false
set_option linter.unusedSimpArgs false
namespace Go.Ev

section
variable {X : Cx} {ops : Array Oper} {S : Nat → St} {ι₀ : Io} {w₀ : World} {L : Nat → Prop} {ι : Io} {G : Heap} {m : Nat} {a : Act} {w : World}

theorem last_of {p : Nat → Bool} {N x : Nat} (hx : x ∈ (List.range N).filter p) (hmax : ∀ y ∈ (List.range N).filter p, y ≤ x) : ∃ r, ((List.range N).filter p).reverse = x :: r := by
  have hs : ((List.range N).filter p).Pairwise (· < ·) := List.Pairwise.filter p List.pairwise_lt_range
  generalize (List.range N).filter p = l at hx hmax hs
  cases hl : l.reverse with
  | nil => have : l = [] := List.reverse_eq_nil_iff.1 hl; subst this; simp at hx
  | cons y r =>
    have e : l = r.reverse ++ [y] := by rw [← List.reverse_reverse l, hl]; simp
    subst e
    have hy := hmax y (by simp)
    rcases List.mem_append.1 hx with h1 | h1
    · have := (List.pairwise_append.1 hs).2.2 x h1 y (by simp)
      omega
    · simp at h1; subst h1; exact ⟨r, rfl⟩

theorem Inv.stage_mem (h : Inv X ops S ι₀ w₀ L ι G m a w) {i : Nat} {o : Oper} (hn : Next ops L i o) (hc : clsAt X.P ops i ≠ 3) : m ∈ stagesOf X.P ops i := by
  unfold stagesOf
  simp only [List.mem_cons, List.mem_map]
  have hanc : ∀ e ∈ ((List.range ops.size).filter fun e => Nat.beq (clsAt X.P ops e) 3).filter fun e => bitOf (Region.before ops) i e, e < m := by
    intro e he
    simp only [List.mem_filter, List.mem_range] at he
    obtain ⟨⟨h1, h2⟩, h3⟩ := he
    exact (h.stage e h1 (Nat.eq_of_beq_eq_true h2)).1 (hn.anc e h3)
  rcases h.last with hm | hm
  · subst hm
    left
    cases hrev : (((List.range ops.size).filter fun e => Nat.beq (clsAt X.P ops e) 3).filter fun e => bitOf (Region.before ops) i e).reverse with
    | nil => rfl
    | cons e r =>
      have : e ∈ ((List.range ops.size).filter fun e => Nat.beq (clsAt X.P ops e) 3).filter fun e => bitOf (Region.before ops) i e := by
        rw [← List.mem_reverse, hrev]; simp
      have := hanc e this
      omega
  · by_cases h0 : m = 0
    · subst h0
      left
      cases hrev : (((List.range ops.size).filter fun e => Nat.beq (clsAt X.P ops e) 3).filter fun e => bitOf (Region.before ops) i e).reverse with
      | nil => rfl
      | cons e r =>
        have : e ∈ ((List.range ops.size).filter fun e => Nat.beq (clsAt X.P ops e) 3).filter fun e => bitOf (Region.before ops) i e := by
          rw [← List.mem_reverse, hrev]; simp
        have := hanc e this
        omega
    · have hm1 : m - 1 < ops.size := by have := h.mle; omega
      have hL : L (m - 1) := (h.stage _ hm1 hm).2 (by omega)
      cases hb : bitOf (Region.before ops) i (m - 1) with
      | true =>
        left
        rw [List.filter_filter] at hanc ⊢
        have hmem : (m - 1) ∈ (List.range ops.size).filter fun e => bitOf (Region.before ops) i e && Nat.beq (clsAt X.P ops e) 3 := by
          simp only [List.mem_filter, List.mem_range, Bool.and_eq_true]
          exact ⟨hm1, hb, by rw [hm]; rfl⟩
        obtain ⟨r, hr⟩ := last_of hmem (fun y hy => by have := hanc y hy; omega)
        rw [hr]
        simp only; omega
      | false =>
        right
        refine ⟨m - 1, ?_, by omega⟩
        simp only [List.mem_filter, List.mem_range]
        refine ⟨⟨hm1, by rw [hm]; rfl⟩, ?_⟩
        have hb2 : bitOf (Region.before ops) (m - 1) i = false := by
          cases hq : bitOf (Region.before ops) (m - 1) i with
          | false => rfl
          | true => exact absurd (h.down _ _ hL hq) hn.not
        have hne : Nat.beq (m - 1) i = false := by
          cases hq : Nat.beq (m - 1) i with
          | false => rfl
          | true => exact absurd (Nat.eq_of_beq_eq_true hq ▸ hL) hn.not
        rw [hb, hb2, hne]; rfl

theorem Runs.const (hr : Runs X ops S) {lo : Nat} : ∀ {hi : Nat}, lo ≤ hi → hi ≤ ops.size → (∀ k, lo ≤ k → k < hi → clsAt X.P ops k < 2) → (S hi).H = (S lo).H
  | 0, h1, _, _ => by rw [Nat.le_zero.1 h1]
  | hi + 1, h1, h2, h3 => by
    by_cases e : lo = hi + 1
    · subst e; rfl
    · have ih := hr.const (hi := hi) (by omega) (by omega) fun k h4 h5 => h3 k h4 (by omega)
      have hc := h3 hi (by omega) (by omega)
      rcases hr.quiet (i := hi) (by omega) (by omega) with q | ⟨q, _⟩
      · rw [q, ih]
      · omega

/-- Each read gives the same at every stage at which it may run. -/
def MadeS (X : Cx) (ops : Array Oper) (i : Nat) (o : Oper) (m : Nat) : Prop :=
  ∃ t k ok, rdTmp o.op = some t ∧ m ≤ k ∧ k < i ∧ bitOf (Region.before ops) i k = true ∧ clsAt X.P ops k = 2 ∧ ops[k]? = some ok ∧ ok.guard = none ∧ ok.dst = some t ∧ ∀ j, k < j → j < i → clsAt X.P ops j ≠ 3 ∧ dstAt ops j ≠ some t

def Stab (X : Cx) (ops : Array Oper) (S : Nat → St) : Prop :=
  ∀ i o, ops[i]? = some o → clsAt X.P ops i = 1 → ∀ m ∈ stagesOf X.P ops i, rdOp X.P o.op (S i).env (S m).H = rdOp X.P o.op (S i).env (S i).H ∨ MadeS X ops i o m

theorem Inv.step (h : Inv X ops S ι₀ w₀ L ι G m a w) (hr : Runs X ops S) (hst : Stab X ops S) {i : Nat} {o : Oper} (hn : Next ops L i o) {K : Act → World → Prop} {Q : Exit → Act → World → Prop}
    (hK : ∀ ι' G' m' a' w', Inv X ops S ι₀ w₀ (addL L i) ι' G' m' a' w' → K a' w') : wpOp X.P ops Q i K a w := by
  have hi := op_lt hn.op
  have hs := hr.step i o hn.op
  have hcls := cls_at (P := X.P) hn.op
  have hloc := h.loc hr hn
  have hw : Region.wanted o (yielded ops a.tmps) = (S i).t := hs.guard ι _ a ⟨hloc.size, fun s hs' v hv => hloc.get s (by rw [looksAt_eq]; exact List.mem_append.2 (.inr hs')) v hv⟩
  unfold wpOp
  rw [hn.op]
  simp only
  cases ht : (S i).t with
  | false =>
    rw [if_neg (by rw [hw, ht]; simp)]
    have hv := (hs.no ht).1
    by_cases hc3 : clsAt X.P ops i = 3
    · exact hK _ _ _ _ _ (h.skip3 hr hn hc3 ht (c := undef) fun D => by rw [hv]; exact undef_rel _ _)
    · exact hK _ _ _ _ _ (h.still hr hn hc3 (fun _ => ht) (c := undef) (by rw [hv]; exact undef_rel _ _))
  | true =>
    rw [if_pos (by rw [hw, ht])]
    left
    have hF := hs.yes ht
    have hE := h.env_e hr hn
    unfold OpF at hF
    split at hF
    · rename_i hc
      rw [hc] at hcls
      obtain ⟨c, h1, h2⟩ := hF.2.run ι _ a w hE
      exact wp_value h1 (hK _ _ _ _ _ (h.still hr hn (by omega) (fun e => by omega) h2))
    · rename_i hc
      rw [hc] at hcls
      obtain ⟨_, raw, hF⟩ := hF
      have h2 := hF.rd
      rw [rdOp_restr] at h2
      have h3 : rdOp X.P o.op (S i).env G = some raw := by
        rcases hst i o hn.op hcls m (h.stage_mem hn (by omega)) with h1 | ⟨t, k, ok, ht', hmk, hki, hb, hc2, hok, hgd, hdst, hno⟩
        · rw [h2] at h1
          exact rdOp_ext (G := G) h.old h1
        · have hL := hn.anc k hb
          have hsk := hr.step k ok hok
          have htk : (S k).t = true := by
            have hg0 : guardTmps ops ok = [] := by unfold guardTmps; rw [hgd]
            have hw0 := hsk.guard (fun _ => ⟨0, 0, 0⟩) (fun _ => True) a ⟨h.size, fun s hs' => by rw [hg0] at hs'; simp at hs'⟩
            rw [← hw0]; simp [Region.wanted, hgd]
          have hclk := cls_at (P := X.P) hok
          rw [hc2] at hclk
          have hFk := hsk.yes htk
          unfold OpF at hFk
          rw [← hclk] at hFk
          obtain ⟨vs, mk, hvk, hHk, hAk⟩ := hFk
          have hp := h.pend k hmk (by omega) hL hc2 htk
          obtain ⟨hw1, _⟩ := hr.wrote (q := t) hki (by omega) (by simp [dstAt, hok, hdst]) (fun j h4 h5 => (hno j h4 h5).2)
          rw [hvk] at hw1
          have hw2 : eget (S i).env t = some (mk (S k).H.length) := by rw [hs.same]; exact hw1
          have hk := hr.keep (m := k + 1) (i := i) (by omega) (by omega) (fun j h4 h5 => (hno j (by omega) h5).1) (S k).H.length (by rw [hHk, length_push]; omega)
          rw [rdOp_blk ht' hw2 (hAk.blk _) (hp.trans hk.symm)]; exact h2
      rw [← rdOp_restr] at h3
      obtain ⟨c, g1, g2⟩ := hF.run ι _ a w G h3 h.rel hE
      exact wp_value g1 (hK _ _ _ _ _ (h.still hr hn (by omega) (fun e => by omega) g2))
    · rename_i hc
      rw [hc] at hcls
      obtain ⟨vs, mk, hv, hH, hF⟩ := hF
      obtain ⟨cs, rest, ety, fz, w0, c, h1, h2, e1, e2, e3, e4, h3, h4⟩ := hF.run ι _ a w hE
      exact wp_value h3 (hK _ _ _ _ _ (h.make hr hn hcls ht (ety := ety) hH h1 hF.cells h2 e1 e2 e3 e4 (by rw [hv]; exact h4 _)))
    · rename_i h0 h1 h2
      have hle := cls_le X.P o.op
      have hc : clsAt X.P ops i = 3 := by
        rw [hcls]
        have : clsOf X.P o.op = 0 ∨ clsOf X.P o.op = 1 ∨ clsOf X.P o.op = 2 ∨ clsOf X.P o.op = 3 := by omega
        rcases this with e | e | e | e
        · exact absurd e h0
        · exact absurd e h1
        · exact absurd e h2
        · exact e
      exact hF.run ι a w (h.rel_e hr hn hc) (h.env_e3 hr hn) K Q fun ι' w' c g1 g2 g3 => hK _ _ _ _ _ (h.eff hr hn hc g1 g2 g3)

theorem Inv.done (h : Inv X ops S ι₀ w₀ L ι G m a w) (hr : Runs X ops S) (hall : ∀ i, i < ops.size → L i) :
    Rel ι (Bel (S ops.size).H.length) (S ops.size).H w ∧ ERel ι (Bel (S ops.size).H.length) X.nt (S ops.size).inn a ∧ Fr ι₀ (S 0).H w₀ ι (S ops.size).H w ∧ Ab X.lim (S 0).H (S ops.size).H ∧ a.defers = [] := by
  obtain ⟨hE, hcl, hab⟩ := hr.abs ops.size (Nat.le_refl _)
  have hno : ∀ k, m ≤ k → k < ops.size → clsAt X.P ops k ≠ 3 := by
    intro k h1 h2 h3
    have := (h.stage k h2 h3).1 (hall k h2)
    omega
  have hget : ∀ x, x < (S ops.size).H.length → hget G x = hget (S ops.size).H x := by
    intro x hx
    by_cases hxm : x < (S m).H.length
    · rw [h.old x hxm, hr.keep h.mle (Nat.le_refl _) hno x hxm]
    · obtain ⟨i, g1, g2, g3, g4, g5, g6⟩ := hr.made h.mle (Nat.le_refl _) hno x (by omega) hx
      have := h.pend i g1 g2 (hall i g2) g3 g4
      rw [← g5] at this
      rw [this, g6]
  have hG : ∀ {b : Nat} {k : Blk}, Ev.hget (S ops.size).H b = some k → Ev.hget G b = some k := fun hb => by rw [hget _ (hget_lt hb)]; exact hb
  refine ⟨⟨fun b k hb => ?_, fun b b' k k' h1 h2 => h.rel.inj b b' k k' (hG h1) (hG h2), fun b k hb hr => h.rel.nog b k (hG hb) hr, h.rel.gw⟩, ⟨h.size, fun q v hv => ?_⟩, ⟨by rw [← h.len]; exact h.fr.len, h.fr.io, h.fr.os, h.fr.tape, h.fr.output, h.fr.size, h.fr.frame, fun b k hb hro => h.fr.new b k (hG hb) hro, fun b k hb hro => h.fr.ro b k (hG hb) hro⟩, hab, h.defers⟩
  · exact (h.rel.blk b k (hG hb)).of_block rfl rfl fun i hi c hv => hv.re (hcl b (hget_lt hb) k hb _ (List.getElem_mem hi)) fun _ _ _ => rfl
  · exact (h.env q ops.size (Nat.le_refl _) (fun j hj _ => ⟨fun _ => hj, fun _ => hall j hj⟩) v hv).re (hE q v hv) fun _ _ _ => rfl

def Lof (listed : Array Bool) (j : Nat) : Prop := listed[j]? = some true

theorem count_set : ∀ (l : List Bool) (i : Nat), l[i]? = some false → (l.set i true).count false + 1 = l.count false
  | [], i, h => by simp at h
  | b :: l, 0, h => by simp at h; subst h; simp
  | b :: l, i + 1, h => by
    have := count_set l i (by simpa using h)
    simp only [List.set_cons_succ, List.count_cons]
    omega

theorem mem_ready {listed : Array Bool} {i : Nat} (h : i ∈ Region.ready .any ops listed) : ∃ o, ops[i]? = some o ∧ listed.getD i true = false ∧ ∀ e ∈ o.after.toList, Region.binds .any e = true → listed.getD e.on false = true := by
  unfold Region.ready at h
  simp only [List.mem_filter, List.mem_range, Bool.and_eq_true, Bool.not_eq_true'] at h
  obtain ⟨h1, h2, h3⟩ := h
  obtain ⟨o, ho⟩ := get_op h1
  rw [ho] at h3
  simp only [Option.map_some, Option.getD_some] at h3
  refine ⟨o, ho, h2, fun e he hb => ?_⟩
  have := (Array.all_eq_true'.1 h3) e (by simpa using he)
  rw [hb] at this
  simpa using this

theorem in_ready {listed : Array Bool} {i : Nat} {o : Oper} (ho : ops[i]? = some o) (h2 : listed.getD i true = false) (h3 : ∀ e ∈ o.after.toList, Region.binds .any e = true → listed.getD e.on false = true) : i ∈ Region.ready .any ops listed := by
  unfold Region.ready
  simp only [List.mem_filter, List.mem_range, Bool.and_eq_true, Bool.not_eq_true']
  refine ⟨op_lt ho, h2, ?_⟩
  rw [ho]
  simp only [Option.map_some, Option.getD_some]
  refine Array.all_eq_true'.2 fun e he => ?_
  cases hb : Region.binds .any e with
  | false => simp
  | true => simpa using h3 e (by simpa using he) hb

theorem getD_false {listed : Array Bool} {j : Nat} (h : listed.getD j false = true) : Lof listed j := by
  unfold Lof
  rw [Array.getD_eq_getD_getElem?] at h
  cases hj : listed[j]? with
  | none => rw [hj] at h; simp at h
  | some b => rw [hj] at h; simp at h; rw [h]

theorem all_listed (hr : Runs X ops S) {listed : Array Bool} (hsz : listed.size = ops.size) (hrd : Region.ready .any ops listed = []) : ∀ i, i < ops.size → Lof listed i := by
  intro i
  induction i using Nat.strongRecOn with
  | _ i ih =>
    intro hi
    cases hl : listed[i]? with
    | none => rw [Array.getElem?_eq_getElem (by omega)] at hl; simp at hl
    | some b =>
      cases b with
      | true => exact hl
      | false =>
        obtain ⟨o, ho⟩ := get_op hi
        have : i ∈ Region.ready .any ops listed := in_ready ho (by rw [Array.getD_eq_getD_getElem?, hl]; rfl) (fun e he hb => by
          have hlt := hr.edges ho e he hb
          have := ih e.on hlt (by omega)
          unfold Lof at this
          rw [Array.getD_eq_getD_getElem?, this]; rfl)
        rw [hrd] at this
        simp at this

theorem wpAny_of_inv (hr : Runs X ops S) (hst : Stab X ops S) {Q : Exit → Act → World → Prop}
    (hQ : ∀ ι' a' w', Rel ι' (Bel (S ops.size).H.length) (S ops.size).H w' → ERel ι' (Bel (S ops.size).H.length) X.nt (S ops.size).inn a' → Fr ι₀ (S 0).H w₀ ι' (S ops.size).H w' → Ab X.lim (S 0).H (S ops.size).H → a'.defers = [] → Q .normal a' w') :
    ∀ (fuel : Nat) (listed : Array Bool) (ι : Io) (G : Heap) (m : Nat) (a : Act) (w : World), listed.size = ops.size → listed.toList.count false = fuel → Inv X ops S ι₀ w₀ (Lof listed) ι G m a w → wpAny X.P .any ops Q fuel listed a w := by
  have fin : ∀ (listed : Array Bool) (ι : Io) (G : Heap) (m : Nat) (a : Act) (w : World), listed.size = ops.size → Inv X ops S ι₀ w₀ (Lof listed) ι G m a w → Region.ready .any ops listed = [] → Q .normal a w := by
    intro listed ι G m a w hsz h hrd
    obtain ⟨h1, h2, h3, h4, h5⟩ := h.done hr (all_listed hr hsz hrd)
    exact hQ ι a w h1 h2 h3 h4 h5
  intro fuel
  induction fuel with
  | zero =>
    intro listed ι G m a w hsz hcnt h
    have hrd : Region.ready .any ops listed = [] := by
      cases hrd : Region.ready .any ops listed with
      | nil => rfl
      | cons i r =>
        obtain ⟨o, ho, h2, _⟩ := mem_ready (ops := ops) (listed := listed) (i := i) (by rw [hrd]; simp)
        have hi := op_lt ho
        have : listed[i]? = some false := by
          rw [Array.getD_eq_getD_getElem?, Array.getElem?_eq_getElem (by omega)] at h2
          rw [Array.getElem?_eq_getElem (by omega)]
          simpa using h2
        have hmem : false ∈ listed.toList := by rw [← Array.getElem?_toList] at this; exact List.mem_of_getElem? this
        rw [List.count_eq_zero] at hcnt
        exact absurd hmem hcnt
    exact ⟨hrd, fin listed ι G m a w hsz h hrd⟩
  | succ fuel ih =>
    intro listed ι G m a w hsz hcnt h
    refine ⟨fin listed ι G m a w hsz h, fun i hi => ?_⟩
    obtain ⟨o, ho, h2, h3⟩ := mem_ready hi
    have hilt := op_lt ho
    have hif : listed[i]? = some false := by
      rw [Array.getD_eq_getD_getElem?, Array.getElem?_eq_getElem (by omega)] at h2
      rw [Array.getElem?_eq_getElem (by omega)]
      simpa using h2
    have hn : Next ops (Lof listed) i o := by
      refine ⟨ho, fun hL => ?_, fun k hb => ?_⟩
      · unfold Lof at hL; rw [hif] at hL; simp at hL
      · obtain ⟨o', e, ho', he, hbd, hk⟩ := bit_step hb
        rw [ho] at ho'; simp at ho'; subst ho'
        have hL := getD_false (h3 e he hbd)
        rcases hk with rfl | hk
        · exact hL
        · exact h.down _ _ hL hk
    have hadd : Lof (listed.setIfInBounds i true) = addL (Lof listed) i := by
      funext j
      apply propext
      unfold Lof addL
      rw [Array.getElem?_setIfInBounds]
      by_cases e : i = j
      · subst e; simp [show i < listed.size by omega]
      · rw [if_neg e]
        constructor
        · exact fun h => .inl h
        · rintro (h | h)
          · exact h
          · exact absurd h.symm e
    refine h.step hr hst hn fun ι' G' m' a' w' h' => ih _ ι' G' m' a' w' (by simpa using hsz) ?_ (by rw [hadd]; exact h')
    have := count_set listed.toList i (by rw [Array.getElem?_toList]; exact hif)
    rw [Array.toList_setIfInBounds]
    omega

theorem inv_start (hr : Runs X ops S) (hR : Rel ι₀ (Bel (S 0).H.length) (S 0).H w₀) (hE : ERel ι₀ (Bel (S 0).H.length) X.nt (S 0).inn a) (hd : a.defers = []) :
    Inv X ops S ι₀ w₀ (Lof (Array.replicate ops.size false)) ι₀ ((S 0).H ++ List.replicate ((S ops.size).H.length - (S 0).H.length) none) 0 a w₀ := by
  have hL : ∀ j, ¬ Lof (Array.replicate ops.size false) j := by
    intro j h
    unfold Lof at h
    rw [Array.getElem?_replicate] at h
    split at h <;> simp at h
  have hle := hr.len_le (m := 0) (i := ops.size) (by omega) (Nat.le_refl _)
  have hdom : ∀ x, Bel (S 0).H.length x → Dom X ops S 0 (Lof (Array.replicate ops.size false)) x := fun x hx => .inl hx
  have hget : ∀ {x : Nat} {k : Blk}, Ev.hget ((S 0).H ++ List.replicate ((S ops.size).H.length - (S 0).H.length) none) x = some k → Ev.hget (S 0).H x = some k := by
    intro x k hk
    by_cases hx : x < (S 0).H.length
    · rw [hget_append_left hx] at hk; exact hk
    · unfold Ev.hget at hk
      rw [List.getElem?_append_right (by omega), List.getElem?_replicate] at hk
      split at hk
      · rename_i h1; split at h1 <;> simp at h1
      · simp at hk
  refine ⟨by omega, fun e _ _ => ⟨fun h => absurd h (hL e), fun h => by omega⟩, .inl rfl, fun j i h => absurd h (hL j), fun j h => absurd h (hL j), by simp; omega, fun x hx => hget_append_left hx, fun i _ _ h => absurd h (hL i), fun x h1 h2 _ => ?_,
    ⟨fun b k hk => ((hR.blk b k (hget hk)).of_block rfl rfl fun _ _ _ hv => hv.mono hdom fun _ _ => rfl), fun b b' k k' h1 h2 => hR.inj b b' k k' (hget h1) (hget h2), fun b k hb hr => hR.nog b k (hget hb) hr, hR.gw⟩, ⟨by simp, fun _ _ => rfl, rfl, rfl, rfl, Nat.le_refl _, fun _ _ _ => rfl, fun b k hk hro => .inr ⟨b, k, hget hk, hro, rfl⟩, fun b k hk _ => hget hk⟩,
    hE.size, fun q i hi hcond v hv => ?_, hd⟩
  · rw [List.getElem?_append_right h1, List.getElem?_replicate, if_pos (by omega)]
  · have hno : ∀ j, 0 ≤ j → j < i → dstAt ops j ≠ some q := fun j _ hj hd' => hL j ((hcond j (by omega) hd').2 hj)
    rw [hr.look (by omega) hi hno] at hv
    exact (hE.get q v hv).mono hdom fun _ _ => rfl

end

section
variable {X : Cx}

theorem evOpsT_ab (hX : CallsOk X.P X.call) {β : Type} {r : β} {ops : Array Oper} {K : List (Env × Heap) → Env → Heap → Option β} : ∀ (l : List Oper) (env : Env) (H : Heap) (tr : List (Env × Heap)), evOpsT X ops l env H tr K = some r → EnvLt (Bel H.length) env → closedAt H.length H →
    ∃ tr' env' H', K tr' env' H' = some r ∧ EnvLt (Bel H'.length) env' ∧ closedAt H'.length H' ∧ Ab X.lim H H'
  | [], env, H, tr, h, hE, hc => ⟨_, env, H, h, hE, hc, Ab.refl _ _⟩
  | o :: l, env, H, tr, h, hE, hc => by
    unfold evOpsT at h
    obtain ⟨t, env1, h, hw⟩ := wantedK_some (nt := X.nt) h
    have hE1 := hw.lt _ hE
    cases t with
    | true =>
      simp only at h
      obtain ⟨v, H', h, hF⟩ := evOp_facts hX h
      obtain ⟨hab, hvl⟩ := opF_ab hF hE1 hc
      obtain ⟨env2, h, hp⟩ := putE_some h
      obtain ⟨tr', env', H2, g1, g2, g3, g4⟩ := evOpsT_ab hX l env2 H' _ h (put_lt (hE1.mono (Bel.mono hab.len)) hvl hp) (hab.all hc)
      exact ⟨tr', env', H2, g1, g2, g3, hab.trans g4⟩
    | false =>
      simp only at h
      obtain ⟨env2, h, hp⟩ := putE_some h
      exact evOpsT_ab hX l env2 H _ h (put_lt hE1 (undef_lt _) hp) hc

theorem drawAb (hX : CallsOk X.P X.call) : DrawAb X := by
  intro β ops env H K r h hE hc
  unfold evDraw at h
  split at h
  · obtain ⟨tr', env', H', h1, h2, h3, h4⟩ := evOpsT_ab hX _ _ _ _ h hE hc
    exact ⟨env', H', (stable_some h1).1, h2, h3, h4⟩
  · simp at h

theorem drawWp (hX : CallsOk X.P X.call) (hm : X.P.follows .mixedOrders = true) : DrawWp X := by
  intro β id ops env H K r h ι a w hR hE hd Q hQ
  unfold evDraw at h
  split at h
  · rename_i hok
    obtain ⟨S, g1, g2, g3, g4, g5⟩ := evOpsT_chain hX _ _ _ _ h
    obtain ⟨g6, g7⟩ := stable_some g5
    have hN : ops.toList.length = ops.size := by simp
    rw [hN] at g3 g6 g7
    have hr : Runs X ops S := ⟨fun k o hk => g4 k o (by rw [Array.getElem?_toList]; exact hk), hok, by rw [g1, g2]; exact hE.lt, by rw [g2]; exact hR.closed⟩
    have hsts : ∀ k, k ≤ ops.size → ((((List.range (ops.size + 1)).map fun k => ((S k).env, (S k).H)).reverse ++ []).reverse)[k]? = some ((S k).env, (S k).H) := by
      intro k hk
      simp only [List.append_nil, List.reverse_reverse, List.getElem?_map]
      rw [List.getElem?_range (by omega)]; rfl
    have hst : Stab X ops S := by
      intro i o ho hc m hm'
      have hi := op_lt ho
      have hmle : m ≤ ops.size := by
        unfold stagesOf at hm'
        simp only [List.mem_cons, List.mem_map] at hm'
        rcases hm' with e | ⟨e, he, rfl⟩
        · split at e
          · rename_i e' r hrev
            have : e' ∈ (((List.range ops.size).filter fun e => Nat.beq (clsAt X.P ops e) 3).filter fun e => bitOf (Region.before ops) i e) := by
              rw [← List.mem_reverse, hrev]; simp
            simp only [List.mem_filter, List.mem_range] at this
            omega
          · omega
        · simp only [List.mem_filter, List.mem_range] at he
          omega
      rcases g7 i (by simp; exact hi) hc o ho m hm' with hq | ⟨s, q, hs, hq, hrd⟩
      · rcases Bool.or_eq_true_iff.1 hq with hq | hq
        rotate_left
        · right
          unfold madeHere at hq
          split at hq
          · rename_i t ht
            simp only [List.any_eq_true, List.mem_range, Bool.and_eq_true, List.all_eq_true, Bool.or_eq_true, Bool.not_eq_true'] at hq
            obtain ⟨k, hki, ⟨⟨⟨h1, h2⟩, h3⟩, h4⟩, h6⟩ := hq
            cases hok : ops[k]? with
            | none => rw [hok] at h4; simp at h4
            | some ok =>
              rw [hok] at h4
              simp only [Bool.and_eq_true, Option.isNone_iff_eq_none] at h4
              obtain ⟨h4, h5⟩ := h4
              cases hd : ok.dst with
              | none => rw [hd] at h5; simp at h5
              | some d =>
                rw [hd] at h5
                have h5 := Nat.eq_of_beq_eq_true h5
                refine ⟨t, k, ok, ht, Nat.le_of_ble_eq_true h1, hki, h2, Nat.eq_of_beq_eq_true h3, hok, h4, by rw [hd, h5], fun j hj1 hj2 => ?_⟩
                rcases h6 j hj2 with h7 | ⟨h7, h8⟩
                · have := Nat.le_of_ble_eq_true h7; omega
                · refine ⟨fun hj3 => ?_, fun hj3 => ?_⟩
                  · rw [hj3] at h7; simp at h7
                  · unfold dstAt at hj3; rw [hj3] at h8; simp at h8
          · simp at hq
        left
        have hquiet : ∀ k, min m i ≤ k → k < max m i → clsAt X.P ops k < 2 := by
          intro k h1 h2
          by_cases hk : k < ops.size
          · unfold quietBetween at hq
            simp only [List.all_eq_true, List.mem_range] at hq
            have := hq k hk
            have e1 : Nat.ble (min m i) k = true := Nat.ble_eq_true_of_le h1
            have e2 : Nat.blt k (max m i) = true := by simp [Nat.blt]; omega
            rw [e1, e2] at this
            simp only [Bool.and_self, Bool.not_true, Bool.false_or] at this
            have h3 : clsAt X.P ops k + 1 ≤ 2 := by simpa [Nat.blt] using this
            omega
          · rw [cls_none hk]; omega
        have hH : (S m).H = (S i).H := by
          rcases Nat.le_total m i with hle | hle
          · exact (hr.const (lo := m) (hi := i) hle (by omega) (fun k h1 h2 => hquiet k (by omega) (by omega))).symm
          · exact hr.const (lo := i) (hi := m) hle hmle (fun k h1 h2 => hquiet k (by omega) (by omega))
        rw [hH]
      · rw [hsts i (by omega)] at hs
        rw [hsts m hmle] at hq
        simp at hs hq
        subst hs; subst hq
        exact .inl hrd
    refine wp_region_any hm ?_
    have hR' : Rel ι (Bel (S 0).H.length) (S 0).H { w with drawn := w.drawn + 1 } := by rw [g2]; exact hR.same_heap rfl
    have hE' : ERel ι (Bel (S 0).H.length) X.nt (S 0).inn a := by rw [g1, g2]; exact hE
    have hstart := inv_start hr hR' hE' hd
    refine wpAny_of_inv hr hst (Q := Q) ?_ ops.size _ _ _ _ _ _ (by simp) (by simp) hstart
    intro ι' a' w' h1 h2 h3 h4 h5
    refine hQ (S ops.size).inn ι' (S ops.size).H a' w' h1 h2 ?_ (by rw [← g2]; exact h4) h5 g6
    rw [g2] at h3
    exact ((Fr.refl ι H w).same_heap (w'' := { w with drawn := w.drawn + 1 }) rfl rfl rfl rfl).trans h3
  · simp at h

end

/-- SOUNDNESS. -/
theorem run_sound {P : Program} {A : Ann} (hm : P.follows .mixedOrders = true) (hA : ExtOk P A) (d : Nat) : CallsOk P (run P A d) :=
  run_ok hA (fun X hP hc => ⟨drawWp (by rw [hP]; exact hc) (by rw [hP]; exact hm), drawAb (by rw [hP]; exact hc)⟩) d

end Go.Ev
