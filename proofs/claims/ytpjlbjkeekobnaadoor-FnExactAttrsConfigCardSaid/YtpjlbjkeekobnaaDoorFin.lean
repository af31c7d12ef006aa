/-
  The end of a call: its results, and the blocks that stay.
  Conditions: none.
-/
import Derived.Test.YtpjlbjkeekobnaaDoorCode
set_option linter.unusedVariables false
set_option linter.unusedSimpArgs false
namespace Go.Ev

section
variable {P : Program} {nt : Nat} {env : Env} {H : Heap}

theorem evRes_run {ι : Io} {D : Nat → Prop} {a : Act} {w : World} (hR : Rel ι D H w) (hE : ERel ι D nt env a) : ∀ {l : List ResultVar} {vs : List Value}, evRes P env H l = some vs →
    ∃ cs : List Value, LRel ι D vs cs ∧ (l.mapM fun (x : ResultVar) => (match x with | .tmp t => pure (a.tmps.getD t undef) | .cell b t => do loadVar t (← asAddr (a.tmps.getD b undef)) : Sem Value)).run P w = .ok cs w
  | [], vs, h => by simp [evRes] at h; subst h; exact ⟨[], LRel.nil _ _, by simp⟩
  | .tmp t :: l, vs, h => by
    simp only [evRes] at h
    replace h := obind_some h; obtain ⟨v, hv, h⟩ := h
    replace h := obind_some h; obtain ⟨r, hr, h⟩ := h
    simp at h; subst h
    obtain ⟨cs, h1, h2⟩ := evRes_run hR hE hr
    refine ⟨_, LRel.cons (hE.get t v hv) h1, ?_⟩
    simp only [List.mapM_cons, Sem.run_bind, Sem.run_pure, Result.andThen_ok, h2]
  | .cell b t :: l, vs, h => by
    simp only [evRes] at h
    replace h := obind_some h; obtain ⟨v, hv, h⟩ := h
    split at h
    · rename_i p
      have hp := (hE.get b _ hv).inv_ptr.1
      have hasA : (asAddr (a.tmps.getD b undef)).run P w = .ok (ι.addr p) w := by rw [hp]; rfl
      replace h := obind_some h; obtain ⟨i, hi, h⟩ := h
      have key : ∀ (u : Value) (c : Value) (r : List Value), evRes P env H l = some r → vs = u :: r → VRel ι D u c → (loadVar t (ι.addr p)).run P w = .ok c w → ∃ cs : List Value, LRel ι D vs cs ∧
          ((ResultVar.cell b t :: l).mapM fun (x : ResultVar) => (match x with | .tmp t => pure (a.tmps.getD t undef) | .cell b t => do loadVar t (← asAddr (a.tmps.getD b undef)) : Sem Value)).run P w = .ok cs w := by
        intro u c r hr e hu hl
        subst e
        obtain ⟨cs, h1, h2⟩ := evRes_run hR hE hr
        refine ⟨c :: cs, LRel.cons hu h1, ?_⟩
        simp only [List.mapM_cons, Sem.run_bind, Sem.run_pure, Result.andThen_ok, hasA, hl, h2]
      have hagg : ∀ (d : TypeDesc) (l' r : List Value), P.underlying t = some d → ((∃ fs, d = .struct fs) ∨ ∃ n e, d = .array n e) → hloadN H p i.size = some l' → evRes P env H l = some r → vs = .agg l'.toArray :: r → ∃ cs : List Value, LRel ι D vs cs ∧
          ((ResultVar.cell b t :: l).mapM fun (x : ResultVar) => (match x with | .tmp t => pure (a.tmps.getD t undef) | .cell b t => do loadVar t (← asAddr (a.tmps.getD b undef)) : Sem Value)).run P w = .ok cs w := by
        intro d l' r hu hd hl hr e
        obtain ⟨cs, h1, h2, h3, h4⟩ := hR.loadN hl
        have hrun := run_loadCells_list (P := P) w (ι.addr p) cs h3
        rw [h1] at hrun
        have ha : (isAgg t).run P w = .ok true w := by
          rcases hd with ⟨fs, rfl⟩ | ⟨n, e, rfl⟩ <;> simp [isAgg, run_underlying hu]
        exact key _ (.agg cs.toArray) r hr e (LRel.mkAgg h2) (by simp only [loadVar, Sem.run_bind, ha, Result.andThen_ok, if_true, sizeOf, typeInfo, run_program, hi, Sem.run_pure, hrun])
      split at h
      · rename_i fs hu
        replace h := obind_some h; obtain ⟨l', hl, h⟩ := h
        replace h := obind_some h; obtain ⟨r, hr, h⟩ := h
        simp at h
        exact hagg _ l' r hu (.inl ⟨_, rfl⟩) hl hr h.symm
      · rename_i n e hu
        replace h := obind_some h; obtain ⟨l', hl, h⟩ := h
        replace h := obind_some h; obtain ⟨r, hr, h⟩ := h
        simp at h
        exact hagg _ l' r hu (.inr ⟨_, _, rfl⟩) hl hr h.symm
      · rename_i d n1 n2 hu
        replace h := obind_some h; obtain ⟨u, hl, h⟩ := h
        replace h := obind_some h; obtain ⟨r, hr, h⟩ := h
        simp at h
        obtain ⟨c, h1, h2, h3⟩ := hR.load hl
        have ha : (isAgg t).run P w = .ok false w := by
          simp only [isAgg, Sem.run_bind, run_underlying hu, Result.andThen_ok]
          cases d <;> first | rfl | exact absurd rfl (n1 _) | exact absurd rfl (n2 _ _)
        exact key u c r hr h.symm h2 (by simp only [loadVar, Sem.run_bind, ha, Result.andThen_ok, Bool.false_eq_true, if_false, run_load, h1])
      · simp at h
    · simp at h

theorem evRes_lt : ∀ {l : List ResultVar} {vs : List Value}, evRes P env H l = some vs → EnvLt (Bel H.length) env → closedAt H.length H → LLt (Bel H.length) vs
  | [], vs, h, _, _ => by simp [evRes] at h; subst h; intro v hv; simp at hv
  | .tmp t :: l, vs, h, hE, hc => by
    simp only [evRes] at h
    replace h := obind_some h; obtain ⟨v, hv, h⟩ := h
    replace h := obind_some h; obtain ⟨r, hr, h⟩ := h
    simp at h; subst h
    intro u hu
    rcases List.mem_cons.1 hu with rfl | hu
    · exact hE t _ hv
    · exact evRes_lt hr hE hc u hu
  | .cell b t :: l, vs, h, hE, hc => by
    simp only [evRes] at h
    replace h := obind_some h; obtain ⟨v, hv, h⟩ := h
    split at h
    · rename_i p
      replace h := obind_some h; obtain ⟨i, hi, h⟩ := h
      split at h
      · replace h := obind_some h; obtain ⟨l', hl, h⟩ := h
        replace h := obind_some h; obtain ⟨r, hr, h⟩ := h
        simp at h; subst h
        intro u hu
        rcases List.mem_cons.1 hu with rfl | hu
        · exact VLt.mkAgg (hloadN_lt hl hc)
        · exact evRes_lt hr hE hc u hu
      · replace h := obind_some h; obtain ⟨l', hl, h⟩ := h
        replace h := obind_some h; obtain ⟨r, hr, h⟩ := h
        simp at h; subst h
        intro u hu
        rcases List.mem_cons.1 hu with rfl | hu
        · exact VLt.mkAgg (hloadN_lt hl hc)
        · exact evRes_lt hr hE hc u hu
      · replace h := obind_some h; obtain ⟨l', hl, h⟩ := h
        replace h := obind_some h; obtain ⟨r, hr, h⟩ := h
        simp at h; subst h
        intro u hu
        rcases List.mem_cons.1 hu with rfl | hu
        · exact hload_lt hl hc
        · exact evRes_lt hr hE hc u hu
      · simp at h
    · simp at h

theorem posOf_some : ∀ {l : List Nat} {b j : Nat}, posOf l b = some j → l[j]? = some b
  | [], b, j, h => by simp [posOf] at h
  | x :: l, b, j, h => by
    unfold posOf at h
    split at h
    · rename_i e; simp at h; subst h; simp [e]
    · replace h := obind_some h; obtain ⟨i, hi, h⟩ := h
      simp at h; subst h
      simpa using posOf_some hi

theorem posOf_none : ∀ {l : List Nat} {b : Nat}, posOf l b = none → b ∉ l
  | [], b, h => by simp
  | x :: l, b, h => by
    unfold posOf at h
    split at h
    · simp at h
    · rename_i e
      cases hp : posOf l b with
      | some i => rw [hp] at h; simp [obind] at h
      | none =>
        have := posOf_none hp
        simp only [List.mem_cons, not_or]
        exact ⟨fun h => e h.symm, this⟩

/-- The blocks that move: from the base on, alive, each once, without addresses from the base on. -/
structure MvOk (base : Nat) (H : Heap) (olds : List Nat) : Prop where
  nodup : olds.Nodup
  blk : ∀ b ∈ olds, base ≤ b ∧ ∃ k, hget H b = some k ∧ k.cells.all (leafLt base) = true

def Io.mv (ι : Io) (base : Nat) (olds : List Nat) : Io := fun x => if x < base then ι x else match olds[x - base]? with | some b => ι b | none => ι x

theorem Io.mv_lt (ι : Io) {base x : Nat} (olds : List Nat) (h : x < base) : ι.mv base olds x = ι x := by simp [Io.mv, h]
theorem Io.mv_at (ι : Io) {base j b : Nat} {olds : List Nat} (h : olds[j]? = some b) : ι.mv base olds (base + j) = ι b := by
  simp only [Io.mv, show ¬ (base + j < base) by omega, if_false, show base + j - base = j by omega, h]

theorem mvBlock_ok {base : Nat} {olds olds' : List Nat} {b x : Nat} (h : mvBlock base H olds b = some (x, olds')) (ho : MvOk base H olds) :
    MvOk base H olds' ∧ olds <+: olds' ∧ ∀ (ι : Io) (fin : List Nat), olds' <+: fin → ι.mv base fin x = ι b ∧ x < base + fin.length := by
  unfold mvBlock at h
  split at h
  · rename_i hb
    simp at h; obtain ⟨rfl, rfl⟩ := h
    exact ⟨ho, List.prefix_refl _, fun ι fin _ => ⟨Io.mv_lt ι fin hb, by omega⟩⟩
  · rename_i hb
    split at h
    · rename_i j hj
      simp at h; obtain ⟨rfl, rfl⟩ := h
      refine ⟨ho, List.prefix_refl _, fun ι fin hp => ?_⟩
      have hj' := posOf_some hj
      obtain ⟨t, rfl⟩ := hp
      have hlt : j < olds.length := (List.getElem?_eq_some_iff.1 hj').1
      refine ⟨Io.mv_at ι (by rw [List.getElem?_append_left hlt]; exact hj'), by simp; omega⟩
    · rename_i hj
      replace h := obind_some h; obtain ⟨k, hk, h⟩ := h
      split at h
      · rename_i hl
        simp at h; obtain ⟨rfl, rfl⟩ := h
        refine ⟨⟨?_, ?_⟩, List.prefix_append _ _, fun ι fin hp => ?_⟩
        · rw [List.nodup_append]
          refine ⟨ho.nodup, by simp, ?_⟩
          intro y hy z hz
          simp at hz; subst hz
          exact fun e => posOf_none hj (e ▸ hy)
        · intro y hy
          rcases List.mem_append.1 hy with hy | hy
          · exact ho.blk y hy
          · simp at hy; subst hy; exact ⟨by omega, k, hk, hl⟩
        · obtain ⟨t, rfl⟩ := hp
          exact ⟨Io.mv_at ι (by simp), by simp⟩
      · simp at h

theorem leaf_any {v c : Value} (hl : leafOk v = true) {ι : Io} {D : Nat → Prop} (hv : VRel ι D v c) (ι' : Io) (E : Nat → Prop) : VRel ι' E v c :=
  VRel.mono (ι := ι') (D := fun _ => False) (hv.re (leafOk_lt hl _) fun _ _ h => h.elim) (fun _ h => h.elim) (fun _ h => h.elim)

/-- A moved value. -/
structure MvV (base : Nat) (H : Heap) (olds olds' : List Nat) (v v' : Value) : Prop where
  ok : MvOk base H olds'
  pre : olds <+: olds'
  rel : ∀ (ι : Io) (D : Nat → Prop) (fin : List Nat) (c : Value), olds' <+: fin → VRel ι D v c → VRel (ι.mv base fin) (Bel (base + fin.length)) v' c

theorem mvLeaf_ok {base : Nat} {olds olds' : List Nat} {v v' : Value} (h : mvLeaf base H olds v = some (v', olds')) (ho : MvOk base H olds) : MvV base H olds olds' v v' := by
  unfold mvLeaf at h
  split at h
  · rename_i a
    replace h := obind_some h; obtain ⟨⟨x, o'⟩, hb, h⟩ := h
    simp at h; obtain ⟨rfl, rfl⟩ := h
    obtain ⟨h1, h2, h3⟩ := mvBlock_ok hb ho
    refine ⟨h1, h2, fun ι D fin c hp hv => ?_⟩
    obtain ⟨e, hD⟩ := hv.inv_ptr
    obtain ⟨g1, g2⟩ := h3 ι fin hp
    have := VRel.ptr (ι := ι.mv base fin) (D := Bel (base + fin.length)) ⟨x, a.off, none⟩ g2
    rw [e]
    simp only [Io.addr] at this ⊢
    rw [g1] at this
    exact this
  · rename_i a n c
    replace h := obind_some h; obtain ⟨⟨x, o'⟩, hb, h⟩ := h
    simp at h; obtain ⟨rfl, rfl⟩ := h
    obtain ⟨h1, h2, h3⟩ := mvBlock_ok hb ho
    refine ⟨h1, h2, fun ι D fin c hp hv => ?_⟩
    obtain ⟨g1, g2⟩ := h3 ι fin hp
    cases hv with
    | slGo _ _ _ cap hD hl hc =>
      have := VRel.slGo (ι := ι.mv base fin) (D := Bel (base + fin.length)) ⟨x, a.off, none⟩ n _ cap g2 hl (by simp only [g1]; exact hc)
      simp only [Io.addr] at this ⊢
      rw [g1] at this
      exact this
    | slEmpty _ b _ hD => exact .slEmpty _ _ _ g2
  · split at h
    · rename_i hl
      simp at h; obtain ⟨rfl, rfl⟩ := h
      exact ⟨ho, List.prefix_refl _, fun ι D fin c hp hv => leaf_any hl hv _ _⟩
    · simp at h

/-- Moved values. -/
structure MvL (base : Nat) (H : Heap) (olds olds' : List Nat) (vs vs' : List Value) : Prop where
  ok : MvOk base H olds'
  pre : olds <+: olds'
  rel : ∀ (ι : Io) (D : Nat → Prop) (fin : List Nat) (cs : List Value), olds' <+: fin → LRel ι D vs cs → LRel (ι.mv base fin) (Bel (base + fin.length)) vs' cs

theorem MvL.nil {base : Nat} {olds : List Nat} (ho : MvOk base H olds) : MvL base H olds olds [] [] :=
  ⟨ho, List.prefix_refl _, fun ι D fin cs _ h => by
    have : cs = [] := List.length_eq_zero_iff.1 (by have := h.1; simpa using this.symm)
    subst this; exact LRel.nil _ _⟩

theorem MvL.cons {base : Nat} {o1 o2 o3 : List Nat} {v v' : Value} {vs vs' : List Value} (h : MvV base H o1 o2 v v') (g : MvL base H o2 o3 vs vs') : MvL base H o1 o3 (v :: vs) (v' :: vs') :=
  ⟨g.ok, h.pre.trans g.pre, fun ι D fin cs hp hl => by
    cases cs with
    | nil => exact absurd hl.1 (by simp)
    | cons c cs => exact LRel.cons (h.rel ι D fin c (g.pre.trans hp) hl.head) (g.rel ι D fin cs hp hl.tail)⟩

theorem mvLeaves_ok {base : Nat} : ∀ {vs vs' : List Value} {olds olds' : List Nat}, mvLeaves base H olds vs = some (vs', olds') → MvOk base H olds → MvL base H olds olds' vs vs'
  | [], vs', olds, olds', h, ho => by simp [mvLeaves] at h; obtain ⟨rfl, rfl⟩ := h; exact MvL.nil ho
  | v :: vs, vs', olds, olds', h, ho => by
    simp only [mvLeaves] at h
    replace h := obind_some h; obtain ⟨⟨x, o1⟩, h1, h⟩ := h
    replace h := obind_some h; obtain ⟨⟨y, o2⟩, h2, h⟩ := h
    simp at h; obtain ⟨rfl, rfl⟩ := h
    have g1 := mvLeaf_ok h1 ho
    exact MvL.cons g1 (mvLeaves_ok h2 g1.ok)

theorem mvAgg_ok {base : Nat} {olds olds' : List Nat} {v v' : Value} (h : mvAgg base H olds v = some (v', olds')) (ho : MvOk base H olds) : MvV base H olds olds' v v' := by
  unfold mvAgg at h
  split at h
  · rename_i cs
    replace h := obind_some h; obtain ⟨⟨x, o1⟩, h1, h⟩ := h
    simp at h; obtain ⟨rfl, rfl⟩ := h
    have g := mvLeaves_ok h1 ho
    refine ⟨g.ok, g.pre, fun ι D fin c hp hv => ?_⟩
    obtain ⟨ys, rfl, hl⟩ := hv.inv_agg
    exact LRel.mkAgg (xs := x.toArray) (g.rel ι D fin _ hp hl)
  · exact mvLeaf_ok h ho

theorem mvAggs_ok {base : Nat} : ∀ {vs vs' : List Value} {olds olds' : List Nat}, mvAggs base H olds vs = some (vs', olds') → MvOk base H olds → MvL base H olds olds' vs vs'
  | [], vs', olds, olds', h, ho => by simp [mvAggs] at h; obtain ⟨rfl, rfl⟩ := h; exact MvL.nil ho
  | v :: vs, vs', olds, olds', h, ho => by
    simp only [mvAggs] at h
    replace h := obind_some h; obtain ⟨⟨x, o1⟩, h1, h⟩ := h
    replace h := obind_some h; obtain ⟨⟨y, o2⟩, h2, h⟩ := h
    simp at h; obtain ⟨rfl, rfl⟩ := h
    have g1 := mvAgg_ok h1 ho
    exact MvL.cons g1 (mvAggs_ok h2 g1.ok)

theorem hget_moved {base : Nat} {olds : List Nat} (hb : base ≤ H.length) {x : Nat} {k : Blk} (h : hget (H.take base ++ olds.map (hget H)) x = some k) :
    (x < base ∧ hget H x = some k) ∨ ∃ j b, x = base + j ∧ olds[j]? = some b ∧ hget H b = some k := by
  have hlen : (H.take base).length = base := by simp; omega
  by_cases hx : x < base
  · rw [hget_append_left (by omega), hget_take hx] at h; exact .inl ⟨hx, h⟩
  · right
    unfold hget at h
    rw [List.getElem?_append_right (by omega), hlen, List.getElem?_map] at h
    cases ho : olds[x - base]? with
    | none => rw [ho] at h; simp at h
    | some b =>
      rw [ho] at h
      simp only [Option.map_some] at h
      refine ⟨x - base, b, by omega, ho, ?_⟩
      split at h
      · rename_i k' he
        simp at h he; subst h; exact he
      · simp at h

/-- The state behind a call that lets its own blocks go. -/
theorem finish_rel {ι₀ ι : Io} {H₀ : Heap} {w₀ w : World} {vs vs' cs : List Value} {olds : List Nat} (hR : Rel ι (Bel H.length) H w) (hF : Fr ι₀ H₀ w₀ ι H w) (hcl : closedAt H₀.length H) (hm : mvAggs H₀.length H [] vs = some (vs', olds)) (hl : LRel ι (Bel H.length) vs cs) :
    Rel (ι.mv H₀.length olds) (Bel (H.take H₀.length ++ olds.map (hget H)).length) (H.take H₀.length ++ olds.map (hget H)) w ∧ Fr ι₀ H₀ w₀ (ι.mv H₀.length olds) (H.take H₀.length ++ olds.map (hget H)) w ∧
    LRel (ι.mv H₀.length olds) (Bel (H.take H₀.length ++ olds.map (hget H)).length) vs' cs := by
  have hok := mvAggs_ok hm ⟨List.nodup_nil, by simp⟩
  have hlen : (H.take H₀.length ++ olds.map (hget H)).length = H₀.length + olds.length := by simp; have := hF.len; omega
  have hcells : ∀ {b : Nat} {k : Blk}, hget H b = some k → (b < H₀.length ∨ b ∈ olds) → ∀ v ∈ k.cells, VLt (Bel H₀.length) v := by
    intro b k hk hb v hv
    rcases hb with hb | hb
    · exact hcl b hb k hk v hv
    · obtain ⟨_, k', hk', hall⟩ := hok.ok.blk b hb
      rw [hk] at hk'; simp at hk'; subst hk'
      exact leafLt_lt (List.all_eq_true.1 hall v hv)
  have hup : ∀ {v c : Value}, VLt (Bel H₀.length) v → VRel ι (Bel H.length) v c → VRel (ι.mv H₀.length olds) (Bel (H₀.length + olds.length)) v c := by
    intro v c hv hr
    exact VRel.mono (hr.re (ι' := ι) hv fun _ _ _ => rfl) (Bel.mono (by omega)) fun b hb => Io.mv_lt ι olds hb
  rw [hlen]
  refine ⟨⟨fun x k hx => ?_, fun x x' k k' hx hx' hne hro => ?_, fun x k hx hr => (by
    rcases hget_moved hF.len hx with ⟨h1, h2⟩ | ⟨j, b, rfl, h1, h2⟩
    · rw [Io.mv_lt ι olds h1]; exact hR.nog x k h2 hr
    · rw [Io.mv_at ι h1]; exact hR.nog b k h2 hr), hR.gw⟩, ⟨by rw [hlen]; omega, fun b hb => by rw [Io.mv_lt ι olds hb]; exact hF.io b hb, hF.os, hF.tape, hF.output, hF.size, hF.frame, fun x k hx hr => ?_, fun x k hx hr => ?_⟩, hok.rel ι _ olds cs (List.prefix_refl _) hl⟩
  · rcases hget_moved hF.len hx with ⟨h1, h2⟩ | ⟨j, b, rfl, h1, h2⟩
    · exact (hR.blk x k h2).of_block rfl (Io.mv_lt ι olds h1) fun i hi c hr => hup (hcells h2 (.inl h1) _ (List.getElem_mem hi)) hr
    · exact (hR.blk b k h2).of_block rfl (Io.mv_at ι h1) fun i hi c hr => hup (hcells h2 (.inr (List.mem_of_getElem? h1)) _ (List.getElem_mem hi)) hr
  · rcases hget_moved hF.len hx with ⟨h1, h2⟩ | ⟨j, b, rfl, h1, h2⟩
    · rcases hget_moved hF.len hx' with ⟨g1, g2⟩ | ⟨j', b', rfl, g1, g2⟩
      · rw [Io.mv_lt ι olds h1, Io.mv_lt ι olds g1]; exact hR.inj x x' k k' h2 g2 hne hro
      · rw [Io.mv_lt ι olds h1, Io.mv_at ι g1]
        have := (hok.ok.blk b' (List.mem_of_getElem? g1)).1
        exact hR.inj x b' k k' h2 g2 (by omega) hro
    · rcases hget_moved hF.len hx' with ⟨g1, g2⟩ | ⟨j', b', rfl, g1, g2⟩
      · rw [Io.mv_at ι h1, Io.mv_lt ι olds g1]
        have := (hok.ok.blk b (List.mem_of_getElem? h1)).1
        exact hR.inj b x' k k' h2 g2 (by omega) hro
      · rw [Io.mv_at ι h1, Io.mv_at ι g1]
        refine hR.inj b b' k k' h2 g2 (fun e => hne ?_) hro
        subst e
        have hj := (List.getElem?_eq_some_iff.1 h1)
        have hj' := (List.getElem?_eq_some_iff.1 g1)
        obtain ⟨q1, q2⟩ := hj
        obtain ⟨q3, q4⟩ := hj'
        have hnd := List.pairwise_iff_getElem.1 hok.ok.nodup
        rcases Nat.lt_trichotomy j j' with hl | hl | hl
        · exact absurd (q2.trans q4.symm) (hnd j j' q1 q3 hl)
        · omega
        · exact absurd (q4.trans q2.symm) (hnd j' j q3 q1 hl)
  · rcases hget_moved hF.len hx with ⟨h1, h2⟩ | ⟨j, b, rfl, h1, h2⟩
    · rw [Io.mv_lt ι olds h1]; exact hF.new x k h2 hr
    · rw [Io.mv_at ι h1]; exact hF.new b k h2 hr
  · rcases hget_moved hF.len hx with ⟨h1, h2⟩ | ⟨j, b, rfl, h1, h2⟩
    · exact hF.ro x k h2 hr
    · have := hget_lt (hF.ro b k h2 hr)
      have := (hok.ok.blk b (List.mem_of_getElem? h1)).1
      omega

/-- Moved values name blocks that stay. -/
theorem mvBlock_lt {base : Nat} {olds olds' : List Nat} {b x : Nat} (h : mvBlock base H olds b = some (x, olds')) : olds <+: olds' ∧ ∀ fin : List Nat, olds' <+: fin → x < base + fin.length := by
  unfold mvBlock at h
  split at h
  · simp at h; obtain ⟨rfl, rfl⟩ := h; exact ⟨List.prefix_refl _, fun fin _ => by omega⟩
  · split at h
    · rename_i j hj
      simp at h; obtain ⟨rfl, rfl⟩ := h
      refine ⟨List.prefix_refl _, fun fin hp => ?_⟩
      have hlt := (List.getElem?_eq_some_iff.1 (posOf_some hj)).1
      have := hp.length_le
      omega
    · replace h := obind_some h; obtain ⟨k, hk, h⟩ := h
      split at h
      · simp at h; obtain ⟨rfl, rfl⟩ := h
        refine ⟨List.prefix_append _ _, fun fin hp => ?_⟩
        have := hp.length_le
        simp at this; omega
      · simp at h

theorem mvLeaf_lt {base : Nat} {olds olds' : List Nat} {v v' : Value} (h : mvLeaf base H olds v = some (v', olds')) : olds <+: olds' ∧ ∀ fin : List Nat, olds' <+: fin → VLt (Bel (base + fin.length)) v' := by
  unfold mvLeaf at h
  split at h
  · replace h := obind_some h; obtain ⟨⟨x, o'⟩, hb, h⟩ := h
    simp at h; obtain ⟨rfl, rfl⟩ := h
    obtain ⟨g1, g2⟩ := mvBlock_lt hb
    exact ⟨g1, fun fin hp => .ptr _ (g2 fin hp)⟩
  · replace h := obind_some h; obtain ⟨⟨x, o'⟩, hb, h⟩ := h
    simp at h; obtain ⟨rfl, rfl⟩ := h
    obtain ⟨g1, g2⟩ := mvBlock_lt hb
    exact ⟨g1, fun fin hp => .sl _ _ _ (g2 fin hp)⟩
  · split at h
    · rename_i hl
      simp at h; obtain ⟨rfl, rfl⟩ := h
      exact ⟨List.prefix_refl _, fun fin _ => leafOk_lt hl _⟩
    · simp at h

theorem mvLeaves_lt {base : Nat} : ∀ {vs vs' : List Value} {olds olds' : List Nat}, mvLeaves base H olds vs = some (vs', olds') → olds <+: olds' ∧ ∀ fin : List Nat, olds' <+: fin → LLt (Bel (base + fin.length)) vs'
  | [], vs', olds, olds', h => by simp [mvLeaves] at h; obtain ⟨rfl, rfl⟩ := h; exact ⟨List.prefix_refl _, fun _ _ v hv => by simp at hv⟩
  | v :: vs, vs', olds, olds', h => by
    simp only [mvLeaves] at h
    replace h := obind_some h; obtain ⟨⟨x, o1⟩, h1, h⟩ := h
    replace h := obind_some h; obtain ⟨⟨y, o2⟩, h2, h⟩ := h
    simp at h; obtain ⟨rfl, rfl⟩ := h
    obtain ⟨g1, g2⟩ := mvLeaf_lt h1
    obtain ⟨g3, g4⟩ := mvLeaves_lt h2
    refine ⟨g1.trans g3, fun fin hp u hu => ?_⟩
    rcases List.mem_cons.1 hu with rfl | hu
    · exact g2 fin (g3.trans hp)
    · exact g4 fin hp u hu

theorem mvAggs_lt {base : Nat} : ∀ {vs vs' : List Value} {olds olds' : List Nat}, mvAggs base H olds vs = some (vs', olds') → olds <+: olds' ∧ ∀ fin : List Nat, olds' <+: fin → LLt (Bel (base + fin.length)) vs'
  | [], vs', olds, olds', h => by simp [mvAggs] at h; obtain ⟨rfl, rfl⟩ := h; exact ⟨List.prefix_refl _, fun _ _ v hv => by simp at hv⟩
  | v :: vs, vs', olds, olds', h => by
    simp only [mvAggs] at h
    replace h := obind_some h; obtain ⟨⟨x, o1⟩, h1, h⟩ := h
    replace h := obind_some h; obtain ⟨⟨y, o2⟩, h2, h⟩ := h
    simp at h; obtain ⟨rfl, rfl⟩ := h
    have g12 : olds <+: o1 ∧ ∀ fin : List Nat, o1 <+: fin → VLt (Bel (base + fin.length)) x := by
      unfold mvAgg at h1
      split at h1
      · replace h1 := obind_some h1; obtain ⟨⟨z, o3⟩, h3, h1⟩ := h1
        simp at h1; obtain ⟨rfl, rfl⟩ := h1
        obtain ⟨k1, k2⟩ := mvLeaves_lt h3
        exact ⟨k1, fun fin hp => VLt.mkAgg (k2 fin hp)⟩
      · exact mvLeaf_lt h1
    obtain ⟨g3, g4⟩ := mvAggs_lt h2
    refine ⟨g12.1.trans g3, fun fin hp u hu => ?_⟩
    rcases List.mem_cons.1 hu with rfl | hu
    · exact g12.2 fin (g3.trans hp)
    · exact g4 fin hp u hu

theorem finish_ab {lim : Nat} {H₀ : Heap} {vs vs' : List Value} {olds : List Nat} (ha : Ab H₀.length H₀ H) (hc₀ : closedAt H₀.length H₀) (hm : mvAggs H₀.length H [] vs = some (vs', olds)) :
    Ab lim H₀ (H.take H₀.length ++ olds.map (hget H)) ∧ LLt (Bel (H.take H₀.length ++ olds.map (hget H)).length) vs' := by
  have hok := mvAggs_ok hm ⟨List.nodup_nil, by simp⟩
  have hlen : (H.take H₀.length ++ olds.map (hget H)).length = H₀.length + olds.length := by simp; have := ha.len; omega
  have hcl := ha.closed H₀.length (Nat.le_refl _) (Nat.le_refl _) hc₀
  refine ⟨⟨by rw [hlen]; omega, fun _ => ?_, fun m _ hm' hcm => ?_⟩, ?_⟩
  · rw [hlen]
    intro x _ k hx v hv
    rcases hget_moved ha.len hx with ⟨h1, h2⟩ | ⟨j, b, rfl, h1, h2⟩
    · exact (hcl x h1 k h2 v hv).mono (Bel.mono (by omega))
    · obtain ⟨_, k', hk', hall⟩ := hok.ok.blk b (List.mem_of_getElem? h1)
      rw [h2] at hk'; simp at hk'; subst hk'
      exact (leafLt_lt (List.all_eq_true.1 hall v hv)).mono (Bel.mono (by omega))
  · intro x hx' k hx v hv
    rcases hget_moved ha.len hx with ⟨h1, h2⟩ | ⟨j, b, rfl, h1, h2⟩
    · exact ha.closed m hm' hm' hcm x hx' k h2 v hv
    · omega
  · rw [hlen]; exact (mvAggs_lt hm).2 olds (List.prefix_refl _)

end

end Go.Ev
