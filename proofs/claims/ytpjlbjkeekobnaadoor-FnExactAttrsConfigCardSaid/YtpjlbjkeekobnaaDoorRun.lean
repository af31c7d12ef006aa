/-
  Code, loops and whole calls: what the interpreter says of the model's calls. (Regions that draw their order come in as a hypothesis; it is proved in the next text.)
  Conditions: none.
-/
import Derived.Test.YtpjlbjkeekobnaaDoorFin
set_option linter.unusedVariables false
set_option linter.unusedSimpArgs false
namespace Go.Ev

/-- A loop with fuel. -/
theorem wp_loop_fuel {P : Program} {c : Code} {Q : Exit → Act → World → Prop} {a : Act} {w : World} (I : Nat → Act → World → Prop) {n : Nat} (h₀ : I n a w)
    (round : ∀ n a w, I n a w → c.wp P (Exit.then (fun a' w' => ∃ n', n' < n ∧ I n' a' w') Q) a w) : (Code.loop c).wp P Q a w := by
  intro b k cs
  have key : ∀ n a w, I n a w → ∃ e a' w', Q e a' w' ∧ Arrives P (lone (b.at a (.code c :: .inLoop c :: k)) cs w) b k cs e a' w' := by
    intro n
    induction n using Nat.strongRecOn with
    | _ n ih =>
      intro a w hI
      obtain ⟨e, a₁, w₁, hq, harr⟩ := round n a w hI b (.inLoop c :: k) cs
      cases e with
      | normal =>
        obtain ⟨n', hlt, hI₁⟩ := hq
        obtain ⟨e₂, a₂, w₂, hq₂, harr₂⟩ := ih n' hlt a₁ w₁ hI₁
        exact ⟨e₂, a₂, w₂, hq₂, .of_steps (Steps.trans harr (.one step_inLoop)) harr₂⟩
      | exit id => exact ⟨_, a₁, w₁, hq, .pass (x := .inLoop c) rfl (fun _ _ => .inl (by simp)) harr⟩
      | goto l => exact ⟨_, a₁, w₁, hq, .pass (x := .inLoop c) rfl (fun _ _ => .inl (by simp)) harr⟩
      | ret => exact ⟨_, a₁, w₁, hq, .pass (x := .inLoop c) rfl (fun _ _ => .inl (by simp)) harr⟩
      | panic ch => exact ⟨_, a₁, w₁, hq, .pass (x := .inLoop c) rfl (fun _ _ => .inl (by simp)) harr⟩
      | outgrown => exact ⟨_, a₁, w₁, hq, .pass (x := .inLoop c) rfl (fun _ _ => .inl (by simp)) harr⟩
  obtain ⟨e, a', w', hq, harr⟩ := key n a w h₀
  exact ⟨e, a', w', hq, .of_steps (.one step_loop) harr⟩

def DrawWp (X : Cx) : Prop := ∀ (β : Type) (id : Nat) (ops : Array Oper) (env : Env) (H : Heap) (K : Env → Heap → Option β) (r : β), evDraw X ops env H K = some r →
  ∀ (ι : Io) (a : Act) (w : World), Rel ι (Bel H.length) H w → ERel ι (Bel H.length) X.nt env a → a.defers = [] → ∀ Q : Exit → Act → World → Prop,
    (∀ env' ι' H' a' w', Rel ι' (Bel H'.length) H' w' → ERel ι' (Bel H'.length) X.nt env' a' → Fr ι H w ι' H' w' → Ab X.lim H H' → a'.defers = [] → K env' H' = some r → Q .normal a' w') → (Code.region id ops true).wp X.P Q a w

def DrawAb (X : Cx) : Prop := ∀ (β : Type) (ops : Array Oper) (env : Env) (H : Heap) (K : Env → Heap → Option β) (r : β), evDraw X ops env H K = some r → EnvLt (Bel H.length) env → closedAt H.length H →
    ∃ env' H', K env' H' = some r ∧ EnvLt (Bel H'.length) env' ∧ closedAt H'.length H' ∧ Ab X.lim H H'

section
variable {X : Cx} {β : Type} {r : β}

def zipE : List (Nat × Value) → List Value → Env
  | (s, _) :: ks, v :: vs => (s, v) :: zipE ks vs
  | _, _ => []

theorem bindVals_some : ∀ {ks : List (Nat × Value)} {vs : List Value} {K : Env → Option β}, bindVals ks vs K = some r → K (zipE ks vs) = some r
  | [], vs, K, h => by
    unfold bindVals vNil at h
    split at h
    · exact h
    · simp at h
  | (s, t) :: ks, vs, K, h => by
    unfold bindVals vCons at h
    split at h
    · exact bindVals_some (K := fun env => K ((s, _) :: env)) (viewA_eq h)
    · simp at h

theorem getKeep_eget : ∀ {env : Env} {ks : List (Nat × Value)} {vs : List Value}, getKeep env ks = some vs → ∀ s v, eget (zipE ks vs) s = some v → eget env s = some v
  | env, [], vs, h, s, v, hs => by simp [getKeep] at h; subst h; simp [zipE, eget] at hs
  | env, (s', t) :: ks, vs, h, s, v, hs => by
    simp only [getKeep] at h
    replace h := obind_some h; obtain ⟨u, hu, h⟩ := h
    replace h := obind_some h; obtain ⟨l, hl, h⟩ := h
    simp at h; subst h
    simp only [zipE] at hs
    rw [eget_cons] at hs
    by_cases e : s' = s
    · subst e; simp at hs; subst hs; exact hu
    · simp [e] at hs; exact getKeep_eget hl s v hs

theorem ERel.zip {ι : Io} {D : Nat → Prop} {nt : Nat} {env : Env} {a : Act} (h : ERel ι D nt env a) {ks : List (Nat × Value)} {vs : List Value} (hk : getKeep env ks = some vs) : ERel ι D nt (zipE ks vs) a :=
  ⟨h.size, fun s v hs => h.get s v (getKeep_eget hk s v hs)⟩

theorem EnvLt.zip {D : Nat → Prop} {env : Env} (h : EnvLt D env) {ks : List (Nat × Value)} {vs : List Value} (hk : getKeep env ks = some vs) : EnvLt D (zipE ks vs) :=
  fun s v hs => h s v (getKeep_eget hk s v hs)

theorem litE_rel {ι : Io} {D : Nat → Prop} {nt : Nat} {env : Env} {a : Act} {c : Operand} {b : Bool} (h : ERel ι D nt env a) (hc : ev env c = some (.bool b)) : ERel ι D nt (litE c b env) a := by
  unfold litE
  split
  · exact h.lit hc
  · exact h

theorem litE_lt {D : Nat → Prop} {env : Env} {c : Operand} {b : Bool} (h : EnvLt D env) : EnvLt D (litE c b env) := by
  unfold litE
  split
  · exact h.put (.bool _)
  · exact h

theorem evCode_wp (hX : CallsOk X.P X.call) (hD : DrawWp X) : ∀ (c : Code) (n : Nat) (env : Env) (H : Heap) (K : AExit → Env → Heap → Option β), evCode X c n env H K = some r →
    ∀ (ι : Io) (a : Act) (w : World), Rel ι (Bel H.length) H w → ERel ι (Bel H.length) X.nt env a → a.defers = [] → c.wp X.P (Good X ι H w K r) a w
  | .skip, n, env, H, K, h, ι, a, w, hR, hE, hd => wp_skip ⟨.normal, env, ι, H, rfl, hR, hE, Fr.refl _ _ _, Ab.refl _ _, hd, h⟩
  | .label l, n, env, H, K, h, ι, a, w, hR, hE, hd => wp_label ⟨.normal, env, ι, H, rfl, hR, hE, Fr.refl _ _ _, Ab.refl _ _, hd, h⟩
  | .region id ops d, n, env, H, K, h, ι, a, w, hR, hE, hd => by
    unfold evCode at h
    cases d with
    | false =>
      simp only at h
      refine wp_region ?_
      have := evOps_wp hX (Q := Good X ι H w K r) ops.toList 0 env H (fun k => by simp) (by simp) h ι a w hR hE hd (fun env' ι' H' a' w' h1 h2 h3 h4 h5 h6 => ⟨.normal, env', ι', H', rfl, h1, h2, h3, h4, h5, h6⟩)
      rw [List.range_eq_range']
      simpa using this
    | true => exact hD β id ops env H (K .normal) r h ι a w hR hE hd _ fun env' ι' H' a' w' h1 h2 h3 h4 h5 h6 => ⟨.normal, env', ι', H', rfl, h1, h2, h3, h4, h5, h6⟩
  | .seq x y, n, env, H, K, h, ι, a, w, hR, hE, hd => by
    unfold evCode at h
    refine wp_seq (wp_mono (evCode_wp hX hD x n env H _ h ι a w hR hE hd) ?_)
    rintro ex a' w' ⟨aex, env', ι', H', rfl, h1, h2, h3, h4, h5, h6⟩
    cases aex with
    | normal =>
      simp only at h6
      exact wp_mono (evCode_wp hX hD y _ env' H' K h6 ι' a' w' h1 h2 h5) fun e a2 w2 hg => hg.later h3 h4
    | exit id => exact ⟨.exit id, env', ι', H', rfl, h1, h2, h3, h4, h5, h6⟩
    | ret => exact ⟨.ret, env', ι', H', rfl, h1, h2, h3, h4, h5, h6⟩
  | .cond c x y, n, env, H, K, h, ι, a, w, hR, hE, hd => by
    unfold evCode at h
    replace h := obind_some h; obtain ⟨v, hv, h⟩ := h
    replace h := vBool_some h; obtain ⟨t, rfl, h⟩ := h
    have hc := (ev_rel hE hv).inv_bool
    rcases oif_some h with ⟨rfl, h⟩ | ⟨rfl, h⟩
    · exact wp_cond_true hc (evCode_wp hX hD x _ _ H K h ι a w hR (litE_rel hE hv) hd)
    · exact wp_cond_false hc (evCode_wp hX hD y _ _ H K h ι a w hR (litE_rel hE hv) hd)
  | .block id c, n, env, H, K, h, ι, a, w, hR, hE, hd => by
    unfold evCode at h
    refine wp_block (wp_mono (evCode_wp hX hD c n env H _ h ι a w hR hE hd) ?_)
    rintro ex a' w' ⟨aex, env', ι', H', rfl, h1, h2, h3, h4, h5, h6⟩
    cases aex with
    | normal => exact ⟨.normal, env', ι', H', rfl, h1, h2, h3, h4, h5, h6⟩
    | exit id' =>
      simp only at h6
      simp only [exOf, Exit.inBlock]
      split at h6
      · rename_i e; rw [if_pos (Nat.eq_of_beq_eq_true e)]; exact ⟨.normal, env', ι', H', rfl, h1, h2, h3, h4, h5, h6⟩
      · rename_i e; rw [if_neg (Nat.ne_of_beq_eq_false e)]; exact ⟨.exit id', env', ι', H', rfl, h1, h2, h3, h4, h5, h6⟩
    | ret => exact ⟨.ret, env', ι', H', rfl, h1, h2, h3, h4, h5, h6⟩
  | .loop c, n, env, H, K, h, ι, a, w, hR, hE, hd => by
    unfold evCode at h
    replace h := obind_some h; obtain ⟨vs, hv, h⟩ := h
    generalize hF : (fun (again : List Value → Heap → Option β) vs H => bindVals (X.ann n) vs fun env => evCode X c (n + 1) env H fun ex env' H' => match ex with
      | .normal => obind (getKeep env' (X.ann n)) fun vs' => again vs' H'
      | .exit id => K (.exit id) env' H'
      | .ret => K .ret env' H') = F at h
    refine wp_loop_fuel (fun k a' w' => ∃ vs' ι' H', Rel ι' (Bel H'.length) H' w' ∧ ERel ι' (Bel H'.length) X.nt (zipE (X.ann n) vs') a' ∧ Fr ι H w ι' H' w' ∧ Ab X.lim H H' ∧ a'.defers = [] ∧ iterN F k vs' H' = some r) (n := X.fuel) ?_ ?_
    · exact ⟨vs, ι, H, hR, hE.zip hv, Fr.refl _ _ _, Ab.refl _ _, hd, h⟩
    · rintro k a' w' ⟨vs', ι', H', g1, g2, g3, g4, g5, g6⟩
      cases k with
      | zero => simp [iterN] at g6
      | succ k =>
        simp only [iterN] at g6
        rw [← hF] at g6
        have g7 := bindVals_some g6
        rw [hF] at g7
        refine wp_mono (evCode_wp hX hD c (n + 1) _ H' _ g7 ι' a' w' g1 g2 g5) ?_
        rintro ex a2 w2 ⟨aex, env2, ι2, H2, rfl, k1, k2, k3, k4, k5, k6⟩
        cases aex with
        | normal =>
          simp only at k6
          replace k6 := obind_some k6; obtain ⟨vs2, hv2, k6⟩ := k6
          exact ⟨k, by omega, vs2, ι2, H2, k1, k2.zip hv2, g3.trans k3, g4.trans k4, k5, k6⟩
        | exit id => exact ⟨.exit id, env2, ι2, H2, rfl, k1, k2, g3.trans k3, g4.trans k4, k5, k6⟩
        | ret => exact ⟨.ret, env2, ι2, H2, rfl, k1, k2, g3.trans k3, g4.trans k4, k5, k6⟩
  | .exit id, n, env, H, K, h, ι, a, w, hR, hE, hd => wp_exit ⟨.exit id, env, ι, H, rfl, hR, hE, Fr.refl _ _ _, Ab.refl _ _, hd, h⟩
  | .ret, n, env, H, K, h, ι, a, w, hR, hE, hd => wp_ret ⟨.ret, env, ι, H, rfl, hR, hE, Fr.refl _ _ _, Ab.refl _ _, hd, h⟩
  | .rangeFunc _ _ _ _, n, env, H, K, h, ι, a, w, hR, hE, hd => by simp [evCode] at h
  | .scope _, n, env, H, K, h, ι, a, w, hR, hE, hd => by simp [evCode] at h
  | .goto _, n, env, H, K, h, ι, a, w, hR, hE, hd => by simp [evCode] at h
  | .refuse _, n, env, H, K, h, ι, a, w, hR, hE, hd => by simp [evCode] at h

theorem evCode_ab (hX : CallsOk X.P X.call) (hD : DrawAb X) : ∀ (c : Code) (n : Nat) (env : Env) (H : Heap) (K : AExit → Env → Heap → Option β), evCode X c n env H K = some r → EnvLt (Bel H.length) env → closedAt H.length H →
    ∃ ex env' H', K ex env' H' = some r ∧ EnvLt (Bel H'.length) env' ∧ closedAt H'.length H' ∧ Ab X.lim H H'
  | .skip, n, env, H, K, h, hE, hc => ⟨.normal, env, H, h, hE, hc, Ab.refl _ _⟩
  | .label l, n, env, H, K, h, hE, hc => ⟨.normal, env, H, h, hE, hc, Ab.refl _ _⟩
  | .region id ops d, n, env, H, K, h, hE, hc => by
    unfold evCode at h
    cases d with
    | false => obtain ⟨e, H', h1, h2⟩ := evOps_ab hX ops.toList env H h hE hc; exact ⟨.normal, e, H', h1, h2⟩
    | true => obtain ⟨e, H', h1, h2⟩ := hD β ops env H _ r h hE hc; exact ⟨.normal, e, H', h1, h2⟩
  | .seq x y, n, env, H, K, h, hE, hc => by
    unfold evCode at h
    obtain ⟨ex, e, H', h1, h2, h3, h4⟩ := evCode_ab hX hD x n env H _ h hE hc
    cases ex with
    | normal =>
      obtain ⟨ex, e', H2, g1, g2, g3, g4⟩ := evCode_ab hX hD y _ e H' K h1 h2 h3
      exact ⟨ex, e', H2, g1, g2, g3, h4.trans g4⟩
    | exit id => exact ⟨_, e, H', h1, h2, h3, h4⟩
    | ret => exact ⟨_, e, H', h1, h2, h3, h4⟩
  | .cond c x y, n, env, H, K, h, hE, hc => by
    unfold evCode at h
    replace h := obind_some h; obtain ⟨v, hv, h⟩ := h
    replace h := vBool_some h; obtain ⟨t, rfl, h⟩ := h
    rcases oif_some h with ⟨rfl, h⟩ | ⟨rfl, h⟩
    · exact evCode_ab hX hD x _ _ H K h (litE_lt hE) hc
    · exact evCode_ab hX hD y _ _ H K h (litE_lt hE) hc
  | .block id c, n, env, H, K, h, hE, hc => by
    unfold evCode at h
    obtain ⟨ex, e, H', h1, h2, h3, h4⟩ := evCode_ab hX hD c n env H _ h hE hc
    cases ex with
    | normal => exact ⟨_, e, H', h1, h2, h3, h4⟩
    | exit id' =>
      simp only at h1
      split at h1
      · exact ⟨_, e, H', h1, h2, h3, h4⟩
      · exact ⟨_, e, H', h1, h2, h3, h4⟩
    | ret => exact ⟨_, e, H', h1, h2, h3, h4⟩
  | .loop c, n, env, H, K, h, hE, hc => by
    unfold evCode at h
    replace h := obind_some h; obtain ⟨vs, hv, h⟩ := h
    generalize hF : (fun (again : List Value → Heap → Option β) vs H => bindVals (X.ann n) vs fun env => evCode X c (n + 1) env H fun ex env' H' => match ex with
      | .normal => obind (getKeep env' (X.ann n)) fun vs' => again vs' H'
      | .exit id => K (.exit id) env' H'
      | .ret => K .ret env' H') = F at h
    have hE' : EnvLt (Bel H.length) (zipE (X.ann n) vs) := hE.zip hv
    clear hv hE
    generalize X.fuel = k at h
    induction k generalizing vs H with
    | zero => simp [iterN] at h
    | succ k ih =>
      simp only [iterN] at h
      rw [← hF] at h
      have g7 := bindVals_some h
      rw [hF] at g7
      obtain ⟨ex, e, H', h1, h2, h3, h4⟩ := evCode_ab hX hD c (n + 1) _ H _ g7 hE' hc
      cases ex with
      | normal =>
        simp only at h1
        replace h1 := obind_some h1; obtain ⟨vs2, hv2, h1⟩ := h1
        obtain ⟨ex, e', H2, g1, g2, g3, g4⟩ := ih H' h3 vs2 (h2.zip hv2) h1
        exact ⟨ex, e', H2, g1, g2, g3, h4.trans g4⟩
      | exit id => exact ⟨_, e, H', h1, h2, h3, h4⟩
      | ret => exact ⟨_, e, H', h1, h2, h3, h4⟩
  | .exit id, n, env, H, K, h, hE, hc => ⟨.exit id, env, H, h, hE, hc, Ab.refl _ _⟩
  | .ret, n, env, H, K, h, hE, hc => ⟨.ret, env, H, h, hE, hc, Ab.refl _ _⟩
  | .rangeFunc _ _ _ _, n, env, H, K, h, hE, hc => by simp [evCode] at h
  | .scope _, n, env, H, K, h, hE, hc => by simp [evCode] at h
  | .goto _, n, env, H, K, h, hE, hc => by simp [evCode] at h
  | .refuse _, n, env, H, K, h, hE, hc => by simp [evCode] at h

end

theorem eget_args : ∀ (l : List Value) (i s : Nat) (v : Value), eget (argsEnv i l) s = some v → i ≤ s ∧ l[s - i]? = some v
  | [], i, s, v, h => by simp [argsEnv, eget] at h
  | x :: l, i, s, v, h => by
    simp only [argsEnv] at h
    rw [eget_cons] at h
    by_cases e : i = s
    · subst e; simp at h; subst h; simp
    · simp [e] at h
      obtain ⟨h1, h2⟩ := eget_args l (i + 1) s v h
      refine ⟨by omega, ?_⟩
      rw [show s - i = (s - (i + 1)) + 1 by omega]
      simpa using h2

theorem oneOf_rel {ι : Io} {D : Nat → Prop} {vs cs : List Value} (h : LRel ι D vs cs) : VRel ι D (oneOf vs) (oneOf cs) := by
  unfold oneOf
  split
  · rename_i v
    match cs, h with
    | [c], h => exact h.head
    | [], h => exact absurd h.1 (by simp)
    | c :: d :: r, h => exact absurd h.1 (by simp)
  · rename_i hne
    have : ∀ c, cs ≠ [c] := by
      rintro c rfl
      match vs, h, hne with
      | [v], _, hne => exact hne v rfl
      | [], h, _ => exact absurd h.1 (by simp)
      | a :: b :: r, h, _ => exact absurd h.1 (by simp)
    split
    · rename_i c; exact absurd rfl (this c)
    · exact .tuple vs cs h.1 h.2

theorem oneOf_lt {D : Nat → Prop} {vs : List Value} (h : LLt D vs) : VLt D (oneOf vs) := by
  unfold oneOf
  split
  · exact h _ (by simp)
  · exact .tuple vs fun i hi => h _ (List.getElem_mem hi)

theorem results_oneOf (cs : List Value) : (if h : cs.toArray.size = 1 then cs.toArray[0] else .tuple cs.toArray) = oneOf cs := by
  unfold oneOf
  split
  · rename_i h
    match cs, h with
    | [c], _ => rfl
  · rename_i h
    split
    · simp at h
    · rfl

theorem runFn_ok {P : Program} {A : Ann} {call : FuncId → List Value → Nat → Heap → Option (Value × Heap)} (hX : CallsOk P call) (hD : ∀ X : Cx, X.P = P → X.call = call → DrawWp X ∧ DrawAb X) {f : FuncId} {args : List Value} {lim : Nat} {H H' : Heap} {v : Value}
    (h : runFn P A call f args lim H = some (v, H')) : CallF P f args lim H v H' := by
  unfold runFn at h
  split at h
  · simp at h
  · rename_i fn hfn
    split at h
    · rename_i c hb hle hnm
      have hle := Nat.le_of_ble_eq_true hle
      generalize hXd : (⟨P, call, limOf (A.mode f) lim H.length, fn.ntmps, A.fuel, A.loops f⟩ : Cx) = X at h
      have hXP : X.P = P := by rw [← hXd]
      have hXc : X.call = call := by rw [← hXd]
      have hXl : X.lim = limOf (A.mode f) lim H.length := by rw [← hXd]
      have hXn : X.nt = fn.ntmps := by rw [← hXd]
      obtain ⟨hDw, hDa⟩ := hD X hXP hXc
      have hX' : CallsOk X.P X.call := by rw [hXP, hXc]; exact hX
      have henv : ∀ D : Nat → Prop, LLt D args → EnvLt D (argsEnv 0 args) := by
        intro D hl s u hs
        obtain ⟨_, h2⟩ := eget_args args 0 s u hs
        exact hl u (List.mem_of_getElem? h2)
      have habs : LLt (Bel H.length) args → closedAt H.length H → VLt (Bel H'.length) v ∧ Ab lim H H' := by
        intro hl hc
        obtain ⟨ex, env', H2, g1, g2, g3, g4⟩ := evCode_ab hX' hDa c 0 _ H _ h (henv _ hl) hc
        have fin : ∀ {vs : List Value}, evRes P env' H2 fn.results.toList = some vs → (obind (finish (A.mode f) H.length vs H2) fun r => some (oneOf r.1, r.2)) = some (v, H') → VLt (Bel H'.length) v ∧ Ab lim H H' := by
          intro vs hr hf
          replace hf := obind_some hf; obtain ⟨⟨vs', H3⟩, hf, he⟩ := hf
          simp at he; obtain ⟨rfl, rfl⟩ := he
          have hvl := evRes_lt hr g2 g3
          unfold finish at hf
          cases hm : A.mode f with
          | keep =>
            rw [hm] at hf; simp at hf; obtain ⟨rfl, rfl⟩ := hf
            rw [hXl, hm] at g4
            exact ⟨oneOf_lt hvl, g4⟩
          | drop =>
            rw [hm] at hf; simp only at hf
            replace hf := obind_some hf; obtain ⟨⟨vs2, olds⟩, hmv, he⟩ := hf
            simp at he; obtain ⟨rfl, rfl⟩ := he
            rw [hXl, hm] at g4
            obtain ⟨k1, k2⟩ := finish_ab (lim := lim) g4 hc hmv
            exact ⟨oneOf_lt k2, k1⟩
        cases ex with
        | normal => simp only at g1; replace g1 := obind_some g1; obtain ⟨vs, hr, g1⟩ := g1; exact fin hr g1
        | exit id => simp at g1
        | ret => simp only at g1; replace g1 := obind_some g1; obtain ⟨vs, hr, g1⟩ := g1; exact fin hr g1
      refine ⟨fun hl hc => (habs hl hc).1, fun hl hc => (habs hl hc).2, fun cargs w => ?_, fun ι w cargs hR hl => ?_⟩
      · have hne : (fn.name == "runtime.NumGoroutine") = false := hnm
        simp only [callFunc, Sem.run_bind, run_program, Result.andThen_ok, hfn, hne, Bool.false_eq_true, if_false, hb, Option.isNone_some, Sem.run_pure]
      · refine calls_of_wp hfn hb ?_
        have hsz : cargs.size = args.length := by have := hl.1; simpa using this.symm
        have hE : ERel ι (Bel H.length) X.nt (argsEnv 0 args) { tmps := cargs ++ Array.replicate (fn.ntmps - cargs.size) undef, defers := [] } := by
          refine ⟨by simp [hXn]; omega, fun s u hs => ?_⟩
          obtain ⟨_, h2⟩ := eget_args args 0 s u hs
          obtain ⟨d, h3, h4⟩ := hl.get h2
          have hlt : s < cargs.size := by
            have := (List.getElem?_eq_some_iff.1 h2).1
            simp at this; omega
          have : (cargs ++ Array.replicate (fn.ntmps - cargs.size) undef).getD s undef = d := by
            rw [Array.getD_eq_getD_getElem?, Array.getElem?_append_left hlt, ← Array.getElem?_toList]
            simp only [Nat.sub_zero] at h3
            rw [h3]; rfl
          rw [this]; exact h4
        have hwp := evCode_wp hX' hDw c 0 _ H _ h ι _ w hR hE rfl
        rw [hXP] at hwp
        refine wp_mono hwp ?_
        rintro ex a' w' ⟨aex, env', ι', H2, rfl, g1, g2, g3, g4, g5, g6⟩
        have fin : ∀ {vs : List Value}, evRes P env' H2 fn.results.toList = some vs → (obind (finish (A.mode f) H.length vs H2) fun r => some (oneOf r.1, r.2)) = some (v, H') →
            a'.defers = [] ∧ ∃ v', (results fn a'.tmps).run P w' = .ok v' w' ∧ ∃ ι'' c', (Ending.returned v') = .returned c' ∧ Rel ι'' (Bel H'.length) H' w' ∧ VRel ι'' (Bel H'.length) v c' ∧ Fr ι H w ι'' H' w' := by
          intro vs hr hf
          replace hf := obind_some hf; obtain ⟨⟨vs', H3⟩, hf, he⟩ := hf
          simp at he; obtain ⟨rfl, rfl⟩ := he
          obtain ⟨cs, k1, k2⟩ := evRes_run (P := P) g1 g2 hr
          have hres : (results fn a'.tmps).run P w' = .ok (oneOf cs) w' := by
            unfold results
            rw [Array.mapM_eq_mapM_toList]
            simp only [Sem.run_bind, Sem.run_map]
            refine (congrArg (fun x => Result.andThen (Result.andThen x _) _) k2).trans ?_
            simp only [Result.andThen_ok, Sem.run_pure]
            rw [← results_oneOf]
          refine ⟨g5, oneOf cs, hres, ?_⟩
          unfold finish at hf
          cases hm : A.mode f with
          | keep =>
            rw [hm] at hf; simp at hf; obtain ⟨rfl, rfl⟩ := hf
            exact ⟨ι', _, rfl, g1, oneOf_rel k1, g3⟩
          | drop =>
            rw [hm] at hf; simp only at hf
            replace hf := obind_some hf; obtain ⟨⟨vs2, olds⟩, hmv, he⟩ := hf
            simp at he; obtain ⟨rfl, rfl⟩ := he
            rw [hXl, hm] at g4
            have hcl := g4.closed H.length (Nat.le_refl _) (Nat.le_refl _) hR.closed
            obtain ⟨q1, q2, q3⟩ := finish_rel g1 g3 hcl hmv k1
            exact ⟨_, _, rfl, q1, oneOf_rel q3, q2⟩
        cases aex with
        | normal => simp only at g6; replace g6 := obind_some g6; obtain ⟨vs, hr, g6⟩ := g6; exact fin hr g6
        | exit id => simp at g6
        | ret => simp only at g6; replace g6 := obind_some g6; obtain ⟨vs, hr, g6⟩ := g6; exact fin hr g6
    · simp at h

/-- What is given for functions outside. -/
def ExtOk (P : Program) (A : Ann) : Prop := ∀ f e, A.ext f = some e → ∀ args lim H v H', e args lim H = some (v, H') → CallF P f args lim H v H'

theorem run_ok {P : Program} {A : Ann} (hA : ExtOk P A) (hD : ∀ X : Cx, X.P = P → CallsOk P X.call → DrawWp X ∧ DrawAb X) : ∀ d : Nat, CallsOk P (run P A d)
  | 0 => by intro f args lim H v H' h; simp [run] at h
  | d + 1 => by
    have ih := run_ok hA hD d
    intro f args lim H v H' h
    simp only [run] at h
    split at h
    · rename_i e he; exact hA f e he args lim H v H' h
    · exact runFn_ok ih (fun X hP hc => hD X hP (by rw [hc]; exact ih)) h

end Go.Ev
