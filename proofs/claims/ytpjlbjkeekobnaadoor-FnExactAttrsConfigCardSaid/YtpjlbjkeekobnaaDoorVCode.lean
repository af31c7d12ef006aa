/-
  Code: the interpreter by value agrees with the first one, loops and all.
  Conditions: the state is a good one; callees agree.
-/
import Derived.Test.YtpjlbjkeekobnaaDoorVLoop2
set_option linter.all false
namespace Go.Pv
open Go.Ev

theorem keepEnv_get {env : PEnv} : ∀ {keep : List (Nat × Value)} {env0 : PEnv}, keepEnv env keep = some env0 → (∀ k ∈ keep, ∃ p, pget env k.1 = some p) ∧ (∀ q p, pget env0 q = some p → pget env q = some p ∧ q ∈ keep.map (·.1)) ∧ ∀ q ∈ keep.map (·.1), pget env0 q = pget env q
  | [], env0, h => by simp [keepEnv] at h; subst h; simp [pget]
  | (q, t) :: keep, env0, h => by
    simp only [keepEnv] at h
    replace h := ob h; obtain ⟨p, h1, h⟩ := h
    replace h := ob h; obtain ⟨e, h2, h⟩ := h
    simp at h; subst h
    obtain ⟨a1, a2, a3⟩ := keepEnv_get h2
    refine ⟨fun k hk => ?_, fun q' p' hp => ?_, fun q' hq => ?_⟩
    · rcases List.mem_cons.1 hk with rfl | hk
      · exact ⟨p, h1⟩
      · exact a1 k hk
    · simp only [pget] at hp
      cases hb : Nat.beq q q' with
      | true =>
        rw [hb] at hp; injection hp with hp; subst hp
        rw [← Nat.eq_of_beq_eq_true hb]; exact ⟨h1, by simp⟩
      | false => rw [hb] at hp; obtain ⟨b1, b2⟩ := a2 q' p' hp; exact ⟨b1, by simp only [List.map_cons, List.mem_cons]; exact .inr b2⟩
    · simp only [pget]
      cases hb : Nat.beq q q' with
      | true => rw [← Nat.eq_of_beq_eq_true hb]; exact h1.symm
      | false =>
        simp only [List.map_cons, List.mem_cons] at hq
        rcases hq with rfl | hq
        · rw [Nat.beq_refl] at hb; simp at hb
        · exact a3 q' hq

theorem getKeep_val {e : Env} {val : Nat → Value} : ∀ {keep : List (Nat × Value)}, (∀ k ∈ keep, eget e k.1 = some (val k.1)) → getKeep e keep = some (keep.map fun k => val k.1)
  | [], _ => rfl
  | (q, t) :: keep, h => by
    have ih := getKeep_val (e := e) (val := val) (keep := keep) (fun k hk => h k (List.mem_cons_of_mem _ hk))
    simp only [getKeep, h (q, t) (by simp), obind, ih, List.map_cons]

/-- The variables at the head of a round. -/
def headEnv (val : Nat → Value) (keep : List (Nat × Value)) : Env := keep.map fun k => (k.1, val k.1)

theorem headEnv_get {val : Nat → Value} : ∀ {keep : List (Nat × Value)} (q : Nat), eget (headEnv val keep) q = if q ∈ keep.map (·.1) then some (val q) else none
  | [], q => by simp [headEnv, eget]
  | (k, t) :: keep, q => by
    simp only [headEnv, List.map_cons, eget]
    cases hb : Nat.beq k q with
    | true => have := Nat.eq_of_beq_eq_true hb; subst this; simp
    | false =>
      have hne : q ≠ k := fun e => by subst e; rw [Nat.beq_refl] at hb; simp at hb
      have := headEnv_get (val := val) (keep := keep) q
      simp only [headEnv] at this
      simp only [this, List.mem_cons, hne, false_or]

theorem bindVals_head {β : Type} {s : S} {env : PEnv} {val : Nat → Value} (hr : ∀ q p, pget env q = some p → ER s p (val q)) : ∀ {keep : List (Nat × Value)} {K : Env → Option β}, fitKeep env keep = true → bindVals keep (keep.map fun k => val k.1) K = K (headEnv val keep)
  | [], K, _ => rfl
  | (q, t) :: keep, K, h => by
    simp only [fitKeep, Bool.and_eq_true] at h
    obtain ⟨h1, h2⟩ := h
    simp only [bindVals, List.map_cons, vCons]
    cases hp : pget env q with
    | none => rw [hp] at h1; simp at h1
    | some p =>
      rw [hp] at h1
      simp only at h1
      have hER := hr q p hp
      have hAR : AR s p (val q) := by
        cases p with
        | tup cs => rw [fitA_notup] at h1; simp at h1
        | _ => exact hER
      rw [fitA_view hAR h1, bindVals_head hr h2]
      rfl

theorem liveRw_get {L : LS} {ids : List Nat} (h : liveRw L ids = true) : ∀ b ∈ ids, ∃ B, lget L b = some B ∧ B.rw = true := by
  intro b hb
  have := List.all_eq_true.1 h b hb
  split at this
  · rename_i v bo hB; exact ⟨_, hB, rfl⟩
  · simp at this

section
variable {A : AnnV} {β γ : Type} {X : CxV A β} {XE : Cx} {r : β} {Q : γ → Prop}

/-- What follows a piece of code agrees. -/
def EOk (W : List Nat) (env0 : PEnv) (e0 : Env) (s : S) (r : β) (KV : AExit → PEnv → LS → Option β) (KE : AExit → Env → Heap → Option γ) (Q : γ → Prop) : Prop :=
  ∀ ex env e s', Keep s s' → StR s' → EnvR s' env e → Unch W env0 env e0 e → KV ex env s'.L = some r → ∃ y, KE ex e s'.H = some y ∧ Q y

def BodyOk (X : CxV A β) (XE : Cx) (r : β) (Q : γ → Prop) (c : Code) (n : Nat) : Prop :=
  ∀ (s : S) (env : PEnv) (e : Env) (KV : AExit → PEnv → LS → Option β) (KE : AExit → Env → Heap → Option γ), s.lim = XE.lim → StR s → EnvR s env e → EOk (wslots c) env e s r KV KE Q → vcode X c n env s.L KV = some r → ∃ y, evCode XE c n e s.H KE = some y ∧ Q y

theorem loop_sim {c : Code} {n : Nat} (hX : XOk X XE) (ihc : BodyOk X XE r Q c (n + 1)) {s : S} {env : PEnv} {e : Env} {KV : AExit → PEnv → LS → Option β} {KE : AExit → Env → Heap → Option γ} (hlim : s.lim = XE.lim) (hs : StR s) (he : EnvR s env e) (hK : EOk (wslots c) env e s r KV KE Q)
    (h : vcode X (.loop c) n env s.L KV = some r) : ∃ y, evCode XE (.loop c) n e s.H KE = some y ∧ Q y := by
  simp only [vcode] at h
  simp only [evCode]
  rw [← hX.ann]
  replace h := ob h; obtain ⟨env0, h1, h⟩ := h
  replace h := ob h; obtain ⟨⟨tvs, ids, L1⟩, h2, h⟩ := h
  simp only at h
  split at h
  · rename_i hchk hnd
    simp only [Bool.and_eq_true] at hchk
    obtain ⟨hin, hkept⟩ := hchk
    have hnd := noDup_nodup hnd
    replace h := ob h; obtain ⟨st0, h3, h⟩ := h
    obtain ⟨kg1, kg2, kg3⟩ := keepEnv_get h1
    let val0 : Nat → Value := fun q => (eget e q).getD undef
    have hval0 : ∀ q w, eget e q = some w → val0 q = w := fun q w hq => by simp [val0, hq]
    have hk0 : ∀ k ∈ X.eann n, eget e k.1 = some (val0 k.1) := fun k hk => by
      obtain ⟨p, hp⟩ := kg1 k hk
      obtain ⟨w, hw, _⟩ := he.get hp
      rw [hval0 _ _ hw]; exact hw
    rw [getKeep_val hk0]; simp only [obind]
    obtain ⟨sf, lf, gf, uf, kf, tf⟩ := freezeAll_sim (env := env) (l := (X.ann n).fzs) hs
    rw [← lf] at h2
    obtain ⟨s1, v1, v2, idss, js, hv, hv1, l1, g1, k1, t1, sr1, nd1, bd1, lv1⟩ := outAll_sim hval0 tf (kf.env he) h2
    have hks1 : Keep s s1 := kf.trans k1
    have hl1 : s1.lim = s.lim := hks1.lim
    have hlf : sf.lim = s.lim := kf.lim
    rw [← l1] at h lv1
    have hkeptW : ∀ k ∈ X.eann n, k.1 ∉ (X.ann n).slots.map (·.1) → k.1 ∉ wslots c := by
      intro k hk hns hw
      simp only [keptOk, Bool.and_eq_true] at hkept
      have := List.all_eq_true.1 hkept.1 k hk
      simp only [Bool.or_eq_true, Bool.not_eq_true'] at this
      rcases this with h | h
      · obtain ⟨x, hx, hx2⟩ := List.any_eq_true.1 h
        exact hns (List.mem_map.2 ⟨x, hx, Nat.eq_of_beq_eq_true hx2⟩)
      · exact contains_not h hw
    have hliv1 := liveRw_get lv1
    have hslotW : ∀ q ∈ (X.ann n).slots.map (·.1), q ∈ wslots c := by
      intro q hq
      simp only [keptOk, Bool.and_eq_true] at hkept
      obtain ⟨x, hx, rfl⟩ := List.mem_map.1 hq
      exact List.contains_iff_mem.1 (List.all_eq_true.1 hkept.2 x hx)
    have hslotK : ∀ q ∈ (X.ann n).slots.map (·.1), q ∈ (X.eann n).map (·.1) := by
      intro q hq
      obtain ⟨x, hx, rfl⟩ := List.mem_map.1 hq
      have := List.all_eq_true.1 hin x hx
      obtain ⟨k, hk, hk2⟩ := List.any_eq_true.1 this
      exact List.mem_map.2 ⟨k, hk, Nat.eq_of_beq_eq_true hk2⟩
    have inv0 : ∀ q p, q ∉ (X.ann n).slots.map (·.1) → pget env0 q = some p → ER s1 p (val0 q) := by
      intro q p _ hp
      obtain ⟨b1, _⟩ := kg2 q p hp
      obtain ⟨w, hw, hr⟩ := he.get b1
      rw [hval0 q w hw]; exact hks1.ER hr
    have main : ∀ (fuel : Nat) (st : TupT (X.ann n).tys) (T : S) (val : Nat → Value) (idss js : List (List Nat)) (v1 v2 : List TV), StR T → Keep s1 T → (∀ b B, b ∉ ids → lget s1.L b = some B → lget T.L b = some B) → (∀ b ∈ ids, ∃ B, lget T.L b = some B ∧ B.rw = true) →
        unT (X.ann n).tys st = v1 ++ v2 → v1.length = (X.ann n).slots.length → SR T s.lim val (X.ann n).slots v1 idss → (idss.flatten ++ js.flatten).Nodup → BDs T s.lim ids (X.ann n).cbs.length v2 js → (∀ k ∈ X.eann n, k.1 ∉ (X.ann n).slots.map (·.1) → val k.1 = val0 k.1) →
        iterP (fun again s => obind (inBlks ids (X.ann n).cbs.length ((unT (X.ann n).tys s).drop (X.ann n).slots.length) s1.L) fun L0 => obind (fillBlks ids (X.ann n).cbs.length ((unT (X.ann n).tys s).drop (X.ann n).slots.length) L0) fun L1 =>
          obind (inSlots (X.ann n).slots ((unT (X.ann n).tys s).take (X.ann n).slots.length) env0 L1) fun i =>
          match fitKeep i.1 (X.eann n) with
          | true => vcode X c (n + 1) i.1 i.2 fun ex env' L' => match ex with
            | .normal => obind (keepEnv env' (X.eann n)) fun _ => obind (outAll (X.ann n) env' L') fun r' => match sameIds r'.2.1 ids, sameBut ids 0 s1.L.bl r'.2.2.bl with
              | true, true => obind (mkT (X.ann n).tys r'.1) fun s' => again s'
              | _, _ => none
            | .exit id => KV (.exit id) env' L'
            | .ret => KV .ret env' L'
          | false => none) fuel st = some r →
        ∃ y, iterN (fun again vs H => bindVals (X.eann n) vs fun env => evCode XE c (n + 1) env H fun ex env' H' => match ex with
          | .normal => obind (getKeep env' (X.eann n)) fun vs' => again vs' H'
          | .exit id => KE (.exit id) env' H'
          | .ret => KE .ret env' H') fuel ((X.eann n).map fun k => val k.1) T.H = some y ∧ Q y := by
      clear h
      intro fuel
      induction fuel with
      | zero => intro st T val idss js v1 v2 _ _ _ _ _ _ _ _ _ _ h; simp [iterP] at h
      | succ fuel ih =>
        intro st T val idss js v1 v2 hT hkT hsame hlive hun hlen hsr hnd2 hbd hinv h
        simp only [iterP] at h
        simp only [iterN]
        rw [hun, List.drop_append_of_le_length (by omega), List.drop_of_length_le (by omega), List.nil_append, List.take_append_of_le_length (by omega), List.take_of_length_le (by omega)] at h
        replace h := ob h; obtain ⟨L2, h4, h⟩ := h
        replace h := ob h; obtain ⟨L2', h4', h⟩ := h
        replace h := ob h; obtain ⟨⟨env1, L3⟩, h5, h⟩ := h
        simp only at h
        rw [List.nodup_append] at hnd2
        obtain ⟨hnd2, hnd3, hnd4⟩ := hnd2
        obtain ⟨sX, x1, x2, x3, x4, x5, x6⟩ := rebase t1 hT hkT hnd hsame hlive hl1 hbd h4 (rids := idss.flatten ++ js.flatten) (fun z hz => (List.mem_append.1 hz).elim (hsr.lim z) (hbd.lim z))
        rw [← x1] at h4'
        obtain ⟨sB, e1, y2, y3, t2, y5, y6⟩ := fillBlks_sim (T := T) x4 (by rw [x3.lim, hl1]; exact hbd) (fun b hb => by
          obtain ⟨B, q1, _⟩ := hliv1 b hb
          have hlt := lget_lt q1
          exact ⟨Nat.lt_of_lt_of_le hlt x3.nb, by rw [x3.mu b hlt, hkT.mu b hlt]⟩) x2 x6 (fun z hz => x5 z (List.mem_append.2 (.inr hz))) hnd3 h4'
        have e2 : sB.H = T.H := y2.trans x2
        have k2 : Keep s1 sB := x3.trans y3
        have li2 : ∀ z ∈ idss.flatten, sB.Lim z := fun z hz => y6 z (x5 z (List.mem_append.2 (.inl hz))) (fun hm => hnd4 z hz z hm rfl)
        have n2 : ∀ z, T.N z → sB.N z := fun z hz => y5 z (x6 z hz)
        rw [← e1] at h5
        have hsrB : SR sB sB.lim val (X.ann n).slots v1 idss := by
          rw [k2.lim, hl1]
          have : ∀ {l : List (Nat × Bool × Ty)} {vs : List TV} {idss : List (List Nat)}, SR T s.lim val l vs idss → (∀ z ∈ idss.flatten, sB.Lim z) → SR sB s.lim val l vs idss := by
            intro l
            induction l with
            | nil => intro vs idss h _; cases vs <;> cases idss <;> simp_all [SR]
            | cons x l ih =>
              intro vs idss h hL
              obtain ⟨q, o, t⟩ := x
              match vs, idss, h with
              | v :: vs, i :: idss, h => exact ⟨h.1.frame (fun z hz hlt => ⟨n2 z hz, by rw [e2]⟩) (fun z _ => by rw [e2]), fun z hz => hL z (by simp [hz]), ih h.2.2 (fun z hz => hL z (by simp at hz ⊢; exact .inr hz))⟩
          exact this hsr li2
        have invB : ∀ q p, q ∉ (X.ann n).slots.map (·.1) → pget env0 q = some p → ER sB p (val q) := by
          intro q p hq hp
          have hmem := (kg2 q p hp).2
          obtain ⟨k, hk, rfl⟩ := List.mem_map.1 hmem
          rw [hinv k hk hq]; exact k2.ER (inv0 k.1 p hq hp)
        obtain ⟨s3, a1, a2, a3, a4, a5, a6, a7⟩ := inSlots_sim t2 hsrB hnd2 invB h5
        split at h
        · rename_i hfit
          rw [bindVals_head a5 hfit]
          have hEnv : EnvR s3 env1 (headEnv val (X.eann n)) := by
            intro q
            rw [headEnv_get]
            cases hp : pget env1 q with
            | none =>
              simp only
              by_cases hq : q ∈ (X.ann n).slots.map (·.1)
              · obtain ⟨p, hp2⟩ := a7 q hq; rw [hp] at hp2; simp at hp2
              · rw [a6 q hq] at hp
                split
                · rename_i hm
                  rw [kg3 q hm] at hp
                  obtain ⟨k, hk, rfl⟩ := List.mem_map.1 hm
                  obtain ⟨p, hp2⟩ := kg1 k hk
                  rw [hp] at hp2; simp at hp2
                · rfl
            | some p =>
              simp only
              have hm : q ∈ (X.eann n).map (·.1) := by
                by_cases hq : q ∈ (X.ann n).slots.map (·.1)
                · exact hslotK q hq
                · rw [a6 q hq] at hp; exact (kg2 q p hp).2
              rw [if_pos hm]
              exact ⟨val q, rfl, a5 q p hp⟩
          have hH3 : s3.H = T.H := a2.trans e2
          rw [← hH3]
          rw [← a1] at h
          have hl3 : s3.lim = XE.lim := by rw [a3.lim, k2.lim, hl1]; exact hlim
          refine ihc _ _ _ _ _ hl3 a4 hEnv (fun ex env' e' s4 k4 t4 he4 hu4 h => ?_) h
          have hks4 : Keep s1 s4 := (k2.trans a3).trans k4
          have hUnch : Unch (wslots c) env env' e e' := by
            intro q hq
            rcases hu4 q hq with h6 | ⟨h6, h7⟩
            · exact .inl h6
            · have hqs : q ∉ (X.ann n).slots.map (·.1) := fun hm => hq (hslotW q hm)
              rw [a6 q hqs] at h6
              cases hp : pget env0 q with
              | none => rw [hp] at h6; exact .inl h6
              | some p =>
                obtain ⟨c1, c2⟩ := kg2 q p hp
                right
                refine ⟨by rw [h6, hp, c1], ?_⟩
                rw [h7, headEnv_get, if_pos c2]
                obtain ⟨k, hk, rfl⟩ := List.mem_map.1 c2
                rw [hinv k hk hqs, hk0 k hk]
          cases ex with
          | normal =>
            simp only at h ⊢
            replace h := ob h; obtain ⟨env2, h6, h⟩ := h
            replace h := ob h; obtain ⟨⟨tvs', ids', L4⟩, h7, h⟩ := h
            simp only at h
            obtain ⟨kh1, kh2, kh3⟩ := keepEnv_get h6
            let val' : Nat → Value := fun q => (eget e' q).getD undef
            have hval' : ∀ q w, eget e' q = some w → val' q = w := fun q w hq => by simp [val', hq]
            have hk' : ∀ k ∈ X.eann n, eget e' k.1 = some (val' k.1) := fun k hk => by
              obtain ⟨p, hp⟩ := kh1 k hk
              obtain ⟨w, hw, _⟩ := he4.get hp
              rw [hval' _ _ hw]; exact hw
            rw [getKeep_val hk']; simp only [obind]
            obtain ⟨s5, w1, w2, idss', js', hw, hw1, m1, m2, m3, m4, m5, m6, m7, m8⟩ := outAll_sim hval' t4 he4 h7
            split at h
            · rename_i hsi hsb
              have hsi := sameIds_eq hsi
              subst hsi
              replace h := ob h; obtain ⟨st', h8, h⟩ := h
              have hks5 : Keep s1 s5 := hks4.trans m3
              rw [← m1] at hsb m8
              have hl4 : s4.lim = s.lim := hks4.lim.trans hl1
              have := ih st' s5 val' idss' js' w1 w2 m4 hks5 (fun b B hb hB => by
                obtain ⟨B', q1, q2⟩ := sameBut_get hsb b B (lget_bl.1 hB) (by simpa using hb)
                have q1' := lget_bl.2 q1
                obtain ⟨B0, p1, p2, p3⟩ := hks5.live b B' (lget_lt hB) q1'
                rw [hB] at p1; injection p1 with p1; subst p1
                obtain ⟨p4, _⟩ := p3 q2
                rw [q1', p4]) (liveRw_get m8) (by rw [unT_mkT _ h8]; exact hw) hw1 (by rw [← hl4]; exact m5) m6 (by rw [← hl4]; exact m7) (fun k hk hns => by
                have hqw := hkeptW k hk hns
                rcases hu4 k.1 hqw with h9 | ⟨h9, h10⟩
                · obtain ⟨p, hp⟩ := kh1 k hk
                  rw [hp] at h9; simp at h9
                · rw [headEnv_get, if_pos (List.mem_map.2 ⟨k, hk, rfl⟩)] at h10
                  rw [hval' _ _ h10]; exact hinv k hk hns) h
              rw [m2] at this; exact this
            · simp at h
          | exit id => exact hK (.exit id) env' e' s4 (hks1.trans hks4) t4 he4 hUnch h
          | ret => exact hK .ret env' e' s4 (hks1.trans hks4) t4 he4 hUnch h
        · simp at h
    have := main A.fuel st0 s1 val0 idss js v1 v2 t1 (Keep.refl s1) (fun b B _ h => h) (liveRw_get lv1) (by rw [unT_mkT _ h3]; exact hv) hv1 (by rw [← hlf]; exact sr1) nd1 (by rw [← hlf]; exact bd1) (fun _ _ _ => rfl) h
    rw [hX.fuel]
    rw [g1, gf] at this; exact this
  · simp at h

theorem opSlots_mem {ops : Array Oper} {o : Oper} (h : o ∈ ops.toList) {d : Nat} (hd : o.dst = some d) : d ∈ opSlots ops :=
  List.mem_filterMap.2 ⟨o, h, hd⟩

theorem lit_sim {W : List Nat} {s : S} {env : PEnv} {e : Env} {c : Operand} {b : Bool} (he : EnvR s env e) (hv : pev env c = some (.bool b)) (hW : ∀ d, c = .tmp d → d ∈ W) : EnvR s (plitE c b env) (litE c b e) ∧ Unch W env (plitE c b env) e (litE c b e) := by
  cases c with
  | tmp d => exact ⟨he.cons (p := .bool b) rfl, Unch.cons (hW d rfl)⟩
  | _ => exact ⟨he, Unch.refl _ _ _⟩

theorem vcode_sim (hX : XOk X XE) : ∀ (c : Code) (n : Nat), BodyOk X XE r Q c n
  | .skip, n => fun s env e KV KE hlim hs he hK h => hK .normal _ _ _ (Keep.refl _) hs he (Unch.refl _ _ _) (by simpa only [vcode] using h)
  | .label l, n => fun s env e KV KE hlim hs he hK h => hK .normal _ _ _ (Keep.refl _) hs he (Unch.refl _ _ _) (by simpa only [vcode] using h)
  | .exit id, n => fun s env e KV KE hlim hs he hK h => hK (.exit id) _ _ _ (Keep.refl _) hs he (Unch.refl _ _ _) (by simpa only [vcode] using h)
  | .ret, n => fun s env e KV KE hlim hs he hK h => hK .ret _ _ _ (Keep.refl _) hs he (Unch.refl _ _ _) (by simpa only [vcode] using h)
  | .region id ops d, n => fun s env e KV KE hlim hs he hK h => by
    simp only [vcode] at h
    simp only [evCode]
    have hW : ∀ (j : Nat) (d' : Nat), (ops[j]?).bind (fun (x : Oper) => x.dst) = some d' → d' ∈ wslots (.region id ops d) := by
      intro j d' hj
      cases ho : ops[j]? with
      | none => rw [ho] at hj; simp at hj
      | some o => rw [ho] at hj; exact opSlots_mem (by have := Array.mem_of_getElem? ho; simpa using this) (by simpa using hj)
    cases d with
    | false => exact vops_sim hX hW env e (fun o ho d hd => opSlots_mem ho hd) hlim hs he (Unch.refl _ _ _) (fun env' e' s' k' t' he' hu' h => hK .normal env' e' s' k' t' he' hu' h) h
    | true => exact vdraw_sim hX hW (fun o ho d hd => opSlots_mem ho hd) hlim hs he (fun env' e' s' k' t' he' hu' h => hK .normal env' e' s' k' t' he' hu' h) h
  | .seq a b, n => fun s env e KV KE hlim hs he hK h => by
    simp only [vcode] at h
    simp only [evCode]
    have hma : ∀ q, q ∈ wslots a → q ∈ wslots (.seq a b) := fun q hq => by simp only [wslots, List.mem_append]; exact .inl hq
    have hmb : ∀ q, q ∈ wslots b → q ∈ wslots (.seq a b) := fun q hq => by simp only [wslots, List.mem_append]; exact .inr hq
    refine vcode_sim hX a n _ _ _ _ _ hlim hs he (fun ex env' e' s' k' t' he' hu' h => ?_) h
    cases ex with
    | normal =>
      simp only at h ⊢
      exact vcode_sim hX b _ _ _ _ _ _ (k'.lim.trans hlim) t' he' (fun ex2 env2 e2 s2 k2 t2 he2 hu2 h => hK ex2 env2 e2 s2 (k'.trans k2) t2 he2 ((hu'.mono hma).trans (hu2.mono hmb)) h) h
    | exit id => exact hK (.exit id) env' e' s' k' t' he' (hu'.mono hma) h
    | ret => exact hK .ret env' e' s' k' t' he' (hu'.mono hma) h
  | .cond c a b, n => fun s env e KV KE hlim hs he hK h => by
    simp only [vcode] at h
    simp only [evCode]
    have hma : ∀ q, q ∈ wslots a → q ∈ wslots (.cond c a b) := fun q hq => by cases c <;> simp [wslots, hq]
    have hmb : ∀ q, q ∈ wslots b → q ∈ wslots (.cond c a b) := fun q hq => by cases c <;> simp [wslots, hq]
    have hmc : ∀ d, c = .tmp d → d ∈ wslots (.cond c a b) := fun d hd => by subst hd; simp [wslots]
    replace h := ob h; obtain ⟨p, h1, h⟩ := h
    obtain ⟨v, e1, r1⟩ := pev_rel he h1
    rw [e1]; simp only [obind]
    split at h
    · rename_i t
      obtain rfl : v = .bool t := r1
      simp only [vBool]
      obtain ⟨q1, q2⟩ := lit_sim (b := t) he h1 hmc
      cases t with
      | true =>
        simp only [oif] at h ⊢
        exact vcode_sim hX a n _ _ _ _ _ hlim hs q1 (fun ex2 env2 e2 s2 k2 t2 he2 hu2 h => hK ex2 env2 e2 s2 k2 t2 he2 (q2.trans (hu2.mono hma)) h) h
      | false =>
        simp only [oif] at h ⊢
        exact vcode_sim hX b _ _ _ _ _ _ hlim hs q1 (fun ex2 env2 e2 s2 k2 t2 he2 hu2 h => hK ex2 env2 e2 s2 k2 t2 he2 (q2.trans (hu2.mono hmb)) h) h
    · simp at h
  | .block id c, n => fun s env e KV KE hlim hs he hK h => by
    simp only [vcode] at h
    simp only [evCode]
    refine vcode_sim hX c n _ _ _ _ _ hlim hs he (fun ex env' e' s' k' t' he' hu' h => ?_) h
    cases ex with
    | normal => exact hK .normal env' e' s' k' t' he' hu' h
    | exit id' =>
      simp only at h ⊢
      cases hb : Nat.beq id' id with
      | true => rw [hb] at h; exact hK .normal env' e' s' k' t' he' hu' h
      | false => rw [hb] at h; exact hK (.exit id') env' e' s' k' t' he' hu' h
    | ret => exact hK .ret env' e' s' k' t' he' hu' h
  | .loop c, n => fun s env e KV KE hlim hs he hK h => loop_sim hX (vcode_sim hX c (n + 1)) hlim hs he hK h
  | .rangeFunc _ _ _ _, n => fun s env e KV KE hlim hs he hK h => by simp [vcode] at h
  | .scope _, n => fun s env e KV KE hlim hs he hK h => by simp [vcode] at h
  | .refuse _, n => fun s env e KV KE hlim hs he hK h => by simp [vcode] at h
  | .goto _, n => fun s env e KV KE hlim hs he hK h => by simp [vcode] at h

end
end Go.Pv
