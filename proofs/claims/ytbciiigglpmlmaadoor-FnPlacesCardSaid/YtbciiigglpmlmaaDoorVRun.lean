/-
  Runs: a function by value agrees with the function in the first interpreter, at every depth.
  Conditions: none.
-/
import Derived.Test.YtbciiigglpmlmaaDoorVCode
set_option linter.all false
namespace Go.Pv
open Go.Ev

/-- The annotations of the first interpreter. -/
def AnnV.ev (A : AnnV) : Ann := ⟨A.fuel, A.eloops, fun _ => .keep, A.ext⟩

theorem resV_sim {P : Program} {s : S} {env : PEnv} {e : Env} (hs : StR s) (he : EnvR s env e) : ∀ {l : List ResultVar} {vs : List PV}, resV P env s.L l = some vs → ∃ ws, evRes P e s.H l = some ws ∧ All2 (ER s) vs ws
  | [], vs, h => by simp [resV] at h; subst h; exact ⟨[], rfl, trivial⟩
  | .tmp t :: l, vs, h => by
    simp only [resV] at h
    replace h := ob h; obtain ⟨p, h1, h⟩ := h
    replace h := ob h; obtain ⟨ps, h2, h⟩ := h
    simp at h; subst h
    obtain ⟨w, e1, r1⟩ := he.get h1
    obtain ⟨ws, e2, r2⟩ := resV_sim hs he h2
    exact ⟨w :: ws, by simp [evRes, e1, e2, obind], r1, r2⟩
  | .cell a t :: l, vs, h => by
    simp only [resV] at h
    replace h := ob h; obtain ⟨p, h1, h⟩ := h
    obtain ⟨w, e1, r1⟩ := he.get h1
    split at h
    · rename_i b off
      split at h
      · rename_i ver rw cs hb
        replace h := ob h; obtain ⟨i, h2, h⟩ := h
        obtain ⟨hlb, m, hm, hsh, rfl⟩ := r1
        have hB := hs.blk b _ hb
        unfold BR at hB; simp only at hB
        obtain ⟨_, m', k, hm', _, hk, hcs, _⟩ := hB
        rw [hm] at hm'; injection hm' with hm'; subst hm'
        have hl := All2.length hcs
        split at h
        · rename_i fs hu
          split at h
          · rename_i hle
            have hle := Nat.le_of_ble_eq_true hle
            replace h := ob h; obtain ⟨ps, h3, h⟩ := h
            simp at h; subst h
            obtain ⟨ws, e2, r2⟩ := resV_sim hs he h3
            have hld : hloadN s.H ⟨m.z, off, none⟩ i.size = some ((k.cells.drop off).take i.size) := by
              unfold hloadN; simp only [hk, obind]
              have : Nat.ble (off + i.size) k.cells.length = true := Nat.ble_eq_true_of_le (by omega)
              rw [this]
            refine ⟨.agg ((k.cells.drop off).take i.size).toArray :: ws, ?_, ⟨_, rfl, All2.take _ (All2.drop _ hcs)⟩, r2⟩
            simp only [evRes, e1, obind, h2, hu, hld, e2]
          · simp at h
        · rename_i nn fs hu
          split at h
          · rename_i hle
            have hle := Nat.le_of_ble_eq_true hle
            replace h := ob h; obtain ⟨ps, h3, h⟩ := h
            simp at h; subst h
            obtain ⟨ws, e2, r2⟩ := resV_sim hs he h3
            have hld : hloadN s.H ⟨m.z, off, none⟩ i.size = some ((k.cells.drop off).take i.size) := by
              unfold hloadN; simp only [hk, obind]
              have : Nat.ble (off + i.size) k.cells.length = true := Nat.ble_eq_true_of_le (by omega)
              rw [this]
            refine ⟨.agg ((k.cells.drop off).take i.size).toArray :: ws, ?_, ⟨_, rfl, All2.take _ (All2.drop _ hcs)⟩, r2⟩
            simp only [evRes, e1, obind, h2, hu, hld, e2]
          · simp at h
        · rename_i d hd1 hd2 hu
          replace h := ob h; obtain ⟨u, h5, h⟩ := h
          replace h := ob h; obtain ⟨ps, h3, h⟩ := h
          simp at h; subst h
          obtain ⟨ws, e2, r2⟩ := resV_sim hs he h3
          obtain ⟨w, g1, g2⟩ := All2.get _ hcs h5
          have hld : hload s.H ⟨m.z, off, none⟩ = some w := by
            unfold hload; simp only [hk, obind]; exact g1
          refine ⟨w :: ws, ?_, ER.of0 g2, r2⟩
          simp only [evRes, e1, obind, h2]
          rw [hu]
          cases d <;> first | exact absurd rfl (hd1 _) | exact absurd rfl (hd2 _ _) | (simp only [hld, e2])
        · simp at h
      · simp at h
    · simp at h

theorem pargs_env {s : S} : ∀ {ps : List PV} {ws : List Value} {i : Nat}, All2 (ER s) ps ws → EnvR s (pargs i ps) (argsEnv i ws)
  | [], [], i, _ => fun q => by simp [pargs, pget, argsEnv, eget]
  | p :: ps, w :: ws, i, h => (pargs_env h.2).cons h.1

theorem all2_notTup {s : S} : ∀ {ps : List PV} {ws : List Value}, All2 (ER s) ps ws → ps.all notTup = true → All2 (AR s) ps ws
  | [], [], _, _ => trivial
  | p :: ps, w :: ws, h, g => by
    simp only [List.all_cons, Bool.and_eq_true] at g
    refine ⟨?_, all2_notTup h.2 g.2⟩
    cases p with
    | tup cs => simp [notTup] at g
    | _ => exact h.1

theorem onePV_ER {s : S} {ps : List PV} {ws : List Value} (h : All2 (ER s) ps ws) (g : ps.all notTup = true) : ER s (onePV ps) (oneOf ws) := onePV_rel (all2_notTup h g)

/-- An argument's block. -/
def PB (s : S) : List (PM × Ty) → List Value → List (List Nat) → Nat → Prop
  | [], [], [], _ => True
  | (m, _) :: ps, w :: ws, ids :: idss, i => match m with
    | .ro => PB s ps ws idss i
    | .mv => PB s ps ws idss (i + 1)
    | .io => (i < s.L.bl.length ∧ match s.μ i with
        | none => w = .slice none 0 0 ∧ ids = []
        | some m => w = .slice (some ⟨m.z, m.sh, none⟩) m.n m.es ∧ ids = [m.z]) ∧ PB s ps ws idss (i + 1)
    | .ps => (i < s.L.bl.length ∧ ∃ m, s.μ i = some m ∧ m.sh = 0 ∧ w = .pointer (some ⟨m.z, 0, none⟩) ∧ ids = [m.z]) ∧ PB s ps ws idss (i + 1)
  | _, _, _, _ => False

theorem PB.keep {s s' : S} (hk : Keep s s') : ∀ {ps : List (PM × Ty)} {ws : List Value} {idss : List (List Nat)} {i : Nat}, PB s ps ws idss i → PB s' ps ws idss i
  | [], [], [], _, _ => trivial
  | (m, t) :: ps, w :: ws, ids :: idss, i, h => by
    cases m with
    | ro => exact PB.keep (ps := ps) hk h
    | mv => exact PB.keep (ps := ps) hk h
    | io => obtain ⟨⟨h1, h2⟩, h3⟩ := h; exact ⟨⟨Nat.lt_of_lt_of_le h1 hk.nb, by rw [hk.mu i h1]; exact h2⟩, h3.keep hk⟩
    | ps => obtain ⟨⟨h1, h2⟩, h3⟩ := h; exact ⟨⟨Nat.lt_of_lt_of_le h1 hk.nb, by rw [hk.mu i h1]; exact h2⟩, h3.keep hk⟩

theorem inArgs_sim : ∀ {ps : List (PM × Ty)} {vs : List TV} {ws : List Value} {idss : List (List Nat)} {s : S} {i : Nat} {env : PEnv} {L' : LS}, s.L.clk = 0 → StR s → HRs s.N s.H s.lim (ps.map fun p => p.1.kd) vs ws idss → (∀ z ∈ idss.flatten, s.Lim z) → idss.flatten.Nodup → inArgs ps vs i s.L = some (env, L') →
    ∃ s', s'.L = L' ∧ s'.H = s.H ∧ Keep s s' ∧ StR s' ∧ EnvR s' env (argsEnv i ws) ∧ PB s' ps ws idss s.L.bl.length
  | [], [], [], [], s, i, env, L', _, hs, _, _, _, h => by
    simp [inArgs] at h; obtain ⟨rfl, rfl⟩ := h
    exact ⟨s, rfl, rfl, Keep.refl s, hs, fun q => by simp [pget, argsEnv, eget], trivial⟩
  | (m, t) :: ps, v :: vs, w :: ws, ids :: idss, s, i, env, L', hclk, hs, hh, hl, hn, h => by
    obtain ⟨hh1, hh2⟩ := hh
    rw [List.flatten_cons, List.nodup_append] at hn
    obtain ⟨hn1, hn2, hn3⟩ := hn
    have hl2 : ∀ z ∈ idss.flatten, s.Lim z := fun z hz => hl z (by rw [List.flatten_cons, List.mem_append]; exact .inr hz)
    have next : ∀ (s1 : S) (pv : PV), Keep s s1 → StR s1 → s1.H = s.H → s1.L.clk = 0 → (∀ z, s.N z → s1.N z) → (∀ z ∈ idss.flatten, s1.Lim z) → ER s1 pv w → (obind (inArgs ps vs (i + 1) s1.L) fun r => some ((i, pv) :: r.1, r.2)) = some (env, L') →
        ∃ s', s'.L = L' ∧ s'.H = s.H ∧ Keep s1 s' ∧ StR s' ∧ EnvR s' env (argsEnv i (w :: ws)) ∧ PB s' ps ws idss s1.L.bl.length := by
      clear h
      intro s1 pv k1 t1 g1 c1 n1 l1 ha h
      replace h := ob h; obtain ⟨⟨env', L3⟩, h2, h⟩ := h
      simp at h; obtain ⟨rfl, rfl⟩ := h
      have hh2' : HRs s1.N s1.H s1.lim (ps.map fun p => p.1.kd) vs ws idss := by
        rw [k1.lim]; exact hh2.frame (fun z hz _ => ⟨n1 z hz, by rw [g1]⟩) (fun z _ => by rw [g1])
      obtain ⟨s2, a1, a2, a3, a4, a5, a6⟩ := inArgs_sim c1 t1 hh2' l1 hn2 h2
      exact ⟨s2, a1, a2.trans g1, a3, a4, a5.cons (a3.ER ha), a6⟩
    have own : ∀ (u : Ty) (x : List u.T), u.isOs = false → v = ⟨.sl u, x⟩ → OwnS s.N s.H s.lim u x w ids → (obind (inArgs ps vs (i + 1) (lpush s.L (.arr u x))) fun r => some ((i, .osl s.L.bl.length 0 none) :: r.1, r.2)) = some (env, L') →
        ∃ s', s'.L = L' ∧ s'.H = s.H ∧ Keep s s' ∧ StR s' ∧ EnvR s' env (argsEnv i (w :: ws)) ∧ PB s' ps ws idss (s.L.bl.length + 1) ∧ (s.L.bl.length < s'.L.bl.length ∧ match s'.μ s.L.bl.length with
          | none => w = .slice none 0 0 ∧ ids = []
          | some m => w = .slice (some ⟨m.z, m.sh, none⟩) m.n m.es ∧ ids = [m.z]) := by
      clear h
      intro u x hos hv ho h
      rcases ho with ⟨rfl, rfl, rfl⟩ | ⟨z, oo, k, ks, rfl, _, rfl, q1, q2, q3, q4, q5, q6⟩
      · obtain ⟨s1, e1, e2, e3, k1, t1, l1, n1⟩ := hs.push0 u
        rw [← e1] at h
        have hlen : s1.L.bl.length = s.L.bl.length + 1 := by rw [e1, lpush_len]
        obtain ⟨s2, b1, b2, b3, b4, b5, b6⟩ := next s1 _ k1 t1 e2 (by rw [e1]; exact hclk) n1 (fun z hz => by rw [l1]; exact hl2 z hz) (ER.of0 (p := .osl s.L.bl.length 0 none) ⟨by omega, by rw [e3]; simp⟩) h
        rw [hlen] at b6
        have hlt : s.L.bl.length < s1.L.bl.length := by omega
        exact ⟨s2, b1, b2, k1.trans b3, b4, b5, b6, Nat.lt_of_lt_of_le hlt b3.nb, by rw [b3.mu _ hlt, e3]; exact ⟨rfl, rfl⟩⟩
      · have hks := q6.noOs hos
        subst hks
        have hz : s.Lim z := hl z (by simp)
        obtain ⟨s1, e1, e2, e3, k1, t1, l1, o1⟩ := hs.adopt (.arr u x) ⟨z, oo, u.size, x.length⟩ hz (fun s' hk hm hH hNi => by
          unfold BR; simp only [hm]
          refine ⟨trivial, trivial, k, by rw [hH]; exact q1, q4, fun i hi => ?_, fun _ => ⟨q2, by rw [hk.lim]; exact q3⟩, fun e => absurd e (by decide)⟩
          have := q5.2 i hi
          have hmi := mul_lt (k := u.size) hi
          unfold seg at this; rw [List.drop_take, List.take_take, Nat.min_eq_left (by omega), List.drop_drop] at this
          rw [hH]; exact Rep.mono (fun z hz => (hNi z).2 hz) _ this)
        rw [← e1] at h
        have hlen : s1.L.bl.length = s.L.bl.length + 1 := by rw [e1, lpush_len]
        obtain ⟨s2, b1, b2, b3, b4, b5, b6⟩ := next s1 _ k1 t1 e2 (by rw [e1]; exact hclk) (fun z' hz' => ⟨fun h => hz'.1 ((o1 z').1 h), by rw [k1.ban]; exact hz'.2⟩) (fun z' hz' => (l1 z').2 ⟨hl2 z' hz', fun e => hn3 z (by simp) z' hz' e.symm⟩) (ER.of0 (p := .osl s.L.bl.length 0 none) ⟨by omega, by rw [e3]; simp⟩) h
        rw [hlen] at b6
        have hlt : s.L.bl.length < s1.L.bl.length := by omega
        exact ⟨s2, b1, b2, k1.trans b3, b4, b5, b6, Nat.lt_of_lt_of_le hlt b3.nb, by rw [b3.mu _ hlt, e3]; exact ⟨rfl, rfl⟩⟩
    simp only [inArgs] at h
    cases m with
    | ro =>
      simp only at h
      obtain ⟨cs, hv, hrep⟩ := hh1
      exact next s _ (Keep.refl s) hs rfl hclk (fun _ h => h) hl2 (ER.of (wrap_rel hv (Rep.mono (fun z hz => ⟨hz, fun c h1 h2 => by omega⟩) _ hrep.rep))) h
    | mv =>
      obtain ⟨u, x, rfl, ho⟩ := hh1
      simp only at h
      obtain ⟨s1, e1, e2, k1, t1, a1, n1, l1⟩ := giveO_sim hs ho (fun z hz => hl z (by rw [List.flatten_cons, List.mem_append]; exact .inl hz))
      rw [← e1] at h
      have hlen : s1.L.bl.length = s.L.bl.length + 1 := by rw [e1, lpush_len]
      obtain ⟨s2, b1, b2, b3, b4, b5, b6⟩ := next s1 _ k1 t1 e2 (by rw [e1]; exact hclk) n1 (fun z hz => l1 z (hl2 z hz) (fun hm => hn3 z hm z hz rfl)) (ER.of0 a1) h
      rw [hlen] at b6
      exact ⟨s2, b1, b2, k1.trans b3, b4, b5, b6⟩
    | io =>
      obtain ⟨u, x, rfl, ho⟩ := hh1
      simp only at h
      split at h
      · simp at h
      rename_i hos
      obtain ⟨s', a1, a2, a3, a4, a5, a6, a7⟩ := own u x hos rfl ho h
      exact ⟨s', a1, a2, a3, a4, a5, a7, a6⟩
    | ps =>
      obtain ⟨z, k, rfl, rfl, q1, q2, q3, q4⟩ := hh1
      simp only at h
      have hz : s.Lim z := hl z (by simp)
      obtain ⟨s1, e1, e2, e3, k1, t1, l1, o1⟩ := hs.adopt (.cells (reify 0 v.1 v.2)) ⟨z, 0, 0, 0⟩ hz (fun s' hk hm hH hNi => by
        unfold BR; simp only
        refine ⟨trivial, _, k, hm, rfl, by rw [hH]; exact q1, reify_rel _ ?_, q2, by rw [hk.lim]; exact q3⟩
        exact Rep.frame (H := s.H) (fun z hz hlt => ⟨hk.NN (st := 0) hlt ⟨hz, fun c h1 h2 => by omega⟩, by rw [hH]⟩) _ q4)
      rw [← e1] at h
      have hlen : s1.L.bl.length = s.L.bl.length + 1 := by rw [e1, lpush_len]
      have hlt : s.L.bl.length < s1.L.bl.length := by omega
      obtain ⟨s2, b1, b2, b3, b4, b5, b6⟩ := next s1 _ k1 t1 e2 (by rw [e1]; exact hclk) (fun z' hz' => ⟨fun h => hz'.1 ((o1 z').1 h), by rw [k1.ban]; exact hz'.2⟩) (fun z' hz' => (l1 z').2 ⟨hl2 z' hz', fun e => hn3 z (by simp) z' hz' e.symm⟩) (ER.of0 (p := .ptr s.L.bl.length 0) ⟨by omega, _, e3, rfl, rfl⟩) h
      rw [hlen] at b6
      exact ⟨s2, b1, b2, k1.trans b3, b4, b5, ⟨Nat.lt_of_lt_of_le hlt b3.nb, _, by rw [b3.mu _ hlt]; exact e3, rfl, rfl, rfl⟩, b6⟩

theorem outRes_sim : ∀ {rs : List (Bool × Ty)} {ps : List PV} {ws : List Value} {s : S} {vs : List TV} {L' : LS}, StR s → All2 (ER s) ps ws → outRes rs ps s.L = some (vs, L') →
    ∃ s1 idss, s1.L = L' ∧ s1.H = s.H ∧ s1.μ = s.μ ∧ Keep s s1 ∧ StR s1 ∧ (∀ z, s.Lim z → s1.Lim z) ∧ HRs s1.N s1.H s.lim (rs.map fun q => kdR q.1) vs ws idss ∧ (∀ z ∈ idss.flatten, s1.Lim z) ∧ idss.flatten.Nodup ∧ (∀ z ∈ idss.flatten, ¬ s.Lim z) ∧ vs.length = rs.length
  | [], [], [], s, vs, L', hs, he, h => by
    simp [outRes] at h; obtain ⟨rfl, rfl⟩ := h
    exact ⟨s, [], rfl, rfl, rfl, Keep.refl s, hs, fun _ h => h, trivial, by simp, by simp, by simp, rfl⟩
  | (o, t) :: rs, p :: ps, w :: ws, s, vs, L', hs, he, h => by
    obtain ⟨r1, he⟩ := he
    simp only [outRes] at h
    replace h := ob h; obtain ⟨⟨x, L2⟩, h2, h⟩ := h
    replace h := ob h; obtain ⟨⟨vs', L3⟩, h3, h⟩ := h
    simp at h; obtain ⟨rfl, rfl⟩ := h
    simp only at h3
    cases o with
    | true =>
      obtain ⟨hx, s1, ids, l1, g1, u1, k1, t1, hh, hl, hnl, hnd, ho⟩ := outOne_own hs r1 h2
      rw [← l1] at h3
      obtain ⟨s2, idss, a1, a2, a3, a4, a5, a6, a7, a8, a9, a10, a11⟩ := outRes_sim t1 (All2.mono (fun _ _ => k1.ER) he) h3
      have hlim : s1.lim = s.lim := k1.lim
      refine ⟨s2, ids :: idss, a1, a2.trans g1, a3.trans u1, k1.trans a4, a5, fun z hz => a6 z ((hl z).2 (.inl hz)), ⟨hh.frame (fun z hz hlt => ⟨a4.N hlt hz, by rw [a2]⟩) (fun z _ => by rw [a2]), by rw [← hlim]; exact a7⟩, ?_, ?_, ?_, by simp [a11]⟩
      · intro z hz
        rw [List.flatten_cons, List.mem_append] at hz
        rcases hz with hz | hz
        · exact a6 z ((hl z).2 (.inr hz))
        · exact a8 z hz
      · rw [List.flatten_cons, List.nodup_append]
        exact ⟨hnd, a9, fun a ha b hb e => by subst e; exact a10 a hb ((hl a).2 (.inr ha))⟩
      · intro z hz
        rw [List.flatten_cons, List.mem_append] at hz
        rcases hz with hz | hz
        · exact hnl z hz
        · exact fun h => a10 z hz ((hl z).2 (.inl h))
    | false =>
      simp only [outOne] at h2
      split at h2
      · rename_i hok
        simp only [Bool.and_eq_true] at hok
        replace h2 := ob h2; obtain ⟨⟨y, L4⟩, h4, h2⟩ := h2
        simp at h2; obtain ⟨rfl, rfl⟩ := h2
        obtain ⟨s1, ids, l1, g1, u1, k1, t1, rr1, hl, hnl, hnd, o1⟩ := takeC_sim t hs (r1.cells hok.1) h4
        rw [← l1] at h3
        obtain ⟨s2, idss, a1, a2, a3, a4, a5, a6, a7, a8, a9, a10, a11⟩ := outRes_sim t1 (All2.mono (fun _ _ => k1.ER) he) h3
        have hlim : s1.lim = s.lim := k1.lim
        refine ⟨s2, ids :: idss, a1, a2.trans g1, a3.trans u1, k1.trans a4, a5, fun z hz => a6 z ((hl z).2 (.inl hz)), ⟨⟨_, isVal_of r1 hok.1 hok.2, RepO.frame (fun z hz hlt => ⟨a4.N hlt hz, by rw [a2]⟩) t rr1 (fun z _ => by rw [a2])⟩, by rw [← hlim]; exact a7⟩, ?_, ?_, ?_, by simp [a11]⟩
        · intro z hz
          rw [List.flatten_cons, List.mem_append] at hz
          rcases hz with hz | hz
          · exact a6 z ((hl z).2 (.inr hz))
          · exact a8 z hz
        · rw [List.flatten_cons, List.nodup_append]
          exact ⟨hnd, a9, fun a ha b hb e => by subst e; exact a10 a hb ((hl a).2 (.inr ha))⟩
        · intro z hz
          rw [List.flatten_cons, List.mem_append] at hz
          rcases hz with hz | hz
          · exact hnl z hz
          · exact fun h => a10 z hz ((hl z).2 (.inl h))
      · simp at h2
  | [], _ :: _, _, _, _, _, _, _, h => by simp [outRes] at h
  | _ :: _, [], _, _, _, _, _, _, h => by simp [outRes] at h

theorem outOuts_sim : ∀ {ps : List (PM × Ty)} {ws : List Value} {idss : List (List Nat)} {s : S} {i : Nat} {vs : List TV} {L' : LS}, StR s → PB s ps ws idss i → outOuts ps i s.L = some (vs, L') →
    ∃ s1, s1.L = L' ∧ s1.H = s.H ∧ s1.μ = s.μ ∧ Keep s s1 ∧ StR s1 ∧ s1.Lim = s.Lim ∧ HRs s1.N s1.H s.lim (outKd ps) vs (outVs ps ws) (outIds ps idss)
  | [], [], [], s, i, vs, L', hs, _, h => by
    simp [outOuts] at h; obtain ⟨rfl, rfl⟩ := h
    exact ⟨s, rfl, rfl, rfl, Keep.refl s, hs, rfl, trivial⟩
  | (m, t) :: ps, w :: ws, ids :: idss, s, i, vs, L', hs, hp, h => by
    simp only [outOuts] at h
    cases m with
    | ro => exact outOuts_sim (ps := ps) hs hp h
    | mv => exact outOuts_sim (ps := ps) hs hp h
    | io =>
      obtain ⟨⟨hi, hm⟩, hp2⟩ := hp
      simp only at h
      split at h
      · rename_i u
        replace h := ob h; obtain ⟨x, h1, h⟩ := h
        replace h := ob h; obtain ⟨⟨vs', L3⟩, h2, h⟩ := h
        simp at h; obtain ⟨rfl, rfl⟩ := h
        obtain ⟨s1, a1, a2, a3, a4, a5, a6, a7⟩ := outOuts_sim hs hp2 h2
        refine ⟨s1, a1, a2, a3, a4, a5, a6, ?_, a7⟩
        unfold outAb at h1
        split at h1
        · rename_i ver u' xs hb
          split at h1
          · simp at h1
          rename_i hos
          have hno : ∀ t, u' ≠ .os t := fun t e => by subst e; simp [Ty.isOs] at hos
          replace h1 := ob h1; obtain ⟨y, h4, h1⟩ := h1
          simp at h1; subst h1
          have e0 := tcast_eq h4
          injection e0 with e0; subst e0
          have := tcast_self h4; subst this
          cases hm' : s.μ i with
          | none =>
            rw [hm'] at hm; obtain ⟨rfl, rfl⟩ := hm
            exact ⟨u', xs, rfl, .inl ⟨rfl, arr_nil hs hb hm', rfl⟩⟩
          | some m =>
            rw [hm'] at hm; obtain ⟨rfl, rfl⟩ := hm
            obtain ⟨b1, b2, k, b3, b4, b5, b6, b7⟩ := arr_info hs hb hm'
            exact ⟨u', xs, rfl, .inr ⟨m.z, m.sh, k, [], rfl, by simp, by rw [b1, b2], by rw [a2]; exact b3, (b6 rfl).1, (b6 rfl).2, arr_fit hs hb hm' b3, (RL.ofBlk b4 b5).frame (fun z hz hlt => ⟨a4.N hlt hz, by rw [a2]⟩), InR.ofNo hno⟩⟩
        · simp at h1
      · simp at h
    | ps =>
      obtain ⟨⟨hi, m, hm, hsh, rfl, rfl⟩, hp2⟩ := hp
      simp only at h
      replace h := ob h; obtain ⟨⟨x, L2⟩, h1, h⟩ := h
      replace h := ob h; obtain ⟨⟨vs', L3⟩, h2, h⟩ := h
      simp at h; obtain ⟨rfl, rfl⟩ := h
      unfold outCb at h1
      split at h1
      · rename_i ver cs hb
        replace h1 := ob h1; obtain ⟨⟨y, L4⟩, h4, h1⟩ := h1
        simp at h1; obtain ⟨rfl, rfl⟩ := h1
        have hB := hs.blk i _ hb
        unfold BR at hB; simp only at hB
        obtain ⟨_, m', k, hm', _, hk, hcs, hro, hlm⟩ := hB
        rw [hm] at hm'; injection hm' with hm'; subst hm'
        obtain ⟨s1, l1, g1, u1, k1, t1, rr1, o1, li1⟩ := refl_fz t hs hcs h4
        simp only at h2
        rw [← l1] at h2
        obtain ⟨s2, a1, a2, a3, a4, a5, a6, a7⟩ := outOuts_sim t1 (hp2.keep k1) h2
        have hlim : s1.lim = s.lim := k1.lim
        exact ⟨s2, a1, a2.trans g1, a3.trans u1, k1.trans a4, a5, a6.trans li1, ⟨m.z, k, rfl, rfl, by rw [a2, g1]; exact hk, hro, hlm, a4.repN rr1⟩, by rw [← hlim]; exact a7⟩
      · simp at h1

theorem PB.live {s : S} : ∀ {ps : List (PM × Ty)} {ws : List Value} {idss : List (List Nat)} {i : Nat}, PB s ps ws idss i → ∀ z ∈ (outIds ps idss).flatten, ∃ j ∈ outIdx ps i, ∃ m, s.μ j = some m ∧ m.z = z
  | [], [], [], i, _, z, hz => by simp [outIds] at hz
  | (m, t) :: ps, w :: ws, ids :: idss, i, h, z, hz => by
    cases m with
    | ro => exact PB.live (ps := ps) h z hz
    | mv => exact PB.live (ps := ps) h z hz
    | io =>
      obtain ⟨⟨h1, h2⟩, h3⟩ := h
      simp only [outIds, List.flatten_cons, List.mem_append] at hz
      simp only [outIdx]
      rcases hz with hz | hz
      · cases hm : s.μ i with
        | none => rw [hm] at h2; rw [h2.2] at hz; simp at hz
        | some m => rw [hm] at h2; rw [h2.2] at hz; simp at hz; exact ⟨i, by simp, m, hm, hz.symm⟩
      · obtain ⟨j, j1, j2⟩ := h3.live z hz; exact ⟨j, by simp [j1], j2⟩
    | ps =>
      obtain ⟨⟨h1, m, h2, _, _, h4⟩, h3⟩ := h
      simp only [outIds, List.flatten_cons, List.mem_append] at hz
      simp only [outIdx]
      rcases hz with hz | hz
      · rw [h4] at hz; simp at hz; exact ⟨i, by simp, m, h2, hz.symm⟩
      · obtain ⟨j, j1, j2⟩ := h3.live z hz; exact ⟨j, by simp [j1], j2⟩

theorem outIdx_ge : ∀ {ps : List (PM × Ty)} {i j : Nat}, j ∈ outIdx ps i → i ≤ j
  | [], i, j, h => by simp [outIdx] at h
  | (m, t) :: ps, i, j, h => by
    cases m with
    | ro => exact outIdx_ge (ps := ps) h
    | mv => have := outIdx_ge (ps := ps) (i := i + 1) h; omega
    | io => simp only [outIdx, List.mem_cons] at h; rcases h with rfl | h; exact Nat.le_refl _; have := outIdx_ge h; omega
    | ps => simp only [outIdx, List.mem_cons] at h; rcases h with rfl | h; exact Nat.le_refl _; have := outIdx_ge h; omega

theorem PB.nodup {s : S} (hs : StR s) : ∀ {ps : List (PM × Ty)} {ws : List Value} {idss : List (List Nat)} {i : Nat}, PB s ps ws idss i → (∀ j ∈ outIdx ps i, ∃ B, lget s.L j = some B ∧ B.rw = true) → (outIds ps idss).flatten.Nodup
  | [], [], [], i, _, _ => by simp [outIds]
  | (m, t) :: ps, w :: ws, ids :: idss, i, h, hl => by
    cases m with
    | ro => exact PB.nodup (ps := ps) hs h hl
    | mv => exact PB.nodup (ps := ps) hs h hl
    | io =>
      obtain ⟨⟨h1, h2⟩, h3⟩ := h
      have ht := PB.nodup hs h3 (fun j hj => hl j (by simp [outIdx, hj]))
      simp only [outIds, List.flatten_cons]
      cases hm : s.μ i with
      | none => rw [hm] at h2; rw [h2.2]; simpa using ht
      | some m =>
        rw [hm] at h2; rw [h2.2, List.nodup_append]
        refine ⟨by simp, ht, fun a ha b hb e => ?_⟩
        simp at ha; subst ha; subst e
        obtain ⟨j, j1, m', j2, j3⟩ := h3.live _ hb
        obtain ⟨B, b1, b2⟩ := hl i (by simp [outIdx])
        obtain ⟨B', c1, c2⟩ := hl j (by simp [outIdx, j1])
        have := hs.inj i j B B' m m' b1 c1 b2 hm j2 j3.symm
        have := outIdx_ge j1; omega
    | ps =>
      obtain ⟨⟨h1, m, h2, h5, h6, h4⟩, h3⟩ := h
      have ht := PB.nodup hs h3 (fun j hj => hl j (by simp [outIdx, hj]))
      simp only [outIds, List.flatten_cons]
      rw [h4, List.nodup_append]
      refine ⟨by simp, ht, fun a ha b hb e => ?_⟩
      simp at ha; subst ha; subst e
      obtain ⟨j, j1, m', j2, j3⟩ := h3.live _ hb
      obtain ⟨B, b1, b2⟩ := hl i (by simp [outIdx])
      obtain ⟨B', c1, c2⟩ := hl j (by simp [outIdx, j1])
      have := hs.inj i j B B' m m' b1 c1 b2 h2 j2 j3.symm
      have := outIdx_ge j1; omega

end Go.Pv
