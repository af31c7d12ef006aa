/-
  Runs: a function by value agrees with the function in the first interpreter, at every depth.
  Conditions: none.
-/
import Derived.Test.YtpjlbjkeekobnaaDoorVCode
set_option linter.all false
namespace Go.Pv
open Go.Ev

/-- The annotations of the first interpreter. -/
def AnnV.ev (A : AnnV) : Ann := ⟨A.fuel, A.eloops, fun _ => .keep, A.ext⟩

theorem resV_sim {P : Program} {s : S} {env : PEnv} {e : Env} (hs : StR s) (he : EnvR s env e) : ∀ {l : List ResultVar} {vs : List PV}, resV P env s.L l = some vs → ∃ ws, evRes P e s.H l = some ws ∧ All2 (ER s) vs ws
  | [], vs, h => by simp [resV] at h; subst h; exact ⟨[], rfl, trivial⟩
  | .tmp t :: l, vs, h => by
    simp only [resV] at h
    replace h := ob h; obtain ⟨p, h1, h⟩ := h
    replace h := ob h; obtain ⟨ps, h2, h⟩ := h
    simp at h; subst h
    obtain ⟨w, e1, r1⟩ := he.get h1
    obtain ⟨ws, e2, r2⟩ := resV_sim hs he h2
    exact ⟨w :: ws, by simp [evRes, e1, e2, obind], r1, r2⟩
  | .cell a t :: l, vs, h => by
    simp only [resV] at h
    replace h := ob h; obtain ⟨p, h1, h⟩ := h
    obtain ⟨w, e1, r1⟩ := he.get h1
    split at h
    · rename_i b off
      split at h
      · rename_i ver rw cs hb
        replace h := ob h; obtain ⟨i, h2, h⟩ := h
        obtain ⟨hlb, m, hm, hsh, rfl⟩ := r1
        have hB := hs.blk b _ hb
        unfold BR at hB; simp only at hB
        obtain ⟨_, m', k, hm', _, hk, hcs, _⟩ := hB
        rw [hm] at hm'; injection hm' with hm'; subst hm'
        have hl := All2.length hcs
        split at h
        · rename_i fs hu
          split at h
          · rename_i hle
            have hle := Nat.le_of_ble_eq_true hle
            replace h := ob h; obtain ⟨ps, h3, h⟩ := h
            simp at h; subst h
            obtain ⟨ws, e2, r2⟩ := resV_sim hs he h3
            have hld : hloadN s.H ⟨m.z, off, none⟩ i.size = some ((k.cells.drop off).take i.size) := by
              unfold hloadN; simp only [hk, obind]
              have : Nat.ble (off + i.size) k.cells.length = true := Nat.ble_eq_true_of_le (by omega)
              rw [this]
            refine ⟨.agg ((k.cells.drop off).take i.size).toArray :: ws, ?_, ⟨_, rfl, All2.take _ (All2.drop _ hcs)⟩, r2⟩
            simp only [evRes, e1, obind, h2, hu, hld, e2]
          · simp at h
        · rename_i nn fs hu
          split at h
          · rename_i hle
            have hle := Nat.le_of_ble_eq_true hle
            replace h := ob h; obtain ⟨ps, h3, h⟩ := h
            simp at h; subst h
            obtain ⟨ws, e2, r2⟩ := resV_sim hs he h3
            have hld : hloadN s.H ⟨m.z, off, none⟩ i.size = some ((k.cells.drop off).take i.size) := by
              unfold hloadN; simp only [hk, obind]
              have : Nat.ble (off + i.size) k.cells.length = true := Nat.ble_eq_true_of_le (by omega)
              rw [this]
            refine ⟨.agg ((k.cells.drop off).take i.size).toArray :: ws, ?_, ⟨_, rfl, All2.take _ (All2.drop _ hcs)⟩, r2⟩
            simp only [evRes, e1, obind, h2, hu, hld, e2]
          · simp at h
        · rename_i d hd1 hd2 hu
          replace h := ob h; obtain ⟨u, h5, h⟩ := h
          replace h := ob h; obtain ⟨ps, h3, h⟩ := h
          simp at h; subst h
          obtain ⟨ws, e2, r2⟩ := resV_sim hs he h3
          obtain ⟨w, g1, g2⟩ := All2.get _ hcs h5
          have hld : hload s.H ⟨m.z, off, none⟩ = some w := by
            unfold hload; simp only [hk, obind]; exact g1
          refine ⟨w :: ws, ?_, ER.of0 g2, r2⟩
          simp only [evRes, e1, obind, h2]
          rw [hu]
          cases d <;> first | exact absurd rfl (hd1 _) | exact absurd rfl (hd2 _ _) | (simp only [hld, e2])
        · simp at h
      · simp at h
    · simp at h

theorem pargs_env {s : S} : ∀ {ps : List PV} {ws : List Value} {i : Nat}, All2 (ER s) ps ws → EnvR s (pargs i ps) (argsEnv i ws)
  | [], [], i, _ => fun q => by simp [pargs, pget, argsEnv, eget]
  | p :: ps, w :: ws, i, h => (pargs_env h.2).cons h.1

theorem all2_notTup {s : S} : ∀ {ps : List PV} {ws : List Value}, All2 (ER s) ps ws → ps.all notTup = true → All2 (AR s) ps ws
  | [], [], _, _ => trivial
  | p :: ps, w :: ws, h, g => by
    simp only [List.all_cons, Bool.and_eq_true] at g
    refine ⟨?_, all2_notTup h.2 g.2⟩
    cases p with
    | tup cs => simp [notTup] at g
    | _ => exact h.1

theorem onePV_ER {s : S} {ps : List PV} {ws : List Value} (h : All2 (ER s) ps ws) (g : ps.all notTup = true) : ER s (onePV ps) (oneOf ws) := onePV_rel (all2_notTup h g)

/-- An argument's block. -/
def PB (s : S) : List (PM × Ty) → List Value → Nat → Prop
  | [], [], _ => True
  | (m, _) :: ps, w :: ws, i => match m with
    | .ro => PB s ps ws i
    | .cl _ => PB s ps ws i
    | .mv => PB s ps ws (i + 1)
    | .io => (i < s.L.bl.length ∧ match s.μ i with
        | none => w = .slice none 0 0
        | some m => w = .slice (some ⟨m.z, m.sh, none⟩) m.n m.es) ∧ PB s ps ws (i + 1)
    | .ps => (i < s.L.bl.length ∧ ∃ m, s.μ i = some m ∧ m.sh = 0 ∧ w = .pointer (some ⟨m.z, 0, none⟩)) ∧ PB s ps ws (i + 1)
  | _, _, _ => False

theorem PB.keep {s s' : S} (hk : Keep s s') : ∀ {ps : List (PM × Ty)} {ws : List Value} {i : Nat}, PB s ps ws i → PB s' ps ws i
  | [], [], _, _ => trivial
  | (m, t) :: ps, w :: ws, i, h => by
    cases m with
    | ro => exact PB.keep (ps := ps) hk h
    | cl g => exact PB.keep (ps := ps) hk h
    | mv => exact PB.keep (ps := ps) hk h
    | io => obtain ⟨⟨h1, h2⟩, h3⟩ := h; exact ⟨⟨Nat.lt_of_lt_of_le h1 hk.nb, by rw [hk.mu i h1]; exact h2⟩, h3.keep hk⟩
    | ps => obtain ⟨⟨h1, h2⟩, h3⟩ := h; exact ⟨⟨Nat.lt_of_lt_of_le h1 hk.nb, by rw [hk.mu i h1]; exact h2⟩, h3.keep hk⟩

/-- What the arguments' blocks own. -/
def tailsA : List (PM × Ty) → List (List Nat) → List (List Nat)
  | (.ps, _) :: ps, ids :: r => ids.drop 1 :: tailsA ps r
  | _ :: ps, _ :: r => tailsA ps r
  | _, _ => []

theorem tailsA_sub : ∀ {ps : List (PM × Ty)} {idss : List (List Nat)} {z : Nat}, z ∈ (tailsA ps idss).flatten → z ∈ idss.flatten
  | [], _, z, h => by simp [tailsA] at h
  | _ :: _, [], z, h => by simp [tailsA] at h
  | (m, t) :: ps, ids :: idss, z, h => by
    rw [List.flatten_cons, List.mem_append]
    cases m with
    | ps =>
      simp only [tailsA, List.flatten_cons, List.mem_append] at h
      exact h.imp (fun h => List.mem_of_mem_drop h) (fun h => tailsA_sub h)
    | _ => exact .inr (tailsA_sub (ps := ps) h)

theorem tailsA_nodup : ∀ {ps : List (PM × Ty)} {idss : List (List Nat)}, idss.flatten.Nodup → (tailsA ps idss).flatten.Nodup
  | [], _, _ => by simp [tailsA]
  | (m, t) :: ps, [], _ => by cases m <;> simp [tailsA]
  | (m, t) :: ps, ids :: idss, h => by
    rw [List.flatten_cons, List.nodup_append] at h
    obtain ⟨h1, h2, h3⟩ := h
    cases m with
    | ps =>
      simp only [tailsA, List.flatten_cons]
      rw [List.nodup_append]
      exact ⟨List.Pairwise.drop h1, tailsA_nodup h2, fun a ha b hb e => h3 a (List.mem_of_mem_drop ha) b (tailsA_sub hb) e⟩
    | _ => exact tailsA_nodup (ps := ps) h2

theorem inArgs_sim : ∀ {ps : List (PM × Ty)} {vs : List TV} {ws : List Value} {idss : List (List Nat)} {s : S} {i : Nat} {env : PEnv} {L' : LS}, s.L.clk = 0 → StR s → HRs s.N s.H s.lim (ps.map fun p => p.1.kd) vs ws idss → (∀ z ∈ idss.flatten, s.Lim z) → idss.flatten.Nodup → inArgs ps vs i s.L = some (env, L') →
    ∃ s', s'.L = L' ∧ s'.H = s.H ∧ Keep s s' ∧ StR s' ∧ EnvR s' env (argsEnv i ws) ∧ PB s' ps ws s.L.bl.length ∧ (∀ z, s.Lim z → z ∉ idss.flatten ∨ z ∈ (tailsA ps idss).flatten → s'.Lim z) ∧ CBs s' s.lim (psArgs ps vs s.L.bl.length) (tailsA ps idss)
  | [], [], [], [], s, i, env, L', _, hs, _, _, _, h => by
    simp [inArgs] at h; obtain ⟨rfl, rfl⟩ := h
    exact ⟨s, rfl, rfl, Keep.refl s, hs, fun q => by simp [pget, argsEnv, eget], trivial, fun _ h _ => h, trivial⟩
  | (m, t) :: ps, v :: vs, w :: ws, ids :: idss, s, i, env, L', hclk, hs, hh, hl, hn, h => by
    obtain ⟨hh1, hh2⟩ := hh
    rw [List.flatten_cons, List.nodup_append] at hn
    obtain ⟨hn1, hn2, hn3⟩ := hn
    have hl2 : ∀ z ∈ idss.flatten, s.Lim z := fun z hz => hl z (by rw [List.flatten_cons, List.mem_append]; exact .inr hz)
    have next : ∀ (s1 : S) (pv : PV), Keep s s1 → StR s1 → s1.H = s.H → s1.L.clk = 0 → (∀ z, s.N z → s1.N z) → (∀ z ∈ idss.flatten, s1.Lim z) → ER s1 pv w → (obind (inArgs ps vs (i + 1) s1.L) fun r => some ((i, pv) :: r.1, r.2)) = some (env, L') →
        ∃ s', s'.L = L' ∧ s'.H = s.H ∧ Keep s1 s' ∧ StR s' ∧ EnvR s' env (argsEnv i (w :: ws)) ∧ PB s' ps ws s1.L.bl.length ∧ (∀ z, s1.Lim z → z ∉ idss.flatten ∨ z ∈ (tailsA ps idss).flatten → s'.Lim z) ∧ CBs s' s.lim (psArgs ps vs s1.L.bl.length) (tailsA ps idss) := by
      clear h
      intro s1 pv k1 t1 g1 c1 n1 l1 ha h
      replace h := ob h; obtain ⟨⟨env', L3⟩, h2, h⟩ := h
      simp at h; obtain ⟨rfl, rfl⟩ := h
      have hh2' : HRs s1.N s1.H s1.lim (ps.map fun p => p.1.kd) vs ws idss := by
        rw [k1.lim]; exact hh2.frame (fun z hz _ => ⟨n1 z hz, by rw [g1]⟩) (fun z _ => by rw [g1])
      obtain ⟨s2, a1, a2, a3, a4, a5, a6, a7, a8⟩ := inArgs_sim c1 t1 hh2' l1 hn2 h2
      exact ⟨s2, a1, a2.trans g1, a3, a4, a5.cons (a3.ER ha), a6, a7, by rw [k1.lim] at a8; exact a8⟩
    have own : ∀ (u : Ty) (x : List u.T), u.isOs = false → v = ⟨.sl u, x⟩ → OwnS s.N s.H s.lim u x w ids → (obind (inArgs ps vs (i + 1) (lpush s.L (.arr u x))) fun r => some ((i, .osl s.L.bl.length 0 none) :: r.1, r.2)) = some (env, L') →
        ∃ s', s'.L = L' ∧ s'.H = s.H ∧ Keep s s' ∧ StR s' ∧ EnvR s' env (argsEnv i (w :: ws)) ∧ (PB s' ps ws (s.L.bl.length + 1) ∧ (∀ z, s.Lim z → z ∉ (ids :: idss).flatten ∨ z ∈ (tailsA ps idss).flatten → s'.Lim z) ∧ CBs s' s.lim (psArgs ps vs (s.L.bl.length + 1)) (tailsA ps idss)) ∧ (s.L.bl.length < s'.L.bl.length ∧ match s'.μ s.L.bl.length with
          | none => w = .slice none 0 0
          | some m => w = .slice (some ⟨m.z, m.sh, none⟩) m.n m.es) := by
      clear h
      intro u x hos hv ho h
      rcases ho with ⟨rfl, rfl, rfl⟩ | ⟨z, oo, k, ks, rfl, _, rfl, q1, q2, q3, q4, q5, q6⟩
      · obtain ⟨s1, e1, e2, e3, k1, t1, l1, n1⟩ := hs.push0 u
        rw [← e1] at h
        have hlen : s1.L.bl.length = s.L.bl.length + 1 := by rw [e1, lpush_len]
        obtain ⟨s2, b1, b2, b3, b4, b5, b6, b7, b8⟩ := next s1 _ k1 t1 e2 (by rw [e1]; exact hclk) n1 (fun z hz => by rw [l1]; exact hl2 z hz) (ER.of0 (p := .osl s.L.bl.length 0 none) ⟨by omega, by rw [e3]; simp⟩) h
        rw [hlen] at b6 b8
        have hlt : s.L.bl.length < s1.L.bl.length := by omega
        exact ⟨s2, b1, b2, k1.trans b3, b4, b5, ⟨b6, fun z hz hm => b7 z (by rw [l1]; exact hz) (hm.imp (fun h => by simpa using h) id), b8⟩, Nat.lt_of_lt_of_le hlt b3.nb, by rw [b3.mu _ hlt, e3]⟩
      · have hks := q6.noOs hos
        subst hks
        have hz : s.Lim z := hl z (by simp)
        obtain ⟨s1, e1, e2, e3, k1, t1, l1, o1⟩ := hs.adopt (.arr u x) ⟨z, oo, u.size, x.length⟩ hz (fun s' hk hm hH hNi => by
          unfold BR; simp only [hm]
          refine ⟨trivial, trivial, k, by rw [hH]; exact q1, q4, fun i hi => ?_, fun _ => ⟨q2, by rw [hk.lim]; exact q3⟩, fun e => absurd e (by decide)⟩
          have := q5.2 i hi
          have hmi := mul_lt (k := u.size) hi
          unfold seg at this; rw [List.drop_take, List.take_take, Nat.min_eq_left (by omega), List.drop_drop] at this
          rw [hH]; exact Rep.mono (fun z hz => (hNi z).2 hz) _ this)
        rw [← e1] at h
        have hlen : s1.L.bl.length = s.L.bl.length + 1 := by rw [e1, lpush_len]
        obtain ⟨s2, b1, b2, b3, b4, b5, b6, b7, b8⟩ := next s1 _ k1 t1 e2 (by rw [e1]; exact hclk) (fun z' hz' => ⟨fun h => hz'.1 ((o1 z').1 h), by rw [k1.ban]; exact hz'.2⟩) (fun z' hz' => (l1 z').2 ⟨hl2 z' hz', fun e => hn3 z (by simp) z' hz' e.symm⟩) (ER.of0 (p := .osl s.L.bl.length 0 none) ⟨by omega, by rw [e3]; simp⟩) h
        rw [hlen] at b6 b8
        have hlt : s.L.bl.length < s1.L.bl.length := by omega
        exact ⟨s2, b1, b2, k1.trans b3, b4, b5, ⟨b6, fun z' hz' hm => b7 z' ((l1 z').2 ⟨hz', fun e => by subst e; rcases hm with hm | hm; exact hm (by simp); exact hn3 _ (by simp) _ (tailsA_sub hm) rfl⟩) (hm.imp (fun h => by simp only [List.flatten_cons, List.mem_append, not_or] at h; exact h.2) id), b8⟩, Nat.lt_of_lt_of_le hlt b3.nb, by rw [b3.mu _ hlt, e3]⟩
    simp only [inArgs] at h
    cases m with
    | cl g =>
      obtain ⟨rfl, rfl⟩ := hh1
      obtain ⟨s2, b1, b2, b3, b4, b5, b6, b7, b8⟩ := next s (.fn g [] []) (Keep.refl s) hs rfl hclk (fun _ h => h) hl2 ⟨[], [], rfl, trivial, trivial⟩ h
      exact ⟨s2, b1, b2, b3, b4, b5, b6, fun z hz hm => b7 z hz (hm.imp (fun h => by simpa using h) id), b8⟩
    | ro =>
      simp only at h
      obtain ⟨cs, hv, hrep⟩ := hh1
      obtain ⟨s2, b1, b2, b3, b4, b5, b6, b7, b8⟩ := next s _ (Keep.refl s) hs rfl hclk (fun _ h => h) hl2 (ER.of (wrap_rel hv (Rep.mono (fun z hz => ⟨hz, fun c h1 h2 => by omega⟩) _ hrep.rep))) h
      exact ⟨s2, b1, b2, b3, b4, b5, b6, fun z hz hm => b7 z hz (hm.imp (fun h => by simp only [List.flatten_cons, List.mem_append, not_or] at h; exact h.2) id), b8⟩
    | mv =>
      obtain ⟨u, x, rfl, ho⟩ := hh1
      simp only at h
      obtain ⟨s1, e1, e2, k1, t1, a1, n1, l1⟩ := giveO_sim hs ho (fun z hz => hl z (by rw [List.flatten_cons, List.mem_append]; exact .inl hz))
      rw [← e1] at h
      have hlen : s1.L.bl.length = s.L.bl.length + 1 := by rw [e1, lpush_len]
      obtain ⟨s2, b1, b2, b3, b4, b5, b6, b7, b8⟩ := next s1 _ k1 t1 e2 (by rw [e1]; exact hclk) n1 (fun z hz => l1 z (hl2 z hz) (fun hm => hn3 z hm z hz rfl)) (ER.of0 a1) h
      rw [hlen] at b6 b8
      exact ⟨s2, b1, b2, k1.trans b3, b4, b5, b6, fun z hz hm => b7 z (l1 z hz (fun hi => by rcases hm with hm | hm; exact hm (by simp [hi]); exact hn3 _ hi _ (tailsA_sub (ps := ps) hm) rfl)) (hm.imp (fun h => by simp only [List.flatten_cons, List.mem_append, not_or] at h; exact h.2) id), b8⟩
    | io =>
      obtain ⟨u, x, rfl, ho⟩ := hh1
      simp only at h
      split at h
      · simp at h
      rename_i hos
      obtain ⟨s', a1, a2, a3, a4, a5, a6, a7⟩ := own u x hos rfl ho h
      exact ⟨s', a1, a2, a3, a4, a5, ⟨a7, a6.1⟩, fun z hz hm => a6.2.1 z hz hm, a6.2.2⟩
    | ps =>
      obtain ⟨z, k, j, rfl, rfl, q1, q2, q3, q4⟩ := hh1
      simp only at h
      have hz : s.Lim z := hl z (by simp)
      obtain ⟨hzj, hnj⟩ := List.nodup_cons.1 hn1
      obtain ⟨s1, e1, e2, e3, k1, t1, l1, o1⟩ := hs.adopt (.cells (reify 0 v.1 v.2)) ⟨z, 0, 0, 0⟩ hz (fun s' hk hm hH hNi => by
        unfold BR; simp only
        refine ⟨trivial, _, k, hm, rfl, by rw [hH]; exact q1, reify_rel _ ?_, q2, by rw [hk.lim]; exact q3⟩
        exact Rep.frame (H := s.H) (fun z hz hlt => ⟨hk.NN (st := 0) hlt ⟨hz, fun c h1 h2 => by omega⟩, by rw [hH]⟩) _ q4.rep)
      rw [← e1] at h
      have hlen : s1.L.bl.length = s.L.bl.length + 1 := by rw [e1, lpush_len]
      have hlt : s.L.bl.length < s1.L.bl.length := by omega
      have hN1 : ∀ z, s.N z → s1.N z := fun z' hz' => ⟨fun h => hz'.1 ((o1 z').1 h), by rw [k1.ban]; exact hz'.2⟩
      obtain ⟨s2, b1, b2, b3, b4, b5, b6, b7, b8⟩ := next s1 _ k1 t1 e2 (by rw [e1]; exact hclk) hN1 (fun z' hz' => (l1 z').2 ⟨hl2 z' hz', fun e => hn3 z (by simp) z' hz' e.symm⟩) (ER.of0 (p := .ptr s.L.bl.length 0) ⟨by omega, _, e3, rfl, rfl⟩) h
      rw [hlen] at b6 b8
      refine ⟨s2, b1, b2, k1.trans b3, b4, b5, ⟨⟨Nat.lt_of_lt_of_le hlt b3.nb, _, by rw [b3.mu _ hlt]; exact e3, rfl, rfl⟩, b6⟩, fun z' hz' hm => ?_, ⟨Nat.lt_of_lt_of_le hlt b3.nb, ⟨⟨z, 0, 0, 0⟩, k, by rw [b3.mu _ hlt]; exact e3, rfl, by rw [b2]; exact q1, q2, q3, RepO.frame (N := s.N) (H := s.H) (G := s2.H) (M := s2.N) (fun y hy hy' => ⟨b3.N (by rw [e2]; exact hy') (hN1 y hy), by rw [b2]⟩) v.1 q4 (fun y (_ : y ∈ j) => by rw [b2])⟩, fun y hy => ?_⟩, b8⟩
      · have hne : z' ≠ z := by
          rintro rfl
          rcases hm with hm | hm
          · exact hm (by simp)
          · simp only [tailsA, List.drop_succ_cons, List.drop_zero, List.flatten_cons, List.mem_append] at hm
            rcases hm with hm | hm
            · exact hzj hm
            · exact hn3 _ (by simp) _ (tailsA_sub hm) rfl
        refine b7 z' ((l1 z').2 ⟨hz', hne⟩) ?_
        rcases hm with hm | hm
        · simp only [List.flatten_cons, List.mem_append, not_or] at hm; exact .inl hm.2
        · simp only [tailsA, List.drop_succ_cons, List.drop_zero, List.flatten_cons, List.mem_append] at hm
          rcases hm with hm | hm
          · exact .inl (fun h => hn3 z' (by simp [hm]) z' h rfl)
          · exact .inr hm
      · have hyl : s.Lim y := hl y (by rw [List.flatten_cons]; exact List.mem_append.2 (.inl (List.mem_cons_of_mem _ (by simpa using hy))))
        refine b7 y ((l1 y).2 ⟨hyl, fun e => hzj (by subst e; simpa using hy)⟩) (.inl (fun h => hn3 y (List.mem_cons_of_mem _ (by simpa using hy)) y h rfl))

theorem outRes_sim : ∀ {rs : List (Bool × Ty)} {ps : List PV} {ws : List Value} {s : S} {vs : List TV} {L' : LS}, StR s → All2 (ER s) ps ws → outRes rs ps s.L = some (vs, L') →
    ∃ s1 idss, s1.L = L' ∧ s1.H = s.H ∧ s1.μ = s.μ ∧ Keep s s1 ∧ StR s1 ∧ (∀ z, s.Lim z → s1.Lim z) ∧ HRs s1.N s1.H s.lim (rs.map fun q => kdR q.1) vs ws idss ∧ (∀ z ∈ idss.flatten, s1.Lim z) ∧ idss.flatten.Nodup ∧ (∀ z ∈ idss.flatten, ¬ s.Lim z) ∧ vs.length = rs.length
  | [], [], [], s, vs, L', hs, he, h => by
    simp [outRes] at h; obtain ⟨rfl, rfl⟩ := h
    exact ⟨s, [], rfl, rfl, rfl, Keep.refl s, hs, fun _ h => h, trivial, by simp, by simp, by simp, rfl⟩
  | (o, t) :: rs, p :: ps, w :: ws, s, vs, L', hs, he, h => by
    obtain ⟨r1, he⟩ := he
    simp only [outRes] at h
    replace h := ob h; obtain ⟨⟨x, L2⟩, h2, h⟩ := h
    replace h := ob h; obtain ⟨⟨vs', L3⟩, h3, h⟩ := h
    simp at h; obtain ⟨rfl, rfl⟩ := h
    simp only at h3
    cases o with
    | true =>
      obtain ⟨hx, s1, ids, l1, g1, u1, k1, t1, hh, hl, hnl, hnd, ho⟩ := outOne_own hs r1 h2
      rw [← l1] at h3
      obtain ⟨s2, idss, a1, a2, a3, a4, a5, a6, a7, a8, a9, a10, a11⟩ := outRes_sim t1 (All2.mono (fun _ _ => k1.ER) he) h3
      have hlim : s1.lim = s.lim := k1.lim
      refine ⟨s2, ids :: idss, a1, a2.trans g1, a3.trans u1, k1.trans a4, a5, fun z hz => a6 z ((hl z).2 (.inl hz)), ⟨hh.frame (fun z hz hlt => ⟨a4.N hlt hz, by rw [a2]⟩) (fun z _ => by rw [a2]), by rw [← hlim]; exact a7⟩, ?_, ?_, ?_, by simp [a11]⟩
      · intro z hz
        rw [List.flatten_cons, List.mem_append] at hz
        rcases hz with hz | hz
        · exact a6 z ((hl z).2 (.inr hz))
        · exact a8 z hz
      · rw [List.flatten_cons, List.nodup_append]
        exact ⟨hnd, a9, fun a ha b hb e => by subst e; exact a10 a hb ((hl a).2 (.inr ha))⟩
      · intro z hz
        rw [List.flatten_cons, List.mem_append] at hz
        rcases hz with hz | hz
        · exact hnl z hz
        · exact fun h => a10 z hz ((hl z).2 (.inl h))
    | false =>
      simp only [outOne] at h2
      split at h2
      · rename_i hok
        simp only [Bool.and_eq_true] at hok
        replace h2 := ob h2; obtain ⟨⟨y, L4⟩, h4, h2⟩ := h2
        simp at h2; obtain ⟨rfl, rfl⟩ := h2
        obtain ⟨s1, ids, l1, g1, u1, k1, t1, rr1, hl, hnl, hnd, o1⟩ := takeC_sim t hs (r1.cells hok.1) h4
        rw [← l1] at h3
        obtain ⟨s2, idss, a1, a2, a3, a4, a5, a6, a7, a8, a9, a10, a11⟩ := outRes_sim t1 (All2.mono (fun _ _ => k1.ER) he) h3
        have hlim : s1.lim = s.lim := k1.lim
        refine ⟨s2, ids :: idss, a1, a2.trans g1, a3.trans u1, k1.trans a4, a5, fun z hz => a6 z ((hl z).2 (.inl hz)), ⟨⟨_, isVal_of r1 hok.1 hok.2, RepO.frame (fun z hz hlt => ⟨a4.N hlt hz, by rw [a2]⟩) t rr1 (fun z _ => by rw [a2])⟩, by rw [← hlim]; exact a7⟩, ?_, ?_, ?_, by simp [a11]⟩
        · intro z hz
          rw [List.flatten_cons, List.mem_append] at hz
          rcases hz with hz | hz
          · exact a6 z ((hl z).2 (.inr hz))
          · exact a8 z hz
        · rw [List.flatten_cons, List.nodup_append]
          exact ⟨hnd, a9, fun a ha b hb e => by subst e; exact a10 a hb ((hl a).2 (.inr ha))⟩
        · intro z hz
          rw [List.flatten_cons, List.mem_append] at hz
          rcases hz with hz | hz
          · exact hnl z hz
          · exact fun h => a10 z hz ((hl z).2 (.inl h))
      · simp at h2
  | [], _ :: _, _, _, _, _, _, _, h => by simp [outRes] at h
  | _ :: _, [], _, _, _, _, _, _, h => by simp [outRes] at h

theorem outIdx_ge : ∀ {ps : List (PM × Ty)} {i j : Nat}, j ∈ outIdx ps i → i ≤ j
  | [], i, j, h => by simp [outIdx] at h
  | (m, t) :: ps, i, j, h => by
    cases m with
    | ro => exact outIdx_ge (ps := ps) h
    | cl g => exact outIdx_ge (ps := ps) h
    | mv => have := outIdx_ge (ps := ps) (i := i + 1) h; omega
    | io => simp only [outIdx, List.mem_cons] at h; rcases h with rfl | h; exact Nat.le_refl _; have := outIdx_ge h; omega
    | ps => simp only [outIdx, List.mem_cons] at h; rcases h with rfl | h; exact Nat.le_refl _; have := outIdx_ge h; omega

theorem outOuts_sim : ∀ {ps : List (PM × Ty)} {ws : List Value} {s : S} {i : Nat} {vs : List TV} {L' : LS}, StR s → PB s ps ws i → outOuts ps i s.L = some (vs, L') →
    ∃ s1 oids, s1.L = L' ∧ s1.H = s.H ∧ s1.μ = s.μ ∧ Keep s s1 ∧ StR s1 ∧ (∀ z, s.Lim z → s1.Lim z) ∧ HRs s1.N s1.H s.lim (outKd ps) vs (outVs ps ws) oids ∧
      (∀ z ∈ oids.flatten, (s1.Lim z ∧ ¬ s.Lim z) ∨ ∃ j ∈ outIdx ps i, ∃ m, s1.μ j = some m ∧ m.z = z) ∧
      ((∀ j ∈ outIdx ps i, ∃ B, lget s1.L j = some B ∧ B.rw = true) → oids.flatten.Nodup)
  | [], [], s, i, vs, L', hs, _, h => by
    simp [outOuts] at h; obtain ⟨rfl, rfl⟩ := h
    exact ⟨s, [], rfl, rfl, rfl, Keep.refl s, hs, fun _ h => h, trivial, by simp, by simp⟩
  | (m, t) :: ps, w :: ws, s, i, vs, L', hs, hp, h => by
    simp only [outOuts] at h
    cases m with
    | ro => exact outOuts_sim (ps := ps) hs hp h
    | cl g => exact outOuts_sim (ps := ps) hs hp h
    | mv => exact outOuts_sim (ps := ps) hs hp h
    | io =>
      obtain ⟨⟨hi, hm⟩, hp2⟩ := hp
      simp only at h
      split at h
      · rename_i u
        replace h := ob h; obtain ⟨x, h1, h⟩ := h
        replace h := ob h; obtain ⟨⟨vs', L3⟩, h2, h⟩ := h
        simp at h; obtain ⟨rfl, rfl⟩ := h
        obtain ⟨s1, oids, a1, a2, a3, a4, a5, a6, a7, a8, a9⟩ := outOuts_sim hs hp2 h2
        unfold outAb at h1
        split at h1
        · rename_i ver u' xs hb
          split at h1
          · simp at h1
          rename_i hos
          have hno : ∀ t, u' ≠ .os t := fun t e => by subst e; simp [Ty.isOs] at hos
          replace h1 := ob h1; obtain ⟨y, h4, h1⟩ := h1
          simp at h1; subst h1
          have e0 := tcast_eq h4
          injection e0 with e0; subst e0
          have := tcast_self h4; subst this
          cases hm' : s.μ i with
          | none =>
            rw [hm'] at hm; subst hm
            refine ⟨s1, [] :: oids, a1, a2, a3, a4, a5, a6, ⟨⟨u', xs, rfl, .inl ⟨rfl, arr_nil hs hb hm', rfl⟩⟩, a7⟩, fun z hz => ?_, fun hl => ?_⟩
            · rw [List.flatten_cons, List.nil_append] at hz
              rcases a8 z hz with h | ⟨j, j1, j2⟩
              · exact .inl h
              · exact .inr ⟨j, by simp [outIdx, j1], j2⟩
            · rw [List.flatten_cons, List.nil_append]; exact a9 (fun j hj => hl j (by simp [outIdx, hj]))
          | some m =>
            rw [hm'] at hm; subst hm
            obtain ⟨b1, b2, k, b3, b4, b5, b6, b7⟩ := arr_info hs hb hm'
            have hmi : s1.μ i = some m := by rw [a3]; exact hm'
            refine ⟨s1, [m.z] :: oids, a1, a2, a3, a4, a5, a6, ⟨⟨u', xs, rfl, .inr ⟨m.z, m.sh, k, [], rfl, by simp, by rw [b1, b2], by rw [a2]; exact b3, (b6 rfl).1, (b6 rfl).2, arr_fit hs hb hm' b3, (RL.ofBlk b4 b5).frame (fun z hz hlt => ⟨a4.N hlt hz, by rw [a2]⟩), InR.ofNo hno⟩⟩, a7⟩, fun z hz => ?_, fun hl => ?_⟩
            · rw [List.flatten_cons, List.mem_append] at hz
              rcases hz with hz | hz
              · simp at hz; exact .inr ⟨i, by simp [outIdx], m, hmi, hz.symm⟩
              · rcases a8 z hz with h | ⟨j, j1, j2⟩
                · exact .inl h
                · exact .inr ⟨j, by simp [outIdx, j1], j2⟩
            · rw [List.flatten_cons, List.nodup_append]
              refine ⟨by simp, a9 (fun j hj => hl j (by simp [outIdx, hj])), fun p hp q hq e => ?_⟩
              simp at hp; subst hp; subst e
              obtain ⟨B, c1, c2⟩ := hl i (by simp [outIdx])
              rcases a8 _ hq with ⟨h, _⟩ | ⟨j, j1, m', j2, j3⟩
              · exact a5.lm i B m c1 hmi h
              · obtain ⟨B', d1, d2⟩ := hl j (by simp [outIdx, j1])
                have := a5.inj i j B B' m m' c1 d1 c2 hmi j2 j3.symm
                have := outIdx_ge j1; omega
        · simp at h1
      · simp at h
    | ps =>
      obtain ⟨⟨hi, m, hm, hsh, rfl⟩, hp2⟩ := hp
      simp only at h
      replace h := ob h; obtain ⟨⟨x, L2⟩, h1, h⟩ := h
      replace h := ob h; obtain ⟨⟨vs', L3⟩, h2, h⟩ := h
      simp at h; obtain ⟨rfl, rfl⟩ := h
      unfold outCo at h1
      split at h1
      · rename_i ver cs hb
        replace h1 := ob h1; obtain ⟨⟨y, L4⟩, h4, h1⟩ := h1
        simp at h1; obtain ⟨rfl, rfl⟩ := h1
        have hB := hs.blk i _ hb
        unfold BR at hB; simp only at hB
        obtain ⟨_, m', k, hm', _, hk, hcs, hro, hlm⟩ := hB
        rw [hm] at hm'; injection hm' with hm'; subst hm'
        obtain ⟨s1, j, l1, g1, u1, k1, t1, rr1, li1, nl1, nd1, o1⟩ := takeC_sim t hs hcs h4
        simp only at h2
        rw [← l1] at h2
        obtain ⟨s2, oids, a1, a2, a3, a4, a5, a6, a7, a8, a9⟩ := outOuts_sim t1 (hp2.keep k1) h2
        have hlim : s1.lim = s.lim := k1.lim
        have hmi : s2.μ i = some m := by rw [a3, u1]; exact hm
        have hj2 : ∀ z ∈ j, s2.Lim z := fun z hz => a6 z ((li1 z).2 (.inr hz))
        refine ⟨s2, (m.z :: j) :: oids, a1, a2.trans g1, a3.trans u1, k1.trans a4, a5, fun z hz => a6 z ((li1 z).2 (.inl hz)), ⟨⟨m.z, k, j, rfl, rfl, by rw [a2, g1]; exact hk, hro, hlm, RepO.frame (fun z hz hlt => ⟨a4.N hlt hz, by rw [a2]⟩) t rr1 (fun z _ => by rw [a2])⟩, by rw [← hlim]; exact a7⟩, fun z hz => ?_, fun hl => ?_⟩
        · rw [List.flatten_cons, List.mem_append] at hz
          rcases hz with hz | hz
          · rcases List.mem_cons.1 hz with rfl | hz
            · exact .inr ⟨i, by simp [outIdx], m, hmi, rfl⟩
            · exact .inl ⟨hj2 z hz, nl1 z hz⟩
          · rcases a8 z hz with ⟨h, h'⟩ | ⟨j, j1, j2⟩
            · exact .inl ⟨h, fun h0 => h' ((li1 z).2 (.inl h0))⟩
            · exact .inr ⟨j, by simp [outIdx, j1], j2⟩
        · obtain ⟨B, c1, c2⟩ := hl i (by simp [outIdx])
          rw [List.flatten_cons, List.nodup_append]
          refine ⟨List.nodup_cons.2 ⟨fun h => a5.lm i B m c1 hmi (hj2 _ h), nd1⟩, a9 (fun j hj => hl j (by simp [outIdx, hj])), fun p hp q hq e => ?_⟩
          subst e
          rcases List.mem_cons.1 hp with rfl | hp
          · rcases a8 _ hq with ⟨h, _⟩ | ⟨j, j1, m', j2, j3⟩
            · exact a5.lm i B m c1 hmi h
            · obtain ⟨B', d1, d2⟩ := hl j (by simp [outIdx, j1])
              have := a5.inj i j B B' m m' c1 d1 c2 hmi j2 j3.symm
              have := outIdx_ge j1; omega
          · rcases a8 _ hq with ⟨_, h⟩ | ⟨j, j1, m', j2, rfl⟩
            · exact h ((li1 _).2 (.inr hp))
            · obtain ⟨B', d1, d2⟩ := hl j (by simp [outIdx, j1])
              exact a5.lm j B' m' d1 j2 (hj2 _ hp)
      · simp at h1

end Go.Pv
