/-
  The law FnExactParseFilter by value.
  Conditions: none.
-/
import Derived.Test.YtpjlbjkeekobnaaDoorFnExactParseFilterK
import Derived.Test.YtpjlbjkeekobnaaDoorVAny
set_option linter.all false
namespace Go.Proofs.YtpjlbjkeekobnaaDoor
open Go.Ev Go.Pv

abbrev Cl8 := Int × Int × Int × Int × Int × Int × Int × Int
abbrev Fl5 := Int × Int × Int × Int × Int

def FD : List ByteArray := [(⟨#[115, 111, 117, 114, 99, 101]⟩ : ByteArray), (⟨#[100, 101, 115, 116]⟩ : ByteArray), (⟨#[112, 111, 114, 116]⟩ : ByteArray), (⟨#[109, 97, 114, 107]⟩ : ByteArray)]

def fdM (ts : List Tk) (en : Int) (m : Nat × Int × Int) : Int × Nat × Int × Int :=
  if m.2.1 ≠ 0 then (-1, m) else match ts[m.1]? with
  | none => (-1, m.1, 6, en)
  | some t => if ixV FD 0 (lab t) ≥ 0 then (ixV FD 0 (lab t), m.1 + 1, m.2) else (-1, m.1, 2, t.2.1)

theorem fdM_le {ts : List Tk} {en : Int} {m : Nat × Int × Int} (h : m.1 ≤ ts.length) : (fdM ts en m).2.1 ≤ ts.length := by
  unfold fdM
  split
  · exact h
  · split
    · exact h
    · rename_i t ht
      have := (List.getElem?_eq_some_iff.1 ht).1
      split <;> (simp only; omega)

theorem fdM_bad {ts : List Tk} {en : Int} {m : Nat × Int × Int} (h : m.2.1 ≠ 0) : fdM ts en m = (-1, m) := by unfold fdM; rw [if_pos h]

theorem i_fields {d : Nat} {ts : List Tk} {m : Nat × Int × Int} {en : Int} {nx : List ByteArray} {R : (List Cl8) × (List Fl5) × Int} (hl : ts.length ≤ 600) (hm : m.1 ≤ ts.length) :
    Ok (g27 (d + 4) (ts, en, (m.1 : Int), m.2, nx, R) FD) fun r => ∃ nx', ixV FD 0 r.1 = (fdM ts en m).1 ∧ r.2 = (ts, en, ((fdM ts en m).2.1 : Int), (fdM ts en m).2.2, nx', R) := by
  rw [e27, e30, ob_s]
  unfold fdM
  simp only []
  have he : ixV FD 0 ⟨#[]⟩ = -1 := by
    unfold FD
    simp only [ixV]
    rw [if_neg (by decide), if_neg (by decide), if_neg (by decide), if_neg (by decide)]
  by_cases h0 : m.2.1 ≠ 0
  · rw [show (m.2.1 != 0) = true by rw [bne_iff_ne]; exact h0, oif_t]
    simp only [if_pos h0]
    exact Ok.some ⟨nx, he, rfl⟩
  rw [show (m.2.1 != 0) = false by rw [bne_eq_false_iff_eq]; omega, oif_f]
  simp only [if_neg h0]
  cases ht : ts[m.1]? with
  | none =>
    have : m.1 = ts.length := by have := List.getElem?_eq_none_iff.1 ht; omega
    rw [show (((m.1 : Nat) : Int) == ((ts.length : Nat) : Int)) = true by rw [beq_iff_eq]; omega, oif_t]
    exact Ok.some ⟨FD, he, rfl⟩
  | some t =>
    have hlt := (List.getElem?_eq_some_iff.1 ht).1
    rw [show (((m.1 : Nat) : Int) == ((ts.length : Nat) : Int)) = false by rw [beq_eq_false_iff_ne]; omega, oif_f, q_label ht, ob_s]
    simp only []
    rw [q_Contains (by decide), ob_s]
    by_cases hi : ixV FD 0 (lab t) ≥ 0
    · simp only [if_pos hi]
      rw [decide_eq_true hi, Bool.not_true, oif_f, wr1 (by omega)]
      exact Ok.some ⟨nx, rfl, rfl⟩
    · simp only [if_neg hi]
      rw [decide_eq_false hi, Bool.not_false, oif_t, q_pstop ht, ob_s]
      exact Ok.some ⟨nx, he, rfl⟩

def flB : ByteArray := ⟨#[102, 105, 108, 116, 101, 114]⟩

def slB : ByteArray := ⟨#[47]⟩

def arB : ByteArray := ⟨#[45, 62]⟩

def seB : ByteArray := ⟨#[59]⟩

theorem w_fl : wOk flB := ⟨by decide, by decide, _, _, rfl, by decide⟩

theorem w_sl : wOk slB := ⟨by decide, by decide, _, _, rfl, by decide⟩

theorem w_ar : wOk arB := ⟨by decide, by decide, _, _, rfl, by decide⟩

theorem w_se : wOk seB := ⟨by decide, by decide, _, _, rfl, by decide⟩

theorem w_fd {w : ByteArray} (h : w ∈ FD) : wOk w := by
  simp only [FD, List.mem_cons, List.not_mem_nil, or_false] at h
  rcases h with rfl | rfl | rfl | rfl <;> exact ⟨by decide, by decide, _, _, rfl, by decide⟩

def c1 (ts : List Tk) (en : Int) := nbM ts en flB (0, 0, 0)

def c2 (ts : List Tk) (en : Int) := fdM ts en (c1 ts en).2.2

def c3 (ts : List Tk) (en : Int) := nuM ts en (c2 ts en).2

def c4 (ts : List Tk) (en : Int) := nbM ts en slB (c3 ts en).2.2

def c5 (ts : List Tk) (en : Int) := nbM ts en arB (c4 ts en).2.2

def c6 (ts : List Tk) (en : Int) := tkM ts en seB (c5 ts en).2.2

def c7 (ts : List Tk) (en : Int) := fiM ts (c6 ts en).2

def resF (ts : List Tk) (en : Int) : Fl5 × (Int × Int) × Bool :=
  if (c7 ts en).2.1 ≠ 0 then ((0, 0, 0, 0, 0), (c7 ts en).2, true) else (((c1 ts en).1, (c2 ts en).1, (c4 ts en).1, (c3 ts en).1, (c5 ts en).1), (0, 0), true)

theorem p_ParseFilter {d : Nat} {s : ByteArray} (hs : s.size ≤ 4000) (h0 : (tkA s).2.1 = 0) : Ok (g7 (d + 9) s) fun r => r = resF (tkA s).1 (s.size : Int) := by
  obtain ⟨hts, hz, hl⟩ := tkA_ok h0
  rw [e7, decide_eq_false (by omega), oif_f, show d + 7 = (d + 1) + 6 from rfl, q_TokensOf hs, ob_s]
  simp only []
  rw [show ((tkA s).2.1 != 0) = false by rw [bne_eq_false_iff_eq]; exact h0, oif_f]
  generalize (tkA s).1 = ts at hts hl
  generalize ((s.size : Nat) : Int) = en
  have l1 : (tkM ts en flB (0, 0, 0)).2.1 ≤ ts.length := tkM_le (Nat.zero_le _)
  refine Ok.bind (i_take (d := d + 4) (m := (0, 0, 0)) hts hl (Nat.zero_le _) w_fl) fun r hr => ?_
  obtain ⟨nx1, rfl⟩ := hr
  have k1 : (c1 ts en).2.2.1 ≤ ts.length := nbM_le (Nat.zero_le _)
  have k2 : (c2 ts en).2.1 ≤ ts.length := fdM_le k1
  have k3 : (c3 ts en).2.2.1 ≤ ts.length := nuM_le k2
  have k4 : (c4 ts en).2.2.1 ≤ ts.length := nbM_le k3
  have k5 : (c5 ts en).2.2.1 ≤ ts.length := nbM_le k4
  have k6 : (c6 ts en).2.1 ≤ ts.length := tkM_le k5
  have hf : ∀ {R : (List Cl8) × (List Fl5) × Int} {nx}, Ok (g28 (d + 8) (ts, en, ((tkM ts en flB (0, 0, 0)).2.1 : Int), (tkM ts en flB (0, 0, 0)).2.2, nx, R)) fun r => ∃ nx', r = (((c1 ts en).1, (c2 ts en).1, (c4 ts en).1, (c3 ts en).1, (c5 ts en).1), (ts, en, ((c6 ts en).2.1 : Int), (c6 ts en).2.2, nx', R)) := by
    intro R nx
    rw [e28]
    refine Ok.bind (i_number (d := d + 2) hts hl l1) fun r hr => ?_
    obtain ⟨nx2, rfl⟩ := hr
    rw [show d + 7 = (d + 6) + 1 from rfl, e62, ob_s]
    refine Ok.bind (i_fields (d := d + 3) (m := (c1 ts en).2.2) hl k1) fun r hr => ?_
    obtain ⟨nx3, hr1, hr2⟩ := hr
    rw [show d + 6 + 1 = (d + 6) + 1 from rfl]
    change Ok (obind (g63 (d + 6 + 1) FD r.1) _) _
    rw [q_Index (by decide), ob_s, hr1, hr2]
    refine Ok.bind (i_number (d := d + 2) (m := (c2 ts en).2) hts hl k2) fun r hr => ?_
    obtain ⟨nx4, rfl⟩ := hr
    refine Ok.bind (i_behind (d := d + 1) (m := (c3 ts en).2.2) hts hl k3 w_sl) fun r hr => ?_
    obtain ⟨nx5, rfl⟩ := hr
    refine Ok.bind (i_behind (d := d + 1) (m := (c4 ts en).2.2) hts hl k4 w_ar) fun r hr => ?_
    obtain ⟨nx6, rfl⟩ := hr
    refine Ok.bind (i_take (d := d + 3) (m := (c5 ts en).2.2) hts hl k5 w_se) fun r hr => ?_
    obtain ⟨nx7, rfl⟩ := hr
    exact Ok.some ⟨nx7, rfl⟩
  refine Ok.bind hf fun r hr => ?_
  obtain ⟨nx8, rfl⟩ := hr
  simp only []
  rw [show d + 7 + 1 = (d + 6) + 2 from rfl, i_finish k6, ob_s, show d + 6 + 2 = (d + 7) + 1 from rfl, e30, ob_s]
  unfold resF
  change Ok (oif ((c7 ts en).2.1 != 0) (some ((0, 0, 0, 0, 0), (c7 ts en).2, true)) (some (((c1 ts en).1, (c2 ts en).1, (c4 ts en).1, (c3 ts en).1, (c5 ts en).1), (0, 0), true))) _
  by_cases h : (c7 ts en).2.1 ≠ 0
  · rw [show ((c7 ts en).2.1 != 0) = true by rw [bne_iff_ne]; exact h, oif_t, if_pos h]; exact Ok.some rfl
  · rw [show ((c7 ts en).2.1 != 0) = false by rw [bne_eq_false_iff_eq]; omega, oif_f, if_neg h]; exact Ok.some rfl

/-- The other package. -/
def fdS (ts : List Tk) (a : Nat) : Int := match ts[a]? with
  | none => -1
  | some t => if mt t ⟨#[109, 97, 114, 107]⟩ = true then 3 else if mt t ⟨#[112, 111, 114, 116]⟩ = true then 2 else if mt t ⟨#[100, 101, 115, 116]⟩ = true then 1 else if mt t ⟨#[115, 111, 117, 114, 99, 101]⟩ = true then 0 else -1

theorem fd_same {t : Tk} (ht : tkOkk t) : ixV FD 0 (lab t) = if mt t ⟨#[109, 97, 114, 107]⟩ = true then 3 else if mt t ⟨#[112, 111, 114, 116]⟩ = true then 2 else if mt t ⟨#[100, 101, 115, 116]⟩ = true then 1 else if mt t ⟨#[115, 111, 117, 114, 99, 101]⟩ = true then 0 else -1 := by
  rw [← lab_eq ht (w_fd (w := ⟨#[109, 97, 114, 107]⟩) (by simp [FD])), ← lab_eq ht (w_fd (w := ⟨#[112, 111, 114, 116]⟩) (by simp [FD])), ← lab_eq ht (w_fd (w := ⟨#[100, 101, 115, 116]⟩) (by simp [FD])), ← lab_eq ht (w_fd (w := ⟨#[115, 111, 117, 114, 99, 101]⟩) (by simp [FD]))]
  generalize lab t = x
  unfold FD
  simp only [ixV, decide_eq_true_eq]
  by_cases h1 : bl x = bl ⟨#[115, 111, 117, 114, 99, 101]⟩
  · rw [h1, if_pos rfl, if_neg (by decide), if_neg (by decide), if_neg (by decide), if_pos rfl]; rfl
  by_cases h2 : bl x = bl ⟨#[100, 101, 115, 116]⟩
  · rw [h2, if_neg (by decide), if_pos rfl, if_neg (by decide), if_neg (by decide), if_pos rfl]; rfl
  by_cases h3 : bl x = bl ⟨#[112, 111, 114, 116]⟩
  · rw [h3, if_neg (by decide), if_neg (by decide), if_pos rfl, if_neg (by decide), if_pos rfl]; rfl
  by_cases h4 : bl x = bl ⟨#[109, 97, 114, 107]⟩
  · rw [h4, if_neg (by decide), if_neg (by decide), if_neg (by decide), if_pos rfl, if_pos rfl]; rfl
  rw [if_neg h1, if_neg h2, if_neg h3, if_neg h4, if_neg h4, if_neg h3, if_neg h2, if_neg h1]

theorem fd_loop {d : Nat} {ts : List Tk} {a : Nat} {en dp p : Int} {f : Int × Int} {o : ByteArray × (List Cl8) × (List Fl5) × Int} {b : Bool} {S : List Tk × Int × Int × (ByteArray × (List Cl8) × (List Fl5) × Int) × Int × Int × Int} :
    iterP (l24_0 (d + 1) (p, b, S) FD (j24_1 (d + 1) (p, b, S))) fuelN (0, (ts, (a : Int), en, o, dp, f), (p, (-1), 0, 0, 0)) = j24_1 (d + 1) (p, b, S) ts (a : Int) en o.1 o.2.1 o.2.2.1 o.2.2.2 dp f.1 f.2 p (if b = true then fdS ts a else -1) 0 0 0 := by
  obtain ⟨n, hn⟩ : ∃ n, fuelN = n + 5 := ⟨4194299, fuelN_eq⟩
  rw [hn]
  have step : ∀ (ag) (k : Nat) (w : ByteArray) (z : Int), FD[k]? = some w → k < 4 → l24_0 (d + 1) (p, b, S) FD (j24_1 (d + 1) (p, b, S)) ag ((k : Int), (ts, (a : Int), en, o, dp, f), (p, z, 0, 0, 0)) = ag (((k + 1 : Nat) : Int), (ts, (a : Int), en, o, dp, f), (p, (if b = true then (match ts[a]? with | none => z | some t => if mt t w = true then (k : Int) else z) else z), 0, 0, 0)) := by
    intro ag k w z hw hk
    have h4 : FD.length = 4 := rfl
    simp only [l24_0, l24_0_b]
    rw [decide_eq_true (show (k : Int) < ((FD.length : Nat) : Int) by omega), oif_t, nn, oif_t, ofNat_toNat, blt_of (by omega), oif_t, hw, ob_s]
    cases b with
    | false =>
      rw [oif_f, if_neg (by simp)]
      unfold j24_3
      rw [oif_f]
      unfold j24_2
      rw [wr1 (by omega)]
    | true =>
      rw [oif_t, if_pos rfl, s_is, ob_s]
      unfold j24_3 j24_2
      simp only [wr1 (show k < 9223372036854775807 by omega)]
      cases ts[a]? with
      | none => rfl
      | some t =>
        simp only []
        by_cases hmt : mt t w = true
        · rw [hmt]; rfl
        · rw [show mt t w = false by simpa using hmt]; rfl
  have u : ∀ (m : Nat) st, iterP (l24_0 (d + 1) (p, b, S) FD (j24_1 (d + 1) (p, b, S))) (m + 1) st = l24_0 (d + 1) (p, b, S) FD (j24_1 (d + 1) (p, b, S)) (iterP (l24_0 (d + 1) (p, b, S) FD (j24_1 (d + 1) (p, b, S))) m) st := fun m st => rfl
  have e1 : ∀ ag, l24_0 (d + 1) (p, b, S) FD (j24_1 (d + 1) (p, b, S)) ag (0, (ts, (a : Int), en, o, dp, f), (p, -1, 0, 0, 0)) = ag (((0 + 1 : Nat) : Int), (ts, (a : Int), en, o, dp, f), (p, (if b = true then (match ts[a]? with | none => (-1 : Int) | some t => if mt t ⟨#[115, 111, 117, 114, 99, 101]⟩ = true then ((0 : Nat) : Int) else -1) else -1), 0, 0, 0)) := fun ag => step ag 0 _ (-1) rfl (by omega)
  rw [show n + 5 = (n + 4) + 1 from rfl, u, e1, show n + 4 = (n + 3) + 1 from rfl, u, step _ (0 + 1) _ _ rfl (by omega), show n + 3 = (n + 2) + 1 from rfl, u, step _ (0 + 1 + 1) _ _ rfl (by omega), show n + 2 = (n + 1) + 1 from rfl, u, step _ (0 + 1 + 1 + 1) _ _ rfl (by omega), show n + 1 = n + 1 from rfl, u]
  simp only [l24_0, l24_0_b]
  rw [decide_eq_false (show ¬ ((0 + 1 + 1 + 1 + 1 : Nat) : Int) < ((FD.length : Nat) : Int) by decide), oif_f]
  congr 1
  unfold fdS
  cases b with
  | false => rfl
  | true =>
    simp only [if_true]
    cases ts[a]? with
    | none => rfl
    | some t =>
      simp only []
      cases mt t ⟨#[109, 97, 114, 107]⟩ <;> cases mt t ⟨#[112, 111, 114, 116]⟩ <;> cases mt t ⟨#[100, 101, 115, 116]⟩ <;> cases mt t ⟨#[115, 111, 117, 114, 99, 101]⟩ <;> rfl

theorem p_sParseFilter {d : Nat} {s : ByteArray} (hs : s.size ≤ 4000) (h0 : (tkA s).2.1 = 0) : g6 (d + 9) s = some (resF (tkA s).1 (s.size : Int)) := by
  obtain ⟨hts, hz, hl⟩ := tkA_ok h0
  rw [e6, q_scBytes, ob_s, decide_eq_true (by omega), Bool.not_true, oif_f, q_tkAll hs, ob_s]
  rw [show ((tkA s).2.1 != 0) = false by rw [bne_eq_false_iff_eq]; exact h0, oif_f, hz]
  generalize (tkA s).1 = ts at hts hl
  generalize ((s.size : Nat) : Int) = en
  have bad7 : ∀ {m : Nat × Int × Int}, m.2.1 ≠ 0 → c7 ts en = m → some (((0, 0, 0, 0, 0) : Fl5), m.2, true) = some (resF ts en) := by
    intro m h e
    unfold resF
    rw [e, if_pos h]
  have hF : g24 (d + 8) (ts, 0, en, ((⟨#[]⟩ : ByteArray), ([] : List Cl8), ([] : List Fl5), 0), 0, 0, 0) = some (if (c6 ts en).2.2.1 ≠ 0 then ((0, 0, 0, 0, 0), false, (ts, ((c6 ts en).2.1 : Int), en, ((⟨#[]⟩ : ByteArray), ([] : List Cl8), ([] : List Fl5), 0), 0, (c6 ts en).2.2)) else (((c1 ts en).1, (c2 ts en).1, (c4 ts en).1, (c3 ts en).1, (c5 ts en).1), true, (ts, ((c6 ts en).2.1 : Int), en, ((⟨#[]⟩ : ByteArray), ([] : List Cl8), ([] : List Fl5), 0), 0, (c6 ts en).2.2))) := by
    have b2 : (c1 ts en).2.2.2.1 ≠ 0 → c6 ts en = (false, (c1 ts en).2.2) := fun h => by
      unfold c6 c5 c4 c3 c2
      rw [fdM_bad h, nuM_bad h, nbM_bad h, nbM_bad h, tkM_bad h]
    have b3 : (c2 ts en).2.2.1 ≠ 0 → c6 ts en = (false, (c2 ts en).2) := fun h => by
      unfold c6 c5 c4 c3
      rw [nuM_bad h, nbM_bad h, nbM_bad h, tkM_bad h]
    have b4 : (c3 ts en).2.2.2.1 ≠ 0 → c6 ts en = (false, (c3 ts en).2.2) := fun h => by
      unfold c6 c5 c4
      rw [nbM_bad h, nbM_bad h, tkM_bad h]
    have b5 : (c4 ts en).2.2.2.1 ≠ 0 → c6 ts en = (false, (c4 ts en).2.2) := fun h => by
      unfold c6 c5
      rw [nbM_bad h, tkM_bad h]
    have b6 : (c5 ts en).2.2.2.1 ≠ 0 → c6 ts en = (false, (c5 ts en).2.2) := fun h => by
      unfold c6
      rw [tkM_bad h]
    rw [show d + 8 = (d + 6 + 1) + 1 from rfl, e24]
    have h1 := s_named (d := d + 4) (ts := ts) (m := (0, 0, 0)) (en := en) (dp := 0) (o := ((⟨#[]⟩ : ByteArray), ([] : List Cl8), ([] : List Fl5), 0)) (w := flB) hl rfl
    change g51 (d + 4 + 3) (ts, 0, en, ((⟨#[]⟩ : ByteArray), ([] : List Cl8), ([] : List Fl5), 0), 0, 0, 0) flB = some ((c1 ts en).1, (c1 ts en).2.1, (ts, ((c1 ts en).2.2.1 : Int), en, ((⟨#[]⟩ : ByteArray), ([] : List Cl8), ([] : List Fl5), 0), 0, (c1 ts en).2.2.2)) at h1
    change obind (g51 (d + 4 + 3) (ts, 0, en, ((⟨#[]⟩ : ByteArray), ([] : List Cl8), ([] : List Fl5), 0), 0, 0, 0) flB) _ = _
    rw [h1, ob_s, show d + 6 + 1 = (d + 6) + 1 from rfl, e52, ob_s]
    change iterP (l24_0 (d + 6 + 1) ((c1 ts en).1, (c1 ts en).2.1, _) FD (j24_1 (d + 6 + 1) ((c1 ts en).1, (c1 ts en).2.1, _))) fuelN (0, (ts, ((c1 ts en).2.2.1 : Int), en, ((⟨#[]⟩ : ByteArray), ([] : List Cl8), ([] : List Fl5), 0), 0, (c1 ts en).2.2.2), ((c1 ts en).1, (-1), 0, 0, 0)) = _
    rw [fd_loop]
    unfold j24_1
    simp only []
    cases ha : (c1 ts en).2.1 with
    | false =>
      have hb := nbM_no (show (nbM ts en flB (0, 0, 0)).2.1 = false from ha)
      change (c1 ts en).2.2.2.1 ≠ 0 at hb
      have hc := b2 hb
      rw [Bool.not_false, oif_t, hc, if_pos hb]
    | true =>
      have hg1 : (c1 ts en).2.2.2.1 = 0 := nbM_yes rfl ha
      rw [Bool.not_true, oif_f]
      simp only [if_true]
      -- the field
      have hc2 : c2 ts en = (match ts[(c1 ts en).2.2.1]? with
          | none => ((-1 : Int), (c1 ts en).2.2.1, (6 : Int), en)
          | some t => if fdS ts (c1 ts en).2.2.1 ≥ 0 then (fdS ts (c1 ts en).2.2.1, (c1 ts en).2.2.1 + 1, (c1 ts en).2.2.2) else (-1, (c1 ts en).2.2.1, 2, t.2.1)) := by
        unfold c2 fdM fdS
        rw [if_neg (by rw [hg1]; simp)]
        cases ht : ts[(c1 ts en).2.2.1]? with
        | none => rfl
        | some t =>
          have hok := hts t (List.mem_iff_getElem?.2 ⟨_, ht⟩)
          simp only []
          rw [fd_same hok]
      have hfz : (c1 ts en).2.2.2 = (0, (c1 ts en).2.2.2.2) := Prod.ext hg1 rfl
      by_cases hf : fdS ts (c1 ts en).2.2.1 < 0
      · have hfail := s_fail (d := d + 6) (ts := ts) (a := (c1 ts en).2.2.1) (en := en) (dp := 0) (fa := (c1 ts en).2.2.2.2) (o := ((⟨#[]⟩ : ByteArray), ([] : List Cl8), ([] : List Fl5), 0))
        rw [decide_eq_true hf, oif_t, hg1, hfail, ob_s]
        have hb : (c2 ts en).2.2.1 ≠ 0 ∧ (c2 ts en).2 = ((c1 ts en).2.2.1, (match ts[(c1 ts en).2.2.1]? with | none => ((6 : Int), en) | some t => (2, t.2.1))) := by
          rw [hc2]
          cases ht : ts[(c1 ts en).2.2.1]? with
          | none => exact ⟨by simp, rfl⟩
          | some t =>
            simp only []
            rw [if_neg (by omega)]
            exact ⟨by simp, rfl⟩
        rw [b3 hb.1, if_pos hb.1, hb.2]; rfl
      · rw [decide_eq_false hf, oif_f]
        obtain ⟨t, ht⟩ : ∃ t, ts[(c1 ts en).2.2.1]? = some t := by
          cases ht : ts[(c1 ts en).2.2.1]? with
          | none => unfold fdS at hf; rw [ht] at hf; simp at hf
          | some t => exact ⟨t, rfl⟩
        have hlt := (List.getElem?_eq_some_iff.1 ht).1
        rw [ht] at hc2
        simp only [if_pos (show fdS ts (c1 ts en).2.2.1 ≥ 0 by omega)] at hc2
        have h2g : (c2 ts en).2.2.1 = 0 := by rw [hc2]; exact hg1
        have h3 := s_number (d := d + 5) (ts := ts) (m := (c2 ts en).2) (en := en) (dp := 0) (o := ((⟨#[]⟩ : ByteArray), ([] : List Cl8), ([] : List Fl5), 0)) hl h2g
        change g55 (d + 7) (ts, ((c2 ts en).2.1 : Int), en, ((⟨#[]⟩ : ByteArray), ([] : List Cl8), ([] : List Fl5), 0), 0, (c2 ts en).2.2) = some ((c3 ts en).1, (c3 ts en).2.1, (ts, ((c3 ts en).2.2.1 : Int), en, ((⟨#[]⟩ : ByteArray), ([] : List Cl8), ([] : List Fl5), 0), 0, (c3 ts en).2.2.2)) at h3
        have hst : (ts, IntKind.i64.wrap (((c1 ts en).2.2.1 : Int) + 1), en, ((⟨#[]⟩ : ByteArray), ([] : List Cl8), ([] : List Fl5), (0 : Int)), (0 : Int), (c1 ts en).2.2.2.1, (c1 ts en).2.2.2.2) = (ts, ((c2 ts en).2.1 : Int), en, ((⟨#[]⟩ : ByteArray), ([] : List Cl8), ([] : List Fl5), 0), 0, (c2 ts en).2.2) := by
          rw [wr1 (by omega), hc2]
        rw [hst, show d + 6 + 1 = d + 7 from rfl, h3, ob_s]
        have hfd : fdS ts (c1 ts en).2.2.1 = (c2 ts en).1 := by rw [hc2]
        rw [hfd]
        simp only []
        cases hb3 : (c3 ts en).2.1 with
        | false =>
          have hb := (nuM_no (show (nuM ts en (c2 ts en).2).2.1 = false from hb3)).1
          change (c3 ts en).2.2.2.1 ≠ 0 at hb
          rw [Bool.not_false, oif_t, b4 hb, if_pos hb]
        | true =>
          have h3g : (c3 ts en).2.2.2.1 = 0 := by
            have := nuM_yes (show (nuM ts en (c2 ts en).2).2.1 = true from hb3)
            change (c3 ts en).2.2.2 = _ at this
            rw [this]; exact h2g
          have h4 := s_named (d := d + 4) (ts := ts) (m := (c3 ts en).2.2) (en := en) (dp := 0) (o := ((⟨#[]⟩ : ByteArray), ([] : List Cl8), ([] : List Fl5), 0)) (w := slB) hl h3g
          change g51 (d + 7) (ts, ((c3 ts en).2.2.1 : Int), en, ((⟨#[]⟩ : ByteArray), ([] : List Cl8), ([] : List Fl5), 0), 0, (c3 ts en).2.2.2) slB = some ((c4 ts en).1, (c4 ts en).2.1, (ts, ((c4 ts en).2.2.1 : Int), en, ((⟨#[]⟩ : ByteArray), ([] : List Cl8), ([] : List Fl5), 0), 0, (c4 ts en).2.2.2)) at h4
          rw [Bool.not_true, oif_f]
          change obind (g51 (d + 7) (ts, ((c3 ts en).2.2.1 : Int), en, ((⟨#[]⟩ : ByteArray), ([] : List Cl8), ([] : List Fl5), 0), 0, (c3 ts en).2.2.2) slB) _ = _
          rw [h4, ob_s]
          simp only []
          cases hb4 : (c4 ts en).2.1 with
          | false =>
            have hb := nbM_no (show (nbM ts en slB (c3 ts en).2.2).2.1 = false from hb4)
            change (c4 ts en).2.2.2.1 ≠ 0 at hb
            rw [Bool.not_false, oif_t, b5 hb, if_pos hb]
          | true =>
            have h4g : (c4 ts en).2.2.2.1 = 0 := nbM_yes h3g hb4
            have h5 := s_named (d := d + 4) (ts := ts) (m := (c4 ts en).2.2) (en := en) (dp := 0) (o := ((⟨#[]⟩ : ByteArray), ([] : List Cl8), ([] : List Fl5), 0)) (w := arB) hl h4g
            change g51 (d + 7) (ts, ((c4 ts en).2.2.1 : Int), en, ((⟨#[]⟩ : ByteArray), ([] : List Cl8), ([] : List Fl5), 0), 0, (c4 ts en).2.2.2) arB = some ((c5 ts en).1, (c5 ts en).2.1, (ts, ((c5 ts en).2.2.1 : Int), en, ((⟨#[]⟩ : ByteArray), ([] : List Cl8), ([] : List Fl5), 0), 0, (c5 ts en).2.2.2)) at h5
            rw [Bool.not_true, oif_f]
            change obind (g51 (d + 7) (ts, ((c4 ts en).2.2.1 : Int), en, ((⟨#[]⟩ : ByteArray), ([] : List Cl8), ([] : List Fl5), 0), 0, (c4 ts en).2.2.2) arB) _ = _
            rw [h5, ob_s]
            simp only []
            cases hb5 : (c5 ts en).2.1 with
            | false =>
              have hb := nbM_no (show (nbM ts en arB (c4 ts en).2.2).2.1 = false from hb5)
              change (c5 ts en).2.2.2.1 ≠ 0 at hb
              unfold j24_0
              rw [Bool.not_false, oif_t, oif_t, b6 hb, if_pos hb]
            | true =>
              have h5g : (c5 ts en).2.2.2.1 = 0 := nbM_yes h4g hb5
              have h6 := s_take (d := d + 5) (ts := ts) (m := (c5 ts en).2.2) (en := en) (dp := 0) (o := ((⟨#[]⟩ : ByteArray), ([] : List Cl8), ([] : List Fl5), 0)) (w := seB) hl h5g
              change g56 (d + 7) (ts, ((c5 ts en).2.2.1 : Int), en, ((⟨#[]⟩ : ByteArray), ([] : List Cl8), ([] : List Fl5), 0), 0, (c5 ts en).2.2.2) seB = some ((c6 ts en).1, (ts, ((c6 ts en).2.1 : Int), en, ((⟨#[]⟩ : ByteArray), ([] : List Cl8), ([] : List Fl5), 0), 0, (c6 ts en).2.2)) at h6
              rw [Bool.not_true, oif_f]
              change obind (g56 (d + 7) (ts, ((c5 ts en).2.2.1 : Int), en, ((⟨#[]⟩ : ByteArray), ([] : List Cl8), ([] : List Fl5), 0), 0, (c5 ts en).2.2.2) seB) _ = _
              rw [h6, ob_s]
              unfold j24_0
              simp only []
              cases hb6 : (c6 ts en).1 with
              | false =>
                have hb := tkM_no (show (tkM ts en seB (c5 ts en).2.2).1 = false from hb6)
                change (c6 ts en).2.2.1 ≠ 0 at hb
                rw [Bool.not_false, oif_t, if_pos hb]
              | true =>
                have h6g : (c6 ts en).2.2.1 = 0 := by
                  have := tkM_yes (show (tkM ts en seB (c5 ts en).2.2).1 = true from hb6)
                  change (c6 ts en).2.2 = _ at this
                  rw [this]; exact h5g
                rw [Bool.not_true, oif_f, if_neg (by rw [h6g]; simp)]
  rw [show d + 7 + 1 = d + 8 from rfl, hF, ob_s]
  by_cases h6 : (c6 ts en).2.2.1 ≠ 0
  · rw [if_pos h6]
    simp only [Bool.not_false, oif_t]
    exact bad7 h6 (fiM_bad h6)
  · rw [if_neg h6]
    simp only [Bool.not_true, oif_f]
    have hd := s_done (d := d + 6) (ts := ts) (m := (c6 ts en).2) (en := en) (dp := 0) (o := ((⟨#[]⟩ : ByteArray), ([] : List Cl8), ([] : List Fl5), 0)) (by omega)
    change g25 (d + 8) (ts, ((c6 ts en).2.1 : Int), en, ((⟨#[]⟩ : ByteArray), ([] : List Cl8), ([] : List Fl5), 0), 0, (c6 ts en).2.2) = some (decide ((c7 ts en).2.1 = 0), (ts, ((c7 ts en).1 : Int), en, ((⟨#[]⟩ : ByteArray), ([] : List Cl8), ([] : List Fl5), 0), 0, (c7 ts en).2)) at hd
    rw [hd, ob_s]
    simp only []
    by_cases h7 : (c7 ts en).2.1 = 0
    · rw [decide_eq_true h7, Bool.not_true, oif_f]
      unfold resF
      rw [if_neg (by omega)]
    · rw [decide_eq_false h7, Bool.not_false, oif_t]
      exact bad7 h7 rfl

theorem eqFl {d : Nat} {x : Fl5} : g8 (d + 1) x x = some true := by
  rw [e8]
  simp only [bne_self_eq_false, oif_f]

theorem eqFa {d : Nat} {x : Int × Int} : g9 (d + 1) x x = some true := by
  rw [e9]
  simp only [bne_self_eq_false, oif_f]

theorem same {d : Nat} {s : ByteArray} : ∃ r, g6 (d + 9) s = some r ∧ g7 (d + 9) s = some r := by
  by_cases hs : s.size ≤ 4000
  · by_cases h0 : (tkA s).2.1 = 0
    · exact ⟨_, p_sParseFilter hs h0, (p_ParseFilter hs h0).val⟩
    · refine ⟨((0, 0, 0, 0, 0), (tkA s).2, true), ?_, ?_⟩
      · rw [e6, q_scBytes, ob_s, decide_eq_true (by omega), Bool.not_true, oif_f, q_tkAll hs, ob_s]
        rw [show ((tkA s).2.1 != 0) = true by rw [bne_iff_ne]; exact h0, oif_t]
      · rw [e7, decide_eq_false (by omega), oif_f, show d + 7 = (d + 1) + 6 from rfl, q_TokensOf hs, ob_s]
        simp only []
        rw [show ((tkA s).2.1 != 0) = true by rw [bne_iff_ne]; exact h0, oif_t]
  · refine ⟨((0, 0, 0, 0, 0), (0, 0), false), ?_, ?_⟩
    · rw [e6, q_scBytes, ob_s, decide_eq_false (by omega)]; rfl
    · rw [e7, decide_eq_true (by omega)]; rfl

theorem law_main {d : Nat} {s : ByteArray} : g3 (d + 10) s = some true := by
  rw [e3]
  by_cases h : ((s.size : Nat) : Int) > 1048576
  · rw [decide_eq_true h, oif_t]
  obtain ⟨r, h1, h2⟩ := same (d := d) (s := s)
  rw [decide_eq_false h, oif_f, h1, ob_s, h2, ob_s, show d + 9 = (d + 8) + 1 from rfl, eqFl, ob_s, Bool.not_true, oif_f, eqFa, ob_s, Bool.not_true, oif_f, beq_self_eq_true, Bool.not_true, oif_f]

def tysLaw : List Ty := [.str]

theorem lawAny : LawAny Tryd.prog pvAnn (10) 3 tysLaw :=
  ⟨rfl, rfl, rfl, fun a _ => ⟨true, law_main (d := 0), rfl⟩⟩

end Go.Proofs.YtpjlbjkeekobnaaDoor
