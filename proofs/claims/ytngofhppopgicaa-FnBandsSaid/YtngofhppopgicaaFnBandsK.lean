/-
  What the cursor's functions and the small ones give by value.
  Conditions: the cursor has not been moved 2^62 times.
  Comparing and adding up lists of numbers; ranges.
  Conditions: the lists are shorter than the fuel.
  Bands: maps, marks, the order of sending, in both packages; the draws.
  Conditions: the lists are shorter than the fuel.
-/
import Derived.Test.YtngofhppopgicaaFnBandsRes
import Derived.Test.YtngofhppopgicaaPKit2
set_option linter.all false
namespace Go.Proofs.Ytngofhppopgicaa
open Go.Ev Go.Pv

theorem p_next {d m : Nat} {c : List Int × Int × Int} (hc : CurOk m c) (hm : m < 4611686018427387904) : Ok (g173 (d + 1) c) fun r => 0 ≤ r.1 ∧ r.1 < 256 ∧ CurOk (m + 1) r.2 := by
  obtain ⟨hb, h0, h1⟩ := hc
  obtain ⟨code, at', seed⟩ := c
  simp only at hb h0 h1
  have hw : IntKind.i64.wrap (at' + 1) = at' + 1 := wr (by omega) (by omega)
  rw [e173]
  have fin : ∀ n : Int, (at' < code.length → 0 ≤ n ∧ n < 256) → Ok (j173_0 d (code, at', seed) n) fun r => 0 ≤ r.1 ∧ r.1 < 256 ∧ CurOk (m + 1) r.2 := by
    intro n hn
    unfold j173_0
    simp only [hw]
    refine Ok.oif (fun h => ?_) (fun h => ?_)
    · simp only [decide_eq_true_eq] at h
      obtain ⟨a, b⟩ := hn (by omega)
      exact Ok.some ⟨a, b, hb, by simp only; omega, by simp only; omega⟩
    · exact Ok.some ⟨(seedByte _).1, (seedByte _).2, hb, by simp only; omega, by simp only; omega⟩
  refine Ok.oif (fun h => ?_) (fun h => ?_)
  · simp only [decide_eq_true_eq] at h
    refine Ok.oif (fun _ => ?_) (fun h2 => by simp only [decide_eq_false_iff_not] at h2; omega)
    have hlt : at'.toNat < code.length := by omega
    simp only
    rw [List.getElem?_eq_getElem hlt]
    have hx := hb _ (List.getElem_mem hlt)
    refine Ok.bind (Ok.some rfl) (fun a ha => ?_)
    subst ha
    exact fin _ (fun _ => by rw [wr (by omega) (by omega)]; exact hx)
  · simp only [decide_eq_false_iff_not] at h
    exact fin 0 (fun h' => absurd h' h)

theorem p_pick {d m : Nat} {c : List Int × Int × Int} {n : Int} (hc : CurOk m c) (hm : m + 1 < 4611686018427387904) : Ok (g120 (d + 2) c n) fun r => 0 ≤ r.1 ∧ (r.1 < n ∨ r.1 = 0) ∧ CurOk (m + 2) r.2 := by
  rw [e120]
  refine Ok.oif (fun h => ?_) (fun h => ?_)
  · exact Ok.some ⟨by simp, .inr rfl, hc.mono (by omega)⟩
  · simp only [decide_eq_false_iff_not] at h
    refine Ok.bind (p_next hc (by omega)) (fun r hr => ?_)
    obtain ⟨h1, h2, h3⟩ := hr
    have hn : (n == 0) = false := by simp; omega
    refine Ok.oif (fun h4 => ?_) (fun h4 => ?_)
    · refine Ok.bind (p_next h3 (by omega)) (fun q hq => ?_)
      obtain ⟨h5, h6, h7⟩ := hq
      rw [hn]
      rw [wr (n := r.1 * 256) (by omega) (by omega), wr (by omega) (by omega)]
      exact Ok.some ⟨Int.tmod_nonneg _ (by omega), .inl (Int.tmod_lt_of_pos _ (by omega)), h7.mono (by omega)⟩
    · rw [hn]
      exact Ok.some ⟨Int.tmod_nonneg _ (by omega), .inl (Int.tmod_lt_of_pos _ (by omega)), h3.mono (by omega)⟩

theorem p_among {d m : Nat} {c : List Int × Int × Int} {l : List Int} (hc : CurOk m c) (hm : m + 1 < 4611686018427387904) (hl : 0 < l.length) : Ok (g115 (d + 3) c l) fun r => r.1 ∈ l ∧ CurOk (m + 2) r.2 := by
  rw [e115]
  refine Ok.bind (p_pick hc hm) (fun r hr => ?_)
  obtain ⟨h1, h2, h3⟩ := hr
  refine Ok.oif (fun _ => ?_) (fun h => by simp only [decide_eq_false_iff_not] at h; omega)
  have hlt : r.1.toNat < l.length := by omega
  rw [List.getElem?_eq_getElem hlt]
  exact Ok.bind (Ok.some rfl) (fun a ha => by subst ha; exact Ok.some ⟨List.getElem_mem hlt, h3⟩)

theorem p_one {d m : Nat} {c : List Int × Int × Int} {n : Int} (hc : CurOk m c) (hm : m + 1 < 4611686018427387904) : Ok (g141 (d + 3) c n) fun r => CurOk (m + 2) r.2 := by
  rw [e141]
  exact Ok.bind (p_pick hc hm) (fun r hr => Ok.some hr.2.2)

theorem q_l1In {d : Nat} {x y z : Int} : g131 (d + 1) x y z = some (decide (y ≤ x ∧ x ≤ z)) := by
  rw [e131]; simp only [oif_ss]; congr 1; rw [Bool.eq_iff_iff]; simp

theorem q_qInts {d : Nat} {l : List Int} (hl : l.length < 4194304) : g31 (d + 1) l l = some true := by
  rw [e31, bne_self_eq_false, oif_f]
  refine (range_eq (fun (t : Bool) (i : Int) => (t, i)) l (fun x i t k => k t) (j31_0 d) ?_ ?_ (by rw [fuelN_eq]; exact hl) false).trans ?_
  · intro ag t i x hx; have hi := (List.getElem?_eq_some_iff.1 hx).1; simp only [l31_0, l31_0_b, ltl hx, bltl hx, nn, ofNat_toNat, hx, ob_s, oif_t]; rw [wr1 (by omega)]
    simp only [bne_self_eq_false, oif_f]
  · intro ag t; simp only [l31_0, l31_0_b, ltn, oif_f]
  · rw [rangeR_fold (f := fun _ _ t => t)]; rfl

theorem q_qSum {d : Nat} {l : List Int} (hl : l.length < 4194304) (h0 : ∀ x ∈ l, 0 ≤ x) (hs : l.sum ≤ 9223372036854775807) : g32 (d + 1) l = some l.sum := by
  rw [e32]
  refine (range_eq (fun (t : Int) (i : Int) => (t, i)) l (fun x i t k => k (IntKind.i64.wrap (t + x))) (j32_0 d) ?_ ?_ (by rw [fuelN_eq]; exact hl) 0).trans ?_
  · intro ag t i x hx; have hi := (List.getElem?_eq_some_iff.1 hx).1; simp only [l32_0, l32_0_b, ltl hx, bltl hx, nn, ofNat_toNat, hx, ob_s, oif_t]; rw [wr1 (by omega)]
  · intro ag t; simp only [l32_0, l32_0_b, ltn, oif_f]
  · rw [rangeR_fold (f := fun x _ t => IntKind.i64.wrap (t + x)), foldI_sum l 0 0 h0 (by omega) (by omega)]; simp [j32_0]

theorem q_l1All {d : Nat} {l : List Int} {a b : Int} (hl : l.length < 4194304) : g172 (d + 2) l a b = some (l.all fun x => decide (a ≤ x ∧ x ≤ b)) := by
  rw [e172]
  refine (range_eq (fun (t : Bool) (i : Int) => (t, i)) l (fun x _ t k => oif (decide (a ≤ x ∧ x ≤ b)) (k t) (some false)) (j172_0 (d + 1)) ?_ ?_ (by rw [fuelN_eq]; exact hl) false).trans ?_
  · intro ag t i x hx; have hi := (List.getElem?_eq_some_iff.1 hx).1; simp only [l172_0, l172_0_b, ltl hx, bltl hx, nn, ofNat_toNat, hx, ob_s, oif_t]; rw [wr1 (by omega)]
    rw [q_l1In, ob_s]; cases decide (a ≤ x ∧ x ≤ b) <;> rfl
  · intro ag t; simp only [l172_0, l172_0_b, ltn, oif_f]
  · rw [rangeR_all (p := fun x => decide (a ≤ x ∧ x ≤ b))]; cases l.all _ <;> rfl

def bmOk (l : List Int) : Bool := l.all (fun x => decide (0 ≤ x ∧ x ≤ 7)) && (((l.length : Nat) : Int) == 16)
def mkOk (n : Int) : Bool := decide (0 ≤ n ∧ n ≤ 65535)
def mksOk (l : List Int) : Bool := l.all mkOk && decide (((l.length : Nat) : Int) ≤ 40)
def bandAt (l : List Int) (m : Int) : Int := l.getD (m.tmod 16).toNat 0

theorem bmOk_len {l : List Int} (h : bmOk l = true) : l.length = 16 := by
  simp only [bmOk, Bool.and_eq_true, beq_iff_eq] at h; omega
theorem bandAt_in {l : List Int} (h : bmOk l = true) {m : Int} (hm : mkOk m = true) : decide (0 ≤ m.tmod 16) = true ∧ l[(m.tmod 16).toNat]? = some (bandAt l m) ∧ 0 ≤ bandAt l m ∧ bandAt l m ≤ 7 := by
  have hl := bmOk_len h
  simp only [mkOk, decide_eq_true_eq] at hm
  have h1 : 0 ≤ m.tmod 16 := Int.tmod_nonneg _ hm.1
  have h2 : m.tmod 16 < 16 := Int.tmod_lt_of_pos _ (by omega)
  have h3 : (m.tmod 16).toNat < l.length := by omega
  have e : bandAt l m = l[(m.tmod 16).toNat] := by unfold bandAt; simp [List.getD, List.getElem?_eq_getElem h3]
  refine ⟨by simpa using h1, by rw [e]; exact List.getElem?_eq_getElem h3, ?_⟩
  simp only [bmOk, Bool.and_eq_true, List.all_eq_true] at h
  have := h.1 _ (List.getElem_mem h3)
  rw [e]; simpa using this

theorem q_IsBandMap {d : Nat} {l : List Int} (hl : l.length < 4194304) : g33 (d + 1) l = some (bmOk l) := by
  rw [e33]
  refine (range_eq (fun (t : Bool) (i : Int) => (t, i)) l (fun x _ t k => oif (decide (0 ≤ x ∧ x ≤ 7)) (k t) (some false)) (j33_0 d l) ?_ ?_ (by rw [fuelN_eq]; exact hl) false).trans ?_
  · intro ag t i x hx; have hi := (List.getElem?_eq_some_iff.1 hx).1; simp only [l33_0, l33_0_b, ltl hx, bltl hx, nn, ofNat_toNat, hx, ob_s, oif_t]; rw [wr1 (by omega)]
    simp only [oif_ite, decide_eq_true_eq]
    by_cases h1 : x < 0 <;> by_cases h2 : x ≥ 8 <;> simp [h1, h2] <;> omega
  · intro ag t; simp only [l33_0, l33_0_b, ltn, oif_f]
  · rw [rangeR_all (p := fun x => decide (0 ≤ x ∧ x ≤ 7))]; unfold bmOk j33_0; cases l.all _ <;> rfl
theorem q_isMark {d : Nat} {n : Int} : g121 (d + 1) n = some (mkOk n) := by
  rw [e121]; simp only [oif_ss]; congr 1; rw [Bool.eq_iff_iff]; simp [mkOk]
theorem q_bdMark {d : Nat} {n : Int} : g123 (d + 2) n = some (mkOk n) := by
  rw [e123, q_l1In, ob_s]; rfl

theorem q_areMarks {d : Nat} {l : List Int} (hl : l.length < 4194304) : g118 (d + 2) l = some (mksOk l) := by
  rw [e118]
  refine (range_eq (fun (t : Bool) (i : Int) => (t, i)) l (fun x _ t k => oif (mkOk x) (k t) (some false)) (j118_0 (d + 1) l) ?_ ?_ (by rw [fuelN_eq]; exact hl) false).trans ?_
  · intro ag t i x hx; have hi := (List.getElem?_eq_some_iff.1 hx).1; simp only [l118_0, l118_0_b, ltl hx, bltl hx, nn, ofNat_toNat, hx, ob_s, oif_t]; rw [wr1 (by omega)]
    rw [q_isMark, ob_s]; cases mkOk x <;> rfl
  · intro ag t; simp only [l118_0, l118_0_b, ltn, oif_f]
  · rw [rangeR_all (p := mkOk)]; unfold mksOk j118_0; cases l.all _ <;> rfl
theorem q_bdMap {d : Nat} {l : List Int} (hl : l.length < 4194304) : g122 (d + 3) l = some (bmOk l) := by
  rw [e122]; simp only [q_l1All hl, ob_s]; unfold bmOk; rw [Bool.and_comm]; cases (((l.length : Nat) : Int) == 16) <;> rfl
theorem q_sIsBandMap {d : Nat} {l : List Int} (hl : l.length < 4194304) : g34 (d + 4) l = some (bmOk l) := by
  rw [e34, q_bdMap hl]; rfl
theorem q_bdMarks {d : Nat} {l ms : List Int} (hl : l.length < 4194304) (hm : ms.length < 4194304) : g119 (d + 4) l ms = some (bmOk l && mksOk ms) := by
  rw [e119]; simp only [q_bdMap hl, q_l1All hm, ob_s]
  have e : mksOk ms = (decide (((ms.length : Nat) : Int) ≤ 40) && ms.all (fun x => decide (0 ≤ x ∧ x ≤ 65535))) := by unfold mksOk; rw [Bool.and_comm]; rfl
  rw [e]
  cases bmOk l <;> cases decide (((ms.length : Nat) : Int) ≤ 40) <;> rfl

def boV (l : List Int) (m : Int) : Int × Bool := if bmOk l && mkOk m then (bandAt l m, true) else (0, false)
theorem q_BandOf {d : Nat} {l : List Int} {m : Int} (hl : l.length < 4194304) : g29 (d + 2) l m = some (boV l m) := by
  rw [e29, q_IsBandMap hl, ob_s]
  cases hb : bmOk l with
  | false => simp [boV, hb, oif]
  | true =>
    rw [q_isMark, ob_s]
    cases hm : mkOk m with
    | false => simp [boV, hm, oif]
    | true => obtain ⟨h1, h2, _⟩ := bandAt_in hb hm; simp only [Bool.not_true, oif_f, h1, oif_t, h2, ob_s, boV, hb, hm, Bool.and_self, if_true]
theorem q_sBandOf {d : Nat} {l : List Int} {m : Int} (hl : l.length < 4194304) : g30 (d + 4) l m = some (boV l m) := by
  rw [e30, q_bdMap hl, ob_s]
  cases hb : bmOk l with
  | false => simp [boV, hb, oif]
  | true =>
    rw [q_bdMark, ob_s]
    cases hm : mkOk m with
    | false => simp [boV, hm, oif]
    | true => obtain ⟨h1, h2, _⟩ := bandAt_in hb hm; simp only [Bool.not_true, oif_f, h1, oif_t, h2, ob_s, boV, hb, hm, Bool.and_self, if_true]

/-- The places of the marks of a band. -/
def ofBand (l ms : List Int) (b : Int) : List Int := selI (fun x _ => bandAt l x == b) (fun _ i => (i : Int)) ms 0
def sendV (l ms : List Int) : List Int := (List.range 8).flatMap fun b : Nat => ofBand l ms (b : Int)
def soV (l ms : List Int) : List Int × Bool := if bmOk l && mksOk ms then (sendV l ms, true) else ([], false)

theorem q_sendLoop {d : Nat} {l ms : List Int} (hl : bmOk l = true) (hm : mksOk ms = true) : iterP (l23_0 d l ms (j23_0 d)) fuelN (([] : List Int), 0) = some (sendV l ms, true) := by
  have hk : ms.length ≤ 40 := by simp only [mksOk, Bool.and_eq_true, decide_eq_true_eq] at hm; omega
  have hmk : ∀ x ∈ ms, mkOk x = true := by simp only [mksOk, Bool.and_eq_true, List.all_eq_true] at hm; exact hm.1
  refine (range_eq (fun (t : List Int) (i : Int) => (t, i)) (List.range 8) (fun (b : Nat) _ t k => rangeR (fun x i t k => oif (bandAt l x == (b : Int)) (oif (Nat.ble ((t.length + [(i : Int)].length) * 8) roomMax) (k (t ++ [(i : Int)])) none) (k t)) k ms 0 t) (j23_0 d) ?_ ?_ (by rw [fuelN_eq]; simp) []).trans ?_
  · intro ag t b x hx
    have hb := (List.getElem?_eq_some_iff.1 hx)
    obtain ⟨hb1, hb2⟩ := hb
    simp at hb1 hb2; subst hb2
    have e0 : decide (((b : Nat) : Int) < 8) = true := by simp; omega
    simp only [l23_0, l23_0_b, e0, oif_t]
    refine (range_eq (fun (t : List Int) (i : Int) => (t, i)) ms (fun x i t k => oif (bandAt l x == (b : Int)) (oif (Nat.ble ((t.length + [(i : Int)].length) * 8) roomMax) (k (t ++ [(i : Int)])) none) (k t)) (j23_1 d ag (b : Int) (ms.length : Int)) ?_ ?_ (by rw [fuelN_eq]; omega) t).trans ?_
    · intro ag t i x hx; have hi := (List.getElem?_eq_some_iff.1 hx).1; simp only [l23_1, l23_1_b, ltl hx, bltl hx, nn, ofNat_toNat, hx, ob_s, oif_t]; rw [wr1 (by omega)]
      obtain ⟨h1, h2, _⟩ := bandAt_in hl (hmk x (List.mem_of_getElem? hx))
      simp only [h1, oif_t, h2, ob_s]
    · intro ag t; simp only [l23_1, l23_1_b, ltn, oif_f]
    · refine rangeR_congr ms 0 t (fun _ _ _ _ _ => rfl) fun t => ?_
      unfold j23_1; rw [wr1 (by omega)]
  · intro ag t
    simp [l23_0, l23_0_b, oif]
  · have hs : ∀ b : Nat, (ofBand l ms (b : Int)).length ≤ 40 := fun b => Nat.le_trans (selI_len ms 0) hk
    have gen : ∀ (bs : List Nat) (i : Nat) (t : List Int), t.length + bs.length * 40 ≤ 10000 → rangeR (fun (b : Nat) _ t k => rangeR (fun x i t k => oif (bandAt l x == (b : Int)) (oif (Nat.ble ((t.length + [(i : Int)].length) * 8) roomMax) (k (t ++ [(i : Int)])) none) (k t)) k ms 0 t) (j23_0 d) bs i t = some (t ++ bs.flatMap fun b : Nat => ofBand l ms (b : Int), true) := by
      intro bs
      induction bs with
      | nil => intro i t _; simp [rangeR, j23_0]
      | cons b r ih =>
        intro i t ht
        simp only [List.length_cons] at ht
        simp only [rangeR, List.flatMap_cons]
        rw [rangeR_sel (c := fun x _ => bandAt l x == (b : Int)) (e := fun _ i => (i : Int)) ms 0 t (by omega)]
        have := hs b
        rw [ih (i + 1) (t ++ selI (fun x _ => bandAt l x == (b : Int)) (fun _ i => (i : Int)) ms 0) (by simp only [List.length_append]; unfold ofBand at this; omega)]
        simp [ofBand]
    exact gen (List.range 8) 0 [] (by simp)

theorem q_SendOrder {d : Nat} {l ms : List Int} (hl : l.length < 4194304) (hm : ms.length < 4194304) : g23 (d + 3) l ms = some (soV l ms) := by
  rw [e23, q_IsBandMap hl, ob_s]; unfold j23_2
  cases hb : bmOk l with
  | false => simp [soV, hb, oif]
  | true =>
    rw [q_areMarks hm, ob_s]
    cases hm : mksOk ms with
    | false => simp [soV, hm, oif]
    | true => simp only [Bool.not_true, oif_f, soV, hb, hm, Bool.and_self, if_true]; exact q_sendLoop hb hm
theorem sendLoops {d : Nat} {l ms : List Int} : l24_0 d l ms (j24_0 d) = l23_0 d l ms (j23_0 d) := rfl
theorem q_sSendOrder {d : Nat} {l ms : List Int} (hl : l.length < 4194304) (hm : ms.length < 4194304) : g24 (d + 5) l ms = some (soV l ms) := by
  rw [e24, q_bdMarks hl hm, ob_s, sendLoops]
  cases hb : bmOk l with
  | false => simp [soV, hb, oif]
  | true =>
    cases hm : mksOk ms with
    | false => simp [soV, hm, oif]
    | true => simp only [Bool.and_self, Bool.not_true, oif_f, soV, hb, hm, if_true]; exact q_sendLoop hb hm

/-- The counts of bands. -/
theorem q_countLoop {d : Nat} {l ms : List Int} (hl : bmOk l = true) (hm : mksOk ms = true) : Ok (iterP (l26_0 d l ms (j26_0 d)) fuelN (0, (List.replicate 8 (0 : Int)))) fun r => r.2 = true ∧ r.1.length = 8 ∧ (∀ x ∈ r.1, 0 ≤ x) ∧ r.1.sum = (ms.length : Int) := by
  have hk : ms.length ≤ 40 := by simp only [mksOk, Bool.and_eq_true, decide_eq_true_eq] at hm; omega
  have hmk : ∀ x ∈ ms, mkOk x = true := by simp only [mksOk, Bool.and_eq_true, List.all_eq_true] at hm; exact hm.1
  rw [show iterP (l26_0 d l ms (j26_0 d)) fuelN (0, (List.replicate 8 (0 : Int))) = _ from range_eq (fun (t : List Int) (i : Int) => (i, t)) ms (fun x i t k => oif (Nat.blt (bandAt l x).toNat t.length) (obind t[(bandAt l x).toNat]? fun n => k (t.set (bandAt l x).toNat (IntKind.i64.wrap (n + 1)))) none) (j26_0 d) (by
    intro ag t i x hx; have hi := (List.getElem?_eq_some_iff.1 hx).1; simp only [l26_0, l26_0_b, ltl hx, bltl hx, nn, ofNat_toNat, hx, ob_s, oif_t]; rw [wr1 (by omega)]
    obtain ⟨h1, h2, h3, h4⟩ := bandAt_in hl (hmk x (List.mem_of_getElem? hx))
    have e0 : decide (0 ≤ bandAt l x) = true := by simpa using h3
    simp only [h1, oif_t, h2, ob_s, e0]
    cases hb : Nat.blt (bandAt l x).toNat t.length with
    | false => rfl
    | true =>
      simp only [oif_t]
      cases t[(bandAt l x).toNat]? <;> rfl) (by intro ag t; simp only [l26_0, l26_0_b, ltn, oif_f]) (by rw [fuelN_eq]; omega) (List.replicate 8 (0 : Int))]
  have gen : ∀ (ns : List Int) (i : Nat) (t : List Int), (∀ x ∈ ns, mkOk x = true) → t.length = 8 → (∀ x ∈ t, 0 ≤ x) → t.sum = (i : Int) → i + ns.length ≤ 100 → Ok (rangeR (fun x i t k => oif (Nat.blt (bandAt l x).toNat t.length) (obind t[(bandAt l x).toNat]? fun n => k (t.set (bandAt l x).toNat (IntKind.i64.wrap (n + 1)))) none) (j26_0 d) ns i t) fun r => r.2 = true ∧ r.1.length = 8 ∧ (∀ x ∈ r.1, 0 ≤ x) ∧ r.1.sum = ((i + ns.length : Nat) : Int) := by
    intro ns
    induction ns with
    | nil => intro i t _ h1 h2 h3 _; exact Ok.some ⟨rfl, h1, h2, by simpa using h3⟩
    | cons x r ih =>
      intro i t hm h1 h2 h3 h4
      obtain ⟨_, _, b1, b2⟩ := bandAt_in hl (hm x (by simp))
      have hlt : (bandAt l x).toNat < t.length := by omega
      simp only [rangeR, blt_of hlt, oif_t]
      rw [List.getElem?_eq_getElem hlt, ob_s]
      have g1 := h2 _ (List.getElem_mem hlt)
      have g2 : t[(bandAt l x).toNat] ≤ t.sum := le_sum h2 (List.getElem_mem hlt)
      have hx : t.getD (bandAt l x).toNat 0 = t[(bandAt l x).toNat] := by simp [List.getD, List.getElem?_eq_getElem hlt]
      simp only [List.length_cons] at h4
      rw [wr (by omega) (by omega)]
      have := ih (i + 1) (t.set (bandAt l x).toNat (t[(bandAt l x).toNat] + 1)) (fun y hy => hm y (by simp [hy])) (by simpa using h1) (by
        intro y hy
        rcases List.mem_or_eq_of_mem_set hy with hy | rfl
        · exact h2 y hy
        · omega) (by rw [sum_set hlt, hx]; omega) (by omega)
      refine this.mono fun r hr => ⟨hr.1, hr.2.1, hr.2.2.1, ?_⟩
      rw [hr.2.2.2]; simp only [List.length_cons]; omega
  refine (gen ms 0 _ hmk (by simp) (by simp [List.mem_replicate]) (by simp) (by omega)).mono fun r hr => ?_
  simpa using hr

theorem countLoops {d : Nat} {l ms : List Int} : l27_0 d l ms (j27_0 d) = l26_0 d l ms (j26_0 d) := rfl
/-- The counts: the same in both packages. -/
theorem q_BandCounts {d : Nat} {l ms : List Int} (hl : l.length < 4194304) (hm : ms.length < 4194304) : ∃ r : List Int × Bool, g26 (d + 5) l ms = some r ∧ g27 (d + 5) l ms = some r ∧ r.1.length ≤ 8 ∧ (∀ x ∈ r.1, 0 ≤ x) ∧ (r.2 = true → r.1.sum = (ms.length : Int) ∧ ms.length ≤ 40) := by
  rw [e26, e27, q_IsBandMap hl, q_bdMarks hl hm]; unfold j26_1
  simp only [ob_s]
  cases hb : bmOk l with
  | false => exact ⟨([], false), rfl, rfl, by simp, by simp, by simp⟩
  | true =>
    rw [q_areMarks hm, ob_s]
    cases hm' : mksOk ms with
    | false => exact ⟨([], false), rfl, rfl, by simp, by simp, by simp⟩
    | true =>
      have e0 : (Nat.ble 8 8 && Nat.ble (8 * 8) roomMax) = true := by simp [roomMax]
      simp only [Bool.not_true, oif_f, Bool.and_self, e0, oif_t]
      have hc : g26 0 l ms = g26 0 l ms := rfl
      obtain ⟨r, h1, h2, h3, h4, h5⟩ := q_countLoop (d := d + 4) hb hm'
      refine ⟨r, h1, ?_, by omega, h4, fun _ => ⟨h5, ?_⟩⟩
      · rw [countLoops]; exact h1
      · simp only [mksOk, Bool.and_eq_true, decide_eq_true_eq] at hm'; omega

theorem p_bandMap {d m : Nat} {c : List Int × Int × Int} (hc : CurOk m c) (hm : m < 100000) : Ok (g116 (d + 4) c) fun r => r.1.length ≤ 17 ∧ CurOk (m + 100) r.2 := by
  rw [e116]
  have e0 : (Nat.ble 16 16 && Nat.ble (16 * 8) roomMax) = true := by simp [roomMax]
  rw [e0, oif_t]
  refine Ok.bind (p_pick hc (by omega)) fun r hr => ?_
  obtain ⟨a1, a2, a3⟩ := hr
  refine iter_ok (fun n s => ∃ i : Nat, s.1 = (i : Int) ∧ i + n = 16 ∧ CurOk (m + 2 + 2 * i) s.2.1 ∧ s.2.2.length = 16) ?_ _ 16 _ (by rw [fuelN_eq]; omega) ⟨0, rfl, rfl, by simpa using a3, by simp⟩
  rintro n ⟨_, x, l⟩ ag ⟨i, rfl, hin, hx, hl⟩ hag
  simp only at hx hl
  simp only [l116_0, l116_0_b]
  refine Ok.oif (fun h => ?_) (fun h => ?_)
  · simp at h
    refine Ok.bind (p_pick hx (by omega)) fun q hq => ?_
    have hlt : i < l.length := by omega
    simp only [nn, ofNat_toNat, oif_t, blt_of hlt]
    rw [List.getElem?_eq_getElem hlt, ob_s, wr1 (by omega)]
    exact hag (n - 1) _ (by omega) ⟨i + 1, rfl, by omega, hq.2.2.mono (by omega), by simpa using hl⟩
  · simp at h
    unfold j116_0
    refine Ok.bind (p_pick (m := m + 2 + 2 * i) (c := (x.1, x.2.1, x.2.2)) hx (by omega)) fun q hq => ?_
    refine Ok.oif (fun _ => ?_) (fun _ => Ok.oif (fun _ => ?_) (fun _ => Ok.oif (fun _ => ?_) (fun _ => ?_)))
    · refine Ok.bind (p_pick hq.2.2 (by omega)) fun u hu => ?_
      refine Ok.bind (p_among hu.2.2 (by omega) (by simp)) fun v hv => ?_
      have hlt : u.1.toNat < l.length := by omega
      have e1 : decide (0 ≤ u.1) = true := by simpa using hu.1
      simp only [e1, oif_t, blt_of hlt]
      rw [List.getElem?_eq_getElem hlt, ob_s]
      exact Ok.some ⟨by simp; omega, hv.2.mono (by omega)⟩
    · have e1 : Nat.ble 15 l.length = true := by rw [Nat.ble_eq]; omega
      rw [e1, oif_t]
      exact Ok.some ⟨by simp; omega, hq.2.2.mono (by omega)⟩
    · rw [room (by simp; omega), oif_t]
      exact Ok.some ⟨by simp; omega, hq.2.2.mono (by omega)⟩
    · exact Ok.some ⟨by simp only; omega, hq.2.2.mono (by omega)⟩

theorem p_marks1 {d m : Nat} {c : List Int × Int × Int} {l : List Int} (hc : CurOk m c) (hm : m < 200000) (hl : l.length ≤ 41) : Ok (j117_1 (d + 3) c.1 c.2.1 c.2.2 l) fun r => r.1.length ≤ 41 ∧ CurOk (m + 10) r.2 := by
  unfold j117_1 j117_0
  refine Ok.oif (fun h => ?_) (fun h => Ok.some ⟨hl, hc.mono (by omega)⟩)
  simp at h
  refine Ok.bind (p_one hc (by omega)) fun q hq => ?_
  refine Ok.oif (fun _ => ?_) (fun _ => Ok.some ⟨hl, hq.mono (by omega)⟩)
  refine Ok.bind (p_among (c := (q.2.1, q.2.2.1, q.2.2.2)) hq (by omega) (by simp)) fun u hu => ?_
  have hlt : 0 < l.length := by omega
  rw [blt_of hlt, oif_t, List.getElem?_eq_getElem hlt, ob_s]
  exact Ok.some ⟨by simpa using hl, hu.2.mono (by omega)⟩

theorem p_marks {d m : Nat} {c : List Int × Int × Int} (hc : CurOk m c) (hm : m < 100000) : Ok (g117 (d + 4) c) fun r => r.1.length ≤ 41 ∧ CurOk (m + 200) r.2 := by
  rw [e117]
  refine Ok.bind (p_pick hc (by omega)) fun r hr => ?_
  refine Ok.bind (p_one hr.2.2 (by omega)) fun q hq => ?_
  have key : ∀ (n : Int) (c : List Int × Int × Int), n ≤ 41 → CurOk (m + 50) c → Ok (j117_2 (d + 3) n c.1 c.2.1 c.2.2) fun r => r.1.length ≤ 41 ∧ CurOk (m + 200) r.2 := by
    intro n c hn hc
    unfold j117_2
    refine iter_ok (fun k s => s.1.length + k = 41 ∧ CurOk (m + 50 + 2 * s.1.length) s.2) ?_ _ 41 _ (by rw [fuelN_eq]; omega) ⟨by simp, by simpa using hc⟩
    rintro k ⟨l, x⟩ ag ⟨h1, h2⟩ hag
    simp only at h1 h2
    simp only [l117_0, l117_0_b]
    refine Ok.oif (fun h => ?_) (fun h => ?_)
    · simp at h
      refine Ok.bind (p_pick h2 (by omega)) fun u hu => ?_
      rw [room (by simp; omega), oif_t]
      exact hag (k - 1) _ (by omega) ⟨by simp; omega, by simpa using hu.2.2.mono (by omega)⟩
    · exact (p_marks1 h2 (by omega) (by omega)).mono fun r hr => ⟨hr.1, hr.2.mono (by omega)⟩
  refine Ok.oif (fun _ => ?_) (fun _ => ?_)
  · refine Ok.bind (p_pick hq (by omega)) fun u hu => ?_
    refine key _ u.2 ?_ (hu.2.2.mono (by omega))
    rw [wr (by omega) (by omega)]; omega
  · exact key r.1 q.2 (by omega) (hq.mono (by omega))

theorem p_DrawSendOrder {d : Nat} {x : List Int} (hx : Bytes x) : Ok (g22 (d + 5) x) fun r => r.1.length ≤ 17 ∧ r.2.length ≤ 41 := by
  rw [e22]
  refine Ok.bind (p_bandMap (CurOk.new hx) (by omega)) fun r hr => ?_
  exact Ok.bind (p_marks hr.2 (by omega)) fun q hq => Ok.some ⟨hr.1, hq.1⟩
theorem p_DrawBandCounts {d : Nat} {x : List Int} (hx : Bytes x) : Ok (g25 (d + 6) x) fun r => r.1.length ≤ 17 ∧ r.2.length ≤ 41 := by
  rw [e25]
  exact Ok.bind (p_DrawSendOrder hx) fun r hr => Ok.some hr
theorem p_DrawBandOf {d : Nat} {x : List Int} (hx : Bytes x) : Ok (g28 (d + 5) x) fun r => r.1.length ≤ 17 := by
  rw [e28]
  refine Ok.bind (p_bandMap (CurOk.new hx) (by omega)) fun r hr => ?_
  refine Ok.bind (p_pick hr.2 (by omega)) fun u hu => ?_
  exact Ok.bind (p_among hu.2.2 (by omega) (by simp)) fun v hv => Ok.some hr.1

end Go.Proofs.Ytngofhppopgicaa
