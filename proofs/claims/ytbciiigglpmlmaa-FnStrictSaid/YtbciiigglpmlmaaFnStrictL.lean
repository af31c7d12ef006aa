/-
  The law FnStrict by value.
  Conditions: bytes.
-/
import Derived.Test.YtbciiigglpmlmaaFnStrictK
set_option linter.all false
namespace Go.Proofs.Ytbciiigglpmlmaa
open Go.Ev Go.Pv

theorem bN_at {l : List Int} {a : Ar} {i : Nat} {x : Int × Int} (hm : bmOk l = true) (ha : arOk a = true) (hx : a[i]? = some x) : bandAt l x.2 = ((bN l a i : Nat) : Int) := by
  obtain ⟨_, hmk, _, _, hgd⟩ := arOk_at ha hx
  obtain ⟨_, _, h3, _⟩ := bandAt_in hm hmk
  unfold bN; rw [hgd]; omega

theorem ov_facts {l : List Int} {a : Ar} {lim i y : Int} (h : y ∈ (ovV l a lim i).1) : bmOk l = true ∧ arOk a = true ∧ 0 ≤ i ∧ i < ((a.length : Nat) : Int) ∧ ∃ k : Nat, y = (k : Int) ∧ k < a.length ∧ i.toNat < k ∧ bN l a k < bN l a i.toNat := by
  unfold ovV at h
  split at h
  · rename_i hc
    obtain ⟨hc, h0, h1⟩ := hc
    obtain ⟨_, _, r3⟩ := runV_spec hc
    split at h
    · simp at h
    · rename_i hneg
      obtain ⟨j, x, hj, hcx, rfl⟩ := selI_mem _ _ h
      rw [List.getElem?_drop] at hj
      simp only [Bool.and_eq_true, decide_eq_true_eq] at hcx
      have hk := (List.getElem?_eq_some_iff.1 hj).1
      have hlen := r3.len
      have hi : i.toNat < (runV l a lim).length := by omega
      have hsi := List.getElem?_eq_getElem hi
      have gi : (runV l a lim).getD i.toNat 0 = (runV l a lim)[i.toNat] := by simp [List.getD, hsi]
      rw [gi] at hcx
      have := (r3.str (i.toNat + 1 + j) i.toNat x _ hj hcx.1 hsi hcx.2).2 (by omega)
      exact ⟨(cOk_parts hc).1, (cOk_parts hc).2.1, h0, h1, i.toNat + 1 + j, rfl, by omega, by omega, this⟩
  · simp at h

theorem over_loop {d : Nat} {l : List Int} {a : Ar} {lim i : Int} {kx : Bool → Option Bool} (hk : ∀ b, kx b = some true) : iterP (l3_0 d (l, a, lim, i) (ovV l a lim i) kx) fuelN (false, 0) = some true := by
  have hlen := ovV_len (l := l) (a := a) (lim := lim) (i := i)
  refine (range_eq (fun (t : Bool) (k : Int) => (t, k)) (ovV l a lim i).1 (fun x _ t k => k t) kx ?_ ?_ (by rw [fuelN_eq]; omega) false).trans ?_
  · intro ag t n x hx
    have hn := (List.getElem?_eq_some_iff.1 hx).1
    obtain ⟨hm, ha, i0, i1, k, rfl, k1, k2, k3⟩ := ov_facts (List.mem_of_getElem? hx)
    have hal := arOk_len ha
    have hxk := List.getElem?_eq_getElem k1
    have hi : i.toNat < a.length := by omega
    have hxi := List.getElem?_eq_getElem hi
    obtain ⟨p1, p2, p3, p4⟩ := bandAt_in hm (arOk_at ha hxk).2.1
    obtain ⟨q1, q2, q3, q4⟩ := bandAt_in hm (arOk_at ha hxi).2.1
    have e1 := bN_at hm ha hxk
    have e2 := bN_at hm ha hxi
    have ml := bmOk_len hm
    have hp : ((a[k].2.tmod 16) : Int).toNat < l.length := (List.getElem?_eq_some_iff.1 p2).1
    have hq : ((a[i.toNat].2.tmod 16) : Int).toNat < l.length := (List.getElem?_eq_some_iff.1 q2).1
    simp only [l3_0, l3_0_b]
    rw [ltl hx, oif_t, nn, oif_t, ofNat_toNat, blt_of hn, oif_t, hx, ob_s, decide_eq_false (show ¬ ((k : Nat) : Int) ≤ i by omega), oif_f]
    simp only [nn, ofNat_toNat, oif_t, blt_of k1, hxk, ob_s, p1, blt_of hp, p2, decide_eq_true i0, blt_of hi, hxi, q1, blt_of hq, q2]
    rw [decide_eq_false (show ¬ bandAt l a[k].2 ≥ bandAt l a[i.toNat].2 by omega), oif_f, wr1 (by omega)]
  · intro ag t
    simp only [l3_0, l3_0_b, ltn, oif_f]
  · rw [rangeR_fold (f := fun _ _ t => t)]; exact hk _

theorem strict_run {l : List Int} {a : Ar} {lim : Int} (h : cOk l a lim = true) : sfOk a (runV l a lim) = true ∧ isV l a (runV l a lim) = (true, true) := by
  obtain ⟨_, _, r3⟩ := runV_spec h
  obtain ⟨hm, ha, _⟩ := cOk_parts h
  have hs : sfOk a (runV l a lim) = true := sfOk_of r3.len (fun i x hx => by rcases r3.snt i x hx with g | g <;> omega)
  refine ⟨hs, ?_⟩
  unfold isV
  rw [hm, ha, hs, Bool.and_self, Bool.and_self, if_pos rfl]
  have : anyI (fun x i => anyI (stC l (runV l a lim) x i) a 0) a 0 = false := by
    refine (anyI_false _ _).2 fun i x hx => (anyI_false _ _).2 fun k y hy => ?_
    rw [Nat.zero_add, Nat.zero_add]
    have hi := (List.getElem?_eq_some_iff.1 hx).1
    have hk := (List.getElem?_eq_some_iff.1 hy).1
    have hlen := r3.len
    have hsi := List.getElem?_eq_getElem (show i < (runV l a lim).length by omega)
    have hsk := List.getElem?_eq_getElem (show k < (runV l a lim).length by omega)
    have gi : (runV l a lim).getD i 0 = (runV l a lim)[i] := by simp [List.getD, hsi]
    have gk : (runV l a lim).getD k 0 = (runV l a lim)[k] := by simp [List.getD, hsk]
    unfold stC
    rw [gi, gk]
    by_cases h1 : (runV l a lim)[i] ≥ 0
    · by_cases h2 : (runV l a lim)[k] > (runV l a lim)[i]
      · by_cases h3 : y.1 ≤ (runV l a lim)[i]
        · have := (r3.str i k _ _ hsi h1 hsk h2).1 (by rw [tk_get hy]; exact h3)
          rw [decide_eq_false (show ¬ bandAt l y.2 < bandAt l x.2 by rw [bN_at hm ha hx, bN_at hm ha hy]; omega)]
          simp
        · rw [decide_eq_false h3]; simp
      · rw [decide_eq_false h2]; simp
    · rw [decide_eq_false h1]; simp
  rw [this]; rfl

theorem law_end {d : Nat} {l : List Int} {a : Ar} {lim : Int} {b : Bool} (hl : l.length ≤ 17) (ha : a.length ≤ 41) (h : cOk l a lim = true) : j3_0 (d + 6) (l, a, lim) (runV l a lim, true) (runV l a lim, true) b = some true := by
  obtain ⟨h1, h2⟩ := strict_run h
  obtain ⟨hm, har, _⟩ := cOk_parts h
  have hlen := (runV_spec h).2.2.len
  have hw : wiV a (runV l a lim) = ((wiV a (runV l a lim)).1, true) := by
    unfold wiV; rw [har, h1, Bool.and_self, if_pos rfl]
  have hwl := wiV_len (a := a) (s := runV l a lim)
  unfold j3_0
  simp only
  rw [q_IsStrict (d := d + 2) (by omega) (by omega) (by omega), ob_s, q_WaitsIn (d := d + 2) (by omega) (by omega), ob_s, q_sWaitsIn (d := d + 1) (by omega) (by omega), ob_s, h2, hw]
  simp only [oif_t]
  rw [q_qInts (by omega), ob_s]

theorem once_loop {d : Nat} {l : List Int} {a : Ar} {lim : Int} {m : Int × Bool} {b0 : Bool} {kx : Bool → Option Bool} (hk : ∀ b, kx b = some true) (hc : cOk l a lim = true) (hm : ∀ x ∈ runV l a lim, x ≤ m.1) : iterP (l3_1 d (runV l a lim, true) m kx) fuelN (b0, 0) = some true := by
  obtain ⟨_, _, r3⟩ := runV_spec hc
  have hlen := r3.len
  have hal := (cOk_parts hc).2.2
  refine (range_eq (fun (t : Bool) (k : Int) => (t, k)) (runV l a lim) (fun x _ t k => k t) kx ?_ ?_ (by rw [fuelN_eq]; omega) b0).trans ?_
  · intro ag t n x hx
    have hn := (List.getElem?_eq_some_iff.1 hx).1
    simp only [l3_1, l3_1_b]
    rw [ltl hx, oif_t, nn, oif_t, ofNat_toNat, blt_of hn, oif_t, hx, ob_s, decide_eq_false (show ¬ x > m.1 by have := hm x (List.mem_of_getElem? hx); omega), oif_f, oif_t, ble_of (show n ≤ (runV l a lim).length by omega), oif_t]
    refine (range_eq (fun (u : Bool) (k : Int) => (u, k)) ((runV l a lim).take n) (fun y _ u k => k u) (fun u => ag (u, ((n + 1 : Nat) : Int))) ?_ ?_ (by rw [fuelN_eq]; simp; omega) t).trans ?_
    · intro ag2 u k y hy
      have hk' := (List.getElem?_eq_some_iff.1 hy).1
      simp only [List.length_take] at hk'
      have hkn : k < n := by omega
      rw [List.getElem?_take_of_lt hkn] at hy
      simp only [l3_2, l3_2_b]
      rw [ofNat_toNat, decide_eq_true (show ((k : Nat) : Int) < ((n : Nat) : Int) by omega), oif_t, nn, oif_t, ofNat_toNat, blt_of hkn, oif_t, hy, ob_s, wr1 (by omega)]
      by_cases h0 : x ≥ 0
      · rw [decide_eq_true h0, oif_t]
        have hne : x ≠ y := by
          intro e
          rcases r3.dis n k x hx (by rw [e]; exact hy) with g | g <;> omega
        rw [show (x == y) = false by simpa using hne, oif_f]
      · rw [decide_eq_false h0, oif_f]
    · intro ag2 u
      have e : ((runV l a lim).take n).length = n := by simp; omega
      simp only [l3_2, l3_2_b]
      rw [e, ofNat_toNat, ltn, oif_f]
      unfold j3_1
      rw [wr1 (by omega)]
    · rw [rangeR_fold (f := fun _ _ t => t)]
      have : ∀ (l : List Int) (i : Nat) (t : Bool), foldI (fun _ _ t => t) l i t = t := by
        intro l; induction l with
        | nil => intro i t; rfl
        | cons x r ih => intro i t; simp only [foldI]; exact ih _ _
      rw [this]
  · intro ag t
    simp only [l3_1, l3_1_b]
    rw [ltn, oif_f]
  · rw [rangeR_fold (f := fun _ _ t => t)]; exact hk _

theorem law_main {d : Nat} {x y : List Int} (hx : Bytes x) (hy : Bytes y) : g3 (d + 7) x y = some true := by
  rw [e3]
  refine (show ∀ b : Bool, oif b (some true) _ = some true from fun b => ?_) _
  cases b with
  | true => rfl
  | false =>
    obtain ⟨⟨l, a, lim⟩, h1, a1, a2⟩ := p_DrawRunBands (d := d) hx
    obtain ⟨⟨l2, a', s2⟩, h2, b1, b2, b3⟩ := p_DrawIsStrict (d := d) hy
    obtain ⟨⟨a3, s3⟩, h3, c1, c2⟩ := p_DrawWaitsIn (d := d) hy
    obtain ⟨⟨l4, a4, lim4, i4⟩, h4, d1, d2⟩ := p_DrawOvertakenBy (d := d) hy
    simp only at a1 a2 b1 b2 b3 c1 c2 d1 d2
    obtain ⟨m, m1, m2, m3⟩ := q_LastBusy (d := d + 1) (l := l) (a := a) (lim := lim) (by omega) (by omega)
    have w3 := wiV_len (a := a3) (s := s3)
    have o4 := ovV_len (l := l4) (a := a4) (lim := lim4) (i := i4)
    have r1 := rbV_len (l := l) (a := a) (lim := lim)
    simp only [oif_f, h1, h2, h3, h4, ob_s]
    rw [q_RunBands (d := d + 1) (by omega) (by omega), ob_s, q_sRunBands (d := d + 1) (by omega) (by omega), ob_s, m1, ob_s, m2, ob_s, q_IsStrict (d := d + 2) (by omega) (by omega) (by omega), ob_s, q_sIsStrict (d := d + 1) (by omega) (by omega) (by omega), ob_s, q_WaitsIn (d := d + 2) (by omega) (by omega), ob_s, q_sWaitsIn (d := d + 1) (by omega) (by omega), ob_s, q_OvertakenBy (d := d + 1) (by omega) (by omega), ob_s, q_sOvertakenBy (d := d + 1) (by omega) (by omega), ob_s]
    simp only [beq_self_eq_true, Bool.not_true, oif_f, bne_self_eq_false]
    rw [q_qInts (by omega), ob_s]
    simp only [Bool.not_true, oif_f]
    rw [q_qInts (by omega), ob_s]
    simp only [Bool.not_true, oif_f]
    rw [q_qInts (by omega), ob_s, Bool.not_true]
    unfold j3_3
    rw [oif_f]
    refine over_loop fun b => ?_
    unfold j3_2 rbV
    cases hc : cOk l a lim with
    | false => rfl
    | true =>
      simp only [if_true, Bool.not_true, oif_f]
      exact once_loop (fun b => law_end a1 a2 hc) hc (m3 hc)

theorem lawOk : LawOk Try.prog pvAnn (7) 3 :=
  ⟨rfl, rfl, rfl, fun x y hx hy _ _ => ⟨(x, y), true, law_main (d := 0) hx hy, rfl, rfl⟩⟩

end Go.Proofs.Ytbciiigglpmlmaa
