/-
  Buckets by value: time to fill; the draws.
  Conditions: those of the cursor for the draws.
-/
import Derived.Test.YtngofhppopgicaaKBuc3
set_option linter.all false
namespace Go.Proofs.Ytngofhppopgicaa
open Go.Ev Go.Pv

theorem q_TicksToFull {d : Nat} {b : Int × Int × Int} : g45 (d + 3) b = some (tfV b) := by
  rw [e45]
  simp only [q_IsBucket, ob_s]
  cases hb : bkOk b with
  | false => simp [tfV, hb, oif]
  | true =>
    have hb' := hb
    simp only [bkOk, decide_eq_true_eq] at hb'
    simp only [Bool.not_true, oif, tfV, hb, if_true]
    by_cases h1 : b.2.1 ≤ b.2.2
    · have : b.2.2 = b.2.1 := by omega
      simp [waitV, this]
    · have hne : ¬ b.2.2 = b.2.1 := by omega
      have hn2 : (b.2.2 == b.2.1) = false := by simpa using hne
      by_cases h3 : b.1 = 0
      · simp [waitV, h1, h3, hn2]
      · have hw := (waitN_wr (n := b.2.1) hb (by omega) (by omega) h3).1
        have e1 : decide (b.2.2 ≥ b.2.1) = false := by simp; omega
        have hz : (b.1 == 0) = false := by simpa using h3
        rw [e125]
        simp [e1, hw, oif, obind, waitV, h1, h3, hn2, hz]

theorem p_one {d m : Nat} {c : List Int × Int × Int} {n : Int} (hc : CurOk m c) (hm : m + 1 < 4611686018427387904) : Ok (g141 (d + 3) c n) fun r => CurOk (m + 2) r.2 := by
  rw [e141]
  exact Ok.bind (p_pick hc hm) (fun r hr => Ok.some hr.2.2)

theorem p_size {d m : Nat} {c : List Int × Int × Int} (hc : CurOk m c) (hm : m + 10 < 4611686018427387904) : Ok (g114 (d + 4) c) fun r => CurOk (m + 4) r.2 := by
  rw [e114]
  refine Ok.bind (p_among hc (by omega) (by simp)) (fun r hr => ?_)
  exact Ok.bind (p_among hr.2 (by omega) (by simp)) (fun q hq => Ok.some hq.2)

theorem p_bucket {d m : Nat} {c : List Int × Int × Int} (hc : CurOk m c) (hm : m + 20 < 4611686018427387904) : Ok (g128 (d + 4) c) fun r => CurOk (m + 12) r.2 := by
  rw [e128]
  refine Ok.bind (p_among hc (by omega) (by simp)) (fun r1 h1 => ?_)
  refine Ok.bind (p_among h1.2 (by omega) (by simp)) (fun r2 h2 => ?_)
  refine Ok.bind (p_pick h2.2 (by omega)) (fun r3 h3 => ?_)
  refine Ok.bind (Ok.eq q_l1Least (Q := fun _ => True) trivial) (fun r4 _ => ?_)
  refine Ok.bind (p_among h3.2.2 (by omega) (by simp)) (fun r5 h5 => ?_)
  refine Ok.bind (p_pick h5.2 (by omega)) (fun r6 h6 => ?_)
  refine Ok.oif (fun _ => ?_) (fun _ => Ok.oif (fun _ => ?_) (fun _ => Ok.oif (fun _ => ?_) (fun _ => ?_)))
  · exact Ok.bind (p_among h6.2.2 (by omega) (by simp)) (fun q hq => Ok.some (hq.2.mono (by omega)))
  · exact Ok.bind (p_among h6.2.2 (by omega) (by simp)) (fun q hq => Ok.some (hq.2.mono (by omega)))
  · exact Ok.bind (p_among h6.2.2 (by omega) (by simp)) (fun q hq => Ok.some (hq.2.mono (by omega)))
  · exact Ok.some (h6.2.2.mono (by omega))

theorem p_DrawCanSpend {d : Nat} {x : List Int} (hx : Bytes x) : Ok (g124 (d + 5) x) fun _ => True := by
  rw [e124]
  refine Ok.bind (p_bucket (CurOk.new hx) (by omega)) (fun r1 h1 => ?_)
  refine Ok.bind (p_one h1 (by omega)) (fun r2 h2 => ?_)
  refine Ok.oif (fun _ => ?_) (fun _ => ?_)
  · exact Ok.bind (p_pick h2 (by omega)) (fun q hq => Ok.some trivial)
  · exact Ok.bind (p_size h2 (by omega)) (fun q hq => Ok.some trivial)
theorem p_DrawWaitFor {d : Nat} {x : List Int} (hx : Bytes x) : Ok (g35 (d + 6) x) fun _ => True := by
  rw [e35]
  exact Ok.bind (p_DrawCanSpend hx) (fun r _ => Ok.some trivial)
theorem p_DrawFillBucket {d : Nat} {x : List Int} (hx : Bytes x) : Ok (g38 (d + 5) x) fun _ => True := by
  rw [e38]
  refine Ok.bind (p_bucket (CurOk.new hx) (by omega)) (fun r1 h1 => ?_)
  refine Ok.bind (p_pick h1 (by omega)) (fun r2 h2 => ?_)
  exact Ok.bind (p_among h2.2.2 (by omega) (by simp)) (fun q hq => Ok.some trivial)
theorem p_DrawFullBucket {d : Nat} {x : List Int} (hx : Bytes x) : Ok (g47 (d + 4) x) fun _ => True := by
  rw [e47]
  refine Ok.bind (p_among (CurOk.new hx) (by omega) (by simp)) (fun r1 h1 => ?_)
  exact Ok.bind (p_among h1.2 (by omega) (by simp)) (fun q hq => Ok.some trivial)

end Go.Proofs.Ytngofhppopgicaa
