/-
  Elements deleted from an owned slice: by value, in the first interpreter, and in the model by a walk of the function.
  Conditions: the walk.
-/
import Derived.Test.YtdogommoghjncaaVSound
import Derived.Test.YtdogommoghjncaaTop
set_option linter.all false
namespace Go.Pv
open Go.Ev

/-- Elements from a place up to another one are deleted; what is behind the rest is cleared. -/
def delX (k : Nat) (zs : List Value) : List Value → Nat → Heap → Option (Value × Heap)
  | [.slice (some a) n c, .int .i64 i, .int .i64 j], lim, H =>
    match decide (0 ≤ i) && (decide (i < j) && (Nat.ble j.toNat n && (Nat.beq c k && Nat.ble n 9223372036854775807))) with
    | true => obind (hloadN H ⟨a.block, a.off + j.toNat * k, none⟩ ((n - j.toNat) * k)) fun cs => obind (hstoreN H lim ⟨a.block, a.off + i.toNat * k, none⟩ cs) fun H1 =>
      obind (hstoreN H1 lim ⟨a.block, a.off + (i.toNat + (n - j.toNat)) * k, none⟩ (List.replicate (j.toNat - i.toNat) zs).flatten) fun H2 => some (.slice (some a) (i.toNat + (n - j.toNat)) k, H2)
    | false => none
  | _, _, _ => none

def delV (t : Ty) (a : List t.T × Int × Int) : Option (List t.T) :=
  oif (decide (0 ≤ a.2.1) && (decide (a.2.1 < a.2.2) && (decide (a.2.2 ≤ (a.1.length : Int)) && Nat.ble a.1.length 9223372036854775807))) (some (a.1.take a.2.1.toNat ++ a.1.drop a.2.2.toNat)) none

def delSig (t : Ty) : Sig := ⟨[(.mv, .sl t), (.ro, .int .i64), (.ro, .int .i64)], [(true, .sl t)]⟩

theorem hstoreN_mk {H : Heap} {lim z p : Nat} {vs : List Value} {k : Blk} (hk : hget H z = some k) (hro : k.ro = false) (hl : lim ≤ z) (hc : ∀ v ∈ vs, isCell v = true) (hp : p + vs.length ≤ k.cells.length) : hstoreN H lim ⟨z, p, none⟩ vs = some (H.set z (some ⟨lay k.cells p vs, false⟩)) := by
  unfold hstoreN
  simp only [hk, obind]
  rw [hro, List.all_eq_true.2 hc, show (vs.all leafOk || Nat.ble lim z) = true by rw [Nat.ble_eq_true_of_le hl, Bool.or_true], Nat.ble_eq_true_of_le hp]
  obtain ⟨kc, kr⟩ := k
  simp only at hro; subst hro; rfl

theorem intR {N : Nat → Prop} {H : Heap} {lim : Nat} {i : Int} {w : Value} {ids : List Nat} (h : HR N H lim .fz ⟨.int .i64, i⟩ w ids) : ids = [] ∧ w = .int .i64 i := by
  obtain ⟨cs, h1, h2, h3⟩ := h
  refine ⟨h2, ?_⟩
  have h1 : cs = [w] := h1
  unfold Rep at h3
  rw [h1] at h3; simpa using h3

theorem HRs.three {N : Nat → Prop} {H : Heap} {lim : Nat} {k0 k1 k2 : Kd} {v0 v1 v2 : TV} {ws : List Value} {is : List (List Nat)} (h : HRs N H lim [k0, k1, k2] [v0, v1, v2] ws is) :
    ∃ w0 w1 w2 i0 i1 i2, ws = [w0, w1, w2] ∧ is = [i0, i1, i2] ∧ HR N H lim k0 v0 w0 i0 ∧ HR N H lim k1 v1 w1 i1 ∧ HR N H lim k2 v2 w2 i2 := by
  cases ws with
  | nil => exact absurd h id
  | cons w0 ws =>
    cases is with
    | nil => exact absurd h id
    | cons i0 is =>
      cases ws with
      | nil => exact absurd h.2 id
      | cons w1 ws =>
        cases is with
        | nil => exact absurd h.2 id
        | cons i1 is =>
          cases ws with
          | nil => exact absurd h.2.2 id
          | cons w2 ws =>
            cases is with
            | nil => exact absurd h.2.2 id
            | cons i2 is =>
              cases ws with
              | nil =>
                cases is with
                | nil => exact ⟨w0, w1, w2, i0, i1, i2, rfl, rfl, h.1, h.2.1, h.2.2.1⟩
                | cons _ _ => exact absurd h.2.2.2 id
              | cons _ _ => cases is <;> exact absurd h.2.2.2 id

theorem del_fn {t : Ty} (ht : t.flat = true) {zs : List Value} (hz : zs.length = t.size) (hzc : ∀ v ∈ zs, leafOk v = true) (hzp : ∀ v ∈ zs, sameLeaf v v = true) (lim : Nat) : FnOk (delSig t) (delV t) (delX t.size zs) lim := by
  intro a r h H Ban ws idss hBan hlimH hnd hdis hh
  obtain ⟨l, i, j, rfl⟩ : ∃ (l : List t.T) (i j : Int), a = ((l, i, j) : List t.T × Int × Int) := ⟨a.1, a.2.1, a.2.2, rfl⟩
  unfold delV at h
  rcases oif_some h with ⟨hc, h⟩ | ⟨_, h⟩
  case inr => simp at h
  simp only [Bool.and_eq_true, decide_eq_true_eq] at hc
  obtain ⟨c1, c2, c3, c4⟩ := hc
  have c4' := Nat.le_of_ble_eq_true c4
  injection h with h; subst h
  obtain ⟨w0, w1, w2, i0, i1, i2, rfl, rfl, h0, h1, h2⟩ := HRs.three (k0 := .os) (k1 := .fz) (k2 := .fz) (v0 := ⟨.sl t, l⟩) (v1 := ⟨.int .i64, i⟩) (v2 := ⟨.int .i64, j⟩) hh
  obtain ⟨rfl, rfl⟩ := intR h1
  obtain ⟨rfl, rfl⟩ := intR h2
  obtain ⟨u, x, e, ho⟩ := h0
  injection e with e1 e2
  injection e1 with e1; subst e1
  replace e2 := eq_of_heq e2; subst e2
  replace c1 : 0 ≤ i := c1
  replace c2 : i < j := c2
  replace c3 : j ≤ (l.length : Int) := c3
  replace c4 : Nat.ble l.length 9223372036854775807 = true := c4
  replace c4' : l.length ≤ 9223372036854775807 := c4'
  rcases ho with ⟨_, rfl, _⟩ | ⟨z, o, k, ks, rfl, _, rfl, q1, q2, q3, q4, q5, q6⟩
  · simp at c3; omega
  obtain rfl := q6.flat ht
  have hno : ∀ u, t ≠ .os u := by intro u e; subst e; simp [Ty.flat] at ht
  obtain ⟨I, rfl⟩ := Int.eq_ofNat_of_zero_le c1
  obtain ⟨J, rfl⟩ := Int.eq_ofNat_of_zero_le (show 0 ≤ j by omega)
  have hIJ : I < J := by omega
  have hJ : J ≤ l.length := by omega
  have hk := Ty.size_pos t
  obtain ⟨f1, f2⟩ := q4
  have m1 : J * t.size + (l.length - J) * t.size = l.length * t.size := by rw [← Nat.add_mul]; congr 1; omega
  have m2 : I * t.size + (l.length - J) * t.size = (I + (l.length - J)) * t.size := by rw [← Nat.add_mul]
  have m3 : (I + (l.length - J)) * t.size + (J - I) * t.size = l.length * t.size := by rw [← Nat.add_mul]; congr 1; omega
  -- what is moved
  let cs := seg k.cells (o + J * t.size) ((l.length - J) * t.size)
  have hcs : cs.length = (l.length - J) * t.size := seg_len _ _ _ (by omega)
  have hcsR : RL (fun z' => z' ∉ [[z], [], []].flatten ∧ ¬ Ban z') H t (l.drop J) cs := by
    have := q5.drop J hJ
    have e : ((k.cells.drop o).take (l.length * t.size)).drop (J * t.size) = cs := by
      show _ = (k.cells.drop (o + J * t.size)).take ((l.length - J) * t.size)
      rw [List.drop_take, List.drop_drop]; congr 1; omega
    rw [e] at this; exact this
  have hcsP : ∀ v ∈ cs, sameLeaf v v = true := hcsR.plain
  have hcell : ∀ v ∈ cs, isCell v = true := by
    intro v hv
    have := hcsP v hv
    cases v <;> first | rfl | simp [sameLeaf] at this
  have zlen : ∀ n : Nat, ((List.replicate n zs).flatten).length = n * t.size := by intro n; simp [hz]
  have zmem : ∀ (n : Nat) (v : Value), v ∈ (List.replicate n zs).flatten → v ∈ zs := by
    intro n v hv
    simp only [List.mem_flatten, List.mem_replicate] at hv
    obtain ⟨y, ⟨_, rfl⟩, hv⟩ := hv; exact hv
  have hl1 : hloadN H ⟨z, o + J * t.size, none⟩ ((l.length - J) * t.size) = some cs := by
    unfold hloadN; simp only [q1, obind]
    rw [Nat.ble_eq_true_of_le (by omega)]; rfl
  have hs1 := hstoreN_mk (p := o + I * t.size) q1 q2 q3 hcell (by omega)
  have hz1 : hget (H.set z (some ⟨lay k.cells (o + I * t.size) cs, false⟩)) z = some ⟨lay k.cells (o + I * t.size) cs, false⟩ := hget_set_self' (hget_lt q1)
  have ll1 : (lay k.cells (o + I * t.size) cs).length = k.cells.length := lay_len _ _ _ (by omega)
  have hs2 := hstoreN_mk (p := o + (I + (l.length - J)) * t.size) (vs := (List.replicate (J - I) zs).flatten) hz1 rfl q3 (fun v hv => leafOk_isCell (hzc v (zmem _ v hv))) (by rw [zlen, ll1]; omega)
  have ll2 : (lay (lay k.cells (o + I * t.size) cs) (o + (I + (l.length - J)) * t.size) (List.replicate (J - I) zs).flatten).length = k.cells.length := by rw [lay_len _ _ _ (by rw [zlen, ll1]; omega), ll1]
  have hset : (H.set z (some ⟨lay k.cells (o + I * t.size) cs, false⟩)).set z (some ⟨lay (lay k.cells (o + I * t.size) cs) (o + (I + (l.length - J)) * t.size) (List.replicate (J - I) zs).flatten, false⟩) = H.set z (some ⟨lay (lay k.cells (o + I * t.size) cs) (o + (I + (l.length - J)) * t.size) (List.replicate (J - I) zs).flatten, false⟩) := by simp
  simp only at hs2
  rw [hset] at hs2
  refine ⟨.slice (some ⟨z, o, none⟩) (I + (l.length - J)) t.size, H.set z (some ⟨lay (lay k.cells (o + I * t.size) cs) (o + (I + (l.length - J)) * t.size) (List.replicate (J - I) zs).flatten, false⟩), [.slice (some ⟨z, o, none⟩) (I + (l.length - J)) t.size], [[z]], ?_, rfl, by simp, ?_, ?_, ?_, ?_, ⟨⟨t, _, rfl, .inr ⟨z, o, ⟨lay (lay k.cells (o + I * t.size) cs) (o + (I + (l.length - J)) * t.size) (List.replicate (J - I) zs).flatten, false⟩, [], rfl, by simp, ?_, hget_set_self' (hget_lt q1), rfl, q3, ?_, ?_, InR.ofNo hno⟩⟩, trivial⟩, trivial⟩
  · have hb : (decide ((0 : Int) ≤ (I : Int)) && (decide ((I : Int) < (J : Int)) && (Nat.ble (J : Int).toNat l.length && (Nat.beq t.size t.size && Nat.ble l.length 9223372036854775807)))) = true := by
      rw [decide_eq_true (by omega), decide_eq_true (by omega), Int.toNat_natCast, Nat.ble_eq_true_of_le hJ, Nat.beq_refl, c4]; rfl
    simp only [delX]
    rw [hb]
    simp only [Int.toNat_natCast]
    rw [hl1]; simp only [obind]
    rw [hs1]; simp only
    rw [hs2]
  · intro y hy hn
    simp at hn
    exact hget_set_ne' (fun e => hn e.symm)
  · simp [delSig, outIds]
  · intro y hy; left; simpa using hy
  · intro y hy; exact hdis y (by simpa using hy)
  · congr 1; simp; omega
  · have e : (l.take (I : Int).toNat ++ l.drop (J : Int).toNat).length * t.size = (I + (l.length - J)) * t.size := by congr 1; simp; omega
    rw [e]
    have g0 : Fit o (l.length * t.size) k.cells := ⟨f1, f2⟩
    have g1 : Fit o (l.length * t.size) (lay k.cells (o + I * t.size) cs) := g0.lay (by omega) hcsP
    have g2 : Fit o (l.length * t.size) (lay (lay k.cells (o + I * t.size) cs) (o + (I + (l.length - J)) * t.size) (List.replicate (J - I) zs).flatten) := g1.lay (by rw [zlen, ll1]; omega) (fun v hv => hzp v (zmem _ v hv))
    have g3 := g2.sub (p := 0) (q := (I + (l.length - J)) * t.size) (by omega)
    simpa using g3
  · have e : (l.take (I : Int).toNat ++ l.drop (J : Int).toNat).length * t.size = (I + (l.length - J)) * t.size := by congr 1; simp; omega
    rw [e]
    have e1 : seg (lay (lay k.cells (o + I * t.size) cs) (o + (I + (l.length - J)) * t.size) (List.replicate (J - I) zs).flatten) o ((I + (l.length - J)) * t.size) = (seg k.cells o (l.length * t.size)).take (I * t.size) ++ cs := by
      rw [lay_seg_out _ _ _ (by rw [zlen, ll1]; omega) _ _ (.inl (Nat.le_refl _)), lay_seg_in _ _ _ _ _ (by omega) (by omega) (by omega)]
      unfold lay
      rw [show o + I * t.size - o = I * t.size by omega]
      have hsl : (seg k.cells o ((I + (l.length - J)) * t.size)).length = (I + (l.length - J)) * t.size := seg_len _ _ _ (by omega)
      rw [List.drop_of_length_le (by rw [hsl]; omega), List.append_nil]
      congr 1
      unfold seg
      rw [List.take_take, List.take_take, Nat.min_eq_left (by omega), Nat.min_eq_left (by omega)]
    have hR : RL (fun z' => z' ∉ [[z], [], []].flatten ∧ ¬ Ban z') H t (l.take I ++ l.drop J) ((seg k.cells o (l.length * t.size)).take (I * t.size) ++ cs) := RL.append (q5.take I (by omega)) hcsR
    show RL _ _ t (l.take (I : Int).toNat ++ l.drop (J : Int).toNat) (seg _ o _)
    rw [e1, Int.toNat_natCast, Int.toNat_natCast]
    exact ⟨hR.1, fun q hq => Rep.flat _ ht (hR.2 q hq)⟩

/-- What the walk of the function has to show. -/
def DelWalk (P : Program) (F : FuncId) (k : Nat) (zs : List Value) : Prop :=
  ∀ (b off n cap i j : Nat) (cs : List Value) (w : World), i < j → j ≤ n → n ≤ cap → n ≤ 9223372036854775807 → cs.length = (n - j) * k → (∀ t u, cs[t]? = some u → w.cell? ⟨b, off + j * k + t, none⟩ = some u) → (∀ u ∈ cs, u.oneCell' = true) →
    (∃ ety m, w.shape? b = some (ety, m) ∧ off + n * k ≤ m) → (∀ t, t < n * k → w.frozen? ⟨b, off + t, none⟩ = false) →
    Calls P F #[.slice (some ⟨b, off, none⟩) n cap, .int .i64 i, .int .i64 j] w fun e w' => e = .returned (.slice (some ⟨b, off, none⟩) (i + (n - j)) cap) ∧
      w' = (w.drew.setCells b (off + i * k) cs).setCells b (off + (i + (n - j)) * k) (List.replicate (j - i) zs).flatten

theorem del_call {P : Program} {F : FuncId} {k : Nat} {zs : List Value} (henter : ∀ (cargs : Array Value) (w : World), (callFunc F cargs).run P w = .ok (.enter F cargs) w) (hk : 0 < k) (hz : zs.length = k) (hzc : ∀ v ∈ zs, leafOk v = true) (walk : DelWalk P F k zs) :
    ∀ args lim H v H', delX k zs args lim H = some (v, H') → CallF P F args lim H v H' := by
  intro args lim H v H' h
  unfold delX at h
  split at h
  · rename_i a n c i j
    split at h
    · rename_i hc
      simp only [Bool.and_eq_true, decide_eq_true_eq] at hc
      obtain ⟨c1, c2, c3, c4, c5⟩ := hc
      have c3 := Nat.le_of_ble_eq_true c3
      have c4 := Nat.eq_of_beq_eq_true c4
      have c5 := Nat.le_of_ble_eq_true c5
      subst c4
      obtain ⟨I, rfl⟩ := Int.eq_ofNat_of_zero_le c1
      obtain ⟨J, rfl⟩ := Int.eq_ofNat_of_zero_le (show 0 ≤ j by omega)
      simp only [Int.toNat_natCast] at h c3
      replace h := obind_some h; obtain ⟨cs, h1, h⟩ := h
      replace h := obind_some h; obtain ⟨H1, h2, h⟩ := h
      replace h := obind_some h; obtain ⟨H2, h3, h⟩ := h
      simp at h; obtain ⟨rfl, rfl⟩ := h
      have hIJ : I < J := by omega
      have zmem : ∀ (n : Nat) (v : Value), v ∈ (List.replicate n zs).flatten → leafOk v = true := by
        intro n v hv
        simp only [List.mem_flatten, List.mem_replicate] at hv
        obtain ⟨y, ⟨_, rfl⟩, hv⟩ := hv; exact hzc v hv
      have hl1 := hstoreN_len h2
      have hl2 := hstoreN_len h3
      have m1 : J * c + (n - J) * c = n * c := by rw [← Nat.add_mul]; congr 1; omega
      have m2 : I * c + (n - J) * c = (I + (n - J)) * c := by rw [← Nat.add_mul]
      have m3 : (I + (n - J)) * c + (J - I) * c = n * c := by rw [← Nat.add_mul]; congr 1; omega
      refine ⟨fun hl _ => ?_, fun hl hcl => ?_, henter, fun ι w cargs hR hargs => ?_⟩
      · have := hl _ (List.mem_cons_self)
        cases this with
        | sl _ _ _ hb => exact .sl _ _ _ (by rw [Bel] at hb ⊢; omega)
      · have hld : LLt (Bel H.length) cs := by
          obtain ⟨k, hk1, hx⟩ := obind_some h1
          split at hx
          · simp at hx; subst hx
            intro v hv
            exact hcl _ (hget_lt hk1) _ hk1 v (List.mem_of_mem_drop (List.mem_of_mem_take hv))
          · simp at hx
        refine (hstoreN_ab h2 hld).trans ?_
        have := hstoreN_ab h3 (fun v hv => leafOk_lt (zmem _ v hv) _)
        exact this
      · obtain ⟨xs, rfl⟩ : ∃ xs : List Value, cargs = xs.toArray := ⟨cargs.toList, by simp⟩
        obtain ⟨al, ar⟩ := hargs
        simp only [List.toList_toArray] at al ar
        match xs, al, ar with
        | [y0, y1, y2], _, ar =>
        have r0 := ar 0 (by simp) (by simp)
        have r1 := ar 1 (by simp) (by simp)
        have r2 := ar 2 (by simp) (by simp)
        simp only [List.getElem_cons_zero, List.getElem_cons_succ] at r0 r1 r2
        cases r1
        cases r2
        cases r0 with
        | slEmpty => omega
        | slGo _ _ _ cap hD hlcap hcap =>
          obtain ⟨ds, d1, d2, d3, d4⟩ := hR.loadN h1
          obtain ⟨kb, hkb, hx⟩ := obind_some h1
          have hbk := hR.blk _ _ hkb
          simp only at hkb hbk
          have hro : kb.ro = false := by
            obtain ⟨k2, hk2, hx2⟩ := obind_some h2
            simp only at hk2
            rw [hkb] at hk2; injection hk2 with hk2; subst hk2
            split at hx2
            · rename_i hr _ _ _; exact hr
            · simp at hx2
          have hle : a.off + n * c ≤ kb.cells.length := by
            split at hx
            · rename_i hb
              have := Nat.le_of_ble_eq_true hb
              simp only at this; omega
            · simp at hx
          have hncap : n * c ≤ cap * c := Nat.mul_le_mul_right _ hlcap
          have hfit := hbk.fit
          have hadd : ∀ q : Nat, (ι.addr ⟨a.block, q, none⟩) = ⟨(ι a.block).blk, (ι a.block).off + q, none⟩ := fun q => rfl
          obtain ⟨ety, hshape⟩ := hbk.shape
          have hw := walk (ι a.block).blk ((ι a.block).off + a.off) n cap I J ds w hIJ c3 hlcap c5 d1 (fun t u hu => by
              have := d3 t u hu
              rw [addr_add] at this
              simp only at this
              rw [show (ι a.block).off + a.off + J * c + t = (ι a.block).off + (a.off + J * c) + t by omega]; exact this) (fun u hu => by
              rw [isCell_oneCell]
              obtain ⟨q, hq, rfl⟩ := List.mem_iff_getElem.1 hu
              exact (VRel.isCell (d2.2 q (by rw [d2.1]; exact hq) hq)) ▸ d4 _ (List.getElem_mem (by rw [d2.1]; exact hq))) ⟨ety, _, hshape, by omega⟩ (fun t ht => hbk.thaw hro _ (by omega) (by omega))
          have hRd : Rel ι (Bel H.length) H w.drew := hR.same_heap (w' := w.drew) rfl
          obtain ⟨_, s2, s3⟩ := hRd.store (P := P) h2 d2
          obtain ⟨_, s5, s6⟩ := s2.store (P := P) h3 (cs := (List.replicate (J - I) zs).flatten) ⟨rfl, fun q q1 q2 => leafOk_rel (zmem _ _ (List.getElem_mem q1)) ι _⟩
          simp only at s2 s3 s5 s6
          have e0 : ι.addr a = ⟨(ι a.block).blk, (ι a.block).off + a.off, none⟩ := rfl
          rw [e0]
          refine hw.mono ?_
          rintro e w' ⟨rfl, rfl⟩
          rw [show (ι a.block).off + a.off + I * c = (ι a.block).off + (a.off + I * c) by omega, show (ι a.block).off + a.off + (I + (n - J)) * c = (ι a.block).off + (a.off + (I + (n - J)) * c) by omega]
          refine ⟨ι, _, rfl, by rw [hl2, hl1]; exact s5, ?_, (Fr.drew ι H w).trans (s3.trans s6)⟩
          rw [hl2, hl1]
          have := VRel.slGo (ι := ι) (D := Bel H.length) a (I + (n - J)) c cap hD (by omega) hcap
          exact this
    · simp at h
  · simp at h

end Go.Pv
