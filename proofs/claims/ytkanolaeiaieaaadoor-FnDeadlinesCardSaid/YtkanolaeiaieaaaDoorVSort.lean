/-
  Whole numbers sorted in place: by value, in the first interpreter, and in the model by a walk of the function.
  Conditions: the walk.
-/
import Derived.Test.YtkanolaeiaieaaaDoorVSound
import Derived.Test.YtkanolaeiaieaaaDoorTop
import Derived.Sort.Grow
import Derived.Deep.Draws
set_option linter.all false
namespace Go.Pv
open Go.Ev

def sortI (l : List Int) : List Int := l.mergeSort fun x y => decide (x ≤ y)

theorem sortI_len (l : List Int) : (sortI l).length = l.length := List.length_mergeSort l

def intsOf : List Value → Option (List Int)
  | [] => some []
  | .int .i64 i :: r => obind (intsOf r) fun l => some (i :: l)
  | _ :: _ => none

theorem intsOf_map : ∀ l : List Int, intsOf (l.map (Value.int .i64)) = some l
  | [] => rfl
  | i :: r => by simp only [List.map_cons, intsOf, intsOf_map r, obind]

theorem intsOf_eq : ∀ {cs : List Value} {l : List Int}, intsOf cs = some l → cs = l.map (Value.int .i64)
  | [], l, h => by simp [intsOf] at h; subst h; rfl
  | c :: r, l, h => by
    unfold intsOf at h
    split at h
    · simp at *
    · rename_i i r' e
      injection e with e1 e2; subst e1; subst e2
      obtain ⟨l', h1, h2⟩ := obind_some h
      simp at h2; subst h2
      rw [intsOf_eq h1]; rfl
    · simp at h

/-- The numbers of a slice are sorted. -/
def sortX : List Value → Nat → Heap → Option (Value × Heap)
  | [.slice (some a) n c], lim, H =>
    match Nat.ble 1 n && (Nat.beq c 1 && Nat.ble n 1000000) with
    | true => obind (hloadN H ⟨a.block, a.off, none⟩ n) fun cs => obind (intsOf cs) fun l => obind (hstoreN H lim ⟨a.block, a.off, none⟩ ((sortI l).map (Value.int .i64))) fun H1 => some (.tuple ⟨[]⟩, H1)
    | false => none
  | _, _, _ => none

def sortV (a : List Int) : Option (List Int) := oif (Nat.ble 1 a.length && Nat.ble a.length 1000000) (some (a.mergeSort fun x y => decide (x ≤ y))) none

def sortSig : Sig := ⟨[(.io, .sl (.int .i64))], []⟩

theorem RL.ints {N : Nat → Prop} {H : Heap} {l : List Int} {cs : List Value} (h : RL N H (.int .i64) l cs) : cs = l.map (Value.int .i64) := by
  obtain ⟨h1, h2⟩ := h
  have h1 : cs.length = l.length := by rw [h1]; exact Nat.mul_one _
  apply List.ext_getElem?
  intro i
  by_cases hi : i < l.length
  · have := h2 i hi
    have hr : seg cs (i * 1) 1 = [Value.int .i64 l[i]] := this
    rw [Nat.mul_one] at hr
    have : cs[i]? = (seg cs i 1)[0]? := by unfold seg; rw [List.getElem?_take]; simp
    rw [this, hr]; simp [hi]
  · rw [List.getElem?_eq_none (by omega), List.getElem?_eq_none (by simp; omega)]

theorem RL.ofInts {N : Nat → Prop} {H : Heap} (l : List Int) : RL N H (.int .i64) l (l.map (Value.int .i64)) := by
  refine ⟨?_, fun i h => ?_⟩
  · show (l.map _).length = l.length * 1
    rw [List.length_map, Nat.mul_one]
  · show seg (l.map (Value.int .i64)) (i * 1) 1 = [Value.int .i64 l[i]]
    rw [Nat.mul_one]
    apply List.ext_getElem?
    intro j
    unfold seg
    rw [List.getElem?_take]
    by_cases hj : j < 1
    · rw [if_pos hj, show j = 0 by omega, List.getElem?_drop]; simp [h]
    · rw [if_neg hj, List.getElem?_eq_none (by simp; omega)]

theorem sort_fn (lim : Nat) : FnOk sortSig sortV sortX lim := by
  intro (l : List Int) r h H Ban ws idss hBan hlimH hnd hdis hh
  unfold sortV at h
  rcases oif_some h with ⟨hc, h⟩ | ⟨_, h⟩
  case inr => simp at h
  simp only [Bool.and_eq_true] at hc
  obtain ⟨c1, c2⟩ := hc
  have d1 := Nat.le_of_ble_eq_true c1
  have d2 := Nat.le_of_ble_eq_true c2
  injection h with h; subst h
  obtain ⟨w0, i0, rfl, rfl, h0⟩ : ∃ w0 i0, ws = [w0] ∧ idss = [i0] ∧ HR (fun z => z ∉ idss.flatten ∧ ¬ Ban z) H lim .os ⟨.sl (.int .i64), l⟩ w0 i0 := by
    cases ws with
    | nil => exact absurd hh id
    | cons w0 ws =>
      cases idss with
      | nil => exact absurd hh id
      | cons i0 is =>
        cases ws with
        | nil =>
          cases is with
          | nil => exact ⟨w0, i0, rfl, rfl, hh.1⟩
          | cons _ _ => exact absurd hh.2 id
        | cons _ _ => cases is <;> exact absurd hh.2 id
  obtain ⟨u, x, e, ho⟩ := h0
  injection e with e1 e2
  injection e1 with e1; subst e1
  replace e2 := eq_of_heq e2; subst e2
  rcases ho with ⟨_, rfl, _⟩ | ⟨z, o, k, ks, rfl, _, rfl, q1, q2, q3, q4, q5, q6⟩
  · simp at d1
  obtain rfl := q6.flat rfl
  have s1 : (Ty.int .i64).size = 1 := rfl
  rw [s1, Nat.mul_one] at q4 q5
  obtain ⟨f1, f2⟩ := q4
  have e5 := q5.ints
  have hsl := sortI_len l
  have hl1 : hloadN H ⟨z, o, none⟩ (l.length) = some (l.map (Value.int .i64)) := by
    unfold hloadN; simp only [q1, obind]
    rw [Nat.ble_eq_true_of_le (by omega), e5]
  have hmem : ∀ v ∈ (sortI l).map (Value.int .i64), leafOk v = true := by
    intro v hv; obtain ⟨i, _, rfl⟩ := List.mem_map.1 hv; rfl
  have hs1 : hstoreN H lim ⟨z, o, none⟩ ((sortI l).map (Value.int .i64)) = some (H.set z (some ⟨lay k.cells o ((sortI l).map (Value.int .i64)), false⟩)) := by
    unfold hstoreN
    simp only [q1, obind]
    rw [q2, List.all_eq_true.2 (fun v hv => leafOk_isCell (hmem v hv)), show (((sortI l).map (Value.int .i64)).all leafOk || Nat.ble lim z) = true by rw [Nat.ble_eq_true_of_le q3, Bool.or_true], Nat.ble_eq_true_of_le (by rw [List.length_map, hsl]; omega)]
    obtain ⟨kc, kr⟩ := k
    simp only at q2; subst q2; rfl
  have ll1 : (lay k.cells o ((sortI l).map (Value.int .i64))).length = k.cells.length := lay_len _ _ _ (by rw [List.length_map, hsl]; omega)
  refine ⟨.tuple ⟨[]⟩, H.set z (some ⟨lay k.cells o ((sortI l).map (Value.int .i64)), false⟩), [], [], [[z]], ?_, rfl, by simp, ?_, ?_, ?_, ?_, trivial, ⟨⟨.int .i64, (show List (Ty.int .i64).T from sortI l), rfl, .inr ⟨z, o, _, [], rfl, by simp, ?_, hget_set_self' (hget_lt q1), rfl, q3, ?_, ?_, InR.ofNo (by intro u e; simp at e)⟩⟩, trivial⟩⟩
  · simp only [sortX]
    rw [Nat.ble_eq_true_of_le d1, s1, Nat.beq_refl, Nat.ble_eq_true_of_le d2]
    simp only [Bool.and_self]
    rw [hl1]; simp only [obind]
    rw [intsOf_map]; simp only
    rw [hs1]
  · intro y hy hn
    simp at hn
    exact hget_set_ne' (fun e => hn e.symm)
  · simp [sortSig, outIds]
  · intro y hy; left; simpa using hy
  · intro y hy; exact hdis y (by simpa using hy)
  · rw [hsl]
  · rw [hsl, s1, Nat.mul_one]
    have g0 : Fit o (l.length) k.cells := ⟨f1, f2⟩
    have := g0.lay (p := 0) (d := (sortI l).map (Value.int .i64)) (by rw [List.length_map, hsl]; omega) (fun v hv => by obtain ⟨i, _, rfl⟩ := List.mem_map.1 hv; simp [sameLeaf])
    simpa using this
  · rw [hsl, s1, Nat.mul_one]
    have : seg (lay k.cells o ((sortI l).map (Value.int .i64))) o (l.length) = (sortI l).map (Value.int .i64) := by
      rw [lay_seg_in _ _ _ _ _ (Nat.le_refl _) (by rw [List.length_map, hsl]; omega) (by omega)]
      unfold lay
      have hsl2 : (seg k.cells o (l.length)).length = l.length := seg_len _ _ _ (by omega)
      rw [Nat.sub_self, List.take_zero, List.nil_append, List.drop_of_length_le (by rw [hsl2, List.length_map, hsl]; omega), List.append_nil]
    show RL _ _ (.int .i64) (show List (Ty.int .i64).T from sortI l) (seg _ o _)
    rw [this]
    exact RL.ofInts _


/-- What the walk of the function has to show. -/
def SortWalk (P : Program) (F : FuncId) : Prop :=
  ∀ (b off cap : Nat) (l : List Int) (w : World), 1 ≤ l.length → l.length ≤ 1000000 → (∀ t u, l[t]? = some u → w.cell? ⟨b, off + t, none⟩ = some (.int .i64 u)) → (∀ t, t < l.length → w.frozen? ⟨b, off + t, none⟩ = false) → b < w.heap.size →
    Calls P F #[.slice (some ⟨b, off, none⟩) l.length cap] w fun e w' => e = .returned (.tuple #[]) ∧ ∃ q os, w' = Go.Sort.grow ((w.drewN q).setCells b off ((sortI l).map (Value.int .i64))) os

theorem grow_get (w : World) (os : Array Obj) {k : Nat} (h : k < w.heap.size) : (Go.Sort.grow w os).heap[k]? = w.heap[k]? := by
  show (w.heap ++ os)[k]? = _
  rw [Array.getElem?_append_left h]

theorem Rel.grow {ι : Io} {D : Nat → Prop} {H : Heap} {w : World} (h : Rel ι D H w) (os : Array Obj) : Rel ι D H (Go.Sort.grow w os) :=
  ⟨fun b k hk => (h.blk b k hk).of_block (grow_get w os (h.lt hk)) rfl (fun _ _ _ x => x), h.inj, h.nog, h.gw.stable (by show _ ≤ (w.heap ++ os).size; simp) (fun k hk => grow_get w os (by have := h.gw.1; omega))⟩

theorem Fr.grow (ι : Io) (H : Heap) (w : World) (os : Array Obj) : Fr ι H w ι H (Go.Sort.grow w os) :=
  ⟨Nat.le_refl _, fun _ _ => rfl, rfl, rfl, rfl, by show _ ≤ (w.heap ++ os).size; simp, fun k hk _ => grow_get w os hk, fun b blk h hr => .inr ⟨b, blk, h, hr, rfl⟩, fun _ _ h _ => h⟩

theorem sort_call {P : Program} {F : FuncId} (henter : ∀ (cargs : Array Value) (w : World), (callFunc F cargs).run P w = .ok (.enter F cargs) w) (walk : SortWalk P F) :
    ∀ args lim H v H', sortX args lim H = some (v, H') → CallF P F args lim H v H' := by
  intro args lim H v H' h
  unfold sortX at h
  split at h
  · rename_i a n c
    split at h
    · rename_i hc
      simp only [Bool.and_eq_true] at hc
      obtain ⟨c1, c2, c3⟩ := hc
      have c1 := Nat.le_of_ble_eq_true c1
      have c2 := Nat.eq_of_beq_eq_true c2
      have c3 := Nat.le_of_ble_eq_true c3
      subst c2
      replace h := obind_some h; obtain ⟨cs, h1, h⟩ := h
      replace h := obind_some h; obtain ⟨l, h2, h⟩ := h
      replace h := obind_some h; obtain ⟨H1, h3, h⟩ := h
      simp at h; obtain ⟨rfl, rfl⟩ := h
      have e2 := intsOf_eq h2; subst e2
      have hl1 := hstoreN_len h3
      have hleaf : ∀ v ∈ (sortI l).map (Value.int .i64), leafOk v = true := by
        intro v hv; obtain ⟨i, _, rfl⟩ := List.mem_map.1 hv; rfl
      refine ⟨fun _ _ => .tuple [] fun i h1 => absurd h1 (by simp), fun hl hcl => hstoreN_ab h3 (fun v hv => leafOk_lt (hleaf v hv) _), henter, fun ι w cargs hR hargs => ?_⟩
      obtain ⟨xs, rfl⟩ : ∃ xs : List Value, cargs = xs.toArray := ⟨cargs.toList, by simp⟩
      obtain ⟨al, ar⟩ := hargs
      simp only [List.toList_toArray] at al ar
      match xs, al, ar with
      | [y0], _, ar =>
      have r0 := ar 0 (by simp) (by simp)
      simp only [List.getElem_cons_zero] at r0
      cases r0 with
      | slEmpty => omega
      | slGo _ _ _ cap hD hlcap hcap =>
        obtain ⟨ds, d1, d2, d3, d4⟩ := hR.loadN h1
        obtain ⟨kb, hkb, hx⟩ := obind_some h1
        have hbk := hR.blk _ _ hkb
        simp only at hkb hbk
        have hll : l.length = n := by have := d2.1; rw [List.length_map] at this; omega
        have hro : kb.ro = false := by
          obtain ⟨k2, hk2, hx2⟩ := obind_some h3
          simp only at hk2
          rw [hkb] at hk2; injection hk2 with hk2; subst hk2
          split at hx2
          · rename_i hr _ _ _; exact hr
          · simp at hx2
        have hle : a.off + n ≤ kb.cells.length := by
          split at hx
          · rename_i hb
            have := Nat.le_of_ble_eq_true hb
            simp only at this; omega
          · simp at hx
        have hfit := hbk.fit
        have e0 : ι.addr a = ⟨(ι a.block).blk, (ι a.block).off + a.off, none⟩ := rfl
        have hw := walk (ι a.block).blk ((ι a.block).off + a.off) cap l w (by omega) (by omega) (fun t u hu => by
            have ht : t < l.length := by
              by_cases ht : t < l.length
              · exact ht
              · rw [List.getElem?_eq_none (by omega)] at hu; simp at hu
            have hdt : t < ds.length := by rw [d1]; omega
            have hr := d2.2 t (by simpa using ht) hdt
            have hu' : l[t] = u := by rw [List.getElem?_eq_getElem ht] at hu; injection hu
            rw [List.getElem_map, hu'] at hr
            have hd : ds[t] = .int .i64 u := by
              generalize ds[t] = y at hr ⊢
              cases hr; rfl
            have := d3 t (ds[t]) (List.getElem?_eq_getElem hdt)
            rw [addr_add, hd] at this
            exact this) (fun t ht => hbk.thaw hro _ (by omega) (by omega)) (hR.lt hkb)
        rw [e0, ← hll]
        refine hw.mono ?_
        rintro e w' ⟨rfl, q, os, rfl⟩
        have hRd : Rel ι (Bel H.length) H (w.drewN q) := hR.same_heap (w' := w.drewN q) rfl
        obtain ⟨_, s2, s3⟩ := hRd.store (P := P) h3 (LRel.refl_leaf (List.all_eq_true.2 hleaf) ι _)
        simp only at s2 s3
        refine ⟨ι, _, rfl, by rw [hl1]; exact Rel.grow s2 os, .tuple [] [] rfl fun i h1 => absurd h1 (by simp), ?_⟩
        exact (((Fr.refl ι H w).same_heap (w'' := w.drewN q) rfl rfl rfl rfl).trans s3).trans (Fr.grow ι _ _ os)
    · simp at h
  · simp at h

end Go.Pv
