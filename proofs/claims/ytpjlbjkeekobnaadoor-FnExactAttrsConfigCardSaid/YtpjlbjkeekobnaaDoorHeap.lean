/-
  Loads, stores, new blocks and appends: the abstract heap keeps its relation to the world.
  Conditions: none.
-/
import Derived.Test.YtpjlbjkeekobnaaDoorRel
set_option linter.unusedVariables false
namespace Go.Ev

theorem isCell_oneCell (v : Value) : v.oneCell' = isCell v := by cases v <;> rfl

theorem cell_of_shape {w : World} {b ety n i : Nat} (h : w.shape? b = some (ety, n)) (hi : i < n) : (w.cell? ⟨b, i, none⟩).isSome = true := by
  unfold World.shape? at h
  unfold World.cell?
  split at h
  · rename_i c e fz hb
    simp at h
    simp [hb]; omega
  · simp at h

theorem lt_of_cell {w : World} {a : Addr} {c : Value} (h : w.cell? a = some c) : a.block < w.heap.size := by
  unfold World.cell? at h
  by_cases hb : a.block < w.heap.size
  · exact hb
  · rw [Array.getElem?_eq_none (by omega)] at h; simp at h

theorem lt_of_shape {w : World} {b : Nat} {x : TypeId × Nat} (h : w.shape? b = some x) : b < w.heap.size := by
  unfold World.shape? at h
  by_cases hb : b < w.heap.size
  · exact hb
  · rw [Array.getElem?_eq_none (by omega)] at h; simp at h

/-- Two worlds that agree at a block. -/
theorem shape_of_block {w w' : World} {b : Nat} (h : w'.heap[b]? = w.heap[b]?) : w'.shape? b = w.shape? b := by unfold World.shape?; rw [h]
theorem cell_of_block {w w' : World} {a : Addr} (h : w'.heap[a.block]? = w.heap[a.block]?) : w'.cell? a = w.cell? a := by unfold World.cell?; rw [h]
theorem frozen_of_block {w w' : World} {a : Addr} (h : w'.heap[a.block]? = w.heap[a.block]?) : w'.frozen? a = w.frozen? a := by unfold World.frozen?; rw [h]

theorem BRel.of_block {ι ι' : Io} {D E : Nat → Prop} {w w' : World} {b b' : Nat} {k : Blk} (h : BRel ι D w b k) (hb : w'.heap[(ι b).blk]? = w.heap[(ι b).blk]?) (he : ι' b' = ι b)
    (hv : ∀ i (h : i < k.cells.length) c, VRel ι D k.cells[i] c → VRel ι' E k.cells[i] c) : BRel ι' E w' b' k := by
  refine ⟨?_, by rw [he]; exact h.fit, fun i hi => ?_, fun hr i h1 h2 => ?_⟩
  · obtain ⟨e, hs⟩ := h.shape
    exact ⟨e, by rw [he, shape_of_block hb]; exact hs⟩
  · obtain ⟨c, h1, h2, h3⟩ := h.cell i hi
    exact ⟨c, by rw [he, cell_of_block hb]; exact h1, hv i hi c h2, h3⟩
  · rw [he] at h1 h2 ⊢
    rw [frozen_of_block hb]; exact h.thaw hr i h1 h2

theorem Rel.lt {ι : Io} {D : Nat → Prop} {H : Heap} {w : World} (h : Rel ι D H w) {b : Nat} {k : Blk} (hb : hget H b = some k) : (ι b).blk < w.heap.size := by
  obtain ⟨e, hs⟩ := (h.blk b k hb).shape
  exact lt_of_shape hs

theorem Rel.load {ι : Io} {D : Nat → Prop} {H : Heap} {w : World} (h : Rel ι D H w) {a : Addr} {v : Value} (hl : hload H a = some v) :
    ∃ c, w.cell? (ι.addr a) = some c ∧ VRel ι D v c ∧ isCell v = true := by
  obtain ⟨k, hk, hv⟩ := obind_some hl
  obtain ⟨hi, e⟩ := List.getElem?_eq_some_iff.1 hv
  obtain ⟨c, h1, h2, h3⟩ := (h.blk _ _ hk).cell a.off hi
  subst e
  exact ⟨c, h1, h2, h3⟩

theorem addr_add (ι : Io) (a : Addr) (j : Nat) : (ι.addr a).add j = ⟨(ι a.block).blk, (ι a.block).off + a.off + j, none⟩ := by
  unfold Addr.add Io.addr
  by_cases h : j = 0
  · subst h; simp
  · simp [h]

theorem Rel.loadN {ι : Io} {D : Nat → Prop} {H : Heap} {w : World} (h : Rel ι D H w) {a : Addr} {n : Nat} {l : List Value} (hl : hloadN H a n = some l) :
    ∃ cs : List Value, cs.length = n ∧ LRel ι D l cs ∧ (∀ j v, cs[j]? = some v → w.cell? ((ι.addr a).add j) = some v) ∧ (∀ v ∈ l, isCell v = true) := by
  obtain ⟨k, hk, hv⟩ := obind_some hl
  have hb := h.blk _ _ hk
  split at hv
  · rename_i hle
    have hle := Nat.le_of_ble_eq_true hle
    simp at hv
    subst hv
    have hlen : ((k.cells.drop a.off).take n).length = n := by simp; omega
    have hget : ∀ j (hj : j < n), ((k.cells.drop a.off).take n)[j]'(by omega) = k.cells[a.off + j]'(by omega) := by
      intro j hj; simp
    have hex : ∀ j, j < n → ∃ c, w.cell? ⟨(ι a.block).blk, (ι a.block).off + (a.off + j), none⟩ = some c ∧ VRel ι D (((k.cells.drop a.off).take n).getD j undef) c ∧ isCell (((k.cells.drop a.off).take n).getD j undef) = true := by
      intro j hj
      obtain ⟨c, h1, h2, h3⟩ := hb.cell (a.off + j) (by omega)
      have e : ((k.cells.drop a.off).take n).getD j undef = k.cells[a.off + j]'(by omega) := by
        rw [List.getD_eq_getElem?_getD, List.getElem?_eq_getElem (by omega), hget j hj]; rfl
      exact ⟨c, h1, by rw [e]; exact h2, by rw [e]; exact h3⟩
    let f : Nat → Value := fun j => ((w.cell? ⟨(ι a.block).blk, (ι a.block).off + (a.off + j), none⟩).getD undef)
    refine ⟨(List.range n).map f, by simp, ⟨by simp [hlen], fun i h1 h2 => ?_⟩, fun j v hj => ?_, fun v hv => ?_⟩
    · obtain ⟨c, g1, g2, g3⟩ := hex i (by omega)
      simp only [List.getElem_map, List.getElem_range, f, g1, Option.getD_some]
      rw [List.getD_eq_getElem?_getD, List.getElem?_eq_getElem h1] at g2
      exact g2
    · have hjn : j < n := by
        have := (List.getElem?_eq_some_iff.1 hj).1
        simpa using this
      obtain ⟨c, g1, g2, g3⟩ := hex j hjn
      simp only [List.getElem?_map, List.getElem?_range hjn, Option.map_some, f, g1, Option.getD_some, Option.some.injEq] at hj
      subst hj
      rw [addr_add, Nat.add_assoc]; exact g1
    · obtain ⟨i, hi, e⟩ := List.getElem_of_mem hv
      obtain ⟨c, g1, g2, g3⟩ := hex i (by omega)
      rw [List.getD_eq_getElem?_getD, List.getElem?_eq_getElem hi] at g3
      rw [← e]; exact g3
  · simp at hv

theorem Rel.load0 {ι : Io} {D : Nat → Prop} {H : Heap} {w : World} (h : Rel ι D H w) {a : Addr} {n : Nat} {l : List Value} (hl : hload0 H a n = some l) :
    ∃ cs : List Value, cs.length = n ∧ LRel ι D l cs ∧ (∀ j v, cs[j]? = some v → w.cell? ((ι.addr a).add j) = some v) ∧ (∀ v ∈ l, isCell v = true) := by
  cases n with
  | zero =>
    simp only [hload0, Option.some.injEq] at hl; subst hl
    exact ⟨[], rfl, LRel.nil ι D, by simp, by simp⟩
  | succ m => exact h.loadN hl

theorem hget_set_same {H : Heap} {b : Nat} {x : Option Blk} (hb : b < H.length) : hget (H.set b x) b = x := by
  unfold hget; rw [List.getElem?_set_self hb]; cases x <;> rfl

theorem hget_set_ne {H : Heap} {b c : Nat} {x : Option Blk} (hb : b ≠ c) : hget (H.set b x) c = hget H c := by
  unfold hget; rw [List.getElem?_set_ne hb]

theorem hget_append_left {H G : Heap} {b : Nat} (hb : b < H.length) : hget (H ++ G) b = hget H b := by
  unfold hget; rw [List.getElem?_append_left hb]

theorem hget_append_new (H : Heap) (k : Option Blk) : hget (H ++ [k]) H.length = k := by
  unfold hget; rw [List.getElem?_append_right (Nat.le_refl _)]; simp; cases k <;> rfl

theorem hget_take {H : Heap} {n b : Nat} (hb : b < n) : hget (H.take n) b = hget H b := by
  unfold hget; rw [List.getElem?_take_of_lt hb]

theorem heap_setCells (b : Nat) : ∀ (vs : List Value) (o : Nat) (w : World) (k : Nat), k ≠ b → (w.setCells b o vs).heap[k]? = w.heap[k]?
  | [], _, _, _, _ => rfl
  | v :: r, o, w, k, h => by
    rw [World.setCells, heap_setCells b r (o + 1) _ k h]
    simp only [World.setCell, Array.getElem?_modify]
    rw [if_neg (Ne.symm h)]

theorem size_setCells (b : Nat) : ∀ (vs : List Value) (o : Nat) (w : World), (w.setCells b o vs).heap.size = w.heap.size
  | [], _, _ => rfl
  | v :: r, o, w => by rw [World.setCells, size_setCells b r (o + 1)]; simp

theorem shape_setCell (w : World) (a : Addr) (v : Value) (b : Nat) : (w.setCell a v).shape? b = w.shape? b := by
  simp only [World.setCell, World.shape?, Array.getElem?_modify]
  by_cases hb : a.block = b
  · subst hb
    simp only [if_true]
    cases hh : w.heap[a.block]? with
    | none => simp
    | some x => cases x <;> simp; split <;> simp
  · simp [hb]

theorem shape_setCells (b : Nat) : ∀ (vs : List Value) (o : Nat) (w : World) (k : Nat), (w.setCells b o vs).shape? k = w.shape? k
  | [], _, _, _ => rfl
  | v :: r, o, w, k => by rw [World.setCells, shape_setCells b r (o + 1), shape_setCell]

theorem os_setCells (b : Nat) : ∀ (vs : List Value) (o : Nat) (w : World), (w.setCells b o vs).os = w.os ∧ (w.setCells b o vs).tape = w.tape ∧ (w.setCells b o vs).output = w.output
  | [], _, _ => ⟨rfl, rfl, rfl⟩
  | v :: r, o, w => by rw [World.setCells]; exact os_setCells b r (o + 1) _

theorem splice_length {l vs : List Value} {off : Nat} (h : off + vs.length ≤ l.length) : (spliceAt l off vs).length = l.length := by
  unfold spliceAt; simp; omega

theorem splice_get {l vs : List Value} {off : Nat} (h : off + vs.length ≤ l.length) (i : Nat) :
    (spliceAt l off vs)[i]? = if off ≤ i ∧ i < off + vs.length then vs[i - off]? else l[i]? := by
  unfold spliceAt
  rw [List.append_assoc, List.getElem?_append]
  simp only [List.length_take, Nat.min_eq_left (show off ≤ l.length by omega)]
  by_cases h1 : i < off
  · rw [if_pos h1, if_neg (by omega), List.getElem?_take_of_lt h1]
  · rw [if_neg h1, List.getElem?_append]
    by_cases h2 : i < off + vs.length
    · rw [if_pos (by omega), if_pos ⟨by omega, h2⟩]
    · rw [if_neg (by omega), if_neg (by omega), List.getElem?_drop]
      congr 1; omega

theorem Rel.store {P : Program} {ι : Io} {D : Nat → Prop} {H H' : Heap} {w : World} {lim : Nat} (h : Rel ι D H w) {a : Addr} {vs cs : List Value} (hs : hstoreN H lim a vs = some H') (hv : LRel ι D vs cs) :
    (storeCells (ι.addr a) cs).run P w = .ok () (w.setCells (ι a.block).blk ((ι a.block).off + a.off) cs) ∧
    Rel ι D H' (w.setCells (ι a.block).blk ((ι a.block).off + a.off) cs) ∧ Fr ι H w ι H' (w.setCells (ι a.block).blk ((ι a.block).off + a.off) cs) := by
  obtain ⟨k, hk, hx⟩ := obind_some hs
  have hb := h.blk _ _ hk
  have hlt := hget_lt hk
  split at hx
  case h_2 => simp at hx
  case h_1 hro hcell hlim hfit =>
  simp at hx; subst hx
  have hfit := Nat.le_of_ble_eq_true hfit
  have hlen : cs.length = vs.length := hv.1.symm
  obtain ⟨ety, hshape⟩ := hb.shape
  have hfit2 := hb.fit
  have hcs : ∀ v ∈ cs, v.oneCell' = true := by
    intro v hm
    obtain ⟨i, hi, e⟩ := List.getElem_of_mem hm
    have := (hv.2 i (by omega) hi).isCell
    rw [← e, isCell_oneCell, this]
    exact List.all_eq_true.1 hcell _ (List.getElem_mem _)
  have hthere : ∀ j, j < cs.length → (w.cell? ⟨(ι a.block).blk, (ι a.block).off + a.off + j, none⟩).isSome = true := fun j hj => cell_of_shape hshape (by omega)
  have hthaw : ∀ j, j < cs.length → w.frozen? ⟨(ι a.block).blk, (ι a.block).off + a.off + j, none⟩ = false := fun j hj => hb.thaw hro _ (by omega) (by omega)
  have hrun := run_storeCells_cells (P := P) (ι a.block).blk ((ι a.block).off + a.off) cs 0 w (by simpa using hthere) (by simpa using hthaw) hcs
  refine ⟨by rw [Nat.add_zero] at hrun; exact hrun, ?_, ?_⟩
  · refine ⟨fun b k' hk' => ?_, fun b b' k1 k2 h1 h2 hne hr => ?_, fun b k' hk' hr => (by
      by_cases e : a.block = b
      · subst e; exact h.nog _ k hk hro
      · rw [hget_set_ne e] at hk'; exact h.nog b k' hk' hr), h.gw.stable (Nat.le_of_eq (size_setCells _ _ _ _).symm) (fun q hq => heap_setCells _ _ _ _ _ (by have := h.nog _ k hk hro; omega))⟩
    · by_cases e : a.block = b
      · subst e
        rw [hget_set_same hlt] at hk'
        simp at hk'; subst hk'
        refine ⟨⟨ety, by rw [shape_setCells]; exact hshape⟩, by simp [splice_length hfit]; exact hfit2, fun i hi => ?_, fun hr i h1 h2 => by rw [World.frozen?_setCells]; exact hb.thaw hro i h1 h2⟩
        simp only [splice_length hfit] at hi
        have hg := splice_get hfit i
        by_cases hin : a.off ≤ i ∧ i < a.off + vs.length
        · rw [if_pos hin] at hg
          have hi' : i - a.off < vs.length := by omega
          have e1 : (spliceAt k.cells a.off vs)[i]'(by rw [splice_length hfit]; exact hi) = vs[i - a.off] := by
            have := List.getElem?_eq_getElem (l := spliceAt k.cells a.off vs) (i := i) (by rw [splice_length hfit]; exact hi)
            rw [this, List.getElem?_eq_getElem hi'] at hg
            simpa using hg
          refine ⟨cs[i - a.off]'(by omega), ?_, ?_, ?_⟩
          · have := World.cell?_setCells_in (ι a.block).blk cs ((ι a.block).off + a.off) w hthere (i - a.off) (by omega)
            rw [show (ι a.block).off + i = (ι a.block).off + a.off + (i - a.off) by omega]; exact this
          · simp only [e1]; exact hv.2 _ hi' (by omega)
          · simp only [e1]; exact List.all_eq_true.1 hcell _ (List.getElem_mem _)
        · rw [if_neg hin] at hg
          have e1 : (spliceAt k.cells a.off vs)[i]'(by rw [splice_length hfit]; exact hi) = k.cells[i] := by
            have := List.getElem?_eq_getElem (l := spliceAt k.cells a.off vs) (i := i) (by rw [splice_length hfit]; exact hi)
            rw [this, List.getElem?_eq_getElem hi] at hg
            simpa using hg
          obtain ⟨c, g1, g2, g3⟩ := hb.cell i hi
          refine ⟨c, ?_, by simp only [e1]; exact g2, by simp only [e1]; exact g3⟩
          rw [World.cell?_setCells_out]
          · exact g1
          · intro _ _; simp only; omega
      · rw [hget_set_ne e] at hk'
        refine (h.blk b k' hk').of_block ?_ rfl (fun _ _ _ x => x)
        refine heap_setCells _ _ _ _ _ ?_
        exact h.inj b a.block k' k hk' hk (Ne.symm e) (.inr hro)
    · by_cases e1 : a.block = b
      · subst e1
        rw [hget_set_ne hne] at h2
        rw [hget_set_same hlt] at h1
        exact h.inj a.block b' k k2 hk h2 hne (.inl hro)
      · rw [hget_set_ne e1] at h1
        by_cases e2 : a.block = b'
        · subst e2
          exact h.inj b a.block k1 k h1 hk hne (.inr hro)
        · rw [hget_set_ne e2] at h2
          exact h.inj b b' k1 k2 h1 h2 hne hr
  · obtain ⟨o1, o2, o3⟩ := os_setCells (ι a.block).blk cs ((ι a.block).off + a.off) w
    refine ⟨by simp, fun _ _ => rfl, o1, o2, o3, Nat.le_of_eq (size_setCells _ _ _ _).symm, fun q hq hn => ?_, fun b blk hb' hr => ?_, fun b blk hb' hr => ?_⟩
    · exact heap_setCells _ _ _ _ _ (Ne.symm (hn a.block k hk hro))
    · by_cases e : a.block = b
      · subst e; exact .inr ⟨a.block, k, hk, hro, rfl⟩
      · rw [hget_set_ne e] at hb'; exact .inr ⟨b, blk, hb', hr, rfl⟩
    · by_cases e : a.block = b
      · subst e
        rw [hget_set_same hlt] at hb'
        simp at hb'; subst hb'
        simp [hro] at hr
      · rw [hget_set_ne e] at hb'; exact hb'

theorem hstoreN_ab {H H' : Heap} {lim : Nat} {a : Addr} {vs : List Value} (hs : hstoreN H lim a vs = some H') (hv : LLt (Bel H.length) vs) : Ab lim H H' := by
  obtain ⟨k, hk, hx⟩ := obind_some hs
  have hlt := hget_lt hk
  split at hx
  case h_2 => simp at hx
  case h_1 hro hcell hlim hfit =>
  simp at hx; subst hx
  have key : ∀ m, (∀ v ∈ vs, VLt (Bel m) v ∨ m ≤ a.block) → closedAt m H → closedAt m (H.set a.block (some { k with cells := spliceAt k.cells a.off vs })) := by
    intro m hm hc b hbm k' hk' v hv'
    by_cases e : a.block = b
    · subst e
      rw [hget_set_same hlt] at hk'
      simp at hk'; subst hk'
      simp only [spliceAt, List.mem_append] at hv'
      rcases hv' with (h1 | h1) | h1
      · exact hc _ hbm k hk v (List.mem_of_mem_take h1)
      · rcases hm v h1 with h2 | h2
        · exact h2
        · omega
      · exact hc _ hbm k hk v (List.mem_of_mem_drop h1)
    · rw [hget_set_ne e] at hk'; exact hc b hbm k' hk' v hv'
  refine ⟨by simp, fun h => ?_, fun m hm hml hc => key m (fun v h1 => ?_) hc⟩
  · rw [List.length_set]; exact key _ (fun v h1 => .inl (hv v h1)) h
  · rcases Bool.or_eq_true_iff.1 hlim with h2 | h2
    · exact .inl (leafOk_lt (List.all_eq_true.1 h2 v h1) _)
    · have := Nat.le_of_ble_eq_true h2; exact .inr (by omega)

/-- The map with one place more. -/
def Io.set (ι : Io) (b : Nat) (l : Loc) : Io := fun c => if c = b then l else ι c

theorem Io.set_same (ι : Io) (b : Nat) (l : Loc) : ι.set b l b = l := by simp [Io.set]
theorem Io.set_ne (ι : Io) {b c : Nat} (l : Loc) (h : c ≠ b) : ι.set b l c = ι c := by simp [Io.set, h]

theorem heap_alloc_lt (w : World) (o : Obj) {k : Nat} (h : k < w.heap.size) : (w.alloc o).heap[k]? = w.heap[k]? := by
  show (w.heap.push o)[k]? = _
  rw [Array.getElem?_push, if_neg (by omega)]

/-- Only the blocks matter. -/
theorem Rel.same_heap {ι : Io} {D : Nat → Prop} {H : Heap} {w w' : World} (h : Rel ι D H w) (e : w'.heap = w.heap) : Rel ι D H w' :=
  ⟨fun b k hk => (h.blk b k hk).of_block (by rw [e]) rfl (fun _ _ _ x => x), h.inj, h.nog, h.gw.heap e⟩

theorem Fr.same_heap {ι ι' : Io} {H H' : Heap} {w w' w'' : World} (h : Fr ι H w ι' H' w') (e : w''.heap = w'.heap) (e1 : w''.os = w'.os) (e2 : w''.tape = w'.tape) (e3 : w''.output = w'.output) :
    Fr ι H w ι' H' w'' :=
  ⟨h.len, h.io, e1.trans h.os, e2.trans h.tape, e3.trans h.output, e ▸ h.size, fun k hk hn => by rw [e]; exact h.frame k hk hn, h.new, h.ro⟩

theorem heap_alloc_new (w : World) (o : Obj) : (w.alloc o).heap[w.heap.size]? = some o := by
  show (w.heap.push _)[w.heap.size]? = _
  rw [Array.getElem?_push, if_pos rfl]

theorem shape_alloc_new (w : World) (arr : Array Value) (ety : TypeId) (fz : Nat × Nat) : (w.alloc (.cells arr ety fz)).shape? w.heap.size = some (ety, arr.size) := by
  unfold World.shape?; rw [heap_alloc_new]

theorem cell_alloc_new (w : World) (arr : Array Value) (ety : TypeId) (fz : Nat × Nat) (i : Nat) : (w.alloc (.cells arr ety fz)).cell? ⟨w.heap.size, i, none⟩ = arr[i]? := by
  unfold World.cell?; simp only; rw [heap_alloc_new]; simp

theorem frozen_alloc_new (w : World) (arr : Array Value) (ety : TypeId) (fz : Nat × Nat) (i : Nat) : (w.alloc (.cells arr ety fz)).frozen? ⟨w.heap.size, i, none⟩ = (decide (fz.1 ≤ i) && decide (i < fz.2)) := by
  unfold World.frozen?; simp only; rw [heap_alloc_new]

/-- No cell of the row is frozen. -/
def Thaw (fz : Nat × Nat) (n : Nat) : Prop := ∀ i, i < n → ¬ (fz.1 ≤ i ∧ i < fz.2)

theorem Thaw.zero (n : Nat) : Thaw (0, 0) n := fun i _ h => by simp at h
theorem Thaw.behind (n m : Nat) : Thaw (n, m) n := fun i hi h => by have := h.1; simp at this; omega

/-- A dead place outside D comes to hold a new block. -/
theorem Rel.fill {ι : Io} {D : Nat → Prop} {H : Heap} {w : World} (h : Rel ι D H w) {id : Nat} (hid : H[id]? = some none) (hD : ¬ D id) {vs cs : List Value} (hv : LRel ι D vs cs) (hc : ∀ v ∈ vs, isCell v = true)
    (rest : List Value) (ety : TypeId) (fz : Nat × Nat) (hfz : Thaw fz (cs ++ rest).length) :
    Rel (ι.set id ⟨w.heap.size, 0, (cs ++ rest).length⟩) (fun b => D b ∨ b = id) (H.set id (some ⟨vs, false⟩)) (w.alloc (.cells (cs ++ rest).toArray ety fz)) := by
  have hlt : id < H.length := (List.getElem?_eq_some_iff.1 hid).1
  have hdead : hget H id = none := by unfold hget; rw [hid]
  have hup : ∀ {v c : Value}, VRel ι D v c → VRel (ι.set id ⟨w.heap.size, 0, (cs ++ rest).length⟩) (fun b => D b ∨ b = id) v c :=
    fun hr => hr.mono (fun _ hb => .inl hb) fun b hb => Io.set_ne _ _ (fun e => hD (e ▸ hb))
  refine ⟨fun b k hk => ?_, fun b b' k k' h1 h2 hne hr => ?_, fun b k hk hr => (by
    by_cases e : id = b
    · subst e; rw [Io.set_same]; exact h.gw.1
    · rw [hget_set_ne e] at hk; rw [Io.set_ne _ _ (Ne.symm e)]; exact h.nog b k hk hr), h.gw.stable (by simp) (fun q hq => heap_alloc_lt _ _ (by have := h.gw.1; omega))⟩
  · by_cases e : id = b
    · subst e
      rw [hget_set_same hlt] at hk
      simp at hk; subst hk
      refine ⟨⟨ety, ?_⟩, ?_, fun i hi => ?_, fun _ i _ hi => ?_⟩
      · rw [Io.set_same, shape_alloc_new]; simp
      · rw [Io.set_same]; simp [hv.1]
      · rw [Io.set_same]
        simp only at hi
        have hi' : i < cs.length := by have := hv.1; omega
        refine ⟨cs[i], ?_, hup (hv.2 i hi hi'), hc _ (List.getElem_mem _)⟩
        rw [Nat.zero_add, cell_alloc_new]
        simp [List.getElem?_append_left hi', List.getElem?_eq_getElem hi']
      · rw [Io.set_same] at hi ⊢
        rw [frozen_alloc_new]
        have := hfz i hi
        simp; omega
    · rw [hget_set_ne e] at hk
      exact (h.blk b k hk).of_block (heap_alloc_lt _ _ (h.lt hk)) (Io.set_ne _ _ (Ne.symm e)) (fun i hi c hr => hup hr)
  · by_cases e1 : id = b
    · subst e1
      have e2 : id ≠ b' := hne
      rw [hget_set_ne e2] at h2
      rw [Io.set_same, Io.set_ne _ _ (Ne.symm e2)]
      have := h.lt h2
      simp only; omega
    · rw [hget_set_ne e1] at h1
      by_cases e2 : id = b'
      · subst e2
        rw [Io.set_same, Io.set_ne _ _ (Ne.symm e1)]
        have := h.lt h1
        simp only; omega
      · rw [hget_set_ne e2] at h2
        rw [Io.set_ne _ _ (Ne.symm e1), Io.set_ne _ _ (Ne.symm e2)]
        exact h.inj b b' k k' h1 h2 hne hr

theorem hget_snoc_none (H : Heap) (b : Nat) : hget (H ++ [none]) b = hget H b := by
  by_cases hb : b < H.length
  · exact hget_append_left hb
  · have h1 : hget H b = none := by unfold hget; rw [List.getElem?_eq_none (by omega)]
    rw [h1]
    by_cases e : b = H.length
    · subst e; exact hget_append_new H none
    · unfold hget; rw [List.getElem?_eq_none (by simp; omega)]

theorem Rel.snoc_none {ι : Io} {D : Nat → Prop} {H : Heap} {w : World} (h : Rel ι D H w) : Rel ι D (H ++ [none]) w :=
  ⟨fun b k hk => h.blk b k (by rw [hget_snoc_none] at hk; exact hk), fun b b' k k' h1 h2 => h.inj b b' k k' (by rw [hget_snoc_none] at h1; exact h1) (by rw [hget_snoc_none] at h2; exact h2), fun b k hk hr => h.nog b k (by rw [hget_snoc_none] at hk; exact hk) hr, h.gw⟩

theorem Rel.domain {ι : Io} {D E : Nat → Prop} {H : Heap} {w : World} (h : Rel ι D H w) (hDE : ∀ b, D b → E b) : Rel ι E H w :=
  ⟨fun b k hk => (h.blk b k hk).of_block rfl rfl (fun _ _ _ hr => hr.mono hDE fun _ _ => rfl), h.inj, h.nog, h.gw⟩

theorem hget_push_lt {H : Heap} {cells : List Value} {b : Nat} (hb : b < H.length) : hget (hpush H cells) b = hget H b := hget_append_left hb
theorem hget_push_new (H : Heap) (cells : List Value) : hget (hpush H cells) H.length = some ⟨cells, false⟩ := hget_append_new H _
theorem length_push (H : Heap) (cells : List Value) : (hpush H cells).length = H.length + 1 := by simp [hpush]

theorem hget_push_cases {H : Heap} {cells : List Value} {b : Nat} {k : Blk} (h : hget (hpush H cells) b = some k) : (b < H.length ∧ hget H b = some k) ∨ (b = H.length ∧ k = ⟨cells, false⟩) := by
  have hlt := hget_lt h
  rw [length_push] at hlt
  by_cases e : b = H.length
  · subst e; rw [hget_push_new] at h; exact .inr ⟨rfl, (Option.some.inj h).symm⟩
  · rw [hget_push_lt (by omega)] at h; exact .inl ⟨by omega, h⟩

/-- A new block at the heap's end. -/
theorem Rel.push {ι : Io} {H : Heap} {w : World} (h : Rel ι (Bel H.length) H w) {vs cs : List Value} (hv : LRel ι (Bel H.length) vs cs) (hc : ∀ v ∈ vs, isCell v = true)
    (rest : List Value) (ety : TypeId) (fz : Nat × Nat) (hfz : Thaw fz (cs ++ rest).length) :
    Rel (ι.set H.length ⟨w.heap.size, 0, (cs ++ rest).length⟩) (Bel (hpush H vs).length) (hpush H vs) (w.alloc (.cells (cs ++ rest).toArray ety fz)) ∧
    Fr ι H w (ι.set H.length ⟨w.heap.size, 0, (cs ++ rest).length⟩) (hpush H vs) (w.alloc (.cells (cs ++ rest).toArray ety fz)) := by
  constructor
  · have h1 := (h.snoc_none).fill (id := H.length) (by simp) (by simp [Bel]) hv hc rest ety fz hfz
    have e : (H ++ [none]).set H.length (some ⟨vs, false⟩) = hpush H vs := by simp [hpush]
    rw [e] at h1
    exact h1.domain (by intro b hb; rw [length_push]; simp [Bel] at hb ⊢; omega)
  · refine ⟨by rw [length_push]; omega, fun b hb => Io.set_ne _ _ (by omega), rfl, rfl, rfl, by simp, fun k hk _ => heap_alloc_lt _ _ hk, fun b blk hb hr => ?_, fun b blk hb hr => ?_⟩
    · rcases hget_push_cases hb with ⟨hlt, h1⟩ | ⟨rfl, rfl⟩
      · exact .inr ⟨b, blk, h1, hr, by rw [Io.set_ne _ _ (by omega)]⟩
      · exact .inl (by rw [Io.set_same]; exact Nat.le_refl _)
    · rcases hget_push_cases hb with ⟨hlt, h1⟩ | ⟨rfl, rfl⟩
      · exact h1
      · simp at hr

theorem hpush_ab (lim : Nat) {H : Heap} {vs : List Value} (hv : LLt (Bel H.length) vs) : Ab lim H (hpush H vs) := by
  have key : ∀ m, m ≤ H.length → closedAt m H → closedAt m (hpush H vs) := by
    intro m hm hc b hb k hk v hv'
    rcases hget_push_cases hk with ⟨hlt, h1⟩ | ⟨rfl, rfl⟩
    · exact hc b hb k h1 v hv'
    · omega
  refine ⟨by rw [length_push]; omega, fun h => ?_, fun m _ hm hc => key m hm hc⟩
  rw [length_push]
  intro b hb k hk v hv'
  rcases hget_push_cases hk with ⟨hlt, h1⟩ | ⟨rfl, rfl⟩
  · exact (h b hlt k h1 v hv').mono (Bel.mono (by omega))
  · exact (hv v hv').mono (Bel.mono (by omega))

theorem hget_kill {H : Heap} {b c : Nat} {k : Blk} (h : hget (H.set b none) c = some k) : hget H c = some k := by
  by_cases e : b = c
  · subst e
    have hlt := hget_lt h
    rw [List.length_set] at hlt
    rw [hget_set_same hlt] at h; simp at h
  · rw [hget_set_ne e] at h; exact h

theorem kill_ab (lim : Nat) (H : Heap) (b : Nat) : Ab lim H (H.set b none) :=
  ⟨by simp, fun h => by rw [List.length_set]; exact fun c hc k hk => h c hc k (hget_kill hk), fun m _ _ h c hc k hk => h c hc k (hget_kill hk)⟩

/-- A block's cells behind a place are forgotten. -/
theorem Rel.trunc {ι : Io} {D : Nat → Prop} {H : Heap} {w : World} (h : Rel ι D H w) {b : Nat} {k : Blk} (hk : hget H b = some k) (hro : k.ro = false) (m : Nat) :
    hget (H.set b (some ⟨k.cells.take m, false⟩)) b = some ⟨k.cells.take m, false⟩ ∧ Rel ι D (H.set b (some ⟨k.cells.take m, false⟩)) w ∧ Fr ι H w ι (H.set b (some ⟨k.cells.take m, false⟩)) w := by
  have hlt := hget_lt hk
  have hself : hget (H.set b (some ⟨k.cells.take m, false⟩)) b = some ⟨k.cells.take m, false⟩ := hget_set_same hlt
  have hcases : ∀ {c : Nat} {q : Blk}, hget (H.set b (some ⟨k.cells.take m, false⟩)) c = some q → (c = b ∧ q = ⟨k.cells.take m, false⟩) ∨ (c ≠ b ∧ hget H c = some q) := by
    intro c q hq
    by_cases e : b = c
    · subst e; rw [hself] at hq; injection hq with hq; exact .inl ⟨rfl, hq.symm⟩
    · rw [hget_set_ne e] at hq; exact .inr ⟨fun x => e x.symm, hq⟩
  have hb := h.blk b k hk
  refine ⟨hself, ⟨fun c q hq => ?_, fun c c' q q' h1 h2 hne hr => ?_, fun c q hq hr => (by
    rcases hcases hq with ⟨rfl, rfl⟩ | ⟨_, g2⟩
    · exact h.nog _ k hk hro
    · exact h.nog c q g2 hr), h.gw⟩, ⟨by simp, fun _ _ => rfl, rfl, rfl, rfl, Nat.le_refl _, fun _ _ _ => rfl, fun c q hq hr => ?_, fun c q hq hr => ?_⟩⟩
  · rcases hcases hq with ⟨rfl, rfl⟩ | ⟨g1, g2⟩
    · refine ⟨hb.shape, ?_, fun i hi => ?_, fun _ => hb.thaw hro⟩
      · have := hb.fit; simp only [List.length_take]; omega
      · simp only [List.length_take] at hi
        obtain ⟨c', e1, e2, e3⟩ := hb.cell i (by omega)
        exact ⟨c', e1, by simp only [List.getElem_take]; exact e2, by simp only [List.getElem_take]; exact e3⟩
    · exact h.blk c q g2
  · rcases hcases h1 with ⟨rfl, rfl⟩ | ⟨g1, g2⟩ <;> rcases hcases h2 with ⟨rfl, rfl⟩ | ⟨k1, k2⟩
    · exact absurd rfl hne
    · exact h.inj c c' k q' hk k2 hne (.inl hro)
    · exact h.inj c c' q k g2 hk hne (.inr hro)
    · exact h.inj c c' q q' g2 k2 hne hr
  · rcases hcases hq with ⟨rfl, rfl⟩ | ⟨g1, g2⟩
    · exact .inr ⟨c, k, hk, hro, rfl⟩
    · exact .inr ⟨c, q, g2, hr, rfl⟩
  · rcases hcases hq with ⟨rfl, rfl⟩ | ⟨g1, g2⟩
    · simp at hr
    · exact g2

/-- A block dies. -/
theorem Rel.kill {ι : Io} {D : Nat → Prop} {H : Heap} {w : World} (h : Rel ι D H w) (b : Nat) : Rel ι D (H.set b none) w := by
  have hk : ∀ c k, hget (H.set b none) c = some k → hget H c = some k := by
    intro c k hc
    by_cases e : b = c
    · subst e
      have hlt := hget_lt hc
      rw [List.length_set] at hlt
      rw [hget_set_same hlt] at hc; simp at hc
    · rw [hget_set_ne e] at hc; exact hc
  exact ⟨fun c k hc => h.blk c k (hk c k hc), fun c c' k k' h1 h2 => h.inj c c' k k' (hk c k h1) (hk c' k' h2), fun c k hc hr => h.nog c k (hk c k hc) hr, h.gw⟩

/-- The block's cells from a place on, and new ones behind them, as a new block in the old one's place. -/
theorem Rel.alias {ι : Io} {H : Heap} {w : World} (h : Rel ι (Bel H.length) H w) {b : Nat} {k : Blk} (hk : hget H b = some k) (hro : k.ro = false) {off : Nat} (hoff : off ≤ k.cells.length) {news cs : List Value} (hv : LRel ι (Bel H.length) news cs)
    (hc : ∀ v ∈ news, isCell v = true) (hfit : (ι b).off + k.cells.length + cs.length ≤ (ι b).size) :
    Rel (ι.set H.length ⟨(ι b).blk, (ι b).off + off, (ι b).size⟩) (Bel (H.length + 1)) (hpush (H.set b none) (k.cells.drop off ++ news)) (w.setCells (ι b).blk ((ι b).off + k.cells.length) cs) ∧
    Fr ι H w (ι.set H.length ⟨(ι b).blk, (ι b).off + off, (ι b).size⟩) (hpush (H.set b none) (k.cells.drop off ++ news)) (w.setCells (ι b).blk ((ι b).off + k.cells.length) cs) := by
  have hb := h.blk b k hk
  have hlt := hget_lt hk
  obtain ⟨ety, hshape⟩ := hb.shape
  have hlen : (H.set b none).length = H.length := by simp
  have hup : ∀ {v c : Value}, VRel ι (Bel H.length) v c → VRel (ι.set H.length ⟨(ι b).blk, (ι b).off + off, (ι b).size⟩) (Bel (H.length + 1)) v c :=
    fun hr => hr.mono (Bel.mono (by omega)) fun c hc => Io.set_ne _ _ (by simp [Bel] at hc; omega)
  have hthere : ∀ j, j < cs.length → (w.cell? ⟨(ι b).blk, (ι b).off + k.cells.length + j, none⟩).isSome = true := fun j hj => cell_of_shape hshape (by omega)
  have hcases : ∀ {c : Nat} {q : Blk}, hget (hpush (H.set b none) (k.cells.drop off ++ news)) c = some q → (c < H.length ∧ c ≠ b ∧ hget H c = some q) ∨ (c = H.length ∧ q = ⟨k.cells.drop off ++ news, false⟩) := by
    intro c q hq
    rcases hget_push_cases hq with ⟨h1, h2⟩ | ⟨h1, h2⟩
    · rw [hlen] at h1
      refine .inl ⟨h1, fun e => ?_, hget_kill h2⟩
      subst e; rw [hget_set_same hlt] at h2; simp at h2
    · rw [hlen] at h1; exact .inr ⟨h1, h2⟩
  constructor
  · refine ⟨fun c q hq => ?_, fun c c' q q' h1 h2 hne hr => ?_, fun c q hq hr => (by
      rcases hcases hq with ⟨g1, g2, g3⟩ | ⟨rfl, rfl⟩
      · rw [Io.set_ne _ _ (by omega)]; exact h.nog c q g3 hr
      · rw [Io.set_same]; exact h.nog b k hk hro), h.gw.stable (Nat.le_of_eq (size_setCells _ _ _ _).symm) (fun q hq => heap_setCells _ _ _ _ _ (by have := h.nog b k hk hro; omega))⟩
    · rcases hcases hq with ⟨g1, g2, g3⟩ | ⟨rfl, rfl⟩
      · refine (h.blk c q g3).of_block (heap_setCells _ _ _ _ _ (h.inj c b q k g3 hk g2 (.inr hro))) (Io.set_ne _ _ (by omega)) (fun _ _ _ hr => hup hr)
      · refine ⟨⟨ety, by rw [Io.set_same, shape_setCells]; exact hshape⟩, ?_, fun i hi => ?_, fun _ i h1 h2 => ?_⟩
        · rw [Io.set_same]; simp [hv.1]; omega
        · rw [Io.set_same]
          simp only [List.length_append, List.length_drop] at hi
          by_cases hi' : i < k.cells.length - off
          · obtain ⟨c, g1, g2, g3⟩ := hb.cell (off + i) (by omega)
            have e : (k.cells.drop off ++ news)[i]'(by simp; omega) = k.cells[off + i]'(by omega) := by
              rw [List.getElem_append_left (by simp; omega)]; simp
            refine ⟨c, ?_, by simp only [e]; exact hup g2, by simp only [e]; exact g3⟩
            rw [World.cell?_setCells_out]
            · rw [Nat.add_assoc]; exact g1
            · intro _ _; left; simp only; omega
          · have hj : i - (k.cells.length - off) < news.length := by omega
            have e : (k.cells.drop off ++ news)[i]'(by simp; omega) = news[i - (k.cells.length - off)] := by
              rw [List.getElem_append_right (by simp; omega)]; simp
            refine ⟨cs[i - (k.cells.length - off)]'(by have := hv.1; omega), ?_, by simp only [e]; exact hup (hv.2 _ _ _), by simp only [e]; exact hc _ (List.getElem_mem _)⟩
            have := World.cell?_setCells_in (ι b).blk cs ((ι b).off + k.cells.length) w hthere (i - (k.cells.length - off)) (by have := hv.1; omega)
            rw [show (ι b).off + off + i = (ι b).off + k.cells.length + (i - (k.cells.length - off)) by omega]
            exact this
        · rw [Io.set_same] at h1 h2 ⊢
          rw [World.frozen?_setCells]
          exact hb.thaw hro i (by simp only at h1; omega) h2
    · rcases hcases h1 with ⟨g1, g2, g3⟩ | ⟨rfl, rfl⟩
      · rcases hcases h2 with ⟨k1, k2, k3⟩ | ⟨rfl, rfl⟩
        · rw [Io.set_ne _ _ (by omega), Io.set_ne _ _ (by omega)]; exact h.inj c c' q q' g3 k3 hne hr
        · rw [Io.set_ne _ _ (by omega), Io.set_same]; exact h.inj c b q k g3 hk g2 (.inr hro)
      · rcases hcases h2 with ⟨k1, k2, k3⟩ | ⟨rfl, rfl⟩
        · rw [Io.set_same, Io.set_ne _ _ (by omega)]; exact h.inj b c' k q' hk k3 (Ne.symm k2) (.inl hro)
        · exact absurd rfl hne
  · obtain ⟨o1, o2, o3⟩ := os_setCells (ι b).blk cs ((ι b).off + k.cells.length) w
    refine ⟨by rw [length_push, hlen]; omega, fun c hc => Io.set_ne _ _ (by omega), o1, o2, o3, Nat.le_of_eq (size_setCells _ _ _ _).symm, fun q hq hn => heap_setCells _ _ _ _ _ (Ne.symm (hn b k hk hro)), fun c q hq hr => ?_, fun c q hq hr => ?_⟩
    · rcases hcases hq with ⟨g1, g2, g3⟩ | ⟨rfl, rfl⟩
      · exact .inr ⟨c, q, g3, hr, by rw [Io.set_ne _ _ (by omega)]⟩
      · exact .inr ⟨b, k, hk, hro, by rw [Io.set_same]⟩
    · rcases hcases hq with ⟨g1, g2, g3⟩ | ⟨rfl, rfl⟩
      · exact g3
      · simp at hr

end Go.Ev
