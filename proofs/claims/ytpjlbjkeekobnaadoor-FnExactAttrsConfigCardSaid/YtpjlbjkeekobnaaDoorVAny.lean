/-
  The bridge for arguments of any plain type: numbers, texts, structs and slices of these. A law that gives true by value, for all values of its arguments' types, returns true in the model and writes nothing that was there.
  Conditions: what the reading of the arguments tells.
-/
import Derived.Test.YtpjlbjkeekobnaaDoorVTop
set_option linter.all false
namespace Go.Pv
open Go.Ev Go.Ek Go.ChangeAt Go.RowKit Go.WideShapes Go.ChangeShapes

/-- The type of a Go type that an argument may have. -/
def tyR (P : Program) : Nat → TypeId → Option Ty
  | 0, _ => none
  | n + 1, t => match isVar P t with
    | false => none
    | true => match P.underlying t with
      | some .bool => some .bool
      | some (.int k) => some (.int k)
      | some .string => some .str
      | some (.slice e) => obind (tyR P n e) fun u => some (.sl u)
      | some (.struct fs) => match fs.toList with
        | f :: h :: r => tyFs (tyR P n) (f :: h :: r)
        | _ => none
      | _ => none

/-- What holds of every value of a type: numbers fit their kinds, lengths fit an int. -/
def Wf : (t : Ty) → t.T → Prop
  | .int k, x => k.min ≤ x ∧ x ≤ k.max
  | .bool, _ => True
  | .str, s => s.size ≤ maxLen
  | .sl t, xs => xs.length ≤ maxLen ∧ ∀ x ∈ xs, Wf t x
  | .os _, _ => True
  | .pair a b, x => Wf a x.1 ∧ Wf b x.2

structure RoR (ι : Io) (G : Heap) (w : World) : Prop where
  ro : ∀ b k, hget G b = some k → k.ro = true
  rel : ∀ b k, hget G b = some k → BRel ι (Bel G.length) w b k

def ExtR (ι : Io) (G : Heap) (ι' : Io) (G' : Heap) : Prop := (∃ S, G' = G ++ S) ∧ ∀ b, b < G.length → ι' b = ι b

theorem ExtR.refl (ι : Io) (G : Heap) : ExtR ι G ι G := ⟨⟨[], by simp⟩, fun _ _ => rfl⟩
theorem ExtR.len {ι ι' : Io} {G G' : Heap} (h : ExtR ι G ι' G') : G.length ≤ G'.length := by obtain ⟨⟨S, rfl⟩, _⟩ := h; simp
theorem ExtR.trans {ι ι' ι'' : Io} {G G' G'' : Heap} (h : ExtR ι G ι' G') (h' : ExtR ι' G' ι'' G'') : ExtR ι G ι'' G'' := by
  have hl := h.len
  obtain ⟨⟨S, rfl⟩, e⟩ := h
  obtain ⟨⟨S', rfl⟩, e'⟩ := h'
  exact ⟨⟨S ++ S', by simp⟩, fun b hb => (e' b (by omega)).trans (e b hb)⟩
theorem hget_app {G S : Heap} {b : Nat} (h : b < G.length) : hget (G ++ S) b = hget G b := by
  unfold hget; rw [List.getElem?_append_left h]
theorem ExtR.rep {ι ι' : Io} {G G' : Heap} (h : ExtR ι G ι' G') {t : Ty} {x : t.T} {cs : List Value} (r : Rep Any G t x cs) : Rep Any G' t x cs := by
  obtain ⟨⟨S, rfl⟩, _⟩ := h
  exact Rep.frame (fun z _ hz => ⟨trivial, hget_app hz⟩) t r
theorem ExtR.lrel {ι ι' : Io} {G G' : Heap} (h : ExtR ι G ι' G') {xs ys : List Value} (r : LRel ι (Bel G.length) xs ys) : LRel ι' (Bel G'.length) xs ys :=
  r.mono (fun b hb => Nat.lt_of_lt_of_le hb h.len) (fun b hb => h.2 b hb)

section
variable {H : Type} {enc : TypeId × Value → H} {P : Program} {w : World}

/-- What a reading of a type gives. -/
def Treads (enc : TypeId × Value → H) (P : Program) (w : World) (T : Ty) (t : TypeId) : Prop := ∀ fuel cs x, DataW.trod enc P w 0 (fun _ => true) true fuel t cs = some x → ∀ ι G, RoR ι G w →
  ∃ ι' G' y av, RoR ι' G' w ∧ ExtR ι G ι' G' ∧ Rep Any G' T y av ∧ LRel ι' (Bel G'.length) av cs ∧ Wf T y

def RepL (G : Heap) (T : Ty) : List T.T → List Value → Prop
  | [], avs => avs = []
  | y :: ys, avs => Rep Any G T y (avs.take T.size) ∧ RepL G T ys (avs.drop T.size)

theorem RepL.at {G : Heap} {T : Ty} : ∀ {ys : List T.T} {avs : List Value}, RepL G T ys avs → (avs.length = ys.length * T.size ∧ (∀ v ∈ avs, isCell v = true)) ∧ ∀ i (h : i < ys.length), Rep Any G T ys[i] ((avs.drop (i * T.size)).take T.size)
  | [], avs, h => by
    have h : avs = [] := h
    subst h
    exact ⟨⟨by simp, by simp⟩, fun i h => by simp at h⟩
  | y :: ys, avs, h => by
    obtain ⟨h1, h2⟩ := h
    have l1 := Rep.len T h1
    have c1 := Rep.cell T h1
    obtain ⟨⟨l2, c2⟩, r2⟩ := RepL.at h2
    simp only [List.length_take] at l1
    simp only [List.length_drop] at l2
    have hs := Ty.size_pos T
    refine ⟨⟨by simp only [List.length_cons]; rw [Nat.add_mul]; omega, fun v hv => ?_⟩, fun i hi => ?_⟩
    · rw [← List.take_append_drop T.size avs] at hv
      rcases List.mem_append.1 hv with hv | hv
      · exact c1 v hv
      · exact c2 v hv
    · cases i with
      | zero => simpa using h1
      | succ i =>
        have := r2 i (by simpa using hi)
        rw [List.drop_drop] at this
        rw [show T.size + i * T.size = (i + 1) * T.size by rw [Nat.add_mul, Nat.one_mul]; exact Nat.add_comm _ _] at this
        exact this

theorem RepL.ext {ι ι' : Io} {G G' : Heap} (h : ExtR ι G ι' G') {T : Ty} : ∀ {ys : List T.T} {avs : List Value}, RepL G T ys avs → RepL G' T ys avs
  | [], _, r => r
  | _ :: _, _, r => ⟨h.rep r.1, RepL.ext h r.2⟩

theorem treads_list {T : Ty} {t : TypeId} (hT : Treads enc P w T t) : ∀ (css : List (List Value)), (∀ cs ∈ css, ∃ fuel x, DataW.trod enc P w 0 (fun _ => true) true fuel t cs = some x) → ∀ ι G, RoR ι G w →
    ∃ ι' G' ys avs, RoR ι' G' w ∧ ExtR ι G ι' G' ∧ ys.length = css.length ∧ RepL G' T ys avs ∧ LRel ι' (Bel G'.length) avs css.flatten ∧ ∀ y ∈ ys, Wf T y
  | [], _, ι, G, hR => ⟨ι, G, [], [], hR, .refl ι G, rfl, rfl, LRel.nil _ _, by simp⟩
  | cs :: css, h, ι, G, hR => by
    obtain ⟨fuel, x, hx⟩ := h cs (by simp)
    obtain ⟨ι1, G1, y, av, a1, a2, a3, a4, a5⟩ := hT fuel cs x hx ι G hR
    obtain ⟨ι2, G2, ys, avs, b1, b2, b3, b4, b5, b6⟩ := treads_list hT css (fun c hc => h c (by simp [hc])) ι1 G1 a1
    have hl := Rep.len T a3
    refine ⟨ι2, G2, y :: ys, av ++ avs, b1, a2.trans b2, by simp [b3], ⟨?_, ?_⟩, ?_, ?_⟩
    · rw [← hl, List.take_left]; exact b2.rep a3
    · rw [← hl, List.drop_left]; exact b4
    · rw [List.flatten_cons]; exact LRel.append (b2.lrel a4) b5
    · intro z hz
      rcases List.mem_cons.1 hz with rfl | hz
      · exact a5
      · exact b6 z hz

theorem flat_get {α : Type} {f : Nat → List α} {c : Nat} : ∀ (m : Nat), (∀ i, i < m → (f i).length = c) → (((List.range m).map f).flatten.length = m * c) ∧ ∀ i r, i < m → r < c → ((List.range m).map f).flatten[i * c + r]? = (f i)[r]?
  | 0, _ => ⟨by simp, fun i r h => by omega⟩
  | m + 1, h => by
    obtain ⟨h1, h2⟩ := flat_get m (fun i hi => h i (by omega))
    have hm := h m (by omega)
    rw [List.range_succ, List.map_append, List.flatten_append]
    simp only [List.map_cons, List.map_nil, List.flatten_cons, List.flatten_nil, List.append_nil]
    refine ⟨by rw [List.length_append, h1, hm, Nat.add_mul]; omega, fun i r hi hr => ?_⟩
    rcases Nat.lt_or_ge i m with hlt | hge
    · have : i * c + r < m * c := by
        have := Nat.mul_le_mul_right c (show i + 1 ≤ m by omega)
        rw [Nat.add_mul] at this; omega
      rw [List.getElem?_append_left (by omega)]
      exact h2 i r hlt hr
    · have : i = m := by omega
      subst this
      rw [List.getElem?_append_right (by omega), h1]
      congr 1; omega

theorem rowFine_at (hl : laidOutB P = true) {t : TypeId} (hv : isVar P t = true) : rowFine P t = true := by
  unfold laidOutB at hl
  simp only [Bool.and_eq_true, List.all_eq_true] at hl
  unfold isVar at hv
  simp only [Bool.and_eq_true, decide_eq_true_eq] at hv
  exact hl.1.1 t (List.mem_range.2 hv.1)

theorem push_one {ι : Io} {G : Heap} (hR : RoR ι G w) (l : Ev.Loc) (B : Option Blk) (hB : ∀ k, B = some k → k.ro = true ∧ BRel (ι.set G.length l) (Bel (G.length + 1)) w G.length k) :
    RoR (ι.set G.length l) (G ++ [B]) w ∧ ExtR ι G (ι.set G.length l) (G ++ [B]) ∧ (G ++ [B]).length = G.length + 1 ∧ hget (G ++ [B]) G.length = B := by
  have hg : hget (G ++ [B]) G.length = B := by unfold hget; rw [List.getElem?_append_right (by omega)]; simp; cases B <;> rfl
  have hl : (G ++ [B]).length = G.length + 1 := by simp
  have key : ∀ b k, hget (G ++ [B]) b = some k → (b < G.length ∧ hget G b = some k) ∨ (b = G.length ∧ B = some k) := by
    intro b k hb
    have := hget_some_lt hb
    rcases Nat.lt_or_ge b G.length with h | h
    · rw [hget_app h] at hb; exact .inl ⟨h, hb⟩
    · have : b = G.length := by omega
      subst this; rw [hg] at hb; exact .inr ⟨rfl, hb⟩
  refine ⟨⟨fun b k hb => ?_, fun b k hb => ?_⟩, ⟨⟨[B], rfl⟩, fun b hb => Io.set_ne _ _ (by omega)⟩, hl, hg⟩
  · rcases key b k hb with ⟨_, h⟩ | ⟨_, h⟩
    · exact hR.ro b k h
    · exact (hB k h).1
  · rw [hl]
    rcases key b k hb with ⟨h0, h⟩ | ⟨rfl, h⟩
    · have := hR.rel b k h
      have e : (ι.set G.length l) b = ι b := Io.set_ne _ _ (by omega)
      refine ⟨by rw [e]; exact this.shape, by rw [e]; exact this.fit, fun i hi => ?_, fun hr => ?_⟩
      · rw [e]
        obtain ⟨c, c1, c2, c3⟩ := this.cell i hi
        exact ⟨c, c1, c2.mono (fun z hz => Nat.lt_succ_of_lt hz) (fun z hz => Io.set_ne _ _ (Nat.ne_of_lt hz)), c3⟩
      · have := hR.ro b k h
        rw [hr] at this; simp at this
    · exact (hB k h).2

theorem treads_slice {T : Ty} {t e : TypeId} (ht : P.underlying t = some (.slice e)) (hT : Treads enc P w T e) (hc : P.cellsOf e = T.size) : Treads enc P w (.sl T) t := by
  intro fuel cs x hx ι G hR
  have hsz := Ty.size_pos T
  rcases DataW.trod_slice ht hx with ⟨rfl, _⟩ | ⟨a, len, cap, elems, rest, n, rfl, rfl, _, _, hlc, hcm, hel, he, hsp, _⟩
  · refine ⟨ι, G, [], [.slice none 0 0], hR, .refl ι G, ?_, LRel.cons .slNil (LRel.nil _ _), by simp [Wf]⟩
    unfold Rep; exact .inl ⟨rfl, rfl⟩
  · rw [hc] at he hsp
    obtain ⟨hrl, hre⟩ := hsp rfl
    rcases Nat.eq_zero_or_pos cap with h0 | h0
    · subst h0
      obtain rfl : len = 0 := by omega
      obtain ⟨p1, p2, p3, p4⟩ := push_one hR (⟨0, 0, 0⟩ : Ev.Loc) none (fun k h => by simp at h)
      refine ⟨_, _, [], [.slice (some ⟨G.length, 0, none⟩) 0 T.size], p1, p2, ?_, LRel.cons (.slEmpty _ _ _ ?_) (LRel.nil _ _), by simp [Wf]⟩
      · unfold Rep; exact .inr (.inl ⟨rfl, _, _, rfl⟩)
      · show G.length < _
        omega
    · -- every element can be read
      have rd : ∀ i, i < cap → ∃ c y, w.cells? 0 (a.add (i * T.size)) T.size = some c ∧ DataW.trod enc P w 0 (fun _ => true) true n e c = some y := by
        intro i hi
        rcases Nat.lt_or_ge i len with h | h
        · have := he i h
          rw [List.getElem?_eq_getElem (by omega), Option.bind_eq_some_iff] at this
          obtain ⟨c, c1, c2⟩ := this
          exact ⟨c, _, c1, c2⟩
        · have := hre (i - len) (by omega)
          rw [List.getElem?_eq_getElem (by omega), show len + (i - len) = i by omega, Option.bind_eq_some_iff] at this
          obtain ⟨c, c1, c2⟩ := this
          exact ⟨c, _, c1, c2⟩
      have cellAt : ∀ i r, i < cap → r < T.size → ∃ v, w.cell? ((a.add (i * T.size)).add r) = some v := by
        intro i r hi hr
        obtain ⟨c, y, c1, _⟩ := rd i hi
        obtain ⟨_, l, q⟩ := World.cells?_some c1
        exact ⟨c[r]'(by omega), by rw [q r hr, List.getElem?_eq_getElem]⟩
      obtain ⟨v0, hv0⟩ := cellAt 0 0 h0 hsz
      have e0 : (a.add (0 * T.size)).add 0 = a := by
        obtain ⟨ab, ao, as⟩ := a
        rw [Nat.zero_mul]; unfold Addr.add; split <;> simp_all
      rw [e0] at hv0
      obtain ⟨ety, m, hs, ho, hspot⟩ := cell_shape hv0
      have hadd : ∀ j, a.add j = ⟨a.block, a.off + j, none⟩ := by
        intro j; obtain ⟨xb, xo, xs⟩ := a; simp only at hspot; subst hspot; unfold Addr.add; split <;> simp_all
      have hadd2 : ∀ j r, (a.add j).add r = ⟨a.block, a.off + (j + r), none⟩ := by
        intro j r; rw [hadd j]; unfold Addr.add; split <;> simp_all <;> omega
      have hlast : a.off + cap * T.size ≤ m := by
        obtain ⟨v, hv⟩ := cellAt (cap - 1) (T.size - 1) (by omega) (by omega)
        rw [hadd2] at hv
        obtain ⟨ety', m', hs', ho', _⟩ := cell_shape hv
        simp only at hs' ho'
        rw [hs] at hs'
        obtain ⟨rfl, rfl⟩ : ety = ety' ∧ m = m' := by simpa using hs'
        have : cap * T.size = (cap - 1) * T.size + T.size := by
          rw [show cap = cap - 1 + 1 by omega, Nat.add_mul, Nat.one_mul]; simp
        omega
      let f : Nat → List Value := fun i => (w.cells? 0 (a.add (i * T.size)) T.size).getD []
      have hf : ∀ i, i < cap → w.cells? 0 (a.add (i * T.size)) T.size = some (f i) ∧ (f i).length = T.size ∧ ∃ y, DataW.trod enc P w 0 (fun _ => true) true n e (f i) = some y := by
        intro i hi
        obtain ⟨c, y, c1, c2⟩ := rd i hi
        have : f i = c := by simp only [f, c1]; rfl
        rw [this]
        exact ⟨c1, (World.cells?_some c1).2.1, y, c2⟩
      obtain ⟨fl, fg⟩ := flat_get (f := f) (c := T.size) len (fun i hi => (hf i (by omega)).2.1)
      obtain ⟨ι1, G1, ys, avs, a1, a2, a3, a4, a5, a6⟩ := treads_list hT ((List.range len).map f) (fun c hc => by
        obtain ⟨i, hi, rfl⟩ := List.mem_map.1 hc
        obtain ⟨_, _, y, hy⟩ := hf i (by have := List.mem_range.1 hi; omega)
        exact ⟨n, y, hy⟩) ι G hR
      simp only [List.length_map, List.length_range] at a3
      obtain ⟨⟨l4, c4⟩, r4⟩ := a4.at
      have hle := Nat.mul_le_mul_right T.size hlc
      have hset : (ι1.set G1.length ⟨a.block, a.off, m⟩) G1.length = ⟨a.block, a.off, m⟩ := Io.set_same _ _ _
      obtain ⟨p1, p2, p3, p4⟩ := push_one a1 ⟨a.block, a.off, m⟩ (some ⟨avs, true⟩) (fun k hk => by
        obtain rfl : _ = k := by simpa using hk
        refine ⟨rfl, ⟨ety, by rw [hset]; exact hs⟩, by rw [hset]; simp only; rw [l4, a3]; omega, fun j hj => ?_, fun h => by simp at h⟩
        simp only at hj ⊢
        rw [hset]; simp only
        have hj' : j < len * T.size := by rw [l4, a3] at hj; exact hj
        have hd : j / T.size < len := Nat.div_lt_of_lt_mul (by rw [Nat.mul_comm]; exact hj')
        have hr := Nat.mod_lt j hsz
        have hj2 : j / T.size * T.size + j % T.size = j := by rw [Nat.mul_comm]; exact Nat.div_add_mod j T.size
        obtain ⟨c1, c2, _⟩ := hf (j / T.size) (by omega)
        have hc3 := (World.cells?_some c1).2.2 (j % T.size) hr
        rw [hadd2, hj2] at hc3
        have hg := fg (j / T.size) (j % T.size) hd hr
        rw [hj2] at hg
        rw [List.getElem?_eq_getElem (by omega)] at hc3
        rw [List.getElem?_eq_getElem (by omega), List.getElem?_eq_getElem (by omega)] at hg
        refine ⟨_, hc3, ?_, c4 _ (List.getElem_mem _)⟩
        have := a5.2 j hj (by omega)
        rw [Option.some.inj hg] at this
        exact this.mono (fun z hz => Nat.lt_succ_of_lt hz) (fun z hz => Io.set_ne _ _ (Nat.ne_of_lt hz)))
      refine ⟨_, _, ys, [.slice (some ⟨G1.length, 0, none⟩) len T.size], p1, a2.trans p2, ?_, LRel.cons ?_ (LRel.nil _ _), ⟨by omega, a6⟩⟩
      · unfold Rep
        refine .inr (.inr ⟨G1.length, 0, _, by rw [a3], trivial, p4, by simp only; rw [l4]; omega, fun i hi => ?_⟩)
        rw [Nat.zero_add]
        exact p2.rep (r4 i hi)
      · have h2 := VRel.slGo (ι := ι1.set G1.length ⟨a.block, a.off, m⟩) (D := Bel (G1 ++ [some (⟨avs, true⟩ : Blk)]).length) ⟨G1.length, 0, none⟩ len T.size cap (by show G1.length < _; omega) hlc (by rw [hset]; simp only; omega)
        have ha : (ι1.set G1.length ⟨a.block, a.off, m⟩).addr ⟨G1.length, 0, none⟩ = a := by
          unfold Io.addr; rw [hset]
          have := hadd 0
          obtain ⟨ab, ao, as⟩ := a
          simp only at hspot; subst hspot; rfl
        rw [ha] at h2
        exact h2

theorem treads_fs {g : TypeId → Option Ty} (hg : ∀ t T, g t = some T → Treads enc P w T t ∧ P.cellsOf t = T.size) : ∀ (fs : List Field) (T : Ty) (off : Nat) (cs : List Value), tyFs g fs = some T →
    (∀ j f, fs[j]? = some f → f.offset = off + ((fs.take j).map fun f => P.cellsOf f.type).sum) → (∀ f ∈ fs, ∃ fuel x, DataW.trod enc P w 0 (fun _ => true) true fuel f.type ((cs.drop f.offset).take (P.cellsOf f.type)) = some x) → ∀ ι G, RoR ι G w →
    (∃ ι' G' y av, RoR ι' G' w ∧ ExtR ι G ι' G' ∧ Rep Any G' T y av ∧ LRel ι' (Bel G'.length) av ((cs.drop off).take T.size) ∧ Wf T y) ∧ (fs.map fun f => P.cellsOf f.type).sum = T.size
  | [], T, off, cs, h, _, _, _, _, _ => by simp [tyFs] at h
  | [f], T, off, cs, h, ho, hr, ι, G, hR => by
    obtain ⟨h1, h2⟩ := hg f.type T h
    obtain ⟨fuel, x, hx⟩ := hr f (by simp)
    have := ho 0 f rfl
    simp at this
    rw [this, h2] at hx
    exact ⟨h1 fuel _ x hx ι G hR, by simp [h2]⟩
  | f :: f2 :: fs, T, off, cs, h, ho, hr, ι, G, hR => by
    simp only [tyFs] at h
    replace h := ob h; obtain ⟨a, ha, h⟩ := h
    replace h := ob h; obtain ⟨b, hb, h⟩ := h
    simp at h; subst h
    obtain ⟨h1, h2⟩ := hg f.type a ha
    obtain ⟨fuel, x, hx⟩ := hr f (by simp)
    have e0 := ho 0 f rfl
    simp at e0
    rw [e0, h2] at hx
    obtain ⟨ι1, G1, y, av, a1, a2, a3, a4, a5⟩ := h1 fuel _ x hx ι G hR
    obtain ⟨⟨ι2, G2, z, bv, b1, b2, b3, b4, b5⟩, hs⟩ := treads_fs hg (f2 :: fs) b (off + a.size) cs hb (fun j f' hj => by
      have := ho (j + 1) f' (by simpa using hj)
      simp only [List.take_succ_cons, List.map_cons, List.sum_cons] at this
      rw [this, h2]; omega) (fun f' hf' => hr f' (by simp at hf' ⊢; exact .inr hf')) ι1 G1 a1
    have hl := Rep.len a a3
    refine ⟨⟨ι2, G2, (y, z), av ++ bv, b1, a2.trans b2, ?_, ?_, a5, b5⟩, by simp only [List.map_cons, List.sum_cons] at hs ⊢; rw [hs, h2]; rfl⟩
    · unfold Rep
      rw [← hl, List.take_left, List.drop_left]
      exact ⟨b2.rep a3, b3⟩
    · show LRel _ _ _ ((cs.drop off).take (a.size + b.size))
      rw [List.take_add, List.drop_drop]
      exact LRel.append (b2.lrel a4) b4

theorem treads (hl : laidOutB P = true) : ∀ (n : Nat) (t : TypeId) (T : Ty), tyR P n t = some T → Treads enc P w T t ∧ P.cellsOf t = T.size
  | 0, t, T, h => by simp [tyR] at h
  | n + 1, t, T, h => by
    unfold tyR at h
    cases hv : isVar P t with
    | false => rw [hv] at h; simp at h
    | true =>
      rw [hv] at h
      simp only at h
      have hf := rowFine_at hl hv
      unfold rowFine at hf
      rw [hv] at hf
      simp only [Bool.not_true, Bool.false_or] at hf
      split at h
      · rename_i hu
        simp at h; subst h
        rw [hu] at hf
        refine ⟨fun fuel cs x hx ι G hR => ?_, by simpa [Ty.size] using hf⟩
        obtain ⟨b, rfl, _⟩ := DataW.trod_bool hu hx
        exact ⟨ι, G, b, [.bool b], hR, .refl ι G, by unfold Rep; rfl, LRel.cons (.bool b) (LRel.nil _ _), trivial⟩
      · rename_i k hu
        simp at h; subst h
        rw [hu] at hf
        refine ⟨fun fuel cs x hx ι G hR => ?_, by simpa [Ty.size] using hf⟩
        obtain ⟨m, rfl, _, hw⟩ := DataW.trod_int hu hx
        exact ⟨ι, G, m, [.int k m], hR, .refl ι G, by unfold Rep; rfl, LRel.cons (.int k m) (LRel.nil _ _), (Go.Lit.wf_int_iff k m).1 hw⟩
      · rename_i hu
        simp at h; subst h
        rw [hu] at hf
        refine ⟨fun fuel cs x hx ι G hR => ?_, by simpa [Ty.size] using hf⟩
        obtain ⟨s, rfl, _, hw⟩ := DataW.trod_string hu hx
        exact ⟨ι, G, s, [.string s], hR, .refl ι G, by unfold Rep; rfl, LRel.cons (.str s) (LRel.nil _ _), hw⟩
      · rename_i e hu
        replace h := ob h; obtain ⟨u, hu2, h⟩ := h
        simp at h; subst h
        rw [hu] at hf
        obtain ⟨h1, h2⟩ := treads hl n e u hu2
        simp only [Bool.and_eq_true, beq_iff_eq] at hf
        exact ⟨treads_slice hu h1 h2, by rw [hf.2]; rfl⟩
      · rename_i fs hu
        rw [hu] at hf
        simp only [Bool.and_eq_true, beq_iff_eq, List.all_eq_true] at hf
        obtain ⟨⟨f1, f2⟩, f3⟩ := hf
        have hT : tyFs (tyR P n) fs.toList = some T := by
          split at h
          · rename_i f h2 r e; rw [e]; exact h
          · simp at h
        have off : ∀ j f, fs.toList[j]? = some f → f.offset = 0 + ((fs.toList.take j).map fun f => P.cellsOf f.type).sum := by
          intro j f hj
          have := f3 j (List.mem_range.2 (List.getElem?_eq_some_iff.1 hj).1)
          rw [hj] at this
          simpa using this
        have hsum : (fs.toList.map fun f => P.cellsOf f.type).sum = T.size := by
          clear h f1 f2 f3
          have gen : ∀ (l : List Field) (T : Ty), tyFs (tyR P n) l = some T → (l.map fun f => P.cellsOf f.type).sum = T.size := by
            intro l
            induction l with
            | nil => intro T h; simp [tyFs] at h
            | cons f l ih =>
              intro T h
              cases l with
              | nil => simp [(treads hl n f.type T h).2]
              | cons f2 l =>
                simp only [tyFs] at h
                replace h := ob h; obtain ⟨a, ha, h⟩ := h
                replace h := ob h; obtain ⟨b, hb, h⟩ := h
                simp at h; subst h
                have := ih b hb
                simp only [List.map_cons, List.sum_cons] at this ⊢
                rw [this, (treads hl n f.type a ha).2]; rfl
          exact gen _ _ hT
        refine ⟨fun fuel cs x hx ι G hR => ?_, by rw [f2, hsum]⟩
        obtain ⟨xs, m, rfl, _, hl1, hl2, hx⟩ := DataW.trod_struct hu hx
        have := (treads_fs (enc := enc) (P := P) (w := w) (fun t T h => treads hl n t T h) fs.toList T 0 cs hT off (fun f hf => by
          obtain ⟨i, hi, rfl⟩ := List.mem_iff_getElem.1 hf
          have := hx i fs.toList[i] (by rw [← Array.getElem?_toList]; exact List.getElem?_eq_getElem hi)
          rw [List.getElem?_eq_getElem (by rw [hl2]; simpa using hi)] at this
          exact ⟨m, _, this⟩) ι G hR).1
        rw [List.drop_zero, List.take_of_length_le (by rw [hl1, f2, hsum]; exact Nat.le_refl _)] at this
        exact this
      · simp at h

theorem tyR_noOs : ∀ (n : Nat) (t : TypeId) (T : Ty), tyR P n t = some T → T.hasOs = false
  | 0, t, T, h => by simp [tyR] at h
  | n + 1, t, T, h => by
    unfold tyR at h
    split at h
    · simp at h
    · split at h
      · simp at h; subst h; rfl
      · simp at h; subst h; rfl
      · simp at h; subst h; rfl
      · replace h := ob h; obtain ⟨u, _, h⟩ := h
        simp at h; subst h; rfl
      · rename_i fs _
        have gen : ∀ (l : List Field) (T : Ty), tyFs (tyR P n) l = some T → T.hasOs = false := by
          intro l
          induction l with
          | nil => intro T h; simp [tyFs] at h
          | cons f l ih =>
            intro T h
            cases l with
            | nil => exact tyR_noOs n _ _ h
            | cons f2 l =>
              simp only [tyFs] at h
              replace h := ob h; obtain ⟨a, ha, h⟩ := h
              replace h := ob h; obtain ⟨b, hb, h⟩ := h
              simp at h; subst h
              show (a.hasOs || b.hasOs) = false
              rw [tyR_noOs n _ _ ha, ih b hb]; rfl
        split at h
        · exact gen _ _ h
        · simp at h
      · simp at h

/-- A value of a type, off its cells. -/
theorem val_of {n : Nat} {t : TypeId} {T : Ty} (h : tyR P n t = some T) {r : Reach} {base : Nat} {v : Value} (hv : Value.okWide P w r base t v) {ι : Io} {D : Nat → Prop} {av : List Value} (ha : LRel ι D av v.cells.toList) (hl : av.length = T.size) :
    ∃ wv, IsVal T av wv ∧ VRel ι D wv v := by
  cases n with
  | zero => simp [tyR] at h
  | succ n =>
    have one : T.size = 1 → (∀ a b, T ≠ .pair a b) → v.cells.toList = [v] → ∃ wv, IsVal T av wv ∧ VRel ι D wv v := by
      intro h1 h2 h3
      rw [h1] at hl
      obtain ⟨x, rfl⟩ := List.length_eq_one_iff.1 hl
      rw [h3] at ha
      refine ⟨x, ?_, ha.head⟩
      cases T with
      | pair a b => exact absurd rfl (h2 a b)
      | int k => rfl
      | bool => rfl
      | str => rfl
      | sl u => rfl
      | os u => rfl
    unfold tyR at h
    split at h
    · simp at h
    · split at h
      · rename_i hu; simp at h; subst h
        obtain ⟨b, rfl⟩ := okWide_bool hu hv
        exact one rfl (by simp) rfl
      · rename_i k hu; simp at h; subst h
        obtain ⟨b, rfl⟩ := okWide_int hu hv
        exact one rfl (by simp) rfl
      · rename_i hu; simp at h; subst h
        obtain ⟨b, rfl⟩ := okWide_string hu hv
        exact one rfl (by simp) rfl
      · rename_i e hu
        replace h := ob h; obtain ⟨u, _, h⟩ := h
        simp at h; subst h
        obtain ⟨a, b, c, rfl⟩ := okWide_slice hu hv
        exact one rfl (by simp) rfl
      · rename_i fs hu
        obtain ⟨cs, rfl, _⟩ := okWide_struct hu hv
        have : ∃ a b, T = .pair a b := by
          split at h
          · rename_i f f2 r _
            simp only [tyFs] at h
            replace h := ob h; obtain ⟨a, ha, h⟩ := h
            replace h := ob h; obtain ⟨b, hb, h⟩ := h
            simp at h; exact ⟨a, b, h.symm⟩
          · simp at h
        obtain ⟨a, b, rfl⟩ := this
        exact ⟨.agg ⟨av⟩, rfl, LRel.mkAgg (xs := ⟨av⟩) (ys := cs) ha⟩
      · simp at h

/-- The types of arguments. -/
def tysR (P : Program) : List TypeId → Option (List Ty)
  | [] => some []
  | t :: r => obind (tyR P 8 t) fun a => obind (tysR P r) fun l => some (a :: l)

theorem trod_args (hl : laidOutB P = true) : ∀ (ts : List TypeId) (Ts : List Ty) (vs : List Value) (ds : List (DataW H)) (ps : List MemPlace), tysR P ts = some Ts → DataW.TrodAll enc P w 0 (fun _ => true) true ts vs ds ps →
    ∀ {base : Nat}, (∀ (j : Nat) t v, ts[j]? = some t → vs[j]? = some v → Value.okWide P w .any base t v) → ∀ ι G, RoR ι G w →
    ∃ ι' G' tvs ws, RoR ι' G' w ∧ ExtR ι G ι' G' ∧ LRel ι' (Bel G'.length) ws vs ∧ (∀ lim, HRs Any G' lim (tvs.map fun _ => Kd.fz) tvs ws (tvs.map fun _ => [])) ∧ tvs.map (·.1) = Ts ∧ (∀ v ∈ tvs, Wf v.1 v.2)
  | [], Ts, vs, ds, ps, h, hA, base, _, ι, G, hR => by
    simp [tysR] at h; subst h
    cases vs with
    | nil => exact ⟨ι, G, [], [], hR, .refl ι G, LRel.nil _ _, fun _ => trivial, rfl, by simp⟩
    | cons v vs => cases ds <;> exact absurd hA (by simp [DataW.TrodAll])
  | t :: ts, Ts, vs, ds, ps, h, hA, base, hv, ι, G, hR => by
    simp only [tysR] at h
    replace h := ob h; obtain ⟨T, hT, h⟩ := h
    replace h := ob h; obtain ⟨Ts', hTs, h⟩ := h
    simp at h; subst h
    cases vs with
    | nil => cases ds <;> exact absurd hA (by simp [DataW.TrodAll])
    | cons v vs => cases ds with
      | nil => exact absurd hA (by simp [DataW.TrodAll])
      | cons d ds =>
        obtain ⟨p, q, h1, h2, _⟩ := hA
        obtain ⟨fuel, hx⟩ := h1
        obtain ⟨t1, t2⟩ := treads (enc := enc) (w := w) hl 8 t T hT
        obtain ⟨ι1, G1, y, av, a1, a2, a3, a4, a5⟩ := t1 fuel _ _ hx ι G hR
        obtain ⟨ι2, G2, tvs, ws, b1, b2, b3, b4, b5, b6⟩ := trod_args hl ts Ts' vs ds q hTs h2 (fun j t v hj hv' => hv (j + 1) t v (by simpa using hj) (by simpa using hv')) ι1 G1 a1
        obtain ⟨wv, w1, w2⟩ := val_of hT (hv 0 t v rfl rfl) (b2.lrel a4) (Rep.len T a3)
        refine ⟨ι2, G2, ⟨T, y⟩ :: tvs, wv :: ws, b1, a2.trans b2, LRel.cons w2 b3, fun lim => ⟨⟨av, w1, RepO.of T (tyR_noOs 8 t T hT) (b2.rep a3)⟩, b4 lim⟩, by simp [b5], ?_⟩
        intro z hz
        rcases List.mem_cons.1 hz with rfl | hz
        · exact a5
        · exact b6 z hz
end

theorem tup_of : ∀ (vs : List TV), ∃ a : TupT (vs.map (·.1)), unT (vs.map (·.1)) a = vs
  | [] => ⟨(), rfl⟩
  | [v] => ⟨v.2, rfl⟩
  | v :: u :: r => by
    obtain ⟨a, ha⟩ := tup_of (u :: r)
    exact ⟨(v.2, a), by show (⟨v.1, v.2⟩ : TV) :: unT _ a = v :: u :: r; exact congrArg (List.cons v) ha⟩

/-- What is to be shown of a law of arguments of any plain types. -/
def LawAny (P : Program) (A : AnnV) (d : Nat) (f : FuncId) (Ts : List Ty) : Prop :=
  A.inline f = false ∧ (A.sig f).params = Ts.map (fun t => (PM.ro, t)) ∧ (A.sig f).results = [(false, .bool)] ∧
  ∀ a : TupT (A.sig f).ptys, (∀ v ∈ unT (A.sig f).ptys a, Wf v.1 v.2) → ∃ r, (lev P A d).call f a = some r ∧ unT (A.sig f).rtys r = [⟨.bool, true⟩]

theorem HRs.any_fz {G : Heap} {lim : Nat} {N : Nat → Prop} (hN : ∀ z, N z) : ∀ {tvs : List TV} {ws : List Value}, HRs Any G lim (tvs.map fun _ => Kd.fz) tvs ws (tvs.map fun _ => []) → HRs N G lim (tvs.map fun _ => Kd.fz) tvs ws (tvs.map fun _ => [])
  | [], [], h => h
  | [], _ :: _, h => h
  | _ :: _, [], h => h
  | t :: tvs, v :: ws, h => ⟨h.1.frame (fun z _ _ => ⟨hN z, rfl⟩) (by simp), HRs.any_fz hN h.2⟩

theorem pv_any {H : Type} {enc : TypeId × Value → H} {P : Program} {A : AnnV} {d : Nat} {f : FuncId} {Ts : List Ty} (hm : P.follows .mixedOrders = true) (hl : laidOutB P = true) (hE : ExtAll P A) (hr : LawAny P A d f Ts)
    {ts : List TypeId} {vs : List Value} {ds : List (DataW H)} {ps : List MemPlace} {w : World} (ht : tysR P ts = some Ts) (hA : DataW.TrodAll enc P w 0 (fun _ => true) true ts vs ds ps)
    {base : Nat} (hv : ∀ (j : Nat) t v, ts[j]? = some t → vs[j]? = some v → Value.okWide P w .any base t v) (hg : GW w) :
    Calls P f vs.toArray w fun e w' => e = .returned (.bool true) ∧ Below w.heap.size w w' := by
  have hX : ExtOk P A.ev := hE.x
  obtain ⟨hi, hp, hres, hr⟩ := hr
  obtain ⟨ι, G, tvs, ws, b1, _, b3, b4, b5, b6⟩ := trod_args hl ts Ts vs ds ps ht hA hv (fun _ => ⟨0, 0, 0⟩) [] ⟨fun b k h => by simp [hget] at h, fun b k h => by simp [hget] at h⟩
  have hpt : (A.sig f).ptys = tvs.map (·.1) := by
    unfold Sig.ptys; rw [hp, b5, List.map_map]; exact List.map_id' _
  obtain ⟨a, ha⟩ : ∃ a : TupT (A.sig f).ptys, unT (A.sig f).ptys a = tvs := by rw [hpt]; exact tup_of tvs
  obtain ⟨r, h1, h3⟩ := hr a (by rw [ha]; exact b6)
  have hfl : ((tvs.map fun _ => ([] : List Nat))).flatten = [] := by simp
  have hkd : ((A.sig f).params.map fun p => p.1.kd) = tvs.map fun _ => Kd.fz := by
    rw [hp, ← b5]; simp [PM.kd]
  have hF := (lev_ok P A hE.v d).call 0 f hi a r h1 G (fun _ => False) ws (tvs.map fun _ => []) (fun _ h => h.elim) (Nat.zero_le _) (by rw [hfl]; simp) (by rw [hfl]; simp) (by
    rw [ha, hkd]
    exact HRs.any_fz (fun z => ⟨by rw [hfl]; simp, fun h => h⟩) (b4 0))
  obtain ⟨v, H', rvs, rids, oids, c1, c2, _, _, _, _, _, c8, _⟩ := hF
  rw [hres, h3] at c8
  obtain ⟨wv, i, rfl, rfl, cs, e1, e2⟩ := HRs.one (k := .fz) c8
  replace e2 := e2.2
  unfold Rep at e2
  have e1' : cs = [wv] := e1
  rw [e1'] at e2
  simp at e2; subst e2
  rw [c2] at c1
  have hrun : run P A.ev d f ws 0 G = some (.bool true, H') := c1
  have hS := run_sound hm hX d f _ _ _ _ _ hrun
  have hR : Ev.Rel ι (Bel G.length) G w := ⟨b1.rel, fun b b' k k' hb hb' _ h => by rw [b1.ro b k hb, b1.ro b' k' hb'] at h; simp at h, fun b k hb hr => (by rw [b1.ro b k hb] at hr; simp at hr), hg⟩
  refine (hS.run ι w vs.toArray hR (by simpa using b3)).mono ?_
  rintro e w' ⟨ι', c, rfl, _, hv, hfr⟩
  cases hv
  exact ⟨rfl, hfr.os, hfr.tape, hfr.output, hfr.size, fun k hk => hfr.frame k hk fun b blk hb hn => by rw [b1.ro b blk hb] at hn; simp at hn⟩

end Go.Pv
