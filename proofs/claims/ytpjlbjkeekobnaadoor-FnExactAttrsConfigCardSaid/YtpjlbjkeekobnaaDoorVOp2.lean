/-
  Operations on memory: loads, stores, new blocks, appended ones.
  Conditions: the state is a good one.
-/
import Derived.Test.YtpjlbjkeekobnaaDoorVOp
set_option linter.all false
namespace Go.Pv
open Go.Ev

theorem lay_get (l : List Value) (o : Nat) (ds : List Value) (h : o + ds.length ≤ l.length) (i : Nat) : (lay l o ds)[i]? = if i < o then l[i]? else if i < o + ds.length then ds[i - o]? else l[i]? := by
  unfold lay
  have h1 : (l.take o).length = o := by simp; omega
  split
  · rename_i hi
    rw [List.append_assoc, List.getElem?_append_left (by omega), List.getElem?_take_of_lt hi]
  · split
    · rename_i hi hj
      rw [List.append_assoc, List.getElem?_append_right (by omega), h1, List.getElem?_append_left (by omega)]
    · rename_i hi hj
      rw [List.getElem?_append_right (by simp; omega), List.getElem?_drop]
      congr 1; simp; omega

theorem lay_len (l : List Value) (o : Nat) (ds : List Value) (h : o + ds.length ≤ l.length) : (lay l o ds).length = l.length := by
  unfold lay; simp; omega

def seg (l : List Value) (p n : Nat) : List Value := (l.drop p).take n
theorem seg_get (l : List Value) (p n i : Nat) : (seg l p n)[i]? = if i < n then l[p + i]? else none := by
  unfold seg
  split
  · rename_i h; rw [List.getElem?_take_of_lt h, List.getElem?_drop]
  · rename_i h; rw [List.getElem?_take_eq_none (by omega)]
theorem seg_len (l : List Value) (p n : Nat) (h : p + n ≤ l.length) : (seg l p n).length = n := by unfold seg; simp; omega

theorem lay_seg_out (l : List Value) (o : Nat) (ds : List Value) (h : o + ds.length ≤ l.length) (p n : Nat) (hd : p + n ≤ o ∨ o + ds.length ≤ p) : seg (lay l o ds) p n = seg l p n := by
  apply List.ext_getElem?; intro i
  rw [seg_get, seg_get, lay_get l o ds h]
  split
  · split
    · rfl
    · split
      · omega
      · rfl
  · rfl

theorem lay_seg_in (l : List Value) (o : Nat) (ds : List Value) (p n : Nat) (h1 : p ≤ o) (h2 : o + ds.length ≤ p + n) (h3 : p + n ≤ l.length) : seg (lay l o ds) p n = lay (seg l p n) (o - p) ds := by
  have hl := seg_len l p n h3
  apply List.ext_getElem?; intro i
  rw [seg_get, lay_get l o ds (by omega), lay_get (seg l p n) (o - p) ds (by omega)]
  split
  · rename_i hi
    split
    · rename_i hj
      rw [if_pos (by omega), seg_get, if_pos hi]
    · rename_i hj
      split
      · rename_i hk
        rw [if_neg (by omega), if_pos (by omega)]; congr 1; omega
      · rename_i hk
        rw [if_neg (by omega), if_neg (by omega), seg_get, if_pos hi]
  · rename_i hi
    rw [if_neg (by omega), if_neg (by omega), seg_get, if_neg hi]

theorem LR0.plain {s : S} {p : PV} {v : Value} (h : LR0 s p v) : sameLeaf v v = true := by
  cases p with
  | int k n => obtain rfl := h; simp [sameLeaf]
  | bool b => obtain rfl := h; simp [sameLeaf]
  | str b => obtain rfl := h; simp [sameLeaf]
  | nil => obtain rfl := h; simp [sameLeaf]
  | nilp => obtain rfl := h; simp [sameLeaf]
  | ro st t x =>
    have h' : Rep (s.NN st) s.H (.sl t) x [v] := h
    unfold Rep at h'
    rcases h' with ⟨_, e⟩ | ⟨_, _, _, e⟩ | ⟨_, _, _, e, _⟩ <;> (simp at e; subst e; simp [sameLeaf])
  | rp st t x => obtain ⟨z, o, k, rfl, r⟩ := id h; simp [sameLeaf]
  | osl b off n =>
    obtain ⟨_, r⟩ := id h
    split at r
    · rw [r.2.2]; simp [sameLeaf]
    · rw [r.2]; simp [sameLeaf]
  | ep b j fo => obtain ⟨_, m, _, rfl⟩ := id h; simp [sameLeaf]
  | ptr b off => obtain ⟨_, m, _, _, rfl⟩ := id h; simp [sameLeaf]
  | dp b off n u k => obtain ⟨_, m, _, _, rfl⟩ := id h; simp [sameLeaf]
  | hole => exact h.2
  | rw b i ver t x => obtain ⟨_, r, _⟩ := id h; rcases r with ⟨_, rfl⟩ | ⟨_, _, rfl⟩ <;> simp [sameLeaf]
  | rq b ver t x => obtain ⟨_, ⟨_, _, rfl⟩, _⟩ := id h; simp [sameLeaf]
  | fn f a b => exact absurd h id
  | agg cs => exact absurd h id
  | tup cs => exact absurd h id
  | undef => exact absurd h id

theorem Rep.plain {N : Nat → Prop} {H : Heap} : ∀ (t : Ty) {x : t.T} {cs : List Value}, Rep N H t x cs → ∀ v ∈ cs, sameLeaf v v = true
  | .int _, _, _, h => by unfold Rep at h; subst h; simp [sameLeaf]
  | .bool, _, _, h => by unfold Rep at h; subst h; simp [sameLeaf]
  | .str, _, _, h => by unfold Rep at h; subst h; simp [sameLeaf]
  | .sl t, _, _, h => by
    unfold Rep at h
    rcases h with ⟨_, rfl⟩ | ⟨_, _, _, rfl⟩ | ⟨_, _, _, rfl, _⟩ <;> simp [sameLeaf]
  | .os t, _, _, h => by unfold Rep at h; obtain ⟨v, rfl, hv⟩ := h; simpa using hv.2
  | .pair a b, _, cs, h => by
    unfold Rep at h
    intro v hv
    rw [← List.take_append_drop a.size cs] at hv
    rcases List.mem_append.1 hv with hv | hv
    · exact Rep.plain a h.1 v hv
    · exact Rep.plain b h.2 v hv

theorem LRs.plain {s : S} : ∀ {cs : List PV} {vs : List Value}, LRs s cs vs → ∀ v ∈ vs, sameLeaf v v = true
  | [], [], _, v, hv => by simp at hv
  | p :: cs, w :: vs, h, v, hv => by
    rcases List.mem_cons.1 hv with rfl | hv
    · exact h.1.plain
    · exact LRs.plain h.2 v hv
  | [], _ :: _, h, _, _ => by simp [LRs, All2] at h
  | _ :: _, [], h, _, _ => by simp [LRs, All2] at h

/-- A list of elements and their cells. -/
def RL (N : Nat → Prop) (H : Heap) (t : Ty) (xs : List t.T) (cells : List Value) : Prop :=
  cells.length = xs.length * t.size ∧ ∀ i (h : i < xs.length), Rep N H t xs[i] (seg cells (i * t.size) t.size)

theorem mul_lt {i n k : Nat} (h : i < n) : i * k + k ≤ n * k := by
  have := Nat.mul_le_mul_right k (show i + 1 ≤ n from h)
  rw [Nat.add_mul, Nat.one_mul] at this; exact this

theorem RL.append {N : Nat → Prop} {H : Heap} {t : Ty} {xs ys : List t.T} {c d : List Value} (h : RL N H t xs c) (g : RL N H t ys d) : RL N H t (xs ++ ys) (c ++ d) := by
  refine ⟨by simp [h.1, g.1, Nat.add_mul], fun i hi => ?_⟩
  rcases Nat.lt_or_ge i xs.length with hx | hx
  · have := h.2 i hx
    have e : seg (c ++ d) (i * t.size) t.size = seg c (i * t.size) t.size := by
      have := mul_lt (k := t.size) hx
      unfold seg
      rw [List.drop_append_of_le_length (by rw [h.1]; omega), List.take_append_of_le_length (by simp [h.1]; omega)]
    rw [e, List.getElem_append_left hx]; exact this
  · have hy : i - xs.length < ys.length := by simp at hi; omega
    have := g.2 (i - xs.length) hy
    have e : seg (c ++ d) (i * t.size) t.size = seg d ((i - xs.length) * t.size) t.size := by
      have hle : xs.length * t.size ≤ i * t.size := Nat.mul_le_mul_right _ hx
      unfold seg
      rw [List.drop_append, List.drop_of_length_le (by rw [h.1]; exact hle), h.1, ← Nat.sub_mul]
      simp
    rw [e, List.getElem_append_right hx]; exact this

theorem RL.frame {N M : Nat → Prop} {H G : Heap} {t : Ty} {xs : List t.T} {c : List Value} (r : RL N H t xs c) (h : ∀ z, N z → z < H.length → M z ∧ hget G z = hget H z) : RL M G t xs c :=
  ⟨r.1, fun i hi => Rep.frame h t (r.2 i hi)⟩

theorem RL.rep {N : Nat → Prop} {H : Heap} {t : Ty} : ∀ (n : Nat) {x : t.T} {c : List Value}, Rep N H t x c → RL N H t (List.replicate n x) ((List.replicate n c).flatten)
  | 0, x, c, _ => by simp [RL]
  | n + 1, x, c, h => by
    have h1 : RL N H t [x] c := by
      have hl := Rep.len _ h
      refine ⟨by simp [hl], fun i hi => ?_⟩
      simp at hi; subst hi
      simp only [List.getElem_cons_zero, Nat.zero_mul]
      have : seg c 0 t.size = c := by unfold seg; rw [List.drop_zero, List.take_of_length_le (by omega)]
      rw [this]; exact h
    have := h1.append (RL.rep n h)
    simpa [List.replicate_succ] using this

theorem RL.set {N : Nat → Prop} {H : Heap} {t : Ty} {xs : List t.T} {c : List Value} (r : RL N H t xs c) {i : Nat} (hi : i < xs.length) {x : t.T} {d : List Value} (h : Rep N H t x d) : RL N H t (xs.set i x) (lay c (i * t.size) d) := by
  have hl := Rep.len _ h
  have hm := mul_lt (k := t.size) hi
  refine ⟨by rw [lay_len _ _ _ (by rw [hl, r.1]; omega)]; simp [r.1], fun j hj => ?_⟩
  simp at hj
  by_cases e : i = j
  · subst e
    rw [lay_seg_in _ _ _ _ _ (Nat.le_refl _) (by omega) (by rw [r.1]; omega)]
    simp only [List.getElem_set_self, Nat.sub_self]
    have : lay (seg c (i * t.size) t.size) 0 d = d := by
      unfold lay; simp only [List.take_zero, List.nil_append, Nat.zero_add]
      rw [List.drop_of_length_le (by rw [seg_len _ _ _ (by rw [r.1]; omega)]; omega)]; simp
    rw [this]; exact h
  · have hmj := mul_lt (k := t.size) hj
    have hd : j * t.size + t.size ≤ i * t.size ∨ i * t.size + d.length ≤ j * t.size := by
      rcases Nat.lt_or_ge i j with h1 | h1
      · right; rw [hl]; exact mul_lt h1
      · left; exact mul_lt (by omega)
    rw [lay_seg_out _ _ _ (by rw [hl, r.1]; omega) _ _ hd]
    rw [List.getElem_set_ne e]; exact r.2 j hj

theorem RL.ofBlk {N : Nat → Prop} {H : Heap} {t : Ty} {xs : List t.T} {c : List Value} {sh : Nat} (h1 : sh + xs.length * t.size ≤ c.length) (h2 : ∀ i (h : i < xs.length), Rep N H t xs[i] ((c.drop (sh + i * t.size)).take t.size)) : RL N H t xs ((c.drop sh).take (xs.length * t.size)) := by
  refine ⟨by simp; omega, fun i hi => ?_⟩
  have := h2 i hi
  have hm := mul_lt (k := t.size) hi
  unfold seg; rw [List.drop_take, List.take_take, Nat.min_eq_left (by omega), List.drop_drop]; exact this

theorem RL.plain {N : Nat → Prop} {H : Heap} {t : Ty} {xs : List t.T} {c : List Value} (r : RL N H t xs c) : ∀ v ∈ c, sameLeaf v v = true := by
  intro v hv
  obtain ⟨i, hi, ei⟩ := List.getElem_of_mem hv
  have hpos := Ty.size_pos t
  have hq : i / t.size < xs.length := by
    rw [Nat.div_lt_iff_lt_mul hpos, ← r.1]; exact hi
  refine Rep.plain _ (r.2 _ hq) v ?_
  have hmod := Nat.mod_lt i hpos
  have hdm := Nat.div_add_mod i t.size
  refine List.mem_iff_getElem?.2 ⟨i % t.size, ?_⟩
  rw [seg_get, if_pos hmod, show i / t.size * t.size + i % t.size = i by rw [Nat.mul_comm]; exact hdm, List.getElem?_eq_getElem hi, ei]
theorem lay_mem {c d : List Value} {o : Nat} {v : Value} (h : v ∈ lay c o d) : v ∈ c ∨ v ∈ d := by
  unfold lay at h
  simp only [List.mem_append] at h
  rcases h with (h | h) | h
  · exact .inl (List.mem_of_mem_take h)
  · exact .inr h
  · exact .inl (List.mem_of_mem_drop h)
theorem lay_drop {c d : List Value} {sh p : Nat} (h : sh + p + d.length ≤ c.length) : (lay c (sh + p) d).drop sh = lay (c.drop sh) p d := by
  apply List.ext_getElem?; intro i
  rw [List.getElem?_drop, lay_get _ _ _ (by omega), lay_get _ _ _ (by simp; omega)]
  by_cases c2 : i < p
  · rw [if_pos (by omega), if_pos c2, List.getElem?_drop]
  · rw [if_neg (by omega), if_neg c2]
    by_cases c3 : i < p + d.length
    · rw [if_pos (by omega), if_pos c3]; congr 1; omega
    · rw [if_neg (by omega), if_neg c3, List.getElem?_drop]
theorem Fit.lay {c d : List Value} {sh p n : Nat} (h : Fit sh n c) (hp : sh + p + d.length ≤ c.length) (hd : ∀ v ∈ d, sameLeaf v v = true) : Fit sh n (lay c (sh + p) d) := by
  refine ⟨by rw [lay_len _ _ _ (by omega)]; exact h.1, fun v hv => ?_⟩
  rw [lay_drop hp] at hv
  rcases lay_mem hv with hv | hv
  · exact h.2 v hv
  · exact hd v hv
theorem Fit.sub {c : List Value} {sh n p q : Nat} (h : Fit sh n c) (hq : p + q ≤ n) : Fit (sh + p) q c := by
  have := h.1
  refine ⟨by omega, fun v hv => h.2 v ?_⟩
  rw [← List.drop_drop] at hv
  exact List.mem_of_mem_drop hv

theorem lay_win {c d : List Value} {sh p L : Nat} (h1 : sh + L ≤ c.length) (h2 : p + d.length ≤ L) : ((lay c (sh + p) d).drop sh).take L = lay ((c.drop sh).take L) p d := by
  apply List.ext_getElem?; intro i
  have hl : ((c.drop sh).take L).length = L := by simp; omega
  rw [List.getElem?_take, lay_get _ _ _ (by omega)]
  by_cases c1 : i < L
  · rw [if_pos c1, List.getElem?_drop, lay_get _ _ _ (by omega)]
    by_cases c2 : i < p
    · rw [if_pos (by omega), if_pos c2, List.getElem?_take, if_pos c1, List.getElem?_drop]
    · rw [if_neg (by omega), if_neg c2]
      by_cases c3 : i < p + d.length
      · rw [if_pos (by omega), if_pos c3]; congr 1; omega
      · rw [if_neg (by omega), if_neg c3, List.getElem?_take, if_pos c1, List.getElem?_drop]
  · rw [if_neg c1, if_neg (by omega), if_neg (by omega), List.getElem?_take, if_neg c1]
theorem lay_part {D d : List Value} {p fo z : Nat} (h1 : p + z ≤ D.length) (h2 : fo + d.length ≤ z) : lay D (p + fo) d = lay D p (lay (seg D p z) fo d) := by
  have hs : (seg D p z).length = z := seg_len _ _ _ h1
  have hl : (lay (seg D p z) fo d).length = z := by rw [lay_len _ _ _ (by omega)]; exact hs
  apply List.ext_getElem?; intro i
  rw [lay_get _ _ _ (by omega), lay_get _ _ _ (by omega), hl]
  by_cases c1 : i < p
  · rw [if_pos (by omega), if_pos c1]
  · rw [if_neg c1]
    by_cases c2 : i < p + z
    · rw [if_pos c2, lay_get _ _ _ (by omega)]
      by_cases c3 : i - p < fo
      · rw [if_pos (by omega), if_pos c3, seg_get, if_pos (by omega)]; congr 1; omega
      · rw [if_neg (by omega), if_neg c3]
        by_cases c4 : i - p < fo + d.length
        · rw [if_pos (by omega), if_pos c4]; congr 1; omega
        · rw [if_neg (by omega), if_neg c4, seg_get, if_pos (by omega)]; congr 1; omega
    · rw [if_neg (by omega), if_neg (by omega), if_neg c2]
theorem RL.sub {N : Nat → Prop} {H : Heap} {t : Ty} {xs : List t.T} {c : List Value} {sh off n : Nat} (h1 : sh + xs.length * t.size ≤ c.length) (h2 : ∀ i (h : i < xs.length), Rep N H t xs[i] ((c.drop (sh + i * t.size)).take t.size)) (h : off + n ≤ xs.length) : RL N H t ((xs.drop off).take n) ((c.drop (sh + off * t.size)).take (n * t.size)) := by
  have hm : (off + n) * t.size ≤ xs.length * t.size := Nat.mul_le_mul_right _ h
  rw [Nat.add_mul] at hm
  have hn : ((xs.drop off).take n).length = n := by simp; omega
  refine ⟨by rw [hn]; simp; omega, fun i hi => ?_⟩
  rw [hn] at hi
  have := h2 (off + i) (by omega)
  have hmi := mul_lt (k := t.size) hi
  rw [List.getElem_take, List.getElem_drop]
  unfold seg; rw [List.drop_take, List.take_take, Nat.min_eq_left (by omega), List.drop_drop]
  rw [Nat.add_mul] at this
  rw [show sh + off * t.size + i * t.size = sh + (off * t.size + i * t.size) by omega]; exact this

theorem RL.drop {N : Nat → Prop} {H : Heap} {t : Ty} {xs : List t.T} {c : List Value} (r : RL N H t xs c) (k : Nat) (hk : k ≤ xs.length) : RL N H t (xs.drop k) (c.drop (k * t.size)) := by
  refine ⟨by simp [r.1, Nat.sub_mul], fun i hi => ?_⟩
  simp at hi
  have := r.2 (k + i) (by omega)
  rw [List.getElem_drop]
  have e : seg (c.drop (k * t.size)) (i * t.size) t.size = seg c ((k + i) * t.size) t.size := by
    unfold seg; rw [List.drop_drop, Nat.add_mul]
  rw [e]; exact this

theorem RL.take {N : Nat → Prop} {H : Heap} {t : Ty} {xs : List t.T} {c : List Value} (r : RL N H t xs c) (k : Nat) (hk : k ≤ xs.length) : RL N H t (xs.take k) (c.take (k * t.size)) := by
  have hm : k * t.size ≤ xs.length * t.size := Nat.mul_le_mul_right _ hk
  refine ⟨by simp [r.1, Nat.min_eq_left hk], fun i hi => ?_⟩
  simp at hi
  have := r.2 i (by omega)
  rw [List.getElem_take]
  have hm2 := mul_lt (k := t.size) (show i < k by omega)
  have e : seg (c.take (k * t.size)) (i * t.size) t.size = seg c (i * t.size) t.size := by
    unfold seg; rw [List.drop_take, List.take_take, Nat.min_eq_left (by omega)]
  rw [e]; exact this

theorem goZ_rep {N : Nat → Prop} {H : Heap} {s : S} : ∀ (t : Ty) {l : List PV} {vs : List Value}, goZ t l = true → LRs s l vs → Rep N H t (zeroT t) vs
  | .int k, l, vs, h, hr => by
    unfold goZ at h
    split at h
    · simp only [Bool.and_eq_true, decide_eq_true_eq, beq_iff_eq] at h
      obtain ⟨rfl, rfl⟩ := h
      obtain ⟨v, rfl, hv⟩ := hr.one
      obtain rfl := hv
      unfold Rep zeroT; rfl
    · simp at h
  | .bool, l, vs, h, hr => by
    unfold goZ at h
    split at h
    · simp at h; subst h
      obtain ⟨v, rfl, hv⟩ := hr.one
      obtain rfl := hv
      unfold Rep zeroT; rfl
    · simp at h
  | .str, l, vs, h, hr => by
    unfold goZ at h
    split at h
    · rename_i b
      obtain ⟨v, rfl, hv⟩ := hr.one
      obtain rfl := hv
      unfold Rep zeroT
      have : b = ⟨#[]⟩ := by
        obtain ⟨⟨d⟩⟩ := b
        simp [List.isEmpty_iff] at h; subst h; rfl
      rw [this]
    · simp at h
  | .sl t, l, vs, h, hr => by
    unfold goZ at h
    split at h
    · obtain ⟨v, rfl, hv⟩ := hr.one
      obtain rfl := hv
      unfold Rep zeroT; exact .inl ⟨rfl, rfl⟩
    · simp at h
  | .pair a b, l, vs, h, hr => by
    unfold goZ at h
    simp only [Bool.and_eq_true] at h
    unfold zeroT
    exact Rep.pairMk (goZ_rep a h.1 (All2.take _ hr)) (goZ_rep b h.2 (All2.drop _ hr))

theorem zeroOk_rep {N : Nat → Prop} {H : Heap} (s : S) {z : Value} {t : Ty} (h : zeroOk z t = true) : Rep N H t (zeroT t) z.cells.toList := by
  unfold zeroOk at h
  split at h
  · rename_i l hl
    exact goZ_rep t h (ofCs_rel (s := s) hl).1
  · simp at h

section
variable {A : AnnV} {β γ : Type} {s : S} {env : PEnv} {e : Env} {X : CxV A β} {XE : Cx} {o : Oper} {KV : PV → LS → Option β} {KE : Value → Heap → Option γ} {r : β} {Q : γ → Prop}

/-- A typed value is loaded. -/
theorem load_typed {t : TypeId} {i : TypeInfo} {z : Value} {w : Ty} {st zz oo : Nat} {k : Blk} {y : w.T} (hi : XE.P.info? t = some i) (hz : i.zero = some z) (hw : tyG XE.P 8 t = some w) (hsz : w.size = i.size)
    (hk : hget s.H zz = some k) (hle : oo + w.size ≤ k.cells.length) (hr : Rep (s.NN st) s.H w y ((k.cells.drop oo).take w.size)) (hf : fitA z (wrapV w (reify st w y)) = true) (hs : StR s) (hK : KOk s r KV KE Q) (h : KV (wrapV w (reify st w y)) s.L = some r) :
    ∃ q, (obind (XE.P.info? t) fun i => match XE.P.underlying t with
      | some (.struct _) | some (.array _ _) => obind (hloadN s.H ⟨zz, oo, none⟩ i.size) fun l => match i.zero with
        | some z => viewA z (.agg l.toArray) fun u => KE u s.H
        | none => none
      | some _ => obind (hload s.H ⟨zz, oo, none⟩) fun u => match i.zero with
        | some z => viewL z u fun u => KE u s.H
        | none => none
      | none => none) = some q ∧ Q q := by
  have hlen := Rep.len _ hr
  rw [hi]; simp only [obind]
  rcases tyG_pair hw with ⟨d, a, b, hu, hd, rfl⟩ | ⟨d, hu, hd1, hd2, hnp⟩
  · have hld : hloadN s.H ⟨zz, oo, none⟩ i.size = some ((k.cells.drop oo).take i.size) := by
      unfold hloadN; simp only [hk, obind]
      have : Nat.ble (oo + i.size) k.cells.length = true := Nat.ble_eq_true_of_le (by omega)
      rw [this]
    rw [hsz] at hr
    have ha : AR s (wrapV (.pair a b) (reify st (.pair a b) y)) (.agg ((k.cells.drop oo).take i.size).toArray) := wrap_rel (t := .pair a b) rfl hr
    rcases hd with ⟨fs, rfl⟩ | ⟨n, e, rfl⟩
    · rw [hu]
      simp only [hld, hz]
      rw [fitA_view ha hf]
      exact hK.here hs (ER.of ha) h
    · rw [hu]
      simp only [hld, hz]
      rw [fitA_view ha hf]
      exact hK.here hs (ER.of ha) h
  · have hone : w.size = 1 := by cases w <;> first | rfl | exact absurd rfl (hnp _ _)
    obtain ⟨u, hu1⟩ : ∃ u, (k.cells.drop oo).take w.size = [u] := by
      match hc : (k.cells.drop oo).take w.size with
      | [u] => exact ⟨u, rfl⟩
      | [] => rw [hc] at hlen; simp at hlen; omega
      | _ :: _ :: _ => rw [hc] at hlen; simp at hlen; omega
    have hld : hload s.H ⟨zz, oo, none⟩ = some u := by
      unfold hload; simp only [hk, obind]
      have : ((k.cells.drop oo).take w.size)[0]? = some u := by rw [hu1]; rfl
      rw [List.getElem?_take_of_lt (by omega), List.getElem?_drop] at this; simpa using this
    have ha : AR s (wrapV w (reify st w y)) u := by
      refine wrap_rel (cs := [u]) ?_ (by rw [← hu1]; exact hr)
      cases w <;> first | rfl | exact absurd rfl (hnp _ _)
    have hv : viewL z u (fun u => KE u s.H) = KE u s.H := by
      refine fitL_view ha ?_ _
      have hna : ∀ cs, wrapV w (reify st w y) ≠ .agg cs := by
        intro cs; cases w <;> first | exact absurd rfl (hnp _ _) | (simp [wrapV, reify])
      unfold fitA at hf; split at hf
      · rename_i e1; exact absurd e1 (hna _)
      · simp at hf
      · exact hf
    rw [hu]
    cases d <;> first | exact absurd rfl (hd1 _) | exact absurd rfl (hd2 _ _) | (simp only [hld, hz]; rw [hv]; exact hK.here hs (ER.of ha) h)

theorem NN_of_N {z : Nat} (h : s.N z) : s.NN s.L.clk z := S.NN_clk h

theorem aggK_eq {δ : Type} {b ver : Nat} {u : Ty} {xs : List (List u.T)} : ∀ (n i : Nat) (K : List PV → Option δ), aggK b ver u xs i n K = obind (aggR b ver u xs i n) K
  | 0, i, K => rfl
  | n + 1, i, K => by
    simp only [aggK, aggR]
    cases xs[i]? with
    | none => rfl
    | some x =>
      simp only [obind]
      rw [aggK_eq n (i + 1)]
      cases aggR b ver u xs (i + 1) n <;> rfl

theorem aggR_rel {b ver : Nat} {rw' : Bool} {u : Ty} {xs : List (List u.T)} {ho : Option Nat} {m : MB} {k : Blk} (hlb : b < s.L.bl.length) (hb : lget s.L b = some ⟨ver, rw', .rows u xs ho⟩) (hfl : u.flat = true) (hm : s.μ b = some m) (hk : hget s.H m.z = some k) (hsh : m.sh = 0)
    (hr : ∀ i (hi : i < xs.length), ∃ v, k.cells[i]? = some v ∧ RowC (fun z => s.Kid z = some (b, i)) s.H s.lim u xs[i] v) : ∀ {n i : Nat} {l : List PV}, aggR b ver u xs i n = some l → (n = 0 ∨ i + n ≤ xs.length) ∧ LRs s l ((k.cells.drop i).take n)
  | 0, i, l, h => by
    simp [aggR] at h; subst h
    exact ⟨.inl rfl, by simp [LRs, All2]⟩
  | n + 1, i, l, h => by
    simp only [aggR] at h
    replace h := ob h; obtain ⟨x, h1, h⟩ := h
    replace h := ob h; obtain ⟨l', h2, h⟩ := h
    simp at h; subst h
    obtain ⟨hi, ei⟩ := List.getElem?_eq_some_iff.1 h1
    obtain ⟨g1, g2⟩ := aggR_rel hlb hb hfl hm hk hsh hr h2
    obtain ⟨v, q1, q2⟩ := hr i hi
    rw [ei] at q2
    obtain ⟨hci, eci⟩ := List.getElem?_eq_some_iff.1 q1
    refine ⟨.inr (by omega), ?_⟩
    rw [List.drop_eq_getElem_cons hci, eci, List.take_succ_cons]
    refine ⟨⟨hlb, q2.sl, fun B hB => ?_⟩, g2⟩
    rw [hb] at hB; injection hB with hB; subst hB
    refine ⟨Nat.le_refl _, fun _ => ⟨hfl, q2, ?_⟩⟩
    intro B2 e2 xs2 hh2 m2 k2 f1 f2 f3 f4 y gy
    rw [hb] at f1; injection f1 with f1; subst f1
    injection f2 with f21 f22 f23
    subst f21
    replace f22 := eq_of_heq f22; subst f22
    rw [hm] at f3; injection f3 with f3; subst f3
    rw [hk] at f4; injection f4 with f4; subst f4
    rw [h1] at gy; injection gy with gy; subst gy
    refine ⟨Nat.le_refl _, fun _ => ?_⟩
    rw [hsh, Nat.zero_add]; exact q1

theorem sim_load {t : TypeId} {a : Operand} (hP : X.P = XE.P) (ho : o.op = .load t a) (hs : StR s) (he : EnvR s env e) (hK : KOk s r KV KE Q) (h : vop X o env s.L KV = some r) : ∃ y, evOp XE o e s.H KE = some y ∧ Q y := by
  simp only [vop, ho] at h; simp only [evOp, ho]
  split at h
  · rename_i v hg
    unfold gReadV at hg
    split at hg
    · rename_i w hw
      rw [← hP, hw]
      exact hK v w s (Keep.refl s) hs (ofC_rel hg).1 h
    · simp at hg
  replace h := ob h; obtain ⟨p, h1, h⟩ := h
  replace h := ob h; obtain ⟨i, h2, h⟩ := h
  replace h := ob h; obtain ⟨z, h3, h⟩ := h
  obtain ⟨v, e1, r1⟩ := pev_rel he h1
  rw [gRead_ev e1]
  rw [e1]; simp only [obind]
  rw [hP] at h2
  split at h
  · simp at h
  · rename_i d hu
    split at h
    · rename_i st u x
      replace h := ob h; obtain ⟨w, h4, h⟩ := h
      replace h := ob h; obtain ⟨y, h5, h⟩ := h
      split at h
      · rename_i hf hsz
        have e5 := tcast_eq h5; subst e5
        have := tcast_self h5; subst this
        obtain ⟨zz, oo, k, rfl, hn, hk, hl, hr⟩ := r1
        simp only [ptrS]
        rw [hP] at h4
        exact load_typed h2 h3 h4 (Nat.eq_of_beq_eq_true hsz) hk hl hr hf hs hK h
      · simp at h
    · rename_i b j fo
      split at h
      · rename_i ver rw u xs hb
        replace h := ob h; obtain ⟨w, h4, h⟩ := h
        replace h := ob h; obtain ⟨x, h5, h⟩ := h
        replace h := ob h; obtain ⟨y, h6, h⟩ := h
        split at h
        · rename_i hf hsz
          obtain ⟨hlb, m, hm, rfl⟩ := r1
          simp only [ptrS]
          rw [hP] at h4
          obtain ⟨a1, a2, k, a3, a4, a5, a6, a7⟩ := arr_info hs hb hm
          obtain ⟨hj, ej⟩ := List.getElem?_eq_some_iff.1 h5
          have hrep := a5 j hj
          rw [ej] at hrep
          obtain ⟨g1, g2⟩ := sub_rep _ _ h6 hrep
          have hm2 := mul_lt (k := u.size) hj
          refine load_typed (st := s.L.clk) (zz := m.z) (oo := m.sh + j * m.es + fo) h2 h3 h4 (Nat.eq_of_beq_eq_true hsz) a3 (by rw [a1]; omega) ?_ hf hs hK h
          have : (((k.cells.drop (m.sh + j * u.size)).take u.size).drop fo).take w.size = (k.cells.drop (m.sh + j * m.es + fo)).take w.size := by
            rw [List.drop_take, List.take_take, Nat.min_eq_left (by omega), List.drop_drop, a1]
          rw [this] at g1
          exact Rep.mono (fun z hz => NN_of_N hz) w g1
        · simp at h
      · rename_i ver u xs hb
        replace h := ob h; obtain ⟨w, h4, h⟩ := h
        replace h := ob h; obtain ⟨x, h5, h⟩ := h
        split at h
        · rename_i hf hsz
          simp only [Bool.and_eq_true] at hsz
          have hfo := Nat.eq_of_beq_eq_true hsz.1
          subst hfo
          have hw := Ty.beq_eq hsz.2
          subst hw
          obtain ⟨hlb, m, hm, rfl⟩ := r1
          simp only [ptrS]
          rw [hP] at h4 hu
          obtain ⟨hj, ej⟩ := List.getElem?_eq_some_iff.1 h5
          obtain ⟨_, hfl, ⟨hm0, rfl⟩ | ⟨m', k, hm', a1, a2, a3, a4, a5, a6, a7⟩⟩ := rows_info hs hb
          · simp at hj
          rw [hm] at hm'; injection hm' with hm'; subst hm'
          obtain ⟨v, q1, q2⟩ := a7 j hj (by simp)
          rw [ej] at q2
          have hld : hload s.H ⟨m.z, m.sh + j * m.es + 0, none⟩ = some v := by
            unfold hload; simp only [a3, obind, a1, Nat.mul_one, Nat.add_zero]; exact q1
          have whole : WholeC s b j x.length v := by
            intro B2 e2 xs2 hh2 m2 k2 g1 g2 g3 g4 y gy
            rw [hb] at g1; injection g1 with g1; subst g1
            injection g2 with g21 g22 g23
            subst g21
            replace g22 := eq_of_heq g22; subst g22
            rw [hm] at g3; injection g3 with g3; subst g3
            rw [a3] at g4; injection g4 with g4; subst g4
            rw [h5] at gy; injection gy with gy; subst gy
            refine ⟨Nat.le_refl _, fun _ => ?_⟩
            exact q1
          have hrw : LR0 s (.rw b j ver u x) v := ⟨hlb, q2.sl, fun B hB => by rw [hb] at hB; injection hB with hB; subst hB; exact ⟨Nat.le_refl _, fun _ => ⟨hfl, q2, whole⟩⟩⟩
          have hv : viewL z v (fun u => KE u s.H) = KE v s.H := by
            refine fitL_view (AR.of hrw) ?_ _
            unfold fitA at hf; split at hf
            · rename_i e1; simp at e1
            · simp at hf
            · exact hf
          rcases tyG_pair h4 with ⟨d', a, b', hu', hd, e⟩ | ⟨d', hu', hd1, hd2, _⟩
          · simp at e
          · rw [h2, hu']; simp only [obind]
            cases d' <;> first | exact absurd rfl (hd1 _) | exact absurd rfl (hd2 _ _) | (simp only [hld, h3]; rw [hv]; exact hK.here hs (ER.of0 hrw) h)
        · simp at h
      · simp at h
    · rename_i b ver u x
      split at h
      · rename_i v' t' xs' h' hb
        split at h
        · rename_i hv
          have hv := Nat.eq_of_beq_eq_true hv
          replace h := ob h; obtain ⟨w, h4, h⟩ := h
          replace h := ob h; obtain ⟨y, h7, h⟩ := h
          split at h
          · rename_i hf hsz
            simp only [Bool.and_eq_true] at hsz
            have e7 := tcast_eq h7; subst e7
            have := tcast_self h7; subst this
            obtain ⟨hlb, ⟨z0, o0, rfl⟩, hval⟩ := r1
            obtain ⟨z', o', k, j, e1, g1, g2, g3, g4⟩ := (hval _ hb).2 hv
            injection e1 with e1; injection e1 with e1; injection e1 with e1 e2 _; subst e1 e2
            simp only [ptrS]
            rw [hP] at h4
            exact load_typed (st := s.L.clk) h2 h3 h4 (Nat.eq_of_beq_eq_true hsz.1) g2 (by omega) (Rep.flat u hsz.2 g4) hf hs hK h
          · simp at h
        · simp at h
      · simp at h
    · rename_i b off
      split at h
      · rename_i ver rw cs hb
        obtain ⟨hlb, m, hm, hsh, rfl⟩ := r1
        have hB := hs.blk b _ hb
        unfold BR at hB; simp only at hB
        obtain ⟨_, m', k, hm', _, hk, hcs, hro, hlim⟩ := hB
        rw [hm] at hm'; injection hm' with hm'; subst hm'
        have hl := All2.length hcs
        simp only [ptrS, h2, obind]
        rw [hP] at hu
        split at h
        · rename_i fs
          split at h
          · rename_i hle hf
            have hle := Nat.le_of_ble_eq_true hle
            rw [hu]
            have hld : hloadN s.H ⟨m.z, off, none⟩ i.size = some ((k.cells.drop off).take i.size) := by
              unfold hloadN; simp only [hk, obind]
              have : Nat.ble (off + i.size) k.cells.length = true := Nat.ble_eq_true_of_le (by omega)
              rw [this]
            simp only [hld, h3]
            have ha : AR s (.agg ((cs.drop off).take i.size)) (.agg ((k.cells.drop off).take i.size).toArray) := ⟨_, rfl, All2.take _ (All2.drop _ hcs)⟩
            rw [fitA_view ha hf]
            exact hK.here hs (ER.of ha) h
          · simp at h
        · rename_i nn ee
          split at h
          · rename_i hle hf
            have hle := Nat.le_of_ble_eq_true hle
            rw [hu]
            have hld : hloadN s.H ⟨m.z, off, none⟩ i.size = some ((k.cells.drop off).take i.size) := by
              unfold hloadN; simp only [hk, obind]
              have : Nat.ble (off + i.size) k.cells.length = true := Nat.ble_eq_true_of_le (by omega)
              rw [this]
            simp only [hld, h3]
            have ha : AR s (.agg ((cs.drop off).take i.size)) (.agg ((k.cells.drop off).take i.size).toArray) := ⟨_, rfl, All2.take _ (All2.drop _ hcs)⟩
            rw [fitA_view ha hf]
            exact hK.here hs (ER.of ha) h
          · simp at h
        · rename_i hd2 hd
          replace h := ob h; obtain ⟨u, h5, h⟩ := h
          split at h
          · rename_i hf
            obtain ⟨w, g1, g2⟩ := All2.get _ hcs h5
            have hld : hload s.H ⟨m.z, off, none⟩ = some w := by
              unfold hload; simp only [hk, obind]; exact g1
            have hv : viewL z w (fun u => KE u s.H) = KE w s.H := fitL_view (AR.of g2) hf _
            rw [hu]
            cases d <;> first | exact absurd rfl (hd2 _) | exact absurd rfl (hd _ _) | (simp only [hld, h3]; rw [hv]; exact hK.here hs (ER.of0 g2) h)
          · simp at h
      · rename_i ver u xs hb
        split at h
        · rename_i n ee
          rw [aggK_eq] at h
          replace h := ob h; obtain ⟨l, h4, h⟩ := h
          split at h
          · rename_i hf hc
            simp only [Bool.and_eq_true] at hc
            have ho := Nat.eq_of_beq_eq_true hc.1
            have hsz := Nat.eq_of_beq_eq_true hc.2
            subst ho
            obtain ⟨hlb, m, hm, hsh, rfl⟩ := r1
            obtain ⟨_, hfl, hrow⟩ := rows_info hs hb
            simp only [ptrS, h2, obind]
            rw [hP] at hu
            rw [hu]
            rcases hrow with ⟨hm0, _⟩ | ⟨m', k, hm', a1, a2, a3, a4, a5, a6, a7⟩
            · rw [hm] at hm0; simp at hm0
            rw [hm] at hm'; injection hm' with hm'; subst hm'
            rw [hsh] at a4 a7
            obtain ⟨hn, hll⟩ := aggR_rel hlb hb hfl hm a3 hsh (fun i hi => by have := a7 i hi (by simp); rw [Nat.zero_add] at this; exact this) h4
            have hle : n ≤ k.cells.length := by
              have := a4.1; omega
            have hld : hloadN s.H ⟨m.z, 0, none⟩ i.size = some (k.cells.take i.size) := by
              unfold hloadN; simp only [a3, obind]
              have : Nat.ble (0 + i.size) k.cells.length = true := Nat.ble_eq_true_of_le (by omega)
              rw [this]; simp
            simp only [hld, h3]
            have ha : AR s (.agg l) (.agg (k.cells.take i.size).toArray) := ⟨_, rfl, by rw [hsz]; simpa using hll⟩
            rw [fitA_view ha hf]
            exact hK.here hs (ER.of ha) h
          · simp at h
        · simp at h
      · simp at h
    · rename_i b off n u k0
      split at h
      · rename_i ver rw' cs hb
        replace h := ob h; obtain ⟨w, h4, h⟩ := h
        replace h := ob h; obtain ⟨xs, h5, h⟩ := h
        replace h := ob h; obtain ⟨x, h6, h⟩ := h
        replace h := ob h; obtain ⟨y, h7, h⟩ := h
        split at h
        · rename_i hf hsz
          simp only [Bool.and_eq_true] at hsz
          have e7 := tcast_eq h7; subst e7
          have := tcast_self h7; subst this
          obtain ⟨hlb, m, hm, hsh, rfl⟩ := r1
          simp only [ptrS]
          rw [hP] at h4
          have hB := hs.blk b _ hb
          unfold BR at hB; simp only at hB
          obtain ⟨_, m', k, hm', _, hk, hcs, hro, hlim⟩ := hB
          rw [hm] at hm'; injection hm' with hm'; subst hm'
          obtain ⟨g1, g2, g3⟩ := reflN_any hs u (All2.drop off hcs) h5
          obtain ⟨hk0, ek⟩ := List.getElem?_eq_some_iff.1 h6
          have hrep := g3 k0 hk0
          rw [ek, List.drop_drop] at hrep
          have hm2 := mul_lt (k := u.size) hk0
          rw [g1] at hm2
          simp only [List.length_drop] at g2
          have hpos := Ty.size_pos u
          exact load_typed (st := s.L.clk) h2 h3 h4 (Nat.eq_of_beq_eq_true hsz.1) hk (by omega) (Rep.flat u hsz.2 hrep) hf hs hK h
        · simp at h
      · simp at h
    · simp at h

end
end Go.Pv
