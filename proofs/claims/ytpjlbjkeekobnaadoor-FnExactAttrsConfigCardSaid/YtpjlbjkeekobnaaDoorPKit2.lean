/-
  The kit for programs by value, second part: loops (by measure, by equation, over a list), indices, what a loop over a list gives.
  Conditions: none.
-/
import Derived.Test.YtpjlbjkeekobnaaDoorPKit
set_option linter.all false
namespace Go.Pv
open Go.Ev

theorem oif_t {α : Type} {x y : Option α} : oif true x y = x := rfl
theorem oif_f {α : Type} {x y : Option α} : oif false x y = y := rfl
theorem oif_ss {α : Type} {b : Bool} {x y : α} : oif b (some x) (some y) = some (if b then x else y) := by cases b <;> rfl
theorem oif_same {α : Type} {b : Bool} {x : Option α} : oif b x x = x := by cases b <;> rfl
theorem ob_s {α β : Type} (a : α) (f : α → Option β) : obind (some a) f = f a := (rfl)
theorem oif_ite {α : Type} {b : Bool} {x y : Option α} : oif b x y = if b = true then x else y := by cases b <;> rfl
theorem ob_oif {α β : Type} {b : Bool} {x y : Option α} {f : α → Option β} : obind (oif b x y) f = oif b (obind x f) (obind y f) := by cases b <;> rfl
theorem ob_ob {α β γ : Type} {x : Option α} {f : α → Option β} {g : β → Option γ} : obind (obind x f) g = obind x fun a => obind (f a) g := by cases x <;> rfl

/-- A loop by its measure. -/
theorem iter_ok {σ β : Type} {F : (σ → Option β) → σ → Option β} {Q : β → Prop} (I : Nat → σ → Prop)
    (step : ∀ n s ag, I n s → (∀ m s', m < n → I m s' → Ok (ag s') Q) → Ok (F ag s) Q) : ∀ (fuel n : Nat) (s : σ), n < fuel → I n s → Ok (iterP F fuel s) Q
  | 0, n, s, h, _ => by omega
  | fuel + 1, n, s, h, hi => step n s _ hi fun m s' hm hi' => iter_ok I step fuel m s' (by omega) hi'

/-- A loop by an equation. -/
theorem iter_eq {σ β : Type} {F : (σ → Option β) → σ → Option β} (R : σ → Option β) (m : σ → Nat) (I : σ → Prop)
    (step : ∀ s ag, I s → (∀ s', I s' → m s' < m s → ag s' = R s') → F ag s = R s) : ∀ (fuel : Nat) (s : σ), I s → m s < fuel → iterP F fuel s = R s
  | 0, s, _, h => by omega
  | fuel + 1, s, hi, h => step s _ hi fun s' hi' hm => iter_eq R m I step fuel s' hi' (by omega)

theorem List.sum_nonneg' : ∀ (l : List Int), (∀ x ∈ l, 0 ≤ x) → 0 ≤ l.sum
  | [], _ => by simp
  | x :: r, h => by
    have h1 := h x (by simp)
    have h2 := List.sum_nonneg' r (fun y hy => h y (by simp [hy]))
    simp only [List.sum_cons]; omega

theorem le_sum : ∀ {l : List Int}, (∀ x ∈ l, 0 ≤ x) → ∀ {x : Int}, x ∈ l → x ≤ l.sum
  | [], _, _, h => by simp at h
  | y :: r, h, x, hx => by
    have h1 := h y (by simp)
    have h2 := List.sum_nonneg' r (fun z hz => h z (by simp [hz]))
    simp only [List.sum_cons]
    rcases List.mem_cons.1 hx with rfl | hx
    · omega
    · have := le_sum (fun z hz => h z (by simp [hz])) hx; omega

/-- A search by halves for the first place from which on something holds. -/
theorem search_ok {β : Type} {F : (Int × Int → Option β) → Int × Int → Option β} {c top : Int} {K : Int → Option β}
    (h : ∀ ag lo hi, 0 ≤ lo → hi ≤ top → lo ≤ hi → F ag (lo, hi) = if c ≤ (lo + hi) / 2 then ag (lo, (lo + hi) / 2 - 1) else ag ((lo + hi) / 2 + 1, hi))
    (h2 : ∀ ag lo hi, 0 ≤ lo → hi < lo → F ag (lo, hi) = K lo) :
    ∀ (fuel : Nat) (lo hi : Int), 0 ≤ lo → hi ≤ top → lo ≤ c → c ≤ hi + 1 → (hi + 1 - lo).toNat < fuel → iterP F fuel (lo, hi) = K c
  | 0, lo, hi, _, _, _, _, hf => by omega
  | fuel + 1, lo, hi, h0, ht, h1, h3, hf => by
    simp only [iterP]
    by_cases hc : lo ≤ hi
    · rw [h _ lo hi h0 ht hc]
      split
      · exact search_ok h h2 fuel _ _ h0 (by omega) h1 (by omega) (by omega)
      · exact search_ok h h2 fuel _ _ (by omega) ht (by omega) h3 (by omega)
    · rw [h2 _ lo hi h0 (by omega)]
      congr 1; omega

/-- What a loop over a list gives. -/
def rangeR {α τ β : Type} (step : α → Nat → τ → (τ → Option β) → Option β) (fin : τ → Option β) : List α → Nat → τ → Option β
  | [], _, t => fin t
  | x :: r, i, t => step x i t fun t' => rangeR step fin r (i + 1) t'

theorem range_from {σ τ α β : Type} (mk : τ → Int → σ) {F : (σ → Option β) → σ → Option β} (l : List α) (step : α → Nat → τ → (τ → Option β) → Option β) (fin : τ → Option β)
    (h1 : ∀ ag t (i : Nat) x, l[i]? = some x → F ag (mk t i) = step x i t fun t' => ag (mk t' ((i + 1 : Nat) : Int)))
    (h2 : ∀ ag t, F ag (mk t (l.length : Int)) = fin t) : ∀ (fuel i : Nat) (t : τ), l.length < fuel + i → i ≤ l.length → iterP F fuel (mk t i) = rangeR step fin (l.drop i) i t
  | 0, i, t, h, hi => by omega
  | fuel + 1, i, t, h, hi => by
    simp only [iterP]
    rcases Nat.lt_or_ge i l.length with hlt | hge
    · rw [h1 _ t i l[i] (List.getElem?_eq_getElem hlt), List.drop_eq_getElem_cons hlt]
      simp only [rangeR]
      congr 1
      funext t'
      exact range_from mk l step fin h1 h2 fuel (i + 1) t' (by omega) (by omega)
    · have : i = l.length := by omega
      subst this
      rw [h2, List.drop_length]; rfl

/-- A loop over a list, from its beginning. -/
theorem range_eq {σ τ α β : Type} (mk : τ → Int → σ) {F : (σ → Option β) → σ → Option β} (l : List α) (step : α → Nat → τ → (τ → Option β) → Option β) (fin : τ → Option β)
    (h1 : ∀ ag t (i : Nat) x, l[i]? = some x → F ag (mk t i) = step x i t fun t' => ag (mk t' ((i + 1 : Nat) : Int)))
    (h2 : ∀ ag t, F ag (mk t (l.length : Int)) = fin t) {fuel : Nat} (hl : l.length < fuel) (t : τ) : iterP F fuel (mk t 0) = rangeR step fin l 0 t := by
  have := range_from mk l step fin h1 h2 fuel 0 t (by omega) (by omega)
  simpa using this

theorem rangeR_congr {α τ β : Type} {step step' : α → Nat → τ → (τ → Option β) → Option β} {fin fin' : τ → Option β} : ∀ (l : List α) (i : Nat) (t : τ),
    (∀ x ∈ l, ∀ i t k, step x i t k = step' x i t k) → (∀ t, fin t = fin' t) → rangeR step fin l i t = rangeR step' fin' l i t
  | [], i, t, _, hf => hf t
  | x :: r, i, t, hs, hf => by
    simp only [rangeR]
    rw [hs x (by simp)]
    congr 1; funext t'
    exact rangeR_congr r (i + 1) t' (fun y hy => hs y (by simp [hy])) hf

/-- All of them: a loop that gives up at the first that is not. -/
theorem rangeR_all {α τ β : Type} {p : α → Bool} {no : Option β} {fin : τ → Option β} : ∀ (l : List α) (i : Nat) (t : τ),
    rangeR (fun x _ t k => oif (p x) (k t) no) fin l i t = oif (l.all p) (fin t) no
  | [], i, t => rfl
  | x :: r, i, t => by
    simp only [rangeR, List.all_cons]
    cases p x with
    | true => simp only [oif_t, Bool.true_and]; exact rangeR_all r (i + 1) t
    | false => rfl

/-- A loop that changes a state, and never gives up. -/
def foldI {α τ : Type} (f : α → Nat → τ → τ) : List α → Nat → τ → τ
  | [], _, t => t
  | x :: r, i, t => foldI f r (i + 1) (f x i t)
theorem rangeR_fold {α τ β : Type} {f : α → Nat → τ → τ} {fin : τ → Option β} : ∀ (l : List α) (i : Nat) (t : τ),
    rangeR (fun x i t k => k (f x i t)) fin l i t = fin (foldI f l i t)
  | [], i, t => rfl
  | x :: r, i, t => by simp only [rangeR, foldI]; exact rangeR_fold r (i + 1) (f x i t)

theorem foldI_sum : ∀ (l : List Int) (i : Nat) (t : Int), (∀ x ∈ l, 0 ≤ x) → 0 ≤ t → t + l.sum ≤ 9223372036854775807 → foldI (fun x _ t => IntKind.i64.wrap (t + x)) l i t = t + l.sum
  | [], i, t, _, _, _ => by simp [foldI]
  | x :: r, i, t, h0, ht, hs => by
    have hx := h0 x (by simp)
    have hr : 0 ≤ r.sum := List.sum_nonneg' r (fun y hy => h0 y (by simp [hy]))
    simp only [List.sum_cons] at hs
    simp only [foldI, List.sum_cons]
    rw [wr (by omega) (by omega), foldI_sum r (i + 1) (t + x) (fun y hy => h0 y (by simp [hy])) (by omega) (by omega)]
    omega

/-- Those that are chosen, turned. -/
def selI {α γ : Type} (c : α → Nat → Bool) (e : α → Nat → γ) : List α → Nat → List γ
  | [], _ => []
  | x :: r, i => if c x i then e x i :: selI c e r (i + 1) else selI c e r (i + 1)
theorem selI_len {α γ : Type} {c : α → Nat → Bool} {e : α → Nat → γ} : ∀ (l : List α) (i : Nat), (selI c e l i).length ≤ l.length
  | [], i => by simp [selI]
  | x :: r, i => by have := selI_len (c := c) (e := e) r (i + 1); unfold selI; split <;> simp <;> omega
theorem selI_mem {α γ : Type} {c : α → Nat → Bool} {e : α → Nat → γ} {y : γ} : ∀ (l : List α) (i : Nat), y ∈ selI c e l i → ∃ (j : Nat) (x : α), l[j]? = some x ∧ c x (i + j) = true ∧ y = e x (i + j)
  | [], i, h => by simp [selI] at h
  | x :: r, i, h => by
    have step : y ∈ selI c e r (i + 1) → ∃ (j : Nat) (z : α), (x :: r)[j]? = some z ∧ c z (i + j) = true ∧ y = e z (i + j) := by
      intro h
      obtain ⟨j, z, h1, h2, h3⟩ := selI_mem r (i + 1) h
      exact ⟨j + 1, z, by simpa using h1, by rw [← h2]; congr 1; omega, by rw [h3]; congr 1; omega⟩
    unfold selI at h
    split at h
    · rename_i hc
      rcases List.mem_cons.1 h with rfl | h
      · exact ⟨0, x, rfl, hc, rfl⟩
      · exact step h
    · exact step h
theorem rangeR_sel {α γ β : Type} {c : α → Nat → Bool} {e : α → Nat → γ} {fin : List γ → Option β} {w : Nat} : ∀ (l : List α) (i : Nat) (t : List γ), (t.length + l.length) * w ≤ 100000000 →
    rangeR (fun x i t k => oif (c x i) (oif (Nat.ble ((t.length + [e x i].length) * w) roomMax) (k (t ++ [e x i])) none) (k t)) fin l i t = fin (t ++ selI c e l i)
  | [], i, t, _ => by simp [rangeR, selI]
  | x :: r, i, t, h => by
    simp only [rangeR, selI]
    cases hc : c x i with
    | false => simp only [oif_f, Bool.false_eq_true, if_false]; exact rangeR_sel r (i + 1) t (Nat.le_trans (Nat.mul_le_mul_right w (by simp)) h)
    | true =>
      have hr : Nat.ble ((t.length + [e x i].length) * w) roomMax = true := by
        rw [Nat.ble_eq]
        have : (t.length + [e x i].length) * w ≤ (t.length + (x :: r).length) * w := Nat.mul_le_mul_right w (by simp)
        unfold roomMax; omega
      simp only [oif_t, hr, if_true]
      have hw : ((t ++ [e x i]).length + r.length) * w ≤ 100000000 := by
        refine Nat.le_trans (Nat.mul_le_mul_right w ?_) h
        simp; omega
      rw [rangeR_sel r (i + 1) (t ++ [e x i]) hw]
      simp

theorem ofNat_toNat (i : Nat) : ((i : Int)).toNat = i := Int.toNat_natCast i
theorem nn (i : Nat) : decide (0 ≤ (i : Int)) = true := by simp
theorem wr1 {i : Nat} (h : i < 9223372036854775807) : IntKind.i64.wrap ((i : Int) + 1) = ((i + 1 : Nat) : Int) := by
  rw [wr (by omega) (by omega)]; omega
theorem ltl {α : Type} {l : List α} {i : Nat} {x : α} (h : l[i]? = some x) : decide ((i : Int) < ((l.length : Nat) : Int)) = true := by
  have := (List.getElem?_eq_some_iff.1 h).1
  simp; omega
theorem bltl {α : Type} {l : List α} {i : Nat} {x : α} (h : l[i]? = some x) : Nat.blt i l.length = true := by
  have := (List.getElem?_eq_some_iff.1 h).1
  simp [Nat.blt]; omega
theorem ltn (n : Nat) : decide ((n : Int) < (n : Int)) = false := by simp
theorem room {n m w : Nat} (h : (n + m) * w ≤ 100000000) : Nat.ble ((n + m) * w) roomMax = true := by
  rw [Nat.ble_eq]; unfold roomMax; omega
theorem getIn {l : List Int} {n : Int} {m : Nat} (h : n < m) (h0 : 0 ≤ n) (hm : m ≤ l.length) : l[n.toNat]? = some (l.getD n.toNat 0) := by
  have : n.toNat < l.length := by omega
  rw [List.getElem?_eq_getElem this]; simp [List.getD, List.getElem?_eq_getElem this]
theorem blt_of {a b : Nat} (h : a < b) : Nat.blt a b = true := by simp [Nat.blt]; omega

theorem sum_set {l : List Int} {k : Nat} {v : Int} (h : k < l.length) : (l.set k v).sum = l.sum - l.getD k 0 + v := by
  induction l generalizing k with
  | nil => simp at h
  | cons a r ih =>
    cases k with
    | zero => simp; omega
    | succ k =>
      have := ih (k := k) (by simpa using h)
      simp only [List.set_cons_succ, List.sum_cons, List.getD_cons_succ]
      omega

end Go.Pv
