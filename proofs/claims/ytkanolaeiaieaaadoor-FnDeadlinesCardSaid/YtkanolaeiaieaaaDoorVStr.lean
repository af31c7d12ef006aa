/-
  The last place of a byte in a text, and copies of a text: by value, in the first interpreter, and in the model by walks of the functions.
  Conditions: the walks.
-/
import Derived.Test.YtkanolaeiaieaaaDoorVPure
import Derived.Below
import Derived.Lib.Repeat
import Derived.Lib.LastIndexByte
set_option linter.all false
namespace Go.Pv
open Go.Ev

/-- Where a byte is last. -/
def lixG : List UInt8 → UInt8 → Int
  | [], _ => -1
  | b :: l, c => if lixG l c == -1 then (if b == c then 0 else -1) else lixG l c + 1

theorem lixG_spec (c : UInt8) : ∀ l : List UInt8, (lixG l c = -1 ∧ c ∉ l) ∨ ∃ i : Nat, lixG l c = (i : Int) ∧ l[i]? = some c ∧ ∀ j, i < j → j < l.length → l[j]? ≠ some c
  | [] => .inl ⟨rfl, by simp⟩
  | b :: l => by
    unfold lixG
    rcases lixG_spec c l with ⟨h1, h2⟩ | ⟨i, h1, h2, h3⟩
    · rw [h1, show ((-1 : Int) == -1) = true from rfl, if_pos rfl]
      by_cases hb : b = c
      · subst hb
        rw [if_pos (by simp)]
        refine .inr ⟨0, rfl, rfl, fun j h4 h5 h6 => ?_⟩
        obtain ⟨k, rfl⟩ : ∃ k, j = k + 1 := ⟨j - 1, by omega⟩
        exact h2 (List.mem_of_getElem? (by simpa using h6))
      · rw [if_neg (by simpa using hb)]
        exact .inl ⟨rfl, by simp [h2]; exact fun e => hb e.symm⟩
    · have : (lixG l c == -1) = false := by rw [h1, beq_eq_false_iff_ne]; omega
      rw [this, if_neg (by simp), h1]
      refine .inr ⟨i + 1, by simp, by simpa using h2, fun j h4 h5 h6 => ?_⟩
      obtain ⟨k, rfl⟩ : ∃ k, j = k + 1 := ⟨j - 1, by omega⟩
      exact h3 k (by omega) (by simpa using h5) (by simpa using h6)

theorem lix_eq (s : ByteArray) (c : UInt8) : Go.Lib.lastIndexByte s (c.toNat : Int) = lixG s.data.toList c := by
  have hlen : s.data.toList.length = s.size := by simp
  have hget : ∀ j, j < s.size → s.data.toList[j]? = some (s.data[j]!) := by
    intro j hj
    have hj2 : j < s.data.size := hj
    rw [List.getElem?_eq_getElem (by simpa using hj2), getElem!_pos s.data j hj2]
    simp
  have inj : ∀ a b : UInt8, (a.toNat : Int) = (b.toNat : Int) → a = b := fun a b h => UInt8.toNat_inj.1 (by omega)
  rcases lixG_spec c s.data.toList with ⟨h1, h2⟩ | ⟨i, h1, h2, h3⟩
  · rcases Go.Lib.lastIndexByte_spec s (c.toNat : Int) with ⟨g1, _⟩ | ⟨i, g1, g2, g3, _⟩
    · rw [g1, h1]
    · exact absurd (List.mem_of_getElem? ((hget i g1).trans (by rw [inj _ _ g3]))) h2
  · have hi : i < s.size := by have := (List.getElem?_eq_some_iff.1 h2).1; omega
    have hic : s.data[i]! = c := by rw [hget i hi] at h2; exact Option.some.inj h2
    rcases Go.Lib.lastIndexByte_spec s (c.toNat : Int) with ⟨g1, g2⟩ | ⟨k, g1, g2, g3, g4⟩
    · exact absurd (by rw [hic]) (g2 i hi)
    · rw [g2, h1]
      have hkc := inj _ _ g3
      rcases Nat.lt_trichotomy i k with e | e | e
      · exact absurd ((hget k g1).trans (by rw [hkc])) (h3 k e (by omega))
      · rw [e]
      · exact absurd (by rw [hic]) (g4 i e hi)

def lixV (s t : ByteArray) : Option Int := oif (Nat.ble s.size 1000000000000) (strV lixG s t) none

def lixX : List Value → Nat → Heap → Option (Value × Heap)
  | [.string s, .string t], _, H => obind (lixV s t) fun n => some (.int .i64 n, H)
  | _, _, _ => none

theorem lix_fn (lim : Nat) : FnOk strSig (fun a : ByteArray × ByteArray => lixV a.1 a.2) lixX lim := by
  rintro (⟨s, t⟩ : ByteArray × ByteArray) r h H Ban ws idss hBan hlimH hnd hdis hh
  obtain ⟨w0, i0, w1, i1, rfl, rfl, h0, h1⟩ : ∃ w0 i0 w1 i1, ws = [w0, w1] ∧ idss = [i0, i1] ∧ HR (fun z => z ∉ idss.flatten ∧ ¬ Ban z) H lim .fz ⟨.str, s⟩ w0 i0 ∧ HR (fun z => z ∉ idss.flatten ∧ ¬ Ban z) H lim .fz ⟨.str, t⟩ w1 i1 := by
    obtain ⟨w0, ws', i0, is', rfl, rfl, h0, hh⟩ := HRs.cons_inv hh
    obtain ⟨w1, ws2, i1, is2, rfl, rfl, h1, hh⟩ := HRs.cons_inv hh
    obtain ⟨rfl, rfl⟩ := HRs.nil_inv hh
    exact ⟨w0, i0, w1, i1, rfl, rfl, h0, h1⟩
  obtain ⟨cs0, e0, o0, q0⟩ := h0
  obtain ⟨cs1, e1, o1, q1⟩ := h1
  obtain rfl : cs0 = [w0] := e0
  obtain rfl : cs1 = [w1] := e1
  unfold Rep at q0 q1
  injection q0 with q0; injection q1 with q1
  have o0 : i0 = [] := o0
  have o1 : i1 = [] := o1
  subst q0 q1 o0 o1
  replace h : lixV s t = some r := h
  refine ⟨.int .i64 r, H, [.int .i64 r], [[]], [], by simp only [lixX, h, obind], rfl, Nat.le_refl _, fun _ _ _ => rfl, ?_, by simp, by simp, ⟨⟨[.int .i64 r], rfl, rfl, by unfold Rep; rfl⟩, trivial⟩, trivial⟩
  simp [strSig, outIds]

/-- What the walk of the function has to show. -/
def LixWalk (P : Program) (F : FuncId) : Prop :=
  ∀ (s : ByteArray) (c : UInt8) (w : World), s.size ≤ 1000000000000 → Calls P F #[.string s, .string ⟨#[c]⟩] w fun e w' => e = .returned (.int .i64 (lixG s.data.toList c)) ∧ w' = w

theorem lix_call {P : Program} {F : FuncId} (henter : ∀ (cargs : Array Value) (w : World), (callFunc F cargs).run P w = .ok (.enter F cargs) w) (walk : LixWalk P F) :
    ∀ args lim H v H', lixX args lim H = some (v, H') → CallF P F args lim H v H' := by
  intro args lim H v H' h
  unfold lixX at h
  split at h
  · rename_i s t
    replace h := obind_some h; obtain ⟨n, h1, h⟩ := h
    simp at h; obtain ⟨rfl, rfl⟩ := h
    unfold lixV oif at h1
    split at h1
    · rename_i hsz
      have hsz := Nat.le_of_ble_eq_true hsz
      unfold strV at h1
      split at h1
      · rename_i c hc
        injection h1 with h1; subst h1
        obtain rfl := one_of hc
        refine ⟨fun _ _ => .int _ _, fun _ _ => Ab.refl lim H, henter, fun ι w cargs hR hargs => ?_⟩
        obtain ⟨xs, rfl⟩ : ∃ xs : List Value, cargs = xs.toArray := ⟨cargs.toList, by simp⟩
        obtain ⟨al, ar⟩ := hargs
        simp only [List.toList_toArray] at al ar
        match xs, al, ar with
        | [y0, y1], _, ar =>
          have r0 := ar 0 (by simp) (by simp)
          have r1 := ar 1 (by simp) (by simp)
          simp only [List.getElem_cons_zero, List.getElem_cons_succ] at r0 r1
          have e0 := r0.inv_str
          have e1 := r1.inv_str
          subst e0 e1
          refine (walk s c w hsz).mono ?_
          rintro e w' ⟨rfl, rfl⟩
          exact ⟨ι, _, rfl, hR, .int _ _, Fr.refl ι H _⟩
      · simp at h1
    · simp at h1
  · simp at h

/-- Copies. -/
def repV (s : ByteArray) (n : Int) : Option ByteArray := oif (decide (0 ≤ n) && (decide (n ≤ 1000000) && Nat.ble s.size 1000000)) (some ⟨(Go.Lib.repeatL s.data.toList n.toNat).toArray⟩) none

def repX : List Value → Nat → Heap → Option (Value × Heap)
  | [.string s, .int .i64 n], _, H => obind (repV s n) fun t => some (.string t, H)
  | _, _, _ => none

def repSig : Sig := ⟨[(.ro, .str), (.ro, .int .i64)], [(false, .str)]⟩

theorem rep_fn (lim : Nat) : FnOk repSig (fun a : ByteArray × Int => repV a.1 a.2) repX lim := by
  rintro (⟨s, t⟩ : ByteArray × Int) r h H Ban ws idss hBan hlimH hnd hdis hh
  obtain ⟨w0, i0, w1, i1, rfl, rfl, h0, h1⟩ : ∃ w0 i0 w1 i1, ws = [w0, w1] ∧ idss = [i0, i1] ∧ HR (fun z => z ∉ idss.flatten ∧ ¬ Ban z) H lim .fz ⟨.str, s⟩ w0 i0 ∧ HR (fun z => z ∉ idss.flatten ∧ ¬ Ban z) H lim .fz ⟨.int .i64, t⟩ w1 i1 := by
    obtain ⟨w0, ws', i0, is', rfl, rfl, h0, hh⟩ := HRs.cons_inv hh
    obtain ⟨w1, ws2, i1, is2, rfl, rfl, h1, hh⟩ := HRs.cons_inv hh
    obtain ⟨rfl, rfl⟩ := HRs.nil_inv hh
    exact ⟨w0, i0, w1, i1, rfl, rfl, h0, h1⟩
  obtain ⟨cs0, e0, o0, q0⟩ := h0
  obtain ⟨cs1, e1, o1, q1⟩ := h1
  obtain rfl : cs0 = [w0] := e0
  obtain rfl : cs1 = [w1] := e1
  unfold Rep at q0 q1
  injection q0 with q0; injection q1 with q1
  have o0 : i0 = [] := o0
  have o1 : i1 = [] := o1
  subst q0 q1 o0 o1
  replace h : repV s t = some r := h
  refine ⟨.string r, H, [.string r], [[]], [], by simp only [repX, h, obind], rfl, Nat.le_refl _, fun _ _ _ => rfl, ?_, by simp, by simp, ⟨⟨[.string r], rfl, rfl, by unfold Rep; rfl⟩, trivial⟩, trivial⟩
  simp [repSig, outIds]

/-- What the walk of the function has to show. -/
def RepWalk (P : Program) (F : FuncId) : Prop :=
  ∀ (s : ByteArray) (n : Nat) (w : World), n ≤ 1000000 → s.size ≤ 1000000 → Calls P F #[.string s, .int .i64 n] w fun e w' => e = .returned (.string ⟨(Go.Lib.repeatL s.data.toList n).toArray⟩) ∧ Go.RowKit.Below w.heap.size w w'

theorem Rel.below {ι : Io} {D : Nat → Prop} {H : Heap} {w w' : World} (h : Rel ι D H w) (b : Go.RowKit.Below w.heap.size w w') : Rel ι D H w' :=
  ⟨fun c k hk => (h.blk c k hk).of_block (b.block _ (h.lt hk)) rfl (fun _ _ _ x => x), h.inj, h.nog, h.gw.stable b.size (fun k hk => b.block k (by have := h.gw.1; omega))⟩
theorem Fr.below (ι : Io) (H : Heap) {w w' : World} (b : Go.RowKit.Below w.heap.size w w') : Fr ι H w ι H w' :=
  ⟨Nat.le_refl _, fun _ _ => rfl, b.os, b.tape, b.output, b.size, fun k hk _ => b.block k hk, fun c blk h hr => .inr ⟨c, blk, h, hr, rfl⟩, fun _ _ h _ => h⟩

theorem rep_call {P : Program} {F : FuncId} (henter : ∀ (cargs : Array Value) (w : World), (callFunc F cargs).run P w = .ok (.enter F cargs) w) (walk : RepWalk P F) :
    ∀ args lim H v H', repX args lim H = some (v, H') → CallF P F args lim H v H' := by
  intro args lim H v H' h
  unfold repX at h
  split at h
  · rename_i s n
    replace h := obind_some h; obtain ⟨t, h1, h⟩ := h
    simp at h; obtain ⟨rfl, rfl⟩ := h
    unfold repV oif at h1
    split at h1
    · rename_i hc
      simp only [Bool.and_eq_true, decide_eq_true_eq] at hc
      obtain ⟨m, rfl⟩ := Int.eq_ofNat_of_zero_le hc.1
      injection h1 with h1; subst h1
      refine ⟨fun _ _ => .str _, fun _ _ => Ab.refl lim H, henter, fun ι w cargs hR hargs => ?_⟩
      obtain ⟨xs, rfl⟩ : ∃ xs : List Value, cargs = xs.toArray := ⟨cargs.toList, by simp⟩
      obtain ⟨al, ar⟩ := hargs
      simp only [List.toList_toArray] at al ar
      match xs, al, ar with
      | [y0, y1], _, ar =>
        have r0 := ar 0 (by simp) (by simp)
        have r1 := ar 1 (by simp) (by simp)
        simp only [List.getElem_cons_zero, List.getElem_cons_succ] at r0 r1
        have e0 := r0.inv_str
        have e1 := r1.inv_int
        subst e0 e1
        refine (walk s m w (by omega) (Nat.le_of_ble_eq_true hc.2.2)).mono ?_
        rintro e w' ⟨rfl, hb⟩
        exact ⟨ι, _, rfl, Rel.below hR hb, .str _, Fr.below ι H hb⟩
    · simp at h1
  · simp at h

end Go.Pv
