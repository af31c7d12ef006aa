/-
  Functions of two texts, the second of one byte, that give a number: by value, in the first interpreter, and in the model by a walk of the function.
  Conditions: the walk.
-/
import Derived.Test.YtkanolaeiaieaaaDoorVSound
import Derived.Test.YtkanolaeiaieaaaDoorTop
set_option linter.all false
namespace Go.Pv
open Go.Ev

/-- Where a byte is first. -/
def idxG : List UInt8 → UInt8 → Int
  | [], _ => -1
  | b :: l, c => if b == c then 0 else if idxG l c == -1 then -1 else idxG l c + 1
/-- How often it is there. -/
def cntG (l : List UInt8) (c : UInt8) : Int := ((l.count c : Nat) : Int)

def strV (g : List UInt8 → UInt8 → Int) (s t : ByteArray) : Option Int := match t.data.toList with
  | [c] => some (g s.data.toList c)
  | _ => none

def strX (g : List UInt8 → UInt8 → Int) : List Value → Nat → Heap → Option (Value × Heap)
  | [.string s, .string t], _, H => obind (strV g s t) fun n => some (.int .i64 n, H)
  | _, _, _ => none

def strSig : Sig := ⟨[(.ro, .str), (.ro, .str)], [(false, .int .i64)]⟩

theorem HRs.cons_inv {N : Nat → Prop} {H : Heap} {lim : Nat} {k : Kd} {ks : List Kd} {v : TV} {vs : List TV} {ws : List Value} {is : List (List Nat)} (h : HRs N H lim (k :: ks) (v :: vs) ws is) : ∃ w ws' i is', ws = w :: ws' ∧ is = i :: is' ∧ HR N H lim k v w i ∧ HRs N H lim ks vs ws' is' := by
  cases ws with
  | nil => cases is <;> exact absurd h id
  | cons w ws => cases is with
    | nil => exact absurd h id
    | cons i is => exact ⟨w, ws, i, is, rfl, rfl, h.1, h.2⟩

theorem HRs.nil_inv {N : Nat → Prop} {H : Heap} {lim : Nat} {ws : List Value} {is : List (List Nat)} (h : HRs N H lim [] [] ws is) : ws = [] ∧ is = [] := by
  cases ws with
  | nil => cases is with
    | nil => exact ⟨rfl, rfl⟩
    | cons _ _ => exact absurd h id
  | cons _ _ => cases is <;> exact absurd h id

theorem str_fn (g : List UInt8 → UInt8 → Int) (lim : Nat) : FnOk strSig (fun a : ByteArray × ByteArray => strV g a.1 a.2) (strX g) lim := by
  rintro (⟨s, t⟩ : ByteArray × ByteArray) r h H Ban ws idss hBan hlimH hnd hdis hh
  obtain ⟨w0, i0, w1, i1, rfl, rfl, h0, h1⟩ : ∃ w0 i0 w1 i1, ws = [w0, w1] ∧ idss = [i0, i1] ∧ HR (fun z => z ∉ idss.flatten ∧ ¬ Ban z) H lim .fz ⟨.str, s⟩ w0 i0 ∧ HR (fun z => z ∉ idss.flatten ∧ ¬ Ban z) H lim .fz ⟨.str, t⟩ w1 i1 := by
    obtain ⟨w0, ws', i0, is', rfl, rfl, h0, hh⟩ := HRs.cons_inv hh
    obtain ⟨w1, ws2, i1, is2, rfl, rfl, h1, hh⟩ := HRs.cons_inv hh
    obtain ⟨rfl, rfl⟩ := HRs.nil_inv hh
    exact ⟨w0, i0, w1, i1, rfl, rfl, h0, h1⟩
  obtain ⟨cs0, e0, o0, q0⟩ := h0
  obtain ⟨cs1, e1, o1, q1⟩ := h1
  obtain rfl : cs0 = [w0] := e0
  obtain rfl : cs1 = [w1] := e1
  unfold Rep at q0 q1
  injection q0 with q0; injection q1 with q1
  have o0 : i0 = [] := o0
  have o1 : i1 = [] := o1
  subst q0 q1 o0 o1
  replace h : strV g s t = some r := h
  refine ⟨.int .i64 r, H, [.int .i64 r], [[]], [], by simp only [strX, h, obind], rfl, Nat.le_refl _, fun _ _ _ => rfl, ?_, by simp, by simp, ⟨⟨[.int .i64 r], rfl, rfl, by unfold Rep; rfl⟩, trivial⟩, trivial⟩
  simp [strSig, outIds]

/-- What the walk of the function has to show. -/
def StrWalk (P : Program) (F : FuncId) (g : List UInt8 → UInt8 → Int) : Prop :=
  ∀ (s : ByteArray) (c : UInt8) (w : World), Calls P F #[.string s, .string ⟨#[c]⟩] w fun e w' => e = .returned (.int .i64 (g s.data.toList c)) ∧ w' = w

theorem one_of {t : ByteArray} {c : UInt8} (h : t.data.toList = [c]) : t = ⟨#[c]⟩ := by
  obtain ⟨⟨l⟩⟩ := t
  have h : l = [c] := h
  subst h; rfl

theorem str_call {P : Program} {F : FuncId} {g : List UInt8 → UInt8 → Int} (henter : ∀ (cargs : Array Value) (w : World), (callFunc F cargs).run P w = .ok (.enter F cargs) w) (walk : StrWalk P F g) :
    ∀ args lim H v H', strX g args lim H = some (v, H') → CallF P F args lim H v H' := by
  intro args lim H v H' h
  unfold strX at h
  split at h
  · rename_i s t
    replace h := obind_some h; obtain ⟨n, h1, h⟩ := h
    simp at h; obtain ⟨rfl, rfl⟩ := h
    unfold strV at h1
    split at h1
    · rename_i c hc
      injection h1 with h1; subst h1
      obtain rfl := one_of hc
      refine ⟨fun _ _ => .int _ _, fun _ _ => Ab.refl lim H, henter, fun ι w cargs hR hargs => ?_⟩
      obtain ⟨xs, rfl⟩ : ∃ xs : List Value, cargs = xs.toArray := ⟨cargs.toList, by simp⟩
      obtain ⟨al, ar⟩ := hargs
      simp only [List.toList_toArray] at al ar
      match xs, al, ar with
      | [y0, y1], _, ar =>
        have r0 := ar 0 (by simp) (by simp)
        have r1 := ar 1 (by simp) (by simp)
        simp only [List.getElem_cons_zero, List.getElem_cons_succ] at r0 r1
        have e0 := r0.inv_str
        have e1 := r1.inv_str
        subst e0 e1
        refine (walk s c w).mono ?_
        rintro e w' ⟨rfl, rfl⟩
        exact ⟨ι, _, rfl, hR, .int _ _, Fr.refl ι H _⟩
    · simp at h1
  · simp at h

end Go.Pv
