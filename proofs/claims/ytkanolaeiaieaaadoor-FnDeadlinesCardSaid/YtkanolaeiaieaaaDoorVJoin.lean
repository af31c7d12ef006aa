/-
  Texts joined: by value, in the first interpreter, and in the model by a walk of the function.
  Conditions: the walk.
-/
import Derived.Test.YtkanolaeiaieaaaDoorVStr
import Derived.Lib.Join
set_option linter.all false
namespace Go.Pv
open Go.Ev

def strsOf : List Value → Option (List ByteArray)
  | [] => some []
  | .string s :: r => obind (strsOf r) fun l => some (s :: l)
  | _ :: _ => none

theorem strsOf_map : ∀ l : List ByteArray, strsOf (l.map Value.string) = some l
  | [] => rfl
  | i :: r => by simp only [List.map_cons, strsOf, strsOf_map r, obind]

theorem strsOf_eq : ∀ {cs : List Value} {l : List ByteArray}, strsOf cs = some l → cs = l.map Value.string
  | [], l, h => by simp [strsOf] at h; subst h; rfl
  | c :: r, l, h => by
    unfold strsOf at h
    split at h
    · simp at *
    · rename_i i r' e
      injection e with e1 e2; subst e1; subst e2
      obtain ⟨l', h1, h2⟩ := obind_some h
      simp at h2; subst h2
      rw [strsOf_eq h1]; rfl
    · simp at h

def joinB (l : List ByteArray) (s : ByteArray) : List UInt8 := Go.Lib.join (l.map (·.data.toList)) s.data.toList
def joinV (l : List ByteArray) (s : ByteArray) : Option ByteArray := oif (Nat.ble 1 l.length && (Nat.ble l.length 1000000 && Nat.ble (joinB l s).length 1000000000)) (some ⟨(joinB l s).toArray⟩) none

def joinX : List Value → Nat → Heap → Option (Value × Heap)
  | [.slice (some a) n c, .string s], lim, H =>
    match Nat.beq c 1 with
    | true => obind (hloadN H ⟨a.block, a.off, none⟩ n) fun cs => obind (strsOf cs) fun l => obind (joinV l s) fun t => some (.string t, H)
    | false => none
  | _, _, _ => none

def joinSig : Sig := ⟨[(.ro, .sl .str), (.ro, .str)], [(false, .str)]⟩

theorem strs_of_rep {N : Nat → Prop} {H : Heap} {l : List ByteArray} {cs : List Value} (h1 : cs.length = l.length) (h2 : ∀ i (h : i < l.length), Rep N H .str (l[i]) ((cs.drop (i * 1)).take 1)) : cs = l.map Value.string := by
  apply List.ext_getElem?
  intro i
  by_cases hi : i < l.length
  · have hr := h2 i hi
    unfold Rep at hr
    rw [Nat.mul_one] at hr
    have : cs[i]? = ((cs.drop i).take 1)[0]? := by rw [List.getElem?_take]; simp
    rw [this, hr]; simp [hi]
  · rw [List.getElem?_eq_none (by omega), List.getElem?_eq_none (by simp; omega)]

theorem join_fn (lim : Nat) : FnOk joinSig (fun a : List ByteArray × ByteArray => joinV a.1 a.2) joinX lim := by
  rintro (⟨l, t⟩ : List ByteArray × ByteArray) r h H Ban ws idss hBan hlimH hnd hdis hh
  obtain ⟨w0, i0, w1, i1, rfl, rfl, h0, h1⟩ : ∃ w0 i0 w1 i1, ws = [w0, w1] ∧ idss = [i0, i1] ∧ HR (fun z => z ∉ idss.flatten ∧ ¬ Ban z) H lim .fz ⟨.sl .str, l⟩ w0 i0 ∧ HR (fun z => z ∉ idss.flatten ∧ ¬ Ban z) H lim .fz ⟨.str, t⟩ w1 i1 := by
    obtain ⟨w0, ws', i0, is', rfl, rfl, h0, hh⟩ := HRs.cons_inv hh
    obtain ⟨w1, ws2, i1, is2, rfl, rfl, h1, hh⟩ := HRs.cons_inv hh
    obtain ⟨rfl, rfl⟩ := HRs.nil_inv hh
    exact ⟨w0, i0, w1, i1, rfl, rfl, h0, h1⟩
  obtain ⟨cs0, e0, o0, q0⟩ := h0
  obtain ⟨cs1, e1, o1, q1⟩ := h1
  obtain rfl : cs0 = [w0] := e0
  obtain rfl : cs1 = [w1] := e1
  unfold Rep at q1
  injection q1 with q1
  have o0 : i0 = [] := o0
  have o1 : i1 = [] := o1
  subst q1 o0 o1
  replace h : joinV l t = some r := h
  have hc := h
  unfold joinV at hc
  rcases oif_some hc with ⟨hc, _⟩ | ⟨_, hc⟩
  case inr => simp at hc
  simp only [Bool.and_eq_true] at hc
  have c1 := Nat.le_of_ble_eq_true hc.1
  unfold Rep at q0
  rcases q0 with ⟨rfl, _⟩ | ⟨rfl, _⟩ | ⟨z, o, k, e, hN, hk, hl, hi⟩
  · simp at c1
  · simp at c1
  injection e with e; subst e
  have s1 : Ty.str.size = 1 := rfl
  have hl : o + l.length * 1 ≤ k.cells.length := hl
  rw [Nat.mul_one] at hl
  have hload : hloadN H ⟨z, o, none⟩ l.length = some (l.map Value.string) := by
    unfold hloadN; simp only [hk, obind]
    rw [Nat.ble_eq_true_of_le (by omega)]
    have : (k.cells.drop o).take l.length = l.map Value.string := by
      refine strs_of_rep (N := fun z => z ∉ ([[], []] : List (List Nat)).flatten ∧ ¬ Ban z) (H := H) (by simp; omega) fun i h => ?_
      have := hi i h
      rw [s1] at this
      rw [List.drop_take, List.drop_drop, List.take_take, Nat.min_eq_left (by omega)]
      exact this
    show some ((k.cells.drop o).take l.length) = _
    rw [this]
  refine ⟨.string r, H, [.string r], [[]], [], ?_, rfl, Nat.le_refl _, fun _ _ _ => rfl, ?_, by simp, by simp, ⟨⟨[.string r], rfl, rfl, by unfold Rep; rfl⟩, trivial⟩, trivial⟩
  · simp only [joinX]
    rw [s1, Nat.beq_refl]
    simp only
    rw [hload]
    simp only [obind, strsOf_map, h]
  · simp [joinSig, outIds]

/-- What the walk of the function has to show. -/
def JoinWalk (P : Program) (F : FuncId) : Prop :=
  ∀ (b off cap : Nat) (l : List ByteArray) (s : ByteArray) (w : World), 1 ≤ l.length → l.length ≤ 1000000 → (joinB l s).length ≤ 1000000000 → l.length ≤ cap → (∀ (j : Nat) x, l[j]? = some x → w.cell? ⟨b, off + j, none⟩ = some (.string x)) → b < w.heap.size →
    Calls P F #[.slice (some ⟨b, off, none⟩) l.length cap, .string s] w fun e w' => e = .returned (.string ⟨(joinB l s).toArray⟩) ∧ Go.RowKit.Below w.heap.size w w'

theorem join_call {P : Program} {F : FuncId} (henter : ∀ (cargs : Array Value) (w : World), (callFunc F cargs).run P w = .ok (.enter F cargs) w) (walk : JoinWalk P F) :
    ∀ args lim H v H', joinX args lim H = some (v, H') → CallF P F args lim H v H' := by
  intro args lim H v H' h
  unfold joinX at h
  split at h
  · rename_i a n c s
    split at h
    · rename_i hc
      have c2 := Nat.eq_of_beq_eq_true hc
      subst c2
      replace h := obind_some h; obtain ⟨cs, h1, h⟩ := h
      replace h := obind_some h; obtain ⟨l, h2, h⟩ := h
      replace h := obind_some h; obtain ⟨t, h3, h⟩ := h
      simp at h; obtain ⟨rfl, rfl⟩ := h
      have e2 := strsOf_eq h2; subst e2
      unfold joinV at h3
      rcases oif_some h3 with ⟨hc, h3⟩ | ⟨_, h3⟩
      case inr => simp at h3
      simp only [Bool.and_eq_true] at hc
      obtain ⟨c1, c3, c4⟩ := hc
      have c1 := Nat.le_of_ble_eq_true c1
      have c3 := Nat.le_of_ble_eq_true c3
      have c4 := Nat.le_of_ble_eq_true c4
      injection h3 with h3; subst h3
      refine ⟨fun _ _ => .str _, fun _ _ => Ab.refl lim H, henter, fun ι w cargs hR hargs => ?_⟩
      obtain ⟨xs, rfl⟩ : ∃ xs : List Value, cargs = xs.toArray := ⟨cargs.toList, by simp⟩
      obtain ⟨al, ar⟩ := hargs
      simp only [List.toList_toArray] at al ar
      match xs, al, ar with
      | [y0, y1], _, ar =>
      have r0 := ar 0 (by simp) (by simp)
      have r1 := ar 1 (by simp) (by simp)
      simp only [List.getElem_cons_zero, List.getElem_cons_succ] at r0 r1
      have e1 := r1.inv_str
      subst e1
      obtain ⟨ds, d1, d2, d3, d4⟩ := hR.loadN h1
      have hll : l.length = n := by have := d2.1; rw [List.length_map] at this; omega
      cases r0 with
      | slEmpty => omega
      | slGo _ _ _ cap hD hlcap hcap =>
        obtain ⟨kb, hkb, hx⟩ := obind_some h1
        have e0 : ι.addr a = ⟨(ι a.block).blk, (ι a.block).off + a.off, none⟩ := rfl
        have hw := walk (ι a.block).blk ((ι a.block).off + a.off) cap l s w c1 c3 c4 (by omega) (fun t u hu => by
            have ht : t < l.length := by
              by_cases ht : t < l.length
              · exact ht
              · rw [List.getElem?_eq_none (by omega)] at hu; simp at hu
            have hdt : t < ds.length := by rw [d1]; omega
            have hr := d2.2 t (by simpa using ht) hdt
            have hu' : l[t] = u := by rw [List.getElem?_eq_getElem ht] at hu; injection hu
            rw [List.getElem_map, hu'] at hr
            have hd : ds[t] = .string u := by
              generalize ds[t] = y at hr ⊢
              cases hr; rfl
            have := d3 t (ds[t]) (List.getElem?_eq_getElem hdt)
            rw [addr_add, hd] at this
            exact this) (hR.lt hkb)
        rw [e0, ← hll]
        refine hw.mono ?_
        rintro e w' ⟨rfl, hb⟩
        exact ⟨ι, _, rfl, Rel.below hR hb, .str _, Fr.below ι H hb⟩
    · simp at h
  · simp at h

end Go.Pv
