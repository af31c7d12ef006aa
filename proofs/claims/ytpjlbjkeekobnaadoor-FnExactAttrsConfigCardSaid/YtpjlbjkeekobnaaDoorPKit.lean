/-
  The kit for programs by value: what an Option-program gives; wraps that do nothing; the cursor's invariant.
  Conditions: none.
-/
import Derived.Test.YtpjlbjkeekobnaaDoorVTop
import Derived.Attr
import Derived.IntWalk
set_option linter.all false
namespace Go.Pv
open Go.Ev

/-- It gives a value, and that fits. -/
def Ok {α : Type} (e : Option α) (Q : α → Prop) : Prop := ∃ a, e = some a ∧ Q a

theorem Ok.some {α : Type} {a : α} {Q : α → Prop} (h : Q a) : Ok (some a) Q := ⟨a, rfl, h⟩
theorem Ok.bind {α β : Type} {e : Option α} {K : α → Option β} {P : α → Prop} {Q : β → Prop} (h : Ok e P) (k : ∀ a, P a → Ok (K a) Q) : Ok (obind e K) Q := by
  obtain ⟨a, rfl, ha⟩ := h; exact k a ha
theorem Ok.oif {α : Type} {b : Bool} {x y : Option α} {Q : α → Prop} (h1 : b = true → Ok x Q) (h2 : b = false → Ok y Q) : Ok (oif b x y) Q := by
  cases b with
  | true => exact h1 rfl
  | false => exact h2 rfl
theorem Ok.mono {α : Type} {e : Option α} {P Q : α → Prop} (h : Ok e P) (k : ∀ a, P a → Q a) : Ok e Q := by
  obtain ⟨a, e, ha⟩ := h; exact ⟨a, e, k a ha⟩
theorem Ok.eq {α : Type} {e : Option α} {a : α} (h : e = Option.some a) {Q : α → Prop} (hq : Q a) : Ok e Q := ⟨a, h, hq⟩
theorem Ok.val {α : Type} {e : Option α} {a : α} (h : Ok e fun b => b = a) : e = Option.some a := by obtain ⟨b, h1, rfl⟩ := h; exact h1

theorem wr {n : Int} (h1 : -9223372036854775808 ≤ n) (h2 : n ≤ 9223372036854775807) : IntKind.i64.wrap n = n := IntWalk.i64_in n ⟨h1, h2⟩

theorem seedByte (s : Int) : 0 ≤ IntKind.i64.wrap (IntKind.u64.wrap ((BitVec.ofInt IntKind.u64.bits s &&& BitVec.ofInt IntKind.u64.bits 255).toNat : Int)) ∧
    IntKind.i64.wrap (IntKind.u64.wrap ((BitVec.ofInt IntKind.u64.bits s &&& BitVec.ofInt IntKind.u64.bits 255).toNat : Int)) < 256 := by
  have h : (BitVec.ofInt IntKind.u64.bits s &&& BitVec.ofInt IntKind.u64.bits 255).toNat < 256 := by
    rw [BitVec.toNat_and]
    have : (BitVec.ofInt IntKind.u64.bits 255).toNat = 255 := by decide
    rw [this]
    exact Nat.lt_of_le_of_lt Nat.and_le_right (by omega)
  rw [IntWalk.u64_in _ (by omega), wr (by omega) (by omega)]
  omega

/-- A cursor after at most m steps. -/
def CurOk (m : Nat) (c : List Int × Int × Int) : Prop := Bytes c.1 ∧ 0 ≤ c.2.1 ∧ c.2.1 ≤ m
theorem CurOk.mono {m n : Nat} {c : List Int × Int × Int} (h : CurOk m c) (hn : m ≤ n) : CurOk n c := ⟨h.1, h.2.1, by have := h.2.2; omega⟩
theorem CurOk.new {x : List Int} (h : Bytes x) : CurOk 0 (x, 0, 0) := ⟨h, by simp, by simp⟩

end Go.Pv
