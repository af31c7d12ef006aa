/-
  The law FnExactJoinScripts by value.
  Conditions: none.
-/
import Derived.Test.YtbciiigglpmlmaaDoorFnExactJoinScriptsK
import Derived.Test.YtbciiigglpmlmaaDoorVAny
set_option linter.all false
namespace Go.Proofs.YtbciiigglpmlmaaDoor
open Go.Ev Go.Pv

theorem law_main {d : Nat} {a b : ByteArray} : g3 (d + 6) a b = some true := by
  rw [e3, bl_len, bl_len]
  by_cases ha : (bl a).length ≤ 1048576
  · rw [decide_eq_false (show ¬ (((bl a).length : Nat) : Int) > 1048576 by omega), oif_f]
    by_cases hb : (bl b).length ≤ 1048576
    · rw [decide_eq_false (show ¬ (((bl b).length : Nat) : Int) > 1048576 by omega), oif_f, q_sJoinScripts ha hb, ob_s, q_JoinScripts ha hb, ob_s, bl_eq, decide_eq_true rfl, Bool.not_true, oif_f, beq_self_eq_true, Bool.not_true, oif_f]
    · rw [decide_eq_true (show (((bl b).length : Nat) : Int) > 1048576 by omega), oif_t]
  · rw [decide_eq_true (show (((bl a).length : Nat) : Int) > 1048576 by omega), oif_t]

def tysLaw : List Ty := [.str, .str]

theorem lawAny : LawAny Tryd.prog pvAnn (6) 3 tysLaw :=
  ⟨rfl, rfl, rfl, fun a _ => ⟨true, law_main (d := 0), rfl⟩⟩

end Go.Proofs.YtbciiigglpmlmaaDoor
