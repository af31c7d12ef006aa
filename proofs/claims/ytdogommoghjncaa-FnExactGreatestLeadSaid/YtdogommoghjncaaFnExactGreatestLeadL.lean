/-
  The law FnExactGreatestLead by value.
  Conditions: lengths fit an int.
-/
import Derived.Test.YtdogommoghjncaaFnExactGreatestLeadK
import Derived.Test.YtdogommoghjncaaVAny
set_option linter.all false
namespace Go.Proofs.Ytdogommoghjncaa
open Go.Ev Go.Pv

theorem law_main {d : Nat} {f : Fa} {n : Int} (h1 : f.2.2.1.length ≤ 9223372036854775807) (h2 : ∀ q ∈ f.2.2.1, q.length ≤ 9223372036854775807) (h3 : f.2.2.2.1.length ≤ 9223372036854775807) : g8 (d + 11) f n = some true := by
  rw [e8]
  obtain ⟨r, hr, hB⟩ := p_szFair (d := d + 7) h1 h2 h3
  rw [hr, ob_s]
  by_cases h : r < 0
  · rw [decide_eq_true h, oif_t]
  · rw [decide_eq_false h, oif_f]
    have hB : faB f := by rcases hB with hB | hB; exact absurd hB h; exact hB
    rw [q_toFair hB, ob_s, q_sGreatestLead hB, ob_s, ob_s, q_GreatestLead hB, ob_s, bne_self_eq_false, oif_f, beq_self_eq_true, Bool.not_true, oif_f, ob_s, q_eqFair hB, ob_s, Bool.not_true, oif_f]

def tysLaw : List Ty := [(.pair (.int .i64) (.pair (.int .i64) (.pair (.sl (.sl (.pair (.int .i64) (.pair (.int .i64) (.pair (.int .i64) (.pair (.int .i64) (.pair (.int .i64) (.int .i64)))))))) (.pair (.sl (.int .i64)) (.pair (.int .i64) .bool))))), .int .i64]

theorem lawAny : LawAny Try.prog pvAnn (11) 8 tysLaw :=
  ⟨rfl, rfl, rfl, fun a h => by
    obtain ⟨f, n⟩ := a
    have hf := h ⟨(.pair (.int .i64) (.pair (.int .i64) (.pair (.sl (.sl (.pair (.int .i64) (.pair (.int .i64) (.pair (.int .i64) (.pair (.int .i64) (.pair (.int .i64) (.int .i64)))))))) (.pair (.sl (.int .i64)) (.pair (.int .i64) .bool))))), f⟩ (List.Mem.head _)
    exact ⟨true, law_main (d := 0) hf.2.2.1.1 (fun q hq => (hf.2.2.1.2 q hq).1) hf.2.2.2.1.1, rfl⟩⟩

end Go.Proofs.Ytdogommoghjncaa
