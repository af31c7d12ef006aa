/-
  DERIVED. GIVEN WITH THE SEED: THE PROGRAM's TIES (one call each: nine closed facts by the kernel) AND EACH ROW's TIE, after the 31st guide's Derived/Test/Toyas{Tie, Card}.lean. No idea stands in it: it is a product of the set-up. Laid BY PROGRAM, IN A SANDBOX (cutbox-door.mjs). By AI agents, Wed Nov 11 2026. No macro, syntax, notation, axiom, sorry.
-/
import Derived.Test.YtpjlbjkeekobnaaDoorRows
import Derived.LaidByTextLater
import Derived.SevenTiedAt
import Derived.LaidSub
import Derived.LaidOnce
namespace Go.Proofs.YtpjlbjkeekobnaaDoor
open Go
set_option maxRecDepth 100000
theorem seatTie1 : Tryd.prog.laidByTextLater [("loop.example/g00838/impl.keyWords", Rows.laid_loop_example_g00838_impl_keyWords), ("loop.example/g00838/impl.signTexts", Rows.laid_loop_example_g00838_impl_signTexts)] [.data, .data] true :=
  Program.laidByTextLater_by_one 19 8 15 (by kernel_rfl) (by kernel_rfl) (by kernel_rfl) (by kernel_rfl) (by kernel_rfl) (by kernel_rfl) (fun _ _ => by kernel_rfl)
theorem noOwnUnsafe : Tryd.pinned.checked.prog.headLifts.contains "ownunsafe" = false := by kernel_rfl
theorem tie : Tryd.prog.laidByTextLater [("loop.example/g00838/impl.keyWords", Rows.laid_loop_example_g00838_impl_keyWords), ("loop.example/g00838/impl.signTexts", Rows.laid_loop_example_g00838_impl_signTexts)] [.data, .data] true :=
  Program.laidByTextLater.sub seatTie1 ["loop.example/g00838/impl.keyWords", "loop.example/g00838/impl.signTexts"] (by kernel_rfl) (by kernel_rfl)
theorem fnExactParseFilter_row_tie : Rows.fnExactParseFilterRow.laidByTextAt .later Tryd.pinned [.data, .data] true :=
  OpenClaim.laidByTextAt_later rfl rfl tie noOwnUnsafe
theorem fnExactParseLeaf_row_tie : Rows.fnExactParseLeafRow.laidByTextAt .later Tryd.pinned [.data, .data] true :=
  OpenClaim.laidByTextAt_later rfl rfl tie noOwnUnsafe
theorem tie2 : Tryd.prog.laidByTextLater [("loop.example/g00838/impl.keyWords", Rows.laid_loop_example_g00838_impl_keyWords)] [.data] true :=
  Program.laidByTextLater.sub seatTie1 ["loop.example/g00838/impl.keyWords"] (by kernel_rfl) (by kernel_rfl)
theorem fnExactAttrsConfig_row_tie : Rows.fnExactAttrsConfigRow.laidByTextAt .later Tryd.pinned [.data] true :=
  OpenClaim.laidByTextAt_later rfl rfl tie2 noOwnUnsafe
theorem fnExactParseFilterUpto_row_tie : Rows.fnExactParseFilterUptoRow.laidByTextAt .later Tryd.pinned [.data, .data] true :=
  OpenClaim.laidByTextAt_later rfl rfl tie noOwnUnsafe
theorem fnExactParseLeafUpto_row_tie : Rows.fnExactParseLeafUptoRow.laidByTextAt .later Tryd.pinned [.data, .data] true :=
  OpenClaim.laidByTextAt_later rfl rfl tie noOwnUnsafe
theorem fnExactAttrsConfigUpto_row_tie : Rows.fnExactAttrsConfigUptoRow.laidByTextAt .later Tryd.pinned [.data] true :=
  OpenClaim.laidByTextAt_later rfl rfl tie2 noOwnUnsafe
end Go.Proofs.YtpjlbjkeekobnaaDoor
