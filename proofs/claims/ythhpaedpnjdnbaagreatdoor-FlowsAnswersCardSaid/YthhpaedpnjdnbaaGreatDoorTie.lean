/-
  DERIVED. GIVEN WITH THE SEED: THE PROGRAM's TIES (one call each: nine closed facts by the kernel) AND EACH ROW's TIE, after the 31st guide's Derived/Test/Toyas{Tie, Card}.lean. No idea stands in it: it is a product of the set-up. Laid BY PROGRAM, IN A SANDBOX (cutbox-door.mjs). By AI agents, Wed Nov 11 2026. No macro, syntax, notation, axiom, sorry.
-/
import Derived.Test.YthhpaedpnjdnbaaGreatDoorRows
import Derived.LaidByTextLater
import Derived.SevenTiedAt
import Derived.LaidSub
import Derived.LaidOnce
namespace Go.Proofs.YthhpaedpnjdnbaaGreatDoor
open Go
set_option maxRecDepth 100000
theorem seatTie1 : Tryz.prog.laidByTextLater [("bitcast/signal.zero", Rows.laid_bitcast_signal_zero), ("bitcast/signal.number", Rows.laid_bitcast_signal_number), ("bitcast/signal.first", Rows.laid_bitcast_signal_first), ("bitcast/signal.group", Rows.laid_bitcast_signal_group)] [.data, .data, .data, .data] true :=
  Program.laidByTextLater_by_one 29 8 3 (by kernel_rfl) (by kernel_rfl) (by kernel_rfl) (by kernel_rfl) (by kernel_rfl) (by kernel_rfl) (fun _ _ => by kernel_rfl)
theorem noOwnUnsafe : Tryz.pinned.checked.prog.headLifts.contains "ownunsafe" = false := by kernel_rfl
theorem tie : Tryz.prog.laidByTextLater [("bitcast/signal.zero", Rows.laid_bitcast_signal_zero), ("bitcast/signal.number", Rows.laid_bitcast_signal_number), ("bitcast/signal.first", Rows.laid_bitcast_signal_first), ("bitcast/signal.group", Rows.laid_bitcast_signal_group)] [.data, .data, .data, .data] true :=
  Program.laidByTextLater.sub seatTie1 ["bitcast/signal.zero", "bitcast/signal.number", "bitcast/signal.first", "bitcast/signal.group"] (by kernel_rfl) (by kernel_rfl)
theorem flowsSettled_row_tie : Rows.flowsSettledRow.laidByTextAt .later Tryz.pinned [.data, .data, .data, .data] true :=
  OpenClaim.laidByTextAt_later rfl rfl tie noOwnUnsafe
theorem flowsPackets_row_tie : Rows.flowsPacketsRow.laidByTextAt .later Tryz.pinned [.data, .data, .data, .data] true :=
  OpenClaim.laidByTextAt_later rfl rfl tie noOwnUnsafe
theorem flowsAnswers_row_tie : Rows.flowsAnswersRow.laidByTextAt .later Tryz.pinned [.data, .data, .data, .data] true :=
  OpenClaim.laidByTextAt_later rfl rfl tie noOwnUnsafe
theorem flowsSettledUpto_row_tie : Rows.flowsSettledUptoRow.laidByTextAt .later Tryz.pinned [.data, .data, .data, .data] true :=
  OpenClaim.laidByTextAt_later rfl rfl tie noOwnUnsafe
theorem flowsPacketsUpto_row_tie : Rows.flowsPacketsUptoRow.laidByTextAt .later Tryz.pinned [.data, .data, .data, .data] true :=
  OpenClaim.laidByTextAt_later rfl rfl tie noOwnUnsafe
theorem flowsAnswersUpto_row_tie : Rows.flowsAnswersUptoRow.laidByTextAt .later Tryz.pinned [.data, .data, .data, .data] true :=
  OpenClaim.laidByTextAt_later rfl rfl tie noOwnUnsafe
end Go.Proofs.YthhpaedpnjdnbaaGreatDoor
