/-
  The function of the row starts no goroutine. For this one row and program; no condition.
-/
import Derived.Test.YtaigaoiedjccgaaGreatDoorFcC
import Derived.SevenTiedAt
set_option linter.unusedVariables false
set_option linter.unusedSimpArgs false

namespace Go.Proofs.YtaigaoiedjccgaaGreatDoor
/-- A row that enters a function that starts no goroutine has the cell so. -/
theorem goesBy_false {c : OpenClaim} {P : Program} {f : FuncId} (hs : c.start = .entering) (hn : P.funcNamed c.func = some f) (hg : P.goes f = false) : false = c.goesBy P := by
  unfold OpenClaim.goesBy Program.goesAt Program.goesFrom
  rw [hs, hn]
  simp [hg]
/-- What a function starts, over its closure and the cell 'unfollowed' given. -/
theorem goes_false {P : Program} {f : FuncId} {L : List FuncId} (hc : P.closure f = L) (h1 : (L.any fun g => (P.funcs[g]?).any Func.goes) = false) (h2 : P.funcs.any Func.goes = false) : P.goes f = false := by
  unfold Program.goes
  rw [hc, h1, h2]
  simp
theorem goes_one : (cloL.any fun g => (Tryz.pinned.checked.prog.funcs[g]?).any Func.goes) = false := by kernel_rfl
theorem goes_all : Tryz.pinned.checked.prog.funcs.any Func.goes = false := by kernel_rfl
/-- The row's function starts no goroutine. -/
theorem goes3 : Tryz.pinned.checked.prog.goes 3 = false := goes_false clo goes_one goes_all
/-- The row's function is the program's function 3. -/
theorem named3 : Tryz.pinned.checked.prog.funcNamed Rows.recordRoundTripRow.func = some 3 := by kernel_rfl
/-- The row's cell on goroutines. -/
theorem goesRow : false = Rows.recordRoundTripRow.goesBy Tryz.pinned.checked.prog := goesBy_false rfl named3 goes3
end Go.Proofs.YtaigaoiedjccgaaGreatDoor
