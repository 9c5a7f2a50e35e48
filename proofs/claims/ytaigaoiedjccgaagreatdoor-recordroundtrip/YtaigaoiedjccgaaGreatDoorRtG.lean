/-
  The card of RecordRoundTrip: the function answers true for every recording and every text. The package variables that the row lists start as the text of the program lays them.
-/
import Derived.Test.YtaigaoiedjccgaaGreatDoorRtC
import Derived.Test.YtaigaoiedjccgaaGreatDoorRtD
import Derived.Test.YtaigaoiedjccgaaGreatDoorRtE
import Derived.Test.YtaigaoiedjccgaaGreatDoorRtF
import Derived.Test.YtaigaoiedjccgaaGreatDoorRows
import Derived.Test.YtaigaoiedjccgaaGreatDoorTie
import Derived.Test.YtaigaoiedjccgaaGreatDoorCards
import Derived.SevenTiedAt
import Derived.KernelRfl
set_option linter.unusedVariables false
set_option linter.unusedSimpArgs false

namespace Go.Proofs.YtaigaoiedjccgaaGreatDoor
/-- The card of RecordRoundTrip. -/
theorem card_holds : Rows.RecordRoundTripCardSaid :=
  Claim7.holds_tied_plain_at .later [] [.data, .pinned] true (true, "d252fc514e6e14f44ccbd863b2c21da5def17f1c10f1690422b4c21fe8038883") true over (fun _ h => by cases h) wfRow (fun _ h => by cases h) recordRoundTrip_row_tie rfl ⟨rfl, rfl⟩ mainRow rfl
    (fun f fn hf hfn => by
      obtain rfl : f = 3 := Option.some.inj (hf.symm.trans named3)
      obtain rfl : fn = Tryz.f3 := (Option.some.inj (Tryz.func3.symm.trans hfn)).symm
      exact ⟨looksRow, fun j t ht => by
        rw [Tryz.params3] at ht
        have hm : t ∈ [25, 9] := by simpa using Array.mem_of_getElem? ht
        exact (show Tryz.prog.wantsStandIn t = false by simpa using List.all_eq_true.1 standRow t hm)⟩)
    goesRow
#print axioms card_holds
end Go.Proofs.YtaigaoiedjccgaaGreatDoor
