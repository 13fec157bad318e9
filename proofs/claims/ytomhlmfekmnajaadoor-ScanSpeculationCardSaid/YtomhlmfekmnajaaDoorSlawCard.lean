/- The tied card of ScanSpeculation. -/
import Derived.Test.YtomhlmfekmnajaaDoorSlawRow
import Derived.SevenTiedAt
namespace Go.Proofs.YtomhlmfekmnajaaDoor
open Go
theorem scanSpeculation_holds : Rows.ScanSpeculationCardSaid :=
  Claim7.holds_tied_plain_at .later [] [.data] true (true, "f55614716dcf1522f0d4f2f1e060c584c4463192dd36256782e39f4d8ea08a6a") false
    slaw.over (fun _ h => by cases h) (by kernel_rfl) (fun _ h => by cases h) scanSpeculation_row_tie rfl ⟨rfl, rfl⟩ (by kernel_rfl) rfl
    (fun f fn hf hfn => by
      obtain rfl : f = 6 := Option.some.inj ((show Tryd.prog.funcNamed "ndjq/ndjqlaw20.ScanSpeculation" = some 6 by kernel_rfl).symm.trans hf) |>.symm
      obtain rfl : fn = Tryd.f6 := (Option.some.inj (Tryd.func6.symm.trans hfn)).symm
      exact ⟨by kernel_rfl, fun j t ht => by
        rw [Tryd.params6] at ht
        have hm : t ∈ [9, 3, 23] := by simpa using Array.mem_of_getElem? ht
        have hall : ([9, 3, 23].all fun u => !Tryd.prog.wantsStandIn u) = true := by kernel_rfl
        exact (show Tryd.prog.wantsStandIn t = false by simpa using List.all_eq_true.1 hall t hm)⟩)
    (by kernel_rfl)
#print axioms scanSpeculation_holds
end Go.Proofs.YtomhlmfekmnajaaDoor
