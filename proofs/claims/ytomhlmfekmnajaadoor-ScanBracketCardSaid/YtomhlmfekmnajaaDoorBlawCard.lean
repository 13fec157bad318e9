/- The tied card of ScanBracket. -/
import Derived.Test.YtomhlmfekmnajaaDoorBlawRow
import Derived.SevenTiedAt
namespace Go.Proofs.YtomhlmfekmnajaaDoor
open Go
theorem scanBracket_holds : Rows.ScanBracketCardSaid :=
  Claim7.holds_tied_plain_at .later [] [.data] true (true, "f55614716dcf1522f0d4f2f1e060c584c4463192dd36256782e39f4d8ea08a6a") false
    blaw.over (fun _ h => by cases h) (by kernel_rfl) (fun _ h => by cases h) scanBracket_row_tie rfl ⟨rfl, rfl⟩ (by kernel_rfl) rfl
    (fun f fn hf hfn => by
      obtain rfl : f = 5 := Option.some.inj ((show Tryd.prog.funcNamed "ndjq/ndjqlaw20.ScanBracket" = some 5 by kernel_rfl).symm.trans hf) |>.symm
      obtain rfl : fn = Tryd.f5 := (Option.some.inj (Tryd.func5.symm.trans hfn)).symm
      exact ⟨by kernel_rfl, fun j t ht => by
        rw [Tryd.params5] at ht
        have hm : t ∈ [34, 23] := by simpa using Array.mem_of_getElem? ht
        have hall : ([34, 23].all fun u => !Tryd.prog.wantsStandIn u) = true := by kernel_rfl
        exact (show Tryd.prog.wantsStandIn t = false by simpa using List.all_eq_true.1 hall t hm)⟩)
    (by kernel_rfl)
#print axioms scanBracket_holds
end Go.Proofs.YtomhlmfekmnajaaDoor
