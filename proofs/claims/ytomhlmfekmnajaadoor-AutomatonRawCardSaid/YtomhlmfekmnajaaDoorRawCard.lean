/- The tied card of AutomatonRaw. -/
import Derived.Test.YtomhlmfekmnajaaDoorRawRow
import Derived.SevenTiedAt
namespace Go.Proofs.YtomhlmfekmnajaaDoor
open Go
theorem automatonRaw_holds : Rows.AutomatonRawCardSaid :=
  Claim7.holds_tied_plain_at .later [] [.data] true (true, "f55614716dcf1522f0d4f2f1e060c584c4463192dd36256782e39f4d8ea08a6a") false
    raw.over (fun _ h => by cases h) (by kernel_rfl) (fun _ h => by cases h) automatonRaw_row_tie rfl ⟨rfl, rfl⟩ (by kernel_rfl) rfl
    (fun f fn hf hfn => by
      obtain rfl : f = 4 := Option.some.inj ((show Tryd.prog.funcNamed "ndjq/ndjqlaw18.AutomatonRaw" = some 4 by kernel_rfl).symm.trans hf) |>.symm
      obtain rfl : fn = Tryd.f4 := (Option.some.inj (Tryd.func4.symm.trans hfn)).symm
      exact ⟨by kernel_rfl, fun j t ht => by
        rw [Tryd.params4] at ht
        have hm : t ∈ [34] := by simpa using Array.mem_of_getElem? ht
        have hall : ([34].all fun u => !Tryd.prog.wantsStandIn u) = true := by kernel_rfl
        exact (show Tryd.prog.wantsStandIn t = false by simpa using List.all_eq_true.1 hall t hm)⟩)
    (by kernel_rfl)
#print axioms automatonRaw_holds
end Go.Proofs.YtomhlmfekmnajaaDoor
