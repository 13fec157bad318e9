/- The sanity check of the chapter on scan. -/
import Derived.Test.YtomhlmfekmnajaaDoorRecords
namespace Go.Proofs.YtomhlmfekmnajaaDoor
open Go.RowKit
set_option linter.unusedVariables false
set_option linter.unusedSimpArgs false

abbrev s6 : ByteArray := ⟨#[49, 10, 50, 50, 10, 51]⟩
theorem chunks5 : chunksOf 5 2 = ([(0, 2), (2, 4), (4, 5)], 0) := by decide +kernel
theorem sums6v : (sumsOf s6 2).all Su.valid = true := by decide +kernel
theorem sums6l : lenSum (sumsOf s6 2) = s6.size := by decide +kernel
theorem rec6 : recordsOf s6.size (sumsOf s6 2) = [(0, 1), (2, 4), (5, 6)] := by decide +kernel

set_option maxHeartbeats 1000000 in
set_option maxRecDepth 100000 in
theorem awakeS_any (w : World) (hM : Moves w) : Calls Tryd.prog 21 #[] w fun e w' => e = .returned (.bool true) ∧ Keep [] w w' := by
  have HM := Lib.hid hM
  clear hM
  go_enter Tryd.func21, Tryd.ntmps21
  go_wp2_with fail
  refine (chunks_any 5 2 _).mono ?_
  rintro e w1 ⟨v1, rfl, h1, K1, -⟩
  rw [chunks5] at h1 ⊢
  have H1 := Lib.hid h1
  have HK1 := Lib.hid K1
  clear h1 K1
  go_wp2_with fail
  refine (records_any s6 2 _ (HM.out.keep HK1.out) (by decide) (by decide) (by decide) sums6v sums6l).mono ?_
  rintro e w2 ⟨v2, rfl, h2, K2, -⟩
  rw [rec6] at h2
  have HK2 := Lib.hid (HK1.out.trans K2)
  have H1' := Lib.hid (H1.out.keep K2)
  obtain ⟨A2, c2, rfl⟩ := h2.shape
  have hl : ([(0, 1), (2, 4), (5, 6)] : List (Int × Int)).length = 3 := rfl
  rw [hl]
  clear h2 K2 hl H1
  go_wp2_with fail
  have hlit : SpRow (w2.alloc (.cells #[.int .i64 0, .int .i64 2, .int .i64 2, .int .i64 4, .int .i64 4, .int .i64 5] 77)) (.slice (some ⟨w2.heap.size, 0, none⟩) 3 3) [(0, 2), (2, 4), (4, 5)] :=
    SpRow.of_own (World.ownsRow_lit (base := 0) (e := 77) (size := 2) w2 #[.int .i64 0, .int .i64 2, .int .i64 2, .int .i64 4, .int .i64 4, .int .i64 5] 3 (Nat.zero_le _) (by decide) rfl)
  refine (spans_any _ _ [(0, 2), (2, 4), (4, 5)] [(0, 2), (2, 4), (4, 5)] true rfl _ (H1'.out.keep ((Keep.refl [] w2).alloc _)) hlit).mono ?_
  rintro e w3 ⟨rfl, m, rfl⟩
  clear hlit
  go_wp2_with fail
  go_ret
  exact ⟨rfl, (HK2.out.alloc _).drewN _⟩
end Go.Proofs.YtomhlmfekmnajaaDoor
