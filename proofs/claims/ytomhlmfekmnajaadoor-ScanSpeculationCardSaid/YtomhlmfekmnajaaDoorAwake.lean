/- The sanity check of the automaton's chapter. -/
import Derived.Test.YtomhlmfekmnajaaDoorSumz
import Derived.Test.YtomhlmfekmnajaaDoorSame
namespace Go.Proofs.YtomhlmfekmnajaaDoor
open Go.RowKit
set_option linter.unusedVariables false

theorem awake_sum : summarize (bytesOf ⟨#[97, 34, 10]⟩) = (⟨3, 1, 0, 0, [], [2], [2]⟩, 0) := by decide +kernel

theorem lit_ints (w : World) (x : Int) : Ints (w.alloc (.cells #[.int .i64 x] 3)) (.slice (some ⟨w.heap.size, 0, none⟩) 1 1) [x] :=
  Ints.of_row (Row.of_own (World.ownsRow_lit (base := 0) (e := 3) (size := 1) w #[.int .i64 x] 1 (Nat.zero_le _) (by decide) rfl))

theorem Ints.shape {w : World} {v : Value} {xs : List Int} (h : Ints w v xs) {n : Nat} (hn : xs.length = n) : ∃ A c, v = .slice A n c := by
  obtain ⟨A, c, rfl, _⟩ := h
  exact ⟨A, c, by rw [hn]⟩

set_option maxHeartbeats 1000000 in
set_option maxRecDepth 100000 in
theorem awake_any (w : World) (hM : Moves w) : Calls Tryd.prog 12 #[] w fun e w' => e = .returned (.bool true) ∧ Keep [] w w' := by
  go_enter Tryd.func12, Tryd.ntmps12
  go_wp2_with fail
  refine (summarize_any _ _ hM (by decide)).mono ?_
  rintro e w1 ⟨v, rfl, hv, K1, -⟩
  rw [awake_sum] at hv ⊢
  obtain ⟨s0, s1, s2, rfl, h0, h1, h2⟩ := hv
  obtain ⟨A0, c0, rfl⟩ := h0.shape (n := 0) rfl
  obtain ⟨A1, c1, rfl⟩ := h1.shape (n := 1) rfl
  obtain ⟨A2, c2, rfl⟩ := h2.shape (n := 1) rfl
  clear h0
  have HK1 := Lib.hid K1
  have H1 := Lib.hid h1
  have H2 := Lib.hid h2
  clear K1 h1 h2 hM
  have hq : ∀ W : World, (Op.equalIn 10000 22 (.agg #[.int .i64 1, .int .i64 0, .int .i64 0]) (.agg #[.int .i64 1, .int .i64 0, .int .i64 0])).run Tryd.prog W = .ok true W := fun W => eq22 1 0 0 1 0 0 W
  go_wp2_with fail
  have k2 : Keep [] w1 ((w1.alloc (.cells #[.int .i64 3, .int .i64 1, .int .i64 0, .int .i64 0, .slice A0 0 c0, .slice A1 1 c1, .slice A2 1 c2] 26)).alloc (.cells #[.int .i64 2] 3)) := ((Keep.refl [] w1).alloc _).alloc _
  have B1 := Lib.hid ((Blk.new w1 #[.int .i64 3, .int .i64 1, .int .i64 0, .int .i64 0, .slice A0 0 c0, .slice A1 1 c1, .slice A2 1 c2] 26).alloc (.cells #[.int .i64 2] 3))
  have l2 := lit_ints (w1.alloc (.cells #[.int .i64 3, .int .i64 1, .int .i64 0, .int .i64 0, .slice A0 0 c0, .slice A1 1 c1, .slice A2 1 c2] 26)) 2
  rw [World.size_alloc] at l2
  have K2 := Lib.hid k2
  clear k2
  refine (ints_any (.slice A1 1 c1) (.slice (some ⟨w1.heap.size + 1, 0, none⟩) 1 1) [2] [2] true rfl _ (H1.out.keep K2.out) l2).mono ?_
  clear l2
  rintro e w2 ⟨rfl, m, hw⟩
  have k3 : Keep [] w1 w2 := by rw [hw]; exact K2.out.drewN m
  have B2 : Blk w2 w1.heap.size 26 [.int .i64 3, .int .i64 1, .int .i64 0, .int .i64 0, .slice A0 0 c0, .slice A1 1 c1, .slice A2 1 c2] := by rw [hw]; exact B1.out.drewN m
  have b6 := B2.cell 6 _ rfl
  have hsz := B2.lt
  have K3 := Lib.hid k3
  clear hw k3 B2 B1 K2
  go_wp2_with fail
  refine (ints_any (.slice A2 1 c2) (.slice (some ⟨w2.heap.size, 0, none⟩) 1 1) [2] [2] true rfl _ (H2.out.keep (K3.out.alloc _)) (lit_ints w2 2)).mono ?_
  rintro e w3 ⟨rfl, m3, hw⟩
  have k4 : Keep [] w1 w3 := by rw [hw]; exact (K3.out.alloc _).drewN m3
  have K4 := Lib.hid k4
  clear hw k4
  go_wp2_with fail
  go_ret
  exact ⟨rfl, HK1.out.trans K4.out⟩
end Go.Proofs.YtomhlmfekmnajaaDoor
