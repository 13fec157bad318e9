/- The row and the tied card of AutomatonMonoid. -/
import Derived.Test.YtomhlmfekmnajaaDoorMon
import Derived.Test.YtomhlmfekmnajaaDoorOpen
import Derived.Test.YtomhlmfekmnajaaDoorCards
import Derived.Test.YtomhlmfekmnajaaDoorTie
import Derived.ChangeOld
namespace Go.Proofs.YtomhlmfekmnajaaDoor.mon
open Go.ChangeShapes Go.WideShapes Go.ChangeAt Go.WideMaps Go.WideElems Go.RowKit
set_option linter.unusedVariables false
theorem own : ownKnob Tryd.prog.godebug = none := by kernel_rfl
theorem laidOut : laidOutB Tryd.prog = true := by kernel_rfl
theorem door_met (os : Os) (args : Array Value) : laidMetH Tryd.prog laid1 ((World.doorLaid Tryd.prog 29 os).forCall (fun _ _ => 0) ⟨#[], args, []⟩).memory :=
  laidMetH_of_parts3 (fuel := 8) (laidMet_of_run' 8 (by kernel_rfl) (by kernel_rfl)) (by kernel_rfl) (by kernel_rfl)

theorem line_le {d : DataW Unit} {l : List Int} {n : Nat} (h : l.length * 8 ≤ n) (hn : n ≤ reachBytes) : l.length ≤ 17592186044416 := by
  unfold reachBytes at hn; omega

set_option maxRecDepth 100000 in
theorem lifted (os : Os) (started : os.Started) (H : Type) (enc : TypeId × Value → H) :
    ReturnsInHanded {} Tryd.checked os 3 .any (fun w args => (Rows.automatonMonoidSpec.pre enc Tryd.prog Tryd.f3 [] false w args ∧ laidMetH Tryd.prog laid1 w) ∧ sizedMet enc Tryd.prog Tryd.f3 (OpenSpec.ofChange Rows.automatonMonoidSpec) false w args)
      (Rows.automatonMonoidSpec.post enc Tryd.prog Tryd.f3 false true false false) := by
  refine returnsInHanded_of_change_and (C := Tryd.checked) (X := fun w _ => laidMetH Tryd.prog laid1 w) (fun _ _ _ hh h => h.of_heap hh) own started (by kernel_rfl) Tryd.func3
    (ChangeSpec.witness_shaped (enc := enc) (C := Tryd.checked) (os := os) (X := fun w _ => laidMetH Tryd.prog laid1 w) false (World.doorLaid Tryd.prog 29 os) #[emptyV, emptyV, emptyV] 8 rfl (World.shaped_of_RefB (by kernel_rfl) (by kernel_rfl)) (by kernel_rfl) (by kernel_rfl) (by kernel_rfl) (door_met os _)) ?_
  intro W base args ds gs before hval0 hW _ hsz0 hL _
  have hsz : (DataW.weightsEach Tryd.prog (Tryd.f3.params.toList ++ Rows.automatonMonoidSpec.plain.varTypes Tryd.prog) (ds ++ gs)).all (· ≤ reachBytes) = true := hsz0
  have hW' := hW
  obtain ⟨p, q, hA0, hV, rfl, hfz, hnd⟩ := hW
  have hA : DataW.TrodAll enc Tryd.prog W 0 (fun _ => true) true Tryd.f3.params.toList args.toList ds p := hA0
  rw [Tryd.params3] at hA hsz
  obtain ⟨v0, v1, v2, d0, d1, d2, p0, p1, p2, rfl, rfl, rfl, h0, h1, h2⟩ := trodAll_three hA
  obtain ⟨rfl, rfl⟩ := trodVars_none hV
  obtain ⟨a, ha, la⟩ := open_su h0
  obtain ⟨b, hb, lb⟩ := open_su h1
  obtain ⟨c, hc, lc⟩ := open_su h2
  have le : ∀ (j : Nat) (d : DataW H), [d0, d1, d2][j]? = some d → ∀ l : List Int, (l = [] ∨ ∃ n ∈ d.weights Tryd.prog 26, l.length * 8 ≤ n) → l.length ≤ 17592186044416 := by
    intro j d hj l hl
    rcases hl with rfl | ⟨n, hn, hle⟩
    · simp
    · have hj3 : j < 3 := by have := (List.getElem?_eq_some_iff.1 hj).1; simpa using this
      have := List.all_eq_true.1 hsz n (DataW.weights_mem_each (j := j) (t := 26) (by
        obtain rfl | rfl | rfl : j = 0 ∨ j = 1 ∨ j = 2 := by omega
        all_goals rfl) (by rw [List.getElem?_append_left (by simpa using hj3)]; exact hj) n hn)
      have := of_decide_eq_true this
      unfold reachBytes at this
      omega
  have k0 := h0
  have k1 := h1
  have k2 := h2
  have lt0 : ∀ x ∈ p0, x.block < W.heap.size := by obtain ⟨m, hm⟩ := k0; exact DataW.trod_lt m _ _ _ hm
  have lt1 : ∀ x ∈ p1, x.block < W.heap.size := by obtain ⟨m, hm⟩ := k1; exact DataW.trod_lt m _ _ _ hm
  have lt2 : ∀ x ∈ p2, x.block < W.heap.size := by obtain ⟨m, hm⟩ := k2; exact DataW.trod_lt m _ _ _ hm
  clear hA0 hsz0
  refine (monoid_any v0 v1 v2 a b c W (of_laid hL) ha hb hc (le 0 d0 rfl _ (la _ (.inl rfl))) (le 0 d0 rfl _ (la _ (.inr (.inl rfl)))) (le 0 d0 rfl _ (la _ (.inr (.inr rfl)))) (le 1 d1 rfl _ (lb _ (.inl rfl))) (le 1 d1 rfl _ (lb _ (.inr (.inl rfl)))) (le 1 d1 rfl _ (lb _ (.inr (.inr rfl)))) (le 2 d2 rfl _ (lc _ (.inl rfl))) (le 2 d2 rfl _ (lc _ (.inr (.inl rfl)))) (le 2 d2 rfl _ (lc _ (.inr (.inr rfl))))).mono fun e W' ⟨he, K⟩ => ?_
  subst he
  have bel : Below W.heap.size W W' := K.below (Nat.le_refl _) (by simp)
  exact ⟨_, rfl, _, _, _, [], _, [], hW', trodAll_mk1 (shut_bool Tryd.underlying4 _), trodAll_mk3 (Below.trod laidOut (by kernel_rfl) (of_decide_eq_true (by kernel_rfl)) k0 bel lt0) (Below.trod laidOut (by kernel_rfl) (of_decide_eq_true (by kernel_rfl)) k1 bel lt1) (Below.trod laidOut (by kernel_rfl) (of_decide_eq_true (by kernel_rfl)) k2 bel lt2), rfl, bel.frame _, fun h => by cases h⟩
theorem over : Rows.AutomatonMonoidSaid :=
  OpenClaim.holds_of_wide 3 Tryd.f3 rfl rfl rfl rfl rfl rfl rfl ⟨rfl, rfl, rfl, rfl, rfl⟩ rfl rfl rfl rfl rfl (by kernel_rfl) Tryd.func3 (by kernel_rfl)
    (of_decide_eq_true (by kernel_rfl)) (by unfold Func.isWrapper; first | (rw [if_pos (by decide +kernel)]; kernel_rfl) | (rw [if_neg (by decide +kernel)]; exact ⟨rfl, rfl⟩))
    (fun os started H enc _ => lifted os started H enc)
#print axioms over
end Go.Proofs.YtomhlmfekmnajaaDoor.mon
