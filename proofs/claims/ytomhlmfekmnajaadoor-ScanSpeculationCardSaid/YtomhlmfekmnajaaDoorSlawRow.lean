/- The row of ScanSpeculation. -/
import Derived.Test.YtomhlmfekmnajaaDoorSLaw
import Derived.Test.YtomhlmfekmnajaaDoorOpens
import Derived.Test.YtomhlmfekmnajaaDoorCards
import Derived.Test.YtomhlmfekmnajaaDoorTie
import Derived.ChangeOld
import Derived.Carry
import Derived.ChangeMaps5
namespace Go.Proofs.YtomhlmfekmnajaaDoor.slaw
open Go.ChangeShapes Go.WideShapes Go.ChangeAt Go.WideMaps Go.WideElems Go.RowKit Go.ChangeMaps
set_option linter.unusedVariables false
theorem own : ownKnob Tryd.prog.godebug = none := by kernel_rfl
theorem laidOut : laidOutB Tryd.prog = true := by kernel_rfl
theorem door_met (os : Os) (args : Array Value) : laidMetH Tryd.prog laid1 ((World.doorLaid Tryd.prog 29 os).forCall (fun _ _ => 0) ⟨#[], args, []⟩).memory :=
  laidMetH_of_parts3 (fuel := 8) (laidMet_of_run' 8 (by kernel_rfl) (by kernel_rfl)) (by kernel_rfl) (by kernel_rfl)

set_option maxRecDepth 100000 in
theorem lifted (os : Os) (started : os.Started) (H : Type) (enc : TypeId × Value → H) :
    ReturnsInHanded {} Tryd.checked os 6 .any (fun w args => (Rows.scanSpeculationSpec.pre enc Tryd.prog Tryd.f6 [] false w args ∧ laidMetH Tryd.prog laid1 w) ∧ sizedMet enc Tryd.prog Tryd.f6 (OpenSpec.ofChange Rows.scanSpeculationSpec) false w args)
      (Rows.scanSpeculationSpec.post enc Tryd.prog Tryd.f6 false true false false) := by
  refine returnsInHanded_of_change_and (C := Tryd.checked) (X := fun w _ => laidMetH Tryd.prog laid1 w) (fun _ _ _ hh h => h.of_heap hh) own started (by kernel_rfl) Tryd.func6
    (ChangeSpec.witness_shaped (enc := enc) (C := Tryd.checked) (os := os) (X := fun w _ => laidMetH Tryd.prog laid1 w) false (World.doorLaid Tryd.prog 29 os) #[.string ⟨#[]⟩, .int .i64 0, .slice none 0 0] 8 rfl (World.shaped_of_RefB (by kernel_rfl) (by kernel_rfl)) (by kernel_rfl) (by kernel_rfl) (by kernel_rfl) (door_met os _)) ?_
  intro W base args ds gs before hval0 hW _ hsz0 hL _
  have hsz : (DataW.weightsEach Tryd.prog (Tryd.f6.params.toList ++ Rows.scanSpeculationSpec.plain.varTypes Tryd.prog) (ds ++ gs)).all (· ≤ reachBytes) = true := hsz0
  have hW' := hW
  obtain ⟨p, q, hA0, hV, rfl, hfz, hnd⟩ := hW
  have hA : DataW.TrodAll enc Tryd.prog W 0 (fun _ => true) true Tryd.f6.params.toList args.toList ds p := hA0
  rw [Tryd.params6] at hA hsz
  obtain ⟨v0, v1, v2, d0, d1, d2, p0, p1, p2, rfl, rfl, rfl, h0, h1, h2⟩ := trodAll_three hA
  obtain ⟨rfl, rfl⟩ := trodVars_none hV
  have big : ∀ (j : Nat) (d : DataW H) (t : TypeId), [9, 3, 23][j]? = some t → [d0, d1, d2][j]? = some d → ∀ n ∈ d.weights Tryd.prog t, n ≤ reachBytes := by
    intro j d t ht hj n hn
    have hjn : j < 3 := by have := (List.getElem?_eq_some_iff.1 hj).1; simpa using this
    exact of_decide_eq_true (List.all_eq_true.1 hsz n (DataW.weights_mem_each (j := j) (t := t) (by
      rw [List.getElem?_append_left (by simpa using hjn)]; exact ht) (by rw [List.getElem?_append_left (by simpa using hjn)]; exact hj) n hn))
  have le : ∀ (j : Nat) (d : DataW H) (t : TypeId), [9, 3, 23][j]? = some t → [d0, d1, d2][j]? = some d → ∀ l : List Int, (l = [] ∨ ∃ n ∈ d.weights Tryd.prog t, l.length * 8 ≤ n) → l.length ≤ 17592186044416 := by
    intro j d t ht hj l hl
    rcases hl with rfl | ⟨n, hn, hle⟩
    · simp
    · have := big j d t ht hj n hn
      unfold reachBytes at this
      omega
  have leS : ∀ (j : Nat) (d : DataW H) (t : TypeId), [9, 3, 23][j]? = some t → [d0, d1, d2][j]? = some d → ∀ m : Nat, m ∈ d.weights Tryd.prog t → m ≤ 140737488351232 := by
    intro j d t ht hj m hm
    have := big j d t ht hj m hm
    unfold reachBytes at this
    omega
  have k0 := h0
  have lt0 : ∀ x ∈ p0, x.block < W.heap.size := by obtain ⟨m, hm⟩ := k0; exact DataW.trod_lt m _ _ _ hm
  have k1 := h1
  have lt1 : ∀ x ∈ p1, x.block < W.heap.size := by obtain ⟨m, hm⟩ := k1; exact DataW.trod_lt m _ _ _ hm
  have k2 := h2
  have lt2 : ∀ x ∈ p2, x.block < W.heap.size := by obtain ⟨m, hm⟩ := k2; exact DataW.trod_lt m _ _ _ hm
  obtain ⟨a0, rfl, rfl, rfl, hm0⟩ := open_string Tryd.underlying9 (hval0 0 9 _ rfl rfl) h0
  have lb0 : a0.size ≤ 140737488351232 := by have := leS 0 _ 9 rfl rfl a0.data.toList.length (by simp [DataW.weights]); simpa using this
  obtain ⟨a1, rfl, rfl, rfl, hr1⟩ := open_int Tryd.underlying3 (hval0 1 3 _ rfl rfl) h1
  obtain ⟨a2, ha2, la2⟩ := open_line' (okWide_slice Tryd.underlying23 (hval0 2 23 v2 rfl rfl)) h2
  have lb2 : a2.length ≤ 17592186044416 := le 2 d2 23 rfl rfl _ la2
  clear hA0 hsz0
  refine (slaw_any a0 a1 v2 a2 W (of_laid hL) lb0 hr1 ha2 lb2).mono fun e W' ⟨he, K⟩ => ?_
  subst he
  have bel : Below W.heap.size W W' := K.below (Nat.le_refl _) (by simp)
  exact ⟨_, rfl, _, _, _, [], _, [], hW', trodAll_mk1 (shut_bool Tryd.underlying4 _), trodAll_mk3 (Below.trod laidOut (by kernel_rfl) (of_decide_eq_true (by kernel_rfl)) k0 bel lt0) (Below.trod laidOut (by kernel_rfl) (of_decide_eq_true (by kernel_rfl)) k1 bel lt1) (Below.trod laidOut (by kernel_rfl) (of_decide_eq_true (by kernel_rfl)) k2 bel lt2), rfl, bel.frame _, fun h => by cases h⟩
theorem over : Rows.ScanSpeculationSaid :=
  OpenClaim.holds_of_wide 6 Tryd.f6 rfl rfl rfl rfl rfl rfl rfl ⟨rfl, rfl, rfl, rfl, rfl⟩ rfl rfl rfl rfl rfl (by kernel_rfl) Tryd.func6 (by kernel_rfl)
    (of_decide_eq_true (by kernel_rfl)) (by unfold Func.isWrapper; first | (rw [if_pos (by decide +kernel)]; kernel_rfl) | (rw [if_neg (by decide +kernel)]; exact ⟨rfl, rfl⟩))
    (fun os started H enc _ => lifted os started H enc)
#print axioms over
end Go.Proofs.YtomhlmfekmnajaaDoor.slaw
