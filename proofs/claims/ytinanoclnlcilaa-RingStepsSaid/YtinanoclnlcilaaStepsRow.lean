/- The row of RingSteps. For every input the law returns true, and each argument reads afterwards as it read before. -/
import Derived.Test.YtinanoclnlcilaaSteps
import Derived.ProofKit
import Derived.OpenShut
import Derived.ShutString
import Derived.ChangeOld
import Derived.SizedLaws
namespace Go.Proofs.Ytinanoclnlcilaa.ringSteps
open Go.ChangeShapes Go.WideShapes Go.ChangeAt Go.RowKit
open Go.ChangeMaps (open_string shut_string)
set_option linter.unusedVariables false
theorem own : ownKnob Try.prog.godebug = none := by kernel_rfl
theorem laidOut : laidOutB Try.prog = true := by kernel_rfl

theorem argRow_of {W : World} {x : Addr} {l c : Nat} {zs : List Int} (hl : l ≤ c) (hz : zs.length = c) (hcell : ∀ i, i < zs.length → W.cell? (x.add i) = some (.int .i64 (zs.getD i 0))) : ArgRow W (some x) (zs.take l) := by
  intro k y hk
  have hkl : k < l := by
    have := (List.getElem?_eq_some_iff.1 hk).1
    simp at this; omega
  have hkz : k < zs.length := by omega
  have h1 := hcell k hkz
  have hy : y = zs.getD k 0 := by
    rw [List.getElem?_take_of_lt hkl] at hk
    simp [List.getD, hk]
  have h0 := hcell 0 (by omega)
  obtain ⟨g, off, spot⟩ := x
  have hs : spot = none := by
    cases spot with
    | none => rfl
    | some s =>
      exfalso
      simp only [Addr.add, if_true] at h0
      simp [World.cell?] at h0
      split at h0 <;> simp at h0
  subst hs
  refine ⟨g, off, rfl, ?_⟩
  rw [addr_add] at h1
  rw [h1, hy]

set_option maxRecDepth 100000 in
theorem lifted (os : Os) (started : os.Started) (H : Type) (enc : TypeId × Value → H) :
    ReturnsInHanded {} Try.checked os 4 .any (Rows.ringStepsSpec.pre6 enc Try.prog Try.f4 Rows.ringStepsRow.domain false) (Rows.ringStepsSpec.post enc Try.prog Try.f4 false true false false) := by
  refine returnsInHanded_of_change_sized (C := Try.checked) own started (by kernel_rfl) Try.func4
    (ChangeSpec.witness6 (enc := enc) (C := Try.checked) false ⟨#[], #[.int .i64 0, .slice none 0 0], []⟩ 8 (by kernel_rfl) (by kernel_rfl) (by kernel_rfl) (by kernel_rfl)) ?_
  intro W base args ds gs before hval0 hW hcnd hsz0 _
  have hsz : (DataW.weightsEach Try.prog (Try.f4.params.toList ++ Rows.ringStepsSpec.plain.varTypes Try.prog) (ds ++ gs)).all (· ≤ reachBytes) = true := hsz0
  have hval : ∀ (j : Nat) t v, Try.f4.params[j]? = some t → args[j]? = some v → Value.okWide Try.prog W .any base t v := hval0
  have hW' := hW
  obtain ⟨p, q, hA0, hV, rfl, hfz, hnd⟩ := hW
  have hA : DataW.TrodAll enc Try.prog W 0 (fun _ => true) true Try.f4.params.toList args.toList ds p := hA0
  rw [Try.params4] at hA hval hsz
  obtain ⟨v0, v1, d0, d1, p0, p1, rfl, rfl, rfl, h0, h1⟩ := trodAll_two hA
  obtain ⟨rfl, rfl⟩ := trodVars_none hV
  obtain ⟨a0, rfl, rfl, rfl, w0⟩ := open_int Try.underlying3 (hval 0 3 v0 rfl rfl) h0
  obtain ⟨A1, len1, cap1, rfl⟩ := okWide_slice Try.underlying22 (hval 1 22 v1 rfl rfl)
  have k1 := h1
  have lt1 : ∀ x ∈ p1, x.block < W.heap.size := by obtain ⟨m, hm⟩ := k1; exact DataW.trod_lt m _ _ _ hm
  obtain ⟨xs, hxl, hxr, hwf, hmax⟩ : ∃ xs : List Int, xs.length = len1 ∧ ArgRow W A1 xs ∧ (∀ x ∈ xs, -9223372036854775808 ≤ x ∧ x ≤ 9223372036854775807) ∧ len1 ≤ maxLen := by
    obtain ⟨fuel, hf⟩ := h1
    rcases open_ints Try.underlying22 Try.underlying3 (by kernel_rfl) hf with ⟨hcs, _⟩ | ⟨x, l, c, zs, hcs, _, hl, hm, hz, _, hcell, hwz⟩
    · simp [Value.cells] at hcs
      obtain ⟨rfl, rfl, rfl⟩ := hcs
      exact ⟨[], rfl, fun k x hk => by simp at hk, by simp, by simp⟩
    · simp [Value.cells] at hcs
      obtain ⟨rfl, rfl, rfl⟩ := hcs
      refine ⟨zs.take len1, by rw [List.length_take]; simp at hz; omega, argRow_of hl (by simpa using hz) hcell, fun y hy => ?_, by omega⟩
      have := hwz y (List.mem_of_mem_take hy)
      exact bounds_i64 this
  clear hA0 hval0 hsz0 hsz
  subst hxl
  unfold maxLen at hmax
  refine (steps_any a0 A1 cap1 xs W hxr (bounds_i64 w0) hwf hmax).mono fun e W' ⟨he, K⟩ => ?_
  subst he
  have bel : Below W.heap.size W W' := K.below (Nat.le_refl _) (by simp)
  exact ⟨_, rfl, _, _, _, [], _, [], hW', trodAll_mk1 (shut_bool Try.underlying4 _), trodAll_mk2 (shut_int Try.underlying3 w0) (Below.trod laidOut (by kernel_rfl) (of_decide_eq_true (by kernel_rfl)) k1 bel lt1), rfl, bel.frame _, fun h => by cases h⟩
theorem over : Rows.ringStepsRow.holds Try.pinned (OpenSpec.ofChange Rows.ringStepsSpec) :=
  OpenClaim.holds_of_wide 4 Try.f4 rfl rfl rfl rfl rfl rfl rfl ⟨rfl, rfl, rfl, rfl, rfl⟩ rfl rfl rfl rfl rfl (by kernel_rfl) Try.func4 (by kernel_rfl)
    (of_decide_eq_true (by kernel_rfl)) (by unfold Func.isWrapper; first | (rw [if_pos (by decide +kernel)]; kernel_rfl) | (rw [if_neg (by decide +kernel)]; exact ⟨rfl, rfl⟩))
    (fun os started H enc _ => lifted os started H enc)
theorem proved : Rows.RingStepsSaid := over
#print axioms proved
end Go.Proofs.Ytinanoclnlcilaa.ringSteps
namespace Go.Proofs.Ytinanoclnlcilaa
/-- The row, under a short name, for the claim. -/
theorem ringSteps_holds : Rows.RingStepsSaid := ringSteps.proved
end Go.Proofs.Ytinanoclnlcilaa
