/- An argument that is a summary, opened. -/
import Derived.Test.YtomhlmfekmnajaaDoorLaid
import Derived.ChangeSlices
import Derived.SizedLaws
namespace Go.Proofs.YtomhlmfekmnajaaDoor
open Go.ChangeShapes Go.WideShapes Go.ChangeAt Go.RowKit
set_option linter.unusedVariables false

section
variable {H : Type} {enc : TypeId × Value → H} {W : World} {base : Nat} {sp : Nat → Bool} {held : Bool} {fuel : Nat}
theorem b3 : Tryd.prog.bytesOf 3 = 8 := by kernel_rfl
theorem c22 : Tryd.prog.cellsOf 22 = 3 := by kernel_rfl
theorem c23 : Tryd.prog.cellsOf 23 = 1 := by kernel_rfl
theorem c24 : Tryd.prog.cellsOf 24 = 3 := by kernel_rfl
theorem c26 : Tryd.prog.cellsOf 26 = 7 := by kernel_rfl

theorem open_line {u : Value} {x : DataW H × List MemPlace} (h : DataW.trod enc Tryd.prog W base sp held fuel 23 [u] = some x) : ∃ xs, Ints W u xs ∧ (xs = [] ∨ ∃ n ∈ x.1.weights Tryd.prog 23, xs.length * 8 ≤ n) := by
  rcases open_ints Tryd.underlying23 Tryd.underlying3 c3 h with ⟨hcs, _⟩ | ⟨a, l, c, zs, hcs, _, hl, hm, hz, hx, hcell, _⟩
  · simp at hcs
    subst hcs
    exact ⟨[], Ints.nil W, Or.inl rfl⟩
  · simp at hcs
    subst hcs
    have hlz : l ≤ zs.length := by rw [hz]; split <;> omega
    have hlen : (zs.take l).length = l := by rw [List.length_take]; omega
    refine ⟨zs.take l, ⟨some a, c, by rw [hlen], by omega, hm, fun h0 => absurd h0 (by simp), fun k y hk => ?_⟩, Or.inr ⟨zs.length * 8, ?_, by omega⟩⟩
    · have hkl : k < l := by have := (List.getElem?_eq_some_iff.1 hk).1; omega
      have h1 := hcell k (by omega)
      have hy : y = zs.getD k 0 := by
        rw [List.getElem?_take_of_lt hkl] at hk
        simp [List.getD, hk]
      have h0 := hcell 0 (by omega)
      obtain ⟨g, off, spot⟩ := a
      have hs : spot = none := by
        cases spot with
        | none => rfl
        | some s =>
          exfalso
          simp only [Addr.add, if_true] at h0
          simp [World.cell?] at h0
          split at h0 <;> simp at h0
      subst hs
      refine ⟨g, off, rfl, ?_⟩
      rw [addr_add] at h1
      rw [h1, hy]
    · subst hx
      have : (lits IntKind.i64 (zs.take l) : List (DataW H)).length + (lits IntKind.i64 (zs.drop l) : List (DataW H)).length = zs.length := by simp [lits]; omega
      simp [DataW.weights, Tryd.underlying23, b3, this]

set_option maxRecDepth 100000 in
theorem open_su {v : Value} {d : DataW H} {p : List MemPlace} (h : DataW.Trod enc Tryd.prog W base sp held 26 v d p) :
    ∃ s, SuV W v s ∧ ∀ l, (l = s.l0 ∨ l = s.l1 ∨ l = s.l2) → l = [] ∨ ∃ n ∈ d.weights Tryd.prog 26, l.length * 8 ≤ n := by
  obtain ⟨fuel, hf⟩ := h
  obtain ⟨xs, m, _, hx, hl, hn, hfs⟩ := DataW.trod_struct Tryd.underlying26 hf
  rw [c26] at hl
  have h0 := hfs 0 _ rfl
  have h1 := hfs 1 _ rfl
  have h2 := hfs 2 _ rfl
  simp only [Prod.mk.injEq] at hx
  obtain ⟨hd, _⟩ := hx
  obtain ⟨cs, hcs⟩ : ∃ cs : List Value, cs = v.cells.toList := ⟨_, rfl⟩
  rw [← hcs] at h0 h1 h2 hl
  match cs, hl with
  | [u0, u1, u2, u3, u4, u5, u6], _ =>
    have hv : v = .agg #[u0, u1, u2, u3, u4, u5, u6] := by
      cases v <;> simp [Value.cells] at hcs
      simp [hcs]
    match xs, hn with
    | [x0, x1, x2], _ =>
      simp [c3, c22, c24] at h0 h1 h2
      obtain ⟨len, e0, g0, _⟩ := DataW.trod_int Tryd.underlying3 (show DataW.trod enc Tryd.prog W base sp held m 3 [u0] = some x0 from h0)
      obtain ⟨ys, m1, _, hy, _, hyn, hyf⟩ := DataW.trod_array Tryd.underlying22 (show DataW.trod enc Tryd.prog W base sp held m 22 [u1, u2, u3] = some x1 from h1)
      obtain ⟨zs, m2, _, hz, _, hzn, hzf⟩ := DataW.trod_array Tryd.underlying24 (show DataW.trod enc Tryd.prog W base sp held m 24 [u4, u5, u6] = some x2 from h2)
      have y0 := hyf 0 (by decide)
      have y1 := hyf 1 (by decide)
      have y2 := hyf 2 (by decide)
      have z0 := hzf 0 (by decide)
      have z1 := hzf 1 (by decide)
      have z2 := hzf 2 (by decide)
      match ys, hyn, zs, hzn with
      | [a0, a1, a2], _, [b0, b1, b2], _ =>
        simp [c3, c23] at y0 y1 y2 z0 z1 z2
        obtain ⟨n0, f0, _, _⟩ := DataW.trod_int Tryd.underlying3 y0
        obtain ⟨n1, f1, _, _⟩ := DataW.trod_int Tryd.underlying3 y1
        obtain ⟨n2, f2, _, _⟩ := DataW.trod_int Tryd.underlying3 y2
        obtain ⟨l0, i0, w0⟩ := open_line z0
        obtain ⟨l1, i1, w1⟩ := open_line z1
        obtain ⟨l2, i2, w2⟩ := open_line z2
        simp at e0 f0 f1 f2
        subst e0 f0 f1 f2
        have hw : d.weights Tryd.prog 26 = x0.1.weights Tryd.prog 3 ++ (x1.1.weights Tryd.prog 22 ++ (x2.1.weights Tryd.prog 24 ++ [])) := by
          rw [hd]
          simp [DataW.weights, Tryd.underlying26, DataW.weightsEach]
        have hw2 : x2.1.weights Tryd.prog 24 = b0.1.weights Tryd.prog 23 ++ (b1.1.weights Tryd.prog 23 ++ (b2.1.weights Tryd.prog 23 ++ [])) := by
          rw [hz]
          simp [DataW.weights, Tryd.underlying24, DataW.weightsAll]
        refine ⟨⟨len, n0, n1, n2, l0, l1, l2⟩, ⟨u4, u5, u6, hv, i0, i1, i2⟩, fun l hl => ?_⟩
        rw [hw, hw2]
        rcases hl with rfl | rfl | rfl
        · exact w0.imp id (fun ⟨n, hn, hle⟩ => ⟨n, by simp [hn], hle⟩)
        · exact w1.imp id (fun ⟨n, hn, hle⟩ => ⟨n, by simp [hn], hle⟩)
        · exact w2.imp id (fun ⟨n, hn, hle⟩ => ⟨n, by simp [hn], hle⟩)
end
end Go.Proofs.YtomhlmfekmnajaaDoor
