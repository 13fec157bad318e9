/- What the laid table's reading says of the cells. -/
import Derived.Test.YtomhlmfekmnajaaDoorSum
import Derived.ProofKit
import Derived.LaidMore
import Derived.OpenShut
import Derived.Stop.Joined
namespace Go.Proofs.YtomhlmfekmnajaaDoor
open Go.ChangeShapes Go.WideShapes Go.ChangeAt Go.WideMaps Go.WideElems Go.RowKit
set_option linter.unusedVariables false

theorem gMoves : Tryd.prog.globalNamed "ndjq/automaton.moves" = some 0 := by kernel_rfl
theorem tMoves : (Tryd.prog.globals[0]?).map (·.type) = some 108 := by kernel_rfl
theorem c3 : Tryd.prog.cellsOf 3 = 1 := by kernel_rfl
theorem c4 : Tryd.prog.cellsOf 4 = 1 := by kernel_rfl
theorem c106 : Tryd.prog.cellsOf 106 = 2 := by kernel_rfl
theorem c107 : Tryd.prog.cellsOf 107 = 8 := by kernel_rfl
theorem c108 : Tryd.prog.cellsOf 108 = 24 := by kernel_rfl

section
variable {H : Type} {enc : TypeId × Value → H} {w : World} {base : Nat} {sp : Nat → Bool} {held : Bool} {fuel : Nat}

set_option maxRecDepth 100000 in
theorem read_move {cs : List Value} {n : Int} {b : Bool} {x : DataW H × List MemPlace} (h : DataW.trod enc Tryd.prog w base sp held fuel 106 cs = some x) (hx : x.1 = .agg [.lit (.int .i64 n), .lit (.bool b)]) : cs = [.int .i64 n, .bool b] := by
  obtain ⟨xs, m, _, rfl, hl, hn, hf⟩ := DataW.trod_struct Tryd.underlying106 h
  have h0 := hf 0 _ rfl
  have h1 := hf 1 _ rfl
  rw [c106] at hl
  match cs, hl with
  | [u, v], _ =>
    match xs, hn with
    | [x0, x1], _ =>
      simp [c3, c4] at h0 h1
      obtain ⟨n', e0, e1, _⟩ := DataW.trod_int Tryd.underlying3 (show DataW.trod enc Tryd.prog w base sp held m 3 [u] = some x0 from h0)
      obtain ⟨b', g0, g1⟩ := DataW.trod_bool Tryd.underlying4 (show DataW.trod enc Tryd.prog w base sp held m 4 [v] = some x1 from h1)
      subst e1 g1
      simp at e0 g0 hx
      rw [e0, g0, hx.1, hx.2]

set_option maxRecDepth 100000 in
theorem read_row {cs : List Value} {n0 n1 n2 n3 : Int} {b0 b1 b2 b3 : Bool} {x : DataW H × List MemPlace} (h : DataW.trod enc Tryd.prog w base sp held fuel 107 cs = some x)
    (hx : x.1 = .agg [.agg [.lit (.int .i64 n0), .lit (.bool b0)], .agg [.lit (.int .i64 n1), .lit (.bool b1)], .agg [.lit (.int .i64 n2), .lit (.bool b2)], .agg [.lit (.int .i64 n3), .lit (.bool b3)]]) :
    cs = [.int .i64 n0, .bool b0, .int .i64 n1, .bool b1, .int .i64 n2, .bool b2, .int .i64 n3, .bool b3] := by
  obtain ⟨xs, m, _, rfl, hl, hn, hf⟩ := DataW.trod_array Tryd.underlying107 h
  rw [c107] at hl
  have h0 := hf 0 (by decide)
  have h1 := hf 1 (by decide)
  have h2 := hf 2 (by decide)
  have h3 := hf 3 (by decide)
  match cs, hl with
  | [u0, u1, u2, u3, u4, u5, u6, u7], _ =>
    match xs, hn with
    | [x0, x1, x2, x3], _ =>
      simp [c106] at h0 h1 h2 h3 hx
      have r0 := read_move h0 hx.1
      have r1 := read_move h1 hx.2.1
      have r2 := read_move h2 hx.2.2.1
      have r3 := read_move h3 hx.2.2.2
      simp at r0 r1 r2 r3
      simp [r0, r1, r2, r3]

set_option maxRecDepth 100000 in
theorem read_table {cs : List Value} {x : DataW Unit × List MemPlace} {enc : TypeId × Value → Unit} {w : World} {base : Nat} {sp : Nat → Bool} {held : Bool} {fuel : Nat} (h : DataW.trod enc Tryd.prog w base sp held fuel 108 cs = some x) (hx : x.1 = Rows.laid_ndjq_automaton_moves) :
    cs = [.int .i64 0, .bool false, .int .i64 1, .bool false, .int .i64 0, .bool false, .int .i64 0, .bool true, .int .i64 1, .bool false, .int .i64 0, .bool false, .int .i64 2, .bool false, .int .i64 1, .bool false, .int .i64 1, .bool false, .int .i64 1, .bool false, .int .i64 1, .bool false, .int .i64 1, .bool false] := by
  obtain ⟨xs, m, _, rfl, hl, hn, hf⟩ := DataW.trod_array Tryd.underlying108 h
  rw [c108] at hl
  have h0 := hf 0 (by decide)
  have h1 := hf 1 (by decide)
  have h2 := hf 2 (by decide)
  match cs, hl with
  | [u0, u1, u2, u3, u4, u5, u6, u7, u8, u9, u10, u11, u12, u13, u14, u15, u16, u17, u18, u19, u20, u21, u22, u23], _ =>
    match xs, hn with
    | [x0, x1, x2], _ =>
      simp [c107, Rows.laid_ndjq_automaton_moves] at h0 h1 h2 hx
      have r0 := read_row h0 hx.1
      have r1 := read_row h1 hx.2.1
      have r2 := read_row h2 hx.2.2
      simp at r0 r1 r2
      simp [r0, r1, r2]

def laid1 : List (String × DataW Unit) := [("ndjq/automaton.moves", Rows.laid_ndjq_automaton_moves)]

theorem of_laid {W : World} (h : laidMetH Tryd.prog laid1 W) : Moves W := by
  rw [MakeChecks.laidMetH_plain _ _ _ (by kernel_rfl)] at h
  obtain ⟨ps, ⟨g0, t0, cs0, f0, p0, q0, hg0, ht0, hv0, hd0, _⟩, _, _⟩ := h
  obtain rfl := Option.some.inj (gMoves.symm.trans hg0)
  obtain rfl := Option.some.inj (tMoves.symm.trans ht0)
  have hcs := read_table hd0 rfl
  have hcell := World.var?_cell hg0 hv0
  obtain ⟨l⟩ := cs0
  simp only at hcs
  subst hcs
  intro i j hi hj
  obtain rfl | rfl | rfl : i = 0 ∨ i = 1 ∨ i = 2 := by omega
  all_goals
    obtain rfl | rfl | rfl | rfl : j = 0 ∨ j = 1 ∨ j = 2 ∨ j = 3 := by omega
    all_goals exact ⟨hcell _, hcell _⟩
end
end Go.Proofs.YtomhlmfekmnajaaDoor
