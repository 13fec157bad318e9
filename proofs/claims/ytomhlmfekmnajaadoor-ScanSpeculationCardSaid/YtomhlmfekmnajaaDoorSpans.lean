/- Spans of keep: the walk. -/
import Derived.Test.YtomhlmfekmnajaaDoorSpan
namespace Go.Proofs.YtomhlmfekmnajaaDoor
open Go.RowKit
set_option linter.unusedVariables false
set_option linter.unusedSimpArgs false

theorem eq77 (a0 a1 b0 b1 : Int) (W : World) : (Op.equalIn 10000 77 (.agg #[.int .i64 a0, .int .i64 a1]) (.agg #[.int .i64 b0, .int .i64 b1])).run Tryd.prog W = .ok (a0 == b0 && a1 == b1) W := by
  have hi : ∀ a b : Int, (Op.equalIn 9999 3 (.int .i64 a) (.int .i64 b)).run Tryd.prog W = .ok (a == b) W := fun a b => run_equalIn_int W 9998 3 .i64 .i64 a b Tryd.underlying3
  show (Op.equalIn (9998 + 1 + 1) 77 _ _).run Tryd.prog W = _
  unfold Op.equalIn
  simp [run_underlying Tryd.underlying77, run_underlying Tryd.underlying3, go_sem, List.range', isAgg, hi]
  by_cases h0 : a0 = b0 <;> by_cases h1 : a1 = b1 <;> simp [h0, h1, go_sem]

set_option maxHeartbeats 1000000 in
theorem spans_any (v1 v2 : Value) (xs ys : List (Int × Int)) (b : Bool) (hb : b = decide (xs = ys)) (w : World) (hX : SpRow w v1 xs) (hY : SpRow w v2 ys) :
    Calls Tryd.prog 34 #[v1, v2] w fun e w' => e = .returned (.bool b) ∧ ∃ m, w' = w.drewN m := by
  obtain ⟨A, c, rfl, hn, hc, _, hx⟩ := hX
  obtain ⟨B, d, rfl, hn2, hd, _, hy⟩ := hY
  have hc9 : c ≤ 9223372036854775807 := hc
  have hd9 : d ≤ 9223372036854775807 := hd
  have HX := Lib.hid hx
  have HY := Lib.hid hy
  have HB := Lib.hid hb
  clear hx hy hb
  by_cases hlen : xs.length = ys.length
  · have HL := Lib.hid hlen
    have e1 : ((xs.length : Int) != (ys.length : Int)) = false := by simp [hlen]
    have e2 : (xs.length != ys.length) = false := by simp [hlen]
    clear hlen
    go_enter Tryd.func34, Tryd.ntmps34
    go_wp2_with fail
    go_loopw [5] (fun i wr => ∃ k : Nat, k ≤ xs.length ∧ i = .int .i64 k ∧ xs.take k = ys.take k ∧ ∃ m, wr = w.drewN m) (fun i _ => xs.length - (intOf i).toNat)
    case atStart => exact ⟨0, Nat.zero_le _, rfl, rfl, 0, rfl⟩
    case round =>
      obtain ⟨k, hk, rfl, heq, m, rfl⟩ := hrel
      have HE := Lib.hid heq
      clear heq
      by_cases hlt : k < xs.length
      · have hlt2 : k < ys.length := by rw [← HL.out]; exact hlt
        obtain ⟨g, off, rfl, hx0, hx1⟩ := HX.out k xs[k] (by simp [hlt])
        obtain ⟨g2, off2, rfl, hy0, hy1⟩ := HY.out k ys[k] (by simp [hlt2])
        obtain ⟨x0, hx0'⟩ : ∃ x, x = xs[k].1 := ⟨_, rfl⟩
        obtain ⟨x1, hx1'⟩ : ∃ x, x = xs[k].2 := ⟨_, rfl⟩
        obtain ⟨y0, hy0'⟩ : ∃ y, y = ys[k].1 := ⟨_, rfl⟩
        obtain ⟨y1, hy1'⟩ : ∃ y, y = ys[k].2 := ⟨_, rfl⟩
        rw [← hx0'] at hx0
        rw [← hx1'] at hx1
        rw [← hy0'] at hy0
        rw [← hy1'] at hy1
        have GX := Lib.hid (show xs[k] = (x0, x1) by rw [hx0', hx1'])
        have GY := Lib.hid (show ys[k] = (y0, y1) by rw [hy0', hy1'])
        clear hx0' hx1' hy0' hy1'
        by_cases hxy : x0 = y0 ∧ x1 = y1
        · obtain ⟨rfl, rfl⟩ := hxy
          have hq : ∀ W : World, (Op.equalIn 10000 77 (.agg #[.int .i64 x0, .int .i64 x1]) (.agg #[.int .i64 x0, .int .i64 x1])).run Tryd.prog W = .ok true W := fun W => by rw [eq77]; simp
          go_wp2_with fail
          go_quiet (fail)
          go_wp2_with fail
          go_roundw
          case rel => exact ⟨k + 1, by omega, by go_num, by rw [List.take_succ_eq_append_getElem hlt, List.take_succ_eq_append_getElem hlt2, HE.out, GX.out, GY.out], _, rfl⟩
          case measure => simp [intOf]; omega
        · have hq : ∀ W : World, (Op.equalIn 10000 77 (.agg #[.int .i64 x0, .int .i64 x1]) (.agg #[.int .i64 y0, .int .i64 y1])).run Tryd.prog W = .ok false W := fun W => by
            rw [eq77]
            have : (x0 == y0 && x1 == y1) = false := by by_cases h0 : x0 = y0 <;> by_cases h1 : x1 = y1 <;> simp_all
            rw [this]
          have hbf : b = false := by rw [HB.out]; exact decide_eq_false (fun h => hxy (by
            have h1 : xs[k] = ys[k] := by subst h; rfl
            rw [GX.out, GY.out] at h1
            injection h1 with h1 h2
            exact ⟨h1, h2⟩))
          have HF := Lib.hid hbf
          clear hbf hxy
          go_wp2_with fail
          go_quiet (fail)
          go_wp2_with fail
          go_ret
          exact ⟨by rw [HF.out]; rfl, _, World.drewN_drewN ..⟩
      · have hkl : k = xs.length := by omega
        have hbt : b = true := by
          rw [HB.out]
          refine decide_eq_true ?_
          have h := HE.out
          rw [hkl, List.take_length, HL.out, List.take_length] at h
          exact h
        have HT := Lib.hid hbt
        clear hbt
        subst hkl
        go_wp2_with fail
        go_ret
        exact ⟨by rw [HT.out]; rfl, _, rfl⟩
  · have e1 : ((xs.length : Int) != (ys.length : Int)) = true := by simp; omega
    have e2 : (xs.length != ys.length) = true := by simp [hlen]
    have hbf : b = false := by rw [HB.out]; exact decide_eq_false (fun h => hlen (by rw [h]))
    have HF := Lib.hid hbf
    clear hbf hlen
    go_enter Tryd.func34, Tryd.ntmps34
    go_wp2_with fail
    go_ret
    exact ⟨by rw [HF.out]; rfl, 0, rfl⟩
end Go.Proofs.YtomhlmfekmnajaaDoor
