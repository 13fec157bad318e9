/- keep.Ints and keep.Summaries. -/
import Derived.Test.YtomhlmfekmnajaaDoorSum
namespace Go.Proofs.YtomhlmfekmnajaaDoor
open Go.RowKit
set_option linter.unusedVariables false

set_option maxHeartbeats 1000000 in
theorem ints_any (v1 v2 : Value) (xs ys : List Int) (b : Bool) (hb : b = decide (xs = ys)) (w : World) (hX : Ints w v1 xs) (hY : Ints w v2 ys) :
    Calls Tryd.prog 47 #[v1, v2] w fun e w' => e = .returned (.bool b) ∧ ∃ m, w' = w.drewN m := by
  obtain ⟨A, c, rfl, hn, hc, _, hx⟩ := hX
  obtain ⟨B, d, rfl, hn2, hd, _, hy⟩ := hY
  have hc9 : c ≤ 9223372036854775807 := hc
  have hd9 : d ≤ 9223372036854775807 := hd
  have HX := Lib.hid hx
  have HY := Lib.hid hy
  have HB := Lib.hid hb
  clear hx hy hb
  by_cases hlen : xs.length = ys.length
  · have HL := Lib.hid hlen
    have e1 : ((xs.length : Int) != (ys.length : Int)) = false := by simp [hlen]
    have e2 : (xs.length != ys.length) = false := by simp [hlen]
    clear hlen
    go_enter Tryd.func47, Tryd.ntmps47
    go_wp2_with fail
    go_loopw [5] (fun i wr => ∃ k : Nat, k ≤ xs.length ∧ i = .int .i64 k ∧ xs.take k = ys.take k ∧ ∃ m, wr = w.drewN m) (fun i _ => xs.length - (intOf i).toNat)
    case atStart => exact ⟨0, Nat.zero_le _, rfl, rfl, 0, rfl⟩
    case round =>
      obtain ⟨k, hk, rfl, heq, m, rfl⟩ := hrel
      have HE := Lib.hid heq
      clear heq
      by_cases hlt : k < xs.length
      · have hlt2 : k < ys.length := by rw [← HL.out]; exact hlt
        obtain ⟨g, off, rfl, hc⟩ := HX.out k xs[k] (by simp [hlt])
        obtain ⟨g2, off2, rfl, hc2⟩ := HY.out k ys[k] (by simp [hlt2])
        obtain ⟨x, hx⟩ : ∃ x, x = xs[k] := ⟨_, rfl⟩
        obtain ⟨y, hy⟩ : ∃ y, y = ys[k] := ⟨_, rfl⟩
        rw [← hx] at hc
        rw [← hy] at hc2
        have GX := Lib.hid hx
        have GY := Lib.hid hy
        clear hx hy
        by_cases hxy : x = y
        · have hne : (x != y) = false := by simp [hxy]
          have HXY := Lib.hid hxy
          clear hxy
          go_wp2_with fail
          go_quiet (fail)
          go_wp2_with fail
          go_roundw
          case rel => exact ⟨k + 1, by omega, by go_num, by rw [List.take_succ_eq_append_getElem hlt, List.take_succ_eq_append_getElem hlt2, HE.out, ← GX.out, ← GY.out, HXY.out], _, rfl⟩
          case measure => simp [intOf]; omega
        · have hne : (x != y) = true := by simp [hxy]
          have hbf : b = false := by rw [HB.out]; exact decide_eq_false (fun h => hxy (by rw [GX.out, GY.out]; subst h; rfl))
          have HF := Lib.hid hbf
          clear hbf hxy
          go_wp2_with fail
          go_quiet (fail)
          go_wp2_with fail
          go_ret
          exact ⟨by rw [HF.out]; rfl, _, World.drewN_drewN ..⟩
      · have hkl : k = xs.length := by omega
        have hbt : b = true := by
          rw [HB.out]
          refine decide_eq_true ?_
          have h := HE.out
          rw [hkl, List.take_length, HL.out, List.take_length] at h
          exact h
        have HT := Lib.hid hbt
        clear hbt
        subst hkl
        go_wp2_with fail
        go_ret
        exact ⟨by rw [HT.out]; rfl, _, rfl⟩
  · have e1 : ((xs.length : Int) != (ys.length : Int)) = true := by simp; omega
    have e2 : (xs.length != ys.length) = true := by simp [hlen]
    have hbf : b = false := by rw [HB.out]; exact decide_eq_false (fun h => hlen (by rw [h]))
    have HF := Lib.hid hbf
    clear hbf hlen
    go_enter Tryd.func47, Tryd.ntmps47
    go_wp2_with fail
    go_ret
    exact ⟨by rw [HF.out]; rfl, 0, rfl⟩

def Su.sameUpto (s t : Su) (k : Nat) : Prop := ∀ j, j < k → s.l j = t.l j
theorem Su.same_of {s t : Su} (h0 : s.len = t.len) (h1 : s.e0 = t.e0 ∧ s.e1 = t.e1 ∧ s.e2 = t.e2) (h2 : s.sameUpto t 3) : s = t := by
  have a0 : s.l0 = t.l0 := h2 0 (by omega)
  have a1 : s.l1 = t.l1 := h2 1 (by omega)
  have a2 : s.l2 = t.l2 := h2 2 (by omega)
  obtain ⟨h1, h3, h4⟩ := h1
  cases s; cases t; simp_all

set_option maxHeartbeats 1000000 in
set_option maxRecDepth 100000 in
theorem same_any (v1 v2 : Value) (s t : Su) (V : Bool) (hV : V = decide (s = t)) (w : World) (hs : SuV w v1 s) (ht : SuV w v2 t) :
    Calls Tryd.prog 15 #[v1, v2] w fun e w' => e = .returned (.bool V) ∧ Keep [] w w' := by
  obtain ⟨s0, s1, s2, rfl, h0, h1, h2⟩ := hs
  obtain ⟨t0, t1, t2, rfl, g0, g1, g2⟩ := ht
  have HI := Lib.hid (SuBox.ints h0 h1 h2)
  have HJ := Lib.hid (SuBox.ints g0 g1 g2)
  have HV := Lib.hid hV
  clear h0 h1 h2 g0 g1 g2 hV
  have B := Lib.hid (show SuBox (w.alloc (.cells #[.int .i64 s.len, .int .i64 s.e0, .int .i64 s.e1, .int .i64 s.e2, s0, s1, s2] 26)) w.heap.size s s0 s1 s2 from Blk.new w #[.int .i64 s.len, .int .i64 s.e0, .int .i64 s.e1, .int .i64 s.e2, s0, s1, s2] 26)
  have C := Lib.hid (Blk.new (w.alloc (.cells #[.int .i64 s.len, .int .i64 s.e0, .int .i64 s.e1, .int .i64 s.e2, s0, s1, s2] 26)) #[.int .i64 t.len, .int .i64 t.e0, .int .i64 t.e1, .int .i64 t.e2, t0, t1, t2] 26)
  have KW := (((Keep.refl [] w).alloc (.cells #[.int .i64 s.len, .int .i64 s.e0, .int .i64 s.e1, .int .i64 s.e2, s0, s1, s2] 26)).alloc (.cells #[.int .i64 t.len, .int .i64 t.e0, .int .i64 t.e1, .int .i64 t.e2, t0, t1, t2] 26))
  have B2 : Hid (SuBox ((w.alloc (.cells #[.int .i64 s.len, .int .i64 s.e0, .int .i64 s.e1, .int .i64 s.e2, s0, s1, s2] 26)).alloc (.cells #[.int .i64 t.len, .int .i64 t.e0, .int .i64 t.e1, .int .i64 t.e2, t0, t1, t2] 26)) w.heap.size s s0 s1 s2) := Lib.hid (B.out.alloc _)
  have C2 : Hid (SuBox ((w.alloc (.cells #[.int .i64 s.len, .int .i64 s.e0, .int .i64 s.e1, .int .i64 s.e2, s0, s1, s2] 26)).alloc (.cells #[.int .i64 t.len, .int .i64 t.e0, .int .i64 t.e1, .int .i64 t.e2, t0, t1, t2] 26)) (w.heap.size + 1) t t0 t1 t2) := by
    have := C.out
    rw [World.size_alloc] at this
    exact Lib.hid this
  clear B C
  by_cases hl : s.len = t.len
  · have n1 : (s.len != t.len) = false := by simp [hl]
    by_cases he : s.e0 = t.e0 ∧ s.e1 = t.e1 ∧ s.e2 = t.e2
    · have hq : ∀ W : World, (Op.equalIn 10000 22 (.agg #[.int .i64 s.e0, .int .i64 s.e1, .int .i64 s.e2]) (.agg #[.int .i64 t.e0, .int .i64 t.e1, .int .i64 t.e2])).run Tryd.prog W = .ok true W := fun W => by rw [eq22]; simp [he]
      have HL := Lib.hid hl
      have HE := Lib.hid he
      clear hl he
      go_enter Tryd.func15, Tryd.ntmps15
      go_wp2_with fail
      clear hq n1
      generalize hW : ((w.alloc (.cells #[.int .i64 s.len, .int .i64 s.e0, .int .i64 s.e1, .int .i64 s.e2, s0, s1, s2] 26)).alloc (.cells #[.int .i64 t.len, .int .i64 t.e0, .int .i64 t.e1, .int .i64 t.e2, t0, t1, t2] 26)) = W at B2 C2 KW
      clear hW
      go_loopw [5] (fun i wr => ∃ k : Nat, k ≤ 3 ∧ i = .int .i64 k ∧ s.sameUpto t k ∧ ∃ m, wr = W.drewN m) (fun i _ => 3 - (intOf i).toNat)
      case atStart => exact ⟨0, by omega, rfl, fun j hj => by omega, 0, rfl⟩
      case round =>
        obtain ⟨k, hk, rfl, hsame, m, rfl⟩ := hrel
        have HS := Lib.hid hsame
        clear hsame
        by_cases hk3 : k < 3
        · have c1 := B2.out.lines k hk3
          have c2 := C2.out.lines k hk3
          have hI := (HI.out k hk3).keep KW
          have hJ := (HJ.out k hk3).keep KW
          obtain ⟨b, hb⟩ : ∃ b, b = decide (s.l k = t.l k) := ⟨_, rfl⟩
          obtain ⟨sk, hsk⟩ : ∃ sk, sk = slOf s0 s1 s2 k := ⟨_, rfl⟩
          obtain ⟨tk, htk⟩ : ∃ tk, tk = slOf t0 t1 t2 k := ⟨_, rfl⟩
          rw [← hsk] at c1 hI
          rw [← htk] at c2 hJ
          have GI := Lib.hid hI
          have GJ := Lib.hid hJ
          have HB := Lib.hid hb
          clear hsk htk hI hJ hb
          have hk3' : (k : Int) < 3 := by omega
          cases b
          · have hVf : V = false := by rw [HV.out]; exact decide_eq_false (fun h => by have := HB.out.symm; simp only [decide_eq_false_iff_not] at this; exact this (by rw [h]))
            have HF := Lib.hid hVf
            clear hVf
            go_wp2_with fail
            go_quiet (first | (go_at_call 47; refine (ints_any _ _ _ _ false HB.out _ (GI.out.keep ((Keep.refl [] _).drewN _)) (GJ.out.keep ((Keep.refl [] _).drewN _))).mono ?_; rintro e w2 ⟨rfl, mm, rfl⟩; exact ⟨rfl, _, (World.drewN_drewN ..).trans (by rw [Nat.add_assoc])⟩))
            go_wp2_with fail
            go_ret
            exact ⟨by rw [HF.out]; rfl, by simpa using KW.drewN _⟩
          · go_wp2_with fail
            go_quiet (first | (go_at_call 47; refine (ints_any _ _ _ _ true HB.out _ (GI.out.keep ((Keep.refl [] _).drewN _)) (GJ.out.keep ((Keep.refl [] _).drewN _))).mono ?_; rintro e w2 ⟨rfl, mm, rfl⟩; exact ⟨rfl, _, (World.drewN_drewN ..).trans (by rw [Nat.add_assoc])⟩))
            go_wp2_with fail
            go_roundw
            case rel => exact ⟨k + 1, by omega, by go_num, fun j hj => by
              by_cases h : j = k
              · subst h; exact of_decide_eq_true HB.out.symm
              · exact HS.out j (by omega), _, rfl⟩
            case measure => simp [intOf]; omega
        · have hk3' : k = 3 := by omega
          subst hk3'
          have hVt : V = true := by rw [HV.out]; exact decide_eq_true (Su.same_of HL.out HE.out HS.out)
          have HT := Lib.hid hVt
          clear hVt
          go_wp2_with fail
          go_ret
          exact ⟨by rw [HT.out]; rfl, KW.drewN _⟩
    · have hq : ∀ W : World, (Op.equalIn 10000 22 (.agg #[.int .i64 s.e0, .int .i64 s.e1, .int .i64 s.e2]) (.agg #[.int .i64 t.e0, .int .i64 t.e1, .int .i64 t.e2])).run Tryd.prog W = .ok false W := fun W => by
        rw [eq22]
        have : ((s.e0 == t.e0) && ((s.e1 == t.e1) && (s.e2 == t.e2))) = false := by
          by_cases h0 : s.e0 = t.e0 <;> by_cases h1 : s.e1 = t.e1 <;> by_cases h2 : s.e2 = t.e2 <;> simp_all
        rw [this]
      have hVf : V = false := by rw [HV.out]; exact decide_eq_false (fun h => he (by rw [h]; exact ⟨rfl, rfl, rfl⟩))
      have HF := Lib.hid hVf
      clear hVf hl he
      go_enter Tryd.func15, Tryd.ntmps15
      go_wp2_with fail
      go_ret
      exact ⟨by rw [HF.out]; rfl, KW⟩
  · have n1 : (s.len != t.len) = true := by simp [hl]
    have hVf : V = false := by rw [HV.out]; exact decide_eq_false (fun h => hl (by rw [h]))
    have HF := Lib.hid hVf
    clear hVf hl
    go_enter Tryd.func15, Tryd.ntmps15
    go_wp2_with fail
    go_ret
    exact ⟨by rw [HF.out]; rfl, KW⟩
end Go.Proofs.YtomhlmfekmnajaaDoor
