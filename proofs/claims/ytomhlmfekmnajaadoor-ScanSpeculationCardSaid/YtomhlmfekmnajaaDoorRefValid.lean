/- Valid of the reference: the walk. -/
import Derived.Test.YtomhlmfekmnajaaDoorBox
namespace Go.Proofs.YtomhlmfekmnajaaDoor
open Go.RowKit
set_option linter.unusedVariables false

theorem lastOf_ge {len : Int} {xs : List Int} (h : okFrom len (-1) xs = true) : -1 ≤ lastOf (-1) xs := by
  unfold lastOf
  cases hx : xs.getLast? with
  | none => simp
  | some x =>
    have := (okFrom_bounds xs (-1) h).1 x (List.mem_of_getLast? hx)
    simp; omega

set_option maxHeartbeats 4000000 in
theorem refvalid_any (v : Value) (s : Su) (w : World) (hv : SuV w v s) : Calls Tryd.prog 17 #[v] w fun e w' => e = .returned (.bool s.valid) ∧ Keep [] w w' := by
  obtain ⟨s0, s1, s2, rfl, h0, h1, h2⟩ := hv
  have HI := Lib.hid (SuBox.ints h0 h1 h2)
  clear h0 h1 h2
  have B := Lib.hid (show SuBox (w.alloc (.cells #[.int .i64 s.len, .int .i64 s.e0, .int .i64 s.e1, .int .i64 s.e2, s0, s1, s2] 26)) w.heap.size s s0 s1 s2 from Blk.new w #[.int .i64 s.len, .int .i64 s.e0, .int .i64 s.e1, .int .i64 s.e2, s0, s1, s2] 26)
  obtain ⟨V, hV⟩ : ∃ V, V = s.valid := ⟨_, rfl⟩
  have HV := Lib.hid hV
  rw [← hV]
  clear hV
  by_cases hr : 0 ≤ s.len ∧ s.len ≤ 1048576
  · obtain ⟨hr1, hr2⟩ := hr
    go_enter Tryd.func17, Tryd.ntmps17
    go_wp2_with fail
    generalize hW : w.alloc (.cells #[.int .i64 s.len, .int .i64 s.e0, .int .i64 s.e1, .int .i64 s.e2, s0, s1, s2] 26) = W at B
    have KW : Keep [] w W := by rw [← hW]; exact (Keep.refl [] w).alloc _
    have cl : W.cell? ⟨w.heap.size, 0, none⟩ = some (.int .i64 s.len) := B.out.cell 0 _ rfl
    clear hW
    go_loopw [3] (fun i wr => ∃ k : Nat, k ≤ 3 ∧ i = .int .i64 k ∧ s.okUpto k = true ∧ ∃ m, wr = W.drewN m) (fun i _ => 3 - (intOf i).toNat)
    case atStart => exact ⟨0, by omega, rfl, rfl, 0, rfl⟩
    case round =>
      obtain ⟨k, hk, rfl, hok, m, rfl⟩ := hrel
      by_cases hk3 : k < 3
      · have hI := (HI.out k hk3).keep KW
        have ce := B.out.exit k hk3
        have cs := B.out.lines k hk3
        obtain ⟨sk, hsk⟩ : ∃ sk, sk = slOf s0 s1 s2 k := ⟨_, rfl⟩
        rw [← hsk] at hI cs
        clear hsk
        obtain ⟨xs, hxs⟩ : ∃ xs, xs = s.l k := ⟨_, rfl⟩
        obtain ⟨ek, hek⟩ : ∃ ek, ek = s.e k := ⟨_, rfl⟩
        rw [← hxs] at hI
        rw [← hek] at ce
        obtain ⟨A, c, rfl, hn, hc, hA, hcell⟩ := hI
        have hc9 : c ≤ 9223372036854775807 := hc
        have HC := Lib.hid hcell
        have HXS := Lib.hid hxs
        have HEK := Lib.hid hek
        have HOK := Lib.hid hok
        clear hcell hxs hek hok hA
        have hk3' : (k : Int) < 3 := by omega
        by_cases he : 0 ≤ ek ∧ ek ≤ 2
        · obtain ⟨he1, he2⟩ := he
          have hd3 : decide ((k : Int) < 3) = true := decide_eq_true (by omega)
          have hd4 : decide (ek < 0) = false := decide_eq_false (by omega)
          have hd5 : decide (2 < ek) = false := decide_eq_false (by omega)
          go_wp2_with fail
          clear hd3 hd4 hd5
          go_loopw [5] (fun i wj => ∃ j : Nat, j ≤ xs.length ∧ i = .int .i64 j ∧ okFrom s.len (-1) (xs.take j) = true ∧ ∃ m, wj = W.drewN m) (fun i _ => xs.length - (intOf i).toNat)
          case atStart => exact ⟨0, by omega, rfl, rfl, m, rfl⟩
          case round =>
            obtain ⟨j, hj, rfl, hoj, mj, rfl⟩ := hrel
            by_cases hjn : j < xs.length
            · obtain ⟨g, off, rfl, hcj⟩ := HC.out j xs[j] (by simp [hjn])
              have hge := lastOf_ge hoj
              have hlast : 0 < j → lastOf (-1) (xs.take j) = xs[j - 1]'(by omega) := fun h0 => by
                have := lastOf_succ (-1) xs (j - 1) (by omega)
                rw [show j - 1 + 1 = j by omega] at this
                exact this
              have hlast0 : j = 0 → lastOf (-1) (xs.take j) = -1 := fun h0 => by subst h0; rfl
              obtain ⟨la, hla⟩ : ∃ la, la = lastOf (-1) (xs.take j) := ⟨_, rfl⟩
              obtain ⟨x, hx⟩ : ∃ x, x = xs[j] := ⟨_, rfl⟩
              have hstep : okFrom s.len (-1) (xs.take (j + 1)) = decide (la < x ∧ x < s.len) := by
                rw [List.take_succ_eq_append_getElem hjn, okFrom_append, hoj, hla, hx]
                simp [okFrom]
              rw [← hx] at hcj
              rw [← hla] at hge hlast hlast0
              have HSTEP := Lib.hid hstep
              clear hla hx hstep hoj
              by_cases h1 : la < x ∧ x < s.len
              · obtain ⟨h1, h2⟩ := h1
                have q1 : decide (x < 0) = false := decide_eq_false (by omega)
                have q2 : decide (s.len ≤ x) = false := decide_eq_false (by omega)
                have x0 : 0 ≤ x := by omega
                by_cases hj0 : j = 0
                · subst hj0
                  rw [Nat.add_zero] at hcj
                  clear hlast hlast0
                  have q3 : decide ((0 : Int) < ((0 : Nat) : Int)) = false := by simp
                  go_wp2_with fail
                  go_quiet (fail)
                  go_wp2_with fail
                  go_roundw
                  case rel => exact ⟨1, by omega, by go_num, by rw [HSTEP.out]; exact decide_eq_true ⟨h1, h2⟩, _, by first | rfl | exact World.drewN_drewN ..⟩
                  case measure => simp [intOf]; omega
                · have hj0' : 0 < j := by omega
                  have hl := hlast hj0'
                  obtain ⟨g', off', he', hcl⟩ := HC.out (j - 1) (xs[j - 1]'(by omega)) (by simp [show j - 1 < xs.length by omega])
                  obtain ⟨rfl, rfl⟩ : g' = g ∧ off' = off := by simpa using he'.symm
                  rw [← hl] at hcl
                  clear hlast hlast0 hl he' hj0
                  have q3 : decide ((0 : Int) < (j : Int)) = true := decide_eq_true (by omega)
                  have q4 : decide (x ≤ la) = false := decide_eq_false (by omega)
                  have q5 := IntWalk.i64_in ((j : Int) - 1) (by omega)
                  have q6 : ((j : Int) - 1).toNat = j - 1 := by omega
                  have q7 : 0 ≤ (j : Int) - 1 := by omega
                  have q8 : (j : Int) - 1 < xs.length := by omega
                  go_wp2_with fail
                  go_quiet (fail)
                  clear q1 q2 q3 q4 q5 q6 q7 q8
                  go_wp2_with fail
                  go_roundw
                  case rel => exact ⟨j + 1, by omega, by go_num, by rw [HSTEP.out]; exact decide_eq_true ⟨h1, h2⟩, _, by first | rfl | exact World.drewN_drewN ..⟩
                  case measure => simp [intOf]; omega
              · have hVf : V = false := by rw [HV.out]; exact Su.lines_false hk3 (m := j + 1) (by rw [← HXS.out, HSTEP.out]; exact decide_eq_false h1)
                have HF := Lib.hid hVf
                clear hVf
                by_cases hx0 : x < 0
                · have q1 : decide (x < 0) = true := decide_eq_true hx0
                  clear hlast hlast0
                  go_wp2_with fail
                  go_quiet (fail)
                  go_wp2_with fail
                  go_ret
                  exact ⟨by rw [HF.out]; rfl, by first | exact KW.drewN _ | exact (KW.drewN _).drewN _⟩
                · have q1 : decide (x < 0) = false := decide_eq_false hx0
                  by_cases hx1 : s.len ≤ x
                  · have q2 : decide (s.len ≤ x) = true := decide_eq_true hx1
                    clear hlast hlast0
                    go_wp2_with fail
                    go_quiet (fail)
                    go_wp2_with fail
                    go_ret
                    exact ⟨by rw [HF.out]; rfl, by first | exact KW.drewN _ | exact (KW.drewN _).drewN _⟩
                  · have q2 : decide (s.len ≤ x) = false := decide_eq_false hx1
                    have hj0 : 0 < j := by
                      rcases Nat.eq_zero_or_pos j with h | h
                      · have := hlast0 h; omega
                      · exact h
                    have hl := hlast hj0
                    obtain ⟨g', off', he', hcl⟩ := HC.out (j - 1) (xs[j - 1]'(by omega)) (by simp [show j - 1 < xs.length by omega])
                    obtain ⟨rfl, rfl⟩ : g' = g ∧ off' = off := by simpa using he'.symm
                    rw [← hl] at hcl
                    clear hlast hlast0 hl he'
                    have q3 : decide ((0 : Int) < (j : Int)) = true := decide_eq_true (by omega)
                    have q4 : decide (x ≤ la) = true := decide_eq_true (by omega)
                    have q5 := IntWalk.i64_in ((j : Int) - 1) (by omega)
                    have q6 : ((j : Int) - 1).toNat = j - 1 := by omega
                    have q7 : 0 ≤ (j : Int) - 1 := by omega
                    have q8 : (j : Int) - 1 < xs.length := by omega
                    go_wp2_with fail
                    go_quiet (fail)
                    clear q1 q2 q3 q4 q5 q6 q7 q8
                    go_wp2_with fail
                    go_ret
                    exact ⟨by rw [HF.out]; rfl, by first | exact KW.drewN _ | exact (KW.drewN _).drewN _⟩
            · have hjl : j = xs.length := by omega
              subst hjl
              rw [List.take_length] at hoj
              have HOJ := Lib.hid hoj
              clear hoj
              go_wp2_with fail
              go_roundw
              case rel => exact ⟨k + 1, by omega, by go_num, by rw [Su.okUpto_succ, HOK.out, Su.okAt, ← HXS.out, ← HEK.out, HOJ.out]; simp [he1, he2], _, rfl⟩
              case measure => simp [intOf]; omega
        · have hVf : V = false := by rw [HV.out]; exact Su.valid_false hk3 (by rw [Su.okAt, ← HEK.out, decide_eq_false he, Bool.and_false])
          have HF := Lib.hid hVf
          clear hVf
          by_cases he1 : ek < 0
          · clear he
            go_wp2_with fail
            go_ret
            exact ⟨by rw [HF.out]; rfl, by first | exact KW.drewN _ | exact (KW.drewN _).drewN _⟩
          · have he2 : 2 < ek := by omega
            clear he
            go_wp2_with fail
            go_ret
            exact ⟨by rw [HF.out]; rfl, by first | exact KW.drewN _ | exact (KW.drewN _).drewN _⟩
      · have hk3' : k = 3 := by omega
        subst hk3'
        have hVt : V = true := by rw [HV.out, Su.valid_eq, hok]; simp [hr1, hr2]
        have HT := Lib.hid hVt
        clear hVt hok
        go_wp2_with fail
        go_ret
        exact ⟨by rw [HT.out]; rfl, by first | exact KW.drewN _ | exact (KW.drewN _).drewN _⟩
  · have hVf : V = false := by rw [HV.out]; simp [Su.valid, hr]
    have HF := Lib.hid hVf
    clear hVf
    by_cases hr1 : s.len < 0
    · clear hr
      go_enter Tryd.func17, Tryd.ntmps17
      go_wp2_with fail
      go_ret
      exact ⟨by rw [HF.out]; rfl, (Keep.refl [] w).alloc _⟩
    · have hr2 : 1048576 < s.len := by omega
      clear hr
      go_enter Tryd.func17, Tryd.ntmps17
      go_wp2_with fail
      go_ret
      exact ⟨by rw [HF.out]; rfl, (Keep.refl [] w).alloc _⟩
end Go.Proofs.YtomhlmfekmnajaaDoor
