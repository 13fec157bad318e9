/- Valid of the automaton: the walk. -/
import Derived.Test.YtomhlmfekmnajaaDoorSum
import Derived.Deep.DeepCutAuto
import Derived.Deep.CutBlock
namespace Go.Proofs.YtomhlmfekmnajaaDoor
open Go.RowKit
set_option linter.unusedVariables false

/-- A list of offsets is strictly ascending behind 'last' and before 'len'. -/
def okFrom (len : Int) : Int → List Int → Bool
  | _, [] => true
  | last, x :: xs => decide (last < x ∧ x < len) && okFrom len x xs
def lastOf (last : Int) (xs : List Int) : Int := xs.getLast?.getD last
def Su.okAt (s : Su) (k : Nat) : Bool := okFrom s.len (-1) (s.l k) && decide (0 ≤ s.e k ∧ s.e k ≤ 2)
def Su.valid (s : Su) : Bool := decide (0 ≤ s.len ∧ s.len ≤ 1048576) && (s.okAt 0 && s.okAt 1 && s.okAt 2)

theorem okFrom_append (len last : Int) (xs ys : List Int) : okFrom len last (xs ++ ys) = (okFrom len last xs && okFrom len (lastOf last xs) ys) := by
  induction xs generalizing last with
  | nil => simp [okFrom, lastOf]
  | cons x xs ih =>
    simp only [List.cons_append, okFrom, ih, Bool.and_assoc]
    have : lastOf last (x :: xs) = lastOf x xs := by
      cases xs with
      | nil => rfl
      | cons y ys => simp [lastOf, List.getLast?_cons]
    rw [this]

theorem lastOf_succ (last : Int) (xs : List Int) (i : Nat) (h : i < xs.length) : lastOf last (xs.take (i + 1)) = xs[i] := by
  unfold lastOf
  rw [List.take_succ_eq_append_getElem h, List.getLast?_concat]
  rfl

/-- The lists and exits before k are in order. -/
def Su.okUpto (s : Su) (k : Nat) : Bool := (List.range k).all s.okAt
theorem Su.okUpto_succ (s : Su) (k : Nat) : s.okUpto (k + 1) = (s.okUpto k && s.okAt k) := by simp [Su.okUpto, List.range_succ]
theorem Su.valid_eq (s : Su) : s.valid = (decide (0 ≤ s.len ∧ s.len ≤ 1048576) && s.okUpto 3) := by simp [Su.valid, Su.okUpto, List.range_succ, Bool.and_assoc]

theorem okFrom_take_false {len last : Int} {xs : List Int} {m : Nat} (h : okFrom len last (xs.take m) = false) : okFrom len last xs = false := by
  have := okFrom_append len last (xs.take m) (xs.drop m)
  rw [List.take_append_drop, h] at this
  simpa using this
theorem Su.valid_false {s : Su} {k : Nat} (hk : k < 3) (h : s.okAt k = false) : s.valid = false := by
  obtain rfl | rfl | rfl : k = 0 ∨ k = 1 ∨ k = 2 := by omega
  all_goals simp [Su.valid, h]
theorem Su.lines_false {s : Su} {k m : Nat} (hk : k < 3) (h : okFrom s.len (-1) ((s.l k).take m) = false) : s.valid = false := Su.valid_false hk (by rw [Su.okAt, okFrom_take_false h]; rfl)

set_option maxHeartbeats 1000000 in
theorem valid_any (v : Value) (s : Su) (w : World) (hv : SuV w v s) : Calls Tryd.prog 16 #[v] w fun e w' => e = .returned (.bool s.valid) ∧ Keep [] w w' := by
  obtain ⟨s0, s1, s2, rfl, h0, h1, h2⟩ := hv
  have hI : ∀ k, k < 3 → Ints w (slOf s0 s1 s2 k) (s.l k) := fun k hk => by
    match k, hk with
    | 0, _ => exact h0
    | 1, _ => exact h1
    | 2, _ => exact h2
  have HI := Lib.hid hI
  clear h0 h1 h2 hI
  have B := Lib.hid (show SuBox (w.alloc (.cells #[.int .i64 s.len, .int .i64 s.e0, .int .i64 s.e1, .int .i64 s.e2, s0, s1, s2] 26)) w.heap.size s s0 s1 s2 from Blk.new w #[.int .i64 s.len, .int .i64 s.e0, .int .i64 s.e1, .int .i64 s.e2, s0, s1, s2] 26)
  obtain ⟨V, hV⟩ : ∃ V, V = s.valid := ⟨_, rfl⟩
  have HV := Lib.hid hV
  rw [← hV]
  clear hV
  by_cases hr : 0 ≤ s.len ∧ s.len ≤ 1048576
  · obtain ⟨hr1, hr2⟩ := hr
    go_enter Tryd.func16, Tryd.ntmps16
    go_wp2_with fail
    generalize hW : w.alloc (.cells #[.int .i64 s.len, .int .i64 s.e0, .int .i64 s.e1, .int .i64 s.e2, s0, s1, s2] 26) = W at B
    have KW : Keep [] w W := by rw [← hW]; exact (Keep.refl [] w).alloc _
    have cl : W.cell? ⟨w.heap.size, 0, none⟩ = some (.int .i64 s.len) := B.out.cell 0 _ rfl
    clear hW
    go_loopw [18] (fun i wr => ∃ k : Nat, k ≤ 3 ∧ i = .int .i64 k ∧ s.okUpto k = true ∧ wr = W) (fun i _ => 3 - (intOf i).toNat)
    case atStart => exact ⟨0, by omega, rfl, rfl, rfl⟩
    case round =>
      obtain ⟨k, hk, rfl, hok, rfl⟩ := hrel
      by_cases hk3 : k < 3
      · have hidx := idx24 s0 s1 s2 k hk3
        have hI := (HI.out k hk3).keep KW
        have ce := B.out.exit k hk3
        obtain ⟨sk, hsk⟩ : ∃ sk, sk = slOf s0 s1 s2 k := ⟨_, rfl⟩
        rw [← hsk] at hidx hI
        clear hsk
        obtain ⟨xs, hxs⟩ : ∃ xs, xs = s.l k := ⟨_, rfl⟩
        obtain ⟨ek, hek⟩ : ∃ ek, ek = s.e k := ⟨_, rfl⟩
        rw [← hxs] at hI
        rw [← hek] at ce
        obtain ⟨A, c, rfl, hn, hc, hA, hcell⟩ := hI
        have hc9 : c ≤ 9223372036854775807 := hc
        have HC := Lib.hid hcell
        have HXS := Lib.hid hxs
        have HEK := Lib.hid hek
        have HOK := Lib.hid hok
        clear hcell hxs hek hok hA
        have hd3 : decide ((k : Int) < 3) = true := decide_eq_true (by omega)
        go_wp2_with fail
        clear hd3
        go_loopw [24, 5] (fun i l wj => ∃ j : Nat, j ≤ xs.length ∧ i = .int .i64 j ∧ l = .int .i64 (lastOf (-1) (xs.take j)) ∧ okFrom s.len (-1) (xs.take j) = true ∧ wj = wr) (fun i _ _ => xs.length - (intOf i).toNat)
        case atStart => exact ⟨0, by omega, rfl, rfl, rfl, rfl⟩
        case round =>
          obtain ⟨j, hj, rfl, rfl, hoj, rfl⟩ := hrel
          by_cases hjn : j < xs.length
          · obtain ⟨g, off, rfl, hcj⟩ := HC.out j xs[j] (by simp [hjn])
            obtain ⟨la, hla⟩ : ∃ la, la = lastOf (-1) (xs.take j) := ⟨_, rfl⟩
            obtain ⟨x, hx⟩ : ∃ x, x = xs[j] := ⟨_, rfl⟩
            have hstep : okFrom s.len (-1) (xs.take (j + 1)) = decide (la < x ∧ x < s.len) := by
              rw [List.take_succ_eq_append_getElem hjn, okFrom_append, hoj, hla, hx]
              simp [okFrom]
            have hnext := lastOf_succ (-1) xs j hjn
            rw [← hx] at hcj hnext
            rw [← hla]
            have HSTEP := Lib.hid hstep
            have HN := Lib.hid hnext
            clear hla hx hstep hnext hoj
            by_cases h1 : la < x
            · by_cases h2 : x < s.len
              · go_wp2_with fail
                go_roundw
                case rel => exact ⟨j + 1, by omega, by go_num, by rw [HN.out], by rw [HSTEP.out]; exact decide_eq_true ⟨h1, h2⟩, by trivial⟩
                case measure => simp [intOf]; omega
              · have hVf : V = false := by rw [HV.out]; exact Su.lines_false hk3 (m := j + 1) (by rw [← HXS.out, HSTEP.out]; exact decide_eq_false (fun h => by omega))
                have HF := Lib.hid hVf
                clear hVf
                go_wp2_with fail
                go_ret
                exact ⟨by rw [HF.out]; rfl, KW⟩
            · have hVf : V = false := by rw [HV.out]; exact Su.lines_false hk3 (m := j + 1) (by rw [← HXS.out, HSTEP.out]; exact decide_eq_false (fun h => by omega))
              have HF := Lib.hid hVf
              clear hVf
              go_wp2_with fail
              go_ret
              exact ⟨by rw [HF.out]; rfl, KW⟩
          · have hjl : j = xs.length := by omega
            subst hjl
            rw [List.take_length] at hoj
            have HOJ := Lib.hid hoj
            clear hoj
            by_cases he : 0 ≤ ek ∧ ek ≤ 2
            · have hd : decide (0 ≤ ek ∧ ek ≤ 2) = true := decide_eq_true he
              have HD := Lib.hid hd
              clear hd
              go_wp2_with fail
              refine (known_any ek _).mono ?_
              rintro e w2 ⟨rfl, rfl⟩
              rw [HD.out]
              go_wp2_with fail
              go_roundw
              case rel => exact ⟨k + 1, by omega, by go_num, by rw [Su.okUpto_succ, HOK.out, Su.okAt, ← HXS.out, ← HEK.out, HOJ.out, HD.out]; rfl, by trivial⟩
              case measure => simp [intOf]; omega
            · have hd : decide (0 ≤ ek ∧ ek ≤ 2) = false := decide_eq_false he
              have HD := Lib.hid hd
              have hVf : V = false := by rw [HV.out]; exact Su.valid_false hk3 (by rw [Su.okAt, ← HEK.out, HD.out, Bool.and_false])
              have HF := Lib.hid hVf
              clear hd hVf
              go_wp2_with fail
              refine (known_any ek _).mono ?_
              rintro e w2 ⟨rfl, rfl⟩
              rw [HD.out]
              go_wp2_with fail
              go_ret
              exact ⟨by rw [HF.out]; rfl, KW⟩
      · have hk3' : k = 3 := by omega
        subst hk3'
        have hVt : V = true := by rw [HV.out, Su.valid_eq, hok]; simp [hr1, hr2]
        have HT := Lib.hid hVt
        clear hVt hok
        go_wp2_with fail
        go_ret
        exact ⟨by rw [HT.out]; rfl, KW⟩
  · have hVf : V = false := by rw [HV.out]; simp [Su.valid, hr]
    have HF := Lib.hid hVf
    clear hVf
    by_cases hr1 : s.len < 0
    · clear hr
      go_enter Tryd.func16, Tryd.ntmps16
      go_wp2_with fail
      go_ret
      exact ⟨by rw [HF.out]; rfl, (Keep.refl [] w).alloc _⟩
    · have hr2 : 1048576 < s.len := by omega
      clear hr
      go_enter Tryd.func16, Tryd.ntmps16
      go_wp2_with fail
      go_ret
      exact ⟨by rw [HF.out]; rfl, (Keep.refl [] w).alloc _⟩
end Go.Proofs.YtomhlmfekmnajaaDoor
