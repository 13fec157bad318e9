/- The reference's ring in memory: at, Ready, Acquire. And keep.Ints, keep.Mod. -/
import Derived.Test.YtinanoclnlcilaaHeld
namespace Go.Proofs.Ytinanoclnlcilaa
open Go.RowKit
set_option linter.unusedVariables false

def AtPost (nums : List Int) (n : Int) (w : World) (e : Ending) (w' : World) : Prop := ∃ k : Int, e = .returned (.int .i64 k) ∧ (0 ≤ k ↔ n ∈ nums) ∧ -1 ≤ k ∧ k ≤ 1000 ∧ w' = w

theorem at_any (Q : Nat) (A : Option Addr) (c : Nat) (nums : List Int) (n : Int) (w : World) (h3 : w.cell? ⟨Q, 3, none⟩ = some (.slice A nums.length c)) (hN : IntRow w (.slice A nums.length c) nums) (hl : nums.length ≤ 1000) :
    Calls Try.prog 24 #[.pointer (some ⟨Q, 0, none⟩), .int .i64 n] w (AtPost nums n w) := by
  have HN := Lib.hid hN
  clear hN
  go_enter Try.func24, Try.ntmps24
  go_wp2_with fail
  go_loop [5] (fun i => ∃ k : Nat, k ≤ nums.length ∧ i = .int .i64 k ∧ n ∉ nums.take k) (fun i => nums.length - (intOf i).toNat)
  case atStart => exact ⟨0, Nat.zero_le _, rfl, by simp⟩
  case round =>
    obtain ⟨k, hk, rfl, hno⟩ := hrel
    have HO := Lib.hid hno
    clear hno
    by_cases hlt : k < nums.length
    · obtain ⟨g, off, rfl, hc⟩ := Row.at_ HN.out k (.int .i64 nums[k]) (by simp [hlt])
      by_cases heq : nums[k] = n
      · have hmem : n ∈ nums := heq ▸ List.getElem_mem hlt
        have HM := Lib.hid hmem
        clear hmem
        go_wp2_with fail
        go_ret
        exact ⟨k, rfl, by have := HM.out; simp [this], by omega, by omega, rfl⟩
      · go_wp2_with fail
        go_round
        case rel => exact ⟨k + 1, by omega, by go_num, by
          rw [List.take_succ_eq_append_getElem hlt]
          rw [List.mem_append, List.mem_singleton]
          rintro (h | h)
          · exact HO.out h
          · exact heq h.symm⟩
        case measure => simp [intOf]; omega
    · have hkl : k = nums.length := by omega
      have hno : n ∉ nums := by have := HO.out; rw [hkl, List.take_length] at this; exact this
      have HM := Lib.hid hno
      clear hno
      subst hkl
      go_wp2_with fail
      go_ret
      exact ⟨-1, rfl, by have := HM.out; simp [this], by omega, by omega, rfl⟩

theorem refReady_any (Q : Nat) (A : Option Addr) (c : Nat) (nums : List Int) (next : Int) (b : Bool) (hb : b = decide (next ∈ nums)) (w : World) (h1 : w.cell? ⟨Q, 1, none⟩ = some (.int .i64 next)) (h3 : w.cell? ⟨Q, 3, none⟩ = some (.slice A nums.length c)) (hN : IntRow w (.slice A nums.length c) nums) (hl : nums.length ≤ 1000) :
    Calls Try.prog 21 #[.pointer (some ⟨Q, 0, none⟩)] w fun e w' => e = .returned (.bool b) ∧ w' = w := by
  have HB := Lib.hid hb
  clear hb
  go_enter Try.func21, Try.ntmps21
  go_wp2_with fail
  refine (at_any Q A c nums next _ h3 hN hl).mono ?_
  rintro e w' ⟨k, rfl, hk, _, _, rfl⟩
  have hd : b = decide (0 ≤ k) := by rw [HB.out]; exact decide_eq_decide.2 hk.symm
  have HD := Lib.hid hd
  clear hk hd HB
  go_wp2_with fail
  go_ret
  exact ⟨by rw [HD.out]; rfl, rfl⟩

theorem refAcquire_none (Q : Nat) (w : World) (h1 : w.cell? ⟨Q, 2, none⟩ = some (.int .i64 0)) :
    Calls Try.prog 17 #[.pointer (some ⟨Q, 0, none⟩)] w fun e w' => e = .returned (.int .i64 11) ∧ w' = w := by
  go_enter Try.func17, Try.ntmps17
  go_wp2
  go_ret
  exact ⟨rfl, rfl⟩

theorem refAcquire_some (Q : Nat) (credits : Int) (w : World) (h1 : w.cell? ⟨Q, 2, none⟩ = some (.int .i64 credits)) (f1 : w.frozen? ⟨Q, 2, none⟩ = false) (hc0 : 0 < credits) (hc : credits ≤ 64) :
    Calls Try.prog 17 #[.pointer (some ⟨Q, 0, none⟩)] w fun e w' => e = .returned (.int .i64 0) ∧ w' = w.setCell ⟨Q, 2, none⟩ (.int .i64 (credits - 1)) := by
  have h0 : ¬ credits = 0 := by omega
  go_enter Try.func17, Try.ntmps17
  go_wp2
  go_ret
  exact ⟨rfl, rfl⟩

/-- keep.Mod -/
def modOf (n m : Int) : Int := if n.tmod m < 0 then n.tmod m + m else n.tmod m

theorem modOf_eq (n m : Int) (hm : 0 < m) : modOf n m = n % m := by
  unfold modOf
  have h1 := Int.emod_nonneg n (by omega : m ≠ 0)
  have h2 := Int.emod_lt_of_pos n hm
  rw [Int.tmod_eq_emod]
  split <;> split <;> omega

theorem mod_any (n m : Int) (w : World) (hm : 0 < m) (hm2 : m ≤ 1000000) (hlo : -9223372036854775808 ≤ n) (hhi : n ≤ 9223372036854775807) :
    Calls Try.prog 5 #[.int .i64 n, .int .i64 m] w fun e w' => e = .returned (.int .i64 (n % m)) ∧ w' = w := by
  rw [← modOf_eq n m hm]
  have hne : ¬ m = 0 := by omega
  have hb1 : -m < n.tmod m := by have := Int.lt_tmod_of_pos n hm; omega
  have hb2 : n.tmod m < m := Int.tmod_lt_of_pos n hm
  unfold modOf
  go_enter Try.func5, Try.ntmps5
  go_wp2
  · go_ret
    exact ⟨rfl, rfl⟩
  · go_ret
    exact ⟨rfl, rfl⟩
end Go.Proofs.Ytinanoclnlcilaa
namespace Go.Proofs.Ytinanoclnlcilaa
open Go.RowKit
set_option linter.unusedVariables false
/-- keep.Ints -/
theorem ints_any (A B : Option Addr) (c d n1 n2 : Nat) (xs ys : List Int) (b : Bool) (hb : b = decide (xs = ys)) (w : World) (hX : Row w (.slice A n1 c) 3 1 n1 (xs.map (Value.int .i64))) (hY : Row w (.slice B n2 d) 3 1 n2 (ys.map (Value.int .i64))) (hl : n1 ≤ 1000) (hl2 : n2 ≤ 1000) :
    Calls Try.prog 11 #[.slice A n1 c, .slice B n2 d] w fun e w' => e = .returned (.bool b) ∧ ∃ m, w' = w.drewN m := by
  obtain rfl : n1 = xs.length := by have := hX.1; simp at this; omega
  obtain rfl : n2 = ys.length := by have := hY.1; simp at this; omega
  have HX := Lib.hid hX
  have HY := Lib.hid hY
  have HB := Lib.hid hb
  clear hX hY hb
  by_cases hlen : xs.length = ys.length
  · have HL := Lib.hid hlen
    have e1 : ((xs.length : Int) != (ys.length : Int)) = false := by simp [hlen]
    have e2 : (xs.length != ys.length) = false := by simp [hlen]
    clear hlen
    go_enter Try.func11, Try.ntmps11
    go_wp2_with fail
    go_loopw [5] (fun i wr => ∃ k : Nat, k ≤ xs.length ∧ i = .int .i64 k ∧ xs.take k = ys.take k ∧ ∃ m, wr = w.drewN m) (fun i _ => xs.length - (intOf i).toNat)
    case atStart => exact ⟨0, Nat.zero_le _, rfl, rfl, 0, rfl⟩
    case round =>
      obtain ⟨k, hk, rfl, heq, m, rfl⟩ := hrel
      have HE := Lib.hid heq
      clear heq
      by_cases hlt : k < xs.length
      · have hlt2 : k < ys.length := by rw [← HL.out]; exact hlt
        obtain ⟨g, off, rfl, hc⟩ := Row.at_ HX.out k (.int .i64 xs[k]) (by simp [hlt])
        obtain ⟨g2, off2, rfl, hc2⟩ := Row.at_ HY.out k (.int .i64 ys[k]) (by simp [hlt2])
        by_cases hxy : xs[k] = ys[k]
        · have hne : (xs[k] != ys[k]) = false := by simp [hxy]
          have HXY := Lib.hid hxy
          clear hxy
          go_wp2_with fail
          go_quiet (fail)
          go_wp2_with fail
          go_roundw
          case rel => exact ⟨k + 1, by omega, by go_num, by rw [List.take_succ_eq_append_getElem hlt, List.take_succ_eq_append_getElem hlt2, HE.out, HXY.out], _, rfl⟩
          case measure => simp [intOf]; omega
        · have hne : (xs[k] != ys[k]) = true := by simp [hxy]
          have hbf : b = false := by rw [HB.out]; exact decide_eq_false (fun h => hxy (by subst h; rfl))
          have HF := Lib.hid hbf
          clear hbf hxy
          go_wp2_with fail
          go_quiet (fail)
          go_wp2_with fail
          go_ret
          exact ⟨by rw [HF.out]; rfl, _, World.drewN_drewN ..⟩
      · have hkl : k = xs.length := by omega
        have hbt : b = true := by
          rw [HB.out]
          refine decide_eq_true ?_
          have h := HE.out
          rw [hkl, List.take_length, HL.out, List.take_length] at h
          exact h
        have HT := Lib.hid hbt
        clear hbt
        subst hkl
        go_wp2_with fail
        go_ret
        exact ⟨by rw [HT.out]; rfl, _, rfl⟩
  · have e1 : ((xs.length : Int) != (ys.length : Int)) = true := by simp; omega
    have e2 : (xs.length != ys.length) = true := by simp [hlen]
    have hbf : b = false := by rw [HB.out]; exact decide_eq_false (fun h => hlen (by rw [h]))
    have HF := Lib.hid hbf
    clear hbf hlen
    go_enter Try.func11, Try.ntmps11
    go_wp2_with fail
    go_ret
    exact ⟨by rw [HF.out]; rfl, 0, rfl⟩
end Go.Proofs.Ytinanoclnlcilaa
