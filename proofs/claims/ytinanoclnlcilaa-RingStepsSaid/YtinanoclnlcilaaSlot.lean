/- The ring in memory, and its small methods: New, Next, Credits, Acquire, slot, Ready. -/
import Derived.Test.YtinanoclnlcilaaRows
import Derived.Test.YtinanoclnlcilaaHeap
import Derived.WalkSpells
import Derived.WalkLawsBesides
import Derived.Deep.OwnRows
namespace Go.Proofs.Ytinanoclnlcilaa
open Go.RowKit

def ptr : Option Nat → Value
  | .none => .pointer .none
  | .some p => .pointer (some ⟨p, 0, .none⟩)

/-- The ring at block R, its slots at block S. -/
structure RingAt (w : World) (R S : Nat) (sl : List (Option Nat)) (next credits : Int) : Prop where
  hr : Blk w R 48 [.slice (some ⟨S, 0, .none⟩) sl.length sl.length, .int .i64 next, .int .i64 credits]
  hs : Blk w S 49 (sl.map ptr)

set_option maxHeartbeats 400000 in
theorem next_any (R : Nat) (next : Int) (w : World) (h1 : w.cell? ⟨R, 1, none⟩ = some (.int .i64 next)) :
    Calls Try.prog 18 #[.pointer (some ⟨R, 0, none⟩)] w fun e w' => e = .returned (.int .i64 next) ∧ w' = w := by
  go_enter Try.func18, Try.ntmps18
  go_wp2
  go_ret
  exact ⟨rfl, rfl⟩

set_option maxHeartbeats 400000 in
theorem credits_any (R : Nat) (credits : Int) (w : World) (h1 : w.cell? ⟨R, 2, none⟩ = some (.int .i64 credits)) :
    Calls Try.prog 19 #[.pointer (some ⟨R, 0, none⟩)] w fun e w' => e = .returned (.int .i64 credits) ∧ w' = w := by
  go_enter Try.func19, Try.ntmps19
  go_wp2
  go_ret
  exact ⟨rfl, rfl⟩

set_option maxHeartbeats 400000 in
theorem slot_any (R S len : Nat) (n : Int) (w : World) (h0 : w.cell? ⟨R, 0, none⟩ = some (.slice (some ⟨S, 0, none⟩) len len)) (hlen : 0 < len) (hlen2 : len ≤ 64) (hn : 0 ≤ n) :
    Calls Try.prog 22 #[.pointer (some ⟨R, 0, none⟩), .int .i64 n] w fun e w' => e = .returned (.pointer (some ⟨S, (n % (len : Int)).toNat, none⟩)) ∧ ∃ m, w' = w.drewN m := by
  have a1 : 0 ≤ n % (len : Int) := Int.emod_nonneg _ (by omega)
  have a2 : n % (len : Int) < (len : Int) := Int.emod_lt_of_pos _ (by omega)
  go_enter Try.func22, Try.ntmps22
  go_wp2
  go_quiet (fail)
  go_wp2
  go_ret
  exact ⟨rfl, _, rfl⟩

set_option maxHeartbeats 400000 in
theorem acquire_none (R : Nat) (w : World) (h1 : w.cell? ⟨R, 2, none⟩ = some (.int .i64 0)) :
    Calls Try.prog 16 #[.pointer (some ⟨R, 0, none⟩)] w fun e w' => e = .returned (.int .i64 11) ∧ w' = w := by
  go_enter Try.func16, Try.ntmps16
  go_wp2
  go_ret
  exact ⟨rfl, rfl⟩

set_option maxHeartbeats 400000 in
theorem acquire_some (R : Nat) (credits : Int) (w : World) (h1 : w.cell? ⟨R, 2, none⟩ = some (.int .i64 credits)) (f1 : w.frozen? ⟨R, 2, none⟩ = false) (hc0 : 0 < credits) (hc : credits ≤ 64) :
    Calls Try.prog 16 #[.pointer (some ⟨R, 0, none⟩)] w fun e w' => e = .returned (.int .i64 0) ∧ w' = w.setCell ⟨R, 2, none⟩ (.int .i64 (credits - 1)) := by
  have h0 : ¬ credits = 0 := by omega
  go_enter Try.func16, Try.ntmps16
  go_wp2
  go_ret
  exact ⟨rfl, rfl⟩

theorem Try.info49 : (Try.prog.info? 49).map (fun i => (i.zero, i.size, i.bytes)) = some (some (.pointer none), 1, 8) := by kernel_rfl

theorem ring_new_no (n : Int) (w : World) (h : n < 1 ∨ 64 < n) :
    Calls Try.prog 6 #[.int .i64 n] w fun e w' => e = .returned (.tuple #[.pointer none, .int .i64 3]) ∧ w' = w := by
  by_cases h1 : n < 1
  · go_enter Try.func6, Try.ntmps6
    go_wp2
    go_ret2
    exact ⟨rfl, rfl⟩
  · have h2 : 64 < n := by omega
    go_enter Try.func6, Try.ntmps6
    go_wp2
    go_ret2
    exact ⟨rfl, rfl⟩

theorem ring_new_yes (n : Nat) (w : World) (h1 : 1 ≤ n) (h2 : n ≤ 64) :
    Calls Try.prog 6 #[.int .i64 n] w fun e w' => e = .returned (.tuple #[.pointer (some ⟨w.heap.size + 1, 0, none⟩), .int .i64 0]) ∧
      w' = (w.alloc (.cells (madeCells #[.pointer none] n) 49)).alloc (.cells #[.slice (some ⟨w.heap.size, 0, none⟩) n n, .int .i64 1, .int .i64 n] 48) := by
  obtain ⟨i0, hi, hz0, hz1, hz2⟩ := info_parts Try.info49
  have hmk := run_make_row (P := Try.prog) 46 49 i0 (.pointer none) Try.underlying46 hi hz0 hz1 rfl .i64 .i64 n (by rw [hz2]; omega) (by omega)
  go_enter Try.func6, Try.ntmps6
  go_wp2
  go_ret2
  exact ⟨rfl, rfl⟩

theorem ref_new (n : Int) (w : World) :
    Calls Try.prog 8 #[.int .i64 n] w fun e w' => e = .returned (.pointer (some ⟨w.heap.size, 0, none⟩)) ∧
      w' = w.alloc (.cells #[.int .i64 n, .int .i64 1, .int .i64 n, .slice none 0 0, .slice none 0 0] 39) := by
  go_enter Try.func8, Try.ntmps8
  go_wp2
  go_ret
  exact ⟨rfl, rfl⟩
end Go.Proofs.Ytinanoclnlcilaa
