/- Ready and Held of the ring. -/
import Derived.Test.YtinanoclnlcilaaPut
import Derived.Lib.Hide
namespace Go.Proofs.Ytinanoclnlcilaa
open Go.RowKit
set_option linter.unusedVariables false

theorem mod_cast_add (a b n : Nat) : ((a : Int) + (b : Int)) % (n : Int) = (((a + b) % n : Nat) : Int) := by rw [← Int.natCast_add, Int.natCast_emod]

/-- Does the slot of number n hold a result? -/
def full (sl : List (Option Nat)) (n : Nat) : Bool := ((sl[n % sl.length]?).getD none).isSome

theorem full_cell {w : World} {R S : Nat} {sl : List (Option Nat)} {next credits : Int} (h : RingAt w R S sl next credits) (n : Nat) (hl : 0 < sl.length) :
    ∃ p, w.cell? ⟨S, n % sl.length, none⟩ = some (ptr p) ∧ full sl n = p.isSome := by
  have hlt : n % sl.length < sl.length := Nat.mod_lt _ hl
  refine ⟨sl[n % sl.length], h.hs.cell _ _ (by simp [hlt]), ?_⟩
  simp [full, hlt]

theorem ready_any (R S : Nat) (sl : List (Option Nat)) (nx : Nat) (credits : Int) (w : World) (h : RingAt w R S sl nx credits) (hl0 : 0 < sl.length) (hl : sl.length ≤ 64) (hn1 : nx ≤ 1000) :
    Calls Try.prog 20 #[.pointer (some ⟨R, 0, none⟩)] w fun e w' => e = .returned (.bool (full sl nx)) ∧ ∃ m, w' = w.drewN m := by
  have c0 := h.hr.cell 0 _ rfl
  have c1 := h.hr.cell 1 _ rfl
  obtain ⟨p, hp, hf⟩ := full_cell h nx hl0
  rw [hf]
  clear hf
  cases p with
  | none =>
    simp only [ptr] at hp
    go_enter Try.func20, Try.ntmps20
    go_wp2_with fail
    refine (slot_any R S sl.length nx _ ?_ hl0 hl (by omega)).mono ?_
    · go_simp
    rintro e w' ⟨rfl, m, rfl⟩
    rw [show ((nx : Int) % (sl.length : Int)).toNat = nx % sl.length from by omega]
    go_wp2_with fail
    go_ret
    exact ⟨rfl, _, rfl⟩
  | some p =>
    simp only [ptr] at hp
    go_enter Try.func20, Try.ntmps20
    go_wp2_with fail
    refine (slot_any R S sl.length nx _ ?_ hl0 hl (by omega)).mono ?_
    · go_simp
    rintro e w' ⟨rfl, m, rfl⟩
    rw [show ((nx : Int) % (sl.length : Int)).toNat = nx % sl.length from by omega]
    go_wp2_with fail
    go_ret
    exact ⟨rfl, _, rfl⟩

/-- The numbers that are held, of the first k places from nx on. -/
def heldTo (sl : List (Option Nat)) (nx : Nat) : Nat → List Int
  | 0 => []
  | k + 1 => if full sl (nx + k) then heldTo sl nx k ++ [((nx + k : Nat) : Int)] else heldTo sl nx k

theorem heldTo_le (sl : List (Option Nat)) (nx : Nat) (k : Nat) : (heldTo sl nx k).length ≤ k := by
  induction k with
  | zero => simp [heldTo]
  | succ k ih =>
    unfold heldTo
    split
    · simp; omega
    · omega

def IntRow (w : World) (v : Value) (xs : List Int) : Prop := Row w v 3 1 xs.length (xs.map (Value.int .i64))

def HeldPost (xs : List Int) (w : World) (e : Ending) (w' : World) : Prop := ∃ v, e = .returned v ∧ IntRow w' v xs ∧ Keep [] w w'

theorem Try.info3 : (Try.prog.info? 3).map (fun i => (i.zero, i.size, i.bytes)) = some (some (.int .i64 0), 1, 8) := by kernel_rfl

theorem held_any (R S : Nat) (sl : List (Option Nat)) (nx : Nat) (credits : Int) (w : World) (h : RingAt w R S sl nx credits) (hl0 : 0 < sl.length) (hl : sl.length ≤ 64) (hn1 : nx ≤ 1000) :
    Calls Try.prog 12 #[.pointer (some ⟨R, 0, none⟩)] w (HeldPost (heldTo sl nx sl.length) w) := by
  obtain ⟨i0, hi, hz0, hz1, hz2⟩ := info_parts Try.info3
  have c0 := h.hr.cell 0 _ rfl
  go_enter Try.func12, Try.ntmps12
  go_wp2_with fail
  go_loopw [3, 4] (fun v i wr => ∃ k : Nat, k ≤ sl.length ∧ i = .int .i64 k ∧ wr.ownsRow w.heap.size 3 1 v (heldTo sl nx k).length ((heldTo sl nx k).map (Value.int .i64)) ∧ Keep [] w wr) (fun _ i _ => sl.length - (intOf i).toNat)
  case atStart => exact ⟨0, Nat.zero_le _, rfl, World.ownsRow_nil _ _ _ _, Keep.refl _ _⟩
  case round =>
    obtain ⟨k, hk, rfl, hown, K⟩ := hrel
    have hle := heldTo_le sl nx k
    have hr1 : RingAt wr R S sl nx credits := ⟨K.blk h.hr (by simp), K.blk h.hs (by simp)⟩
    have c0 := hr1.hr.cell 0 _ rfl
    have c1 := hr1.hr.cell 1 _ rfl
    by_cases hlt : k < sl.length
    · obtain ⟨p, hp, hf⟩ := full_cell hr1 (nx + k) hl0
      cases p with
      | none =>
        simp only [ptr] at hp
        have H : heldTo sl nx (k + 1) = heldTo sl nx k := by simp [heldTo, hf]
        clear hf
        have HH := Lib.hid H; clear H
        go_wp2_with fail
        refine (slot_any R S sl.length _ _ ?_ hl0 hl (by omega)).mono ?_
        · go_simp
        rintro e w' ⟨rfl, m, rfl⟩
        rw [mod_cast_add nx k sl.length, Int.toNat_natCast]
        go_wp2_with fail
        go_roundw
        case rel => exact ⟨k + 1, by omega, by go_num, by rw [HH.out]; exact hown, K.drewN _⟩
        case measure => simp [intOf]; omega
      | some p =>
        simp only [ptr] at hp
        have H : heldTo sl nx (k + 1) = heldTo sl nx k ++ [((nx + k : Nat) : Int)] := by simp [heldTo, hf]
        clear hf
        have HH := Lib.hid H; clear H
        go_wp2_with fail
        refine (slot_any R S sl.length _ _ ?_ hl0 hl (by omega)).mono ?_
        · go_simp
        rintro e w' ⟨rfl, m, rfl⟩
        rw [mod_cast_add nx k sl.length, Int.toNat_natCast]
        have hownN : (wr.drewN m).ownsRow w.heap.size 3 1 u3 (heldTo sl nx k).length ((heldTo sl nx k).map (Value.int .i64)) := hown
        go_wp2_with (at_builtin; go_must (refine wpList_append_own _ rfl (.tmp 29) (.tmp 36) 22 rfl w.heap.size 3 i0 (.int .i64 0) 1 8 Try.underlying22 hi hz0 hz1 hz2 rfl (by decide) u3 (heldTo sl nx k).length ((heldTo sl nx k).map (Value.int .i64)) rfl (hownN.alloc _) ⟨wr.heap.size, 0, none⟩ 1 1 [.int .i64 ((nx : Int) + (k : Int))] rfl rfl (cell_one_new _ _ _) (by simp [Value.oneCell']) (by unfold maxLen; omega) (by omega) (by have := K.size; simp; omega) ?_); intro v' w1 hown' hgrow _)
        have K1 : Keep [] w w1 := (((K.drewN m).alloc _).grown hgrow (fun b hb => Or.inr (hown.lt b hb).1))
        have hown2 : w1.ownsRow w.heap.size 3 1 v' (heldTo sl nx (k + 1)).length ((heldTo sl nx (k + 1)).map (Value.int .i64)) := by
          rw [HH.out]
          simpa using hown'
        clear hown' hgrow hown hownN hp c0 c1
        go_wp2
        go_roundw
        case rel => exact ⟨k + 1, by omega, by go_num, hown2, K1⟩
        case measure => simp [intOf]; omega
    · have hk2 : k = sl.length := by omega
      subst hk2
      go_wp2_with fail
      go_ret
      exact ⟨_, rfl, Row.of_own hown, K⟩
end Go.Proofs.Ytinanoclnlcilaa
