/- Take of the ring. -/
import Derived.Test.YtinanoclnlcilaaHeld
import Derived.BigRegion
namespace Go.Proofs.Ytinanoclnlcilaa
open Go.RowKit
set_option linter.unusedVariables false

theorem take_none (R S : Nat) (sl : List (Option Nat)) (nx : Nat) (credits : Int) (w : World) (h : RingAt w R S sl nx credits) (hl0 : 0 < sl.length) (hl : sl.length ≤ 64) (hn1 : nx ≤ 1000) (hf : full sl nx = false) :
    Calls Try.prog 13 #[.pointer (some ⟨R, 0, none⟩)] w fun e w' => e = .returned (.tuple #[.agg #[.slice none 0 0, .int .i64 0, .int .i64 0], .int .i64 15]) ∧ Keep [] w w' := by
  have hR := h.hr.lt
  go_enter Try.func13, Try.ntmps13
  go_wp2_with fail
  refine (ready_any R S sl nx credits _ ⟨h.hr.alloc _, h.hs.alloc _⟩ hl0 hl hn1).mono ?_
  rintro e w' ⟨rfl, m, rfl⟩
  rw [hf]
  go_wp2_with fail
  refine bodyPost_ret (v := .tuple #[.agg #[.slice none 0 0, .int .i64 0, .int .i64 0], .int .i64 15]) (by simp [results, Try.results13, go_sem]) rfl ⟨rfl, ?_⟩
  exact (((((Keep.refl [] w).alloc _).drewN _).setCell (Or.inr (Nat.le_refl _)) _).setCell (Or.inr (Nat.le_refl _)) _).setCell (Or.inr (Nat.le_refl _)) _

def TakePost (R S : Nat) (sl : List (Option Nat)) (nx : Nat) (credits : Int) (v : Value) (st rc : Int) (w : World) (e : Ending) (w' : World) : Prop :=
  e = .returned (.tuple #[.agg #[v, .int .i64 st, .int .i64 rc], .int .i64 0]) ∧ Keep [R, S] w w' ∧ RingAt w' R S (sl.set (nx % sl.length) none) ((nx + 1 : Nat) : Int) (min (credits + 1) sl.length)

theorem take_end {R S : Nat} {sl : List (Option Nat)} {nx : Nat} {credits : Int} {w w1 : World} (h : RingAt w R S sl nx credits) (K : Keep [] w w1) (i : Nat) (cr x y z : Int) (a b c : Value) (hcr : cr = min (credits + 1) sl.length) :
    Keep [R, S] w (((((((w1.setCell ⟨S, i, none⟩ (.pointer none)).setCell ⟨R, 1, none⟩ (.int .i64 ((nx : Int) + 1))).setCell ⟨R, 2, none⟩ (.int .i64 cr)).setCell ⟨w.heap.size, 0, none⟩ a).setCell ⟨w.heap.size, 1, none⟩ b).setCell ⟨w.heap.size, 2, none⟩ c).drew) ∧
    RingAt (((((((w1.setCell ⟨S, i, none⟩ (.pointer none)).setCell ⟨R, 1, none⟩ (.int .i64 ((nx : Int) + 1))).setCell ⟨R, 2, none⟩ (.int .i64 cr)).setCell ⟨w.heap.size, 0, none⟩ a).setCell ⟨w.heap.size, 1, none⟩ b).setCell ⟨w.heap.size, 2, none⟩ c).drew) R S (sl.set i none) ((nx + 1 : Nat) : Int) (min (credits + 1) sl.length) := by
  have hRS : R ≠ S := h.hr.ne h.hs (by decide)
  have hR := h.hr.lt
  have hS := h.hs.lt
  have K' : Keep [R, S] w w1 := K.mono (by simp)
  refine ⟨((((((K'.setCell (Or.inl (by simp)) _).setCell (Or.inl (by simp)) _).setCell (Or.inl (by simp)) _).setCell (Or.inr (Nat.le_refl _)) _).setCell (Or.inr (Nat.le_refl _)) _).setCell (Or.inr (Nat.le_refl _)) _).drew, ?_, ?_⟩
  · have h1 : Blk w1 R 48 _ := K.blk h.hr (by simp)
    have h2 := (((h1.other (a := ⟨S, i, none⟩) (fun e => hRS e.symm) (.pointer none)).set 1 (.int .i64 ((nx : Int) + 1))).set 2 (.int .i64 cr))
    have h3 := (((h2.other (a := ⟨w.heap.size, 0, none⟩) (fun e => by simp only at e; omega) a).other (a := ⟨w.heap.size, 1, none⟩) (fun e => by simp only at e; omega) b).other (a := ⟨w.heap.size, 2, none⟩) (fun e => by simp only at e; omega) c)
    rw [List.length_set, ← hcr]
    exact h3.drew
  · have h1 : Blk w1 S 49 _ := K.blk h.hs (by simp)
    have h2 := (((h1.set i (.pointer none)).other (a := ⟨R, 1, none⟩) hRS (.int .i64 ((nx : Int) + 1))).other (a := ⟨R, 2, none⟩) hRS (.int .i64 cr))
    have h3 := (((h2.other (a := ⟨w.heap.size, 0, none⟩) (fun e => by simp only at e; omega) a).other (a := ⟨w.heap.size, 1, none⟩) (fun e => by simp only at e; omega) b).other (a := ⟨w.heap.size, 2, none⟩) (fun e => by simp only at e; omega) c)
    rw [List.map_set]
    exact h3.drew

theorem take_some (R S : Nat) (sl : List (Option Nat)) (nx : Nat) (credits : Int) (w : World) (hA : RingAt w R S sl nx credits) (hl0 : 0 < sl.length) (hl : sl.length ≤ 64) (hn1 : nx ≤ 1000) (hc0 : 0 ≤ credits) (hc : credits ≤ 64)
    (p : Nat) (A : Option Addr) (n c : Nat) (st rc : Int) (hp : sl[nx % sl.length]? = some (some p)) (hP : Blk w p 33 [.slice A n c, .int .i64 st, .int .i64 rc]) :
    Calls Try.prog 13 #[.pointer (some ⟨R, 0, none⟩)] w (TakePost R S sl nx credits (.slice A n c) st rc w) := by
  have hf : full sl nx = true := by simp [full, hp]
  have hRlt := hA.hr.lt
  have hSlt := hA.hs.lt
  have hPlt := hP.lt
  have c0 := hA.hr.cell 0 _ rfl
  have c1 := hA.hr.cell 1 _ rfl
  have c2 := hA.hr.cell 2 _ rfl
  have f1 := hA.hr.froz 1
  have f2 := hA.hr.froz 2
  have s0 : w.cell? ⟨S, nx % sl.length, none⟩ = some (.pointer (some ⟨p, 0, none⟩)) := hA.hs.cell _ _ (by simp [hp, ptr])
  have s1 := hA.hs.froz (nx % sl.length)
  have p0 := hP.cell 0 _ rfl
  have p1 := hP.cell 1 _ rfl
  have p2 := hP.cell 2 _ rfl
  have hRS : ¬ R = S := hA.hr.ne hA.hs (by decide)
  have hSR : ¬ S = R := fun e => hRS e.symm
  go_enter Try.func13, Try.ntmps13
  go_wp2_with fail
  refine (ready_any R S sl nx credits _ ⟨hA.hr.alloc _, hA.hs.alloc _⟩ hl0 hl hn1).mono ?_
  rintro e w' ⟨rfl, m, rfl⟩
  rw [hf]
  go_wp2_with fail
  refine (slot_any R S sl.length nx _ ?_ hl0 hl (by omega)).mono ?_
  · go_simp
  rintro e w' ⟨rfl, m2, rfl⟩
  rw [show ((nx : Int) % (sl.length : Int)).toNat = nx % sl.length from by omega]
  go_wp2_with fail
  refine (slot_any R S sl.length nx _ ?_ hl0 hl (by omega)).mono ?_
  · go_simp
  rintro e w' ⟨rfl, m3, rfl⟩
  rw [show ((nx : Int) % (sl.length : Int)).toNat = nx % sl.length from by omega]
  go_wp2_with fail
  have hw : IntKind.i64.wrap (credits + 1) = credits + 1 := IntWalk.i64_in _ (by omega)
  go_region
  go_wp2
  · have hlt : (sl.length : Int) < credits + 1 := by assumption
    refine bodyPost_ret (v := .tuple #[.agg #[.slice A n c, .int .i64 st, .int .i64 rc], .int .i64 0]) (by simp [results, Try.results13, go_sem]) rfl ⟨rfl, ?_⟩
    exact take_end (w1 := ((((w.alloc _).drewN _).alloc _).drewN _)) hA (((((Keep.refl [] w).alloc _).drewN _).alloc _).drewN _) _ _ 0 0 0 _ _ _ (by omega)
  · have hlt : credits + 1 ≤ (sl.length : Int) := by assumption
    refine bodyPost_ret (v := .tuple #[.agg #[.slice A n c, .int .i64 st, .int .i64 rc], .int .i64 0]) (by simp [results, Try.results13, go_sem]) rfl ⟨rfl, ?_⟩
    exact take_end (w1 := ((((w.alloc _).drewN _).alloc _).drewN _)) hA (((((Keep.refl [] w).alloc _).drewN _).alloc _).drewN _) _ _ 0 0 0 _ _ _ (by omega)
end Go.Proofs.Ytinanoclnlcilaa
