/- Put of the ring: out of range, occupied, stored. -/
import Derived.Test.YtinanoclnlcilaaPut
import Derived.Lib.Hide
namespace Go.Proofs.Ytinanoclnlcilaa
open Go.RowKit
set_option linter.unusedVariables false

theorem put_range (R S : Nat) (sl : List (Option Nat)) (next credits n : Int) (v : Value) (st rc : Int) (w : World) (h : RingAt w R S sl next credits) (hl : sl.length ≤ 64) (hn0 : 1 ≤ next) (hn1 : next ≤ 1000)
    (hlo : -9223372036854775808 ≤ n) (hhi : n ≤ 9223372036854775807) (hv : v.oneCell' = true) (hno : n < next ∨ (sl.length : Int) ≤ n - next) :
    Calls Try.prog 9 #[.pointer (some ⟨R, 0, none⟩), .int .i64 n, .agg #[v, .int .i64 st, .int .i64 rc]] w fun e w' => e = .returned (.int .i64 3) ∧ Keep [] w w' := by
  have c0 := h.hr.cell 0 _ rfl
  have c1 := h.hr.cell 1 _ rfl
  have hR := h.hr.lt
  by_cases h1 : n < next
  · go_enter Try.func9, Try.ntmps9
    go_wp2_with fail
    go_quiet (fail)
    go_wp2_with fail
    go_ret
    exact ⟨rfl, ((Keep.refl [] w).alloc _).drewN _⟩
  · have h2 : (sl.length : Int) ≤ n - next := by omega
    have hw : IntKind.i64.wrap (n - next) = n - next := IntWalk.i64_in _ (by omega)
    go_enter Try.func9, Try.ntmps9
    go_wp2_with fail
    go_quiet (fail)
    go_wp2_with fail
    go_ret
    exact ⟨rfl, ((Keep.refl [] w).alloc _).drewN _⟩


theorem put_state (R S : Nat) (sl : List (Option Nat)) (next credits n : Int) (v : Value) (st rc : Int) (w : World) (h : RingAt w R S sl next credits) (hl : sl.length ≤ 64) (hn0 : 1 ≤ next) (hn1 : next ≤ 1000)
    (h1 : next ≤ n) (h2 : n - next < (sl.length : Int)) (p : Nat) (hp : sl[(n % (sl.length : Int)).toNat]? = some (some p)) (hv : v.oneCell' = true) :
    Calls Try.prog 9 #[.pointer (some ⟨R, 0, none⟩), .int .i64 n, .agg #[v, .int .i64 st, .int .i64 rc]] w fun e w' => e = .returned (.int .i64 11) ∧ Keep [] w w' := by
  have c0 := h.hr.cell 0 _ rfl
  have c1 := h.hr.cell 1 _ rfl
  have s0 : w.cell? ⟨S, (n % (sl.length : Int)).toNat, none⟩ = some (.pointer (some ⟨p, 0, none⟩)) := h.hs.cell _ _ (by simp [hp, ptr])
  have hR := h.hr.lt
  have hS := h.hs.lt
  have h1' : ¬ n < next := by omega
  have hw : IntKind.i64.wrap (n - next) = n - next := IntWalk.i64_in _ (by omega)
  go_enter Try.func9, Try.ntmps9
  go_wp2_with fail
  go_quiet (fail)
  clear hw
  go_wp2_with fail
  refine (slot_any R S sl.length n _ ?_ (by omega) hl (by omega)).mono ?_
  · go_simp
  rintro e w' ⟨rfl, m, rfl⟩
  go_wp2_with fail
  go_ret
  exact ⟨rfl, ((Keep.refl [] w).alloc _).drewN _⟩

/-- What a Put that stores leaves: the result lies in a new block, which the slot holds. -/
def PutPost (R S : Nat) (sl : List (Option Nat)) (next credits : Int) (i : Nat) (r : Res) (w : World) (e : Ending) (w' : World) : Prop :=
  e = .returned (.int .i64 0) ∧ Keep [S] w w' ∧ RingAt w' R S (sl.set i (some w.heap.size)) next credits ∧ ResAt w' w.heap.size r

theorem put_end {R S : Nat} {sl : List (Option Nat)} {next credits : Int} {i : Nat} {r : Res} {w w1 : World} {v' : Value} {cs : List Value} (h : RingAt w R S sl next credits)
    (K : Keep [S] w w1) (hS : Blk w1 S 49 (sl.map ptr)) (hP : Blk w1 w.heap.size 33 cs) (hcs : cs.set 0 v' = [v', .int .i64 r.st, .int .i64 r.rec_]) (B : ByteRow w1 v' r.out) (hi : i < sl.length) :
    PutPost R S sl next credits i r w (.returned (.int .i64 0)) ((w1.setCell ⟨w.heap.size, 0, none⟩ v').setCell ⟨S, i, none⟩ (.pointer (some ⟨w.heap.size, 0, none⟩))) := by
  have hSP : S ≠ w.heap.size := by have := h.hs.lt; omega
  have hRS : R ≠ S := h.hr.ne h.hs (by decide)
  have hRP : R ≠ w.heap.size := by have := h.hr.lt; omega
  have hR1 : Blk w1 R 48 _ := K.blk h.hr (by simpa using hRS)
  refine ⟨rfl, (K.setCell (Or.inr (Nat.le_refl _)) _).setCell (Or.inl (by simp)) _, ⟨?_, ?_⟩, ?_⟩
  · rw [List.length_set]
    exact (hR1.other (a := ⟨w.heap.size, 0, none⟩) (fun e => hRP e.symm) _).other (a := ⟨S, i, none⟩) (fun e => hRS e.symm) _
  · have := (hS.other (a := ⟨w.heap.size, 0, none⟩) (fun e => hSP e.symm) v').set i (.pointer (some ⟨w.heap.size, 0, none⟩))
    rw [List.map_set]
    exact this
  · refine ⟨v', ?_, ?_⟩
    · rw [← hcs]
      exact (hP.set 0 v').other (a := ⟨S, i, none⟩) hSP _
    · have h5 : ∀ b ∈ [S, w.heap.size], ∀ ds, ¬ BlkR w1 b 5 ds := by
        intro b hb ds hd
        simp only [List.mem_cons, List.not_mem_nil, or_false] at hb
        rcases hb with rfl | rfl
        · exact hS.neR hd (by decide) rfl
        · exact hP.neR hd (by decide) rfl
      exact B.keep (((Keep.refl [S, w.heap.size] w1).setCell (Or.inl (by simp)) _).setCell (Or.inl (by simp)) _) h5

theorem put_ok (R S : Nat) (sl : List (Option Nat)) (next credits n : Int) (v : Value) (r : Res) (w : World) (h : RingAt w R S sl next credits) (hl : sl.length ≤ 64) (hn0 : 1 ≤ next) (hn1 : next ≤ 1000)
    (h1 : next ≤ n) (h2 : n - next < (sl.length : Int)) (hp : sl[(n % (sl.length : Int)).toNat]? = some none) (hx : ByteRow w v r.out) (hlen : r.out.length ≤ 1000) :
    Calls Try.prog 9 #[.pointer (some ⟨R, 0, none⟩), .int .i64 n, .agg #[v, .int .i64 r.st, .int .i64 r.rec_]] w (PutPost R S sl next credits (n % (sl.length : Int)).toNat r w) := by
  have c0 := h.hr.cell 0 _ rfl
  have c1 := h.hr.cell 1 _ rfl
  have s0 : w.cell? ⟨S, (n % (sl.length : Int)).toNat, none⟩ = some (.pointer none) := h.hs.cell _ _ (by simp [hp, ptr])
  have s1 : w.frozen? ⟨S, (n % (sl.length : Int)).toNat, none⟩ = false := h.hs.froz _
  have hR := h.hr.lt
  have hS := h.hs.lt
  have hilt : (n % (sl.length : Int)).toNat < sl.length := (List.getElem?_eq_some_iff.1 hp).1
  have h1' : ¬ n < next := by omega
  have hw : IntKind.i64.wrap (n - next) = n - next := IntWalk.i64_in _ (by omega)
  have HX := Lib.hid hx
  obtain ⟨A0, c00, rfl, _, _⟩ := Row.slice hx
  clear hx
  go_enter Try.func9, Try.ntmps9
  go_wp2_with fail
  go_quiet (fail)
  clear hw
  go_wp2_with fail
  refine (slot_any R S sl.length n _ ?_ (by omega) hl (by omega)).mono ?_
  · go_simp
  rintro e w' ⟨rfl, m, rfl⟩
  go_wp2_with fail
  refine (clone_any _ r.out _ (HX.out.keep0 (((Keep.refl _ _).alloc _).drewN _)) hlen).mono ?_
  rintro e w1 ⟨v', rfl, B, K⟩
  obtain ⟨A', n', rfl, _, _⟩ := Row.slice B
  have K2 : Keep [S] w w1 := (((Keep.refl _ w).alloc _).drewN _).trans (K.mono (by simp))
  have hS1 : Blk w1 S 49 (sl.map ptr) := K.blk ((h.hs.alloc _).drewN _) (by simp)
  have hR1 : w1.cell? ⟨R, 0, none⟩ = some (.slice (some ⟨S, 0, none⟩) sl.length sl.length) := (K.blk ((h.hr.alloc _).drewN _) (by simp)).cell 0 _ rfl
  have hP1 : Blk w1 w.heap.size 33 _ := K.blk (Blk.new w #[_, .int .i64 r.st, .int .i64 r.rec_] 33) (by simp)
  have p0 := hP1.cell 0 _ rfl
  have p1 := hP1.froz 0
  have s2 : w1.cell? ⟨S, (n % (sl.length : Int)).toNat, none⟩ = some (.pointer none) := hS1.cell _ _ (by simp [hp, ptr])
  have s3 : w1.frozen? ⟨S, (n % (sl.length : Int)).toNat, none⟩ = false := hS1.froz _
  have hne : ¬ w.heap.size = R := by omega
  have hne2 : ¬ w.heap.size = S := by omega
  clear c0 c1 s0 s1
  go_wp2_with fail
  refine (slot_any R S sl.length n _ ?_ (by omega) hl (by omega)).mono ?_
  · go_simp
  rintro e w' ⟨rfl, m2, rfl⟩
  go_wp2_with fail
  go_ret
  refine put_end (w1 := w1.drewN m2) h (K2.drewN _) (hS1.drewN _) (hP1.drewN _) rfl B hilt
end Go.Proofs.Ytinanoclnlcilaa
