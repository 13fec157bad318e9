/- The sanity check: the chapter's example holds. -/
import Derived.Test.YtinanoclnlcilaaRaw
import Derived.Laws.BytesArg
import Derived.Lib.SlBytesConst
namespace Go.Proofs.Ytinanoclnlcilaa
open Go.RowKit
set_option linter.unusedVariables false

/-- string(v) -/
theorem ByteRow.str {w : World} {v : Value} {xs : List Int} (h : ByteRow w v xs) : (convert 31 9 v).run Try.prog w = .ok (.string (strOfNums xs)) w := by
  obtain ⟨h0, A, c, rfl, hn, hc, h1⟩ := h
  rcases h1 with ⟨rfl, h1⟩ | ⟨g, off, cs, rfl, hb, hx⟩
  · have : xs = [] := List.length_eq_zero_iff.1 (by omega)
    subst this
    exact run_convert_bytes_nil w 31 5 Try.underlying31 Try.underlying5 _ _ 9 Try.underlying9
  · refine run_convert_bytes_arg w 31 5 Try.underlying31 Try.underlying5 g off xs.length c xs rfl (fun i hi => ?_) 9 Try.underlying9
    exact hb.cell _ _ (hx i _ (by simp [hi, List.getD]))

theorem RingAt.k0 {w w' : World} {R S : Nat} {sl : List (Option Nat)} {nx cr : Int} (h : RingAt w R S sl nx cr) (k : Keep [] w w') : RingAt w' R S sl nx cr := h.keep k (by simp) (by simp)

/-- Results and bytes outlive what Take writes. -/
theorem ring_notR {w : World} {R S : Nat} {sl : List (Option Nat)} {nx cr : Int} (h : RingAt w R S sl nx cr) (t : TypeId) (h1 : (48 : TypeId) ≠ t) (h2 : (49 : TypeId) ≠ t) : ∀ b ∈ [R, S], ∀ cs, ¬ BlkR w b t cs := by
  intro b hb cs hc
  simp only [List.mem_cons, List.not_mem_nil, or_false] at hb
  rcases hb with rfl | rfl
  · exact h.hr.neR hc h1 rfl
  · exact h.hs.neR hc h2 rfl
theorem ResAt.keepRing {w w' : World} {R S p : Nat} {sl : List (Option Nat)} {nx cr : Int} {r : Res} (hp : ResAt w p r) (h : RingAt w R S sl nx cr) (k : Keep [R, S] w w') : ResAt w' p r := by
  refine hp.keep k ?_ (ring_notR h 5 (by decide) (by decide))
  obtain ⟨v, hb, _⟩ := hp
  intro hm
  exact ring_notR h 33 (by decide) (by decide) p hm _ hb.r

/-- A constant byte, as a slice. -/
theorem const_row (w : World) (x : Int) (fr : Nat × Nat) : ByteRow (w.alloc (.cells #[.int .u8 x] 5 fr)) (.slice (some ⟨w.heap.size, 0, none⟩) 1 1) [x] := by
  refine ⟨rfl, _, 1, rfl, Nat.le_refl _, by decide, .inr ⟨w.heap.size, 0, [.int .u8 x], rfl, ⟨fr, ?_⟩, fun j u hj => ?_⟩⟩
  · show (w.heap.push _)[w.heap.size]? = _
    simp
  · simpa using hj

set_option maxHeartbeats 1000000 in
set_option maxRecDepth 100000 in
theorem awake_any : AwakeSaid := by
  intro w
  have r0 : RingAt ((w.alloc (.cells (madeCells #[.pointer none] 2) 49)).alloc (.cells #[.slice (some ⟨w.heap.size, 0, none⟩) 2 2, .int .i64 1, .int .i64 2] 48)) (w.heap.size + 1) w.heap.size [none, none] 1 2 := by
    have h := (Sim.start 2 w (by omega) (by omega)).ring
    constructor
    · have := Blk.new (w.alloc (.cells (madeCells #[.pointer none] 2) 49)) #[.slice (some ⟨w.heap.size, 0, none⟩) 2 2, .int .i64 1, .int .i64 2] 48
      rw [World.size_alloc] at this
      exact this
    · have := (Blk.new w (madeCells #[.pointer none] 2) 49).alloc (.cells #[.slice (some ⟨w.heap.size, 0, none⟩) 2 2, .int .i64 1, .int .i64 2] 48)
      rw [toList_madeCells_one] at this
      exact this
  have R0 := Lib.hid r0
  have K0 := Lib.hid (((Keep.refl [] w).alloc _).alloc _ : Keep [] w ((w.alloc (.cells (madeCells #[.pointer none] 2) 49)).alloc (.cells #[.slice (some ⟨w.heap.size, 0, none⟩) 2 2, .int .i64 1, .int .i64 2] 48)))
  clear r0
  go_enter Try.func7, Try.ntmps7
  go_wp2_with fail
  refine (ring_new_yes 2 _ (by omega) (by omega)).mono ?_
  rintro e w1 ⟨rfl, hw1⟩
  rw [show ((w.alloc (.cells (madeCells #[.pointer none] 2) 49)).alloc (.cells #[.slice (some ⟨w.heap.size, 0, none⟩) 2 2, .int .i64 1, .int .i64 2] 48)) = w1 from hw1.symm] at R0 K0
  clear hw1
  have kc := fun (w : World) (C : Array Value) (n c : Nat) => Lib.run_convert_bytes_const (P := Try.prog) w 31 5 C n c Try.underlying31 Try.underlying5
  go_wp2_with fail
  refine (put_ok _ _ [none, none] 1 2 2 _ ⟨[120], 0, 0⟩ _ (R0.out.k0 ((Keep.refl _ _).alloc _)) (by decide) (by omega) (by omega) (by omega) (by decide) (by decide) (const_row _ _ _) (by decide)).mono ?_
  rintro e w2 ⟨he, K1, R1, P1⟩
  subst he
  have C1 := Lib.hid (K0.out.fresh (((Keep.refl [] w1).alloc _).mono (by simp) |>.trans K1) (by simp))
  generalize hp1 : (w1.alloc (.cells #[.int .u8 120] 5 (1, 2))).heap.size = p1 at R1 P1
  have HR1 : Hid (RingAt w2 (w.heap.size + 1) w.heap.size [some p1, none] 1 2) := R1
  have HP1 := Lib.hid P1
  clear R1 P1 K1 hp1
  go_wp2_with fail
  refine (ready_any _ _ _ 1 _ _ HR1.out (by simp) (by simp) (by decide)).mono ?_
  rintro e w3 ⟨rfl, m3, rfl⟩
  rw [show full [some p1, none] 1 = false from rfl]
  go_wp2_with fail
  refine (put_range _ _ [some p1, none] 1 2 3 _ _ _ _ (HR1.out.k0 ((Keep.refl _ _).drewN m3)) (by simp) (by omega) (by omega) (by omega) (by omega) rfl (Or.inr (by simp))).mono ?_
  rintro e w4 ⟨rfl, K4⟩
  have HR4 := Lib.hid ((HR1.out.k0 ((Keep.refl _ _).drewN m3)).k0 K4)
  have HP4 := Lib.hid ((ResAt.keep HP1.out ((Keep.refl [] _).drewN m3) (by simp) (by simp)).keep K4 (by simp) (by simp))
  have C4 := Lib.hid ((C1.out.drewN m3).trans K4)
  clear HR1 HP1 C1 K4
  go_wp2_with fail
  refine (put_ok _ _ [some p1, none] 1 2 1 _ ⟨[122], 0, 0⟩ _ (HR4.out.k0 ((Keep.refl _ _).alloc _)) (by simp) (by omega) (by omega) (by omega) (by simp) (by rfl) (const_row _ _ _) (by decide)).mono ?_
  rintro e w5 ⟨he, K5, R5, P5⟩
  subst he
  have C5 := Lib.hid (C4.out.fresh (((Keep.refl [] w4).alloc _).mono (by simp) |>.trans K5) (by simp))
  have hpS : p1 ≠ w.heap.size := by obtain ⟨v, hb, _⟩ := HP4.out; exact hb.ne HR4.out.hs (by decide)
  have HP5 := Lib.hid (ResAt.keep (HP4.out.keep ((Keep.refl [] w4).alloc (.cells #[.int .u8 122] 5 (1, 2))) (by simp) (by simp)) K5 (by simpa using hpS) (by
    intro b hb cs hc
    simp only [List.mem_singleton] at hb
    subst hb
    exact (HR4.out.k0 ((Keep.refl [] w4).alloc (.cells #[.int .u8 122] 5 (1, 2)))).hs.neR hc (by decide) rfl))
  generalize hp2 : (w4.alloc (.cells #[.int .u8 122] 5 (1, 2))).heap.size = p2 at R5 P5
  have HR5 : Hid (RingAt w5 (w.heap.size + 1) w.heap.size [some p1, some p2] 1 2) := R5
  have HQ5 := Lib.hid P5
  clear R5 P5 K5 HR4 HP4 C4 hp2
  go_wp2_with fail
  obtain ⟨v2, hb2, hx2⟩ := HQ5.out
  obtain ⟨A2, c2, rfl, _, _⟩ := Row.slice hx2
  have HX2 := Lib.hid hx2
  have HB2 := Lib.hid hb2
  clear hx2 hb2
  refine (take_some _ _ [some p1, some p2] 1 2 _ HR5.out (by simp) (by simp) (by omega) (by omega) (by omega) p2 A2 _ c2 _ _ (by simp) HB2.out).mono ?_
  rintro e w6 ⟨he, K6, R6⟩
  subst he
  have HR6 : Hid (RingAt w6 (w.heap.size + 1) w.heap.size [some p1, none] 2 2) := R6
  have HP6 := Lib.hid (HP5.out.keepRing HR5.out K6)
  have HX6 := Lib.hid (Row.keep HX2.out K6 (ring_notR HR5.out 5 (by decide) (by decide)))
  have C6 := Lib.hid (C5.out.fresh K6 (by intro b hb; simp only [List.mem_cons, List.not_mem_nil, or_false] at hb; omega))
  clear R6 K6 HR5 HP5 C5 HX2 HB2 HQ5
  go_wp2_with fail
  have HR7 := Lib.hid (HR6.out.k0 ((Keep.refl [] w6).alloc (.cells #[.slice A2 1 c2, .int .i64 0, .int .i64 0] 33)))
  have HP7 := ResAt.keep HP6.out ((Keep.refl [] w6).alloc (.cells #[.slice A2 1 c2, .int .i64 0, .int .i64 0] 33)) (by simp) (by simp)
  obtain ⟨v1, hb1, hx1⟩ := HP7
  obtain ⟨A1, c1, rfl, _, _⟩ := Row.slice hx1
  have HX1 := Lib.hid hx1
  have HB1 := Lib.hid hb1
  clear hx1 hb1
  have B7 := Lib.hid (Blk.new w6 #[.slice A2 1 c2, .int .i64 0, .int .i64 0] 33)
  have HX7 := Lib.hid (Row.keep0 HX6.out ((Keep.refl [] w6).alloc (.cells #[.slice A2 1 c2, .int .i64 0, .int .i64 0] 33)))
  have C7 := Lib.hid (C6.out.alloc (.cells #[.slice A2 1 c2, .int .i64 0, .int .i64 0] 33))
  have hn1 : w6.heap.size ≠ w.heap.size + 1 := by have := HR6.out.hr.lt; omega
  have hn2 : w6.heap.size ≠ w.heap.size := by have := HR6.out.hs.lt; omega
  refine (take_some _ _ [some p1, none] 2 2 _ HR7.out (by simp) (by simp) (by omega) (by omega) (by omega) p1 A1 _ c1 _ _ (by simp) HB1.out).mono ?_
  rintro e w8 ⟨he, K8, R8⟩
  subst he
  have R8' : RingAt w8 (w.heap.size + 1) w.heap.size [none, none] 3 2 := by have h := R8; simp only [List.length_cons, List.length_nil] at h; rw [show min ((2 : Int) + 1) (((0 + 1 + 1 : Nat)) : Int) = 2 from by decide] at h; exact h
  have HR8 := Lib.hid R8'
  clear R8'
  have n1 := ((HR8.out.hr.alloc (.cells #[.slice A1 1 c1, .int .i64 0, .int .i64 0] 33))).cell 1 _ rfl
  have B8 := (K8.blk B7.out (by simp only [List.mem_cons, List.not_mem_nil, or_false]; omega)).alloc (.cells #[.slice A1 1 c1, .int .i64 0, .int .i64 0] 33)
  have b0 := B8.cell 0 _ rfl
  have X2 : ByteRow (w8.alloc (.cells #[.slice A1 1 c1, .int .i64 0, .int .i64 0] 33)) (.slice A2 1 c2) [122] := Row.keep0 (Row.keep HX7.out K8 (ring_notR HR7.out 5 (by decide) (by decide))) ((Keep.refl [] w8).alloc _)
  have X1 : ByteRow (w8.alloc (.cells #[.slice A1 1 c1, .int .i64 0, .int .i64 0] 33)) (.slice A1 1 c1) [120] := Row.keep0 (Row.keep HX1.out K8 (ring_notR HR7.out 5 (by decide) (by decide))) ((Keep.refl [] w8).alloc _)
  have s2 : (convert 31 9 (.slice A2 1 c2)).run Try.prog (w8.alloc (.cells #[.slice A1 1 c1, .int .i64 0, .int .i64 0] 33)) = .ok (.string ⟨#[122]⟩) (w8.alloc (.cells #[.slice A1 1 c1, .int .i64 0, .int .i64 0] 33)) := X2.str
  have s1 : (convert 31 9 (.slice A1 1 c1)).run Try.prog (w8.alloc (.cells #[.slice A1 1 c1, .int .i64 0, .int .i64 0] 33)) = .ok (.string ⟨#[120]⟩) (w8.alloc (.cells #[.slice A1 1 c1, .int .i64 0, .int .i64 0] 33)) := X1.str
  have C8 := Lib.hid (C7.out.fresh K8 (by intro b hb; simp only [List.mem_cons, List.not_mem_nil, or_false] at hb; omega))
  clear R8 K8 X1 X2 B8 hn1 hn2 kc
  go_wp2_with fail
  refine (next_any _ 3 _ ?_).mono ?_
  · exact n1
  rintro e w9 ⟨rfl, rfl⟩
  go_wp2_with fail
  go_ret
  exact ⟨rfl, C8.out.alloc _⟩
end Go.Proofs.Ytinanoclnlcilaa
