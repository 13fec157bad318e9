/- Take of the reference's ring. -/
import Derived.Test.YtinanoclnlcilaaRef
import Derived.BigRegion
namespace Go.Proofs.Ytinanoclnlcilaa
open Go.RowKit
set_option linter.unusedVariables false

/-- The cells of a row of results. -/
def cellsOf : List (Value × Res) → List Value
  | [] => []
  | (u, r) :: l => u :: .int .i64 r.st :: .int .i64 r.rec_ :: cellsOf l

theorem cellsOf_length (l : List (Value × Res)) : (cellsOf l).length = l.length * 3 := by
  induction l with
  | nil => rfl
  | cons x l ih => obtain ⟨u, r⟩ := x; simp [cellsOf, ih]; omega
theorem cellsOf_append (l k : List (Value × Res)) : cellsOf (l ++ k) = cellsOf l ++ cellsOf k := by
  induction l with
  | nil => rfl
  | cons x l ih => obtain ⟨u, r⟩ := x; simp [cellsOf, ih]
theorem cellsOf_take (l : List (Value × Res)) (i : Nat) : (cellsOf l).take (i * 3) = cellsOf (l.take i) := by
  induction l generalizing i with
  | nil => simp [cellsOf]
  | cons x l ih =>
    obtain ⟨u, r⟩ := x
    cases i with
    | zero => simp [cellsOf]
    | succ i => rw [show (i + 1) * 3 = (i * 3) + 1 + 1 + 1 from by omega]; simp [cellsOf, ih]
theorem cellsOf_drop (l : List (Value × Res)) (i : Nat) : (cellsOf l).drop (i * 3) = cellsOf (l.drop i) := by
  induction l generalizing i with
  | nil => simp [cellsOf]
  | cons x l ih =>
    obtain ⟨u, r⟩ := x
    cases i with
    | zero => simp [cellsOf]
    | succ i => rw [show (i + 1) * 3 = (i * 3) + 1 + 1 + 1 from by omega]; simp [cellsOf, ih]

/-- A slice of results: each with its bytes. -/
def ResRow (w : World) (v : Value) (rs : List Res) : Prop :=
  ∃ items : List (Value × Res), items.map (·.2) = rs ∧ Row w v 33 3 items.length (cellsOf items) ∧ ∀ it ∈ items, ByteRow w it.1 it.2.out

theorem ResRow.keep {w w' : World} {v : Value} {rs : List Res} {ex : List Nat} (h : ResRow w v rs) (k : Keep ex w w') (he : ∀ b ∈ ex, ∀ cs, ¬ BlkR w b 33 cs) (he5 : ∀ b ∈ ex, ∀ cs, ¬ BlkR w b 5 cs) : ResRow w' v rs := by
  obtain ⟨items, h1, h2, h3⟩ := h
  exact ⟨items, h1, h2.keep k he, fun it hit => (h3 it hit).keep k he5⟩

structure RefAt (w : World) (Q : Nat) (cap next credits : Int) (vN vR : Value) (nums : List Int) (rs : List Res) : Prop where
  hq : Blk w Q 39 [.int .i64 cap, .int .i64 next, .int .i64 credits, vN, vR]
  hN : IntRow w vN nums
  hR : ResRow w vR rs

theorem RefAt.keep0 {w w' : World} {Q : Nat} {cap next credits : Int} {vN vR : Value} {nums : List Int} {rs : List Res} (h : RefAt w Q cap next credits vN vR nums rs) (k : Keep [] w w') : RefAt w' Q cap next credits vN vR nums rs :=
  ⟨k.blk h.hq (by simp), h.hN.keep0 k, h.hR.keep k (by simp) (by simp)⟩

theorem refTake_none (Q : Nat) (cap next credits : Int) (vN vR : Value) (nums : List Int) (rs : List Res) (w : World) (h : RefAt w Q cap next credits vN vR nums rs) (hl : nums.length ≤ 1000) (hno : next ∉ nums) :
    Calls Try.prog 14 #[.pointer (some ⟨Q, 0, none⟩)] w fun e w' => e = .returned (.tuple #[.agg #[.slice none 0 0, .int .i64 0, .int .i64 0], .int .i64 15]) ∧ Keep [] w w' := by
  have c1 := h.hq.cell 1 _ rfl
  have c3 := h.hq.cell 3 _ rfl
  have hQ := h.hq.lt
  obtain ⟨A, c, rfl, _, _⟩ := Row.slice h.hN
  have HN := Lib.hid h.hN
  have hb := Lib.hid (show false = decide (next ∈ nums) from (decide_eq_false hno).symm)
  go_enter Try.func14, Try.ntmps14
  go_wp2_with fail
  refine (refReady_any Q A c nums next false hb.out _ ?_ ?_ (HN.out.keep0 ((Keep.refl _ _).alloc _)) hl).mono ?_
  · go_simp
  · go_simp
  rintro e w' ⟨rfl, rfl⟩
  go_wp2_with fail
  refine bodyPost_ret (v := .tuple #[.agg #[.slice none 0 0, .int .i64 0, .int .i64 0], .int .i64 15]) (by simp [results, Try.results14, go_sem]) rfl ⟨rfl, ?_⟩
  exact (Keep.refl [] w).alloc _

theorem Try.info33 : (Try.prog.info? 33).map (fun i => (i.zero, i.size, i.bytes)) = some (some (.agg #[.slice none 0 0, .int .i64 0, .int .i64 0]), 3, 40) := by kernel_rfl

def RefTakePost (Q : Nat) (cap next credits : Int) (nums : List Int) (r : Res) (rs : List Res) (w : World) (e : Ending) (w' : World) : Prop :=
  ∃ u vN vR, e = .returned (.tuple #[.agg #[u, .int .i64 r.st, .int .i64 r.rec_], .int .i64 0]) ∧ ByteRow w' u r.out ∧ Keep [Q] w w' ∧ RefAt w' Q cap (next + 1) (min (credits + 1) cap) vN vR nums rs

theorem refTake_end {Q : Nat} {cap next credits cr : Int} {vN vR v1 v2 u : Value} {n0 : Int} {nums : List Int} {r : Res} {rs : List Res} {items : List (Value × Res)} {w : World} (hA : RefAt w Q cap next credits vN vR (n0 :: nums) (r :: rs))
    (hN1 : Row w v1 3 1 nums.length (nums.map (Value.int .i64))) (hR1 : Row w v2 33 3 items.length (cellsOf items)) (hby : ∀ it ∈ items, ByteRow w it.1 it.2.out) (hrs : items.map (·.2) = rs) (hB : ByteRow w u r.out) (hcr : cr = min (credits + 1) cap) (o1 o2 : Obj) :
    RefTakePost Q cap next credits nums r rs w (.returned (.tuple #[.agg #[u, .int .i64 r.st, .int .i64 r.rec_], .int .i64 0]))
      ((((((w.setCell ⟨Q, 3, none⟩ v1).setCell ⟨Q, 4, none⟩ v2).setCell ⟨Q, 1, none⟩ (.int .i64 (next + 1))).setCell ⟨Q, 2, none⟩ (.int .i64 cr)).alloc o1).alloc o2).drew.drew := by
  have K : Keep [Q] w ((((((w.setCell ⟨Q, 3, none⟩ v1).setCell ⟨Q, 4, none⟩ v2).setCell ⟨Q, 1, none⟩ (.int .i64 (next + 1))).setCell ⟨Q, 2, none⟩ (.int .i64 cr)).alloc o1).alloc o2).drew.drew :=
    ((((((((Keep.refl [Q] w).setCell (a := ⟨Q, 3, none⟩) (Or.inl (by simp)) _).setCell (a := ⟨Q, 4, none⟩) (Or.inl (by simp)) _).setCell (a := ⟨Q, 1, none⟩) (Or.inl (by simp)) _).setCell (a := ⟨Q, 2, none⟩) (Or.inl (by simp)) _).alloc o1).alloc o2).drew).drew
  have e3 : ∀ b ∈ [Q], ∀ cs, ¬ BlkR w b 3 cs := by intro b hb cs hc; simp at hb; subst hb; exact hA.hq.neR hc (by decide) rfl
  have e33 : ∀ b ∈ [Q], ∀ cs, ¬ BlkR w b 33 cs := by intro b hb cs hc; simp at hb; subst hb; exact hA.hq.neR hc (by decide) rfl
  have e5 : ∀ b ∈ [Q], ∀ cs, ¬ BlkR w b 5 cs := by intro b hb cs hc; simp at hb; subst hb; exact hA.hq.neR hc (by decide) rfl
  refine ⟨u, v1, v2, rfl, hB.keep K e5, K, ⟨?_, hN1.keep K e3, items, hrs, hR1.keep K e33, fun it hit => (hby it hit).keep K e5⟩⟩
  rw [← hcr]
  exact (((((((hA.hq.set 3 v1).set 4 v2).set 1 (.int .i64 (next + 1))).set 2 (.int .i64 cr)).alloc o1).alloc o2).drew).drew

theorem refTake_some (Q : Nat) (cap next credits : Int) (vN vR : Value) (n0 : Int) (nums : List Int) (r : Res) (rs : List Res) (w : World) (hA : RefAt w Q cap next credits vN vR (n0 :: nums) (r :: rs)) (hl : nums.length < 1000) (hmem : next ∈ n0 :: nums)
    (hn : next ≤ 1000) (hn0 : 0 ≤ next) (hc0 : 0 ≤ credits) (hc1 : credits ≤ 64) (hcap : cap ≤ 64) (hcap0 : 0 ≤ cap) :
    Calls Try.prog 14 #[.pointer (some ⟨Q, 0, none⟩)] w (RefTakePost Q cap next credits nums r rs w) := by
  obtain ⟨i3, hi3, hz0, hz1, hz2⟩ := info_parts Try.info3
  obtain ⟨i33, hi33, hz30, hz31, hz32⟩ := info_parts Try.info33
  have q0 := hA.hq.cell 0 _ rfl
  have q1 := hA.hq.cell 1 _ rfl
  have q2 := hA.hq.cell 2 _ rfl
  have q3 := hA.hq.cell 3 _ rfl
  have q4 := hA.hq.cell 4 _ rfl
  have f1 := hA.hq.froz 1
  have f2 := hA.hq.froz 2
  have f3 := hA.hq.froz 3
  have f4 := hA.hq.froz 4
  have hQ := hA.hq.lt
  obtain ⟨v1, hs1', hN1⟩ := Row.from_ hA.hN Try.underlying22 hi3 hz1 1 (by simp)
  have hs1 : ∀ W : World, (Instr.slice 22 vN (some (.int .i64 1)) none none).run Try.prog W = .ok v1 W := hs1'
  obtain ⟨A1, c1, rfl, _, _⟩ := Row.slice hN1
  obtain ⟨items, hit, hRow, hby⟩ := hA.hR
  obtain ⟨⟨u, r'⟩, items, rfl⟩ : ∃ x l, items = x :: l := by cases items with | nil => simp at hit | cons x l => exact ⟨x, l, rfl⟩
  simp only [List.map_cons, List.cons.injEq] at hit
  obtain ⟨rfl, hrs⟩ := hit
  obtain ⟨v2, hs2', hR1⟩ := Row.from_ hRow Try.underlying37 hi33 hz31 1 (by simp)
  have hs2 : ∀ W : World, (Instr.slice 37 vR (some (.int .i64 1)) none none).run Try.prog W = .ok v2 W := hs2'
  obtain ⟨A2, c2, rfl, _, _⟩ := Row.slice hR1
  obtain ⟨A, c, hvN, _, _⟩ := Row.slice hA.hN
  obtain ⟨g, off, hx', hcs, gs, hgb⟩ := Row.idx hRow Try.underlying37 hi33 hz31 0 (by simp)
  have hx : ∀ W : World, (Instr.indexAt 37 vR (.int .i64 0)).run Try.prog W = .ok (.pointer (some ⟨g, off, none⟩)) W := hx'
  have hB : ByteRow w u r'.out := hby (u, r') (by simp)
  obtain ⟨A5, c5, rfl, _, _⟩ := Row.slice hB
  have r0 := hcs 0 _ (by simp [cellsOf]; rfl)
  have r1 := hcs 1 _ (by simp [cellsOf]; rfl)
  have r2 := hcs 2 _ (by simp [cellsOf]; rfl)
  simp only [Nat.add_zero] at r0
  have HV := Lib.hid hvN
  have HB := Lib.hid hB
  have HA := Lib.hid hA
  have hb := Lib.hid (show true = decide (next ∈ n0 :: nums) from (decide_eq_true hmem).symm)
  have HBY := Lib.hid hby
  have HN1 := Lib.hid hN1
  have HR1 := Lib.hid hR1
  have HRS := Lib.hid hrs
  have hglt : g < w.heap.size := World.block_lt_of_cell? _ _ r0
  have hQg : ¬ g = Q := fun e => hA.hq.neR (e ▸ hgb) (by decide) rfl
  clear hvN hB hA hmem hby hN1 hR1 hrs hRow hcs hs1' hs2' hx' hgb
  go_enter Try.func14, Try.ntmps14
  go_wp2_with fail
  refine (refReady_any Q A c (n0 :: nums) next true hb.out _ ?_ ?_ ?_ (by simp; omega)).mono ?_
  · go_simp
  · rw [← HV.out]; go_simp
  · rw [← HV.out]; exact HA.out.hN.keep0 ((Keep.refl _ _).alloc _)
  rintro e w' ⟨rfl, rfl⟩
  go_wp2_with fail
  go_region
  go_wp2_with fail
  have hw : IntKind.i64.wrap (credits + 1) = credits + 1 := IntWalk.i64_in _ (by omega)
  go_region
  go_wp2_with fail
  · have hlt : cap < credits + 1 := by assumption
    refine bodyPost_ret (v := .tuple #[.agg #[.slice A5 r'.out.length c5, .int .i64 r'.st, .int .i64 r'.rec_], .int .i64 0]) (by simp [results, Try.results14, go_sem]) rfl ?_
    exact refTake_end HA.out (by simpa using HN1.out) (by simpa [cellsOf] using HR1.out) (fun it hit => HBY.out it (List.mem_cons_of_mem _ hit)) HRS.out HB.out (by omega) _ _
  · have hlt : credits + 1 ≤ cap := by assumption
    refine bodyPost_ret (v := .tuple #[.agg #[.slice A5 r'.out.length c5, .int .i64 r'.st, .int .i64 r'.rec_], .int .i64 0]) (by simp [results, Try.results14, go_sem]) rfl ?_
    exact refTake_end HA.out (by simpa using HN1.out) (by simpa [cellsOf] using HR1.out) (fun it hit => HBY.out it (List.mem_cons_of_mem _ hit)) HRS.out HB.out (by omega) _ _
end Go.Proofs.Ytinanoclnlcilaa
