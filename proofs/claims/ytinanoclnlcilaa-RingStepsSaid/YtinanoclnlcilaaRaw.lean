/- RingRaw, but for the sanity check at its end: the walk. -/
import Derived.Test.YtinanoclnlcilaaSim
import Derived.Deep.RegionHeld3
namespace Go.Proofs.Ytinanoclnlcilaa
open Go.RowKit
set_option linter.unusedVariables false

/-- What turns is new. -/
theorem Keep.fresh {ex : List Nat} {w w1 w2 : World} (h : Keep [] w w1) (k : Keep ex w1 w2) (he : ∀ b ∈ ex, w.heap.size ≤ b) : Keep [] w w2 :=
  ⟨k.os.trans h.os, k.tape.trans h.tape, k.output.trans h.output, Nat.le_trans h.size k.size, fun i hi _ => (k.block i (Nat.lt_of_lt_of_le hi h.size) (fun hm => by have := he i hm; omega)).trans (h.block i hi (by simp))⟩

/-- The two rings at the beginning. -/
theorem Sim.start (cap : Nat) (w : World) (h1 : 1 ≤ cap) (h2 : cap ≤ 64) :
    Sim (((w.alloc (.cells (madeCells #[.pointer none] cap) 49)).alloc (.cells #[.slice (some ⟨w.heap.size, 0, none⟩) cap cap, .int .i64 1, .int .i64 cap] 48)).alloc (.cells #[.int .i64 cap, .int .i64 1, .int .i64 cap, .slice none 0 0, .slice none 0 0] 39))
      (w.heap.size + 1) w.heap.size (w.heap.size + 2) cap 1 cap (List.replicate cap none) (.slice none 0 0) (.slice none 0 0) [] := by
  have b1 := Blk.new w (madeCells #[.pointer none] cap) 49
  have b2 := Blk.new (w.alloc (.cells (madeCells #[.pointer none] cap) 49)) #[.slice (some ⟨w.heap.size, 0, none⟩) cap cap, .int .i64 1, .int .i64 cap] 48
  have b3 := Blk.new ((w.alloc (.cells (madeCells #[.pointer none] cap) 49)).alloc (.cells #[.slice (some ⟨w.heap.size, 0, none⟩) cap cap, .int .i64 1, .int .i64 cap] 48)) #[.int .i64 cap, .int .i64 1, .int .i64 cap, .slice none 0 0, .slice none 0 0] 39
  rw [World.size_alloc] at b2
  rw [World.size_alloc, World.size_alloc] at b3
  rw [toList_madeCells_one] at b1
  refine { ring := ⟨?_, ?_⟩, ref := ⟨?_, Row.nil _ _ _, [], rfl, Row.nil _ _ _, by simp⟩, len := by simp, cap0 := h1, cap1 := h2, nx0 := Nat.le_refl _, cr0 := by omega, cr1 := Int.le_refl _, asc := by simp, win := by simp, full := by simp, free := ?_ }
  · rw [show (List.replicate cap (none : Option Nat)).length = cap from List.length_replicate]; exact b2.alloc _
  · simpa [ptr] using (b1.alloc _).alloc _
  · exact b3
  · intro n hn1 hn2 _
    have a1 := Int.emod_nonneg n (show (cap : Int) ≠ 0 by omega)
    have a2 := Int.emod_lt_of_pos n (show (0 : Int) < cap by omega)
    rw [List.getElem?_replicate, if_pos (by omega)]

/-- A slice of numbers that came in: its cells. -/
def ArgRow (w : World) (A : Option Addr) (xs : List Int) : Prop := ∀ (k : Nat) (x : Int), xs[k]? = some x → ∃ g off, A = some ⟨g, off, none⟩ ∧ w.cell? ⟨g, off + k, none⟩ = some (.int .i64 x)

/-- The words that awake's contract says. -/
def AwakeSaid : Prop := ∀ w : World, Calls Try.prog 7 #[] w fun e w' => e = .returned (.bool true) ∧ Keep [] w w'

set_option maxHeartbeats 1000000 in
theorem raw_any (hawake : AwakeSaid) (cp : Int) (A : Option Addr) (c : Nat) (xs : List Int) (w : World) (hX : ArgRow w A xs) (hcp : -9223372036854775808 ≤ cp ∧ cp ≤ 9223372036854775807) (hwf : ∀ x ∈ xs, -9223372036854775808 ≤ x ∧ x ≤ 9223372036854775807) (hmax : xs.length ≤ 9223372036854775807) :
    Calls Try.prog 3 #[.int .i64 cp, .slice A xs.length c] w fun e w' => e = .returned (.bool true) ∧ Keep [] w w' := by
  have HX := Lib.hid hX
  have HW := Lib.hid hwf
  have HAW := Lib.hid hawake
  clear hX hwf hawake
  have m1 := Int.emod_nonneg cp (show (64 : Int) ≠ 0 by omega)
  have m2 := Int.emod_lt_of_pos cp (show (0 : Int) < 64 by omega)
  obtain ⟨cap, hcap⟩ : ∃ cap : Nat, cp % 64 + 1 = (cap : Int) := ⟨(cp % 64 + 1).toNat, by omega⟩
  have hcap1 : 1 ≤ cap := by omega
  have hcap2 : cap ≤ 64 := by omega
  have HC := Lib.hid hcap
  clear hcap
  by_cases hl : xs.length ≤ 40
  · go_enter Try.func3, Try.ntmps3
    go_wp2_with fail
    refine (mod_any cp 64 _ (by omega) (by omega) hcp.1 hcp.2).mono ?_
    rintro e w' ⟨rfl, rfl⟩
    go_wp2_with fail
    rw [HC.out]
    refine (ring_new_yes cap _ hcap1 hcap2).mono ?_
    rintro e w1 ⟨rfl, rfl⟩
    go_wp2_with fail
    refine (ref_new _ _).mono ?_
    rintro e w1 ⟨rfl, rfl⟩
    have hsim := Lib.hid (Sim.start cap w' hcap1 hcap2)
    have hK0 := Lib.hid ((((Keep.refl [] w').alloc _).alloc _).alloc _ : Keep [] w' (((w'.alloc (.cells (madeCells #[.pointer none] cap) 49)).alloc (.cells #[.slice (some ⟨w'.heap.size, 0, none⟩) cap cap, .int .i64 1, .int .i64 cap] 48)).alloc (.cells #[.int .i64 cap, .int .i64 1, .int .i64 cap, .slice none 0 0, .slice none 0 0] 39)))
    go_wp2_with fail
    go_loopw [8] (fun i wr => ∃ (k : Nat) (sl : List (Option Nat)) (vN vR : Value) (st : List (Int × Res)), k ≤ xs.length ∧ i = .int .i64 k ∧ Sim wr (w'.heap.size + 1) w'.heap.size (w'.heap.size + 1 + 1) cap 1 cap sl vN vR st ∧ Keep [] w' wr) (fun i _ => xs.length - (intOf i).toNat)
    case atStart => exact ⟨0, _, _, _, _, Nat.zero_le _, rfl, hsim.out, hK0.out⟩
    case round =>
      obtain ⟨k, sl, vN, vR, st, hk, rfl, hS, hK⟩ := hrel
      clear hsim hK0
      by_cases hlt : k < xs.length
      · obtain ⟨g, off, rfl, hc⟩ := HX.out k xs[k] (by simp [hlt])
        have hwfk := HW.out xs[k] (List.getElem_mem hlt)
        obtain ⟨n, hn⟩ : ∃ n, n = xs[k] := ⟨_, rfl⟩
        rw [← hn] at hc hwfk
        clear hn
        have hc1 := hK.cell hc (by simp)
        have hS1 := hS.keep ((Keep.refl [] wr).alloc (.cells #[.slice none 0 0, .int .i64 0, .int .i64 k] 33))
        have HK1 := Lib.hid (hK.alloc (.cells #[.slice none 0 0, .int .i64 0, .int .i64 k] 33))
        have hcnt := hS.count
        have hglt : g < wr.heap.size := World.block_lt_of_cell? _ _ hc1
        have s0 : (wr.alloc (.cells #[.slice none 0 0, .int .i64 0, .int .i64 k] 33)).cell? ⟨g, off + k, none⟩ = some (.int .i64 n) ∧ (wr.alloc (.cells #[.slice none 0 0, .int .i64 0, .int .i64 k] 33)).cell? ⟨wr.heap.size, 0, none⟩ = some (.slice none 0 0) ∧ (wr.alloc (.cells #[.slice none 0 0, .int .i64 0, .int .i64 k] 33)).cell? ⟨wr.heap.size, 1, none⟩ = some (.int .i64 0) ∧ (wr.alloc (.cells #[.slice none 0 0, .int .i64 0, .int .i64 k] 33)).cell? ⟨wr.heap.size, 2, none⟩ = some (.int .i64 k) :=
          ⟨((Keep.refl [] wr).alloc _).cell hc1 (by simp), by simp, by simp, by simp⟩
        have hx0 : ¬ wr.heap.size = w'.heap.size := by have := hS.ring.hs.lt; omega
        have hx1 : ¬ wr.heap.size = w'.heap.size + 1 := by have := hS.ring.hr.lt; omega
        have hx2 : ¬ wr.heap.size = w'.heap.size + 1 + 1 := by have := hS.ref.hq.lt; omega
        have hg0 : ¬ g = w'.heap.size := by have h := World.block_lt_of_cell? _ _ hc; simp only at h; omega
        have hg2 : ¬ g = w'.heap.size + 1 + 1 := by have h := World.block_lt_of_cell? _ _ hc; simp only at h; omega
        clear hS hK hc hc1
        generalize hWW : wr.alloc (.cells #[.slice none 0 0, .int .i64 0, .int .i64 k] 33) = W at hS1 HK1 s0
        have HWW := Lib.hid hWW
        clear hWW
        have hlen := hS1.len
        by_cases h1 : n < 1 ∨ (cap : Int) ≤ n - 1
        · have H1 := Lib.hid h1
          clear h1
          obtain ⟨N0, hN0⟩ : ∃ N : Nat, (st.map (·.1)).length = N := ⟨_, rfl⟩
          have hNb0 : N0 ≤ 100 := by rw [← hN0, List.length_map]; omega
          obtain ⟨AN, cN, rfl, _, _⟩ := Row.slice (Row.cast hS1.ref.hN hN0)
          have HN0 := Lib.hid hN0
          have T0 := Lib.hid (hS1.keep ((Keep.refl [] W).drew))
          have C0 := Lib.hid HK1.out.drew
          have HLEN := Lib.hid hlen
          clear hN0 hS1 hlen
          go_wp2_with fail
          rw [HWW.out]
          refine wp_region_held_drew (S := fun v : World => v.cell? ⟨g, off + k, none⟩ = some (.int .i64 n) ∧ v.cell? ⟨wr.heap.size, 0, none⟩ = some (.slice none 0 0) ∧ v.cell? ⟨wr.heap.size, 1, none⟩ = some (.int .i64 0) ∧ v.cell? ⟨wr.heap.size, 2, none⟩ = some (.int .i64 k)) (by kernel_rfl) s0 (fun hHeld => ?_)
          change wpAnyH _ _ _ _ _ 25 (Array.replicate 25 false) _ _
          refine wpAnyH_take (i := 0) (oi := { dst := some 38, op := Go.Op.move (Go.Operand.tmp 5), type := 24, pos := "law.go:78", after := #[], guard := none }) (v := ?v5001) rfl (by kernel_rfl) (by kernel_rfl) (by kernel_rfl) (fun _ _ _ h => h) (Or.inl ⟨by rfl, ?y5001⟩) hHeld ?r5001
          case y5001 => (intro w' hSw; (try dsimp only at hSw); go_simp; (try with_reducible rfl))
          try simp only [Act.put, List.setIfInBounds_toArray, List.set_cons_zero, List.set_cons_succ]
          refine wpAnyH_take (i := 1) (oi := { dst := some 39, op := Go.Op.move (Go.Operand.tmp 1), type := 22, pos := "law.go:78", after := #[], guard := none }) (v := ?v5002) rfl (by kernel_rfl) (by kernel_rfl) (by kernel_rfl) (fun _ _ _ h => h) (Or.inl ⟨by rfl, ?y5002⟩) hHeld ?r5002
          case y5002 => (intro w' hSw; (try dsimp only at hSw); go_simp; (try with_reducible rfl))
          try simp only [Act.put, List.setIfInBounds_toArray, List.set_cons_zero, List.set_cons_succ]
          refine wpAnyH_take (i := 2) (oi := { dst := some 40, op := Go.Op.move (Go.Operand.tmp 8), type := 3, pos := "law.go:78", after := #[], guard := none }) (v := ?v5003) rfl (by kernel_rfl) (by kernel_rfl) (by kernel_rfl) (fun _ _ _ h => h) (Or.inl ⟨by rfl, ?y5003⟩) hHeld ?r5003
          case y5003 => (intro w' hSw; (try dsimp only at hSw); go_simp; (try with_reducible rfl))
          try simp only [Act.put, List.setIfInBounds_toArray, List.set_cons_zero, List.set_cons_succ]
          refine wpAnyH_take (i := 3) (oi := { dst := some 41, op := Go.Op.indexAddr 22 (Go.Operand.tmp 39) (Go.Operand.tmp 40), type := 0, pos := "law.go:78", after := #[{ on := 1, ground := Go.Ground.data }, { on := 2, ground := Go.Ground.data }], guard := none }) (v := ?v5004) rfl (by kernel_rfl) (by kernel_rfl) (by kernel_rfl) (fun _ _ _ h => h) (Or.inl ⟨by rfl, ?y5004⟩) hHeld ?r5004
          case y5004 => (intro w' hSw; (try dsimp only at hSw); go_simp; (try with_reducible rfl))
          try simp only [Act.put, List.setIfInBounds_toArray, List.set_cons_zero, List.set_cons_succ]
          refine wpAnyH_take (i := 4) (oi := { dst := some 42, op := Go.Op.load 3 (Go.Operand.tmp 41), type := 3, pos := "law.go:78", after := #[{ on := 3, ground := Go.Ground.data }], guard := none }) (v := ?v5005) rfl (by kernel_rfl) (by kernel_rfl) (by kernel_rfl) (fun _ _ _ h => h) (Or.inl ⟨by rfl, ?y5005⟩) hHeld ?r5005
          case y5005 => (intro w' hSw; (try dsimp only at hSw); go_simp; (try with_reducible rfl))
          try simp only [Act.put, List.setIfInBounds_toArray, List.set_cons_zero, List.set_cons_succ]
          refine wpAnyH_take (i := 5) (oi := { dst := some 43, op := Go.Op.load 33 (Go.Operand.tmp 9), type := 33, pos := "law.go:78", after := #[], guard := none }) (v := ?v5006) rfl (by kernel_rfl) (by kernel_rfl) (by kernel_rfl) (fun _ _ _ h => h) (Or.inl ⟨by rfl, ?y5006⟩) hHeld ?r5006
          case y5006 => (intro w' hSw; (try dsimp only at hSw); go_simp; (try with_reducible rfl))
          try simp only [Act.put, List.setIfInBounds_toArray, List.set_cons_zero, List.set_cons_succ]
          refine wpAnyH_take (i := 7) (oi := { dst := some 45, op := Go.Op.move (Go.Operand.tmp 7), type := 29, pos := "law.go:78", after := #[], guard := none }) (v := ?v5007) rfl (by kernel_rfl) (by kernel_rfl) (by kernel_rfl) (fun _ _ _ h => h) (Or.inl ⟨by rfl, ?y5007⟩) hHeld ?r5007
          case y5007 => (intro w' hSw; (try dsimp only at hSw); go_simp; (try with_reducible rfl))
          try simp only [Act.put, List.setIfInBounds_toArray, List.set_cons_zero, List.set_cons_succ]
          refine wpAnyH_take (i := 8) (oi := { dst := some 46, op := Go.Op.move (Go.Operand.tmp 1), type := 22, pos := "law.go:78", after := #[], guard := none }) (v := ?v5008) rfl (by kernel_rfl) (by kernel_rfl) (by kernel_rfl) (fun _ _ _ h => h) (Or.inl ⟨by rfl, ?y5008⟩) hHeld ?r5008
          case y5008 => (intro w' hSw; (try dsimp only at hSw); go_simp; (try with_reducible rfl))
          try simp only [Act.put, List.setIfInBounds_toArray, List.set_cons_zero, List.set_cons_succ]
          refine wpAnyH_take (i := 9) (oi := { dst := some 47, op := Go.Op.move (Go.Operand.tmp 8), type := 3, pos := "law.go:78", after := #[], guard := none }) (v := ?v5009) rfl (by kernel_rfl) (by kernel_rfl) (by kernel_rfl) (fun _ _ _ h => h) (Or.inl ⟨by rfl, ?y5009⟩) hHeld ?r5009
          case y5009 => (intro w' hSw; (try dsimp only at hSw); go_simp; (try with_reducible rfl))
          try simp only [Act.put, List.setIfInBounds_toArray, List.set_cons_zero, List.set_cons_succ]
          refine wpAnyH_take (i := 10) (oi := { dst := some 48, op := Go.Op.indexAddr 22 (Go.Operand.tmp 46) (Go.Operand.tmp 47), type := 0, pos := "law.go:78", after := #[{ on := 8, ground := Go.Ground.data }, { on := 9, ground := Go.Ground.data }], guard := none }) (v := ?v5010) rfl (by kernel_rfl) (by kernel_rfl) (by kernel_rfl) (fun _ _ _ h => h) (Or.inl ⟨by rfl, ?y5010⟩) hHeld ?r5010
          case y5010 => (intro w' hSw; (try dsimp only at hSw); go_simp; (try with_reducible rfl))
          try simp only [Act.put, List.setIfInBounds_toArray, List.set_cons_zero, List.set_cons_succ]
          refine wpAnyH_take (i := 11) (oi := { dst := some 49, op := Go.Op.load 3 (Go.Operand.tmp 48), type := 3, pos := "law.go:78", after := #[{ on := 10, ground := Go.Ground.data }], guard := none }) (v := ?v5011) rfl (by kernel_rfl) (by kernel_rfl) (by kernel_rfl) (fun _ _ _ h => h) (Or.inl ⟨by rfl, ?y5011⟩) hHeld ?r5011
          case y5011 => (intro w' hSw; (try dsimp only at hSw); go_simp; (try with_reducible rfl))
          try simp only [Act.put, List.setIfInBounds_toArray, List.set_cons_zero, List.set_cons_succ]
          refine wpAnyH_take (i := 12) (oi := { dst := some 50, op := Go.Op.load 33 (Go.Operand.tmp 9), type := 33, pos := "law.go:78", after := #[], guard := none }) (v := ?v5012) rfl (by kernel_rfl) (by kernel_rfl) (by kernel_rfl) (fun _ _ _ h => h) (Or.inl ⟨by rfl, ?y5012⟩) hHeld ?r5012
          case y5012 => (intro w' hSw; (try dsimp only at hSw); go_simp; (try with_reducible rfl))
          try simp only [Act.put, List.setIfInBounds_toArray, List.set_cons_zero, List.set_cons_succ]
          refine wpAnyH_ready (rs := [6]) (by kernel_rfl) (by simp) ?_
          refine AllReadyH.cons (o := { dst := some 44, op := Go.Op.call { callee := Go.Callee.value (Go.Operand.func 9), args := #[Go.Operand.tmp 38, Go.Operand.tmp 42, Go.Operand.tmp 43], argTypes := #[24, 3, 33] }, type := 25, pos := "law.go:78", after := #[{ on := 0, ground := Go.Ground.data }, { on := 4, ground := Go.Ground.data }, { on := 5, ground := Go.Ground.data }], guard := none }) rfl (fun K hK => ?_) ?_
          · go_simp
            refine (put_range _ _ sl _ _ n _ _ _ _ T0.out.ring (by rw [HLEN.out]; omega) (by omega) (by omega) hwfk.1 hwfk.2 rfl (by rw [HLEN.out]; exact H1.out)).mono ?_
            rintro e w5013 ⟨rfl, K5013⟩
            have s5013 := And.intro (K5013.cell s0.1 (by simp)) (And.intro (K5013.cell s0.2.1 (by simp)) (And.intro (K5013.cell s0.2.2.1 (by simp)) (K5013.cell s0.2.2.2 (by simp))))
            have T5013 := Lib.hid (T0.out.keep K5013)
            have C5013 := Lib.hid (C0.out.trans K5013)
            refine hK.out _ _ ?_ (fun hHeld => ?_)
            · exact s5013
            clear hK K
            try simp only [Act.put, List.setIfInBounds_toArray, List.set_cons_zero, List.set_cons_succ]
            refine wpAnyH_ready (rs := [13]) (by kernel_rfl) (by simp) ?_
            refine AllReadyH.cons (o := { dst := some 51, op := Go.Op.call { callee := Go.Callee.value (Go.Operand.func 10), args := #[Go.Operand.tmp 45, Go.Operand.tmp 49, Go.Operand.tmp 50], argTypes := #[29, 3, 33] }, type := 25, pos := "law.go:78", after := #[{ on := 7, ground := Go.Ground.data }, { on := 11, ground := Go.Ground.data }, { on := 12, ground := Go.Ground.data }, { on := 6, ground := Go.Ground.chain }], guard := none }) rfl (fun K hK => ?_) ?_
            · go_simp
              refine (refPut_range _ cap _ _ _ _ _ _ n _ _ _ _ T5013.out.ref (by omega) (by omega) (by omega) (by omega) hwfk.1 hwfk.2 rfl H1.out).mono ?_
              rintro e w5014 ⟨rfl, K5014⟩
              have s5014 := And.intro (K5014.cell s5013.1 (by simp)) (And.intro (K5014.cell s5013.2.1 (by simp)) (And.intro (K5014.cell s5013.2.2.1 (by simp)) (K5014.cell s5013.2.2.2 (by simp))))
              have T5014 := Lib.hid (T5013.out.keep K5014)
              have C5014 := Lib.hid (C5013.out.trans K5014)
              have q5014 := T5014.out.ref.hq.cell 3 _ rfl
              refine hK.out _ _ ?_ (fun hHeld => ?_)
              · exact s5014
              clear hK K
              try simp only [Act.put, List.setIfInBounds_toArray, List.set_cons_zero, List.set_cons_succ]
              refine wpAnyH_take (i := 14) (oi := { dst := some 52, op := Go.Op.binOp Go.BinOp.neq 25 (Go.Operand.tmp 44) (Go.Operand.tmp 51) 25, type := 4, pos := "law.go:78", after := #[{ on := 6, ground := Go.Ground.data }, { on := 13, ground := Go.Ground.data }], guard := none }) (v := ?v5015) rfl (by kernel_rfl) (by kernel_rfl) (by kernel_rfl) (fun _ _ _ h => h) (Or.inl ⟨by rfl, ?y5015⟩) hHeld ?r5015
              case y5015 => (intro w' hSw; (try dsimp only at hSw); go_simp; (try with_reducible rfl))
              try simp only [Act.put, List.setIfInBounds_toArray, List.set_cons_zero, List.set_cons_succ]
              refine wpAnyH_take (i := 15) (oi := { dst := some 53, op := Go.Op.move (Go.Operand.tmp 52), type := 4, pos := "law.go:78", after := #[{ on := 14, ground := Go.Ground.data }, { on := 13, ground := Go.Ground.chain }], guard := none }) (v := ?v5016) rfl (by kernel_rfl) (by kernel_rfl) (by kernel_rfl) (fun _ _ _ h => h) (Or.inl ⟨by rfl, ?y5016⟩) hHeld ?r5016
              case y5016 => (intro w' hSw; (try dsimp only at hSw); go_simp; (try with_reducible rfl))
              try simp only [Act.put, List.setIfInBounds_toArray, List.set_cons_zero, List.set_cons_succ]
              refine wpAnyH_take (i := 16) (oi := { dst := some 54, op := Go.Op.move (Go.Operand.tmp 5), type := 24, pos := "law.go:78", after := #[{ on := 15, ground := Go.Ground.guard }], guard := some (15, false) }) (v := ?v5017) rfl (by kernel_rfl) (by kernel_rfl) (by kernel_rfl) (fun _ _ _ h => h) (Or.inl ⟨by rfl, ?y5017⟩) hHeld ?r5017
              case y5017 => (intro w' hSw; (try dsimp only at hSw); go_simp; (try with_reducible rfl))
              try simp only [Act.put, List.setIfInBounds_toArray, List.set_cons_zero, List.set_cons_succ]
              refine wpAnyH_take (i := 18) (oi := { dst := some 56, op := Go.Op.move (Go.Operand.tmp 7), type := 29, pos := "law.go:78", after := #[{ on := 15, ground := Go.Ground.guard }], guard := some (15, false) }) (v := ?v5018) rfl (by kernel_rfl) (by kernel_rfl) (by kernel_rfl) (fun _ _ _ h => h) (Or.inl ⟨by rfl, ?y5018⟩) hHeld ?r5018
              case y5018 => (intro w' hSw; (try dsimp only at hSw); go_simp; (try with_reducible rfl))
              try simp only [Act.put, List.setIfInBounds_toArray, List.set_cons_zero, List.set_cons_succ]
              refine wpAnyH_take (i := 19) (oi := { dst := some 57, op := Go.Op.nilCheck (Go.Operand.tmp 56), type := 0, pos := "law.go:78", after := #[{ on := 18, ground := Go.Ground.data }, { on := 15, ground := Go.Ground.guard }], guard := some (15, false) }) (v := ?v5019) rfl (by kernel_rfl) (by kernel_rfl) (by kernel_rfl) (fun _ _ _ h => h) (Or.inl ⟨by rfl, ?y5019⟩) hHeld ?r5019
              case y5019 => (intro w' hSw; (try dsimp only at hSw); go_simp; (try with_reducible rfl))
              try simp only [Act.put, List.setIfInBounds_toArray, List.set_cons_zero, List.set_cons_succ]
              refine wpAnyH_take (i := 20) (oi := { dst := some 58, op := Go.Op.fieldAddr 39 (Go.Operand.tmp 57) 3, type := 0, pos := "law.go:78", after := #[{ on := 19, ground := Go.Ground.data }, { on := 15, ground := Go.Ground.guard }], guard := some (15, false) }) (v := ?v5020) rfl (by kernel_rfl) (by kernel_rfl) (by kernel_rfl) (fun _ _ _ h => h) (Or.inl ⟨by rfl, ?y5020⟩) hHeld ?r5020
              case y5020 => (intro w' hSw; (try dsimp only at hSw); go_simp; (try with_reducible rfl))
              try simp only [Act.put, List.setIfInBounds_toArray, List.set_cons_zero, List.set_cons_succ]
              refine wpAnyH_ready (rs := [17, 21]) (by kernel_rfl) (by simp) ?_
              refine AllReadyH.cons (o := { dst := some 55, op := Go.Op.call { callee := Go.Callee.value (Go.Operand.func 12), args := #[Go.Operand.tmp 54], argTypes := #[24] }, type := 22, pos := "law.go:78", after := #[{ on := 16, ground := Go.Ground.data }, { on := 15, ground := Go.Ground.chain }, { on := 15, ground := Go.Ground.guard }], guard := some (15, false) }) rfl (fun K hK => ?_) ?_
              · go_simp
                refine (held_any _ _ sl 1 _ _ T5014.out.ring (by rw [HLEN.out]; omega) (by rw [HLEN.out]; omega) (by omega)).mono ?_
                rintro e w5021 ⟨vh5021, rfl, H5021, K5021⟩
                have s5021 := And.intro (K5021.cell s5014.1 (by simp)) (And.intro (K5021.cell s5014.2.1 (by simp)) (And.intro (K5021.cell s5014.2.2.1 (by simp)) (K5021.cell s5014.2.2.2 (by simp))))
                rw [T5014.out.held] at H5021
                have C5021 := Lib.hid (C5014.out.trans K5021)
                have T5021 := Lib.hid (T5014.out.keep K5021)
                have q5021 := T5021.out.ref.hq.cell 3 _ rfl
                have H5021 := Row.cast H5021 HN0.out
                obtain ⟨AH5021, cH5021, rfl, _, _⟩ := Row.slice H5021
                have HH5021 := Lib.hid H5021
                clear H5021
                refine hK.out _ _ ?_ (fun hHeld => ?_)
                · exact s5021
                clear hK K
                try simp only [Act.put, List.setIfInBounds_toArray, List.set_cons_zero, List.set_cons_succ]
                refine wpAnyH_ready (rs := [21]) (by kernel_rfl) (by simp) ?_
                refine AllReadyH.cons (o := { dst := some 59, op := Go.Op.load 22 (Go.Operand.tmp 58), type := 22, pos := "law.go:78", after := #[{ on := 20, ground := Go.Ground.data }, { on := 15, ground := Go.Ground.guard }], guard := some (15, false) }) rfl (fun K hK => ?_) ?_
                · go_simp
                  refine hK.out _ _ ?_ (fun hHeld => ?_)
                  · exact s5021
                  clear hK K
                  try simp only [Act.put, List.setIfInBounds_toArray, List.set_cons_zero, List.set_cons_succ]
                  refine wpAnyH_ready (rs := [22]) (by kernel_rfl) (by simp) ?_
                  refine AllReadyH.cons (o := { dst := some 60, op := Go.Op.call { callee := Go.Callee.value (Go.Operand.func 11), args := #[Go.Operand.tmp 55, Go.Operand.tmp 59], argTypes := #[22, 22] }, type := 4, pos := "law.go:78", after := #[{ on := 17, ground := Go.Ground.data }, { on := 21, ground := Go.Ground.data }, { on := 17, ground := Go.Ground.chain }, { on := 15, ground := Go.Ground.guard }], guard := some (15, false) }) rfl (fun K hK => ?_) ?_
                  · go_simp
                    refine (ints_any _ _ _ _ _ _ _ _ true (decide_eq_true rfl).symm _ HH5021.out (Row.cast T5021.out.ref.hN HN0.out) (by omega) (by omega)).mono ?_
                    rintro e w5023 ⟨rfl, m5023, rfl⟩
                    have T5023 := Lib.hid (T5021.out.keep ((Keep.refl [] _).drewN m5023))
                    have C5023 := Lib.hid (C5021.out.drewN m5023)
                    refine hK.out _ _ ?_ (fun hHeld => ?_)
                    · exact s5021
                    clear hK K
                    try simp only [Act.put, List.setIfInBounds_toArray, List.set_cons_zero, List.set_cons_succ]
                    refine wpAnyH_take (i := 23) (oi := { dst := some 61, op := Go.Op.unOp Go.UnOp.not 4 (Go.Operand.tmp 60), type := 4, pos := "law.go:78", after := #[{ on := 22, ground := Go.Ground.data }, { on := 15, ground := Go.Ground.guard }], guard := some (15, false) }) (v := ?v5024) rfl (by kernel_rfl) (by kernel_rfl) (by kernel_rfl) (fun _ _ _ h => h) (Or.inl ⟨by rfl, ?y5024⟩) hHeld ?r5024
                    case y5024 => (intro w' hSw; (try dsimp only at hSw); go_simp; (try with_reducible rfl))
                    try simp only [Act.put, List.setIfInBounds_toArray, List.set_cons_zero, List.set_cons_succ]
                    refine wpAnyH_take (i := 24) (oi := { dst := some 62, op := Go.Op.pick (Go.Operand.tmp 53) (Go.Operand.const (Go.Value.bool true)) (Go.Operand.tmp 61), type := 4, pos := "law.go:78", after := #[{ on := 15, ground := Go.Ground.data }, { on := 23, ground := Go.Ground.data }], guard := none }) (v := ?v5025) rfl (by kernel_rfl) (by kernel_rfl) (by kernel_rfl) (fun _ _ _ h => h) (Or.inl ⟨by rfl, ?y5025⟩) hHeld ?r5025
                    case y5025 => (intro w' hSw; (try dsimp only at hSw); go_simp; (try with_reducible rfl))
                    try simp only [Act.put, List.setIfInBounds_toArray, List.set_cons_zero, List.set_cons_succ]
                    refine wpAnyH_done (by kernel_rfl) ?_ _
                    clear hHeld s0
                    go_wp2_with fail
                    go_roundw
                    case rel => exact ⟨k + 1, _, _, _, _, by omega, by go_num, T5023.out, C5023.out⟩
                    case measure => simp [intOf]; omega
                  exact AllReadyH.nil
                exact AllReadyH.nil
              refine AllReadyH.cons (o := { dst := some 59, op := Go.Op.load 22 (Go.Operand.tmp 58), type := 22, pos := "law.go:78", after := #[{ on := 20, ground := Go.Ground.data }, { on := 15, ground := Go.Ground.guard }], guard := some (15, false) }) rfl (fun K hK => ?_) ?_
              · go_simp
                refine hK.out _ _ ?_ (fun hHeld => ?_)
                · exact s5014
                clear hK K
                try simp only [Act.put, List.setIfInBounds_toArray, List.set_cons_zero, List.set_cons_succ]
                refine wpAnyH_ready (rs := [17]) (by kernel_rfl) (by simp) ?_
                refine AllReadyH.cons (o := { dst := some 55, op := Go.Op.call { callee := Go.Callee.value (Go.Operand.func 12), args := #[Go.Operand.tmp 54], argTypes := #[24] }, type := 22, pos := "law.go:78", after := #[{ on := 16, ground := Go.Ground.data }, { on := 15, ground := Go.Ground.chain }, { on := 15, ground := Go.Ground.guard }], guard := some (15, false) }) rfl (fun K hK => ?_) ?_
                · go_simp
                  refine (held_any _ _ sl 1 _ _ T5014.out.ring (by rw [HLEN.out]; omega) (by rw [HLEN.out]; omega) (by omega)).mono ?_
                  rintro e w5027 ⟨vh5027, rfl, H5027, K5027⟩
                  have s5027 := And.intro (K5027.cell s5014.1 (by simp)) (And.intro (K5027.cell s5014.2.1 (by simp)) (And.intro (K5027.cell s5014.2.2.1 (by simp)) (K5027.cell s5014.2.2.2 (by simp))))
                  rw [T5014.out.held] at H5027
                  have C5027 := Lib.hid (C5014.out.trans K5027)
                  have T5027 := Lib.hid (T5014.out.keep K5027)
                  have q5027 := T5027.out.ref.hq.cell 3 _ rfl
                  have H5027 := Row.cast H5027 HN0.out
                  obtain ⟨AH5027, cH5027, rfl, _, _⟩ := Row.slice H5027
                  have HH5027 := Lib.hid H5027
                  clear H5027
                  refine hK.out _ _ ?_ (fun hHeld => ?_)
                  · exact s5027
                  clear hK K
                  try simp only [Act.put, List.setIfInBounds_toArray, List.set_cons_zero, List.set_cons_succ]
                  refine wpAnyH_ready (rs := [22]) (by kernel_rfl) (by simp) ?_
                  refine AllReadyH.cons (o := { dst := some 60, op := Go.Op.call { callee := Go.Callee.value (Go.Operand.func 11), args := #[Go.Operand.tmp 55, Go.Operand.tmp 59], argTypes := #[22, 22] }, type := 4, pos := "law.go:78", after := #[{ on := 17, ground := Go.Ground.data }, { on := 21, ground := Go.Ground.data }, { on := 17, ground := Go.Ground.chain }, { on := 15, ground := Go.Ground.guard }], guard := some (15, false) }) rfl (fun K hK => ?_) ?_
                  · go_simp
                    refine (ints_any _ _ _ _ _ _ _ _ true (decide_eq_true rfl).symm _ HH5027.out (Row.cast T5027.out.ref.hN HN0.out) (by omega) (by omega)).mono ?_
                    rintro e w5028 ⟨rfl, m5028, rfl⟩
                    have T5028 := Lib.hid (T5027.out.keep ((Keep.refl [] _).drewN m5028))
                    have C5028 := Lib.hid (C5027.out.drewN m5028)
                    refine hK.out _ _ ?_ (fun hHeld => ?_)
                    · exact s5027
                    clear hK K
                    try simp only [Act.put, List.setIfInBounds_toArray, List.set_cons_zero, List.set_cons_succ]
                    refine wpAnyH_take (i := 23) (oi := { dst := some 61, op := Go.Op.unOp Go.UnOp.not 4 (Go.Operand.tmp 60), type := 4, pos := "law.go:78", after := #[{ on := 22, ground := Go.Ground.data }, { on := 15, ground := Go.Ground.guard }], guard := some (15, false) }) (v := ?v5029) rfl (by kernel_rfl) (by kernel_rfl) (by kernel_rfl) (fun _ _ _ h => h) (Or.inl ⟨by rfl, ?y5029⟩) hHeld ?r5029
                    case y5029 => (intro w' hSw; (try dsimp only at hSw); go_simp; (try with_reducible rfl))
                    try simp only [Act.put, List.setIfInBounds_toArray, List.set_cons_zero, List.set_cons_succ]
                    refine wpAnyH_take (i := 24) (oi := { dst := some 62, op := Go.Op.pick (Go.Operand.tmp 53) (Go.Operand.const (Go.Value.bool true)) (Go.Operand.tmp 61), type := 4, pos := "law.go:78", after := #[{ on := 15, ground := Go.Ground.data }, { on := 23, ground := Go.Ground.data }], guard := none }) (v := ?v5030) rfl (by kernel_rfl) (by kernel_rfl) (by kernel_rfl) (fun _ _ _ h => h) (Or.inl ⟨by rfl, ?y5030⟩) hHeld ?r5030
                    case y5030 => (intro w' hSw; (try dsimp only at hSw); go_simp; (try with_reducible rfl))
                    try simp only [Act.put, List.setIfInBounds_toArray, List.set_cons_zero, List.set_cons_succ]
                    refine wpAnyH_done (by kernel_rfl) ?_ _
                    clear hHeld s0
                    go_wp2_with fail
                    go_roundw
                    case rel => exact ⟨k + 1, _, _, _, _, by omega, by go_num, T5028.out, C5028.out⟩
                    case measure => simp [intOf]; omega
                  exact AllReadyH.nil
                exact AllReadyH.nil
              exact AllReadyH.nil
            exact AllReadyH.nil
          exact AllReadyH.nil
        · have hlo : (1 : Int) ≤ n := by omega
          have hhi : n < 1 + (cap : Int) := by omega
          clear h1
          by_cases hmem : n ∈ st.map (·.1)
          · obtain ⟨pp, Hpp⟩ : ∃ pp, Hid (sl[(n % (cap : Int)).toNat]? = some (some pp)) := by
              obtain ⟨x, hx, rfl⟩ := List.mem_map.1 hmem
              obtain ⟨p, hp, _⟩ := hS1.full x hx
              exact ⟨p, hp⟩
            have HM := Lib.hid hmem
            clear hmem
            obtain ⟨N0, hN0⟩ : ∃ N : Nat, (st.map (·.1)).length = N := ⟨_, rfl⟩
            have hNb0 : N0 ≤ 100 := by rw [← hN0, List.length_map]; omega
            obtain ⟨AN, cN, rfl, _, _⟩ := Row.slice (Row.cast hS1.ref.hN hN0)
            have HN0 := Lib.hid hN0
            have T0 := Lib.hid (hS1.keep ((Keep.refl [] W).drew))
            have C0 := Lib.hid HK1.out.drew
            have HLEN := Lib.hid hlen
            clear hN0 hS1 hlen
            go_wp2_with fail
            rw [HWW.out]
            refine wp_region_held_drew (S := fun v : World => v.cell? ⟨g, off + k, none⟩ = some (.int .i64 n) ∧ v.cell? ⟨wr.heap.size, 0, none⟩ = some (.slice none 0 0) ∧ v.cell? ⟨wr.heap.size, 1, none⟩ = some (.int .i64 0) ∧ v.cell? ⟨wr.heap.size, 2, none⟩ = some (.int .i64 k)) (by kernel_rfl) s0 (fun hHeld => ?_)
            change wpAnyH _ _ _ _ _ 25 (Array.replicate 25 false) _ _
            refine wpAnyH_take (i := 0) (oi := { dst := some 38, op := Go.Op.move (Go.Operand.tmp 5), type := 24, pos := "law.go:78", after := #[], guard := none }) (v := ?v6001) rfl (by kernel_rfl) (by kernel_rfl) (by kernel_rfl) (fun _ _ _ h => h) (Or.inl ⟨by rfl, ?y6001⟩) hHeld ?r6001
            case y6001 => (intro w' hSw; (try dsimp only at hSw); go_simp; (try with_reducible rfl))
            try simp only [Act.put, List.setIfInBounds_toArray, List.set_cons_zero, List.set_cons_succ]
            refine wpAnyH_take (i := 1) (oi := { dst := some 39, op := Go.Op.move (Go.Operand.tmp 1), type := 22, pos := "law.go:78", after := #[], guard := none }) (v := ?v6002) rfl (by kernel_rfl) (by kernel_rfl) (by kernel_rfl) (fun _ _ _ h => h) (Or.inl ⟨by rfl, ?y6002⟩) hHeld ?r6002
            case y6002 => (intro w' hSw; (try dsimp only at hSw); go_simp; (try with_reducible rfl))
            try simp only [Act.put, List.setIfInBounds_toArray, List.set_cons_zero, List.set_cons_succ]
            refine wpAnyH_take (i := 2) (oi := { dst := some 40, op := Go.Op.move (Go.Operand.tmp 8), type := 3, pos := "law.go:78", after := #[], guard := none }) (v := ?v6003) rfl (by kernel_rfl) (by kernel_rfl) (by kernel_rfl) (fun _ _ _ h => h) (Or.inl ⟨by rfl, ?y6003⟩) hHeld ?r6003
            case y6003 => (intro w' hSw; (try dsimp only at hSw); go_simp; (try with_reducible rfl))
            try simp only [Act.put, List.setIfInBounds_toArray, List.set_cons_zero, List.set_cons_succ]
            refine wpAnyH_take (i := 3) (oi := { dst := some 41, op := Go.Op.indexAddr 22 (Go.Operand.tmp 39) (Go.Operand.tmp 40), type := 0, pos := "law.go:78", after := #[{ on := 1, ground := Go.Ground.data }, { on := 2, ground := Go.Ground.data }], guard := none }) (v := ?v6004) rfl (by kernel_rfl) (by kernel_rfl) (by kernel_rfl) (fun _ _ _ h => h) (Or.inl ⟨by rfl, ?y6004⟩) hHeld ?r6004
            case y6004 => (intro w' hSw; (try dsimp only at hSw); go_simp; (try with_reducible rfl))
            try simp only [Act.put, List.setIfInBounds_toArray, List.set_cons_zero, List.set_cons_succ]
            refine wpAnyH_take (i := 4) (oi := { dst := some 42, op := Go.Op.load 3 (Go.Operand.tmp 41), type := 3, pos := "law.go:78", after := #[{ on := 3, ground := Go.Ground.data }], guard := none }) (v := ?v6005) rfl (by kernel_rfl) (by kernel_rfl) (by kernel_rfl) (fun _ _ _ h => h) (Or.inl ⟨by rfl, ?y6005⟩) hHeld ?r6005
            case y6005 => (intro w' hSw; (try dsimp only at hSw); go_simp; (try with_reducible rfl))
            try simp only [Act.put, List.setIfInBounds_toArray, List.set_cons_zero, List.set_cons_succ]
            refine wpAnyH_take (i := 5) (oi := { dst := some 43, op := Go.Op.load 33 (Go.Operand.tmp 9), type := 33, pos := "law.go:78", after := #[], guard := none }) (v := ?v6006) rfl (by kernel_rfl) (by kernel_rfl) (by kernel_rfl) (fun _ _ _ h => h) (Or.inl ⟨by rfl, ?y6006⟩) hHeld ?r6006
            case y6006 => (intro w' hSw; (try dsimp only at hSw); go_simp; (try with_reducible rfl))
            try simp only [Act.put, List.setIfInBounds_toArray, List.set_cons_zero, List.set_cons_succ]
            refine wpAnyH_take (i := 7) (oi := { dst := some 45, op := Go.Op.move (Go.Operand.tmp 7), type := 29, pos := "law.go:78", after := #[], guard := none }) (v := ?v6007) rfl (by kernel_rfl) (by kernel_rfl) (by kernel_rfl) (fun _ _ _ h => h) (Or.inl ⟨by rfl, ?y6007⟩) hHeld ?r6007
            case y6007 => (intro w' hSw; (try dsimp only at hSw); go_simp; (try with_reducible rfl))
            try simp only [Act.put, List.setIfInBounds_toArray, List.set_cons_zero, List.set_cons_succ]
            refine wpAnyH_take (i := 8) (oi := { dst := some 46, op := Go.Op.move (Go.Operand.tmp 1), type := 22, pos := "law.go:78", after := #[], guard := none }) (v := ?v6008) rfl (by kernel_rfl) (by kernel_rfl) (by kernel_rfl) (fun _ _ _ h => h) (Or.inl ⟨by rfl, ?y6008⟩) hHeld ?r6008
            case y6008 => (intro w' hSw; (try dsimp only at hSw); go_simp; (try with_reducible rfl))
            try simp only [Act.put, List.setIfInBounds_toArray, List.set_cons_zero, List.set_cons_succ]
            refine wpAnyH_take (i := 9) (oi := { dst := some 47, op := Go.Op.move (Go.Operand.tmp 8), type := 3, pos := "law.go:78", after := #[], guard := none }) (v := ?v6009) rfl (by kernel_rfl) (by kernel_rfl) (by kernel_rfl) (fun _ _ _ h => h) (Or.inl ⟨by rfl, ?y6009⟩) hHeld ?r6009
            case y6009 => (intro w' hSw; (try dsimp only at hSw); go_simp; (try with_reducible rfl))
            try simp only [Act.put, List.setIfInBounds_toArray, List.set_cons_zero, List.set_cons_succ]
            refine wpAnyH_take (i := 10) (oi := { dst := some 48, op := Go.Op.indexAddr 22 (Go.Operand.tmp 46) (Go.Operand.tmp 47), type := 0, pos := "law.go:78", after := #[{ on := 8, ground := Go.Ground.data }, { on := 9, ground := Go.Ground.data }], guard := none }) (v := ?v6010) rfl (by kernel_rfl) (by kernel_rfl) (by kernel_rfl) (fun _ _ _ h => h) (Or.inl ⟨by rfl, ?y6010⟩) hHeld ?r6010
            case y6010 => (intro w' hSw; (try dsimp only at hSw); go_simp; (try with_reducible rfl))
            try simp only [Act.put, List.setIfInBounds_toArray, List.set_cons_zero, List.set_cons_succ]
            refine wpAnyH_take (i := 11) (oi := { dst := some 49, op := Go.Op.load 3 (Go.Operand.tmp 48), type := 3, pos := "law.go:78", after := #[{ on := 10, ground := Go.Ground.data }], guard := none }) (v := ?v6011) rfl (by kernel_rfl) (by kernel_rfl) (by kernel_rfl) (fun _ _ _ h => h) (Or.inl ⟨by rfl, ?y6011⟩) hHeld ?r6011
            case y6011 => (intro w' hSw; (try dsimp only at hSw); go_simp; (try with_reducible rfl))
            try simp only [Act.put, List.setIfInBounds_toArray, List.set_cons_zero, List.set_cons_succ]
            refine wpAnyH_take (i := 12) (oi := { dst := some 50, op := Go.Op.load 33 (Go.Operand.tmp 9), type := 33, pos := "law.go:78", after := #[], guard := none }) (v := ?v6012) rfl (by kernel_rfl) (by kernel_rfl) (by kernel_rfl) (fun _ _ _ h => h) (Or.inl ⟨by rfl, ?y6012⟩) hHeld ?r6012
            case y6012 => (intro w' hSw; (try dsimp only at hSw); go_simp; (try with_reducible rfl))
            try simp only [Act.put, List.setIfInBounds_toArray, List.set_cons_zero, List.set_cons_succ]
            refine wpAnyH_ready (rs := [6]) (by kernel_rfl) (by simp) ?_
            refine AllReadyH.cons (o := { dst := some 44, op := Go.Op.call { callee := Go.Callee.value (Go.Operand.func 9), args := #[Go.Operand.tmp 38, Go.Operand.tmp 42, Go.Operand.tmp 43], argTypes := #[24, 3, 33] }, type := 25, pos := "law.go:78", after := #[{ on := 0, ground := Go.Ground.data }, { on := 4, ground := Go.Ground.data }, { on := 5, ground := Go.Ground.data }], guard := none }) rfl (fun K hK => ?_) ?_
            · go_simp
              refine (put_state _ _ sl _ _ n _ _ _ _ T0.out.ring (by rw [HLEN.out]; omega) (by omega) (by omega) hlo (by rw [HLEN.out]; omega) pp (by rw [HLEN.out]; exact Hpp.out) rfl).mono ?_
              rintro e w6013 ⟨rfl, K6013⟩
              have s6013 := And.intro (K6013.cell s0.1 (by simp)) (And.intro (K6013.cell s0.2.1 (by simp)) (And.intro (K6013.cell s0.2.2.1 (by simp)) (K6013.cell s0.2.2.2 (by simp))))
              have T6013 := Lib.hid (T0.out.keep K6013)
              have C6013 := Lib.hid (C0.out.trans K6013)
              refine hK.out _ _ ?_ (fun hHeld => ?_)
              · exact s6013
              clear hK K
              try simp only [Act.put, List.setIfInBounds_toArray, List.set_cons_zero, List.set_cons_succ]
              refine wpAnyH_ready (rs := [13]) (by kernel_rfl) (by simp) ?_
              refine AllReadyH.cons (o := { dst := some 51, op := Go.Op.call { callee := Go.Callee.value (Go.Operand.func 10), args := #[Go.Operand.tmp 45, Go.Operand.tmp 49, Go.Operand.tmp 50], argTypes := #[29, 3, 33] }, type := 25, pos := "law.go:78", after := #[{ on := 7, ground := Go.Ground.data }, { on := 11, ground := Go.Ground.data }, { on := 12, ground := Go.Ground.data }, { on := 6, ground := Go.Ground.chain }], guard := none }) rfl (fun K hK => ?_) ?_
              · go_simp
                refine (refPut_state _ cap _ _ _ _ _ _ n _ _ _ _ T6013.out.ref (by simp; omega) (by omega) (by omega) (by omega) (by omega) hlo (by omega) rfl HM.out).mono ?_
                rintro e w6014 ⟨rfl, K6014⟩
                have s6014 := And.intro (K6014.cell s6013.1 (by simp)) (And.intro (K6014.cell s6013.2.1 (by simp)) (And.intro (K6014.cell s6013.2.2.1 (by simp)) (K6014.cell s6013.2.2.2 (by simp))))
                have T6014 := Lib.hid (T6013.out.keep K6014)
                have C6014 := Lib.hid (C6013.out.trans K6014)
                have q6014 := T6014.out.ref.hq.cell 3 _ rfl
                refine hK.out _ _ ?_ (fun hHeld => ?_)
                · exact s6014
                clear hK K
                try simp only [Act.put, List.setIfInBounds_toArray, List.set_cons_zero, List.set_cons_succ]
                refine wpAnyH_take (i := 14) (oi := { dst := some 52, op := Go.Op.binOp Go.BinOp.neq 25 (Go.Operand.tmp 44) (Go.Operand.tmp 51) 25, type := 4, pos := "law.go:78", after := #[{ on := 6, ground := Go.Ground.data }, { on := 13, ground := Go.Ground.data }], guard := none }) (v := ?v6015) rfl (by kernel_rfl) (by kernel_rfl) (by kernel_rfl) (fun _ _ _ h => h) (Or.inl ⟨by rfl, ?y6015⟩) hHeld ?r6015
                case y6015 => (intro w' hSw; (try dsimp only at hSw); go_simp; (try with_reducible rfl))
                try simp only [Act.put, List.setIfInBounds_toArray, List.set_cons_zero, List.set_cons_succ]
                refine wpAnyH_take (i := 15) (oi := { dst := some 53, op := Go.Op.move (Go.Operand.tmp 52), type := 4, pos := "law.go:78", after := #[{ on := 14, ground := Go.Ground.data }, { on := 13, ground := Go.Ground.chain }], guard := none }) (v := ?v6016) rfl (by kernel_rfl) (by kernel_rfl) (by kernel_rfl) (fun _ _ _ h => h) (Or.inl ⟨by rfl, ?y6016⟩) hHeld ?r6016
                case y6016 => (intro w' hSw; (try dsimp only at hSw); go_simp; (try with_reducible rfl))
                try simp only [Act.put, List.setIfInBounds_toArray, List.set_cons_zero, List.set_cons_succ]
                refine wpAnyH_take (i := 16) (oi := { dst := some 54, op := Go.Op.move (Go.Operand.tmp 5), type := 24, pos := "law.go:78", after := #[{ on := 15, ground := Go.Ground.guard }], guard := some (15, false) }) (v := ?v6017) rfl (by kernel_rfl) (by kernel_rfl) (by kernel_rfl) (fun _ _ _ h => h) (Or.inl ⟨by rfl, ?y6017⟩) hHeld ?r6017
                case y6017 => (intro w' hSw; (try dsimp only at hSw); go_simp; (try with_reducible rfl))
                try simp only [Act.put, List.setIfInBounds_toArray, List.set_cons_zero, List.set_cons_succ]
                refine wpAnyH_take (i := 18) (oi := { dst := some 56, op := Go.Op.move (Go.Operand.tmp 7), type := 29, pos := "law.go:78", after := #[{ on := 15, ground := Go.Ground.guard }], guard := some (15, false) }) (v := ?v6018) rfl (by kernel_rfl) (by kernel_rfl) (by kernel_rfl) (fun _ _ _ h => h) (Or.inl ⟨by rfl, ?y6018⟩) hHeld ?r6018
                case y6018 => (intro w' hSw; (try dsimp only at hSw); go_simp; (try with_reducible rfl))
                try simp only [Act.put, List.setIfInBounds_toArray, List.set_cons_zero, List.set_cons_succ]
                refine wpAnyH_take (i := 19) (oi := { dst := some 57, op := Go.Op.nilCheck (Go.Operand.tmp 56), type := 0, pos := "law.go:78", after := #[{ on := 18, ground := Go.Ground.data }, { on := 15, ground := Go.Ground.guard }], guard := some (15, false) }) (v := ?v6019) rfl (by kernel_rfl) (by kernel_rfl) (by kernel_rfl) (fun _ _ _ h => h) (Or.inl ⟨by rfl, ?y6019⟩) hHeld ?r6019
                case y6019 => (intro w' hSw; (try dsimp only at hSw); go_simp; (try with_reducible rfl))
                try simp only [Act.put, List.setIfInBounds_toArray, List.set_cons_zero, List.set_cons_succ]
                refine wpAnyH_take (i := 20) (oi := { dst := some 58, op := Go.Op.fieldAddr 39 (Go.Operand.tmp 57) 3, type := 0, pos := "law.go:78", after := #[{ on := 19, ground := Go.Ground.data }, { on := 15, ground := Go.Ground.guard }], guard := some (15, false) }) (v := ?v6020) rfl (by kernel_rfl) (by kernel_rfl) (by kernel_rfl) (fun _ _ _ h => h) (Or.inl ⟨by rfl, ?y6020⟩) hHeld ?r6020
                case y6020 => (intro w' hSw; (try dsimp only at hSw); go_simp; (try with_reducible rfl))
                try simp only [Act.put, List.setIfInBounds_toArray, List.set_cons_zero, List.set_cons_succ]
                refine wpAnyH_ready (rs := [17, 21]) (by kernel_rfl) (by simp) ?_
                refine AllReadyH.cons (o := { dst := some 55, op := Go.Op.call { callee := Go.Callee.value (Go.Operand.func 12), args := #[Go.Operand.tmp 54], argTypes := #[24] }, type := 22, pos := "law.go:78", after := #[{ on := 16, ground := Go.Ground.data }, { on := 15, ground := Go.Ground.chain }, { on := 15, ground := Go.Ground.guard }], guard := some (15, false) }) rfl (fun K hK => ?_) ?_
                · go_simp
                  refine (held_any _ _ sl 1 _ _ T6014.out.ring (by rw [HLEN.out]; omega) (by rw [HLEN.out]; omega) (by omega)).mono ?_
                  rintro e w6021 ⟨vh6021, rfl, H6021, K6021⟩
                  have s6021 := And.intro (K6021.cell s6014.1 (by simp)) (And.intro (K6021.cell s6014.2.1 (by simp)) (And.intro (K6021.cell s6014.2.2.1 (by simp)) (K6021.cell s6014.2.2.2 (by simp))))
                  rw [T6014.out.held] at H6021
                  have C6021 := Lib.hid (C6014.out.trans K6021)
                  have T6021 := Lib.hid (T6014.out.keep K6021)
                  have q6021 := T6021.out.ref.hq.cell 3 _ rfl
                  have H6021 := Row.cast H6021 HN0.out
                  obtain ⟨AH6021, cH6021, rfl, _, _⟩ := Row.slice H6021
                  have HH6021 := Lib.hid H6021
                  clear H6021
                  refine hK.out _ _ ?_ (fun hHeld => ?_)
                  · exact s6021
                  clear hK K
                  try simp only [Act.put, List.setIfInBounds_toArray, List.set_cons_zero, List.set_cons_succ]
                  refine wpAnyH_ready (rs := [21]) (by kernel_rfl) (by simp) ?_
                  refine AllReadyH.cons (o := { dst := some 59, op := Go.Op.load 22 (Go.Operand.tmp 58), type := 22, pos := "law.go:78", after := #[{ on := 20, ground := Go.Ground.data }, { on := 15, ground := Go.Ground.guard }], guard := some (15, false) }) rfl (fun K hK => ?_) ?_
                  · go_simp
                    refine hK.out _ _ ?_ (fun hHeld => ?_)
                    · exact s6021
                    clear hK K
                    try simp only [Act.put, List.setIfInBounds_toArray, List.set_cons_zero, List.set_cons_succ]
                    refine wpAnyH_ready (rs := [22]) (by kernel_rfl) (by simp) ?_
                    refine AllReadyH.cons (o := { dst := some 60, op := Go.Op.call { callee := Go.Callee.value (Go.Operand.func 11), args := #[Go.Operand.tmp 55, Go.Operand.tmp 59], argTypes := #[22, 22] }, type := 4, pos := "law.go:78", after := #[{ on := 17, ground := Go.Ground.data }, { on := 21, ground := Go.Ground.data }, { on := 17, ground := Go.Ground.chain }, { on := 15, ground := Go.Ground.guard }], guard := some (15, false) }) rfl (fun K hK => ?_) ?_
                    · go_simp
                      refine (ints_any _ _ _ _ _ _ _ _ true (decide_eq_true rfl).symm _ HH6021.out (Row.cast T6021.out.ref.hN HN0.out) (by omega) (by omega)).mono ?_
                      rintro e w6023 ⟨rfl, m6023, rfl⟩
                      have T6023 := Lib.hid (T6021.out.keep ((Keep.refl [] _).drewN m6023))
                      have C6023 := Lib.hid (C6021.out.drewN m6023)
                      refine hK.out _ _ ?_ (fun hHeld => ?_)
                      · exact s6021
                      clear hK K
                      try simp only [Act.put, List.setIfInBounds_toArray, List.set_cons_zero, List.set_cons_succ]
                      refine wpAnyH_take (i := 23) (oi := { dst := some 61, op := Go.Op.unOp Go.UnOp.not 4 (Go.Operand.tmp 60), type := 4, pos := "law.go:78", after := #[{ on := 22, ground := Go.Ground.data }, { on := 15, ground := Go.Ground.guard }], guard := some (15, false) }) (v := ?v6024) rfl (by kernel_rfl) (by kernel_rfl) (by kernel_rfl) (fun _ _ _ h => h) (Or.inl ⟨by rfl, ?y6024⟩) hHeld ?r6024
                      case y6024 => (intro w' hSw; (try dsimp only at hSw); go_simp; (try with_reducible rfl))
                      try simp only [Act.put, List.setIfInBounds_toArray, List.set_cons_zero, List.set_cons_succ]
                      refine wpAnyH_take (i := 24) (oi := { dst := some 62, op := Go.Op.pick (Go.Operand.tmp 53) (Go.Operand.const (Go.Value.bool true)) (Go.Operand.tmp 61), type := 4, pos := "law.go:78", after := #[{ on := 15, ground := Go.Ground.data }, { on := 23, ground := Go.Ground.data }], guard := none }) (v := ?v6025) rfl (by kernel_rfl) (by kernel_rfl) (by kernel_rfl) (fun _ _ _ h => h) (Or.inl ⟨by rfl, ?y6025⟩) hHeld ?r6025
                      case y6025 => (intro w' hSw; (try dsimp only at hSw); go_simp; (try with_reducible rfl))
                      try simp only [Act.put, List.setIfInBounds_toArray, List.set_cons_zero, List.set_cons_succ]
                      refine wpAnyH_done (by kernel_rfl) ?_ _
                      clear hHeld s0
                      go_wp2_with fail
                      go_roundw
                      case rel => exact ⟨k + 1, _, _, _, _, by omega, by go_num, T6023.out, C6023.out⟩
                      case measure => simp [intOf]; omega
                    exact AllReadyH.nil
                  exact AllReadyH.nil
                refine AllReadyH.cons (o := { dst := some 59, op := Go.Op.load 22 (Go.Operand.tmp 58), type := 22, pos := "law.go:78", after := #[{ on := 20, ground := Go.Ground.data }, { on := 15, ground := Go.Ground.guard }], guard := some (15, false) }) rfl (fun K hK => ?_) ?_
                · go_simp
                  refine hK.out _ _ ?_ (fun hHeld => ?_)
                  · exact s6014
                  clear hK K
                  try simp only [Act.put, List.setIfInBounds_toArray, List.set_cons_zero, List.set_cons_succ]
                  refine wpAnyH_ready (rs := [17]) (by kernel_rfl) (by simp) ?_
                  refine AllReadyH.cons (o := { dst := some 55, op := Go.Op.call { callee := Go.Callee.value (Go.Operand.func 12), args := #[Go.Operand.tmp 54], argTypes := #[24] }, type := 22, pos := "law.go:78", after := #[{ on := 16, ground := Go.Ground.data }, { on := 15, ground := Go.Ground.chain }, { on := 15, ground := Go.Ground.guard }], guard := some (15, false) }) rfl (fun K hK => ?_) ?_
                  · go_simp
                    refine (held_any _ _ sl 1 _ _ T6014.out.ring (by rw [HLEN.out]; omega) (by rw [HLEN.out]; omega) (by omega)).mono ?_
                    rintro e w6027 ⟨vh6027, rfl, H6027, K6027⟩
                    have s6027 := And.intro (K6027.cell s6014.1 (by simp)) (And.intro (K6027.cell s6014.2.1 (by simp)) (And.intro (K6027.cell s6014.2.2.1 (by simp)) (K6027.cell s6014.2.2.2 (by simp))))
                    rw [T6014.out.held] at H6027
                    have C6027 := Lib.hid (C6014.out.trans K6027)
                    have T6027 := Lib.hid (T6014.out.keep K6027)
                    have q6027 := T6027.out.ref.hq.cell 3 _ rfl
                    have H6027 := Row.cast H6027 HN0.out
                    obtain ⟨AH6027, cH6027, rfl, _, _⟩ := Row.slice H6027
                    have HH6027 := Lib.hid H6027
                    clear H6027
                    refine hK.out _ _ ?_ (fun hHeld => ?_)
                    · exact s6027
                    clear hK K
                    try simp only [Act.put, List.setIfInBounds_toArray, List.set_cons_zero, List.set_cons_succ]
                    refine wpAnyH_ready (rs := [22]) (by kernel_rfl) (by simp) ?_
                    refine AllReadyH.cons (o := { dst := some 60, op := Go.Op.call { callee := Go.Callee.value (Go.Operand.func 11), args := #[Go.Operand.tmp 55, Go.Operand.tmp 59], argTypes := #[22, 22] }, type := 4, pos := "law.go:78", after := #[{ on := 17, ground := Go.Ground.data }, { on := 21, ground := Go.Ground.data }, { on := 17, ground := Go.Ground.chain }, { on := 15, ground := Go.Ground.guard }], guard := some (15, false) }) rfl (fun K hK => ?_) ?_
                    · go_simp
                      refine (ints_any _ _ _ _ _ _ _ _ true (decide_eq_true rfl).symm _ HH6027.out (Row.cast T6027.out.ref.hN HN0.out) (by omega) (by omega)).mono ?_
                      rintro e w6028 ⟨rfl, m6028, rfl⟩
                      have T6028 := Lib.hid (T6027.out.keep ((Keep.refl [] _).drewN m6028))
                      have C6028 := Lib.hid (C6027.out.drewN m6028)
                      refine hK.out _ _ ?_ (fun hHeld => ?_)
                      · exact s6027
                      clear hK K
                      try simp only [Act.put, List.setIfInBounds_toArray, List.set_cons_zero, List.set_cons_succ]
                      refine wpAnyH_take (i := 23) (oi := { dst := some 61, op := Go.Op.unOp Go.UnOp.not 4 (Go.Operand.tmp 60), type := 4, pos := "law.go:78", after := #[{ on := 22, ground := Go.Ground.data }, { on := 15, ground := Go.Ground.guard }], guard := some (15, false) }) (v := ?v6029) rfl (by kernel_rfl) (by kernel_rfl) (by kernel_rfl) (fun _ _ _ h => h) (Or.inl ⟨by rfl, ?y6029⟩) hHeld ?r6029
                      case y6029 => (intro w' hSw; (try dsimp only at hSw); go_simp; (try with_reducible rfl))
                      try simp only [Act.put, List.setIfInBounds_toArray, List.set_cons_zero, List.set_cons_succ]
                      refine wpAnyH_take (i := 24) (oi := { dst := some 62, op := Go.Op.pick (Go.Operand.tmp 53) (Go.Operand.const (Go.Value.bool true)) (Go.Operand.tmp 61), type := 4, pos := "law.go:78", after := #[{ on := 15, ground := Go.Ground.data }, { on := 23, ground := Go.Ground.data }], guard := none }) (v := ?v6030) rfl (by kernel_rfl) (by kernel_rfl) (by kernel_rfl) (fun _ _ _ h => h) (Or.inl ⟨by rfl, ?y6030⟩) hHeld ?r6030
                      case y6030 => (intro w' hSw; (try dsimp only at hSw); go_simp; (try with_reducible rfl))
                      try simp only [Act.put, List.setIfInBounds_toArray, List.set_cons_zero, List.set_cons_succ]
                      refine wpAnyH_done (by kernel_rfl) ?_ _
                      clear hHeld s0
                      go_wp2_with fail
                      go_roundw
                      case rel => exact ⟨k + 1, _, _, _, _, by omega, by go_num, T6028.out, C6028.out⟩
                      case measure => simp [intOf]; omega
                    exact AllReadyH.nil
                  exact AllReadyH.nil
                exact AllReadyH.nil
              exact AllReadyH.nil
            exact AllReadyH.nil
          · have HM := Lib.hid hmem
            clear hmem
            obtain ⟨N0, hN0⟩ : ∃ N : Nat, (st.map (·.1)).length = N := ⟨_, rfl⟩
            have hNb0 : N0 ≤ 100 := by rw [← hN0, List.length_map]; omega
            obtain ⟨AN, cN, rfl, _, _⟩ := Row.slice (Row.cast hS1.ref.hN hN0)
            have HN0 := Lib.hid hN0
            have T0 := Lib.hid (hS1.keep ((Keep.refl [] W).drew))
            have C0 := Lib.hid HK1.out.drew
            have HLEN := Lib.hid hlen
            clear hN0 hS1 hlen
            go_wp2_with fail
            rw [HWW.out]
            refine wp_region_held_drew (S := fun v : World => v.cell? ⟨g, off + k, none⟩ = some (.int .i64 n) ∧ v.cell? ⟨wr.heap.size, 0, none⟩ = some (.slice none 0 0) ∧ v.cell? ⟨wr.heap.size, 1, none⟩ = some (.int .i64 0) ∧ v.cell? ⟨wr.heap.size, 2, none⟩ = some (.int .i64 k)) (by kernel_rfl) s0 (fun hHeld => ?_)
            change wpAnyH _ _ _ _ _ 25 (Array.replicate 25 false) _ _
            refine wpAnyH_take (i := 0) (oi := { dst := some 38, op := Go.Op.move (Go.Operand.tmp 5), type := 24, pos := "law.go:78", after := #[], guard := none }) (v := ?v7001) rfl (by kernel_rfl) (by kernel_rfl) (by kernel_rfl) (fun _ _ _ h => h) (Or.inl ⟨by rfl, ?y7001⟩) hHeld ?r7001
            case y7001 => (intro w' hSw; (try dsimp only at hSw); go_simp; (try with_reducible rfl))
            try simp only [Act.put, List.setIfInBounds_toArray, List.set_cons_zero, List.set_cons_succ]
            refine wpAnyH_take (i := 1) (oi := { dst := some 39, op := Go.Op.move (Go.Operand.tmp 1), type := 22, pos := "law.go:78", after := #[], guard := none }) (v := ?v7002) rfl (by kernel_rfl) (by kernel_rfl) (by kernel_rfl) (fun _ _ _ h => h) (Or.inl ⟨by rfl, ?y7002⟩) hHeld ?r7002
            case y7002 => (intro w' hSw; (try dsimp only at hSw); go_simp; (try with_reducible rfl))
            try simp only [Act.put, List.setIfInBounds_toArray, List.set_cons_zero, List.set_cons_succ]
            refine wpAnyH_take (i := 2) (oi := { dst := some 40, op := Go.Op.move (Go.Operand.tmp 8), type := 3, pos := "law.go:78", after := #[], guard := none }) (v := ?v7003) rfl (by kernel_rfl) (by kernel_rfl) (by kernel_rfl) (fun _ _ _ h => h) (Or.inl ⟨by rfl, ?y7003⟩) hHeld ?r7003
            case y7003 => (intro w' hSw; (try dsimp only at hSw); go_simp; (try with_reducible rfl))
            try simp only [Act.put, List.setIfInBounds_toArray, List.set_cons_zero, List.set_cons_succ]
            refine wpAnyH_take (i := 3) (oi := { dst := some 41, op := Go.Op.indexAddr 22 (Go.Operand.tmp 39) (Go.Operand.tmp 40), type := 0, pos := "law.go:78", after := #[{ on := 1, ground := Go.Ground.data }, { on := 2, ground := Go.Ground.data }], guard := none }) (v := ?v7004) rfl (by kernel_rfl) (by kernel_rfl) (by kernel_rfl) (fun _ _ _ h => h) (Or.inl ⟨by rfl, ?y7004⟩) hHeld ?r7004
            case y7004 => (intro w' hSw; (try dsimp only at hSw); go_simp; (try with_reducible rfl))
            try simp only [Act.put, List.setIfInBounds_toArray, List.set_cons_zero, List.set_cons_succ]
            refine wpAnyH_take (i := 4) (oi := { dst := some 42, op := Go.Op.load 3 (Go.Operand.tmp 41), type := 3, pos := "law.go:78", after := #[{ on := 3, ground := Go.Ground.data }], guard := none }) (v := ?v7005) rfl (by kernel_rfl) (by kernel_rfl) (by kernel_rfl) (fun _ _ _ h => h) (Or.inl ⟨by rfl, ?y7005⟩) hHeld ?r7005
            case y7005 => (intro w' hSw; (try dsimp only at hSw); go_simp; (try with_reducible rfl))
            try simp only [Act.put, List.setIfInBounds_toArray, List.set_cons_zero, List.set_cons_succ]
            refine wpAnyH_take (i := 5) (oi := { dst := some 43, op := Go.Op.load 33 (Go.Operand.tmp 9), type := 33, pos := "law.go:78", after := #[], guard := none }) (v := ?v7006) rfl (by kernel_rfl) (by kernel_rfl) (by kernel_rfl) (fun _ _ _ h => h) (Or.inl ⟨by rfl, ?y7006⟩) hHeld ?r7006
            case y7006 => (intro w' hSw; (try dsimp only at hSw); go_simp; (try with_reducible rfl))
            try simp only [Act.put, List.setIfInBounds_toArray, List.set_cons_zero, List.set_cons_succ]
            refine wpAnyH_take (i := 7) (oi := { dst := some 45, op := Go.Op.move (Go.Operand.tmp 7), type := 29, pos := "law.go:78", after := #[], guard := none }) (v := ?v7007) rfl (by kernel_rfl) (by kernel_rfl) (by kernel_rfl) (fun _ _ _ h => h) (Or.inl ⟨by rfl, ?y7007⟩) hHeld ?r7007
            case y7007 => (intro w' hSw; (try dsimp only at hSw); go_simp; (try with_reducible rfl))
            try simp only [Act.put, List.setIfInBounds_toArray, List.set_cons_zero, List.set_cons_succ]
            refine wpAnyH_take (i := 8) (oi := { dst := some 46, op := Go.Op.move (Go.Operand.tmp 1), type := 22, pos := "law.go:78", after := #[], guard := none }) (v := ?v7008) rfl (by kernel_rfl) (by kernel_rfl) (by kernel_rfl) (fun _ _ _ h => h) (Or.inl ⟨by rfl, ?y7008⟩) hHeld ?r7008
            case y7008 => (intro w' hSw; (try dsimp only at hSw); go_simp; (try with_reducible rfl))
            try simp only [Act.put, List.setIfInBounds_toArray, List.set_cons_zero, List.set_cons_succ]
            refine wpAnyH_take (i := 9) (oi := { dst := some 47, op := Go.Op.move (Go.Operand.tmp 8), type := 3, pos := "law.go:78", after := #[], guard := none }) (v := ?v7009) rfl (by kernel_rfl) (by kernel_rfl) (by kernel_rfl) (fun _ _ _ h => h) (Or.inl ⟨by rfl, ?y7009⟩) hHeld ?r7009
            case y7009 => (intro w' hSw; (try dsimp only at hSw); go_simp; (try with_reducible rfl))
            try simp only [Act.put, List.setIfInBounds_toArray, List.set_cons_zero, List.set_cons_succ]
            refine wpAnyH_take (i := 10) (oi := { dst := some 48, op := Go.Op.indexAddr 22 (Go.Operand.tmp 46) (Go.Operand.tmp 47), type := 0, pos := "law.go:78", after := #[{ on := 8, ground := Go.Ground.data }, { on := 9, ground := Go.Ground.data }], guard := none }) (v := ?v7010) rfl (by kernel_rfl) (by kernel_rfl) (by kernel_rfl) (fun _ _ _ h => h) (Or.inl ⟨by rfl, ?y7010⟩) hHeld ?r7010
            case y7010 => (intro w' hSw; (try dsimp only at hSw); go_simp; (try with_reducible rfl))
            try simp only [Act.put, List.setIfInBounds_toArray, List.set_cons_zero, List.set_cons_succ]
            refine wpAnyH_take (i := 11) (oi := { dst := some 49, op := Go.Op.load 3 (Go.Operand.tmp 48), type := 3, pos := "law.go:78", after := #[{ on := 10, ground := Go.Ground.data }], guard := none }) (v := ?v7011) rfl (by kernel_rfl) (by kernel_rfl) (by kernel_rfl) (fun _ _ _ h => h) (Or.inl ⟨by rfl, ?y7011⟩) hHeld ?r7011
            case y7011 => (intro w' hSw; (try dsimp only at hSw); go_simp; (try with_reducible rfl))
            try simp only [Act.put, List.setIfInBounds_toArray, List.set_cons_zero, List.set_cons_succ]
            refine wpAnyH_take (i := 12) (oi := { dst := some 50, op := Go.Op.load 33 (Go.Operand.tmp 9), type := 33, pos := "law.go:78", after := #[], guard := none }) (v := ?v7012) rfl (by kernel_rfl) (by kernel_rfl) (by kernel_rfl) (fun _ _ _ h => h) (Or.inl ⟨by rfl, ?y7012⟩) hHeld ?r7012
            case y7012 => (intro w' hSw; (try dsimp only at hSw); go_simp; (try with_reducible rfl))
            try simp only [Act.put, List.setIfInBounds_toArray, List.set_cons_zero, List.set_cons_succ]
            refine wpAnyH_ready (rs := [6]) (by kernel_rfl) (by simp) ?_
            refine AllReadyH.cons (o := { dst := some 44, op := Go.Op.call { callee := Go.Callee.value (Go.Operand.func 9), args := #[Go.Operand.tmp 38, Go.Operand.tmp 42, Go.Operand.tmp 43], argTypes := #[24, 3, 33] }, type := 25, pos := "law.go:78", after := #[{ on := 0, ground := Go.Ground.data }, { on := 4, ground := Go.Ground.data }, { on := 5, ground := Go.Ground.data }], guard := none }) rfl (fun K hK => ?_) ?_
            · go_simp
              refine (put_ok _ _ sl _ _ n _ ⟨[], 0, k⟩ _ T0.out.ring (by rw [HLEN.out]; omega) (by omega) (by omega) hlo (by rw [HLEN.out]; omega) (by rw [HLEN.out]; exact T0.out.free n hlo hhi HM.out) (Row.nil _ _ _) (by simp)).mono ?_
              rintro e w7013 hP7013
              have he7013 := hP7013.1
              subst he7013
              have K7013 := hP7013.2.1
              have P7013 := Lib.hid hP7013
              clear hP7013
              have s7013 := And.intro (K7013.cell s0.1 (by simp only [List.mem_singleton]; assumption)) (And.intro (K7013.cell s0.2.1 (by simp only [List.mem_singleton]; assumption)) (And.intro (K7013.cell s0.2.2.1 (by simp only [List.mem_singleton]; assumption)) (K7013.cell s0.2.2.2 (by simp only [List.mem_singleton]; assumption))))
              have RR7013 := Lib.hid (T0.out.ref.keep K7013 (fun e => T0.out.ring.hs.ne T0.out.ref.hq (by decide) (List.mem_singleton.1 e).symm) (fun b hb cs hc => T0.out.ring.hs.neR ((List.mem_singleton.1 hb) ▸ hc) (by decide) rfl) (fun b hb cs hc => T0.out.ring.hs.neR ((List.mem_singleton.1 hb) ▸ hc) (by decide) rfl) (fun b hb cs hc => T0.out.ring.hs.neR ((List.mem_singleton.1 hb) ▸ hc) (by decide) rfl))
              refine hK.out _ _ ?_ (fun hHeld => ?_)
              · exact s7013
              clear hK K
              try simp only [Act.put, List.setIfInBounds_toArray, List.set_cons_zero, List.set_cons_succ]
              refine wpAnyH_ready (rs := [13]) (by kernel_rfl) (by simp) ?_
              refine AllReadyH.cons (o := { dst := some 51, op := Go.Op.call { callee := Go.Callee.value (Go.Operand.func 10), args := #[Go.Operand.tmp 45, Go.Operand.tmp 49, Go.Operand.tmp 50], argTypes := #[29, 3, 33] }, type := 25, pos := "law.go:78", after := #[{ on := 7, ground := Go.Ground.data }, { on := 11, ground := Go.Ground.data }, { on := 12, ground := Go.Ground.data }, { on := 6, ground := Go.Ground.chain }], guard := none }) rfl (fun K hK => ?_) ?_
              · go_simp
                refine (refPut_ok _ cap _ _ _ _ _ _ n _ ⟨[], 0, k⟩ _ RR7013.out (by simp; omega) (by simp) (by omega) (by omega) (by omega) (by omega) hlo (by omega) HM.out (Row.nil _ _ _) (by simp)).mono ?_
                rintro e w7014 hP7014
                obtain ⟨sl7014, vN7014, vR7014, T70140, KK7014⟩ := Sim.put T0.out hlo hhi HM.out P7013.out hP7014
                obtain ⟨_, _, he7014, K7014, _⟩ := hP7014
                subst he7014
                have s7014 := And.intro (K7014.cell s7013.1 (by simp only [List.mem_singleton]; assumption)) (And.intro (K7014.cell s7013.2.1 (by simp only [List.mem_singleton]; assumption)) (And.intro (K7014.cell s7013.2.2.1 (by simp only [List.mem_singleton]; assumption)) (K7014.cell s7013.2.2.2 (by simp only [List.mem_singleton]; assumption))))
                have hcnt7014 := T70140.count
                obtain ⟨N7014, hN7014⟩ : ∃ N : Nat, ((put st n ⟨[], 0, k⟩).map (·.1)).length = N := ⟨_, rfl⟩
                have hNb7014 : N7014 ≤ 100 := by rw [← hN7014, List.length_map]; omega
                obtain ⟨AN7014, cN7014, rfl, _, _⟩ := Row.slice (Row.cast T70140.ref.hN hN7014)
                have HN7014 := Lib.hid hN7014
                clear hN7014
                have HL7014 := Lib.hid T70140.len
                have T7014 := Lib.hid T70140
                clear T70140
                have C7014 := Lib.hid (Keep.fresh C0.out KK7014 (by intro b hb; simp only [List.mem_cons, List.not_mem_nil, or_false] at hb; omega))
                have q7014 := T7014.out.ref.hq.cell 3 _ rfl
                refine hK.out _ _ ?_ (fun hHeld => ?_)
                · exact s7014
                clear hK K
                try simp only [Act.put, List.setIfInBounds_toArray, List.set_cons_zero, List.set_cons_succ]
                refine wpAnyH_take (i := 14) (oi := { dst := some 52, op := Go.Op.binOp Go.BinOp.neq 25 (Go.Operand.tmp 44) (Go.Operand.tmp 51) 25, type := 4, pos := "law.go:78", after := #[{ on := 6, ground := Go.Ground.data }, { on := 13, ground := Go.Ground.data }], guard := none }) (v := ?v7015) rfl (by kernel_rfl) (by kernel_rfl) (by kernel_rfl) (fun _ _ _ h => h) (Or.inl ⟨by rfl, ?y7015⟩) hHeld ?r7015
                case y7015 => (intro w' hSw; (try dsimp only at hSw); go_simp; (try with_reducible rfl))
                try simp only [Act.put, List.setIfInBounds_toArray, List.set_cons_zero, List.set_cons_succ]
                refine wpAnyH_take (i := 15) (oi := { dst := some 53, op := Go.Op.move (Go.Operand.tmp 52), type := 4, pos := "law.go:78", after := #[{ on := 14, ground := Go.Ground.data }, { on := 13, ground := Go.Ground.chain }], guard := none }) (v := ?v7016) rfl (by kernel_rfl) (by kernel_rfl) (by kernel_rfl) (fun _ _ _ h => h) (Or.inl ⟨by rfl, ?y7016⟩) hHeld ?r7016
                case y7016 => (intro w' hSw; (try dsimp only at hSw); go_simp; (try with_reducible rfl))
                try simp only [Act.put, List.setIfInBounds_toArray, List.set_cons_zero, List.set_cons_succ]
                refine wpAnyH_take (i := 16) (oi := { dst := some 54, op := Go.Op.move (Go.Operand.tmp 5), type := 24, pos := "law.go:78", after := #[{ on := 15, ground := Go.Ground.guard }], guard := some (15, false) }) (v := ?v7017) rfl (by kernel_rfl) (by kernel_rfl) (by kernel_rfl) (fun _ _ _ h => h) (Or.inl ⟨by rfl, ?y7017⟩) hHeld ?r7017
                case y7017 => (intro w' hSw; (try dsimp only at hSw); go_simp; (try with_reducible rfl))
                try simp only [Act.put, List.setIfInBounds_toArray, List.set_cons_zero, List.set_cons_succ]
                refine wpAnyH_take (i := 18) (oi := { dst := some 56, op := Go.Op.move (Go.Operand.tmp 7), type := 29, pos := "law.go:78", after := #[{ on := 15, ground := Go.Ground.guard }], guard := some (15, false) }) (v := ?v7018) rfl (by kernel_rfl) (by kernel_rfl) (by kernel_rfl) (fun _ _ _ h => h) (Or.inl ⟨by rfl, ?y7018⟩) hHeld ?r7018
                case y7018 => (intro w' hSw; (try dsimp only at hSw); go_simp; (try with_reducible rfl))
                try simp only [Act.put, List.setIfInBounds_toArray, List.set_cons_zero, List.set_cons_succ]
                refine wpAnyH_take (i := 19) (oi := { dst := some 57, op := Go.Op.nilCheck (Go.Operand.tmp 56), type := 0, pos := "law.go:78", after := #[{ on := 18, ground := Go.Ground.data }, { on := 15, ground := Go.Ground.guard }], guard := some (15, false) }) (v := ?v7019) rfl (by kernel_rfl) (by kernel_rfl) (by kernel_rfl) (fun _ _ _ h => h) (Or.inl ⟨by rfl, ?y7019⟩) hHeld ?r7019
                case y7019 => (intro w' hSw; (try dsimp only at hSw); go_simp; (try with_reducible rfl))
                try simp only [Act.put, List.setIfInBounds_toArray, List.set_cons_zero, List.set_cons_succ]
                refine wpAnyH_take (i := 20) (oi := { dst := some 58, op := Go.Op.fieldAddr 39 (Go.Operand.tmp 57) 3, type := 0, pos := "law.go:78", after := #[{ on := 19, ground := Go.Ground.data }, { on := 15, ground := Go.Ground.guard }], guard := some (15, false) }) (v := ?v7020) rfl (by kernel_rfl) (by kernel_rfl) (by kernel_rfl) (fun _ _ _ h => h) (Or.inl ⟨by rfl, ?y7020⟩) hHeld ?r7020
                case y7020 => (intro w' hSw; (try dsimp only at hSw); go_simp; (try with_reducible rfl))
                try simp only [Act.put, List.setIfInBounds_toArray, List.set_cons_zero, List.set_cons_succ]
                refine wpAnyH_ready (rs := [17, 21]) (by kernel_rfl) (by simp) ?_
                refine AllReadyH.cons (o := { dst := some 55, op := Go.Op.call { callee := Go.Callee.value (Go.Operand.func 12), args := #[Go.Operand.tmp 54], argTypes := #[24] }, type := 22, pos := "law.go:78", after := #[{ on := 16, ground := Go.Ground.data }, { on := 15, ground := Go.Ground.chain }, { on := 15, ground := Go.Ground.guard }], guard := some (15, false) }) rfl (fun K hK => ?_) ?_
                · go_simp
                  refine (held_any _ _ sl7014 1 _ _ T7014.out.ring (by rw [HL7014.out]; omega) (by rw [HL7014.out]; omega) (by omega)).mono ?_
                  rintro e w7021 ⟨vh7021, rfl, H7021, K7021⟩
                  have s7021 := And.intro (K7021.cell s7014.1 (by simp)) (And.intro (K7021.cell s7014.2.1 (by simp)) (And.intro (K7021.cell s7014.2.2.1 (by simp)) (K7021.cell s7014.2.2.2 (by simp))))
                  rw [T7014.out.held] at H7021
                  have C7021 := Lib.hid (C7014.out.trans K7021)
                  have T7021 := Lib.hid (T7014.out.keep K7021)
                  have q7021 := T7021.out.ref.hq.cell 3 _ rfl
                  have H7021 := Row.cast H7021 HN7014.out
                  obtain ⟨AH7021, cH7021, rfl, _, _⟩ := Row.slice H7021
                  have HH7021 := Lib.hid H7021
                  clear H7021
                  refine hK.out _ _ ?_ (fun hHeld => ?_)
                  · exact s7021
                  clear hK K
                  try simp only [Act.put, List.setIfInBounds_toArray, List.set_cons_zero, List.set_cons_succ]
                  refine wpAnyH_ready (rs := [21]) (by kernel_rfl) (by simp) ?_
                  refine AllReadyH.cons (o := { dst := some 59, op := Go.Op.load 22 (Go.Operand.tmp 58), type := 22, pos := "law.go:78", after := #[{ on := 20, ground := Go.Ground.data }, { on := 15, ground := Go.Ground.guard }], guard := some (15, false) }) rfl (fun K hK => ?_) ?_
                  · go_simp
                    refine hK.out _ _ ?_ (fun hHeld => ?_)
                    · exact s7021
                    clear hK K
                    try simp only [Act.put, List.setIfInBounds_toArray, List.set_cons_zero, List.set_cons_succ]
                    refine wpAnyH_ready (rs := [22]) (by kernel_rfl) (by simp) ?_
                    refine AllReadyH.cons (o := { dst := some 60, op := Go.Op.call { callee := Go.Callee.value (Go.Operand.func 11), args := #[Go.Operand.tmp 55, Go.Operand.tmp 59], argTypes := #[22, 22] }, type := 4, pos := "law.go:78", after := #[{ on := 17, ground := Go.Ground.data }, { on := 21, ground := Go.Ground.data }, { on := 17, ground := Go.Ground.chain }, { on := 15, ground := Go.Ground.guard }], guard := some (15, false) }) rfl (fun K hK => ?_) ?_
                    · go_simp
                      refine (ints_any _ _ _ _ _ _ _ _ true (decide_eq_true rfl).symm _ HH7021.out (Row.cast T7021.out.ref.hN HN7014.out) (by omega) (by omega)).mono ?_
                      rintro e w7023 ⟨rfl, m7023, rfl⟩
                      have T7023 := Lib.hid (T7021.out.keep ((Keep.refl [] _).drewN m7023))
                      have C7023 := Lib.hid (C7021.out.drewN m7023)
                      refine hK.out _ _ ?_ (fun hHeld => ?_)
                      · exact s7021
                      clear hK K
                      try simp only [Act.put, List.setIfInBounds_toArray, List.set_cons_zero, List.set_cons_succ]
                      refine wpAnyH_take (i := 23) (oi := { dst := some 61, op := Go.Op.unOp Go.UnOp.not 4 (Go.Operand.tmp 60), type := 4, pos := "law.go:78", after := #[{ on := 22, ground := Go.Ground.data }, { on := 15, ground := Go.Ground.guard }], guard := some (15, false) }) (v := ?v7024) rfl (by kernel_rfl) (by kernel_rfl) (by kernel_rfl) (fun _ _ _ h => h) (Or.inl ⟨by rfl, ?y7024⟩) hHeld ?r7024
                      case y7024 => (intro w' hSw; (try dsimp only at hSw); go_simp; (try with_reducible rfl))
                      try simp only [Act.put, List.setIfInBounds_toArray, List.set_cons_zero, List.set_cons_succ]
                      refine wpAnyH_take (i := 24) (oi := { dst := some 62, op := Go.Op.pick (Go.Operand.tmp 53) (Go.Operand.const (Go.Value.bool true)) (Go.Operand.tmp 61), type := 4, pos := "law.go:78", after := #[{ on := 15, ground := Go.Ground.data }, { on := 23, ground := Go.Ground.data }], guard := none }) (v := ?v7025) rfl (by kernel_rfl) (by kernel_rfl) (by kernel_rfl) (fun _ _ _ h => h) (Or.inl ⟨by rfl, ?y7025⟩) hHeld ?r7025
                      case y7025 => (intro w' hSw; (try dsimp only at hSw); go_simp; (try with_reducible rfl))
                      try simp only [Act.put, List.setIfInBounds_toArray, List.set_cons_zero, List.set_cons_succ]
                      refine wpAnyH_done (by kernel_rfl) ?_ _
                      clear hHeld s0
                      go_wp2_with fail
                      go_roundw
                      case rel => exact ⟨k + 1, _, _, _, _, by omega, by go_num, T7023.out, C7023.out⟩
                      case measure => simp [intOf]; omega
                    exact AllReadyH.nil
                  exact AllReadyH.nil
                refine AllReadyH.cons (o := { dst := some 59, op := Go.Op.load 22 (Go.Operand.tmp 58), type := 22, pos := "law.go:78", after := #[{ on := 20, ground := Go.Ground.data }, { on := 15, ground := Go.Ground.guard }], guard := some (15, false) }) rfl (fun K hK => ?_) ?_
                · go_simp
                  refine hK.out _ _ ?_ (fun hHeld => ?_)
                  · exact s7014
                  clear hK K
                  try simp only [Act.put, List.setIfInBounds_toArray, List.set_cons_zero, List.set_cons_succ]
                  refine wpAnyH_ready (rs := [17]) (by kernel_rfl) (by simp) ?_
                  refine AllReadyH.cons (o := { dst := some 55, op := Go.Op.call { callee := Go.Callee.value (Go.Operand.func 12), args := #[Go.Operand.tmp 54], argTypes := #[24] }, type := 22, pos := "law.go:78", after := #[{ on := 16, ground := Go.Ground.data }, { on := 15, ground := Go.Ground.chain }, { on := 15, ground := Go.Ground.guard }], guard := some (15, false) }) rfl (fun K hK => ?_) ?_
                  · go_simp
                    refine (held_any _ _ sl7014 1 _ _ T7014.out.ring (by rw [HL7014.out]; omega) (by rw [HL7014.out]; omega) (by omega)).mono ?_
                    rintro e w7027 ⟨vh7027, rfl, H7027, K7027⟩
                    have s7027 := And.intro (K7027.cell s7014.1 (by simp)) (And.intro (K7027.cell s7014.2.1 (by simp)) (And.intro (K7027.cell s7014.2.2.1 (by simp)) (K7027.cell s7014.2.2.2 (by simp))))
                    rw [T7014.out.held] at H7027
                    have C7027 := Lib.hid (C7014.out.trans K7027)
                    have T7027 := Lib.hid (T7014.out.keep K7027)
                    have q7027 := T7027.out.ref.hq.cell 3 _ rfl
                    have H7027 := Row.cast H7027 HN7014.out
                    obtain ⟨AH7027, cH7027, rfl, _, _⟩ := Row.slice H7027
                    have HH7027 := Lib.hid H7027
                    clear H7027
                    refine hK.out _ _ ?_ (fun hHeld => ?_)
                    · exact s7027
                    clear hK K
                    try simp only [Act.put, List.setIfInBounds_toArray, List.set_cons_zero, List.set_cons_succ]
                    refine wpAnyH_ready (rs := [22]) (by kernel_rfl) (by simp) ?_
                    refine AllReadyH.cons (o := { dst := some 60, op := Go.Op.call { callee := Go.Callee.value (Go.Operand.func 11), args := #[Go.Operand.tmp 55, Go.Operand.tmp 59], argTypes := #[22, 22] }, type := 4, pos := "law.go:78", after := #[{ on := 17, ground := Go.Ground.data }, { on := 21, ground := Go.Ground.data }, { on := 17, ground := Go.Ground.chain }, { on := 15, ground := Go.Ground.guard }], guard := some (15, false) }) rfl (fun K hK => ?_) ?_
                    · go_simp
                      refine (ints_any _ _ _ _ _ _ _ _ true (decide_eq_true rfl).symm _ HH7027.out (Row.cast T7027.out.ref.hN HN7014.out) (by omega) (by omega)).mono ?_
                      rintro e w7028 ⟨rfl, m7028, rfl⟩
                      have T7028 := Lib.hid (T7027.out.keep ((Keep.refl [] _).drewN m7028))
                      have C7028 := Lib.hid (C7027.out.drewN m7028)
                      refine hK.out _ _ ?_ (fun hHeld => ?_)
                      · exact s7027
                      clear hK K
                      try simp only [Act.put, List.setIfInBounds_toArray, List.set_cons_zero, List.set_cons_succ]
                      refine wpAnyH_take (i := 23) (oi := { dst := some 61, op := Go.Op.unOp Go.UnOp.not 4 (Go.Operand.tmp 60), type := 4, pos := "law.go:78", after := #[{ on := 22, ground := Go.Ground.data }, { on := 15, ground := Go.Ground.guard }], guard := some (15, false) }) (v := ?v7029) rfl (by kernel_rfl) (by kernel_rfl) (by kernel_rfl) (fun _ _ _ h => h) (Or.inl ⟨by rfl, ?y7029⟩) hHeld ?r7029
                      case y7029 => (intro w' hSw; (try dsimp only at hSw); go_simp; (try with_reducible rfl))
                      try simp only [Act.put, List.setIfInBounds_toArray, List.set_cons_zero, List.set_cons_succ]
                      refine wpAnyH_take (i := 24) (oi := { dst := some 62, op := Go.Op.pick (Go.Operand.tmp 53) (Go.Operand.const (Go.Value.bool true)) (Go.Operand.tmp 61), type := 4, pos := "law.go:78", after := #[{ on := 15, ground := Go.Ground.data }, { on := 23, ground := Go.Ground.data }], guard := none }) (v := ?v7030) rfl (by kernel_rfl) (by kernel_rfl) (by kernel_rfl) (fun _ _ _ h => h) (Or.inl ⟨by rfl, ?y7030⟩) hHeld ?r7030
                      case y7030 => (intro w' hSw; (try dsimp only at hSw); go_simp; (try with_reducible rfl))
                      try simp only [Act.put, List.setIfInBounds_toArray, List.set_cons_zero, List.set_cons_succ]
                      refine wpAnyH_done (by kernel_rfl) ?_ _
                      clear hHeld s0
                      go_wp2_with fail
                      go_roundw
                      case rel => exact ⟨k + 1, _, _, _, _, by omega, by go_num, T7028.out, C7028.out⟩
                      case measure => simp [intOf]; omega
                    exact AllReadyH.nil
                  exact AllReadyH.nil
                exact AllReadyH.nil
              exact AllReadyH.nil
            exact AllReadyH.nil
      · have hk2 : k = xs.length := by omega
        subst hk2
        go_wp2_with fail
        refine (HAW.out _).mono ?_
        rintro e w2 ⟨rfl, K⟩
        go_wp2_with fail
        go_ret
        exact ⟨rfl, hK.trans K⟩
  · have hl' : 40 < xs.length := by omega
    go_enter Try.func3, Try.ntmps3
    go_wp2_with fail
    refine (mod_any cp 64 _ (by omega) (by omega) hcp.1 hcp.2).mono ?_
    rintro e w' ⟨rfl, rfl⟩
    go_wp2_with fail
    rw [HC.out]
    refine (ring_new_yes cap _ hcap1 hcap2).mono ?_
    rintro e w1 ⟨rfl, rfl⟩
    go_wp2_with fail
    refine (HAW.out _).mono ?_
    rintro e w2 ⟨rfl, K⟩
    go_wp2_with fail
    go_ret
    exact ⟨rfl, (((Keep.refl [] _).alloc _).alloc _).trans K⟩
end Go.Proofs.Ytinanoclnlcilaa
