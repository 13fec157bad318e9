/- RingSteps: the walk. -/
import Derived.Test.YtinanoclnlcilaaTakes
import Derived.Deep.DeepCutAuto
import Derived.Deep.CutBlock
import Derived.Deep.RegionHeld3
namespace Go.Proofs.Ytinanoclnlcilaa
open Go.RowKit
set_option linter.unusedVariables false

set_option maxHeartbeats 4000000 in
set_option maxRecDepth 100000 in
theorem steps_any (cp : Int) (A : Option Addr) (c : Nat) (xs : List Int) (w : World) (hX : ArgRow w A xs) (hcp : -9223372036854775808 ≤ cp ∧ cp ≤ 9223372036854775807) (hwf : ∀ x ∈ xs, -9223372036854775808 ≤ x ∧ x ≤ 9223372036854775807) (hmax : xs.length ≤ 9223372036854775807) :
    Calls Try.prog 4 #[.int .i64 cp, .slice A xs.length c] w fun e w' => e = .returned (.bool true) ∧ Keep [] w w' := by
  have HX := Lib.hid hX
  have HW := Lib.hid hwf
  clear hX hwf
  by_cases hl : xs.length ≤ 60
  · by_cases hc1 : cp < 1
    · go_enter Try.func4, Try.ntmps4
      go_wp2_with fail
      refine (ring_new_no cp _ (Or.inl hc1)).mono ?_
      rintro e w' ⟨rfl, rfl⟩
      go_wp2_with fail
      refine (awake_any _).mono ?_
      rintro e w2 ⟨rfl, K⟩
      go_wp2_with fail
      go_ret
      exact ⟨rfl, K⟩
    · by_cases hc2 : 64 < cp
      · go_enter Try.func4, Try.ntmps4
        go_wp2_with fail
        refine (ring_new_no cp _ (Or.inr hc2)).mono ?_
        rintro e w' ⟨rfl, rfl⟩
        go_wp2_with fail
        refine (awake_any _).mono ?_
        rintro e w2 ⟨rfl, K⟩
        go_wp2_with fail
        go_ret
        exact ⟨rfl, K⟩
      · obtain ⟨cap, rfl⟩ : ∃ cap : Nat, cp = (cap : Int) := ⟨cp.toNat, by omega⟩
        have hcap1 : 1 ≤ cap := by omega
        have hcap2 : cap ≤ 64 := by omega
        have hsim := Lib.hid (Sim.start cap w hcap1 hcap2)
        have hK0 := Lib.hid ((((Keep.refl [] w).alloc _).alloc _).alloc _ : Keep [] w (((w.alloc (.cells (madeCells #[.pointer none] cap) 49)).alloc (.cells #[.slice (some ⟨w.heap.size, 0, none⟩) cap cap, .int .i64 1, .int .i64 cap] 48)).alloc (.cells #[.int .i64 cap, .int .i64 1, .int .i64 cap, .slice none 0 0, .slice none 0 0] 39)))
        go_enter Try.func4, Try.ntmps4
        go_wp2_with fail
        refine (ring_new_yes cap _ hcap1 hcap2).mono ?_
        rintro e w' ⟨rfl, rfl⟩
        go_wp2_with fail
        refine (ref_new _ _).mono ?_
        rintro e w1 ⟨rfl, rfl⟩
        go_wp2_with fail
        go_loopw [8] (fun i wr => ∃ (k nx : Nat) (cr : Int) (sl : List (Option Nat)) (vN vR : Value) (st : List (Int × Res)), k ≤ xs.length ∧ i = .int .i64 k ∧ nx ≤ k + 1 ∧ Sim wr (w.heap.size + 1) w.heap.size (w.heap.size + 1 + 1) cap nx cr sl vN vR st ∧ Keep [] w wr) (fun i _ => xs.length - (intOf i).toNat)
        case atStart => exact ⟨0, 1, _, _, _, _, _, Nat.zero_le _, rfl, by omega, hsim.out, hK0.out⟩
        case round =>
          obtain ⟨k, nx, cr, sl, vN, vR, st, hk, rfl, hnx, hS, hK⟩ := hrel
          clear hsim hK0
          by_cases hlt : k < xs.length
          · obtain ⟨g, off, rfl, hc⟩ := HX.out k xs[k] (by simp [hlt])
            have hwfk := HW.out xs[k] (List.getElem_mem hlt)
            obtain ⟨x, hx⟩ : ∃ x, x = xs[k] := ⟨_, rfl⟩
            rw [← hx] at hc hwfk
            clear hx
            have hc1 := hK.cell hc (by simp)
            have HS := Lib.hid hS
            have HK := Lib.hid hK
            have m1 := Int.emod_nonneg x (show (10 : Int) ≠ 0 by omega)
            have m2 := Int.emod_lt_of_pos x (show (0 : Int) < 10 by omega)
            obtain ⟨m, hm⟩ : ∃ m, m = x % 10 := ⟨_, rfl⟩
            rw [← hm] at m1 m2
            have HM := Lib.hid hm
            clear hS hK hc hm
            go_upto_block 2 with (go_at_call 5; refine (mod_any x 10 _ (by omega) (by omega) hwfk.1 hwfk.2).mono ?_; rintro e w1 ⟨rfl, rfl⟩; rw [← HM.out])

            go_cut [] (fun wc => ∃ (nx : Nat) (cr : Int) (sl : List (Option Nat)) (vN vR : Value) (st : List (Int × Res)), nx ≤ k + 2 ∧ Sim wc (w.heap.size + 1) w.heap.size (w.heap.size + 1 + 1) cap nx cr sl vN vR st ∧ Keep [] w wc)
            case first =>
              by_cases hm5 : m < 5
              · have q1 := HS.out.ref.hq.cell 1 _ rfl
                have d1 : -9223372036854775808 ≤ x.tdiv 10 ∧ x.tdiv 10 ≤ 9223372036854775807 := by
                  rw [tdiv_eq_if]
                  split
                  · rename_i hx; have := IntWalk.tdiv_le x 10 hx (by omega); omega
                  · have := IntWalk.tdiv_le (-x) 10 (by omega) (by omega); omega
                have e1 := Int.emod_nonneg (x.tdiv 10) (show ((cap : Int) + 2) ≠ 0 by omega)
                have e2 := Int.emod_lt_of_pos (x.tdiv 10) (show (0 : Int) < (cap : Int) + 2 by omega)
                go_wp2_with fail
                go_quiet (first | (go_at_call 5; refine Calls.quiet_of_same (mod_any _ _ _ (by omega) (by omega) (by omega) (by omega))))
                go_wp2_with fail
                -- REGION 18
                generalize hn : (nx : Int) + x.tdiv 10 % ((cap : Int) + 2) - 1 = n
                have hn1 : -1 ≤ n ∧ n ≤ 200 := by omega
                clear hn e1 e2 d1 q1 HM hwfk
                have hS1 := HS.out.keep ((((Keep.refl [] w1).drewN nq).alloc (.cells #[.int .u8 k] 5)).alloc (.cells #[.slice (some ⟨w1.heap.size, 0, none⟩) 1 1, .int .i64 ((k : Int) % 5), .int .i64 k] 33))
                have HK1 := Lib.hid (HK.out.trans ((((Keep.refl [] w1).drewN nq).alloc (.cells #[.int .u8 k] 5)).alloc (.cells #[.slice (some ⟨w1.heap.size, 0, none⟩) 1 1, .int .i64 ((k : Int) % 5), .int .i64 k] 33)))
                have hy : ByteRow (((w1.drewN nq).alloc (.cells #[.int .u8 k] 5)).alloc (.cells #[.slice (some ⟨w1.heap.size, 0, none⟩) 1 1, .int .i64 ((k : Int) % 5), .int .i64 k] 33)) (.slice (some ⟨w1.heap.size, 0, none⟩) 1 1) [(k : Int)] := Row.keep0 (const_row (w1.drewN nq) k (0, 0)) ((Keep.refl [] _).alloc _)
                have hx0 : ¬ w1.heap.size + 1 = w.heap.size := by have := HS.out.ring.hs.lt; omega
                have hx1 : ¬ w1.heap.size + 1 = w.heap.size + 1 := by have := HS.out.ring.hr.lt; omega
                have hx2 : ¬ w1.heap.size + 1 = w.heap.size + 1 + 1 := by have := HS.out.ref.hq.lt; omega
                have hz : ((w1.drewN nq).alloc (.cells #[.int .u8 k] 5)).heap.size = w1.heap.size + 1 := by rw [World.size_alloc]; rfl
                have s0 : (((w1.drewN nq).alloc (.cells #[.int .u8 k] 5)).alloc (.cells #[.slice (some ⟨w1.heap.size, 0, none⟩) 1 1, .int .i64 ((k : Int) % 5), .int .i64 k] 33)).cell? ⟨w1.heap.size + 1, 0, none⟩ = some (.slice (some ⟨w1.heap.size, 0, none⟩) 1 1) ∧ (((w1.drewN nq).alloc (.cells #[.int .u8 k] 5)).alloc (.cells #[.slice (some ⟨w1.heap.size, 0, none⟩) 1 1, .int .i64 ((k : Int) % 5), .int .i64 k] 33)).cell? ⟨w1.heap.size + 1, 1, none⟩ = some (.int .i64 ((k : Int) % 5)) ∧ (((w1.drewN nq).alloc (.cells #[.int .u8 k] 5)).alloc (.cells #[.slice (some ⟨w1.heap.size, 0, none⟩) 1 1, .int .i64 ((k : Int) % 5), .int .i64 k] 33)).cell? ⟨w1.heap.size + 1, 2, none⟩ = some (.int .i64 k) :=
                  ⟨by rw [← hz]; exact (Blk.new ((w1.drewN nq).alloc (.cells #[.int .u8 k] 5)) #[.slice (some ⟨w1.heap.size, 0, none⟩) 1 1, .int .i64 ((k : Int) % 5), .int .i64 k] 33).cell 0 _ rfl, by rw [← hz]; exact (Blk.new ((w1.drewN nq).alloc (.cells #[.int .u8 k] 5)) #[.slice (some ⟨w1.heap.size, 0, none⟩) 1 1, .int .i64 ((k : Int) % 5), .int .i64 k] 33).cell 1 _ rfl, by rw [← hz]; exact (Blk.new ((w1.drewN nq).alloc (.cells #[.int .u8 k] 5)) #[.slice (some ⟨w1.heap.size, 0, none⟩) 1 1, .int .i64 ((k : Int) % 5), .int .i64 k] 33).cell 2 _ rfl⟩
                generalize hWW : ((w1.drewN nq).alloc (.cells #[.int .u8 k] 5)).alloc (.cells #[.slice (some ⟨w1.heap.size, 0, none⟩) 1 1, .int .i64 ((k : Int) % 5), .int .i64 k] 33) = W at hS1 HK1 s0 hy
                have HWW := Lib.hid hWW
                clear hWW
                have hlen := hS1.len
                have hcnt := hS1.count
                have hnx0 := hS1.nx0
                have T0 := Lib.hid (hS1.keep ((Keep.refl [] W).drew))
                have Y0 := Lib.hid (Row.keep0 hy ((Keep.refl [] W).drew))
                have C0 := Lib.hid HK1.out.drew
                have HLEN := Lib.hid hlen
                clear hS1 hlen hy HS HK HK1
                by_cases h1 : n < nx ∨ (cap : Int) ≤ n - nx
                · have H1 := Lib.hid h1
                  clear h1
                  refine wp_region_held_drew (S := fun v : World => v.cell? ⟨w1.heap.size + 1, 0, none⟩ = some (.slice (some ⟨w1.heap.size, 0, none⟩) 1 1) ∧ v.cell? ⟨w1.heap.size + 1, 1, none⟩ = some (.int .i64 ((k : Int) % 5)) ∧ v.cell? ⟨w1.heap.size + 1, 2, none⟩ = some (.int .i64 k)) (by kernel_rfl) s0 (fun hHeld => ?_)
                  change wpAnyH _ _ _ _ _ 9 (Array.replicate 9 false) _ _
                  refine wpAnyH_take (i := 0) (oi := { dst := some 88, op := Go.Op.move (Go.Operand.tmp 5), type := 24, pos := "law.go:44", after := #[], guard := none }) (v := ?v5001) rfl (by kernel_rfl) (by kernel_rfl) (by kernel_rfl) (fun _ _ _ h => h) (Or.inl ⟨by rfl, ?y5001⟩) hHeld ?r5001
                  case y5001 => (intro w' hSw; (try dsimp only at hSw); go_simp; (try with_reducible rfl))
                  try simp only [Act.put, List.setIfInBounds_toArray, List.set_cons_zero, List.set_cons_succ]
                  refine wpAnyH_take (i := 1) (oi := { dst := some 89, op := Go.Op.move (Go.Operand.tmp 10), type := 3, pos := "law.go:44", after := #[], guard := none }) (v := ?v5002) rfl (by kernel_rfl) (by kernel_rfl) (by kernel_rfl) (fun _ _ _ h => h) (Or.inl ⟨by rfl, ?y5002⟩) hHeld ?r5002
                  case y5002 => (intro w' hSw; (try dsimp only at hSw); go_simp; (try with_reducible rfl))
                  try simp only [Act.put, List.setIfInBounds_toArray, List.set_cons_zero, List.set_cons_succ]
                  refine wpAnyH_take (i := 2) (oi := { dst := some 90, op := Go.Op.load 33 (Go.Operand.tmp 11), type := 33, pos := "law.go:44", after := #[], guard := none }) (v := ?v5003) rfl (by kernel_rfl) (by kernel_rfl) (by kernel_rfl) (fun _ _ _ h => h) (Or.inl ⟨by rfl, ?y5003⟩) hHeld ?r5003
                  case y5003 => (intro w' hSw; (try dsimp only at hSw); go_simp; (try with_reducible rfl))
                  try simp only [Act.put, List.setIfInBounds_toArray, List.set_cons_zero, List.set_cons_succ]
                  refine wpAnyH_take (i := 4) (oi := { dst := some 92, op := Go.Op.move (Go.Operand.tmp 7), type := 29, pos := "law.go:44", after := #[], guard := none }) (v := ?v5004) rfl (by kernel_rfl) (by kernel_rfl) (by kernel_rfl) (fun _ _ _ h => h) (Or.inl ⟨by rfl, ?y5004⟩) hHeld ?r5004
                  case y5004 => (intro w' hSw; (try dsimp only at hSw); go_simp; (try with_reducible rfl))
                  try simp only [Act.put, List.setIfInBounds_toArray, List.set_cons_zero, List.set_cons_succ]
                  refine wpAnyH_take (i := 5) (oi := { dst := some 93, op := Go.Op.move (Go.Operand.tmp 10), type := 3, pos := "law.go:44", after := #[], guard := none }) (v := ?v5005) rfl (by kernel_rfl) (by kernel_rfl) (by kernel_rfl) (fun _ _ _ h => h) (Or.inl ⟨by rfl, ?y5005⟩) hHeld ?r5005
                  case y5005 => (intro w' hSw; (try dsimp only at hSw); go_simp; (try with_reducible rfl))
                  try simp only [Act.put, List.setIfInBounds_toArray, List.set_cons_zero, List.set_cons_succ]
                  refine wpAnyH_take (i := 6) (oi := { dst := some 94, op := Go.Op.load 33 (Go.Operand.tmp 11), type := 33, pos := "law.go:44", after := #[], guard := none }) (v := ?v5006) rfl (by kernel_rfl) (by kernel_rfl) (by kernel_rfl) (fun _ _ _ h => h) (Or.inl ⟨by rfl, ?y5006⟩) hHeld ?r5006
                  case y5006 => (intro w' hSw; (try dsimp only at hSw); go_simp; (try with_reducible rfl))
                  try simp only [Act.put, List.setIfInBounds_toArray, List.set_cons_zero, List.set_cons_succ]
                  refine wpAnyH_ready (rs := [3]) (by kernel_rfl) (by simp) ?_
                  refine AllReadyH.cons (o := { dst := some 91, op := Go.Op.call { callee := Go.Callee.value (Go.Operand.func 9), args := #[Go.Operand.tmp 88, Go.Operand.tmp 89, Go.Operand.tmp 90], argTypes := #[24, 3, 33] }, type := 25, pos := "law.go:44", after := #[{ on := 0, ground := Go.Ground.data }, { on := 1, ground := Go.Ground.data }, { on := 2, ground := Go.Ground.data }], guard := none }) rfl (fun K hK => ?_) ?_
                  · go_simp
                    refine (put_range _ _ sl _ _ n _ _ _ _ T0.out.ring (by rw [HLEN.out]; omega) (by omega) (by omega) (by omega) (by omega) rfl (by rw [HLEN.out]; exact H1.out)).mono ?_
                    rintro e w5007 ⟨rfl, K5007⟩
                    have s5007 := And.intro (K5007.cell s0.1 (by simp)) (And.intro (K5007.cell s0.2.1 (by simp)) (K5007.cell s0.2.2 (by simp)))
                    have T5007 := Lib.hid (T0.out.keep K5007)
                    have C5007 := Lib.hid (C0.out.trans K5007)
                    refine hK.out _ _ ?_ (fun hHeld => ?_)
                    · exact s5007
                    clear hK K
                    try simp only [Act.put, List.setIfInBounds_toArray, List.set_cons_zero, List.set_cons_succ]
                    refine wpAnyH_ready (rs := [7]) (by kernel_rfl) (by simp) ?_
                    refine AllReadyH.cons (o := { dst := some 95, op := Go.Op.call { callee := Go.Callee.value (Go.Operand.func 10), args := #[Go.Operand.tmp 92, Go.Operand.tmp 93, Go.Operand.tmp 94], argTypes := #[29, 3, 33] }, type := 25, pos := "law.go:44", after := #[{ on := 4, ground := Go.Ground.data }, { on := 5, ground := Go.Ground.data }, { on := 6, ground := Go.Ground.data }, { on := 3, ground := Go.Ground.chain }], guard := none }) rfl (fun K hK => ?_) ?_
                    · go_simp
                      refine (refPut_range _ cap _ _ _ _ _ _ n _ _ _ _ T5007.out.ref (by omega) (by omega) (by omega) (by omega) (by omega) (by omega) rfl H1.out).mono ?_
                      rintro e w5008 ⟨rfl, K5008⟩
                      have s5008 := And.intro (K5008.cell s5007.1 (by simp)) (And.intro (K5008.cell s5007.2.1 (by simp)) (K5008.cell s5007.2.2 (by simp)))
                      have T5008 := Lib.hid (T5007.out.keep K5008)
                      have C5008 := Lib.hid (C5007.out.trans K5008)
                      refine hK.out _ _ ?_ (fun hHeld => ?_)
                      · exact s5008
                      clear hK K
                      try simp only [Act.put, List.setIfInBounds_toArray, List.set_cons_zero, List.set_cons_succ]
                      refine wpAnyH_take (i := 8) (oi := { dst := some 96, op := Go.Op.binOp Go.BinOp.neq 25 (Go.Operand.tmp 91) (Go.Operand.tmp 95) 25, type := 4, pos := "law.go:44", after := #[{ on := 3, ground := Go.Ground.data }, { on := 7, ground := Go.Ground.data }], guard := none }) (v := ?v5009) rfl (by kernel_rfl) (by kernel_rfl) (by kernel_rfl) (fun _ _ _ h => h) (Or.inl ⟨by rfl, ?y5009⟩) hHeld ?r5009
                      case y5009 => (intro w' hSw; (try dsimp only at hSw); go_simp; (try with_reducible rfl))
                      try simp only [Act.put, List.setIfInBounds_toArray, List.set_cons_zero, List.set_cons_succ]
                      refine wpAnyH_done (by kernel_rfl) ?_ _
                      clear hHeld s0
                      go_wp2_with fail
                      go_meet
                      case rel => exact ⟨nx, cr, _, _, _, _, by omega, T5008.out, C5008.out⟩
                    exact AllReadyH.nil
                  exact AllReadyH.nil
                · have hlo : (nx : Int) ≤ n := by omega
                  have hhi : n < nx + (cap : Int) := by omega
                  clear h1
                  by_cases hmem : n ∈ st.map (·.1)
                  · obtain ⟨pp, Hpp⟩ : ∃ pp, Hid (sl[(n % (cap : Int)).toNat]? = some (some pp)) := by
                      obtain ⟨x, hx, rfl⟩ := List.mem_map.1 hmem
                      obtain ⟨p, hp, _⟩ := T0.out.full x hx
                      exact ⟨p, hp⟩
                    have HM3 := Lib.hid hmem
                    clear hmem
                    refine wp_region_held_drew (S := fun v : World => v.cell? ⟨w1.heap.size + 1, 0, none⟩ = some (.slice (some ⟨w1.heap.size, 0, none⟩) 1 1) ∧ v.cell? ⟨w1.heap.size + 1, 1, none⟩ = some (.int .i64 ((k : Int) % 5)) ∧ v.cell? ⟨w1.heap.size + 1, 2, none⟩ = some (.int .i64 k)) (by kernel_rfl) s0 (fun hHeld => ?_)
                    change wpAnyH _ _ _ _ _ 9 (Array.replicate 9 false) _ _
                    refine wpAnyH_take (i := 0) (oi := { dst := some 88, op := Go.Op.move (Go.Operand.tmp 5), type := 24, pos := "law.go:44", after := #[], guard := none }) (v := ?v6001) rfl (by kernel_rfl) (by kernel_rfl) (by kernel_rfl) (fun _ _ _ h => h) (Or.inl ⟨by rfl, ?y6001⟩) hHeld ?r6001
                    case y6001 => (intro w' hSw; (try dsimp only at hSw); go_simp; (try with_reducible rfl))
                    try simp only [Act.put, List.setIfInBounds_toArray, List.set_cons_zero, List.set_cons_succ]
                    refine wpAnyH_take (i := 1) (oi := { dst := some 89, op := Go.Op.move (Go.Operand.tmp 10), type := 3, pos := "law.go:44", after := #[], guard := none }) (v := ?v6002) rfl (by kernel_rfl) (by kernel_rfl) (by kernel_rfl) (fun _ _ _ h => h) (Or.inl ⟨by rfl, ?y6002⟩) hHeld ?r6002
                    case y6002 => (intro w' hSw; (try dsimp only at hSw); go_simp; (try with_reducible rfl))
                    try simp only [Act.put, List.setIfInBounds_toArray, List.set_cons_zero, List.set_cons_succ]
                    refine wpAnyH_take (i := 2) (oi := { dst := some 90, op := Go.Op.load 33 (Go.Operand.tmp 11), type := 33, pos := "law.go:44", after := #[], guard := none }) (v := ?v6003) rfl (by kernel_rfl) (by kernel_rfl) (by kernel_rfl) (fun _ _ _ h => h) (Or.inl ⟨by rfl, ?y6003⟩) hHeld ?r6003
                    case y6003 => (intro w' hSw; (try dsimp only at hSw); go_simp; (try with_reducible rfl))
                    try simp only [Act.put, List.setIfInBounds_toArray, List.set_cons_zero, List.set_cons_succ]
                    refine wpAnyH_take (i := 4) (oi := { dst := some 92, op := Go.Op.move (Go.Operand.tmp 7), type := 29, pos := "law.go:44", after := #[], guard := none }) (v := ?v6004) rfl (by kernel_rfl) (by kernel_rfl) (by kernel_rfl) (fun _ _ _ h => h) (Or.inl ⟨by rfl, ?y6004⟩) hHeld ?r6004
                    case y6004 => (intro w' hSw; (try dsimp only at hSw); go_simp; (try with_reducible rfl))
                    try simp only [Act.put, List.setIfInBounds_toArray, List.set_cons_zero, List.set_cons_succ]
                    refine wpAnyH_take (i := 5) (oi := { dst := some 93, op := Go.Op.move (Go.Operand.tmp 10), type := 3, pos := "law.go:44", after := #[], guard := none }) (v := ?v6005) rfl (by kernel_rfl) (by kernel_rfl) (by kernel_rfl) (fun _ _ _ h => h) (Or.inl ⟨by rfl, ?y6005⟩) hHeld ?r6005
                    case y6005 => (intro w' hSw; (try dsimp only at hSw); go_simp; (try with_reducible rfl))
                    try simp only [Act.put, List.setIfInBounds_toArray, List.set_cons_zero, List.set_cons_succ]
                    refine wpAnyH_take (i := 6) (oi := { dst := some 94, op := Go.Op.load 33 (Go.Operand.tmp 11), type := 33, pos := "law.go:44", after := #[], guard := none }) (v := ?v6006) rfl (by kernel_rfl) (by kernel_rfl) (by kernel_rfl) (fun _ _ _ h => h) (Or.inl ⟨by rfl, ?y6006⟩) hHeld ?r6006
                    case y6006 => (intro w' hSw; (try dsimp only at hSw); go_simp; (try with_reducible rfl))
                    try simp only [Act.put, List.setIfInBounds_toArray, List.set_cons_zero, List.set_cons_succ]
                    refine wpAnyH_ready (rs := [3]) (by kernel_rfl) (by simp) ?_
                    refine AllReadyH.cons (o := { dst := some 91, op := Go.Op.call { callee := Go.Callee.value (Go.Operand.func 9), args := #[Go.Operand.tmp 88, Go.Operand.tmp 89, Go.Operand.tmp 90], argTypes := #[24, 3, 33] }, type := 25, pos := "law.go:44", after := #[{ on := 0, ground := Go.Ground.data }, { on := 1, ground := Go.Ground.data }, { on := 2, ground := Go.Ground.data }], guard := none }) rfl (fun K hK => ?_) ?_
                    · go_simp
                      refine (put_state _ _ sl _ _ n _ _ _ _ T0.out.ring (by rw [HLEN.out]; omega) (by omega) (by omega) hlo (by rw [HLEN.out]; omega) pp (by rw [HLEN.out]; exact Hpp.out) rfl).mono ?_
                      rintro e w6007 ⟨rfl, K6007⟩
                      have s6007 := And.intro (K6007.cell s0.1 (by simp)) (And.intro (K6007.cell s0.2.1 (by simp)) (K6007.cell s0.2.2 (by simp)))
                      have T6007 := Lib.hid (T0.out.keep K6007)
                      have C6007 := Lib.hid (C0.out.trans K6007)
                      refine hK.out _ _ ?_ (fun hHeld => ?_)
                      · exact s6007
                      clear hK K
                      try simp only [Act.put, List.setIfInBounds_toArray, List.set_cons_zero, List.set_cons_succ]
                      refine wpAnyH_ready (rs := [7]) (by kernel_rfl) (by simp) ?_
                      refine AllReadyH.cons (o := { dst := some 95, op := Go.Op.call { callee := Go.Callee.value (Go.Operand.func 10), args := #[Go.Operand.tmp 92, Go.Operand.tmp 93, Go.Operand.tmp 94], argTypes := #[29, 3, 33] }, type := 25, pos := "law.go:44", after := #[{ on := 4, ground := Go.Ground.data }, { on := 5, ground := Go.Ground.data }, { on := 6, ground := Go.Ground.data }, { on := 3, ground := Go.Ground.chain }], guard := none }) rfl (fun K hK => ?_) ?_
                      · go_simp
                        refine (refPut_state _ cap _ _ _ _ _ _ n _ _ _ _ T6007.out.ref (by simp; omega) (by omega) (by omega) (by omega) (by omega) hlo (by omega) rfl HM3.out).mono ?_
                        rintro e w6008 ⟨rfl, K6008⟩
                        have s6008 := And.intro (K6008.cell s6007.1 (by simp)) (And.intro (K6008.cell s6007.2.1 (by simp)) (K6008.cell s6007.2.2 (by simp)))
                        have T6008 := Lib.hid (T6007.out.keep K6008)
                        have C6008 := Lib.hid (C6007.out.trans K6008)
                        refine hK.out _ _ ?_ (fun hHeld => ?_)
                        · exact s6008
                        clear hK K
                        try simp only [Act.put, List.setIfInBounds_toArray, List.set_cons_zero, List.set_cons_succ]
                        refine wpAnyH_take (i := 8) (oi := { dst := some 96, op := Go.Op.binOp Go.BinOp.neq 25 (Go.Operand.tmp 91) (Go.Operand.tmp 95) 25, type := 4, pos := "law.go:44", after := #[{ on := 3, ground := Go.Ground.data }, { on := 7, ground := Go.Ground.data }], guard := none }) (v := ?v6009) rfl (by kernel_rfl) (by kernel_rfl) (by kernel_rfl) (fun _ _ _ h => h) (Or.inl ⟨by rfl, ?y6009⟩) hHeld ?r6009
                        case y6009 => (intro w' hSw; (try dsimp only at hSw); go_simp; (try with_reducible rfl))
                        try simp only [Act.put, List.setIfInBounds_toArray, List.set_cons_zero, List.set_cons_succ]
                        refine wpAnyH_done (by kernel_rfl) ?_ _
                        clear hHeld s0
                        go_wp2_with fail
                        go_meet
                        case rel => exact ⟨nx, cr, _, _, _, _, by omega, T6008.out, C6008.out⟩
                      exact AllReadyH.nil
                    exact AllReadyH.nil
                  · have HM3 := Lib.hid hmem
                    clear hmem
                    refine wp_region_held_drew (S := fun v : World => v.cell? ⟨w1.heap.size + 1, 0, none⟩ = some (.slice (some ⟨w1.heap.size, 0, none⟩) 1 1) ∧ v.cell? ⟨w1.heap.size + 1, 1, none⟩ = some (.int .i64 ((k : Int) % 5)) ∧ v.cell? ⟨w1.heap.size + 1, 2, none⟩ = some (.int .i64 k)) (by kernel_rfl) s0 (fun hHeld => ?_)
                    change wpAnyH _ _ _ _ _ 9 (Array.replicate 9 false) _ _
                    refine wpAnyH_take (i := 0) (oi := { dst := some 88, op := Go.Op.move (Go.Operand.tmp 5), type := 24, pos := "law.go:44", after := #[], guard := none }) (v := ?v7001) rfl (by kernel_rfl) (by kernel_rfl) (by kernel_rfl) (fun _ _ _ h => h) (Or.inl ⟨by rfl, ?y7001⟩) hHeld ?r7001
                    case y7001 => (intro w' hSw; (try dsimp only at hSw); go_simp; (try with_reducible rfl))
                    try simp only [Act.put, List.setIfInBounds_toArray, List.set_cons_zero, List.set_cons_succ]
                    refine wpAnyH_take (i := 1) (oi := { dst := some 89, op := Go.Op.move (Go.Operand.tmp 10), type := 3, pos := "law.go:44", after := #[], guard := none }) (v := ?v7002) rfl (by kernel_rfl) (by kernel_rfl) (by kernel_rfl) (fun _ _ _ h => h) (Or.inl ⟨by rfl, ?y7002⟩) hHeld ?r7002
                    case y7002 => (intro w' hSw; (try dsimp only at hSw); go_simp; (try with_reducible rfl))
                    try simp only [Act.put, List.setIfInBounds_toArray, List.set_cons_zero, List.set_cons_succ]
                    refine wpAnyH_take (i := 2) (oi := { dst := some 90, op := Go.Op.load 33 (Go.Operand.tmp 11), type := 33, pos := "law.go:44", after := #[], guard := none }) (v := ?v7003) rfl (by kernel_rfl) (by kernel_rfl) (by kernel_rfl) (fun _ _ _ h => h) (Or.inl ⟨by rfl, ?y7003⟩) hHeld ?r7003
                    case y7003 => (intro w' hSw; (try dsimp only at hSw); go_simp; (try with_reducible rfl))
                    try simp only [Act.put, List.setIfInBounds_toArray, List.set_cons_zero, List.set_cons_succ]
                    refine wpAnyH_take (i := 4) (oi := { dst := some 92, op := Go.Op.move (Go.Operand.tmp 7), type := 29, pos := "law.go:44", after := #[], guard := none }) (v := ?v7004) rfl (by kernel_rfl) (by kernel_rfl) (by kernel_rfl) (fun _ _ _ h => h) (Or.inl ⟨by rfl, ?y7004⟩) hHeld ?r7004
                    case y7004 => (intro w' hSw; (try dsimp only at hSw); go_simp; (try with_reducible rfl))
                    try simp only [Act.put, List.setIfInBounds_toArray, List.set_cons_zero, List.set_cons_succ]
                    refine wpAnyH_take (i := 5) (oi := { dst := some 93, op := Go.Op.move (Go.Operand.tmp 10), type := 3, pos := "law.go:44", after := #[], guard := none }) (v := ?v7005) rfl (by kernel_rfl) (by kernel_rfl) (by kernel_rfl) (fun _ _ _ h => h) (Or.inl ⟨by rfl, ?y7005⟩) hHeld ?r7005
                    case y7005 => (intro w' hSw; (try dsimp only at hSw); go_simp; (try with_reducible rfl))
                    try simp only [Act.put, List.setIfInBounds_toArray, List.set_cons_zero, List.set_cons_succ]
                    refine wpAnyH_take (i := 6) (oi := { dst := some 94, op := Go.Op.load 33 (Go.Operand.tmp 11), type := 33, pos := "law.go:44", after := #[], guard := none }) (v := ?v7006) rfl (by kernel_rfl) (by kernel_rfl) (by kernel_rfl) (fun _ _ _ h => h) (Or.inl ⟨by rfl, ?y7006⟩) hHeld ?r7006
                    case y7006 => (intro w' hSw; (try dsimp only at hSw); go_simp; (try with_reducible rfl))
                    try simp only [Act.put, List.setIfInBounds_toArray, List.set_cons_zero, List.set_cons_succ]
                    refine wpAnyH_ready (rs := [3]) (by kernel_rfl) (by simp) ?_
                    refine AllReadyH.cons (o := { dst := some 91, op := Go.Op.call { callee := Go.Callee.value (Go.Operand.func 9), args := #[Go.Operand.tmp 88, Go.Operand.tmp 89, Go.Operand.tmp 90], argTypes := #[24, 3, 33] }, type := 25, pos := "law.go:44", after := #[{ on := 0, ground := Go.Ground.data }, { on := 1, ground := Go.Ground.data }, { on := 2, ground := Go.Ground.data }], guard := none }) rfl (fun K hK => ?_) ?_
                    · go_simp
                      refine (put_ok _ _ sl _ _ n _ ⟨[(k : Int)], (k : Int) % 5, k⟩ _ T0.out.ring (by rw [HLEN.out]; omega) (by omega) (by omega) hlo (by rw [HLEN.out]; omega) (by rw [HLEN.out]; exact T0.out.free n hlo hhi HM3.out) Y0.out (by simp)).mono ?_
                      rintro e w7007 hP7007
                      have he7007 := hP7007.1
                      subst he7007
                      have K7007 := hP7007.2.1
                      have P7007 := Lib.hid hP7007
                      clear hP7007
                      have s7007 := And.intro (K7007.cell s0.1 (by simp only [List.mem_singleton]; assumption)) (And.intro (K7007.cell s0.2.1 (by simp only [List.mem_singleton]; assumption)) (K7007.cell s0.2.2 (by simp only [List.mem_singleton]; assumption)))
                      have RR7007 := Lib.hid (T0.out.ref.keep K7007 (fun e => T0.out.ring.hs.ne T0.out.ref.hq (by decide) (List.mem_singleton.1 e).symm) (fun b hb cs hc => T0.out.ring.hs.neR ((List.mem_singleton.1 hb) ▸ hc) (by decide) rfl) (fun b hb cs hc => T0.out.ring.hs.neR ((List.mem_singleton.1 hb) ▸ hc) (by decide) rfl) (fun b hb cs hc => T0.out.ring.hs.neR ((List.mem_singleton.1 hb) ▸ hc) (by decide) rfl))
                      have Y7007 := Lib.hid (Row.keep Y0.out K7007 (fun b hb cs hc => T0.out.ring.hs.neR ((List.mem_singleton.1 hb) ▸ hc) (by decide) rfl))
                      refine hK.out _ _ ?_ (fun hHeld => ?_)
                      · exact s7007
                      clear hK K
                      try simp only [Act.put, List.setIfInBounds_toArray, List.set_cons_zero, List.set_cons_succ]
                      refine wpAnyH_ready (rs := [7]) (by kernel_rfl) (by simp) ?_
                      refine AllReadyH.cons (o := { dst := some 95, op := Go.Op.call { callee := Go.Callee.value (Go.Operand.func 10), args := #[Go.Operand.tmp 92, Go.Operand.tmp 93, Go.Operand.tmp 94], argTypes := #[29, 3, 33] }, type := 25, pos := "law.go:44", after := #[{ on := 4, ground := Go.Ground.data }, { on := 5, ground := Go.Ground.data }, { on := 6, ground := Go.Ground.data }, { on := 3, ground := Go.Ground.chain }], guard := none }) rfl (fun K hK => ?_) ?_
                      · go_simp
                        refine (refPut_ok _ cap _ _ _ _ _ _ n _ ⟨[(k : Int)], (k : Int) % 5, k⟩ _ RR7007.out (by simp; omega) (by simp) (by omega) (by omega) (by omega) (by omega) hlo (by omega) HM3.out Y7007.out (by simp)).mono ?_
                        rintro e w7008 hP7008
                        obtain ⟨sl7008, vN7008, vR7008, T70080, KK7008⟩ := Sim.put T0.out hlo hhi HM3.out P7007.out hP7008
                        obtain ⟨_, _, he7008, K7008, _⟩ := hP7008
                        subst he7008
                        have s7008 := And.intro (K7008.cell s7007.1 (by simp only [List.mem_singleton]; assumption)) (And.intro (K7008.cell s7007.2.1 (by simp only [List.mem_singleton]; assumption)) (K7008.cell s7007.2.2 (by simp only [List.mem_singleton]; assumption)))
                        have T7008 := Lib.hid T70080
                        clear T70080
                        have C7008 := Lib.hid (Keep.fresh C0.out KK7008 (by intro b hb; simp only [List.mem_cons, List.not_mem_nil, or_false] at hb; omega))
                        refine hK.out _ _ ?_ (fun hHeld => ?_)
                        · exact s7008
                        clear hK K
                        try simp only [Act.put, List.setIfInBounds_toArray, List.set_cons_zero, List.set_cons_succ]
                        refine wpAnyH_take (i := 8) (oi := { dst := some 96, op := Go.Op.binOp Go.BinOp.neq 25 (Go.Operand.tmp 91) (Go.Operand.tmp 95) 25, type := 4, pos := "law.go:44", after := #[{ on := 3, ground := Go.Ground.data }, { on := 7, ground := Go.Ground.data }], guard := none }) (v := ?v7009) rfl (by kernel_rfl) (by kernel_rfl) (by kernel_rfl) (fun _ _ _ h => h) (Or.inl ⟨by rfl, ?y7009⟩) hHeld ?r7009
                        case y7009 => (intro w' hSw; (try dsimp only at hSw); go_simp; (try with_reducible rfl))
                        try simp only [Act.put, List.setIfInBounds_toArray, List.set_cons_zero, List.set_cons_succ]
                        refine wpAnyH_done (by kernel_rfl) ?_ _
                        clear hHeld s0
                        go_wp2_with fail
                        go_meet
                        case rel => exact ⟨nx, cr, _, _, _, _, by omega, T7008.out, C7008.out⟩
                      exact AllReadyH.nil
                    exact AllReadyH.nil
              · by_cases hm8 : m < 8
                · have hnx2 : nx ≤ 61 := by omega
                  have R0 := HS.out.ring
                  have hlen := HS.out.len
                  by_cases hmem : (nx : Int) ∈ st.map (·.1)
                  · obtain ⟨r, st, rfl⟩ := HS.out.head hmem
                    clear hmem
                    obtain ⟨p, hp0, v, hP, hby⟩ := HS.out.full _ (List.mem_cons_self ..)
                    have hp : sl[nx % sl.length]? = some (some p) := by rw [hlen]; rw [show (((nx : Int), r).1 % (cap : Int)).toNat = nx % cap from by simp only; rw [← Int.natCast_emod, Int.toNat_natCast]] at hp0; exact hp0
                    obtain ⟨A1, c1, rfl, _, _⟩ := Row.slice hby
                    have HP := Lib.hid hP
                    have HY := Lib.hid hby
                    have HSL := Lib.hid hp
                    have hcr0 := HS.out.cr0
                    have hcr1 := HS.out.cr1
                    have hcnt := HS.out.count
                    have HL := Lib.hid hlen
                    have hSQ : w.heap.size ≠ w.heap.size + 1 + 1 := by omega
                    have hRQ : w.heap.size + 1 ≠ w.heap.size + 1 + 1 := by omega
                    clear hp hp0 hP hby R0 hlen
                    go_wp2_with fail
                    refine (take_some _ _ sl nx cr _ HS.out.ring (by rw [HL.out]; omega) (by rw [HL.out]; omega) (by omega) (by omega) (by omega) p A1 _ c1 _ _ HSL.out HP.out).mono ?_
                    rintro e w1 hT1
                    have he := hT1.1
                    subst he
                    have HT1 := Lib.hid hT1
                    have HY1 := Lib.hid (Row.keep HY.out hT1.2.1 (ring_notR HS.out.ring 5 (by decide) (by decide)))
                    have hq := HS.out.ref.keep hT1.2.1 (by simp only [List.mem_cons, List.not_mem_nil, or_false]; omega) (ring_notR HS.out.ring 3 (by decide) (by decide)) (ring_notR HS.out.ring 33 (by decide) (by decide)) (ring_notR HS.out.ring 5 (by decide) (by decide))
                    have HQ1 := Lib.hid hq
                    have HK1 := Lib.hid (HK.out.fresh hT1.2.1 (by intro b hb; simp only [List.mem_cons, List.not_mem_nil, or_false] at hb; omega))
                    clear hT1 hq
                    go_wp2_with fail
                    refine (refTake_some _ cap nx cr _ _ _ _ r _ _ (HQ1.out.keep0 ((Keep.refl _ _).alloc _)) (by simp; simp at hcnt; omega) (by simp) (by omega) (by omega) (by omega) (by omega) (by omega) (by omega)).mono ?_
                    rintro e w2 hT2
                    obtain ⟨sl2, vN2, vR2, hS2⟩ := Sim.take HS.out HT1.out ((Keep.refl _ _).alloc _) hT2
                    obtain ⟨u, _, _, he2, hu, K2, _⟩ := hT2
                    subst he2
                    obtain ⟨AU, cU, rfl, _, _⟩ := Row.slice hu
                    have hq1 := HQ1.out.keep0 ((Keep.refl [] w1).alloc (.cells #[.slice A1 r.out.length c1, .int .i64 r.st, .int .i64 r.rec_] 33))
                    have e5Q : ∀ b ∈ [w.heap.size + 1 + 1], ∀ cs, ¬ BlkR (w1.alloc (.cells #[.slice A1 r.out.length c1, .int .i64 r.st, .int .i64 r.rec_] 33)) b 5 cs := by
                      intro b hb cs hc
                      simp only [List.mem_singleton] at hb
                      subst hb
                      exact hq1.hq.neR hc (by decide) rfl
                    have HY2 := Lib.hid (Row.keep (Row.keep0 HY1.out ((Keep.refl [] w1).alloc (.cells #[.slice A1 r.out.length c1, .int .i64 r.st, .int .i64 r.rec_] 33))) K2 e5Q)
                    have HU := Lib.hid hu
                    have hq0 := HQ1.out.hq.lt
                    have B1 := K2.blk (Blk.new w1 #[.slice A1 r.out.length c1, .int .i64 r.st, .int .i64 r.rec_] 33) (by simp only [List.mem_singleton]; omega)
                    have hsz := B1.lt
                    have b0 := B1.cell 0 _ rfl
                    have b1 := B1.cell 1 _ rfl
                    have b2 := B1.cell 2 _ rfl
                    have HS2 := Lib.hid hS2
                    have HK2 := Lib.hid (((HK1.out.alloc (.cells #[.slice A1 r.out.length c1, .int .i64 r.st, .int .i64 r.rec_] 33))).fresh K2 (by intro b hb; simp only [List.mem_singleton] at hb; omega))
                    clear K2 B1 hq1 e5Q hS2 hu HT1 HY1 HQ1 HK1 HP HY
                    go_wp2_with fail
                    refine (results_same (.slice A1 r.out.length c1) (.slice AU r.out.length cU) r _ (Row.keep0 HY2.out ((Keep.refl _ _).alloc _)) (Row.keep0 HU.out ((Keep.refl _ _).alloc _))).mono ?_
                    rintro e w3 ⟨rfl, K3⟩
                    have HS3 := Lib.hid ((HS2.out.keep ((Keep.refl _ _).alloc _)).keep K3)
                    have HK3 := Lib.hid ((HK2.out.alloc _).trans K3)
                    clear K3 b0 b1 b2 hsz
                    go_wp2_with fail
                    go_meet
                    case rel => exact ⟨nx + 1, _, sl2, vN2, vR2, st, by omega, HS3.out, HK3.out⟩
                  · have hf : Ytinanoclnlcilaa.full sl nx = false := by have := HS.out.slot 0 (by omega); simpa [hmem] using this
                    have HF := Lib.hid hf
                    have HM2 := Lib.hid hmem
                    clear hf hmem R0
                    go_wp2_with fail
                    refine (take_none _ _ sl nx cr _ HS.out.ring (by rw [hlen]; omega) (by rw [hlen]; omega) (by omega) HF.out).mono ?_
                    rintro e w1 ⟨rfl, K1⟩
                    have HS1 := Lib.hid (HS.out.keep K1)
                    have HK1 := Lib.hid (HK.out.trans K1)
                    clear K1
                    go_wp2_with fail
                    have hcnt := HS.out.count
                    refine (refTake_none _ _ _ _ _ _ _ _ _ (HS1.out.ref.keep0 ((Keep.refl _ _).alloc _)) (by simp; omega) HM2.out).mono ?_
                    rintro e w2 ⟨rfl, K2⟩
                    have B1 := K2.blk (Blk.new w1 #[.slice none 0 0, .int .i64 0, .int .i64 0] 33) (by simp)
                    have hsz := B1.lt
                    have b0 := B1.cell 0 _ rfl
                    have b1 := B1.cell 1 _ rfl
                    have b2 := B1.cell 2 _ rfl
                    have HS2 := Lib.hid ((HS1.out.keep ((Keep.refl _ _).alloc _)).keep K2)
                    have HK2 := Lib.hid ((HK1.out.alloc _).trans K2)
                    clear K2 B1
                    go_wp2_with fail
                    refine (results_same (.slice none 0 0) (.slice none 0 0) ⟨[], 0, 0⟩ _ (Row.nil _ _ _) (Row.nil _ _ _)).mono ?_
                    rintro e w3 ⟨rfl, K3⟩
                    have HS3 := Lib.hid ((HS2.out.keep ((Keep.refl _ _).alloc _)).keep K3)
                    have HK3 := Lib.hid ((HK2.out.alloc _).trans K3)
                    clear K3 b0 b1 b2 hsz
                    go_wp2_with fail
                    go_meet
                    case rel => exact ⟨nx, cr, sl, vN, vR, st, by omega, HS3.out, HK3.out⟩
                · by_cases hcr : cr = 0
                  · subst hcr
                    have r2 := HS.out.ring.hr.cell 2 _ rfl
                    have q2 := HS.out.ref.hq.cell 2 _ rfl
                    go_wp2_with fail
                    refine (acquire_none _ _ r2).mono ?_
                    rintro e w1 ⟨rfl, rfl⟩
                    go_wp2_with fail
                    refine (refAcquire_none _ _ q2).mono ?_
                    rintro e w1 ⟨rfl, rfl⟩
                    go_wp2_with fail
                    go_meet
                    case rel => exact ⟨nx, 0, sl, vN, vR, st, by omega, HS.out, HK.out⟩
                  · have r2 := HS.out.ring.hr.cell 2 _ rfl
                    have fr2 := HS.out.ring.hr.froz 2
                    have q2 := HS.out.ref.hq.cell 2 _ rfl
                    have fq2 := HS.out.ref.hq.froz 2
                    have hcr0 := HS.out.cr0
                    have hcr1 := HS.out.cr1
                    have ha := HS.out.acquire (by omega)
                    have HA := Lib.hid ha
                    clear ha
                    go_wp2_with fail
                    refine (acquire_some _ cr _ r2 fr2 (by omega) (by omega)).mono ?_
                    rintro e w1 ⟨rfl, rfl⟩
                    go_wp2_with fail
                    refine (refAcquire_some _ cr _ ?_ ?_ (by omega) (by omega)).mono ?_
                    · go_simp
                    · go_simp
                    rintro e w1 ⟨rfl, rfl⟩
                    go_wp2_with fail
                    go_meet
                    case rel => exact ⟨nx, cr - 1, sl, vN, vR, st, by omega, HA.out.1, HK.out.fresh HA.out.2 (by intro b hb; simp only [List.mem_cons, List.not_mem_nil, or_false] at hb; omega)⟩
            case rest =>
              obtain ⟨nx', cr', sl', vN', vR', st', hnx', hS', hK'⟩ := hcut
              -- REGION 25
              have hcnt := hS'.count
              have hnx0 := hS'.nx0
              have HLEN := Lib.hid hS'.len
              obtain ⟨N, hN⟩ : ∃ N : Nat, (st'.map (·.1)).length = N := ⟨_, rfl⟩
              have hNb : N ≤ 100 := by rw [← hN, List.length_map]; omega
              obtain ⟨AN, cN, rfl, _, _⟩ := Row.slice (Row.cast hS'.ref.hN hN)
              have HN := Lib.hid hN
              have hrd : full sl' nx' = decide ((nx' : Int) ∈ st'.map (·.1)) := hS'.slot 0 (by omega)
              have HRD := Lib.hid hrd
              have s0 := And.intro (hS'.ref.hq.cell 1 _ rfl) (And.intro (hS'.ref.hq.cell 2 _ rfl) (hS'.ref.hq.cell 3 _ rfl))
              have T0 := Lib.hid (hS'.keep ((Keep.refl [] _).drew))
              have C0 := Lib.hid hK'.drew
              clear hN hrd hS' hK'
              go_wp2_with fail
              refine wp_region_held_drew (S := fun v : World => v.cell? ⟨w.heap.size + 1 + 1, 1, none⟩ = some (.int .i64 nx') ∧ v.cell? ⟨w.heap.size + 1 + 1, 2, none⟩ = some (.int .i64 cr') ∧ v.cell? ⟨w.heap.size + 1 + 1, 3, none⟩ = some (.slice AN N cN)) (by kernel_rfl) s0 (fun hHeld => ?_)
              change wpAnyH _ _ _ _ _ 33 (Array.replicate 33 false) _ _
              refine wpAnyH_take (i := 0) (oi := { dst := some 119, op := Go.Op.move (Go.Operand.tmp 5), type := 24, pos := "law.go:58", after := #[], guard := none }) (v := ?v8001) rfl (by kernel_rfl) (by kernel_rfl) (by kernel_rfl) (fun _ _ _ h => h) (Or.inl ⟨by rfl, ?y8001⟩) hHeld ?r8001
              case y8001 => (intro w' hSw; (try dsimp only at hSw); go_simp; (try with_reducible rfl))
              try simp only [Act.put, List.setIfInBounds_toArray, List.set_cons_zero, List.set_cons_succ]
              refine wpAnyH_take (i := 2) (oi := { dst := some 121, op := Go.Op.move (Go.Operand.tmp 7), type := 29, pos := "law.go:58", after := #[], guard := none }) (v := ?v8002) rfl (by kernel_rfl) (by kernel_rfl) (by kernel_rfl) (fun _ _ _ h => h) (Or.inl ⟨by rfl, ?y8002⟩) hHeld ?r8002
              case y8002 => (intro w' hSw; (try dsimp only at hSw); go_simp; (try with_reducible rfl))
              try simp only [Act.put, List.setIfInBounds_toArray, List.set_cons_zero, List.set_cons_succ]
              refine wpAnyH_take (i := 3) (oi := { dst := some 122, op := Go.Op.nilCheck (Go.Operand.tmp 121), type := 0, pos := "law.go:58", after := #[{ on := 2, ground := Go.Ground.data }], guard := none }) (v := ?v8003) rfl (by kernel_rfl) (by kernel_rfl) (by kernel_rfl) (fun _ _ _ h => h) (Or.inl ⟨by rfl, ?y8003⟩) hHeld ?r8003
              case y8003 => (intro w' hSw; (try dsimp only at hSw); go_simp; (try with_reducible rfl))
              try simp only [Act.put, List.setIfInBounds_toArray, List.set_cons_zero, List.set_cons_succ]
              refine wpAnyH_take (i := 4) (oi := { dst := some 123, op := Go.Op.fieldAddr 39 (Go.Operand.tmp 122) 1, type := 0, pos := "law.go:58", after := #[{ on := 3, ground := Go.Ground.data }], guard := none }) (v := ?v8004) rfl (by kernel_rfl) (by kernel_rfl) (by kernel_rfl) (fun _ _ _ h => h) (Or.inl ⟨by rfl, ?y8004⟩) hHeld ?r8004
              case y8004 => (intro w' hSw; (try dsimp only at hSw); go_simp; (try with_reducible rfl))
              try simp only [Act.put, List.setIfInBounds_toArray, List.set_cons_zero, List.set_cons_succ]
              refine wpAnyH_take (i := 5) (oi := { dst := some 124, op := Go.Op.load 3 (Go.Operand.tmp 123), type := 3, pos := "law.go:58", after := #[{ on := 4, ground := Go.Ground.data }], guard := none }) (v := ?v8005) rfl (by kernel_rfl) (by kernel_rfl) (by kernel_rfl) (fun _ _ _ h => h) (Or.inl ⟨by rfl, ?y8005⟩) hHeld ?r8005
              case y8005 => (intro w' hSw; (try dsimp only at hSw); go_simp; (try with_reducible rfl))
              try simp only [Act.put, List.setIfInBounds_toArray, List.set_cons_zero, List.set_cons_succ]
              refine wpAnyH_ready (rs := [1]) (by kernel_rfl) (by simp) ?_
              refine AllReadyH.cons (o := { dst := some 120, op := Go.Op.call { callee := Go.Callee.value (Go.Operand.func 18), args := #[Go.Operand.tmp 119], argTypes := #[24] }, type := 3, pos := "law.go:58", after := #[{ on := 0, ground := Go.Ground.data }], guard := none }) rfl (fun K hK => ?_) ?_
              · go_simp
                refine (next_any _ _ _ (T0.out.ring.hr.cell 1 _ rfl)).mono ?_
                rintro e w8006 ⟨rfl, rfl⟩
                refine hK.out _ _ ?_ (fun hHeld => ?_)
                · exact s0
                clear hK K
                try simp only [Act.put, List.setIfInBounds_toArray, List.set_cons_zero, List.set_cons_succ]
                refine wpAnyH_take (i := 6) (oi := { dst := some 125, op := Go.Op.binOp Go.BinOp.neq 3 (Go.Operand.tmp 120) (Go.Operand.tmp 124) 3, type := 4, pos := "law.go:58", after := #[{ on := 1, ground := Go.Ground.data }, { on := 5, ground := Go.Ground.data }], guard := none }) (v := ?v8007) rfl (by kernel_rfl) (by kernel_rfl) (by kernel_rfl) (fun _ _ _ h => h) (Or.inl ⟨by rfl, ?y8007⟩) hHeld ?r8007
                case y8007 => (intro w' hSw; (try dsimp only at hSw); go_simp; (try with_reducible rfl))
                try simp only [Act.put, List.setIfInBounds_toArray, List.set_cons_zero, List.set_cons_succ]
                refine wpAnyH_take (i := 7) (oi := { dst := some 126, op := Go.Op.move (Go.Operand.tmp 125), type := 4, pos := "law.go:58", after := #[{ on := 6, ground := Go.Ground.data }, { on := 1, ground := Go.Ground.chain }], guard := none }) (v := ?v8008) rfl (by kernel_rfl) (by kernel_rfl) (by kernel_rfl) (fun _ _ _ h => h) (Or.inl ⟨by rfl, ?y8008⟩) hHeld ?r8008
                case y8008 => (intro w' hSw; (try dsimp only at hSw); go_simp; (try with_reducible rfl))
                try simp only [Act.put, List.setIfInBounds_toArray, List.set_cons_zero, List.set_cons_succ]
                refine wpAnyH_take (i := 8) (oi := { dst := some 127, op := Go.Op.move (Go.Operand.tmp 5), type := 24, pos := "law.go:58", after := #[{ on := 7, ground := Go.Ground.guard }], guard := some (7, false) }) (v := ?v8009) rfl (by kernel_rfl) (by kernel_rfl) (by kernel_rfl) (fun _ _ _ h => h) (Or.inl ⟨by rfl, ?y8009⟩) hHeld ?r8009
                case y8009 => (intro w' hSw; (try dsimp only at hSw); go_simp; (try with_reducible rfl))
                try simp only [Act.put, List.setIfInBounds_toArray, List.set_cons_zero, List.set_cons_succ]
                refine wpAnyH_take (i := 10) (oi := { dst := some 129, op := Go.Op.move (Go.Operand.tmp 7), type := 29, pos := "law.go:58", after := #[{ on := 7, ground := Go.Ground.guard }], guard := some (7, false) }) (v := ?v8010) rfl (by kernel_rfl) (by kernel_rfl) (by kernel_rfl) (fun _ _ _ h => h) (Or.inl ⟨by rfl, ?y8010⟩) hHeld ?r8010
                case y8010 => (intro w' hSw; (try dsimp only at hSw); go_simp; (try with_reducible rfl))
                try simp only [Act.put, List.setIfInBounds_toArray, List.set_cons_zero, List.set_cons_succ]
                refine wpAnyH_take (i := 11) (oi := { dst := some 130, op := Go.Op.nilCheck (Go.Operand.tmp 129), type := 0, pos := "law.go:58", after := #[{ on := 10, ground := Go.Ground.data }, { on := 7, ground := Go.Ground.guard }], guard := some (7, false) }) (v := ?v8011) rfl (by kernel_rfl) (by kernel_rfl) (by kernel_rfl) (fun _ _ _ h => h) (Or.inl ⟨by rfl, ?y8011⟩) hHeld ?r8011
                case y8011 => (intro w' hSw; (try dsimp only at hSw); go_simp; (try with_reducible rfl))
                try simp only [Act.put, List.setIfInBounds_toArray, List.set_cons_zero, List.set_cons_succ]
                refine wpAnyH_take (i := 12) (oi := { dst := some 131, op := Go.Op.fieldAddr 39 (Go.Operand.tmp 130) 2, type := 0, pos := "law.go:58", after := #[{ on := 11, ground := Go.Ground.data }, { on := 7, ground := Go.Ground.guard }], guard := some (7, false) }) (v := ?v8012) rfl (by kernel_rfl) (by kernel_rfl) (by kernel_rfl) (fun _ _ _ h => h) (Or.inl ⟨by rfl, ?y8012⟩) hHeld ?r8012
                case y8012 => (intro w' hSw; (try dsimp only at hSw); go_simp; (try with_reducible rfl))
                try simp only [Act.put, List.setIfInBounds_toArray, List.set_cons_zero, List.set_cons_succ]
                refine wpAnyH_take (i := 13) (oi := { dst := some 132, op := Go.Op.load 3 (Go.Operand.tmp 131), type := 3, pos := "law.go:58", after := #[{ on := 12, ground := Go.Ground.data }, { on := 7, ground := Go.Ground.guard }], guard := some (7, false) }) (v := ?v8013) rfl (by kernel_rfl) (by kernel_rfl) (by kernel_rfl) (fun _ _ _ h => h) (Or.inl ⟨by rfl, ?y8013⟩) hHeld ?r8013
                case y8013 => (intro w' hSw; (try dsimp only at hSw); go_simp; (try with_reducible rfl))
                try simp only [Act.put, List.setIfInBounds_toArray, List.set_cons_zero, List.set_cons_succ]
                refine wpAnyH_ready (rs := [9]) (by kernel_rfl) (by simp) ?_
                refine AllReadyH.cons (o := { dst := some 128, op := Go.Op.call { callee := Go.Callee.value (Go.Operand.func 19), args := #[Go.Operand.tmp 127], argTypes := #[24] }, type := 3, pos := "law.go:58", after := #[{ on := 8, ground := Go.Ground.data }, { on := 7, ground := Go.Ground.chain }, { on := 7, ground := Go.Ground.guard }], guard := some (7, false) }) rfl (fun K hK => ?_) ?_
                · go_simp
                  refine (credits_any _ _ _ (T0.out.ring.hr.cell 2 _ rfl)).mono ?_
                  rintro e w8014 ⟨rfl, rfl⟩
                  refine hK.out _ _ ?_ (fun hHeld => ?_)
                  · exact s0
                  clear hK K
                  try simp only [Act.put, List.setIfInBounds_toArray, List.set_cons_zero, List.set_cons_succ]
                  refine wpAnyH_take (i := 14) (oi := { dst := some 133, op := Go.Op.binOp Go.BinOp.neq 3 (Go.Operand.tmp 128) (Go.Operand.tmp 132) 3, type := 4, pos := "law.go:58", after := #[{ on := 9, ground := Go.Ground.data }, { on := 13, ground := Go.Ground.data }, { on := 7, ground := Go.Ground.guard }], guard := some (7, false) }) (v := ?v8015) rfl (by kernel_rfl) (by kernel_rfl) (by kernel_rfl) (fun _ _ _ h => h) (Or.inl ⟨by rfl, ?y8015⟩) hHeld ?r8015
                  case y8015 => (intro w' hSw; (try dsimp only at hSw); go_simp; (try with_reducible rfl))
                  try simp only [Act.put, List.setIfInBounds_toArray, List.set_cons_zero, List.set_cons_succ]
                  refine wpAnyH_take (i := 15) (oi := { dst := some 134, op := Go.Op.pick (Go.Operand.tmp 126) (Go.Operand.const (Go.Value.bool true)) (Go.Operand.tmp 133), type := 4, pos := "law.go:58", after := #[{ on := 7, ground := Go.Ground.data }, { on := 14, ground := Go.Ground.data }], guard := none }) (v := ?v8016) rfl (by kernel_rfl) (by kernel_rfl) (by kernel_rfl) (fun _ _ _ h => h) (Or.inl ⟨by rfl, ?y8016⟩) hHeld ?r8016
                  case y8016 => (intro w' hSw; (try dsimp only at hSw); go_simp; (try with_reducible rfl))
                  try simp only [Act.put, List.setIfInBounds_toArray, List.set_cons_zero, List.set_cons_succ]
                  refine wpAnyH_take (i := 16) (oi := { dst := some 135, op := Go.Op.move (Go.Operand.tmp 134), type := 4, pos := "law.go:58", after := #[{ on := 15, ground := Go.Ground.data }, { on := 9, ground := Go.Ground.chain }], guard := none }) (v := ?v8017) rfl (by kernel_rfl) (by kernel_rfl) (by kernel_rfl) (fun _ _ _ h => h) (Or.inl ⟨by rfl, ?y8017⟩) hHeld ?r8017
                  case y8017 => (intro w' hSw; (try dsimp only at hSw); go_simp; (try with_reducible rfl))
                  try simp only [Act.put, List.setIfInBounds_toArray, List.set_cons_zero, List.set_cons_succ]
                  refine wpAnyH_take (i := 17) (oi := { dst := some 136, op := Go.Op.move (Go.Operand.tmp 5), type := 24, pos := "law.go:58", after := #[{ on := 16, ground := Go.Ground.guard }], guard := some (16, false) }) (v := ?v8018) rfl (by kernel_rfl) (by kernel_rfl) (by kernel_rfl) (fun _ _ _ h => h) (Or.inl ⟨by rfl, ?y8018⟩) hHeld ?r8018
                  case y8018 => (intro w' hSw; (try dsimp only at hSw); go_simp; (try with_reducible rfl))
                  try simp only [Act.put, List.setIfInBounds_toArray, List.set_cons_zero, List.set_cons_succ]
                  refine wpAnyH_take (i := 19) (oi := { dst := some 138, op := Go.Op.move (Go.Operand.tmp 7), type := 29, pos := "law.go:58", after := #[{ on := 16, ground := Go.Ground.guard }], guard := some (16, false) }) (v := ?v8019) rfl (by kernel_rfl) (by kernel_rfl) (by kernel_rfl) (fun _ _ _ h => h) (Or.inl ⟨by rfl, ?y8019⟩) hHeld ?r8019
                  case y8019 => (intro w' hSw; (try dsimp only at hSw); go_simp; (try with_reducible rfl))
                  try simp only [Act.put, List.setIfInBounds_toArray, List.set_cons_zero, List.set_cons_succ]
                  refine wpAnyH_ready (rs := [18]) (by kernel_rfl) (by simp) ?_
                  refine AllReadyH.cons (o := { dst := some 137, op := Go.Op.call { callee := Go.Callee.value (Go.Operand.func 20), args := #[Go.Operand.tmp 136], argTypes := #[24] }, type := 4, pos := "law.go:58", after := #[{ on := 17, ground := Go.Ground.data }, { on := 16, ground := Go.Ground.chain }, { on := 16, ground := Go.Ground.guard }], guard := some (16, false) }) rfl (fun K hK => ?_) ?_
                  · go_simp
                    refine (ready_any _ _ sl' nx' _ _ T0.out.ring (by rw [HLEN.out]; omega) (by rw [HLEN.out]; omega) (by omega)).mono ?_
                    rintro e w8020 ⟨rfl, m8020, hw8020⟩
                    have K8020 : Keep [] _ w8020 := hw8020 ▸ (Keep.refl [] _).drewN m8020
                    clear hw8020
                    rw [HRD.out]
                    have s8020 := And.intro (K8020.cell s0.1 (by simp)) (And.intro (K8020.cell s0.2.1 (by simp)) (K8020.cell s0.2.2 (by simp)))
                    have T8020 := Lib.hid (T0.out.keep K8020)
                    have C8020 := Lib.hid (C0.out.trans K8020)
                    refine hK.out _ _ ?_ (fun hHeld => ?_)
                    · exact s8020
                    clear hK K
                    try simp only [Act.put, List.setIfInBounds_toArray, List.set_cons_zero, List.set_cons_succ]
                    refine wpAnyH_ready (rs := [20]) (by kernel_rfl) (by simp) ?_
                    refine AllReadyH.cons (o := { dst := some 139, op := Go.Op.call { callee := Go.Callee.value (Go.Operand.func 21), args := #[Go.Operand.tmp 138], argTypes := #[29] }, type := 4, pos := "law.go:58", after := #[{ on := 19, ground := Go.Ground.data }, { on := 18, ground := Go.Ground.chain }, { on := 16, ground := Go.Ground.guard }], guard := some (16, false) }) rfl (fun K hK => ?_) ?_
                    · go_simp
                      refine (refReady_any _ AN cN _ _ (decide ((nx' : Int) ∈ st'.map (·.1))) rfl _ (T8020.out.ref.hq.cell 1 _ rfl) (by rw [HN.out]; exact s8020.2.2) (by rw [HN.out]; exact T8020.out.ref.hN) (by rw [HN.out]; omega)).mono ?_
                      rintro e w8021 ⟨rfl, rfl⟩
                      refine hK.out _ _ ?_ (fun hHeld => ?_)
                      · exact s8020
                      clear hK K
                      try simp only [Act.put, List.setIfInBounds_toArray, List.set_cons_zero, List.set_cons_succ]
                      refine wpAnyH_take (i := 21) (oi := { dst := some 140, op := Go.Op.binOp Go.BinOp.neq 4 (Go.Operand.tmp 137) (Go.Operand.tmp 139) 4, type := 4, pos := "law.go:58", after := #[{ on := 18, ground := Go.Ground.data }, { on := 20, ground := Go.Ground.data }, { on := 16, ground := Go.Ground.guard }], guard := some (16, false) }) (v := ?v8022) rfl (by kernel_rfl) (by kernel_rfl) (by kernel_rfl) (fun _ _ _ h => h) (Or.inl ⟨by rfl, ?y8022⟩) hHeld ?r8022
                      case y8022 => (intro w' hSw; (try dsimp only at hSw); go_simp; (try with_reducible rfl))
                      try simp only [Act.put, List.setIfInBounds_toArray, List.set_cons_zero, List.set_cons_succ]
                      refine wpAnyH_take (i := 22) (oi := { dst := some 141, op := Go.Op.pick (Go.Operand.tmp 135) (Go.Operand.const (Go.Value.bool true)) (Go.Operand.tmp 140), type := 4, pos := "law.go:58", after := #[{ on := 16, ground := Go.Ground.data }, { on := 21, ground := Go.Ground.data }], guard := none }) (v := ?v8023) rfl (by kernel_rfl) (by kernel_rfl) (by kernel_rfl) (fun _ _ _ h => h) (Or.inl ⟨by rfl, ?y8023⟩) hHeld ?r8023
                      case y8023 => (intro w' hSw; (try dsimp only at hSw); go_simp; (try with_reducible rfl))
                      try simp only [Act.put, List.setIfInBounds_toArray, List.set_cons_zero, List.set_cons_succ]
                      refine wpAnyH_take (i := 23) (oi := { dst := some 142, op := Go.Op.move (Go.Operand.tmp 141), type := 4, pos := "law.go:58", after := #[{ on := 22, ground := Go.Ground.data }, { on := 20, ground := Go.Ground.chain }], guard := none }) (v := ?v8024) rfl (by kernel_rfl) (by kernel_rfl) (by kernel_rfl) (fun _ _ _ h => h) (Or.inl ⟨by rfl, ?y8024⟩) hHeld ?r8024
                      case y8024 => (intro w' hSw; (try dsimp only at hSw); go_simp; (try with_reducible rfl))
                      try simp only [Act.put, List.setIfInBounds_toArray, List.set_cons_zero, List.set_cons_succ]
                      refine wpAnyH_take (i := 24) (oi := { dst := some 143, op := Go.Op.move (Go.Operand.tmp 5), type := 24, pos := "law.go:58", after := #[{ on := 23, ground := Go.Ground.guard }], guard := some (23, false) }) (v := ?v8025) rfl (by kernel_rfl) (by kernel_rfl) (by kernel_rfl) (fun _ _ _ h => h) (Or.inl ⟨by rfl, ?y8025⟩) hHeld ?r8025
                      case y8025 => (intro w' hSw; (try dsimp only at hSw); go_simp; (try with_reducible rfl))
                      try simp only [Act.put, List.setIfInBounds_toArray, List.set_cons_zero, List.set_cons_succ]
                      refine wpAnyH_take (i := 26) (oi := { dst := some 145, op := Go.Op.move (Go.Operand.tmp 7), type := 29, pos := "law.go:58", after := #[{ on := 23, ground := Go.Ground.guard }], guard := some (23, false) }) (v := ?v8026) rfl (by kernel_rfl) (by kernel_rfl) (by kernel_rfl) (fun _ _ _ h => h) (Or.inl ⟨by rfl, ?y8026⟩) hHeld ?r8026
                      case y8026 => (intro w' hSw; (try dsimp only at hSw); go_simp; (try with_reducible rfl))
                      try simp only [Act.put, List.setIfInBounds_toArray, List.set_cons_zero, List.set_cons_succ]
                      refine wpAnyH_take (i := 27) (oi := { dst := some 146, op := Go.Op.nilCheck (Go.Operand.tmp 145), type := 0, pos := "law.go:58", after := #[{ on := 26, ground := Go.Ground.data }, { on := 23, ground := Go.Ground.guard }], guard := some (23, false) }) (v := ?v8027) rfl (by kernel_rfl) (by kernel_rfl) (by kernel_rfl) (fun _ _ _ h => h) (Or.inl ⟨by rfl, ?y8027⟩) hHeld ?r8027
                      case y8027 => (intro w' hSw; (try dsimp only at hSw); go_simp; (try with_reducible rfl))
                      try simp only [Act.put, List.setIfInBounds_toArray, List.set_cons_zero, List.set_cons_succ]
                      refine wpAnyH_take (i := 28) (oi := { dst := some 147, op := Go.Op.fieldAddr 39 (Go.Operand.tmp 146) 3, type := 0, pos := "law.go:58", after := #[{ on := 27, ground := Go.Ground.data }, { on := 23, ground := Go.Ground.guard }], guard := some (23, false) }) (v := ?v8028) rfl (by kernel_rfl) (by kernel_rfl) (by kernel_rfl) (fun _ _ _ h => h) (Or.inl ⟨by rfl, ?y8028⟩) hHeld ?r8028
                      case y8028 => (intro w' hSw; (try dsimp only at hSw); go_simp; (try with_reducible rfl))
                      try simp only [Act.put, List.setIfInBounds_toArray, List.set_cons_zero, List.set_cons_succ]
                      refine wpAnyH_take (i := 29) (oi := { dst := some 148, op := Go.Op.load 22 (Go.Operand.tmp 147), type := 22, pos := "law.go:58", after := #[{ on := 28, ground := Go.Ground.data }, { on := 23, ground := Go.Ground.guard }], guard := some (23, false) }) (v := ?v8029) rfl (by kernel_rfl) (by kernel_rfl) (by kernel_rfl) (fun _ _ _ h => h) (Or.inl ⟨by rfl, ?y8029⟩) hHeld ?r8029
                      case y8029 => (intro w' hSw; (try dsimp only at hSw); go_simp; (try with_reducible rfl))
                      try simp only [Act.put, List.setIfInBounds_toArray, List.set_cons_zero, List.set_cons_succ]
                      refine wpAnyH_ready (rs := [25]) (by kernel_rfl) (by simp) ?_
                      refine AllReadyH.cons (o := { dst := some 144, op := Go.Op.call { callee := Go.Callee.value (Go.Operand.func 12), args := #[Go.Operand.tmp 143], argTypes := #[24] }, type := 22, pos := "law.go:58", after := #[{ on := 24, ground := Go.Ground.data }, { on := 23, ground := Go.Ground.chain }, { on := 23, ground := Go.Ground.guard }], guard := some (23, false) }) rfl (fun K hK => ?_) ?_
                      · go_simp
                        refine (held_any _ _ sl' nx' _ _ T8020.out.ring (by rw [HLEN.out]; omega) (by rw [HLEN.out]; omega) (by omega)).mono ?_
                        rintro e w8030 ⟨vh8030, rfl, H8030, K8030⟩
                        have s8030 := And.intro (K8030.cell s8020.1 (by simp)) (And.intro (K8030.cell s8020.2.1 (by simp)) (K8030.cell s8020.2.2 (by simp)))
                        rw [T8020.out.held] at H8030
                        have C8030 := Lib.hid (C8020.out.trans K8030)
                        have T8030 := Lib.hid (T8020.out.keep K8030)
                        have H8030 := Row.cast H8030 HN.out
                        obtain ⟨AH8030, cH8030, rfl, _, _⟩ := Row.slice H8030
                        have HH8030 := Lib.hid H8030
                        clear H8030
                        refine hK.out _ _ ?_ (fun hHeld => ?_)
                        · exact s8030
                        clear hK K
                        try simp only [Act.put, List.setIfInBounds_toArray, List.set_cons_zero, List.set_cons_succ]
                        refine wpAnyH_ready (rs := [30]) (by kernel_rfl) (by simp) ?_
                        refine AllReadyH.cons (o := { dst := some 149, op := Go.Op.call { callee := Go.Callee.value (Go.Operand.func 11), args := #[Go.Operand.tmp 144, Go.Operand.tmp 148], argTypes := #[22, 22] }, type := 4, pos := "law.go:58", after := #[{ on := 25, ground := Go.Ground.data }, { on := 29, ground := Go.Ground.data }, { on := 25, ground := Go.Ground.chain }, { on := 23, ground := Go.Ground.guard }], guard := some (23, false) }) rfl (fun K hK => ?_) ?_
                        · go_simp
                          refine (ints_any _ _ _ _ _ _ _ _ true (decide_eq_true rfl).symm _ HH8030.out (Row.cast T8030.out.ref.hN HN.out) (by omega) (by omega)).mono ?_
                          rintro e w8031 ⟨rfl, m8031, rfl⟩
                          have s8031 := And.intro (((Keep.refl [] _).drewN m8031).cell s8030.1 (by simp)) (And.intro (((Keep.refl [] _).drewN m8031).cell s8030.2.1 (by simp)) (((Keep.refl [] _).drewN m8031).cell s8030.2.2 (by simp)))
                          have T8031 := Lib.hid (T8030.out.keep ((Keep.refl [] _).drewN m8031))
                          have C8031 := Lib.hid (C8030.out.drewN m8031)
                          refine hK.out _ _ ?_ (fun hHeld => ?_)
                          · exact s8031
                          clear hK K
                          try simp only [Act.put, List.setIfInBounds_toArray, List.set_cons_zero, List.set_cons_succ]
                          refine wpAnyH_take (i := 31) (oi := { dst := some 150, op := Go.Op.unOp Go.UnOp.not 4 (Go.Operand.tmp 149), type := 4, pos := "law.go:58", after := #[{ on := 30, ground := Go.Ground.data }, { on := 23, ground := Go.Ground.guard }], guard := some (23, false) }) (v := ?v8032) rfl (by kernel_rfl) (by kernel_rfl) (by kernel_rfl) (fun _ _ _ h => h) (Or.inl ⟨by rfl, ?y8032⟩) hHeld ?r8032
                          case y8032 => (intro w' hSw; (try dsimp only at hSw); go_simp; (try with_reducible rfl))
                          try simp only [Act.put, List.setIfInBounds_toArray, List.set_cons_zero, List.set_cons_succ]
                          refine wpAnyH_take (i := 32) (oi := { dst := some 151, op := Go.Op.pick (Go.Operand.tmp 142) (Go.Operand.const (Go.Value.bool true)) (Go.Operand.tmp 150), type := 4, pos := "law.go:58", after := #[{ on := 23, ground := Go.Ground.data }, { on := 31, ground := Go.Ground.data }], guard := none }) (v := ?v8033) rfl (by kernel_rfl) (by kernel_rfl) (by kernel_rfl) (fun _ _ _ h => h) (Or.inl ⟨by rfl, ?y8033⟩) hHeld ?r8033
                          case y8033 => (intro w' hSw; (try dsimp only at hSw); go_simp; (try with_reducible rfl))
                          try simp only [Act.put, List.setIfInBounds_toArray, List.set_cons_zero, List.set_cons_succ]
                          refine wpAnyH_done (by kernel_rfl) ?_ _
                          clear hHeld s0
                          go_wp2_with fail
                          go_roundw
                          case rel => exact ⟨k + 1, nx', cr', sl', _, _, st', by omega, by go_num, by omega, T8031.out, C8031.out⟩
                          case measure => simp [intOf]; omega
                        exact AllReadyH.nil
                      exact AllReadyH.nil
                    exact AllReadyH.nil
                  exact AllReadyH.nil
                exact AllReadyH.nil
              exact AllReadyH.nil
          · have hk2 : k = xs.length := by omega
            subst hk2
            go_wp2_with fail
            refine (awake_any _).mono ?_
            rintro e w2 ⟨rfl, K⟩
            go_wp2_with fail
            go_ret
            exact ⟨rfl, hK.trans K⟩
  · have hl' : 60 < xs.length := by omega
    go_enter Try.func4, Try.ntmps4
    go_wp2_with fail
    refine (awake_any _).mono ?_
    rintro e w2 ⟨rfl, K⟩
    go_wp2_with fail
    go_ret
    exact ⟨rfl, K⟩
end Go.Proofs.Ytinanoclnlcilaa
