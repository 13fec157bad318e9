/- AutomatonRaw: the walk. -/
import Derived.Test.YtomhlmfekmnajaaDoorRefAll
namespace Go.Proofs.YtomhlmfekmnajaaDoor
open Go.RowKit
set_option linter.unusedVariables false
set_option linter.unusedSimpArgs false

theorem range_lt {w : World} {g o : Nat} {cs : Array Value} {s : Su} (h : w.rangeAt g o cs.toList) (hs : SuV w (.agg cs) s) : g < w.heap.size := by
  obtain ⟨_, _, _, _, _, _, -, hc, -⟩ := su_cells h hs
  exact World.block_lt_of_cell? _ _ hc
theorem awakeK (w : World) (hM : Moves w) {W : World} (K : Keep [] w W) : Calls Tryd.prog 12 #[] W fun e w' => e = .returned (.bool true) ∧ Keep [] W w' := awake_any W (hM.keep K)

set_option maxHeartbeats 1000000 in
set_option maxRecDepth 100000 in
theorem raw_any (v : Value) (ss : List Su) (w : World) (hM : Moves w) (hR : SuRow w v ss) (hb : ∀ s ∈ ss, s.l0.length ≤ 17592186044416 ∧ s.l1.length ≤ 17592186044416 ∧ s.l2.length ≤ 17592186044416) :
    Calls Tryd.prog 4 #[v] w fun e w' => e = .returned (.bool true) ∧ Keep [] w w' := by
  have HR := Lib.hid hR
  have HM := Lib.hid hM
  have HBD := Lib.hid hb
  obtain ⟨A, cp, rfl, hn, hc, -, -⟩ := hR
  have hc9 : cp ≤ 9223372036854775807 := hc
  clear hc hM hb
  by_cases h5 : 5 < ss.length
  · have d5 : decide ((5 : Int) < (ss.length : Int)) = true := decide_eq_true (by omega)
    go_enter Tryd.func4, Tryd.ntmps4
    go_wp2_with fail
    refine (awakeK w HM.out (Keep.refl [] w)).mono ?_
    rintro e w1 ⟨rfl, K1⟩
    have HK1 := Lib.hid K1
    clear K1
    go_wp2_with fail
    go_ret
    exact ⟨rfl, HK1.out⟩
  · have d5 : decide ((5 : Int) < (ss.length : Int)) = false := decide_eq_false (by omega)
    go_enter Tryd.func4, Tryd.ntmps4
    go_wp2_with fail
    clear d5
    go_loopw [3] (fun i wr => ∃ k : Nat, k ≤ ss.length ∧ i = .int .i64 k ∧ Keep [] w wr) (fun i _ => ss.length - (intOf i).toNat)
    case atStart => exact ⟨0, by omega, rfl, Keep.refl _ _⟩
    case round =>
      obtain ⟨k, hk, rfl, hK⟩ := hrel
      obtain ⟨W, rfl⟩ : ∃ W, W = wr := ⟨_, rfl⟩
      have HK := Lib.hid hK
      clear hK
      by_cases hlt : k < ss.length
      · obtain ⟨x, hx⟩ : ∃ x, ss[k]? = some x := ⟨ss[k], by simp [hlt]⟩
        obtain ⟨g, off, cs, hidx, hrg, hsu⟩ := SuRow.idx (HR.out.keep HK.out) k x hx
        obtain ⟨A0, a0, A1, a1, A2, a2, -, -, -, -, -, x4, x5, x6⟩ := su_cells hrg hsu
        obtain ⟨b0, b1, b2⟩ := HBD.out x (List.mem_of_getElem? hx)
        have HSU := Lib.hid hsu
        have HRG := Lib.hid hrg
        clear hrg hsu hx
        have hlt' : (k : Int) < ss.length := by omega
        by_cases hs : (60 : Int) < (x.l0.length : Int) + x.l1.length + x.l2.length
        · have ds : decide ((60 : Int) < (x.l0.length : Int) + x.l1.length + x.l2.length) = true := decide_eq_true hs
          have wr1 := IntWalk.i64_in ((x.l0.length : Int) + x.l1.length) (by omega)
          have wr2 := IntWalk.i64_in ((x.l0.length : Int) + x.l1.length + x.l2.length) (by omega)
          go_wp2_with fail
          go_quiet (fail)
          go_wp2_with fail
          obtain ⟨V, hV⟩ : ∃ V, V = W.drewN nq := ⟨_, rfl⟩
          have KV : Keep [] W V := by rw [hV]; exact (Keep.refl [] W).drewN _
          have x4 := KV.cell x4 (by simp)
          have x5 := KV.cell x5 (by simp)
          have x6 := KV.cell x6 (by simp)
          rw [← hV]
          clear hV
          have KD : Keep [] V V.drew := (Keep.refl _ _).drew
          refine wp_region_held_drew (S := fun v : World => v.cell? ⟨g, off + 4, none⟩ = some (.slice A0 x.l0.length a0) ∧ v.cell? ⟨g, off + 5, none⟩ = some (.slice A1 x.l1.length a1) ∧ v.cell? ⟨g, off + 6, none⟩ = some (.slice A2 x.l2.length a2)) (by kernel_rfl) ⟨x4, x5, x6⟩ (fun hHeld => ?_)
          change wpAnyH _ _ _ _ _ 28 (Array.replicate 28 false) _ _
          refine wpAnyH_take (i := 0) (oi := { dst := some 55, op := Go.Op.move (Go.Operand.tmp 0), type := 34, pos := "law.go:36", after := #[], guard := none }) (v := ?v7001) rfl (by kernel_rfl) (by kernel_rfl) (by kernel_rfl) (fun _ _ _ h => h) (Or.inl ⟨by rfl, ?y7001⟩) hHeld ?r7001
          case y7001 => (intro w' hSw; (try dsimp only at hSw); go_simp; (try with_reducible rfl))
          try simp only [Act.put, List.setIfInBounds_toArray, List.set_cons_zero, List.set_cons_succ]
          refine wpAnyH_take (i := 1) (oi := { dst := some 56, op := Go.Op.move (Go.Operand.tmp 3), type := 3, pos := "law.go:36", after := #[], guard := none }) (v := ?v7002) rfl (by kernel_rfl) (by kernel_rfl) (by kernel_rfl) (fun _ _ _ h => h) (Or.inl ⟨by rfl, ?y7002⟩) hHeld ?r7002
          case y7002 => (intro w' hSw; (try dsimp only at hSw); go_simp; (try with_reducible rfl))
          try simp only [Act.put, List.setIfInBounds_toArray, List.set_cons_zero, List.set_cons_succ]
          refine wpAnyH_take (i := 2) (oi := { dst := some 57, op := Go.Op.indexAddr 34 (Go.Operand.tmp 55) (Go.Operand.tmp 56), type := 0, pos := "law.go:36", after := #[{ on := 0, ground := Go.Ground.data }, { on := 1, ground := Go.Ground.data }], guard := none }) (v := ?v7003) rfl (by kernel_rfl) (by kernel_rfl) (by kernel_rfl) (fun _ _ _ h => h) (Or.inl ⟨by rfl, ?y7003⟩) hHeld ?r7003
          case y7003 => (intro w' hSw; (try dsimp only at hSw); go_simp; (try with_reducible rfl))
          try simp only [Act.put, List.setIfInBounds_toArray, List.set_cons_zero, List.set_cons_succ]
          refine wpAnyH_take (i := 3) (oi := { dst := some 58, op := Go.Op.fieldAddr 26 (Go.Operand.tmp 57) 2, type := 0, pos := "law.go:36", after := #[{ on := 2, ground := Go.Ground.data }], guard := none }) (v := ?v7004) rfl (by kernel_rfl) (by kernel_rfl) (by kernel_rfl) (fun _ _ _ h => h) (Or.inl ⟨by rfl, ?y7004⟩) hHeld ?r7004
          case y7004 => (intro w' hSw; (try dsimp only at hSw); go_simp; (try with_reducible rfl))
          try simp only [Act.put, List.setIfInBounds_toArray, List.set_cons_zero, List.set_cons_succ]
          refine wpAnyH_take (i := 4) (oi := { dst := some 59, op := Go.Op.indexAddr 24 (Go.Operand.tmp 58) (Go.Operand.const (Go.Value.int Go.IntKind.i64 0)), type := 0, pos := "law.go:36", after := #[{ on := 3, ground := Go.Ground.data }], guard := none }) (v := ?v7005) rfl (by kernel_rfl) (by kernel_rfl) (by kernel_rfl) (fun _ _ _ h => h) (Or.inl ⟨by rfl, ?y7005⟩) hHeld ?r7005
          case y7005 => (intro w' hSw; (try dsimp only at hSw); go_simp; (try with_reducible rfl))
          try simp only [Act.put, List.setIfInBounds_toArray, List.set_cons_zero, List.set_cons_succ]
          refine wpAnyH_take (i := 5) (oi := { dst := some 60, op := Go.Op.load 23 (Go.Operand.tmp 59), type := 23, pos := "law.go:36", after := #[{ on := 4, ground := Go.Ground.data }], guard := none }) (v := ?v7006) rfl (by kernel_rfl) (by kernel_rfl) (by kernel_rfl) (fun _ _ _ h => h) (Or.inl ⟨by rfl, ?y7006⟩) hHeld ?r7006
          case y7006 => (intro w' hSw; (try dsimp only at hSw); go_simp; (try with_reducible rfl))
          try simp only [Act.put, List.setIfInBounds_toArray, List.set_cons_zero, List.set_cons_succ]
          refine wpAnyH_take (i := 6) (oi := { dst := some 61, op := Go.Op.call { callee := Go.Callee.builtin Go.Builtin.len, args := #[Go.Operand.tmp 60], argTypes := #[23] }, type := 3, pos := "law.go:36", after := #[{ on := 5, ground := Go.Ground.data }], guard := none }) (v := ?v7007) rfl (by kernel_rfl) (by kernel_rfl) (by kernel_rfl) (fun _ _ _ h => h) (Or.inl ⟨by rfl, ?y7007⟩) hHeld ?r7007
          case y7007 => (intro w' hSw; (try dsimp only at hSw); go_simp; (try with_reducible rfl))
          try simp only [Act.put, List.setIfInBounds_toArray, List.set_cons_zero, List.set_cons_succ]
          refine wpAnyH_take (i := 7) (oi := { dst := some 62, op := Go.Op.move (Go.Operand.tmp 0), type := 34, pos := "law.go:36", after := #[], guard := none }) (v := ?v7008) rfl (by kernel_rfl) (by kernel_rfl) (by kernel_rfl) (fun _ _ _ h => h) (Or.inl ⟨by rfl, ?y7008⟩) hHeld ?r7008
          case y7008 => (intro w' hSw; (try dsimp only at hSw); go_simp; (try with_reducible rfl))
          try simp only [Act.put, List.setIfInBounds_toArray, List.set_cons_zero, List.set_cons_succ]
          refine wpAnyH_take (i := 8) (oi := { dst := some 63, op := Go.Op.move (Go.Operand.tmp 3), type := 3, pos := "law.go:36", after := #[], guard := none }) (v := ?v7009) rfl (by kernel_rfl) (by kernel_rfl) (by kernel_rfl) (fun _ _ _ h => h) (Or.inl ⟨by rfl, ?y7009⟩) hHeld ?r7009
          case y7009 => (intro w' hSw; (try dsimp only at hSw); go_simp; (try with_reducible rfl))
          try simp only [Act.put, List.setIfInBounds_toArray, List.set_cons_zero, List.set_cons_succ]
          refine wpAnyH_take (i := 9) (oi := { dst := some 64, op := Go.Op.indexAddr 34 (Go.Operand.tmp 62) (Go.Operand.tmp 63), type := 0, pos := "law.go:36", after := #[{ on := 7, ground := Go.Ground.data }, { on := 8, ground := Go.Ground.data }], guard := none }) (v := ?v7010) rfl (by kernel_rfl) (by kernel_rfl) (by kernel_rfl) (fun _ _ _ h => h) (Or.inl ⟨by rfl, ?y7010⟩) hHeld ?r7010
          case y7010 => (intro w' hSw; (try dsimp only at hSw); go_simp; (try with_reducible rfl))
          try simp only [Act.put, List.setIfInBounds_toArray, List.set_cons_zero, List.set_cons_succ]
          refine wpAnyH_take (i := 10) (oi := { dst := some 65, op := Go.Op.fieldAddr 26 (Go.Operand.tmp 64) 2, type := 0, pos := "law.go:36", after := #[{ on := 9, ground := Go.Ground.data }], guard := none }) (v := ?v7011) rfl (by kernel_rfl) (by kernel_rfl) (by kernel_rfl) (fun _ _ _ h => h) (Or.inl ⟨by rfl, ?y7011⟩) hHeld ?r7011
          case y7011 => (intro w' hSw; (try dsimp only at hSw); go_simp; (try with_reducible rfl))
          try simp only [Act.put, List.setIfInBounds_toArray, List.set_cons_zero, List.set_cons_succ]
          refine wpAnyH_take (i := 11) (oi := { dst := some 66, op := Go.Op.indexAddr 24 (Go.Operand.tmp 65) (Go.Operand.const (Go.Value.int Go.IntKind.i64 1)), type := 0, pos := "law.go:36", after := #[{ on := 10, ground := Go.Ground.data }], guard := none }) (v := ?v7012) rfl (by kernel_rfl) (by kernel_rfl) (by kernel_rfl) (fun _ _ _ h => h) (Or.inl ⟨by rfl, ?y7012⟩) hHeld ?r7012
          case y7012 => (intro w' hSw; (try dsimp only at hSw); go_simp; (try with_reducible rfl))
          try simp only [Act.put, List.setIfInBounds_toArray, List.set_cons_zero, List.set_cons_succ]
          refine wpAnyH_take (i := 12) (oi := { dst := some 67, op := Go.Op.load 23 (Go.Operand.tmp 66), type := 23, pos := "law.go:36", after := #[{ on := 11, ground := Go.Ground.data }], guard := none }) (v := ?v7013) rfl (by kernel_rfl) (by kernel_rfl) (by kernel_rfl) (fun _ _ _ h => h) (Or.inl ⟨by rfl, ?y7013⟩) hHeld ?r7013
          case y7013 => (intro w' hSw; (try dsimp only at hSw); go_simp; (try with_reducible rfl))
          try simp only [Act.put, List.setIfInBounds_toArray, List.set_cons_zero, List.set_cons_succ]
          refine wpAnyH_take (i := 13) (oi := { dst := some 68, op := Go.Op.call { callee := Go.Callee.builtin Go.Builtin.len, args := #[Go.Operand.tmp 67], argTypes := #[23] }, type := 3, pos := "law.go:36", after := #[{ on := 12, ground := Go.Ground.data }], guard := none }) (v := ?v7014) rfl (by kernel_rfl) (by kernel_rfl) (by kernel_rfl) (fun _ _ _ h => h) (Or.inl ⟨by rfl, ?y7014⟩) hHeld ?r7014
          case y7014 => (intro w' hSw; (try dsimp only at hSw); go_simp; (try with_reducible rfl))
          try simp only [Act.put, List.setIfInBounds_toArray, List.set_cons_zero, List.set_cons_succ]
          refine wpAnyH_take (i := 14) (oi := { dst := some 69, op := Go.Op.binOp Go.BinOp.add 3 (Go.Operand.tmp 61) (Go.Operand.tmp 68) 3, type := 3, pos := "law.go:36", after := #[{ on := 6, ground := Go.Ground.data }, { on := 13, ground := Go.Ground.data }], guard := none }) (v := ?v7015) rfl (by kernel_rfl) (by kernel_rfl) (by kernel_rfl) (fun _ _ _ h => h) (Or.inl ⟨by rfl, ?y7015⟩) hHeld ?r7015
          case y7015 => (intro w' hSw; (try dsimp only at hSw); go_simp; (try with_reducible rfl))
          try simp only [Act.put, List.setIfInBounds_toArray, List.set_cons_zero, List.set_cons_succ]
          refine wpAnyH_take (i := 15) (oi := { dst := some 70, op := Go.Op.move (Go.Operand.tmp 0), type := 34, pos := "law.go:36", after := #[], guard := none }) (v := ?v7016) rfl (by kernel_rfl) (by kernel_rfl) (by kernel_rfl) (fun _ _ _ h => h) (Or.inl ⟨by rfl, ?y7016⟩) hHeld ?r7016
          case y7016 => (intro w' hSw; (try dsimp only at hSw); go_simp; (try with_reducible rfl))
          try simp only [Act.put, List.setIfInBounds_toArray, List.set_cons_zero, List.set_cons_succ]
          refine wpAnyH_take (i := 16) (oi := { dst := some 71, op := Go.Op.move (Go.Operand.tmp 3), type := 3, pos := "law.go:36", after := #[], guard := none }) (v := ?v7017) rfl (by kernel_rfl) (by kernel_rfl) (by kernel_rfl) (fun _ _ _ h => h) (Or.inl ⟨by rfl, ?y7017⟩) hHeld ?r7017
          case y7017 => (intro w' hSw; (try dsimp only at hSw); go_simp; (try with_reducible rfl))
          try simp only [Act.put, List.setIfInBounds_toArray, List.set_cons_zero, List.set_cons_succ]
          refine wpAnyH_take (i := 17) (oi := { dst := some 72, op := Go.Op.indexAddr 34 (Go.Operand.tmp 70) (Go.Operand.tmp 71), type := 0, pos := "law.go:36", after := #[{ on := 15, ground := Go.Ground.data }, { on := 16, ground := Go.Ground.data }], guard := none }) (v := ?v7018) rfl (by kernel_rfl) (by kernel_rfl) (by kernel_rfl) (fun _ _ _ h => h) (Or.inl ⟨by rfl, ?y7018⟩) hHeld ?r7018
          case y7018 => (intro w' hSw; (try dsimp only at hSw); go_simp; (try with_reducible rfl))
          try simp only [Act.put, List.setIfInBounds_toArray, List.set_cons_zero, List.set_cons_succ]
          refine wpAnyH_take (i := 18) (oi := { dst := some 73, op := Go.Op.fieldAddr 26 (Go.Operand.tmp 72) 2, type := 0, pos := "law.go:36", after := #[{ on := 17, ground := Go.Ground.data }], guard := none }) (v := ?v7019) rfl (by kernel_rfl) (by kernel_rfl) (by kernel_rfl) (fun _ _ _ h => h) (Or.inl ⟨by rfl, ?y7019⟩) hHeld ?r7019
          case y7019 => (intro w' hSw; (try dsimp only at hSw); go_simp; (try with_reducible rfl))
          try simp only [Act.put, List.setIfInBounds_toArray, List.set_cons_zero, List.set_cons_succ]
          refine wpAnyH_take (i := 19) (oi := { dst := some 74, op := Go.Op.indexAddr 24 (Go.Operand.tmp 73) (Go.Operand.const (Go.Value.int Go.IntKind.i64 2)), type := 0, pos := "law.go:36", after := #[{ on := 18, ground := Go.Ground.data }], guard := none }) (v := ?v7020) rfl (by kernel_rfl) (by kernel_rfl) (by kernel_rfl) (fun _ _ _ h => h) (Or.inl ⟨by rfl, ?y7020⟩) hHeld ?r7020
          case y7020 => (intro w' hSw; (try dsimp only at hSw); go_simp; (try with_reducible rfl))
          try simp only [Act.put, List.setIfInBounds_toArray, List.set_cons_zero, List.set_cons_succ]
          refine wpAnyH_take (i := 20) (oi := { dst := some 75, op := Go.Op.load 23 (Go.Operand.tmp 74), type := 23, pos := "law.go:36", after := #[{ on := 19, ground := Go.Ground.data }], guard := none }) (v := ?v7021) rfl (by kernel_rfl) (by kernel_rfl) (by kernel_rfl) (fun _ _ _ h => h) (Or.inl ⟨by rfl, ?y7021⟩) hHeld ?r7021
          case y7021 => (intro w' hSw; (try dsimp only at hSw); go_simp; (try with_reducible rfl))
          try simp only [Act.put, List.setIfInBounds_toArray, List.set_cons_zero, List.set_cons_succ]
          refine wpAnyH_take (i := 21) (oi := { dst := some 76, op := Go.Op.call { callee := Go.Callee.builtin Go.Builtin.len, args := #[Go.Operand.tmp 75], argTypes := #[23] }, type := 3, pos := "law.go:36", after := #[{ on := 20, ground := Go.Ground.data }], guard := none }) (v := ?v7022) rfl (by kernel_rfl) (by kernel_rfl) (by kernel_rfl) (fun _ _ _ h => h) (Or.inl ⟨by rfl, ?y7022⟩) hHeld ?r7022
          case y7022 => (intro w' hSw; (try dsimp only at hSw); go_simp; (try with_reducible rfl))
          try simp only [Act.put, List.setIfInBounds_toArray, List.set_cons_zero, List.set_cons_succ]
          refine wpAnyH_take (i := 22) (oi := { dst := some 77, op := Go.Op.binOp Go.BinOp.add 3 (Go.Operand.tmp 69) (Go.Operand.tmp 76) 3, type := 3, pos := "law.go:36", after := #[{ on := 14, ground := Go.Ground.data }, { on := 21, ground := Go.Ground.data }], guard := none }) (v := ?v7023) rfl (by kernel_rfl) (by kernel_rfl) (by kernel_rfl) (fun _ _ _ h => h) (Or.inl ⟨by rfl, ?y7023⟩) hHeld ?r7023
          case y7023 => (intro w' hSw; (try dsimp only at hSw); go_simp; (try with_reducible rfl))
          try simp only [Act.put, List.setIfInBounds_toArray, List.set_cons_zero, List.set_cons_succ]
          refine wpAnyH_take (i := 23) (oi := { dst := some 78, op := Go.Op.binOp Go.BinOp.gtr 3 (Go.Operand.tmp 77) (Go.Operand.const (Go.Value.int Go.IntKind.i64 60)) 3, type := 4, pos := "law.go:36", after := #[{ on := 22, ground := Go.Ground.data }], guard := none }) (v := ?v7024) rfl (by kernel_rfl) (by kernel_rfl) (by kernel_rfl) (fun _ _ _ h => h) (Or.inl ⟨by rfl, ?y7024⟩) hHeld ?r7024
          case y7024 => (intro w' hSw; (try dsimp only at hSw); go_simp; (try with_reducible rfl))
          try simp only [Act.put, List.setIfInBounds_toArray, List.set_cons_zero, List.set_cons_succ]
          refine wpAnyH_take (i := 24) (oi := { dst := some 79, op := Go.Op.move (Go.Operand.tmp 78), type := 4, pos := "law.go:36", after := #[{ on := 23, ground := Go.Ground.data }], guard := none }) (v := ?v7025) rfl (by kernel_rfl) (by kernel_rfl) (by kernel_rfl) (fun _ _ _ h => h) (Or.inl ⟨by rfl, ?y7025⟩) hHeld ?r7025
          case y7025 => (intro w' hSw; (try dsimp only at hSw); go_simp; (try with_reducible rfl))
          try simp only [Act.put, List.setIfInBounds_toArray, List.set_cons_zero, List.set_cons_succ]
          refine wpAnyH_ready (rs := [25]) (by kernel_rfl) (by simp) ?_
          refine AllReadyH.cons (o := { dst := some 80, op := Go.Op.call { callee := Go.Callee.value (Go.Operand.func 12), args := #[], argTypes := #[] }, type := 4, pos := "law.go:36", after := #[{ on := 24, ground := Go.Ground.chain }, { on := 24, ground := Go.Ground.guard }], guard := some (24, true) }) rfl (fun K hK => ?_) ?_
          · go_simp
            refine (awakeK w HM.out ((HK.out.trans KV).trans KD)).mono ?_
            rintro e w7026 ⟨rfl, Kc7026⟩
            have K7026 : Keep [] V w7026 := KD.trans Kc7026
            refine hK.out _ _ ?_ (fun hHeld => ?_)
            · exact ⟨K7026.cell x4 (by simp), K7026.cell x5 (by simp), K7026.cell x6 (by simp)⟩
            clear hK K
            try simp only [Act.put, List.setIfInBounds_toArray, List.set_cons_zero, List.set_cons_succ]
            refine wpAnyH_take (i := 26) (oi := { dst := some 81, op := Go.Op.pick (Go.Operand.tmp 79) (Go.Operand.tmp 80) (Go.Operand.const (Go.Value.bool false)), type := 4, pos := "law.go:36", after := #[{ on := 24, ground := Go.Ground.data }, { on := 25, ground := Go.Ground.data }], guard := none }) (v := ?v7027) rfl (by kernel_rfl) (by kernel_rfl) (by kernel_rfl) (fun _ _ _ h => h) (Or.inl ⟨by rfl, ?y7027⟩) hHeld ?r7027
            case y7027 => (intro w' hSw; (try dsimp only at hSw); go_simp; (try with_reducible rfl))
            try simp only [Act.put, List.setIfInBounds_toArray, List.set_cons_zero, List.set_cons_succ]
            refine wpAnyH_take (i := 27) (oi := { dst := some 2, op := Go.Op.assign (Go.Operand.tmp 81), type := 4, pos := "law.go:36", after := #[{ on := 26, ground := Go.Ground.data }, { on := 25, ground := Go.Ground.chain }, { on := 0, ground := Go.Ground.phase }, { on := 1, ground := Go.Ground.phase }, { on := 2, ground := Go.Ground.phase }, { on := 3, ground := Go.Ground.phase }, { on := 4, ground := Go.Ground.phase }, { on := 5, ground := Go.Ground.phase }, { on := 6, ground := Go.Ground.phase }, { on := 7, ground := Go.Ground.phase }, { on := 8, ground := Go.Ground.phase }, { on := 9, ground := Go.Ground.phase }, { on := 10, ground := Go.Ground.phase }, { on := 11, ground := Go.Ground.phase }, { on := 12, ground := Go.Ground.phase }, { on := 13, ground := Go.Ground.phase }, { on := 14, ground := Go.Ground.phase }, { on := 15, ground := Go.Ground.phase }, { on := 16, ground := Go.Ground.phase }, { on := 17, ground := Go.Ground.phase }, { on := 18, ground := Go.Ground.phase }, { on := 19, ground := Go.Ground.phase }, { on := 20, ground := Go.Ground.phase }, { on := 21, ground := Go.Ground.phase }, { on := 22, ground := Go.Ground.phase }, { on := 23, ground := Go.Ground.phase }, { on := 24, ground := Go.Ground.phase }, { on := 25, ground := Go.Ground.phase }, { on := 26, ground := Go.Ground.phase }], guard := none }) (v := ?v7028) rfl (by kernel_rfl) (by kernel_rfl) (by kernel_rfl) (fun _ _ _ h => h) (Or.inl ⟨by rfl, ?y7028⟩) hHeld ?r7028
            case y7028 => (intro w' hSw; (try dsimp only at hSw); go_simp; (try with_reducible rfl))
            try simp only [Act.put, List.setIfInBounds_toArray, List.set_cons_zero, List.set_cons_succ]
            refine wpAnyH_done (by kernel_rfl) ?_ _
            have HKF := Lib.hid ((HK.out.trans KV).trans K7026)
            clear hHeld
            go_wp2_with fail
            go_ret
            exact ⟨rfl, HKF.out⟩
          exact AllReadyH.nil
        · have ds : decide ((60 : Int) < (x.l0.length : Int) + x.l1.length + x.l2.length) = false := decide_eq_false hs
          have wr1 := IntWalk.i64_in ((x.l0.length : Int) + x.l1.length) (by omega)
          have wr2 := IntWalk.i64_in ((x.l0.length : Int) + x.l1.length + x.l2.length) (by omega)
          go_wp2_with fail
          have KD : Keep [] W W.drew := (Keep.refl _ _).drew
          obtain ⟨vb, hvb⟩ : ∃ vb, vb = x.valid := ⟨_, rfl⟩
          have HV := Lib.hid hvb.symm
          clear hvb
          have hne : (vb != vb) = false := by simp
          refine wp_region_held_drew (S := fun v : World => v.cell? ⟨g, off + 4, none⟩ = some (.slice A0 x.l0.length a0) ∧ v.cell? ⟨g, off + 5, none⟩ = some (.slice A1 x.l1.length a1) ∧ v.cell? ⟨g, off + 6, none⟩ = some (.slice A2 x.l2.length a2) ∧ v.rangeAt g off cs.toList) (by kernel_rfl) ⟨x4, x5, x6, HRG.out⟩ (fun hHeld => ?_)
          change wpAnyH _ _ _ _ _ 37 (Array.replicate 37 false) _ _
          refine wpAnyH_take (i := 0) (oi := { dst := some 18, op := Go.Op.move (Go.Operand.tmp 0), type := 34, pos := "law.go:35", after := #[], guard := none }) (v := ?v6001) rfl (by kernel_rfl) (by kernel_rfl) (by kernel_rfl) (fun _ _ _ h => h) (Or.inl ⟨by rfl, ?y6001⟩) hHeld ?r6001
          case y6001 => (intro w' hSw; (try dsimp only at hSw); go_simp; (try with_reducible rfl))
          try simp only [Act.put, List.setIfInBounds_toArray, List.set_cons_zero, List.set_cons_succ]
          refine wpAnyH_take (i := 1) (oi := { dst := some 19, op := Go.Op.move (Go.Operand.tmp 3), type := 3, pos := "law.go:35", after := #[], guard := none }) (v := ?v6002) rfl (by kernel_rfl) (by kernel_rfl) (by kernel_rfl) (fun _ _ _ h => h) (Or.inl ⟨by rfl, ?y6002⟩) hHeld ?r6002
          case y6002 => (intro w' hSw; (try dsimp only at hSw); go_simp; (try with_reducible rfl))
          try simp only [Act.put, List.setIfInBounds_toArray, List.set_cons_zero, List.set_cons_succ]
          refine wpAnyH_take (i := 2) (oi := { dst := some 20, op := Go.Op.indexAddr 34 (Go.Operand.tmp 18) (Go.Operand.tmp 19), type := 0, pos := "law.go:35", after := #[{ on := 0, ground := Go.Ground.data }, { on := 1, ground := Go.Ground.data }], guard := none }) (v := ?v6003) rfl (by kernel_rfl) (by kernel_rfl) (by kernel_rfl) (fun _ _ _ h => h) (Or.inl ⟨by rfl, ?y6003⟩) hHeld ?r6003
          case y6003 => (intro w' hSw; (try dsimp only at hSw); go_simp; (try with_reducible rfl))
          try simp only [Act.put, List.setIfInBounds_toArray, List.set_cons_zero, List.set_cons_succ]
          refine wpAnyH_take (i := 3) (oi := { dst := some 21, op := Go.Op.fieldAddr 26 (Go.Operand.tmp 20) 2, type := 0, pos := "law.go:35", after := #[{ on := 2, ground := Go.Ground.data }], guard := none }) (v := ?v6004) rfl (by kernel_rfl) (by kernel_rfl) (by kernel_rfl) (fun _ _ _ h => h) (Or.inl ⟨by rfl, ?y6004⟩) hHeld ?r6004
          case y6004 => (intro w' hSw; (try dsimp only at hSw); go_simp; (try with_reducible rfl))
          try simp only [Act.put, List.setIfInBounds_toArray, List.set_cons_zero, List.set_cons_succ]
          refine wpAnyH_take (i := 4) (oi := { dst := some 22, op := Go.Op.indexAddr 24 (Go.Operand.tmp 21) (Go.Operand.const (Go.Value.int Go.IntKind.i64 0)), type := 0, pos := "law.go:35", after := #[{ on := 3, ground := Go.Ground.data }], guard := none }) (v := ?v6005) rfl (by kernel_rfl) (by kernel_rfl) (by kernel_rfl) (fun _ _ _ h => h) (Or.inl ⟨by rfl, ?y6005⟩) hHeld ?r6005
          case y6005 => (intro w' hSw; (try dsimp only at hSw); go_simp; (try with_reducible rfl))
          try simp only [Act.put, List.setIfInBounds_toArray, List.set_cons_zero, List.set_cons_succ]
          refine wpAnyH_take (i := 5) (oi := { dst := some 23, op := Go.Op.load 23 (Go.Operand.tmp 22), type := 23, pos := "law.go:35", after := #[{ on := 4, ground := Go.Ground.data }], guard := none }) (v := ?v6006) rfl (by kernel_rfl) (by kernel_rfl) (by kernel_rfl) (fun _ _ _ h => h) (Or.inl ⟨by rfl, ?y6006⟩) hHeld ?r6006
          case y6006 => (intro w' hSw; (try dsimp only at hSw); go_simp; (try with_reducible rfl))
          try simp only [Act.put, List.setIfInBounds_toArray, List.set_cons_zero, List.set_cons_succ]
          refine wpAnyH_take (i := 6) (oi := { dst := some 24, op := Go.Op.call { callee := Go.Callee.builtin Go.Builtin.len, args := #[Go.Operand.tmp 23], argTypes := #[23] }, type := 3, pos := "law.go:35", after := #[{ on := 5, ground := Go.Ground.data }], guard := none }) (v := ?v6007) rfl (by kernel_rfl) (by kernel_rfl) (by kernel_rfl) (fun _ _ _ h => h) (Or.inl ⟨by rfl, ?y6007⟩) hHeld ?r6007
          case y6007 => (intro w' hSw; (try dsimp only at hSw); go_simp; (try with_reducible rfl))
          try simp only [Act.put, List.setIfInBounds_toArray, List.set_cons_zero, List.set_cons_succ]
          refine wpAnyH_take (i := 7) (oi := { dst := some 25, op := Go.Op.move (Go.Operand.tmp 0), type := 34, pos := "law.go:35", after := #[], guard := none }) (v := ?v6008) rfl (by kernel_rfl) (by kernel_rfl) (by kernel_rfl) (fun _ _ _ h => h) (Or.inl ⟨by rfl, ?y6008⟩) hHeld ?r6008
          case y6008 => (intro w' hSw; (try dsimp only at hSw); go_simp; (try with_reducible rfl))
          try simp only [Act.put, List.setIfInBounds_toArray, List.set_cons_zero, List.set_cons_succ]
          refine wpAnyH_take (i := 8) (oi := { dst := some 26, op := Go.Op.move (Go.Operand.tmp 3), type := 3, pos := "law.go:35", after := #[], guard := none }) (v := ?v6009) rfl (by kernel_rfl) (by kernel_rfl) (by kernel_rfl) (fun _ _ _ h => h) (Or.inl ⟨by rfl, ?y6009⟩) hHeld ?r6009
          case y6009 => (intro w' hSw; (try dsimp only at hSw); go_simp; (try with_reducible rfl))
          try simp only [Act.put, List.setIfInBounds_toArray, List.set_cons_zero, List.set_cons_succ]
          refine wpAnyH_take (i := 9) (oi := { dst := some 27, op := Go.Op.indexAddr 34 (Go.Operand.tmp 25) (Go.Operand.tmp 26), type := 0, pos := "law.go:35", after := #[{ on := 7, ground := Go.Ground.data }, { on := 8, ground := Go.Ground.data }], guard := none }) (v := ?v6010) rfl (by kernel_rfl) (by kernel_rfl) (by kernel_rfl) (fun _ _ _ h => h) (Or.inl ⟨by rfl, ?y6010⟩) hHeld ?r6010
          case y6010 => (intro w' hSw; (try dsimp only at hSw); go_simp; (try with_reducible rfl))
          try simp only [Act.put, List.setIfInBounds_toArray, List.set_cons_zero, List.set_cons_succ]
          refine wpAnyH_take (i := 10) (oi := { dst := some 28, op := Go.Op.fieldAddr 26 (Go.Operand.tmp 27) 2, type := 0, pos := "law.go:35", after := #[{ on := 9, ground := Go.Ground.data }], guard := none }) (v := ?v6011) rfl (by kernel_rfl) (by kernel_rfl) (by kernel_rfl) (fun _ _ _ h => h) (Or.inl ⟨by rfl, ?y6011⟩) hHeld ?r6011
          case y6011 => (intro w' hSw; (try dsimp only at hSw); go_simp; (try with_reducible rfl))
          try simp only [Act.put, List.setIfInBounds_toArray, List.set_cons_zero, List.set_cons_succ]
          refine wpAnyH_take (i := 11) (oi := { dst := some 29, op := Go.Op.indexAddr 24 (Go.Operand.tmp 28) (Go.Operand.const (Go.Value.int Go.IntKind.i64 1)), type := 0, pos := "law.go:35", after := #[{ on := 10, ground := Go.Ground.data }], guard := none }) (v := ?v6012) rfl (by kernel_rfl) (by kernel_rfl) (by kernel_rfl) (fun _ _ _ h => h) (Or.inl ⟨by rfl, ?y6012⟩) hHeld ?r6012
          case y6012 => (intro w' hSw; (try dsimp only at hSw); go_simp; (try with_reducible rfl))
          try simp only [Act.put, List.setIfInBounds_toArray, List.set_cons_zero, List.set_cons_succ]
          refine wpAnyH_take (i := 12) (oi := { dst := some 30, op := Go.Op.load 23 (Go.Operand.tmp 29), type := 23, pos := "law.go:35", after := #[{ on := 11, ground := Go.Ground.data }], guard := none }) (v := ?v6013) rfl (by kernel_rfl) (by kernel_rfl) (by kernel_rfl) (fun _ _ _ h => h) (Or.inl ⟨by rfl, ?y6013⟩) hHeld ?r6013
          case y6013 => (intro w' hSw; (try dsimp only at hSw); go_simp; (try with_reducible rfl))
          try simp only [Act.put, List.setIfInBounds_toArray, List.set_cons_zero, List.set_cons_succ]
          refine wpAnyH_take (i := 13) (oi := { dst := some 31, op := Go.Op.call { callee := Go.Callee.builtin Go.Builtin.len, args := #[Go.Operand.tmp 30], argTypes := #[23] }, type := 3, pos := "law.go:35", after := #[{ on := 12, ground := Go.Ground.data }], guard := none }) (v := ?v6014) rfl (by kernel_rfl) (by kernel_rfl) (by kernel_rfl) (fun _ _ _ h => h) (Or.inl ⟨by rfl, ?y6014⟩) hHeld ?r6014
          case y6014 => (intro w' hSw; (try dsimp only at hSw); go_simp; (try with_reducible rfl))
          try simp only [Act.put, List.setIfInBounds_toArray, List.set_cons_zero, List.set_cons_succ]
          refine wpAnyH_take (i := 14) (oi := { dst := some 32, op := Go.Op.binOp Go.BinOp.add 3 (Go.Operand.tmp 24) (Go.Operand.tmp 31) 3, type := 3, pos := "law.go:35", after := #[{ on := 6, ground := Go.Ground.data }, { on := 13, ground := Go.Ground.data }], guard := none }) (v := ?v6015) rfl (by kernel_rfl) (by kernel_rfl) (by kernel_rfl) (fun _ _ _ h => h) (Or.inl ⟨by rfl, ?y6015⟩) hHeld ?r6015
          case y6015 => (intro w' hSw; (try dsimp only at hSw); go_simp; (try with_reducible rfl))
          try simp only [Act.put, List.setIfInBounds_toArray, List.set_cons_zero, List.set_cons_succ]
          refine wpAnyH_take (i := 15) (oi := { dst := some 33, op := Go.Op.move (Go.Operand.tmp 0), type := 34, pos := "law.go:35", after := #[], guard := none }) (v := ?v6016) rfl (by kernel_rfl) (by kernel_rfl) (by kernel_rfl) (fun _ _ _ h => h) (Or.inl ⟨by rfl, ?y6016⟩) hHeld ?r6016
          case y6016 => (intro w' hSw; (try dsimp only at hSw); go_simp; (try with_reducible rfl))
          try simp only [Act.put, List.setIfInBounds_toArray, List.set_cons_zero, List.set_cons_succ]
          refine wpAnyH_take (i := 16) (oi := { dst := some 34, op := Go.Op.move (Go.Operand.tmp 3), type := 3, pos := "law.go:35", after := #[], guard := none }) (v := ?v6017) rfl (by kernel_rfl) (by kernel_rfl) (by kernel_rfl) (fun _ _ _ h => h) (Or.inl ⟨by rfl, ?y6017⟩) hHeld ?r6017
          case y6017 => (intro w' hSw; (try dsimp only at hSw); go_simp; (try with_reducible rfl))
          try simp only [Act.put, List.setIfInBounds_toArray, List.set_cons_zero, List.set_cons_succ]
          refine wpAnyH_take (i := 17) (oi := { dst := some 35, op := Go.Op.indexAddr 34 (Go.Operand.tmp 33) (Go.Operand.tmp 34), type := 0, pos := "law.go:35", after := #[{ on := 15, ground := Go.Ground.data }, { on := 16, ground := Go.Ground.data }], guard := none }) (v := ?v6018) rfl (by kernel_rfl) (by kernel_rfl) (by kernel_rfl) (fun _ _ _ h => h) (Or.inl ⟨by rfl, ?y6018⟩) hHeld ?r6018
          case y6018 => (intro w' hSw; (try dsimp only at hSw); go_simp; (try with_reducible rfl))
          try simp only [Act.put, List.setIfInBounds_toArray, List.set_cons_zero, List.set_cons_succ]
          refine wpAnyH_take (i := 18) (oi := { dst := some 36, op := Go.Op.fieldAddr 26 (Go.Operand.tmp 35) 2, type := 0, pos := "law.go:35", after := #[{ on := 17, ground := Go.Ground.data }], guard := none }) (v := ?v6019) rfl (by kernel_rfl) (by kernel_rfl) (by kernel_rfl) (fun _ _ _ h => h) (Or.inl ⟨by rfl, ?y6019⟩) hHeld ?r6019
          case y6019 => (intro w' hSw; (try dsimp only at hSw); go_simp; (try with_reducible rfl))
          try simp only [Act.put, List.setIfInBounds_toArray, List.set_cons_zero, List.set_cons_succ]
          refine wpAnyH_take (i := 19) (oi := { dst := some 37, op := Go.Op.indexAddr 24 (Go.Operand.tmp 36) (Go.Operand.const (Go.Value.int Go.IntKind.i64 2)), type := 0, pos := "law.go:35", after := #[{ on := 18, ground := Go.Ground.data }], guard := none }) (v := ?v6020) rfl (by kernel_rfl) (by kernel_rfl) (by kernel_rfl) (fun _ _ _ h => h) (Or.inl ⟨by rfl, ?y6020⟩) hHeld ?r6020
          case y6020 => (intro w' hSw; (try dsimp only at hSw); go_simp; (try with_reducible rfl))
          try simp only [Act.put, List.setIfInBounds_toArray, List.set_cons_zero, List.set_cons_succ]
          refine wpAnyH_take (i := 20) (oi := { dst := some 38, op := Go.Op.load 23 (Go.Operand.tmp 37), type := 23, pos := "law.go:35", after := #[{ on := 19, ground := Go.Ground.data }], guard := none }) (v := ?v6021) rfl (by kernel_rfl) (by kernel_rfl) (by kernel_rfl) (fun _ _ _ h => h) (Or.inl ⟨by rfl, ?y6021⟩) hHeld ?r6021
          case y6021 => (intro w' hSw; (try dsimp only at hSw); go_simp; (try with_reducible rfl))
          try simp only [Act.put, List.setIfInBounds_toArray, List.set_cons_zero, List.set_cons_succ]
          refine wpAnyH_take (i := 21) (oi := { dst := some 39, op := Go.Op.call { callee := Go.Callee.builtin Go.Builtin.len, args := #[Go.Operand.tmp 38], argTypes := #[23] }, type := 3, pos := "law.go:35", after := #[{ on := 20, ground := Go.Ground.data }], guard := none }) (v := ?v6022) rfl (by kernel_rfl) (by kernel_rfl) (by kernel_rfl) (fun _ _ _ h => h) (Or.inl ⟨by rfl, ?y6022⟩) hHeld ?r6022
          case y6022 => (intro w' hSw; (try dsimp only at hSw); go_simp; (try with_reducible rfl))
          try simp only [Act.put, List.setIfInBounds_toArray, List.set_cons_zero, List.set_cons_succ]
          refine wpAnyH_take (i := 22) (oi := { dst := some 40, op := Go.Op.binOp Go.BinOp.add 3 (Go.Operand.tmp 32) (Go.Operand.tmp 39) 3, type := 3, pos := "law.go:35", after := #[{ on := 14, ground := Go.Ground.data }, { on := 21, ground := Go.Ground.data }], guard := none }) (v := ?v6023) rfl (by kernel_rfl) (by kernel_rfl) (by kernel_rfl) (fun _ _ _ h => h) (Or.inl ⟨by rfl, ?y6023⟩) hHeld ?r6023
          case y6023 => (intro w' hSw; (try dsimp only at hSw); go_simp; (try with_reducible rfl))
          try simp only [Act.put, List.setIfInBounds_toArray, List.set_cons_zero, List.set_cons_succ]
          refine wpAnyH_take (i := 23) (oi := { dst := some 41, op := Go.Op.binOp Go.BinOp.gtr 3 (Go.Operand.tmp 40) (Go.Operand.const (Go.Value.int Go.IntKind.i64 60)) 3, type := 4, pos := "law.go:35", after := #[{ on := 22, ground := Go.Ground.data }], guard := none }) (v := ?v6024) rfl (by kernel_rfl) (by kernel_rfl) (by kernel_rfl) (fun _ _ _ h => h) (Or.inl ⟨by rfl, ?y6024⟩) hHeld ?r6024
          case y6024 => (intro w' hSw; (try dsimp only at hSw); go_simp; (try with_reducible rfl))
          try simp only [Act.put, List.setIfInBounds_toArray, List.set_cons_zero, List.set_cons_succ]
          refine wpAnyH_take (i := 24) (oi := { dst := some 42, op := Go.Op.move (Go.Operand.tmp 41), type := 4, pos := "law.go:35", after := #[{ on := 23, ground := Go.Ground.data }], guard := none }) (v := ?v6025) rfl (by kernel_rfl) (by kernel_rfl) (by kernel_rfl) (fun _ _ _ h => h) (Or.inl ⟨by rfl, ?y6025⟩) hHeld ?r6025
          case y6025 => (intro w' hSw; (try dsimp only at hSw); go_simp; (try with_reducible rfl))
          try simp only [Act.put, List.setIfInBounds_toArray, List.set_cons_zero, List.set_cons_succ]
          refine wpAnyH_take (i := 25) (oi := { dst := some 43, op := Go.Op.move (Go.Operand.tmp 0), type := 34, pos := "law.go:35", after := #[{ on := 24, ground := Go.Ground.guard }], guard := some (24, false) }) (v := ?v6026) rfl (by kernel_rfl) (by kernel_rfl) (by kernel_rfl) (fun _ _ _ h => h) (Or.inl ⟨by rfl, ?y6026⟩) hHeld ?r6026
          case y6026 => (intro w' hSw; (try dsimp only at hSw); go_simp; (try with_reducible rfl))
          try simp only [Act.put, List.setIfInBounds_toArray, List.set_cons_zero, List.set_cons_succ]
          refine wpAnyH_take (i := 26) (oi := { dst := some 44, op := Go.Op.move (Go.Operand.tmp 3), type := 3, pos := "law.go:35", after := #[{ on := 24, ground := Go.Ground.guard }], guard := some (24, false) }) (v := ?v6027) rfl (by kernel_rfl) (by kernel_rfl) (by kernel_rfl) (fun _ _ _ h => h) (Or.inl ⟨by rfl, ?y6027⟩) hHeld ?r6027
          case y6027 => (intro w' hSw; (try dsimp only at hSw); go_simp; (try with_reducible rfl))
          try simp only [Act.put, List.setIfInBounds_toArray, List.set_cons_zero, List.set_cons_succ]
          refine wpAnyH_take (i := 27) (oi := { dst := some 45, op := Go.Op.indexAddr 34 (Go.Operand.tmp 43) (Go.Operand.tmp 44), type := 0, pos := "law.go:35", after := #[{ on := 25, ground := Go.Ground.data }, { on := 26, ground := Go.Ground.data }, { on := 24, ground := Go.Ground.guard }], guard := some (24, false) }) (v := ?v6028) rfl (by kernel_rfl) (by kernel_rfl) (by kernel_rfl) (fun _ _ _ h => h) (Or.inl ⟨by rfl, ?y6028⟩) hHeld ?r6028
          case y6028 => (intro w' hSw; (try dsimp only at hSw); go_simp; (try with_reducible rfl))
          try simp only [Act.put, List.setIfInBounds_toArray, List.set_cons_zero, List.set_cons_succ]
          refine wpAnyH_take (i := 28) (oi := { dst := some 46, op := Go.Op.load 26 (Go.Operand.tmp 45), type := 26, pos := "law.go:35", after := #[{ on := 27, ground := Go.Ground.data }, { on := 24, ground := Go.Ground.guard }], guard := some (24, false) }) (v := .agg cs) rfl (by kernel_rfl) (by kernel_rfl) (by kernel_rfl) (fun _ _ _ h => h) (yields_su rfl (.tmp 45) rfl (g) (off) cs rfl HSU.out.size7 (fun v hS => hS.2.2.2)) hHeld ?_
          try simp only [Act.put, List.setIfInBounds_toArray, List.set_cons_zero, List.set_cons_succ]
          refine wpAnyH_take (i := 30) (oi := { dst := some 48, op := Go.Op.move (Go.Operand.tmp 0), type := 34, pos := "law.go:35", after := #[{ on := 24, ground := Go.Ground.guard }], guard := some (24, false) }) (v := ?v6030) rfl (by kernel_rfl) (by kernel_rfl) (by kernel_rfl) (fun _ _ _ h => h) (Or.inl ⟨by rfl, ?y6030⟩) hHeld ?r6030
          case y6030 => (intro w' hSw; (try dsimp only at hSw); go_simp; (try with_reducible rfl))
          try simp only [Act.put, List.setIfInBounds_toArray, List.set_cons_zero, List.set_cons_succ]
          refine wpAnyH_take (i := 31) (oi := { dst := some 49, op := Go.Op.move (Go.Operand.tmp 3), type := 3, pos := "law.go:35", after := #[{ on := 24, ground := Go.Ground.guard }], guard := some (24, false) }) (v := ?v6031) rfl (by kernel_rfl) (by kernel_rfl) (by kernel_rfl) (fun _ _ _ h => h) (Or.inl ⟨by rfl, ?y6031⟩) hHeld ?r6031
          case y6031 => (intro w' hSw; (try dsimp only at hSw); go_simp; (try with_reducible rfl))
          try simp only [Act.put, List.setIfInBounds_toArray, List.set_cons_zero, List.set_cons_succ]
          refine wpAnyH_take (i := 32) (oi := { dst := some 50, op := Go.Op.indexAddr 34 (Go.Operand.tmp 48) (Go.Operand.tmp 49), type := 0, pos := "law.go:35", after := #[{ on := 30, ground := Go.Ground.data }, { on := 31, ground := Go.Ground.data }, { on := 24, ground := Go.Ground.guard }], guard := some (24, false) }) (v := ?v6032) rfl (by kernel_rfl) (by kernel_rfl) (by kernel_rfl) (fun _ _ _ h => h) (Or.inl ⟨by rfl, ?y6032⟩) hHeld ?r6032
          case y6032 => (intro w' hSw; (try dsimp only at hSw); go_simp; (try with_reducible rfl))
          try simp only [Act.put, List.setIfInBounds_toArray, List.set_cons_zero, List.set_cons_succ]
          refine wpAnyH_take (i := 33) (oi := { dst := some 51, op := Go.Op.load 26 (Go.Operand.tmp 50), type := 26, pos := "law.go:35", after := #[{ on := 32, ground := Go.Ground.data }, { on := 24, ground := Go.Ground.guard }], guard := some (24, false) }) (v := .agg cs) rfl (by kernel_rfl) (by kernel_rfl) (by kernel_rfl) (fun _ _ _ h => h) (yields_su rfl (.tmp 50) rfl (g) (off) cs rfl HSU.out.size7 (fun v hS => hS.2.2.2)) hHeld ?_
          try simp only [Act.put, List.setIfInBounds_toArray, List.set_cons_zero, List.set_cons_succ]
          refine wpAnyH_ready (rs := [29]) (by kernel_rfl) (by simp) ?_
          refine AllReadyH.cons (o := { dst := some 47, op := Go.Op.call { callee := Go.Callee.value (Go.Operand.func 16), args := #[Go.Operand.tmp 46], argTypes := #[26] }, type := 4, pos := "law.go:35", after := #[{ on := 28, ground := Go.Ground.data }, { on := 24, ground := Go.Ground.chain }, { on := 24, ground := Go.Ground.guard }], guard := some (24, false) }) rfl (fun K hK => ?_) ?_
          · go_simp
            refine (valid_any _ x _ (HSU.out.keep KD)).mono ?_
            rintro e w6034 ⟨rfl, Kc6034⟩
            rw [HV.out]
            have K6034 : Keep [] W w6034 := KD.trans Kc6034
            refine hK.out _ _ ?_ (fun hHeld => ?_)
            · exact ⟨K6034.cell x4 (by simp), K6034.cell x5 (by simp), K6034.cell x6 (by simp), rangeAt_keep HRG.out K6034 (by simp)⟩
            clear hK K
            try simp only [Act.put, List.setIfInBounds_toArray, List.set_cons_zero, List.set_cons_succ]
            refine wpAnyH_ready (rs := [34]) (by kernel_rfl) (by simp) ?_
            refine AllReadyH.cons (o := { dst := some 52, op := Go.Op.call { callee := Go.Callee.value (Go.Operand.func 17), args := #[Go.Operand.tmp 51], argTypes := #[26] }, type := 4, pos := "law.go:35", after := #[{ on := 33, ground := Go.Ground.data }, { on := 29, ground := Go.Ground.chain }, { on := 24, ground := Go.Ground.guard }], guard := some (24, false) }) rfl (fun K hK => ?_) ?_
            · go_simp
              refine (refvalid_any _ x _ (HSU.out.keep K6034)).mono ?_
              rintro e w6035 ⟨rfl, Kc6035⟩
              rw [HV.out]
              have K6035 : Keep [] W w6035 := K6034.trans Kc6035
              refine hK.out _ _ ?_ (fun hHeld => ?_)
              · exact ⟨K6035.cell x4 (by simp), K6035.cell x5 (by simp), K6035.cell x6 (by simp), rangeAt_keep HRG.out K6035 (by simp)⟩
              clear hK K
              try simp only [Act.put, List.setIfInBounds_toArray, List.set_cons_zero, List.set_cons_succ]
              refine wpAnyH_take (i := 35) (oi := { dst := some 53, op := Go.Op.binOp Go.BinOp.neq 4 (Go.Operand.tmp 47) (Go.Operand.tmp 52) 4, type := 4, pos := "law.go:35", after := #[{ on := 29, ground := Go.Ground.data }, { on := 34, ground := Go.Ground.data }, { on := 24, ground := Go.Ground.guard }], guard := some (24, false) }) (v := ?v6036) rfl (by kernel_rfl) (by kernel_rfl) (by kernel_rfl) (fun _ _ _ h => h) (Or.inl ⟨by rfl, ?y6036⟩) hHeld ?r6036
              case y6036 => (intro w' hSw; (try dsimp only at hSw); go_simp; (try with_reducible rfl))
              try simp only [Act.put, List.setIfInBounds_toArray, List.set_cons_zero, List.set_cons_succ]
              refine wpAnyH_take (i := 36) (oi := { dst := some 54, op := Go.Op.pick (Go.Operand.tmp 42) (Go.Operand.const (Go.Value.bool true)) (Go.Operand.tmp 53), type := 4, pos := "law.go:35", after := #[{ on := 24, ground := Go.Ground.data }, { on := 35, ground := Go.Ground.data }], guard := none }) (v := ?v6037) rfl (by kernel_rfl) (by kernel_rfl) (by kernel_rfl) (fun _ _ _ h => h) (Or.inl ⟨by rfl, ?y6037⟩) hHeld ?r6037
              case y6037 => (intro w' hSw; (try dsimp only at hSw); go_simp; (try with_reducible rfl))
              try simp only [Act.put, List.setIfInBounds_toArray, List.set_cons_zero, List.set_cons_succ]
              refine wpAnyH_done (by kernel_rfl) ?_ _
              have HKF := Lib.hid (HK.out.trans K6035)
              clear hHeld
              go_wp2_with fail
              go_roundw
              case rel => exact ⟨k + 1, by omega, by go_num, HKF.out⟩
              case measure => simp [intOf]; omega
            exact AllReadyH.nil
          exact AllReadyH.nil
      · have hkl : k = ss.length := by omega
        subst hkl
        obtain ⟨s1, hs1⟩ : ∃ s1, s1 = (allOf ss).1 := ⟨_, rfl⟩
        obtain ⟨e1, he1⟩ : ∃ e1, e1 = (allOf ss).2 := ⟨_, rfl⟩
        have HS1 := Lib.hid hs1
        have HE1 := Lib.hid he1
        clear hs1 he1
        go_wp2_with fail
        refine (all_any _ ss _ (HR.out.keep HK.out)).mono ?_
        rintro e w1 ⟨c1, rfl, h1, K1, -⟩
        rw [← HS1.out] at h1
        rw [← HE1.out]
        have H1 := Lib.hid h1
        have HK1 := Lib.hid (HK.out.trans K1)
        have hw1 := HK1.out.size
        clear h1 K1 HK
        go_wp2_with ((refine wpList_su_new rfl (.tmp 4) (.tmp 85) rfl c1 s1 H1.out rfl rfl ?_; intro w2 B2 K2; have HB2 := Lib.hid B2; have HK2 := Lib.hid (HK1.out.trans K2); clear B2 K2))
        refine (refall_any _ ss _ (HR.out.keep HK2.out)).mono ?_
        rintro e w3 ⟨c2, rfl, h2, K3, -⟩
        rw [← HS1.out] at h2
        rw [← HE1.out]
        have H2 := Lib.hid h2
        have HB3 := Lib.hid (HB2.out.keep K3)
        have hlt13 : w1.heap.size < w3.heap.size := HB3.out.1.lt
        have HK3 := Lib.hid (HK2.out.trans K3)
        clear h2 K3 HB2 HK2
        have hne : (e1 != e1) = false := by simp
        go_wp2_with (first | (refine wpList_su_new rfl (.tmp 6) (.tmp 90) rfl c2 s1 H2.out rfl rfl ?_; intro w4 B4 K4; have HC4 := Lib.hid B4; have HB4 := Lib.hid (HB3.out.keep K4); have HK4 := Lib.hid (HK3.out.trans K4); clear B4 K4) | (refine wpList_load_sb rfl (.tmp 4) rfl w1.heap.size c1 s1 HB4.out rfl ?_) | (refine wpList_load_sb rfl (.tmp 6) rfl w3.heap.size c2 s1 HC4.out rfl ?_))
        refine (same_any _ _ s1 s1 true (decide_eq_true rfl).symm _ HB4.out.2 HC4.out.2).mono ?_
        rintro e w5 ⟨rfl, K5⟩
        have HB5 := Lib.hid (HB4.out.keep K5)
        have HC5 := Lib.hid (HC4.out.keep K5)
        have HK5 := Lib.hid (HK4.out.trans K5)
        clear K5 HB3 HK3 HB4 HC4 HK4 H1 H2 HK1
        by_cases h2 : ss.length < 2
        · have d2 : decide ((ss.length : Int) < 2) = true := decide_eq_true (by omega)
          go_wp2_with fail
          refine (awakeK w HM.out HK5.out).mono ?_
          rintro e w6 ⟨rfl, K6⟩
          have HK6 := Lib.hid (HK5.out.trans K6)
          clear K6
          go_wp2_with fail
          go_ret
          exact ⟨rfl, HK6.out⟩
        · have d2 : decide ((ss.length : Int) < 2) = false := decide_eq_false (by omega)
          go_wp2_with fail
          obtain ⟨x, hx⟩ : ∃ x, ss[0]? = some x := ⟨ss[0], by simp [show 0 < ss.length by omega]⟩
          obtain ⟨y, hy⟩ : ∃ y, ss[1]? = some y := ⟨ss[1], by simp [show 1 < ss.length by omega]⟩
          have HX := Lib.hid hx
          have HY := Lib.hid hy
          obtain ⟨g, off, cs, hidx0, hrg, hsu⟩ := SuRow.idx HR.out 0 x HX.out
          obtain ⟨g', off', cs', hidx1, hrg', hsu'⟩ := SuRow.idx HR.out 1 y HY.out
          have hg := range_lt hrg hsu
          have hg' := range_lt hrg' hsu'
          replace hidx0 : ∀ W : World, (Instr.indexAt 34 (.slice A ss.length cp) (.int .i64 0)).run Tryd.prog W = .ok (.pointer (some ⟨g, off, none⟩)) W := hidx0
          replace hidx1 : ∀ W : World, (Instr.indexAt 34 (.slice A ss.length cp) (.int .i64 1)).run Tryd.prog W = .ok (.pointer (some ⟨g', off', none⟩)) W := hidx1
          have HSU0 := Lib.hid hsu
          have HSU0' := Lib.hid hsu'
          have HRG0 := Lib.hid hrg
          have HRG0' := Lib.hid hrg'
          have HRG := Lib.hid (rangeAt_keep hrg HK5.out (by simp))
          have HSU := Lib.hid (hsu.keep HK5.out)
          have HRG' := Lib.hid (rangeAt_keep hrg' HK5.out (by simp))
          have HSU' := Lib.hid (hsu'.keep HK5.out)
          obtain ⟨s3, hs3⟩ : ∃ s3, s3 = (compose x y).1 := ⟨_, rfl⟩
          obtain ⟨e3, he3⟩ : ∃ e3, e3 = (compose x y).2 := ⟨_, rfl⟩
          have HS3 := Lib.hid hs3
          have HE3 := Lib.hid he3
          have hlt4 : w1.heap.size < w5.heap.size := HB5.out.1.lt
          have hlt6 : w3.heap.size < w5.heap.size := HC5.out.1.lt
          clear hrg hsu hrg' hsu' hx hy hs3 he3
          go_cut [5] (fun z wc => ∃ c3 : Array Value, z = .int .i64 e3 ∧ Keep [w1.heap.size] w5 wc ∧ SBox wc w1.heap.size c3 s3 ∧ FreshV w5.heap.size (.agg c3))
          case first =>
            have KD : Keep [] w5 w5.drew := (Keep.refl _ _).drew
            have KR : Keep [] w5 w5 := Keep.refl _ _
            refine wp_region_held_drew (S := fun v : World => v.rangeAt g off cs.toList ∧ v.rangeAt g' off' cs'.toList) (by kernel_rfl) ⟨HRG.out, HRG'.out⟩ (fun hHeld => ?_)
            change wpAnyH _ _ _ _ _ 12 (Array.replicate 12 false) _ _
            refine wpAnyH_take (i := 0) (oi := { dst := some 106, op := Go.Op.move (Go.Operand.tmp 0), type := 34, pos := "law.go:47", after := #[], guard := none }) (v := ?v14001) rfl (by kernel_rfl) (by kernel_rfl) (by kernel_rfl) (fun _ _ _ h => h) (Or.inl ⟨by rfl, ?y14001⟩) hHeld ?r14001
            case y14001 => (intro w' hSw; (try dsimp only at hSw); go_simp; (try with_reducible rfl))
            try simp only [Act.put, List.setIfInBounds_toArray, List.set_cons_zero, List.set_cons_succ]
            refine wpAnyH_take (i := 1) (oi := { dst := some 107, op := Go.Op.indexAddr 34 (Go.Operand.tmp 106) (Go.Operand.const (Go.Value.int Go.IntKind.i64 0)), type := 0, pos := "law.go:47", after := #[{ on := 0, ground := Go.Ground.data }], guard := none }) (v := ?v14002) rfl (by kernel_rfl) (by kernel_rfl) (by kernel_rfl) (fun _ _ _ h => h) (Or.inl ⟨by rfl, ?y14002⟩) hHeld ?r14002
            case y14002 => (intro w' hSw; (try dsimp only at hSw); go_simp; (try with_reducible rfl))
            try simp only [Act.put, List.setIfInBounds_toArray, List.set_cons_zero, List.set_cons_succ]
            refine wpAnyH_take (i := 2) (oi := { dst := some 108, op := Go.Op.load 26 (Go.Operand.tmp 107), type := 26, pos := "law.go:47", after := #[{ on := 1, ground := Go.Ground.data }], guard := none }) (v := .agg cs) rfl (by kernel_rfl) (by kernel_rfl) (by kernel_rfl) (fun _ _ _ h => h) (yields_su rfl (.tmp 107) rfl (g) (off) cs rfl HSU.out.size7 (fun v hS => hS.1)) hHeld ?_
            try simp only [Act.put, List.setIfInBounds_toArray, List.set_cons_zero, List.set_cons_succ]
            refine wpAnyH_take (i := 3) (oi := { dst := some 109, op := Go.Op.move (Go.Operand.tmp 0), type := 34, pos := "law.go:47", after := #[], guard := none }) (v := ?v14004) rfl (by kernel_rfl) (by kernel_rfl) (by kernel_rfl) (fun _ _ _ h => h) (Or.inl ⟨by rfl, ?y14004⟩) hHeld ?r14004
            case y14004 => (intro w' hSw; (try dsimp only at hSw); go_simp; (try with_reducible rfl))
            try simp only [Act.put, List.setIfInBounds_toArray, List.set_cons_zero, List.set_cons_succ]
            refine wpAnyH_take (i := 4) (oi := { dst := some 110, op := Go.Op.indexAddr 34 (Go.Operand.tmp 109) (Go.Operand.const (Go.Value.int Go.IntKind.i64 1)), type := 0, pos := "law.go:47", after := #[{ on := 3, ground := Go.Ground.data }], guard := none }) (v := ?v14005) rfl (by kernel_rfl) (by kernel_rfl) (by kernel_rfl) (fun _ _ _ h => h) (Or.inl ⟨by rfl, ?y14005⟩) hHeld ?r14005
            case y14005 => (intro w' hSw; (try dsimp only at hSw); go_simp; (try with_reducible rfl))
            try simp only [Act.put, List.setIfInBounds_toArray, List.set_cons_zero, List.set_cons_succ]
            refine wpAnyH_take (i := 5) (oi := { dst := some 111, op := Go.Op.load 26 (Go.Operand.tmp 110), type := 26, pos := "law.go:47", after := #[{ on := 4, ground := Go.Ground.data }], guard := none }) (v := .agg cs') rfl (by kernel_rfl) (by kernel_rfl) (by kernel_rfl) (fun _ _ _ h => h) (yields_su rfl (.tmp 110) rfl (g') (off') cs' rfl HSU'.out.size7 (fun v hS => hS.2)) hHeld ?_
            try simp only [Act.put, List.setIfInBounds_toArray, List.set_cons_zero, List.set_cons_succ]
            refine wpAnyH_ready (rs := [6]) (by kernel_rfl) (by simp) ?_
            refine AllReadyH.cons (o := { dst := some 112, op := Go.Op.call { callee := Go.Callee.value (Go.Operand.func 13), args := #[Go.Operand.tmp 108, Go.Operand.tmp 111], argTypes := #[26, 26] }, type := 29, pos := "law.go:47", after := #[{ on := 2, ground := Go.Ground.data }, { on := 5, ground := Go.Ground.data }], guard := none }) rfl (fun K hK => ?_) ?_
            · go_simp
              have hDlt := (KD.blk HB5.out.1 (by simp)).lt
              refine (compose_any _ _ x y _ (HSU.out.keep KD) (HSU'.out.keep KD)).mono ?_
              rintro e w14007 ⟨v3, rfl, h3, Kc14007, hf3⟩
              obtain ⟨c3, rfl, -, -⟩ := h3.cells
              rw [← HS3.out] at h3
              rw [← HE3.out]
              have K14007 : Keep [] w5 w14007 := KD.trans Kc14007
              have DB14007 := Kc14007.blk (KD.blk HB5.out.1 (by simp)) (by simp)
              refine hK.out _ _ ?_ (fun hHeld => ?_)
              · exact ⟨rangeAt_keep HRG.out K14007 (by simp <;> omega), rangeAt_keep HRG'.out K14007 (by simp <;> omega)⟩
              clear hK K
              try simp only [Act.put, List.setIfInBounds_toArray, List.set_cons_zero, List.set_cons_succ]
              refine wpAnyH_take (i := 7) (oi := { dst := some 105, op := Go.Op.move (Go.Operand.tmp 112), type := 29, pos := "law.go:47", after := #[{ on := 6, ground := Go.Ground.data }], guard := none }) (v := ?v14008) rfl (by kernel_rfl) (by kernel_rfl) (by kernel_rfl) (fun _ _ _ h => h) (Or.inl ⟨by rfl, ?y14008⟩) hHeld ?r14008
              case y14008 => (intro w' hSw; (try dsimp only at hSw); go_simp; (try with_reducible rfl))
              try simp only [Act.put, List.setIfInBounds_toArray, List.set_cons_zero, List.set_cons_succ]
              refine wpAnyH_take (i := 8) (oi := { dst := some 113, op := Go.Op.extract (Go.Operand.tmp 105) 0, type := 26, pos := "law.go:47", after := #[{ on := 7, ground := Go.Ground.data }], guard := none }) (v := ?v14009) rfl (by kernel_rfl) (by kernel_rfl) (by kernel_rfl) (fun _ _ _ h => h) (Or.inl ⟨by rfl, ?y14009⟩) hHeld ?r14009
              case y14009 => (intro w' hSw; (try dsimp only at hSw); go_simp; (try with_reducible rfl))
              try simp only [Act.put, List.setIfInBounds_toArray, List.set_cons_zero, List.set_cons_succ]
              refine wpAnyH_take (i := 9) (oi := { dst := some 114, op := Go.Op.extract (Go.Operand.tmp 105) 1, type := 28, pos := "law.go:47", after := #[{ on := 7, ground := Go.Ground.data }, { on := 10, ground := Go.Ground.gcOnly Go.Departure.lateStores }], guard := none }) (v := ?v14010) rfl (by kernel_rfl) (by kernel_rfl) (by kernel_rfl) (fun _ _ _ h => h) (Or.inl ⟨by rfl, ?y14010⟩) hHeld ?r14010
              case y14010 => (intro w' hSw; (try dsimp only at hSw); go_simp; (try with_reducible rfl))
              try simp only [Act.put, List.setIfInBounds_toArray, List.set_cons_zero, List.set_cons_succ]
              refine wpAnyH_ready (rs := [10]) (by kernel_rfl) (by simp) ?_
              refine AllReadyH.cons (o := { dst := none, op := Go.Op.store 26 (Go.Operand.tmp 4) (Go.Operand.tmp 113), type := 0, pos := "law.go:47", after := #[{ on := 8, ground := Go.Ground.data }, { on := 6, ground := Go.Ground.chain }, { on := 0, ground := Go.Ground.phase }, { on := 1, ground := Go.Ground.phase }, { on := 2, ground := Go.Ground.phase }, { on := 3, ground := Go.Ground.phase }, { on := 4, ground := Go.Ground.phase }, { on := 5, ground := Go.Ground.phase }, { on := 6, ground := Go.Ground.phase }, { on := 7, ground := Go.Ground.phase }, { on := 8, ground := Go.Ground.phase }, { on := 9, ground := Go.Ground.textOnly Go.Departure.lateStores }], guard := none }) rfl (fun K hK => ?_) ?_
              · refine step_su rfl (.tmp 4) (.tmp 113) rfl w1.heap.size c3 s3 c1.toList DB14007 HB5.out.len h3 (fun _ k => h3.keepNe k hf3 hDlt) rfl rfl ?_
                intro wS BS KS
                have KF : Keep [w1.heap.size] w5 wS := (K14007.mono (by simp)).trans KS
                refine hK.out _ _ ?_ (fun hHeld => ?_)
                · exact ⟨rangeAt_keep HRG.out KF (by simp <;> omega), rangeAt_keep HRG'.out KF (by simp <;> omega)⟩
                clear hK K
                try simp only [Act.put, List.setIfInBounds_toArray, List.set_cons_zero, List.set_cons_succ]
                refine wpAnyH_take (i := 11) (oi := { dst := some 5, op := Go.Op.assign (Go.Operand.tmp 114), type := 28, pos := "law.go:47", after := #[{ on := 9, ground := Go.Ground.data }, { on := 10, ground := Go.Ground.chain }, { on := 0, ground := Go.Ground.phase }, { on := 1, ground := Go.Ground.phase }, { on := 2, ground := Go.Ground.phase }, { on := 3, ground := Go.Ground.phase }, { on := 4, ground := Go.Ground.phase }, { on := 5, ground := Go.Ground.phase }, { on := 6, ground := Go.Ground.phase }, { on := 7, ground := Go.Ground.phase }, { on := 8, ground := Go.Ground.phase }, { on := 9, ground := Go.Ground.phase }, { on := 10, ground := Go.Ground.phase }], guard := none }) (v := ?v14012) rfl (by kernel_rfl) (by kernel_rfl) (by kernel_rfl) (fun _ _ _ h => h) (Or.inl ⟨by rfl, ?y14012⟩) hHeld ?r14012
                case y14012 => (intro w' hSw; (try dsimp only at hSw); go_simp; (try with_reducible rfl))
                try simp only [Act.put, List.setIfInBounds_toArray, List.set_cons_zero, List.set_cons_succ]
                refine wpAnyH_done (by kernel_rfl) ?_ _
                have HKF := Lib.hid KF
                have HBS := Lib.hid BS
                have HF3 := Lib.hid (FreshV.le hf3 (by first | exact KR.size | exact (KD).size | omega : w5.heap.size ≤ _))
                clear hHeld KF BS KS
                go_wp2_with fail
                go_meet
                case rel => exact ⟨c3, rfl, HKF.out, HBS.out, HF3.out⟩
              exact AllReadyH.nil
            exact AllReadyH.nil
          case rest =>
            obtain ⟨c3, rfl, hK6, hS6, hF6⟩ := hcut
            obtain ⟨w6, rfl⟩ : ∃ w6, w6 = wc := ⟨_, rfl⟩
            have hs56 := hK6.size
            have k6 : Keep [] w w6 := HK5.out.fresh hK6 (by simp; omega)
            have HK6 := Lib.hid k6
            have HL2 := Lib.hid HC5.out.2.size7
            have HC6 := Lib.hid (show Blk w6 w3.heap.size 26 c2.toList from hK6.blk HC5.out.1 (by simp; omega))
            have HS6 := Lib.hid hS6
            have HF6 := Lib.hid hF6
            clear hK6 hS6 hF6 k6 HRG HSU HRG' HSU' HC5 HB5
            have HRG := Lib.hid (rangeAt_keep HRG0.out HK6.out (by simp))
            have HSU := Lib.hid (HSU0.out.keep HK6.out)
            have HRG' := Lib.hid (rangeAt_keep HRG0'.out HK6.out (by simp))
            have HSU' := Lib.hid (HSU0'.out.keep HK6.out)
            have hlt6' : w3.heap.size < w6.heap.size := by omega
            go_wp2_with fail
            go_cut [7] (fun z wc => ∃ c3 : Array Value, z = .int .i64 e3 ∧ Keep [w3.heap.size] w6 wc ∧ SBox wc w3.heap.size c3 s3 ∧ FreshV w6.heap.size (.agg c3))
            case first =>
              have KD : Keep [] w6 w6.drew := (Keep.refl _ _).drew
              have KR : Keep [] w6 w6 := Keep.refl _ _
              refine wp_region_held_drew (S := fun v : World => v.rangeAt g off cs.toList ∧ v.rangeAt g' off' cs'.toList) (by kernel_rfl) ⟨HRG.out, HRG'.out⟩ (fun hHeld => ?_)
              change wpAnyH _ _ _ _ _ 12 (Array.replicate 12 false) _ _
              refine wpAnyH_take (i := 0) (oi := { dst := some 116, op := Go.Op.move (Go.Operand.tmp 0), type := 34, pos := "law.go:48", after := #[], guard := none }) (v := ?v15001) rfl (by kernel_rfl) (by kernel_rfl) (by kernel_rfl) (fun _ _ _ h => h) (Or.inl ⟨by rfl, ?y15001⟩) hHeld ?r15001
              case y15001 => (intro w' hSw; (try dsimp only at hSw); go_simp; (try with_reducible rfl))
              try simp only [Act.put, List.setIfInBounds_toArray, List.set_cons_zero, List.set_cons_succ]
              refine wpAnyH_take (i := 1) (oi := { dst := some 117, op := Go.Op.indexAddr 34 (Go.Operand.tmp 116) (Go.Operand.const (Go.Value.int Go.IntKind.i64 0)), type := 0, pos := "law.go:48", after := #[{ on := 0, ground := Go.Ground.data }], guard := none }) (v := ?v15002) rfl (by kernel_rfl) (by kernel_rfl) (by kernel_rfl) (fun _ _ _ h => h) (Or.inl ⟨by rfl, ?y15002⟩) hHeld ?r15002
              case y15002 => (intro w' hSw; (try dsimp only at hSw); go_simp; (try with_reducible rfl))
              try simp only [Act.put, List.setIfInBounds_toArray, List.set_cons_zero, List.set_cons_succ]
              refine wpAnyH_take (i := 2) (oi := { dst := some 118, op := Go.Op.load 26 (Go.Operand.tmp 117), type := 26, pos := "law.go:48", after := #[{ on := 1, ground := Go.Ground.data }], guard := none }) (v := .agg cs) rfl (by kernel_rfl) (by kernel_rfl) (by kernel_rfl) (fun _ _ _ h => h) (yields_su rfl (.tmp 117) rfl (g) (off) cs rfl HSU.out.size7 (fun v hS => hS.1)) hHeld ?_
              try simp only [Act.put, List.setIfInBounds_toArray, List.set_cons_zero, List.set_cons_succ]
              refine wpAnyH_take (i := 3) (oi := { dst := some 119, op := Go.Op.move (Go.Operand.tmp 0), type := 34, pos := "law.go:48", after := #[], guard := none }) (v := ?v15004) rfl (by kernel_rfl) (by kernel_rfl) (by kernel_rfl) (fun _ _ _ h => h) (Or.inl ⟨by rfl, ?y15004⟩) hHeld ?r15004
              case y15004 => (intro w' hSw; (try dsimp only at hSw); go_simp; (try with_reducible rfl))
              try simp only [Act.put, List.setIfInBounds_toArray, List.set_cons_zero, List.set_cons_succ]
              refine wpAnyH_take (i := 4) (oi := { dst := some 120, op := Go.Op.indexAddr 34 (Go.Operand.tmp 119) (Go.Operand.const (Go.Value.int Go.IntKind.i64 1)), type := 0, pos := "law.go:48", after := #[{ on := 3, ground := Go.Ground.data }], guard := none }) (v := ?v15005) rfl (by kernel_rfl) (by kernel_rfl) (by kernel_rfl) (fun _ _ _ h => h) (Or.inl ⟨by rfl, ?y15005⟩) hHeld ?r15005
              case y15005 => (intro w' hSw; (try dsimp only at hSw); go_simp; (try with_reducible rfl))
              try simp only [Act.put, List.setIfInBounds_toArray, List.set_cons_zero, List.set_cons_succ]
              refine wpAnyH_take (i := 5) (oi := { dst := some 121, op := Go.Op.load 26 (Go.Operand.tmp 120), type := 26, pos := "law.go:48", after := #[{ on := 4, ground := Go.Ground.data }], guard := none }) (v := .agg cs') rfl (by kernel_rfl) (by kernel_rfl) (by kernel_rfl) (fun _ _ _ h => h) (yields_su rfl (.tmp 120) rfl (g') (off') cs' rfl HSU'.out.size7 (fun v hS => hS.2)) hHeld ?_
              try simp only [Act.put, List.setIfInBounds_toArray, List.set_cons_zero, List.set_cons_succ]
              refine wpAnyH_ready (rs := [6]) (by kernel_rfl) (by simp) ?_
              refine AllReadyH.cons (o := { dst := some 122, op := Go.Op.call { callee := Go.Callee.value (Go.Operand.func 20), args := #[Go.Operand.tmp 118, Go.Operand.tmp 121], argTypes := #[26, 26] }, type := 29, pos := "law.go:48", after := #[{ on := 2, ground := Go.Ground.data }, { on := 5, ground := Go.Ground.data }], guard := none }) rfl (fun K hK => ?_) ?_
              · go_simp
                have hDlt := (KD.blk HC6.out (by simp)).lt
                refine (refcompose_any _ _ x y _ (HSU.out.keep KD) (HSU'.out.keep KD)).mono ?_
                rintro e w15007 ⟨c3, rfl, h3, Kc15007, hf3⟩
                rw [← HS3.out] at h3
                rw [← HE3.out]
                have K15007 : Keep [] w6 w15007 := KD.trans Kc15007
                have DB15007 := Kc15007.blk (KD.blk HC6.out (by simp)) (by simp)
                refine hK.out _ _ ?_ (fun hHeld => ?_)
                · exact ⟨rangeAt_keep HRG.out K15007 (by simp <;> omega), rangeAt_keep HRG'.out K15007 (by simp <;> omega)⟩
                clear hK K
                try simp only [Act.put, List.setIfInBounds_toArray, List.set_cons_zero, List.set_cons_succ]
                refine wpAnyH_take (i := 7) (oi := { dst := some 115, op := Go.Op.move (Go.Operand.tmp 122), type := 29, pos := "law.go:48", after := #[{ on := 6, ground := Go.Ground.data }], guard := none }) (v := ?v15008) rfl (by kernel_rfl) (by kernel_rfl) (by kernel_rfl) (fun _ _ _ h => h) (Or.inl ⟨by rfl, ?y15008⟩) hHeld ?r15008
                case y15008 => (intro w' hSw; (try dsimp only at hSw); go_simp; (try with_reducible rfl))
                try simp only [Act.put, List.setIfInBounds_toArray, List.set_cons_zero, List.set_cons_succ]
                refine wpAnyH_take (i := 8) (oi := { dst := some 123, op := Go.Op.extract (Go.Operand.tmp 115) 0, type := 26, pos := "law.go:48", after := #[{ on := 7, ground := Go.Ground.data }], guard := none }) (v := ?v15009) rfl (by kernel_rfl) (by kernel_rfl) (by kernel_rfl) (fun _ _ _ h => h) (Or.inl ⟨by rfl, ?y15009⟩) hHeld ?r15009
                case y15009 => (intro w' hSw; (try dsimp only at hSw); go_simp; (try with_reducible rfl))
                try simp only [Act.put, List.setIfInBounds_toArray, List.set_cons_zero, List.set_cons_succ]
                refine wpAnyH_take (i := 9) (oi := { dst := some 124, op := Go.Op.extract (Go.Operand.tmp 115) 1, type := 28, pos := "law.go:48", after := #[{ on := 7, ground := Go.Ground.data }, { on := 10, ground := Go.Ground.gcOnly Go.Departure.lateStores }], guard := none }) (v := ?v15010) rfl (by kernel_rfl) (by kernel_rfl) (by kernel_rfl) (fun _ _ _ h => h) (Or.inl ⟨by rfl, ?y15010⟩) hHeld ?r15010
                case y15010 => (intro w' hSw; (try dsimp only at hSw); go_simp; (try with_reducible rfl))
                try simp only [Act.put, List.setIfInBounds_toArray, List.set_cons_zero, List.set_cons_succ]
                refine wpAnyH_ready (rs := [10]) (by kernel_rfl) (by simp) ?_
                refine AllReadyH.cons (o := { dst := none, op := Go.Op.store 26 (Go.Operand.tmp 6) (Go.Operand.tmp 123), type := 0, pos := "law.go:48", after := #[{ on := 8, ground := Go.Ground.data }, { on := 6, ground := Go.Ground.chain }, { on := 0, ground := Go.Ground.phase }, { on := 1, ground := Go.Ground.phase }, { on := 2, ground := Go.Ground.phase }, { on := 3, ground := Go.Ground.phase }, { on := 4, ground := Go.Ground.phase }, { on := 5, ground := Go.Ground.phase }, { on := 6, ground := Go.Ground.phase }, { on := 7, ground := Go.Ground.phase }, { on := 8, ground := Go.Ground.phase }, { on := 9, ground := Go.Ground.textOnly Go.Departure.lateStores }], guard := none }) rfl (fun K hK => ?_) ?_
                · refine step_su rfl (.tmp 6) (.tmp 123) rfl w3.heap.size c3 s3 c2.toList DB15007 (by simpa using HL2.out) h3 (fun _ k => h3.keepNe k hf3 hDlt) rfl rfl ?_
                  intro wS BS KS
                  have KF : Keep [w3.heap.size] w6 wS := (K15007.mono (by simp)).trans KS
                  refine hK.out _ _ ?_ (fun hHeld => ?_)
                  · exact ⟨rangeAt_keep HRG.out KF (by simp <;> omega), rangeAt_keep HRG'.out KF (by simp <;> omega)⟩
                  clear hK K
                  try simp only [Act.put, List.setIfInBounds_toArray, List.set_cons_zero, List.set_cons_succ]
                  refine wpAnyH_take (i := 11) (oi := { dst := some 7, op := Go.Op.assign (Go.Operand.tmp 124), type := 28, pos := "law.go:48", after := #[{ on := 9, ground := Go.Ground.data }, { on := 10, ground := Go.Ground.chain }, { on := 0, ground := Go.Ground.phase }, { on := 1, ground := Go.Ground.phase }, { on := 2, ground := Go.Ground.phase }, { on := 3, ground := Go.Ground.phase }, { on := 4, ground := Go.Ground.phase }, { on := 5, ground := Go.Ground.phase }, { on := 6, ground := Go.Ground.phase }, { on := 7, ground := Go.Ground.phase }, { on := 8, ground := Go.Ground.phase }, { on := 9, ground := Go.Ground.phase }, { on := 10, ground := Go.Ground.phase }], guard := none }) (v := ?v15012) rfl (by kernel_rfl) (by kernel_rfl) (by kernel_rfl) (fun _ _ _ h => h) (Or.inl ⟨by rfl, ?y15012⟩) hHeld ?r15012
                  case y15012 => (intro w' hSw; (try dsimp only at hSw); go_simp; (try with_reducible rfl))
                  try simp only [Act.put, List.setIfInBounds_toArray, List.set_cons_zero, List.set_cons_succ]
                  refine wpAnyH_done (by kernel_rfl) ?_ _
                  have HKF := Lib.hid KF
                  have HBS := Lib.hid BS
                  have HF3 := Lib.hid (FreshV.le hf3 (by first | exact KR.size | exact (KD).size | omega : w6.heap.size ≤ _))
                  clear hHeld KF BS KS
                  go_wp2_with fail
                  go_meet
                  case rel => exact ⟨c3, rfl, HKF.out, HBS.out, HF3.out⟩
                exact AllReadyH.nil
              exact AllReadyH.nil
            case rest =>
              obtain ⟨c4, rfl, hK7, hS7, hF7⟩ := hcut
              obtain ⟨w7, rfl⟩ : ∃ w7, w7 = wc := ⟨_, rfl⟩
              have k7 : Keep [] w w7 := HK6.out.fresh hK7 (by simp; omega)
              have HK7 := Lib.hid k7
              have HB7 := Lib.hid (show SBox w7 w1.heap.size c3 s3 from ⟨hK7.blk HS6.out.1 (by simp; omega), HS6.out.2.keepNe hK7 HF6.out (by omega)⟩)
              have HC7 := Lib.hid hS7
              have hee : (e3 == e3) = true := by simp
              clear hK7 hS7 hF7 k7 hidx0 hidx1 HRG HSU HRG' HSU'
              go_wp2_with (first | (refine wpList_load_sb rfl (.tmp 4) rfl w1.heap.size c3 s3 HB7.out rfl ?_) | (refine wpList_load_sb rfl (.tmp 6) rfl w3.heap.size c4 s3 HC7.out rfl ?_))
              refine (same_any _ _ s3 s3 true (decide_eq_true rfl).symm _ HB7.out.2 HC7.out.2).mono ?_
              rintro e w8 ⟨rfl, K8⟩
              have HK8 := Lib.hid (HK7.out.trans K8)
              clear K8
              go_wp2_with fail
              refine (awakeK w HM.out HK8.out).mono ?_
              rintro e w9 ⟨rfl, K9⟩
              have HK9 := Lib.hid (HK8.out.trans K9)
              clear K9
              go_wp2_with fail
              go_ret
              exact ⟨rfl, HK9.out⟩
end Go.Proofs.YtomhlmfekmnajaaDoor
