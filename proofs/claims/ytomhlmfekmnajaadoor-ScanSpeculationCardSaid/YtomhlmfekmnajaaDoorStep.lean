/- Step of the automaton. -/
import Derived.Test.YtomhlmfekmnajaaDoorSum
import Derived.Deep.RegionHeld3
namespace Go.Proofs.YtomhlmfekmnajaaDoor
open Go.RowKit
set_option linter.unusedVariables false

set_option maxHeartbeats 400000 in
theorem step_no (k b : Int) (w : World) (h : ¬ (0 ≤ k ∧ k ≤ 2)) : Calls Tryd.prog 60 #[.int .i64 k, .int .u8 b] w fun e w' => e = .returned (.tuple #[.int .i64 0, .bool false]) ∧ w' = w := by
  have hd : decide (0 ≤ k ∧ k ≤ 2) = false := decide_eq_false h
  have HD := Lib.hid hd
  clear hd h
  go_enter Tryd.func60, Tryd.ntmps60
  go_wp2_with fail
  refine (known_any k _).mono ?_
  rintro e w' ⟨rfl, rfl⟩
  rw [HD.out]
  go_wp2_with fail
  go_ret2
  exact ⟨rfl, rfl⟩

set_option maxHeartbeats 1000000 in
theorem step_at (k j : Nat) (b : Int) (hj : j = classOf b) (n : Int) (s : Bool) (w : World) (h : k ≤ 2) (c1 : w.cell? ⟨0, k * 8 + j * 2, none⟩ = some (.int .i64 n)) (c2 : w.cell? ⟨0, k * 8 + j * 2 + 1, none⟩ = some (.bool s)) :
    Calls Tryd.prog 60 #[.int .i64 k, .int .u8 b] w fun e w' => e = .returned (.tuple #[.int .i64 n, .bool s]) ∧ Keep [] w w' := by
  have hd : decide (0 ≤ (k : Int) ∧ (k : Int) ≤ 2) = true := decide_eq_true (by omega)
  have HD := Lib.hid hd
  clear hd
  have hj4 : j < 4 := by rw [hj]; exact classOf_lt b
  have HJ := Lib.hid hj
  clear hj
  have hz := World.block_lt_of_cell? _ _ c1
  simp only at hz
  have hz2 : ¬ w.heap.size = 0 := by omega
  have hk3 : (k : Int) < 3 := by omega
  have hj4' : (j : Int) < 4 := by omega
  have s0 := And.intro c1 c2
  clear c1 c2
  go_enter Tryd.func60, Tryd.ntmps60
  go_wp2_with fail
  refine (known_any _ _).mono ?_
  rintro e w' ⟨rfl, rfl⟩
  rw [HD.out]
  go_wp2_with fail
  refine wp_region_held_drew (S := fun v : World => v.cell? ⟨0, k * 8 + j * 2, none⟩ = some (.int .i64 n) ∧ v.cell? ⟨0, k * 8 + j * 2 + 1, none⟩ = some (.bool s)) (by kernel_rfl) s0 (fun hHeld => ?_)
  change wpAnyH _ _ _ _ _ 8 (Array.replicate 8 false) _ _
  refine wpAnyH_take (i := 0) (oi := { dst := some 10, op := Go.Op.move (Go.Operand.tmp 0), type := 3, pos := "automaton.go:39", after := #[], guard := none }) (v := ?v1) rfl (by kernel_rfl) (by kernel_rfl) (by kernel_rfl) (fun _ _ _ h => h) (Or.inl ⟨by rfl, ?y1⟩) hHeld ?r1
  case y1 => (intro w' hSw; (try dsimp only at hSw); go_simp; (try with_reducible rfl))
  try simp only [Act.put, List.setIfInBounds_toArray, List.set_cons_zero, List.set_cons_succ]
  refine wpAnyH_take (i := 1) (oi := { dst := some 11, op := Go.Op.move (Go.Operand.tmp 1), type := 5, pos := "automaton.go:39", after := #[], guard := none }) (v := ?v2) rfl (by kernel_rfl) (by kernel_rfl) (by kernel_rfl) (fun _ _ _ h => h) (Or.inl ⟨by rfl, ?y2⟩) hHeld ?r2
  case y2 => (intro w' hSw; (try dsimp only at hSw); go_simp; (try with_reducible rfl))
  try simp only [Act.put, List.setIfInBounds_toArray, List.set_cons_zero, List.set_cons_succ]
  refine wpAnyH_take (i := 3) (oi := { dst := some 13, op := Go.Op.indexAddr 108 (Go.Operand.global 0) (Go.Operand.tmp 10), type := 0, pos := "automaton.go:39", after := #[{ on := 0, ground := Go.Ground.data }], guard := none }) (v := ?v3) rfl (by kernel_rfl) (by kernel_rfl) (by kernel_rfl) (fun _ _ _ h => h) (Or.inl ⟨by rfl, ?y3⟩) hHeld ?r3
  case y3 => (intro w' hSw; (try dsimp only at hSw); go_simp; (try with_reducible rfl))
  try simp only [Act.put, List.setIfInBounds_toArray, List.set_cons_zero, List.set_cons_succ]
  refine wpAnyH_ready (rs := [2, 6]) (by kernel_rfl) (by simp) ?_
  refine AllReadyH.cons (o := { dst := some 12, op := Go.Op.call { callee := Go.Callee.value (Go.Operand.func 75), args := #[Go.Operand.tmp 11], argTypes := #[5] }, type := 3, pos := "automaton.go:39", after := #[{ on := 1, ground := Go.Ground.data }], guard := none }) rfl (fun K hK => ?_) ?_
  · go_simp
    refine (class_any _ _).mono ?_
    rintro e w4 ⟨rfl, rfl⟩
    rw [← HJ.out]
    refine hK.out _ _ ?_ (fun hHeld => ?_)
    · first | exact s0 | exact ⟨((Keep.refl [] _).drew.alloc _).cell s0.1 (by simp), ((Keep.refl [] _).drew.alloc _).cell s0.2 (by simp)⟩
    clear hK K
    try simp only [Act.put, List.setIfInBounds_toArray, List.set_cons_zero, List.set_cons_succ]
    refine wpAnyH_take (i := 4) (oi := { dst := some 14, op := Go.Op.indexAddr 107 (Go.Operand.tmp 13) (Go.Operand.tmp 12), type := 0, pos := "automaton.go:39", after := #[{ on := 3, ground := Go.Ground.data }, { on := 2, ground := Go.Ground.data }], guard := none }) (v := ?v5) rfl (by kernel_rfl) (by kernel_rfl) (by kernel_rfl) (fun _ _ _ h => h) (Or.inl ⟨by rfl, ?y5⟩) hHeld ?r5
    case y5 => (intro w' hSw; (try dsimp only at hSw); go_simp; (try with_reducible rfl))
    try simp only [Act.put, List.setIfInBounds_toArray, List.set_cons_zero, List.set_cons_succ]
    refine wpAnyH_take (i := 5) (oi := { dst := some 15, op := Go.Op.load 106 (Go.Operand.tmp 14), type := 106, pos := "automaton.go:39", after := #[{ on := 4, ground := Go.Ground.data }], guard := none }) (v := ?v6) rfl (by kernel_rfl) (by kernel_rfl) (by kernel_rfl) (fun _ _ _ h => h) (Or.inl ⟨by rfl, ?y6⟩) hHeld ?r6
    case y6 => (intro w' hSw; (try dsimp only at hSw); go_simp; (try with_reducible rfl))
    try simp only [Act.put, List.setIfInBounds_toArray, List.set_cons_zero, List.set_cons_succ]
    refine wpAnyH_ready (rs := [6]) (by kernel_rfl) (by simp) ?_
    refine AllReadyH.cons (o := { dst := some 6, op := Go.Op.alloc 106, type := 0, pos := "automaton.go:39", after := #[], guard := none }) rfl (fun K hK => ?_) ?_
    · go_simp
      refine hK.out _ _ ?_ (fun hHeld => ?_)
      · first | exact s0 | exact ⟨((Keep.refl [] _).drew.alloc _).cell s0.1 (by simp), ((Keep.refl [] _).drew.alloc _).cell s0.2 (by simp)⟩
      clear hK K
      try simp only [Act.put, List.setIfInBounds_toArray, List.set_cons_zero, List.set_cons_succ]
      refine wpAnyH_ready (rs := [7]) (by kernel_rfl) (by simp) ?_
      refine AllReadyH.cons (o := { dst := none, op := Go.Op.store 106 (Go.Operand.tmp 6) (Go.Operand.tmp 15), type := 0, pos := "automaton.go:39", after := #[{ on := 6, ground := Go.Ground.data }, { on := 5, ground := Go.Ground.data }, { on := 2, ground := Go.Ground.chain }, { on := 0, ground := Go.Ground.phase }, { on := 1, ground := Go.Ground.phase }, { on := 2, ground := Go.Ground.phase }, { on := 3, ground := Go.Ground.phase }, { on := 4, ground := Go.Ground.phase }, { on := 5, ground := Go.Ground.phase }, { on := 6, ground := Go.Ground.phase }], guard := none }) rfl (fun K hK => ?_) ?_
      · go_simp
        refine hK.out _ _ ?_ (fun hHeld => ?_)
        · first | exact s0 | exact ⟨((Keep.refl [] _).drew.alloc _).cell s0.1 (by simp), ((Keep.refl [] _).drew.alloc _).cell s0.2 (by simp)⟩
        clear hK K
        try simp only [Act.put, List.setIfInBounds_toArray, List.set_cons_zero, List.set_cons_succ]
        refine wpAnyH_done (by kernel_rfl) ?_ _
        clear hHeld
        go_wp2_with fail
        go_quiet (fail)
        go_wp2_with fail
        go_ret2
        exact ⟨rfl, ((Keep.refl [] _).drew.alloc _).drewN _⟩
      exact AllReadyH.nil
    exact AllReadyH.nil
  refine AllReadyH.cons (o := { dst := some 6, op := Go.Op.alloc 106, type := 0, pos := "automaton.go:39", after := #[], guard := none }) rfl (fun K hK => ?_) ?_
  · go_simp
    refine hK.out _ _ ?_ (fun hHeld => ?_)
    · first | exact s0 | exact ⟨((Keep.refl [] _).drew.alloc _).cell s0.1 (by simp), ((Keep.refl [] _).drew.alloc _).cell s0.2 (by simp)⟩
    clear hK K
    try simp only [Act.put, List.setIfInBounds_toArray, List.set_cons_zero, List.set_cons_succ]
    refine wpAnyH_ready (rs := [2]) (by kernel_rfl) (by simp) ?_
    refine AllReadyH.cons (o := { dst := some 12, op := Go.Op.call { callee := Go.Callee.value (Go.Operand.func 75), args := #[Go.Operand.tmp 11], argTypes := #[5] }, type := 3, pos := "automaton.go:39", after := #[{ on := 1, ground := Go.Ground.data }], guard := none }) rfl (fun K hK => ?_) ?_
    · go_simp
      refine (class_any _ _).mono ?_
      rintro e w10 ⟨rfl, rfl⟩
      rw [← HJ.out]
      refine hK.out _ _ ?_ (fun hHeld => ?_)
      · first | exact s0 | exact ⟨((Keep.refl [] _).drew.alloc _).cell s0.1 (by simp), ((Keep.refl [] _).drew.alloc _).cell s0.2 (by simp)⟩
      clear hK K
      try simp only [Act.put, List.setIfInBounds_toArray, List.set_cons_zero, List.set_cons_succ]
      refine wpAnyH_take (i := 4) (oi := { dst := some 14, op := Go.Op.indexAddr 107 (Go.Operand.tmp 13) (Go.Operand.tmp 12), type := 0, pos := "automaton.go:39", after := #[{ on := 3, ground := Go.Ground.data }, { on := 2, ground := Go.Ground.data }], guard := none }) (v := ?v11) rfl (by kernel_rfl) (by kernel_rfl) (by kernel_rfl) (fun _ _ _ h => h) (Or.inl ⟨by rfl, ?y11⟩) hHeld ?r11
      case y11 => (intro w' hSw; (try dsimp only at hSw); go_simp; (try with_reducible rfl))
      try simp only [Act.put, List.setIfInBounds_toArray, List.set_cons_zero, List.set_cons_succ]
      refine wpAnyH_take (i := 5) (oi := { dst := some 15, op := Go.Op.load 106 (Go.Operand.tmp 14), type := 106, pos := "automaton.go:39", after := #[{ on := 4, ground := Go.Ground.data }], guard := none }) (v := ?v12) rfl (by kernel_rfl) (by kernel_rfl) (by kernel_rfl) (fun _ _ _ h => h) (Or.inl ⟨by rfl, ?y12⟩) hHeld ?r12
      case y12 => (intro w' hSw; (try dsimp only at hSw); go_simp; (try with_reducible rfl))
      try simp only [Act.put, List.setIfInBounds_toArray, List.set_cons_zero, List.set_cons_succ]
      refine wpAnyH_ready (rs := [7]) (by kernel_rfl) (by simp) ?_
      refine AllReadyH.cons (o := { dst := none, op := Go.Op.store 106 (Go.Operand.tmp 6) (Go.Operand.tmp 15), type := 0, pos := "automaton.go:39", after := #[{ on := 6, ground := Go.Ground.data }, { on := 5, ground := Go.Ground.data }, { on := 2, ground := Go.Ground.chain }, { on := 0, ground := Go.Ground.phase }, { on := 1, ground := Go.Ground.phase }, { on := 2, ground := Go.Ground.phase }, { on := 3, ground := Go.Ground.phase }, { on := 4, ground := Go.Ground.phase }, { on := 5, ground := Go.Ground.phase }, { on := 6, ground := Go.Ground.phase }], guard := none }) rfl (fun K hK => ?_) ?_
      · go_simp
        refine hK.out _ _ ?_ (fun hHeld => ?_)
        · first | exact s0 | exact ⟨((Keep.refl [] _).drew.alloc _).cell s0.1 (by simp), ((Keep.refl [] _).drew.alloc _).cell s0.2 (by simp)⟩
        clear hK K
        try simp only [Act.put, List.setIfInBounds_toArray, List.set_cons_zero, List.set_cons_succ]
        refine wpAnyH_done (by kernel_rfl) ?_ _
        clear hHeld
        go_wp2_with fail
        go_quiet (fail)
        go_wp2_with fail
        go_ret2
        exact ⟨rfl, ((Keep.refl [] _).drew.alloc _).drewN _⟩
      exact AllReadyH.nil
    exact AllReadyH.nil
  exact AllReadyH.nil

theorem step_yes (k : Nat) (b : Int) (w : World) (h : k ≤ 2) (hM : Moves w) : Calls Tryd.prog 60 #[.int .i64 k, .int .u8 b] w fun e w' => e = .returned (.tuple #[.int .i64 (nextOf k (classOf b)), .bool (endsOf k (classOf b))]) ∧ Keep [] w w' :=
  step_at k _ b rfl _ _ w h (hM k _ (by omega) (classOf_lt b)).1 (hM k _ (by omega) (classOf_lt b)).2
end Go.Proofs.YtomhlmfekmnajaaDoor
