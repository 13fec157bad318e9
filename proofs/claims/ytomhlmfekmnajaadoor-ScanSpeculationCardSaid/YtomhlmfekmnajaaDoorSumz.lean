/- Summarize of the automaton: the walk. -/
import Derived.Test.YtomhlmfekmnajaaDoorCompose
import Derived.Test.YtomhlmfekmnajaaDoorStep
namespace Go.Proofs.YtomhlmfekmnajaaDoor
open Go.RowKit
set_option linter.unusedVariables false

/-- The state in which i bytes leave who begins in k; the line feeds found on the way. -/
def exitAt (bs : List Int) (k : Nat) : Nat → Nat
  | 0 => k
  | i + 1 => (nextOf (exitAt bs k i) (classOf (bs.getD i 0))).toNat
def linesAt (bs : List Int) (k : Nat) : Nat → List Int
  | 0 => []
  | i + 1 => if endsOf (exitAt bs k i) (classOf (bs.getD i 0)) then linesAt bs k i ++ [(i : Int)] else linesAt bs k i
theorem nextOf_lt (k j : Nat) : 0 ≤ nextOf k j ∧ nextOf k j ≤ 2 := by unfold nextOf; split <;> omega
theorem exitAt_le (bs : List Int) (k i : Nat) (hk : k ≤ 2) : exitAt bs k i ≤ 2 := by
  cases i with
  | zero => exact hk
  | succ i => have := nextOf_lt (exitAt bs k i) (classOf (bs.getD i 0)); show (nextOf (exitAt bs k i) (classOf (bs.getD i 0))).toNat ≤ 2; omega
theorem linesAt_length (bs : List Int) (k i : Nat) : (linesAt bs k i).length ≤ i := by
  induction i with
  | zero => simp [linesAt]
  | succ i ih =>
    show (if endsOf (exitAt bs k i) (classOf (bs.getD i 0)) then linesAt bs k i ++ [(i : Int)] else linesAt bs k i).length ≤ i + 1
    split
    · rw [List.length_append, List.length_singleton]; omega
    · omega
def summaryOf (bs : List Int) : Su := ⟨bs.length, exitAt bs 0 bs.length, exitAt bs 1 bs.length, exitAt bs 2 bs.length, linesAt bs 0 bs.length, linesAt bs 1 bs.length, linesAt bs 2 bs.length⟩
def summarize (bs : List Int) : Su × Int := if bs.length ≤ 1048576 then (summaryOf bs, 0) else (Su.zero, 2)
def bytesOf (s : ByteArray) : List Int := s.data.toList.map (fun b => (b.toNat : Int))
theorem bytesOf_length (s : ByteArray) : (bytesOf s).length = s.size := by unfold bytesOf; rw [List.length_map, Array.length_toList]; rfl

/-- The cells of the summary that is built, ahead of round k. -/
def zc (bs : List Int) (k : Nat) (L : Nat → Value) : List Value :=
  [.int .i64 bs.length, .int .i64 (if 0 < k then exitAt bs 0 bs.length else 0 : Nat), .int .i64 (if 1 < k then exitAt bs 1 bs.length else 1 : Nat), .int .i64 (if 2 < k then exitAt bs 2 bs.length else 2 : Nat), L 0, L 1, L 2]
theorem zc_start (bs : List Int) (k : Nat) (L : Nat → Value) (hk : k < 3) : ((zc bs k L).set (1 + k) (.int .i64 (k : Nat))).set (4 + k) (L k) = zc bs k L := by
  obtain rfl | rfl | rfl : k = 0 ∨ k = 1 ∨ k = 2 := by omega
  all_goals simp [zc]
theorem zc_e (bs : List Int) (k : Nat) (L : Nat → Value) (u v : Value) (hk : k < 3) : (((zc bs k L).set (1 + k) u).set (4 + k) v)[1 + k]? = some u := by
  obtain rfl | rfl | rfl : k = 0 ∨ k = 1 ∨ k = 2 := by omega
  all_goals rfl
theorem zc_l (bs : List Int) (k : Nat) (L : Nat → Value) (u v : Value) (hk : k < 3) : (((zc bs k L).set (1 + k) u).set (4 + k) v)[4 + k]? = some v := by
  obtain rfl | rfl | rfl : k = 0 ∨ k = 1 ∨ k = 2 := by omega
  all_goals rfl
theorem zc_step (bs : List Int) (k : Nat) (L : Nat → Value) (v : Value) (hk : k < 3) : (((zc bs k L).set (1 + k) (.int .i64 (exitAt bs k bs.length))).set (4 + k) v) = zc bs (k + 1) (upd L k v) := by
  obtain rfl | rfl | rfl : k = 0 ∨ k = 1 ∨ k = 2 := by omega
  all_goals simp [zc, upd]
theorem zc_set1 (bs : List Int) (k : Nat) (L : Nat → Value) (u u' v : Value) (hk : k < 3) : ((((zc bs k L).set (1 + k) u).set (4 + k) v).set (1 + k) u') = (((zc bs k L).set (1 + k) u').set (4 + k) v) := by
  obtain rfl | rfl | rfl : k = 0 ∨ k = 1 ∨ k = 2 := by omega
  all_goals simp [zc]
theorem zc_set4 (bs : List Int) (k : Nat) (L : Nat → Value) (u v v' : Value) : ((((zc bs k L).set (1 + k) u).set (4 + k) v).set (4 + k) v') = (((zc bs k L).set (1 + k) u).set (4 + k) v') := by simp [List.set_set]

theorem own_keep {w w' : World} {base : Nat} {e : TypeId} {size : Nat} {v : Value} {n : Nat} {xs : List Value} (h : w.ownsRow base e size v n xs) (k : Keep [] w w') : w'.ownsRow base e size v n xs := by
  refine ⟨h.1, ?_⟩
  rcases h.2 with hn | ⟨g, cap, cur, hv, hb, hg, rest⟩
  · exact .inl hn
  · exact .inr ⟨g, cap, cur, hv, hb, (k.block g (Array.getElem?_eq_some_iff.1 hg).1 (by simp)).trans hg, rest⟩

theorem sumz_su {wk V : World} {b : Nat} {cs : List Value} {bs : List Int} {L : Nat → Value} {v0 v1 v2 : Value} (hb : Blk wk b 26 cs) (K : Keep [b] wk V) (hR : ∀ j, j < 3 → ∃ n, Row wk (L j) 3 1 n ((linesAt bs j bs.length).map (Value.int .i64))) (h0 : L 0 = v0) (h1 : L 1 = v1) (h2 : L 2 = v2) :
    SuV V (.agg #[.int .i64 bs.length, .int .i64 (exitAt bs 0 bs.length), .int .i64 (exitAt bs 1 bs.length), .int .i64 (exitAt bs 2 bs.length), v0, v1, v2]) (summaryOf bs) := by
  have h : ∀ j, j < 3 → Ints V (L j) (linesAt bs j bs.length) := by
    intro j hj
    obtain ⟨n, hn⟩ := hR j hj
    have h1 := hn.1
    simp only [List.length_map, Nat.mul_one] at h1
    have h2 := Row.keep hn K (by
      intro b' hb' cs' hc
      simp only [List.mem_singleton] at hb'
      subst hb'
      exact hb.neR hc (by decide) rfl)
    exact Ints.of_row (Row.cast h2 h1.symm)
  exact ⟨_, _, _, rfl, h0 ▸ h 0 (by omega), h1 ▸ h 1 (by omega), h2 ▸ h 2 (by omega)⟩

def SumPost (bs : List Int) (w : World) (e : Ending) (w' : World) : Prop := ∃ v, e = .returned (.tuple #[v, .int .i64 (summarize bs).2]) ∧ SuV w' v (summarize bs).1 ∧ Keep [] w w' ∧ FreshV w.heap.size v

set_option maxHeartbeats 4000000 in
set_option maxRecDepth 100000 in
theorem summarize_any (s : ByteArray) (w : World) (hM : Moves w) (hs : s.size ≤ 1048576) : Calls Tryd.prog 26 #[.string s] w (SumPost (bytesOf s) w) := by
  obtain ⟨bs, hbs⟩ : ∃ bs, bs = bytesOf s := ⟨_, rfl⟩
  have hbl : bs.length = s.size := by rw [hbs, bytesOf_length]
  have hidx : ∀ (i : Nat), i < s.size → ∀ W : World, (Instr.index 9 (.string s) (.int .i64 (i : Int))).run Tryd.prog W = .ok (.int .u8 ((bytesOf s).getD i 0)) W := by
    intro i hi W
    rw [run_index_string W 9 s .i64 i Tryd.underlying9, dif_pos ⟨by omega, by omega⟩]
    have h1 : i < (bytesOf s).length := by rw [bytesOf_length]; exact hi
    rw [List.getD, List.getElem?_eq_getElem h1]
    simp [bytesOf]
    rfl
  rw [← hbs] at hidx ⊢
  have HIDX := Lib.hid hidx
  have hcp : summarize bs = (summaryOf bs, 0) := by simp [summarize, hbl, hs]
  have HCP := Lib.hid hcp
  have HM := Lib.hid hM
  have HBL := Lib.hid hbl
  clear hbs hidx hcp hM hbl
  generalize hWb : w.alloc (.cells #[.int .i64 0, .int .i64 0, .int .i64 0, .int .i64 0, .slice none 0 0, .slice none 0 0, .slice none 0 0] 26) = Wb
  have KW : Keep [] w Wb := by rw [← hWb]; exact (Keep.refl [] w).alloc _
  have D : Blk Wb w.heap.size 26 [.int .i64 0, .int .i64 0, .int .i64 0, .int .i64 0, .slice none 0 0, .slice none 0 0, .slice none 0 0] := by rw [← hWb]; exact Blk.new w #[.int .i64 0, .int .i64 0, .int .i64 0, .int .i64 0, .slice none 0 0, .slice none 0 0, .slice none 0 0] 26
  have HWb := Lib.hid hWb
  have HD := Lib.hid D
  have HKW := Lib.hid KW
  clear hWb D KW
  have hdec : decide (1048576 < (s.size : Int)) = false := decide_eq_false (by omega)
  go_enter Tryd.func26, Tryd.ntmps26
  go_wp2_with fail
  rw [HWb.out]
  refine (empty_any _).mono ?_
  rintro e w2 ⟨rfl, K2⟩
  have KK := Lib.hid (HKW.out.trans K2)
  have D2 := K2.blk HD.out (by simp)
  have HD2 := Lib.hid D2
  have hsz := D2.lt
  have HO := Lib.hid (Blk.new w2 #[.int .i64 s.size, .int .i64 0, .int .i64 1, .int .i64 2, .slice none 0 0, .slice none 0 0, .slice none 0 0] 26)
  clear K2 D2
  unfold emptyV
  go_wp2_with fail
  obtain ⟨i3, hi3, hz0, hz1, hz2⟩ := info_parts Tryd.info3
  obtain ⟨O, hO⟩ : ∃ O, O = w2.heap.size := ⟨_, rfl⟩
  rw [← hO] at hsz
  rw [← hO] at HO ⊢
  have hO2 := Lib.hid hO
  have KO := Lib.hid ((Keep.refl [] w2).alloc (.cells #[.int .i64 s.size, .int .i64 0, .int .i64 1, .int .i64 2, .slice none 0 0, .slice none 0 0, .slice none 0 0] 26))
  have hsz0 : w2.heap.size ≤ O := by rw [hO]; exact Nat.le_refl _
  clear hO hdec
  go_loopw [17] (fun i wr => ∃ (k : Nat) (L : Nat → Value), k ≤ 3 ∧ i = .int .i64 k ∧ Keep [] w2 wr ∧ Blk wr O 26 (zc bs k L) ∧ (∀ j, k ≤ j → L j = .slice none 0 0) ∧ ∀ j, j < k → ∃ n, Row wr (L j) 3 1 n ((linesAt bs j bs.length).map (Value.int .i64)) ∧ ∀ b, (L j).ownBlock = some b → w.heap.size ≤ b) (fun i _ => 3 - (intOf i).toNat)
  case atStart => exact ⟨0, fun _ => .slice none 0 0, by omega, rfl, KO.out, by rw [zc, HBL.out]; exact HO.out, fun _ _ => rfl, fun j hj => by omega⟩
  case round =>
    obtain ⟨k, L, hk, rfl, hK, hOb, hL, hR⟩ := hrel
    obtain ⟨wk, rfl⟩ : ∃ wk, wk = wr := ⟨_, rfl⟩
    clear HO KO
    by_cases hk3 : k < 3
    · have hLk := hL k (Nat.le_refl _)
      have HLk := Lib.hid hLk
      have HL := Lib.hid hL
      have HR := Lib.hid hR
      have HOb := Lib.hid hOb
      have HK2 := Lib.hid hK
      have osz := hOb.lt
      have hk3' : (k : Int) < 3 := by omega
      clear hK hOb hL hR hLk
      go_wp2_with fail
      go_loopw [22] (fun i wj => ∃ (j : Nat) (v : Value), j ≤ s.size ∧ i = .int .i64 j ∧ Keep [O] wk wj ∧ Blk wj O 26 (((zc bs k L).set (1 + k) (.int .i64 (exitAt bs k j))).set (4 + k) v) ∧ wj.ownsRow wk.heap.size 3 1 v (linesAt bs k j).length ((linesAt bs k j).map (Value.int .i64))) (fun i _ => s.size - (intOf i).toNat)
      case atStart => exact ⟨0, .slice none 0 0, by omega, rfl, Keep.refl _ _, by have := zc_start bs k L hk3; rw [HLk.out] at this; rw [exitAt, this]; exact HOb.out, World.ownsRow_nil _ _ _ _⟩
      case round =>
        obtain ⟨j, v, hj, rfl, hKj, hOj, hOwn⟩ := hrel
        obtain ⟨wj, rfl⟩ : ∃ wj, wj = wr := ⟨_, rfl⟩
        have HKj := Lib.hid hKj
        have HOj := Lib.hid hOj
        have HOwn := Lib.hid hOwn
        have KJ2 : Keep [] w2 wj := HK2.out.fresh hKj (by simp; omega)
        clear hKj hOj hOwn
        by_cases hjn : j < s.size
        · have hidx := HIDX.out j hjn
          have hst2 := exitAt_le bs k j (by omega)
          have hll := linesAt_length bs k j
          have hsn := nextOf_lt (exitAt bs k j) (classOf (bs.getD j 0))
          have hx1 : nextOf (exitAt bs k j) (classOf (bs.getD j 0)) = ((exitAt bs k (j + 1) : Nat) : Int) := by show _ = (((nextOf (exitAt bs k j) (classOf (bs.getD j 0))).toNat : Nat) : Int); omega
          have hstep := fun W hMW => step_yes (exitAt bs k j) (bs.getD j 0) W hst2 hMW
          rw [hx1] at hstep
          have hlines : linesAt bs k (j + 1) = if endsOf (exitAt bs k j) (classOf (bs.getD j 0)) then linesAt bs k j ++ [(j : Int)] else linesAt bs k j := rfl
          obtain ⟨en, hen⟩ : ∃ en, en = endsOf (exitAt bs k j) (classOf (bs.getD j 0)) := ⟨_, rfl⟩
          rw [← hen] at hlines hstep
          obtain ⟨st, hst⟩ : ∃ st, st = exitAt bs k j := ⟨_, rfl⟩
          obtain ⟨sn, hsn2⟩ : ∃ sn, sn = exitAt bs k (j + 1) := ⟨_, rfl⟩
          obtain ⟨b, hb⟩ : ∃ b, b = bs.getD j 0 := ⟨_, rfl⟩
          obtain ⟨ls, hls⟩ : ∃ ls, ls = linesAt bs k j := ⟨_, rfl⟩
          rw [← hst, ← hsn2, ← hb] at hstep
          rw [← hb] at hidx
          rw [← hst] at HOj
          rw [← hls] at HOwn hll hlines
          have HSN := Lib.hid hsn2
          have HLINES := Lib.hid hlines
          have HSTEP := Lib.hid hstep
          have HMj := Lib.hid (HM.out.keep (KK.out.trans KJ2))
          have sj := HOj.out.cell _ _ (zc_e bs k L _ _ hk3)
          clear hen hst hsn2 hb hls hlines hstep hst2 hsn hx1 KJ2
          go_wp2_with fail
          refine wp_region_held_drew (S := fun v : World => v.cell? ⟨O, 1 + k, none⟩ = some (.int .i64 (st : Nat))) (by kernel_rfl) sj (fun hHeld => ?_)
          change wpAnyH _ _ _ _ _ 13 (Array.replicate 13 false) _ _
          refine wpAnyH_take (i := 0) (oi := { dst := some 26, op := Go.Op.move (Go.Operand.tmp 5), type := 3, pos := "automaton.go:52", after := #[], guard := none }) (v := ?v11001) rfl (by kernel_rfl) (by kernel_rfl) (by kernel_rfl) (fun _ _ _ h => h) (Or.inl ⟨by rfl, ?y11001⟩) hHeld ?r11001
          case y11001 => (intro w' hSw; (try dsimp only at hSw); go_simp; (try with_reducible rfl))
          try simp only [Act.put, List.setIfInBounds_toArray, List.set_cons_zero, List.set_cons_succ]
          refine wpAnyH_take (i := 1) (oi := { dst := some 27, op := Go.Op.fieldAddr 26 (Go.Operand.tmp 4) 1, type := 0, pos := "automaton.go:52", after := #[], guard := none }) (v := ?v11002) rfl (by kernel_rfl) (by kernel_rfl) (by kernel_rfl) (fun _ _ _ h => h) (Or.inl ⟨by rfl, ?y11002⟩) hHeld ?r11002
          case y11002 => (intro w' hSw; (try dsimp only at hSw); go_simp; (try with_reducible rfl))
          try simp only [Act.put, List.setIfInBounds_toArray, List.set_cons_zero, List.set_cons_succ]
          refine wpAnyH_take (i := 2) (oi := { dst := some 28, op := Go.Op.indexAddr 22 (Go.Operand.tmp 27) (Go.Operand.tmp 26), type := 0, pos := "automaton.go:52", after := #[{ on := 1, ground := Go.Ground.data }, { on := 0, ground := Go.Ground.data }], guard := none }) (v := ?v11003) rfl (by kernel_rfl) (by kernel_rfl) (by kernel_rfl) (fun _ _ _ h => h) (Or.inl ⟨by rfl, ?y11003⟩) hHeld ?r11003
          case y11003 => (intro w' hSw; (try dsimp only at hSw); go_simp; (try with_reducible rfl))
          try simp only [Act.put, List.setIfInBounds_toArray, List.set_cons_zero, List.set_cons_succ]
          refine wpAnyH_take (i := 3) (oi := { dst := some 29, op := Go.Op.load 3 (Go.Operand.tmp 28), type := 3, pos := "automaton.go:52", after := #[{ on := 2, ground := Go.Ground.data }], guard := none }) (v := ?v11004) rfl (by kernel_rfl) (by kernel_rfl) (by kernel_rfl) (fun _ _ _ h => h) (Or.inl ⟨by rfl, ?y11004⟩) hHeld ?r11004
          case y11004 => (intro w' hSw; (try dsimp only at hSw); go_simp; (try with_reducible rfl))
          try simp only [Act.put, List.setIfInBounds_toArray, List.set_cons_zero, List.set_cons_succ]
          refine wpAnyH_take (i := 4) (oi := { dst := some 30, op := Go.Op.move (Go.Operand.tmp 0), type := 9, pos := "automaton.go:52", after := #[], guard := none }) (v := ?v11005) rfl (by kernel_rfl) (by kernel_rfl) (by kernel_rfl) (fun _ _ _ h => h) (Or.inl ⟨by rfl, ?y11005⟩) hHeld ?r11005
          case y11005 => (intro w' hSw; (try dsimp only at hSw); go_simp; (try with_reducible rfl))
          try simp only [Act.put, List.setIfInBounds_toArray, List.set_cons_zero, List.set_cons_succ]
          refine wpAnyH_take (i := 5) (oi := { dst := some 31, op := Go.Op.move (Go.Operand.tmp 6), type := 3, pos := "automaton.go:52", after := #[], guard := none }) (v := ?v11006) rfl (by kernel_rfl) (by kernel_rfl) (by kernel_rfl) (fun _ _ _ h => h) (Or.inl ⟨by rfl, ?y11006⟩) hHeld ?r11006
          case y11006 => (intro w' hSw; (try dsimp only at hSw); go_simp; (try with_reducible rfl))
          try simp only [Act.put, List.setIfInBounds_toArray, List.set_cons_zero, List.set_cons_succ]
          refine wpAnyH_take (i := 6) (oi := { dst := some 32, op := Go.Op.index 9 (Go.Operand.tmp 30) (Go.Operand.tmp 31), type := 5, pos := "automaton.go:52", after := #[{ on := 4, ground := Go.Ground.data }, { on := 5, ground := Go.Ground.data }], guard := none }) (v := ?v11007) rfl (by kernel_rfl) (by kernel_rfl) (by kernel_rfl) (fun _ _ _ h => h) (Or.inl ⟨by rfl, ?y11007⟩) hHeld ?r11007
          case y11007 => (intro w' hSw; (try dsimp only at hSw); go_simp; (try with_reducible rfl))
          try simp only [Act.put, List.setIfInBounds_toArray, List.set_cons_zero, List.set_cons_succ]
          refine wpAnyH_ready (rs := [7]) (by kernel_rfl) (by simp) ?_
          refine AllReadyH.cons (o := { dst := some 33, op := Go.Op.call { callee := Go.Callee.value (Go.Operand.func 60), args := #[Go.Operand.tmp 29, Go.Operand.tmp 32], argTypes := #[3, 5] }, type := 81, pos := "automaton.go:52", after := #[{ on := 3, ground := Go.Ground.data }, { on := 6, ground := Go.Ground.data }], guard := none }) rfl (fun K hK => ?_) ?_
          · go_simp
            refine (HSTEP.out _ (HMj.out.keep ((Keep.refl [] _).drew))).mono ?_
            rintro e w4 ⟨rfl, K4⟩
            have s4 := K4.cell hHeld (by simp)
            refine hK.out _ _ ?_ (fun hHeld => ?_)
            · exact s4
            clear hK K
            try simp only [Act.put, List.setIfInBounds_toArray, List.set_cons_zero, List.set_cons_succ]
            refine wpAnyH_take (i := 8) (oi := { dst := some 25, op := Go.Op.move (Go.Operand.tmp 33), type := 81, pos := "automaton.go:52", after := #[{ on := 7, ground := Go.Ground.data }], guard := none }) (v := ?v11009) rfl (by kernel_rfl) (by kernel_rfl) (by kernel_rfl) (fun _ _ _ h => h) (Or.inl ⟨by rfl, ?y11009⟩) hHeld ?r11009
            case y11009 => (intro w' hSw; (try dsimp only at hSw); go_simp; (try with_reducible rfl))
            try simp only [Act.put, List.setIfInBounds_toArray, List.set_cons_zero, List.set_cons_succ]
            refine wpAnyH_take (i := 9) (oi := { dst := some 34, op := Go.Op.extract (Go.Operand.tmp 25) 0, type := 3, pos := "automaton.go:52", after := #[{ on := 8, ground := Go.Ground.data }], guard := none }) (v := ?v11010) rfl (by kernel_rfl) (by kernel_rfl) (by kernel_rfl) (fun _ _ _ h => h) (Or.inl ⟨by rfl, ?y11010⟩) hHeld ?r11010
            case y11010 => (intro w' hSw; (try dsimp only at hSw); go_simp; (try with_reducible rfl))
            try simp only [Act.put, List.setIfInBounds_toArray, List.set_cons_zero, List.set_cons_succ]
            refine wpAnyH_take (i := 10) (oi := { dst := some 35, op := Go.Op.extract (Go.Operand.tmp 25) 1, type := 4, pos := "automaton.go:52", after := #[{ on := 8, ground := Go.Ground.data }, { on := 11, ground := Go.Ground.gcOnly Go.Departure.lateStores }], guard := none }) (v := ?v11011) rfl (by kernel_rfl) (by kernel_rfl) (by kernel_rfl) (fun _ _ _ h => h) (Or.inl ⟨by rfl, ?y11011⟩) hHeld ?r11011
            case y11011 => (intro w' hSw; (try dsimp only at hSw); go_simp; (try with_reducible rfl))
            try simp only [Act.put, List.setIfInBounds_toArray, List.set_cons_zero, List.set_cons_succ]
            refine wpAnyH_take (i := 11) (oi := { dst := some 7, op := Go.Op.assign (Go.Operand.tmp 34), type := 3, pos := "automaton.go:52", after := #[{ on := 9, ground := Go.Ground.data }, { on := 7, ground := Go.Ground.chain }, { on := 0, ground := Go.Ground.phase }, { on := 1, ground := Go.Ground.phase }, { on := 2, ground := Go.Ground.phase }, { on := 3, ground := Go.Ground.phase }, { on := 4, ground := Go.Ground.phase }, { on := 5, ground := Go.Ground.phase }, { on := 6, ground := Go.Ground.phase }, { on := 7, ground := Go.Ground.phase }, { on := 8, ground := Go.Ground.phase }, { on := 9, ground := Go.Ground.phase }, { on := 10, ground := Go.Ground.textOnly Go.Departure.lateStores }], guard := none }) (v := ?v11012) rfl (by kernel_rfl) (by kernel_rfl) (by kernel_rfl) (fun _ _ _ h => h) (Or.inl ⟨by rfl, ?y11012⟩) hHeld ?r11012
            case y11012 => (intro w' hSw; (try dsimp only at hSw); go_simp; (try with_reducible rfl))
            try simp only [Act.put, List.setIfInBounds_toArray, List.set_cons_zero, List.set_cons_succ]
            refine wpAnyH_take (i := 12) (oi := { dst := some 8, op := Go.Op.assign (Go.Operand.tmp 35), type := 4, pos := "automaton.go:52", after := #[{ on := 10, ground := Go.Ground.data }, { on := 11, ground := Go.Ground.chain }, { on := 0, ground := Go.Ground.phase }, { on := 1, ground := Go.Ground.phase }, { on := 2, ground := Go.Ground.phase }, { on := 3, ground := Go.Ground.phase }, { on := 4, ground := Go.Ground.phase }, { on := 5, ground := Go.Ground.phase }, { on := 6, ground := Go.Ground.phase }, { on := 7, ground := Go.Ground.phase }, { on := 8, ground := Go.Ground.phase }, { on := 9, ground := Go.Ground.phase }, { on := 10, ground := Go.Ground.phase }, { on := 11, ground := Go.Ground.phase }], guard := none }) (v := ?v11013) rfl (by kernel_rfl) (by kernel_rfl) (by kernel_rfl) (fun _ _ _ h => h) (Or.inl ⟨by rfl, ?y11013⟩) hHeld ?r11013
            case y11013 => (intro w' hSw; (try dsimp only at hSw); go_simp; (try with_reducible rfl))
            try simp only [Act.put, List.setIfInBounds_toArray, List.set_cons_zero, List.set_cons_succ]
            refine wpAnyH_done (by kernel_rfl) ?_ _
            clear hHeld s4
            have O4 := K4.blk HOj.out.drew (by simp)
            have own4 := own_keep (w := wj.drew) HOwn.out K4
            have KK4 : Keep [O] wk w4 := (HKj.out.drew).trans (K4.mono (by simp))
            clear K4
            obtain ⟨Av, cv, rfl, _, _⟩ := Row.slice (Row.of_own own4)
            have o4 := O4.cell _ _ (zc_e bs k L _ _ hk3)
            have o4f := O4.froz (1 + k)
            have HO4 := Lib.hid O4
            have HK4 := Lib.hid KK4
            have HOwn4 := Lib.hid own4
            cases en
            · have hl : linesAt bs k (j + 1) = ls := by simpa using HLINES.out
              have HLI := Lib.hid hl
              clear hl O4 KK4 own4
              go_wp2_with fail
              go_roundw
              case rel => exact ⟨j + 1, _, by omega, by go_num, HK4.out.setCell (a := ⟨O, 1 + k, none⟩) (Or.inl (by simp)) _, by rw [← HSN.out, ← zc_set1 bs k L (.int .i64 (st : Nat)) _ _ hk3]; exact HO4.out.set _ _, by rw [HLI.out]; exact ownsRow_other HOwn4.out ⟨O, 1 + k, none⟩ _ osz⟩
              case measure => simp [intOf]; omega
            · have hl : linesAt bs k (j + 1) = ls ++ [(j : Int)] := by simpa using HLINES.out
              have HLI := Lib.hid hl
              have o5 := O4.cell _ _ (zc_l bs k L _ _ hk3)
              have hne : ¬ 4 + k = 1 + k := by omega
              have hne2 : ¬ 1 + k = 4 + k := by omega
              have hsz4 := KK4.size
              clear hl O4 KK4 own4
              go_wp2_with (at_builtin; go_must (refine wpList_append_own _ rfl (.tmp 41) (.tmp 43) 23 rfl wk.heap.size 3 i3 (.int .i64 0) 1 8 Tryd.underlying23 hi3 hz0 hz1 hz2 rfl (by decide) (.slice Av ls.length cv) ls.length (ls.map (Value.int .i64)) rfl (HOwn4.out.alloc _) ⟨w4.heap.size, 0, none⟩ 1 1 [.int .i64 (j : Int)] rfl rfl (cell_one_new _ _ _) (by simp [Value.oneCell']) (by unfold maxLen; omega) (by omega) (by simp; omega) ?_); intro v5 w5 own5 hg5 _; have K5 := Lib.hid ((HK4.out.alloc (.cells #[.int .i64 (j : Int)] 3)).grown hg5 (fun b hb => Or.inr (World.ownsRow.lt (HOwn4.out.alloc (.cells #[.int .i64 (j : Int)] 3)) b hb).1)); have O5 := (Keep.of_grown hg5).blk (HO4.out.alloc (.cells #[.int .i64 (j : Int)] 3)) (not_own (HOwn4.out.alloc (.cells #[.int .i64 (j : Int)] 3)) _ osz); obtain ⟨A5, c5, rfl, _, _⟩ := Row.slice (Row.of_own own5); have HO5 := Lib.hid O5; have HOwn5 := Lib.hid own5; have p1 := O5.cell _ _ (zc_e bs k L _ _ hk3); have p2 := O5.cell _ _ (zc_l bs k L _ _ hk3); have p3 := O5.froz (1 + k); have p4 := O5.froz (4 + k); clear O5 own5 hg5)
              go_roundw
              case rel => exact ⟨j + 1, _, by omega, by go_num, (K5.out.setCell (a := ⟨O, 4 + k, none⟩) (Or.inl (by simp)) _).setCell (a := ⟨O, 1 + k, none⟩) (Or.inl (by simp)) _, by rw [← HSN.out, ← zc_set1 bs k L (.int .i64 (st : Nat)) _ _ hk3, ← zc_set4 bs k L (.int .i64 (st : Nat)) (.slice Av ls.length cv)]; exact (HO5.out.set _ _).set _ _, by rw [HLI.out]; simpa using ownsRow_other (ownsRow_other HOwn5.out ⟨O, 4 + k, none⟩ _ osz) ⟨O, 1 + k, none⟩ _ osz⟩
              case measure => simp [intOf]; omega
          exact AllReadyH.nil
        · have hjl : j = s.size := by omega
          subst hjl
          have HKJ2 := Lib.hid KJ2
          clear KJ2
          rw [← HBL.out] at HOj HOwn
          go_wp2_with fail
          go_roundw
          case rel =>
            refine ⟨k + 1, upd L k v, by omega, by go_num, HKJ2.out, by rw [← zc_step bs k L v hk3]; exact HOj.out, fun j hj => ?_, fun j hj => ?_⟩
            · have : ¬ j = k := by omega
              simpa [upd, this] using HL.out j (by omega)
            · by_cases h : j = k
              · subst h
                exact ⟨(linesAt bs j bs.length).length, by simpa [upd] using Row.of_own HOwn.out, fun b hb => Nat.le_trans (by have := KK.out.size; have := HK2.out.size; omega) (World.ownsRow.lt HOwn.out b (by simpa [upd] using hb)).1⟩
              · obtain ⟨n, hn, hfr⟩ := HR.out j (by omega)
                refine ⟨n, ?_, by simpa [upd, h] using hfr⟩
                have := Row.keep hn HKj.out (by
                  intro b hb cs hc
                  simp only [List.mem_singleton] at hb
                  subst hb
                  exact HOb.out.neR hc (by decide) rfl)
                simpa [upd, h] using this
          case measure => simp [intOf]; omega
    · have hk3' : k = 3 := by omega
      subst hk3'
      have hO : Blk wk O 26 [.int .i64 bs.length, .int .i64 (exitAt bs 0 bs.length), .int .i64 (exitAt bs 1 bs.length), .int .i64 (exitAt bs 2 bs.length), L 0, L 1, L 2] := by simpa [zc] using hOb
      have HR := Lib.hid (fun j hj => (hR j hj).imp (fun _ h => h.1) : ∀ j, j < 3 → ∃ n, Row wk (L j) 3 1 n ((linesAt bs j bs.length).map (Value.int .i64)))
      obtain ⟨n0, r0, z0⟩ := hR 0 (by omega)
      obtain ⟨n1, r1, z1⟩ := hR 1 (by omega)
      obtain ⟨n2, r2, z2⟩ := hR 2 (by omega)
      obtain ⟨P0, q0, e0, _, _⟩ := Row.slice r0
      obtain ⟨P1, q1, e1, _, _⟩ := Row.slice r1
      obtain ⟨P2, q2, e2, _, _⟩ := Row.slice r2
      rw [e0, e1, e2] at hO
      rw [e0] at z0
      rw [e1] at z1
      rw [e2] at z2
      have Z0 := Lib.hid z0
      have Z1 := Lib.hid z1
      have Z2 := Lib.hid z2
      clear z0 z1 z2
      have E0 := Lib.hid e0
      have E1 := Lib.hid e1
      have E2 := Lib.hid e2
      clear e0 e1 e2 r0 r1 r2
      have o0 := hO.cell 0 _ rfl
      have o1 := hO.cell 1 _ rfl
      have o2 := hO.cell 2 _ rfl
      have o3 := hO.cell 3 _ rfl
      have o4 := hO.cell 4 _ rfl
      have o5 := hO.cell 5 _ rfl
      have o6 := hO.cell 6 _ rfl
      have D2 := hK.blk HD2.out (by simp)
      have HD3 := Lib.hid D2
      have d0 := D2.cell 0 _ rfl
      have d1 := D2.cell 1 _ rfl
      have d2 := D2.cell 2 _ rfl
      have d3 := D2.cell 3 _ rfl
      have d4 := D2.cell 4 _ rfl
      have d5 := D2.cell 5 _ rfl
      have d6 := D2.cell 6 _ rfl
      have f0 := D2.froz 0
      have f1 := D2.froz 1
      have f2 := D2.froz 2
      have f3 := D2.froz 3
      have f4 := D2.froz 4
      have f5 := D2.froz 5
      have f6 := D2.froz 6
      have KKK := Lib.hid (KK.out.trans hK)
      clear D2 hO hOb hR hK hL
      go_wp2_with fail
      clear o0 o1 o2 o3 o4 o5 o6 d0 d1 d2 d3 d4 d5 d6 f0 f1 f2 f3 f4 f5 f6
      obtain ⟨V, hV⟩ : ∃ V, V = (((((((wk.setCell ⟨w.heap.size, 0, none⟩ (.int .i64 bs.length)).setCell ⟨w.heap.size, 1, none⟩ (.int .i64 (exitAt bs 0 bs.length : Nat))).setCell ⟨w.heap.size, 2, none⟩ (.int .i64 (exitAt bs 1 bs.length : Nat))).setCell ⟨w.heap.size, 3, none⟩ (.int .i64 (exitAt bs 2 bs.length : Nat))).setCell ⟨w.heap.size, 4, none⟩ (.slice P0 n0 q0)).setCell ⟨w.heap.size, 5, none⟩ (.slice P1 n1 q1)).setCell ⟨w.heap.size, 6, none⟩ (.slice P2 n2 q2)) := ⟨_, rfl⟩
      have DF : Blk V w.heap.size 26 [(.int .i64 bs.length), (.int .i64 (exitAt bs 0 bs.length : Nat)), (.int .i64 (exitAt bs 1 bs.length : Nat)), (.int .i64 (exitAt bs 2 bs.length : Nat)), (.slice P0 n0 q0), (.slice P1 n1 q1), (.slice P2 n2 q2)] := by rw [hV]; exact (((((((HD3.out.set 0 _).set 1 _).set 2 _).set 3 _).set 4 _).set 5 _).set 6 _)
      have KF : Keep [] w V := by rw [hV]; exact (((((((KKK.out.setCell (a := ⟨w.heap.size, 0, none⟩) (Or.inr (Nat.le_refl _)) _).setCell (a := ⟨w.heap.size, 1, none⟩) (Or.inr (Nat.le_refl _)) _).setCell (a := ⟨w.heap.size, 2, none⟩) (Or.inr (Nat.le_refl _)) _).setCell (a := ⟨w.heap.size, 3, none⟩) (Or.inr (Nat.le_refl _)) _).setCell (a := ⟨w.heap.size, 4, none⟩) (Or.inr (Nat.le_refl _)) _).setCell (a := ⟨w.heap.size, 5, none⟩) (Or.inr (Nat.le_refl _)) _).setCell (a := ⟨w.heap.size, 6, none⟩) (Or.inr (Nat.le_refl _)) _)
      have KV : Keep [w.heap.size] wk V := by rw [hV]; exact ((((((((Keep.refl _ _).setCell (a := ⟨w.heap.size, 0, none⟩) (Or.inl (by simp)) _).setCell (a := ⟨w.heap.size, 1, none⟩) (Or.inl (by simp)) _).setCell (a := ⟨w.heap.size, 2, none⟩) (Or.inl (by simp)) _).setCell (a := ⟨w.heap.size, 3, none⟩) (Or.inl (by simp)) _).setCell (a := ⟨w.heap.size, 4, none⟩) (Or.inl (by simp)) _).setCell (a := ⟨w.heap.size, 5, none⟩) (Or.inl (by simp)) _).setCell (a := ⟨w.heap.size, 6, none⟩) (Or.inl (by simp)) _)
      rw [← hV]
      clear hV
      have x0 := DF.cell 0 _ rfl
      have x1 := DF.cell 1 _ rfl
      have x2 := DF.cell 2 _ rfl
      have x3 := DF.cell 3 _ rfl
      have x4 := DF.cell 4 _ rfl
      have x5 := DF.cell 5 _ rfl
      have x6 := DF.cell 6 _ rfl
      refine bodyPost_ret (v := .tuple #[.agg #[(.int .i64 bs.length), (.int .i64 (exitAt bs 0 bs.length : Nat)), (.int .i64 (exitAt bs 1 bs.length : Nat)), (.int .i64 (exitAt bs 2 bs.length : Nat)), (.slice P0 n0 q0), (.slice P1 n1 q1), (.slice P2 n2 q2)], .int .i64 0]) (by simp [results, Tryd.results26, go_sem, x0, x1, x2, x3, x4, x5, x6]) rfl ?_
      refine ⟨.agg #[(.int .i64 bs.length), (.int .i64 (exitAt bs 0 bs.length : Nat)), (.int .i64 (exitAt bs 1 bs.length : Nat)), (.int .i64 (exitAt bs 2 bs.length : Nat)), (.slice P0 n0 q0), (.slice P1 n1 q1), (.slice P2 n2 q2)], by rw [HCP.out], by rw [HCP.out]; exact sumz_su HD3.out KV HR.out E0.out E1.out E2.out, KF, FreshV.mk Z0.out Z1.out Z2.out⟩
end Go.Proofs.YtomhlmfekmnajaaDoor
