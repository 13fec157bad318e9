/- Lines of split, Mod of keep: the walks. -/
import Derived.Test.YtomhlmfekmnajaaDoorRefRead
import Derived.Lib.ConvBytes
namespace Go.Proofs.YtomhlmfekmnajaaDoor
open Go.RowKit
set_option linter.unusedVariables false
set_option linter.unusedSimpArgs false

theorem bytesWorld_keep (w : World) (s : ByteArray) : Keep [] w (Lib.bytesWorld w 5 s) :=
  ⟨rfl, rfl, rfl, by rw [Lib.bytesWorld_size]; omega, fun k hk _ => Lib.bytesWorld_at_old w 5 s k hk⟩

def LinesPost (l : List Int) (x : Int) (w : World) (e : Ending) (w' : World) : Prop := ∃ v, e = .returned (.tuple #[v, .int .i64 x, .int .i64 0]) ∧ Ints w' v l ∧ Keep [] w w'

set_option maxHeartbeats 1000000 in
set_option maxRecDepth 100000 in
theorem lines_any (s : ByteArray) (w : World) (hM : Moves w) (hs : s.size ≤ 1048576) : Calls Tryd.prog 28 #[.string s] w (LinesPost (linesAt (bytesOf s) 0 s.size) (exitAt (bytesOf s) 0 s.size) w) := by
  have HM := Lib.hid hM
  obtain ⟨bs, hbs⟩ : ∃ bs, bs = bytesOf s := ⟨_, rfl⟩
  have hbl : bs.length = s.size := by rw [hbs, bytesOf_length]
  have hcell0 : ∀ i, i < s.size → (Lib.bytesWorld w 5 s).cell? ⟨w.heap.size, i, none⟩ = some (.int .u8 (bs.getD i 0)) := by
    intro i hi
    rw [Lib.bytesWorld_cell w 5 s i hi, hbs]
    have h1 : i < (bytesOf s).length := by rw [bytesOf_length]; exact hi
    rw [List.getD, List.getD, List.getElem?_eq_getElem h1]
    simp [bytesOf, hi]
  rw [← hbs]
  have hconv := Lib.run_convert_string_bytes (P := Tryd.prog) w 9 83 5 s Tryd.underlying9 Tryd.underlying83 Tryd.underlying5
  obtain ⟨cap, hcap⟩ : ∃ cap, cap = grownCap w s.size 0 5 := ⟨_, rfl⟩
  have hk0 := bytesWorld_keep w s
  have hsz0 : w.heap.size < (Lib.bytesWorld w 5 s).heap.size := by rw [Lib.bytesWorld_size]; omega
  obtain ⟨B, hB⟩ : ∃ B, B = Lib.bytesWorld w 5 s := ⟨_, rfl⟩
  rw [← hcap] at hconv
  rw [← hB] at hconv hcell0 hk0 hsz0
  have HC := Lib.hid hcell0
  have HK0 := Lib.hid hk0
  obtain ⟨i3, hi3, hz0, hz1, hz2⟩ := info_parts Tryd.info3
  clear hM hbs hcell0 hcap hB hk0
  have hd : decide (1048576 < (s.size : Int)) = false := decide_eq_false (by omega)
  go_enter Tryd.func28, Tryd.ntmps28
  go_wp2_with fail
  clear hconv hd
  go_loopw [17, 5, 6] (fun i l t wr => ∃ (j : Nat), j ≤ s.size ∧ i = .int .i64 j ∧ t = .int .i64 (exitAt bs 0 j : Nat) ∧ wr.ownsRow B.heap.size 3 1 l (linesAt bs 0 j).length ((linesAt bs 0 j).map (Value.int .i64)) ∧ Keep [] B wr) (fun i _ _ _ => s.size - (intOf i).toNat)
  case atStart => exact ⟨0, by omega, rfl, rfl, World.ownsRow_nil _ _ _ _, Keep.refl _ _⟩
  case round =>
    obtain ⟨j, hj, rfl, rfl, hO, hK⟩ := hrel
    obtain ⟨W, rfl⟩ : ∃ W, W = wr := ⟨_, rfl⟩
    obtain ⟨l, rfl⟩ : ∃ l, l = u5 := ⟨_, rfl⟩
    have HO := Lib.hid hO
    have HK := Lib.hid hK
    have hsz := hK.size
    clear hO hK
    by_cases hlt : j < s.size
    · have hcj := HK.out.cell (HC.out j hlt) (by simp)
      have hxl := exitAt_le bs 0 j (by omega)
      have hnx := exitAt_succ bs 0 j
      have hll := linesAt_length bs 0 j
      have hls : linesAt bs 0 (j + 1) = if endsOf (exitAt bs 0 j) (classOf (bs.getD j 0)) = true then linesAt bs 0 j ++ [(j : Int)] else linesAt bs 0 j := rfl
      obtain ⟨en, hen⟩ : ∃ en, en = endsOf (exitAt bs 0 j) (classOf (bs.getD j 0)) := ⟨_, rfl⟩
      obtain ⟨x, hx⟩ : ∃ x, x = exitAt bs 0 j := ⟨_, rfl⟩
      obtain ⟨y, hy⟩ : ∃ y, y = exitAt bs 0 (j + 1) := ⟨_, rfl⟩
      obtain ⟨b, hb⟩ : ∃ b, b = bs.getD j 0 := ⟨_, rfl⟩
      obtain ⟨ls, hlsn⟩ : ∃ ls, ls = linesAt bs 0 j := ⟨_, rfl⟩
      rw [← hen] at hls
      rw [← hx, ← hb] at hnx hen
      rw [← hy] at hnx
      rw [← hb] at hcj
      rw [← hlsn] at hll hls HO
      rw [← hx] at hxl ⊢
      have hstep := fun V hV => step_yes x b V hxl hV
      rw [hnx, ← hen] at hstep
      have HSTEP := Lib.hid hstep
      have HLS := Lib.hid hls
      have HY := Lib.hid hy
      have HMW := Lib.hid ((HM.out.keep HK0.out).keep HK.out)
      clear hx hy hb hlsn hls hen hnx hstep
      cases en
      · go_wp2_with fail
        refine (HSTEP.out _ HMW.out).mono ?_
        rintro e w4 ⟨rfl, K4⟩
        have HO4 := Lib.hid (own_keep HO.out K4)
        have HK4 := Lib.hid (HK.out.trans K4)
        clear K4
        go_wp2_with fail
        go_roundw
        case rel => exact ⟨j + 1, by omega, by go_num, by rw [← HY.out], by rw [HLS.out]; exact HO4.out, HK4.out⟩
        case measure => simp [intOf]; omega
      · go_wp2_with fail
        refine (HSTEP.out _ HMW.out).mono ?_
        rintro e w4 ⟨rfl, K4⟩
        have HO4 := Lib.hid (own_keep HO.out K4)
        have HK4 := Lib.hid (HK.out.trans K4)
        have hs4 := K4.size
        clear K4
        go_wp2_with (at_builtin; refine wpList_append_row rfl (.tmp 29) (.tmp 31) 23 rfl B.heap.size 3 i3 (.int .i64 0) 1 8 Tryd.underlying23 hi3 hz0 hz1 hz2 rfl (by decide) l ls.length (ls.map (Value.int .i64)) rfl (HO4.out.alloc _) (.slice (some ⟨w4.heap.size, 0, none⟩) 1 1) 1 [.int .i64 (j : Int)] rfl (Row.of_own (World.ownsRow_lit (base := 0) (e := 3) (size := 1) w4 #[.int .i64 (j : Int)] 1 (Nat.zero_le _) (by decide) rfl)) (by simp [Value.oneCell']) (by unfold maxLen; omega) (by omega) (by simp; omega) ?_; intro v5 w5 own5 hg5; have HO5 := Lib.hid own5; have HK5 := Lib.hid ((HK4.out.alloc (.cells #[.int .i64 (j : Int)] 3)).fresh (Keep.of_grown hg5) (fun g hg => (World.ownsRow.lt (HO4.out.alloc (.cells #[.int .i64 (j : Int)] 3)) g (by simpa using hg)).1)); clear own5 hg5)
        go_roundw
        case rel => exact ⟨j + 1, by omega, by go_num, by rw [← HY.out], by rw [HLS.out]; simpa using HO5.out, HK5.out⟩
        case measure => simp [intOf]; omega
    · have hjl : j = s.size := by omega
      subst hjl
      go_wp2_with fail
      go_ret3
      exact ⟨l, rfl, own_ints HO.out, HK0.out.trans HK.out⟩

set_option maxHeartbeats 400000 in
theorem mod_any (n m : Int) (w : World) (h : 0 < m) (hm : m ≤ 1000000) : Calls Tryd.prog 24 #[.int .i64 n, .int .i64 m] w fun e w' => e = .returned (.int .i64 (n % m)) ∧ w = w' := by
  have hb1 : -m < n.tmod m := Int.lt_tmod_of_pos n h
  have hb2 : n.tmod m < m := Int.tmod_lt_of_pos n h
  have he1 : n.tmod m < 0 → n.tmod m + m = n % m := fun hn => by
    rw [Int.tmod_eq_emod] at hn ⊢
    split at hn
    · rename_i hc
      have := Int.emod_nonneg n (show m ≠ 0 by omega)
      omega
    · rename_i hc
      rw [if_neg hc]
      omega
  have he2 : ¬ n.tmod m < 0 → n.tmod m = n % m := fun hn => by
    have h1 := Int.emod_emod_of_dvd n (Int.dvd_refl m)
    have h2 : n.tmod m % m = n % m := by
      conv => rhs; rw [← Int.tmod_add_mul_tdiv n m]
      simp
    rw [← h2, Int.emod_eq_of_lt (by omega) hb2]
  obtain ⟨r, hr⟩ : ∃ r, r = n % m := ⟨_, rfl⟩
  rw [← hr] at he1 he2 ⊢
  have HE1 := Lib.hid he1
  have HE2 := Lib.hid he2
  have hm0 : ¬ m = 0 := by omega
  clear hr he1 he2
  by_cases hn : n.tmod m < 0
  · have hd : decide (n.tmod m < 0) = true := decide_eq_true hn
    go_enter Tryd.func24, Tryd.ntmps24
    go_wp2_with fail
    go_ret
    exact ⟨by rw [← HE1.out (by omega)]; rfl, rfl⟩
  · have hd : decide (n.tmod m < 0) = false := decide_eq_false hn
    go_enter Tryd.func24, Tryd.ntmps24
    go_wp2_with fail
    go_ret
    exact ⟨by rw [← HE2.out (by omega)]; rfl, rfl⟩
end Go.Proofs.YtomhlmfekmnajaaDoor
