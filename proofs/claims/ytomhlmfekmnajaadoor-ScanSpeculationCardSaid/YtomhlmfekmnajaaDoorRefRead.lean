/- Read, Summary and Empty of the reference: the walks. -/
import Derived.Test.YtomhlmfekmnajaaDoorRefStep
import Derived.Test.YtomhlmfekmnajaaDoorAll
namespace Go.Proofs.YtomhlmfekmnajaaDoor
open Go.RowKit
set_option linter.unusedVariables false

theorem hidx_bytes (s : ByteArray) (i : Nat) (hi : i < s.size) (W : World) : (Instr.index 9 (.string s) (.int .i64 (i : Int))).run Tryd.prog W = .ok (.int .u8 ((bytesOf s).getD i 0)) W := by
  rw [run_index_string W 9 s .i64 i Tryd.underlying9, dif_pos ⟨by omega, by omega⟩]
  have h1 : i < (bytesOf s).length := by rw [bytesOf_length]; exact hi
  rw [List.getD, List.getElem?_eq_getElem h1]
  simp [bytesOf]
  rfl

def ReadPost (x : Int) (l : List Int) (w : World) (e : Ending) (w' : World) : Prop := ∃ v, e = .returned (.tuple #[.int .i64 x, v]) ∧ Ints w' v l ∧ Keep [] w w' ∧ ∀ b, v.ownBlock = some b → w.heap.size ≤ b

theorem exitAt_succ (bs : List Int) (k i : Nat) : nextOf (exitAt bs k i) (classOf (bs.getD i 0)) = (exitAt bs k (i + 1) : Int) := by
  have := nextOf_lt (exitAt bs k i) (classOf (bs.getD i 0))
  show _ = ((nextOf (exitAt bs k i) (classOf (bs.getD i 0))).toNat : Int)
  omega
theorem own_ints {w : World} {base : Nat} {v : Value} {n : Nat} {xs : List Int} (h : w.ownsRow base 3 1 v n (xs.map (Value.int .i64))) : Ints w v xs := by
  have h1 := h.1
  simp only [List.length_map, Nat.mul_one] at h1
  exact Ints.of_row (Row.cast (Row.of_own h) h1.symm)

set_option maxHeartbeats 1000000 in
theorem read_any (k : Nat) (s : ByteArray) (w : World) (hk : k ≤ 2) (hs : s.size ≤ 1048576) : Calls Tryd.prog 84 #[.int .i64 k, .string s] w (ReadPost (exitAt (bytesOf s) k s.size) (linesAt (bytesOf s) k s.size) w) := by
  obtain ⟨bs, hbs⟩ : ∃ bs, bs = bytesOf s := ⟨_, rfl⟩
  have hidx := hidx_bytes s
  rw [← hbs] at hidx ⊢
  have HIDX := Lib.hid hidx
  clear hbs hidx
  obtain ⟨i3, hi3, hz0, hz1, hz2⟩ := info_parts Tryd.info3
  go_enter Tryd.func84, Tryd.ntmps84
  go_wp2_with fail
  go_loopw [0, 6, 7] (fun st l i wr => ∃ j : Nat, j ≤ s.size ∧ i = .int .i64 j ∧ st = .int .i64 (exitAt bs k j) ∧ wr.ownsRow w.heap.size 3 1 l (linesAt bs k j).length ((linesAt bs k j).map (Value.int .i64)) ∧ Keep [] w wr) (fun _ _ i _ => s.size - (intOf i).toNat)
  case atStart => exact ⟨0, by omega, rfl, rfl, World.ownsRow_nil _ _ _ _, Keep.refl _ _⟩
  case round =>
    obtain ⟨j, hj, rfl, rfl, hO, hK⟩ := hrel
    obtain ⟨v, rfl⟩ : ∃ v, v = u6 := ⟨_, rfl⟩
    obtain ⟨W, rfl⟩ : ∃ W, W = wr := ⟨_, rfl⟩
    have HO := Lib.hid hO
    have HK := Lib.hid hK
    have hsz := hK.size
    clear hO hK
    by_cases hlt : j < s.size
    · have hidx := HIDX.out j hlt
      obtain ⟨x, hx⟩ : ∃ x, x = exitAt bs k j := ⟨_, rfl⟩
      have hx2 : x ≤ 2 := by rw [hx]; exact exitAt_le bs k j hk
      have hnx := exitAt_succ bs k j
      have hll := linesAt_length bs k j
      obtain ⟨y, hy⟩ : ∃ y, y = exitAt bs k (j + 1) := ⟨_, rfl⟩
      obtain ⟨en, hen⟩ : ∃ en, en = endsOf (exitAt bs k j) (classOf (bs.getD j 0)) := ⟨_, rfl⟩
      have hls : linesAt bs k (j + 1) = if en = true then linesAt bs k j ++ [(j : Int)] else linesAt bs k j := by rw [hen]; rfl
      obtain ⟨l, hl⟩ : ∃ l, l = linesAt bs k j := ⟨_, rfl⟩
      obtain ⟨b, hb⟩ : ∃ b, b = bs.getD j 0 := ⟨_, rfl⟩
      rw [← hx, ← hb] at hnx hen
      rw [← hb] at hidx
      rw [← hy] at hnx
      rw [← hl] at hll hls HO
      rw [← hx]
      have HY := Lib.hid hy
      have HNX := Lib.hid hnx
      have HEN := Lib.hid hen.symm
      have HLS := Lib.hid hls
      have HO2 := Lib.hid HO.out
      clear hx hb hl hls hen hnx hy HIDX HO
      cases en
      · go_wp2_with ((go_at_call 93; refine (refstep_any x b _ hx2).mono ?_; rintro e w' ⟨rfl, rfl⟩; rw [HNX.out, HEN.out]))
        go_roundw
        case rel => exact ⟨j + 1, by omega, by go_num, by rw [← HY.out], by rw [HLS.out]; exact HO2.out, HK.out⟩
        case measure => simp [intOf]; omega
      · go_wp2_with (first | (go_at_call 93; refine (refstep_any x b _ hx2).mono ?_; rintro e w' ⟨rfl, rfl⟩; rw [HNX.out, HEN.out]) | (at_builtin; refine wpList_append_row rfl (.tmp 25) (.tmp 27) 23 rfl w.heap.size 3 i3 (.int .i64 0) 1 8 Tryd.underlying23 hi3 hz0 hz1 hz2 rfl (by decide) v l.length (l.map (Value.int .i64)) rfl (HO2.out.alloc _) (.slice (some ⟨W.heap.size, 0, none⟩) 1 1) 1 [.int .i64 j] rfl (Row.of_own (World.ownsRow_lit (base := 0) (e := 3) (size := 1) W #[.int .i64 j] 1 (Nat.zero_le _) (by decide) rfl)) (by simp [Value.oneCell']) (by unfold maxLen; omega) (by omega) (by simp; omega) ?_; intro v4 w4 own4 hg4; have HO4 := Lib.hid own4; have HK4 := Lib.hid ((HK.out.alloc (.cells #[.int .i64 (j : Int)] 3)).grown hg4 (fun b hb => Or.inr (World.ownsRow.lt (HO2.out.alloc (.cells #[.int .i64 (j : Int)] 3)) b hb).1)); clear own4 hg4))
        go_roundw
        case rel => exact ⟨j + 1, by omega, by go_num, by rw [← HY.out], by rw [HLS.out]; simpa using HO4.out, HK4.out⟩
        case measure => simp [intOf]; omega
    · have hjl : j = s.size := by omega
      subst hjl
      go_wp2_with fail
      go_ret2
      exact ⟨v, rfl, own_ints HO.out, HK.out, fun b hb => (World.ownsRow.lt HO.out b hb).1⟩

/-- The cells of the summary that is built, ahead of round k. -/
def rc (bs : List Int) (k : Nat) (L : Nat → Value) : List Value :=
  [.int .i64 bs.length, .int .i64 (if 0 < k then exitAt bs 0 bs.length else 0 : Nat), .int .i64 (if 1 < k then exitAt bs 1 bs.length else 0 : Nat), .int .i64 (if 2 < k then exitAt bs 2 bs.length else 0 : Nat), L 0, L 1, L 2]
theorem rc_e (bs : List Int) (k : Nat) (L : Nat → Value) (hk : k < 3) : (rc bs k L)[1 + k]? = some (.int .i64 0) := by
  obtain rfl | rfl | rfl : k = 0 ∨ k = 1 ∨ k = 2 := by omega
  all_goals rfl
theorem rc_l (bs : List Int) (k : Nat) (L : Nat → Value) (u : Value) (hk : k < 3) : ((rc bs k L).set (1 + k) u)[4 + k]? = some (L k) := by
  obtain rfl | rfl | rfl : k = 0 ∨ k = 1 ∨ k = 2 := by omega
  all_goals rfl
theorem rc_step (bs : List Int) (k : Nat) (L : Nat → Value) (v : Value) (hk : k < 3) : (((rc bs k L).set (1 + k) (.int .i64 (exitAt bs k bs.length))).set (4 + k) v) = rc bs (k + 1) (upd L k v) := by
  obtain rfl | rfl | rfl : k = 0 ∨ k = 1 ∨ k = 2 := by omega
  all_goals simp [rc, upd]

def MadePost (s : Su) (w : World) (e : Ending) (w' : World) : Prop := ∃ c, e = .returned (.agg c) ∧ SuV w' (.agg c) s ∧ Keep [] w w' ∧ FreshV w.heap.size (.agg c)

set_option maxHeartbeats 2000000 in
theorem summary_any (s : ByteArray) (w : World) (hs : s.size ≤ 1048576) : Calls Tryd.prog 73 #[.string s] w (MadePost (summaryOf (bytesOf s)) w) := by
  obtain ⟨bs, hbs⟩ : ∃ bs, bs = bytesOf s := ⟨_, rfl⟩
  have hbl : bs.length = s.size := by rw [hbs, bytesOf_length]
  have HBL := Lib.hid hbl
  have hread := fun (k : Nat) (W : World) (hk : k ≤ 2) => read_any k s W hk hs
  rw [← hbs] at hread ⊢
  have HREAD := Lib.hid hread
  clear hbs hread hbl
  have B0 := Lib.hid (Blk.new w zcells 26)
  have K0 := Lib.hid ((Keep.refl [] w).alloc (.cells zcells 26))
  go_enter Tryd.func73, Tryd.ntmps73
  go_wp2_with fail
  generalize hW1 : (w.alloc (.cells #[.int .i64 0, .int .i64 0, .int .i64 0, .int .i64 0, .slice none 0 0, .slice none 0 0, .slice none 0 0] 26)).alloc (.cells #[.int .i64 s.size, .int .i64 0, .int .i64 0, .int .i64 0, .slice none 0 0, .slice none 0 0, .slice none 0 0] 26) = W1
  have HB1 := Lib.hid (show Blk W1 w.heap.size 26 zcells.toList by rw [← hW1]; exact B0.out.alloc _)
  have HO1 := Lib.hid (show Blk W1 (w.heap.size + 1) 26 (rc bs 0 fun _ => .slice none 0 0) by
    have := Blk.new (w.alloc (.cells zcells 26)) #[.int .i64 s.size, .int .i64 0, .int .i64 0, .int .i64 0, .slice none 0 0, .slice none 0 0, .slice none 0 0] 26
    rw [World.size_alloc, hW1] at this
    simpa [rc, HBL.out] using this)
  have HK1 := Lib.hid (show Keep [] w W1 by rw [← hW1]; exact K0.out.alloc _)
  clear hW1
  go_loopw [4] (fun i wr => ∃ (k : Nat) (L : Nat → Value), k ≤ 3 ∧ i = .int .i64 k ∧ Keep [] w wr ∧ Blk wr w.heap.size 26 zcells.toList ∧ Blk wr (w.heap.size + 1) 26 (rc bs k L) ∧ ∀ j, j < k → Ints wr (L j) (linesAt bs j bs.length) ∧ ∀ b, (L j).ownBlock = some b → w.heap.size + 2 ≤ b) (fun i _ => 3 - (intOf i).toNat)
  case atStart => exact ⟨0, _, by omega, rfl, HK1.out, HB1.out, HO1.out, fun j hj => by omega⟩
  case round =>
    obtain ⟨k, L, hk, rfl, hK, hB, hO, hR⟩ := hrel
    obtain ⟨W, rfl⟩ : ∃ W, W = wr := ⟨_, rfl⟩
    have HK := Lib.hid hK
    have HB := Lib.hid hB
    have HO := Lib.hid hO
    have HR := Lib.hid hR
    clear hK hB hO hR HB1 HO1 HK1
    by_cases hk3 : k < 3
    · have hk3' : (k : Int) < 3 := by omega
      go_wp2_with fail
      refine (HREAD.out k _ (by omega)).mono ?_
      rintro e w3 ⟨v3, rfl, hv3, K3, hf3⟩
      have O3 := K3.blk HO.out (by simp)
      obtain ⟨x, hx⟩ : ∃ x, x = exitAt bs k s.size := ⟨_, rfl⟩
      rw [← hx]
      have ce := O3.cell _ _ (rc_e bs k L hk3)
      have fe := O3.froz (1 + k)
      have cl := (O3.set (1 + k) (.int .i64 x)).cell _ _ (rc_l bs k L _ hk3)
      have fl := (O3.set (1 + k) (.int .i64 x)).froz (4 + k)
      have HV3 := Lib.hid hv3
      have HF3 := Lib.hid hf3
      have HK3 := Lib.hid K3
      have HO3 := Lib.hid O3
      have HX := Lib.hid hx
      have hsz : w.heap.size + 2 ≤ W.heap.size := by have := HO.out.lt; omega
      obtain ⟨A3, c3, rfl⟩ := hv3.shape rfl
      obtain ⟨n3, hn3⟩ : ∃ n3, n3 = (linesAt bs k s.size).length := ⟨_, rfl⟩
      have HN3 := Lib.hid hn3
      rw [← hn3]
      clear hv3 hf3 K3 O3 hx hn3
      go_wp2_with fail
      clear ce fe cl fl
      go_roundw
      case rel =>
        have K4 : Keep [w.heap.size + 1] w3 ((w3.setCell ⟨w.heap.size + 1, 1 + k, none⟩ (.int .i64 x)).setCell ⟨w.heap.size + 1, 4 + k, none⟩ (.slice A3 n3 c3)) := ((Keep.refl _ _).setCell (Or.inl (by simp)) _).setCell (Or.inl (by simp)) _
        refine ⟨k + 1, upd L k (.slice A3 n3 c3), by omega, by go_num, (HK.out.trans HK3.out).fresh K4 (by simp), K4.blk (HK3.out.blk HB.out (by simp)) (by simp), ?_, fun j hj => ?_⟩
        · rw [← rc_step bs k L _ hk3, HBL.out, ← HX.out]
          exact (HO3.out.set _ _).set _ _
        · by_cases h : j = k
          · subst h
            have hV := HV3.out
            rw [← HN3.out] at hV
            simp only [upd, if_true, HBL.out]
            exact ⟨hV.keepNe (base := W.heap.size) K4 (fun b hb => HF3.out b (by rw [← HN3.out]; exact hb)) (by omega), fun b hb => Nat.le_trans hsz (HF3.out b (by rw [← HN3.out]; exact hb))⟩
          · obtain ⟨h1, h2⟩ := HR.out j (by omega)
            simp only [upd, if_neg h]
            exact ⟨(h1.keep HK3.out).keepNe K4 h2 (by omega), h2⟩
      case measure => simp [intOf]; omega
    · have hk3' : k = 3 := by omega
      subst hk3'
      obtain ⟨h0, f0⟩ := HR.out 0 (by omega)
      obtain ⟨h1, f1⟩ := HR.out 1 (by omega)
      obtain ⟨h2, f2⟩ := HR.out 2 (by omega)
      have hS : SBox W (w.heap.size + 1) (rc bs 3 L).toArray (summaryOf bs) := ⟨by simpa using HO.out, ⟨L 0, L 1, L 2, rfl, h0, h1, h2⟩⟩
      have hF : FreshV (w.heap.size + 2) (.agg (rc bs 3 L).toArray) := FreshV.mk f0 f1 f2
      have HS := Lib.hid hS
      have HF := Lib.hid hF
      obtain ⟨cc, hcc⟩ : ∃ cc, cc = (rc bs 3 L).toArray := ⟨_, rfl⟩
      rw [← hcc] at HS HF
      clear hS hF h0 h1 h2 f0 f1 f2 hcc
      go_wp2_with (first | (refine wpList_load_sb rfl (.tmp 3) rfl (w.heap.size + 1) cc (summaryOf bs) HS.out rfl ?_) | (refine wpList_su rfl (.tmp 2) (.tmp 24) rfl w.heap.size cc (summaryOf bs) zcells.toList HB.out rfl HS.out.2 (fun _ k => HS.out.2.keepNe k HF.out (by omega)) rfl rfl ?_; intro w5 B5 K5; have HB5 := Lib.hid B5; have HK5 := Lib.hid K5; clear B5 K5))
      refine bodyPost_ret (v := .agg cc) (su_results1 rfl _ w.heap.size cc _ HB5.out rfl) rfl ?_
      exact ⟨cc, rfl, HB5.out.2, HK.out.fresh HK5.out (by simp), HF.out.le (by omega)⟩

theorem refempty_su : summaryOf (bytesOf ⟨#[]⟩) = Su.empty := by decide +kernel

set_option maxHeartbeats 1000000 in
theorem refempty_any (w : World) : Calls Tryd.prog 53 #[] w (MadePost Su.empty w) := by
  have HB0 := Lib.hid (Blk.new w zcells 26)
  have HK0 := Lib.hid ((Keep.refl [] w).alloc (.cells zcells 26))
  go_enter Tryd.func53, Tryd.ntmps53
  go_wp2_with fail
  refine (summary_any _ _ (by decide)).mono ?_
  rintro e w1 ⟨c, rfl, hc, K1, hf⟩
  rw [refempty_su] at hc
  have HC := Lib.hid hc
  have HF := Lib.hid hf
  have HK1 := Lib.hid K1
  have hsz : (w.alloc (.cells zcells 26)).heap.size = w.heap.size + 1 := World.size_alloc _ _
  have HSZ := Lib.hid hsz
  clear hc hf K1 hsz
  go_wp2_with ((refine wpList_su rfl (.tmp 0) (.tmp 1) rfl w.heap.size c Su.empty zcells.toList (HK1.out.blk HB0.out (by simp)) rfl HC.out (fun _ k => HC.out.keepNe k HF.out (by rw [HSZ.out]; omega)) rfl rfl ?_; intro w5 B5 K5; have HB5 := Lib.hid B5; have HK5 := Lib.hid K5; clear B5 K5))
  refine bodyPost_ret (v := .agg c) (su_results1 rfl _ w.heap.size c _ HB5.out rfl) rfl ?_
  exact ⟨c, rfl, HB5.out.2, (HK0.out.trans HK1.out).fresh HK5.out (by simp), HF.out.le (by rw [HSZ.out]; omega)⟩
end Go.Proofs.YtomhlmfekmnajaaDoor
