/- ScanSpeculation: the walk. -/
import Derived.Test.YtomhlmfekmnajaaDoorBLaw
import Derived.Test.YtomhlmfekmnajaaDoorSpecLaw
import Derived.Test.YtomhlmfekmnajaaDoorLines
namespace Go.Proofs.YtomhlmfekmnajaaDoor
open Go.RowKit
set_option linter.unusedVariables false
set_option linter.unusedSimpArgs false

theorem entriesOf_length (ss : List Su) : (entriesOf ss).length = ss.length := by simp [entriesOf]
theorem entriesOf_at (ss : List Su) (k : Nat) (h : k < ss.length) : (entriesOf ss)[k]? = some (stateAt 0 ss k) := by simp [entriesOf, h]
theorem SuRow.shape {w : World} {v : Value} {ss : List Su} (h : SuRow w v ss) : ∃ A c, v = .slice A ss.length c := by
  obtain ⟨A, c, rfl, _⟩ := h
  exact ⟨A, c, rfl⟩

theorem pieces_length_n {n c : Int} (hc : 1 ≤ c) (hn : 0 ≤ n) : (((piecesOf n c).length : Nat) : Int) ≤ n := by
  rcases Nat.lt_or_ge n.toNat (piecesOf n c).length with h | h
  · exfalso
    have hk : (piecesOf n c)[n.toNat]? = some ((piecesOf n c)[n.toNat]) := by simp [h]
    obtain ⟨e, _, _, _, hlt, _⟩ := piece_bounds hc hn hk
    rw [e] at hlt
    simp only [pieceAt] at hlt
    have := Int.mul_le_mul_of_nonneg_left hc (show (0 : Int) ≤ ((n.toNat : Nat) : Int) by omega)
    omega
  · omega

set_option maxHeartbeats 2000000 in
set_option maxRecDepth 100000 in
theorem slaw_any (s : ByteArray) (c : Int) (p : Value) (ps : List Int) (w : World) (hM : Moves w) (hsz : s.size ≤ 140737488351232) (hwf : (Lit.int .i64 c).wf = true) (hP : Ints w p ps) (hpl : ps.length ≤ 17592186044416) :
    Calls Tryd.prog 6 #[.string s, .int .i64 c, p] w fun e w' => e = .returned (.bool true) ∧ Keep [] w w' := by
  have HP := Lib.hid hP
  have HM := Lib.hid hM
  obtain ⟨B, dp, rfl, hn2, hd, -, -⟩ := hP
  have hd9 : dp ≤ 9223372036854775807 := hd
  clear hM hd hwf
  by_cases h5 : 150 < s.size
  · have d5 : decide ((150 : Int) < (s.size : Int)) = true := decide_eq_true (by omega)
    go_enter Tryd.func6, Tryd.ntmps6
    go_wp2_with fail
    refine (awakeSK w HM.out (Keep.refl [] w)).mono ?_
    rintro e w1 ⟨rfl, K1⟩
    have HK1 := Lib.hid K1
    clear K1
    go_wp2_with fail
    go_ret
    exact ⟨rfl, HK1.out⟩
  · have d5 : decide ((150 : Int) < (s.size : Int)) = false := decide_eq_false (by omega)
    by_cases h12 : 100 < ps.length
    · have d12 : decide ((100 : Int) < (ps.length : Int)) = true := decide_eq_true (by omega)
      go_enter Tryd.func6, Tryd.ntmps6
      go_wp2_with fail
      refine (awakeSK w HM.out (Keep.refl [] w)).mono ?_
      rintro e w1 ⟨rfl, K1⟩
      have HK1 := Lib.hid K1
      clear K1
      go_wp2_with fail
      go_ret
      exact ⟨rfl, HK1.out⟩
    · have d12 : decide ((100 : Int) < (ps.length : Int)) = false := decide_eq_false (by omega)
      have hs : s.size ≤ 1048576 := by omega
      go_enter Tryd.func6, Tryd.ntmps6
      go_wp2_with fail
      clear d5 d12
      refine (mod_any c 20 _ (by decide) (by decide)).mono ?_
      rintro e w0 ⟨rfl, rfl⟩
      have hm0 := Int.emod_nonneg c (show (20 : Int) ≠ 0 by decide)
      have hm1 := Int.emod_lt_of_pos c (show (0 : Int) < 20 by decide)
      obtain ⟨m, hm⟩ : ∃ m, m = c % 20 := ⟨_, rfl⟩
      rw [← hm] at hm0 hm1 ⊢
      obtain ⟨q, hq⟩ : ∃ q, q = m + 1 := ⟨_, rfl⟩
      have hq1 : 1 ≤ q := by omega
      have hq2 : q ≤ 20 := by omega
      have HQ := Lib.hid hq.symm
      obtain ⟨ss, hss⟩ : ∃ ss, ss = sumsOf s q := ⟨_, rfl⟩
      obtain ⟨hg, hso, hbr⟩ := sums_whole s q hq1 hs
      have hlen := sums_length s q hq1
      have hst := fun k hk => sums_state s q hq1 hs k hk
      have hln : (sumsOf s q).length ≤ 1000000 := by
        have := pieces_length_n (n := s.size) hq1 (by omega)
        unfold sumsOf
        rw [List.length_map]
        omega
      rw [← hss] at hg hso hbr hlen hst hln
      obtain ⟨T, hT⟩ : ∃ T, T = summaryOf (bytesOf s) := ⟨_, rfl⟩
      rw [← hT] at hbr
      have HT := Lib.hid hT
      have HSO := Lib.hid hso
      have HBR := Lib.hid hbr
      have HST := Lib.hid hst
      have HSS := Lib.hid hss.symm
      clear hm hq hg hso hbr hst hss hT h5 h12
      go_wp2_with fail
      rw [HQ.out]
      refine (summaries_any s q _ HM.out hs hq1 (by omega)).mono ?_
      rintro e w1 ⟨v, rfl, hv, K1⟩
      rw [HSS.out] at hv
      have HV := Lib.hid hv
      have HK1 := Lib.hid K1
      obtain ⟨A, cp, rfl⟩ := hv.shape
      clear hv K1
      go_wp2_with fail
      refine (bracket_any _ _ ss ps _ HV.out (HP.out.keep HK1.out) (by omega)).mono ?_
      rintro e w2 ⟨c1, rfl, h1, K2, -⟩
      rw [HBR.out] at h1 ⊢
      have H1 := Lib.hid h1
      have HV2 := Lib.hid (HV.out.keep K2)
      have HK2 := Lib.hid (HK1.out.trans K2)
      clear h1 K2 HV
      go_wp2_with ((refine wpList_su_new rfl (.tmp 9) (.tmp 41) rfl c1 T H1.out rfl rfl ?_; intro w3 B3 K3; have HB3 := Lib.hid B3; have HK3 := Lib.hid (HK2.out.trans K3); have HV3 := Lib.hid (HV2.out.keep K3); clear B3 K3))
      refine (summarize_any s _ (HM.out.keep HK3.out) hs).mono ?_
      rintro e w4 ⟨v4, rfl, h4, K4, -⟩
      have hsum : summarize (bytesOf s) = (T, 0) := by
        unfold summarize
        rw [if_pos (by rw [bytesOf_length]; exact hs), HT.out]
      rw [hsum] at h4 ⊢
      obtain ⟨c4, rfl, -, -⟩ := h4.cells
      have H4 := Lib.hid h4
      have HB4 := Lib.hid (HB3.out.keep K4)
      have HV4 := Lib.hid (HV3.out.keep K4)
      have HK4 := Lib.hid (HK3.out.trans K4)
      clear hsum h4 K4 HB3 HV3 HV2
      go_wp2_with ((refine wpList_su_new rfl (.tmp 11) (.tmp 46) rfl c4 T H4.out rfl rfl ?_; intro w5 B5 K5; have HC5 := Lib.hid B5; have HB5 := Lib.hid (HB4.out.keep K5); have HK5 := Lib.hid (HK4.out.trans K5); have HV5 := Lib.hid (HV4.out.keep K5); clear B5 K5))
      refine (entries_any _ ss _ HV5.out HSO.out (by omega)).mono ?_
      rintro e w6 ⟨v6, rfl, h6, K6⟩
      have H6 := Lib.hid h6
      obtain ⟨E, ec, he6⟩ := h6.shape (entriesOf_length ss)
      subst he6
      have HB6 := Lib.hid (HB5.out.keep K6)
      have HC6 := Lib.hid (HC5.out.keep K6)
      have HK6 := Lib.hid (HK5.out.trans K6)
      have e1 : ((ss.length : Int) != (ss.length : Int)) = false := by simp
      have e2 : (ss.length != ss.length) = false := by simp
      have e3 : ((ss.length : Int) != ((s.size : Int) + q - 1) / q) = false := by rw [hlen]; simp
      clear h6 K6 hlen
      go_wp2_with (first | (refine wpList_load_sb rfl (.tmp 9) rfl w2.heap.size c1 T HB6.out rfl ?_) | (refine wpList_load_sb rfl (.tmp 11) rfl w4.heap.size c4 T HC6.out rfl ?_))
      refine (same_any _ _ T T true (decide_eq_true rfl).symm _ HB6.out.2 HC6.out.2).mono ?_
      rintro e w7 ⟨rfl, K7⟩
      have HK7 := Lib.hid (HK6.out.trans K7)
      have H7 := Lib.hid (H6.out.keep K7)
      clear K7
      go_wp2_with fail
      clear e1 e2 e3
      go_loopw [15] (fun i wr => ∃ k : Nat, k ≤ ss.length ∧ i = .int .i64 k ∧ Keep [] w7 wr) (fun i _ => ss.length - (intOf i).toNat)
      case atStart => exact ⟨0, by omega, rfl, Keep.refl _ _⟩
      case round =>
        obtain ⟨k, hk, rfl, hK⟩ := hrel
        obtain ⟨W, rfl⟩ : ∃ W, W = wr := ⟨_, rfl⟩
        have HK := Lib.hid hK
        clear hK
        by_cases hlt : k < ss.length
        · obtain ⟨m0, m1, hstate⟩ := HST.out k hlt
          obtain ⟨x, hx⟩ : ∃ x : Nat, x = exitAt (bytesOf (s.extract 0 ((k : Int) * q).toNat)) 0 (s.extract 0 ((k : Int) * q).toNat).size := ⟨_, rfl⟩
          rw [← hx] at hstate
          have HX := Lib.hid hx
          obtain ⟨_, _, e1, _, _, _, hcell⟩ := (H7.out.keep HK.out)
          injection e1 with e2 e4 e3
          clear e4
          subst e2; subst e3
          obtain ⟨g, off, rfl, hck⟩ := hcell k (stateAt 0 ss k) (entriesOf_at ss k hlt)
          rw [hstate] at hck
          have hex : (s.extract 0 ((k : Int) * q).toNat).size ≤ 1048576 := by rw [ByteArray.size_extract]; omega
          have hlt' : (k : Int) < ss.length := by omega
          have hxx : ((x : Int) != (x : Int)) = false := by simp
          clear hstate hx hcell
          go_wp2_with fail
          refine (lines_any _ _ ((HM.out.keep HK7.out).keep HK.out) hex).mono ?_
          rintro e w8 ⟨v8, rfl, -, K8⟩
          rw [← HX.out]
          have hck8 := K8.cell hck (by simp)
          have HK8 := Lib.hid (HK.out.trans K8)
          clear K8 hck
          go_wp2_with fail
          go_roundw
          case rel => exact ⟨k + 1, by omega, by go_num, HK8.out⟩
          case measure => simp [intOf]; omega
        · go_wp2_with fail
          refine (awakeSK w HM.out (HK7.out.trans HK.out)).mono ?_
          rintro e w8 ⟨rfl, K8⟩
          have HK8 := Lib.hid K8
          clear K8
          go_wp2_with fail
          go_ret
          exact ⟨rfl, HK8.out⟩
end Go.Proofs.YtomhlmfekmnajaaDoor
