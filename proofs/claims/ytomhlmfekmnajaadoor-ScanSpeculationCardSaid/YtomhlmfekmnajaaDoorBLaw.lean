/- ScanBracket: the walk. -/
import Derived.Test.YtomhlmfekmnajaaDoorAwakeS
import Derived.Test.YtomhlmfekmnajaaDoorBracket
import Derived.Test.YtomhlmfekmnajaaDoorRefBracket
namespace Go.Proofs.YtomhlmfekmnajaaDoor
open Go.RowKit
set_option linter.unusedVariables false
set_option linter.unusedSimpArgs false

theorem awakeSK (w : World) (hM : Moves w) {W : World} (K : Keep [] w W) : Calls Tryd.prog 21 #[] W fun e w' => e = .returned (.bool true) ∧ Keep [] w w' :=
  (awakeS_any W (hM.keep K)).mono fun e w' ⟨h, k⟩ => ⟨h, K.trans k⟩

set_option maxHeartbeats 1000000 in
set_option maxRecDepth 100000 in
theorem blaw_any (v : Value) (ss : List Su) (p : Value) (ps : List Int) (w : World) (hM : Moves w) (hR : SuRow w v ss) (hb : ∀ s ∈ ss, s.l0.length ≤ 17592186044416 ∧ s.l1.length ≤ 17592186044416 ∧ s.l2.length ≤ 17592186044416) (hP : Ints w p ps) (hpl : ps.length ≤ 17592186044416) :
    Calls Tryd.prog 5 #[v, p] w fun e w' => e = .returned (.bool true) ∧ Keep [] w w' := by
  have HR := Lib.hid hR
  have HP := Lib.hid hP
  have HM := Lib.hid hM
  have HBD := Lib.hid hb
  obtain ⟨A, cp, rfl, hn, hc, -, -⟩ := hR
  have hc9 : cp ≤ 9223372036854775807 := hc
  obtain ⟨B, dp, rfl, hn2, hd, -, -⟩ := hP
  have hd9 : dp ≤ 9223372036854775807 := hd
  clear hc hM hb hd
  by_cases h5 : 8 < ss.length
  · have d5 : decide ((8 : Int) < (ss.length : Int)) = true := decide_eq_true (by omega)
    go_enter Tryd.func5, Tryd.ntmps5
    go_wp2_with fail
    refine (awakeSK w HM.out (Keep.refl [] w)).mono ?_
    rintro e w1 ⟨rfl, K1⟩
    have HK1 := Lib.hid K1
    clear K1
    go_wp2_with fail
    go_ret
    exact ⟨rfl, HK1.out⟩
  · have d5 : decide ((8 : Int) < (ss.length : Int)) = false := decide_eq_false (by omega)
    by_cases h12 : 12 < ps.length
    · have d12 : decide ((12 : Int) < (ps.length : Int)) = true := decide_eq_true (by omega)
      go_enter Tryd.func5, Tryd.ntmps5
      go_wp2_with fail
      refine (awakeSK w HM.out (Keep.refl [] w)).mono ?_
      rintro e w1 ⟨rfl, K1⟩
      have HK1 := Lib.hid K1
      clear K1
      go_wp2_with fail
      go_ret
      exact ⟨rfl, HK1.out⟩
    · have d12 : decide ((12 : Int) < (ps.length : Int)) = false := decide_eq_false (by omega)
      go_enter Tryd.func5, Tryd.ntmps5
      go_wp2_with fail
      clear d5 d12
      go_loopw [5] (fun i wr => ∃ k : Nat, k ≤ ss.length ∧ i = .int .i64 k ∧ Keep [] w wr) (fun i _ => ss.length - (intOf i).toNat)
      case atStart => exact ⟨0, by omega, rfl, Keep.refl _ _⟩
      case round =>
        obtain ⟨k, hk, rfl, hK⟩ := hrel
        obtain ⟨W, rfl⟩ : ∃ W, W = wr := ⟨_, rfl⟩
        have HK := Lib.hid hK
        clear hK
        by_cases hlt : k < ss.length
        · obtain ⟨x, hx⟩ : ∃ x, ss[k]? = some x := ⟨ss[k], by simp [hlt]⟩
          obtain ⟨g, off, cs, hidx, hrg, hsu⟩ := SuRow.idx (HR.out.keep HK.out) k x hx
          obtain ⟨A0, a0, A1, a1, A2, a2, -, -, -, -, -, x4, x5, x6⟩ := su_cells hrg hsu
          obtain ⟨b0, b1, b2⟩ := HBD.out x (List.mem_of_getElem? hx)
          have hlt' : (k : Int) < ss.length := by omega
          have wr1 := IntWalk.i64_in ((x.l0.length : Int) + x.l1.length) (by omega)
          have wr2 := IntWalk.i64_in ((x.l0.length : Int) + x.l1.length + x.l2.length) (by omega)
          clear hrg hsu hx
          by_cases hs : (60 : Int) < (x.l0.length : Int) + x.l1.length + x.l2.length
          · have ds : decide ((60 : Int) < (x.l0.length : Int) + x.l1.length + x.l2.length) = true := decide_eq_true hs
            go_wp2_with fail
            go_quiet (fail)
            go_wp2_with fail
            refine (awakeSK w HM.out (HK.out.drewN nq)).mono ?_
            rintro e w1 ⟨rfl, K1⟩
            have HK1 := Lib.hid K1
            clear K1
            go_wp2_with fail
            go_ret
            exact ⟨rfl, HK1.out⟩
          · have ds : decide ((60 : Int) < (x.l0.length : Int) + x.l1.length + x.l2.length) = false := decide_eq_false hs
            go_wp2_with fail
            go_quiet (fail)
            clear wr1 wr2 ds
            go_wp2_with fail
            go_roundw
            case rel => exact ⟨k + 1, by omega, by go_num, HK.out.drewN _⟩
            case measure => simp [intOf]; omega
        · have hkl : k = ss.length := by omega
          subst hkl
          obtain ⟨s1, hs1⟩ : ∃ s1, s1 = (bracketOf ss).1 := ⟨_, rfl⟩
          obtain ⟨e1, he1⟩ : ∃ e1, e1 = (bracketOf ss).2 := ⟨_, rfl⟩
          have HS1 := Lib.hid hs1
          have HE1 := Lib.hid he1
          clear hs1 he1
          go_wp2_with fail
          refine (bracket_any _ _ ss ps _ (HR.out.keep HK.out) (HP.out.keep HK.out) (by omega)).mono ?_
          rintro e w1 ⟨c1, rfl, h1, K1, -⟩
          rw [← HS1.out] at h1
          rw [← HE1.out]
          have H1 := Lib.hid h1
          have HK1 := Lib.hid (HK.out.trans K1)
          clear h1 K1 HK
          go_wp2_with ((refine wpList_su_new rfl (.tmp 6) (.tmp 54) rfl c1 s1 H1.out rfl rfl ?_; intro w2 B2 K2; have HB2 := Lib.hid B2; have HK2 := Lib.hid (HK1.out.trans K2); clear B2 K2))
          refine (refbracket_any _ ss _ (HR.out.keep HK2.out)).mono ?_
          rintro e w3 ⟨c2, rfl, h2, K3, -⟩
          rw [← HS1.out] at h2
          rw [← HE1.out]
          have H2 := Lib.hid h2
          have HB3 := Lib.hid (HB2.out.keep K3)
          have HK3 := Lib.hid (HK2.out.trans K3)
          clear h2 K3 HB2 HK2
          have hee : (e1 == e1) = true := by simp
          go_wp2_with (first | (refine wpList_su_new rfl (.tmp 8) (.tmp 59) rfl c2 s1 H2.out rfl rfl ?_; intro w4 B4 K4; have HC4 := Lib.hid B4; have HB4 := Lib.hid (HB3.out.keep K4); have HK4 := Lib.hid (HK3.out.trans K4); clear B4 K4) | (refine wpList_load_sb rfl (.tmp 6) rfl w1.heap.size c1 s1 HB4.out rfl ?_) | (refine wpList_load_sb rfl (.tmp 8) rfl w3.heap.size c2 s1 HC4.out rfl ?_))
          refine (same_any _ _ s1 s1 true (decide_eq_true rfl).symm _ HB4.out.2 HC4.out.2).mono ?_
          rintro e w5 ⟨rfl, K5⟩
          have HK5 := Lib.hid (HK4.out.trans K5)
          clear K5 HB3 HK3 HB4 HC4 HK4 H1 H2 HK1
          go_wp2_with fail
          refine (awakeSK w HM.out HK5.out).mono ?_
          rintro e w6 ⟨rfl, K6⟩
          have HK6 := Lib.hid K6
          clear K6
          go_wp2_with fail
          go_ret
          exact ⟨rfl, HK6.out⟩
end Go.Proofs.YtomhlmfekmnajaaDoor
