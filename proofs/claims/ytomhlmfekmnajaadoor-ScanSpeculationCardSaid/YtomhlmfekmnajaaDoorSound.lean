/- examine and sound: the walks. -/
import Derived.Test.YtomhlmfekmnajaaDoorRefValid
namespace Go.Proofs.YtomhlmfekmnajaaDoor
open Go.RowKit
set_option linter.unusedVariables false
set_option linter.unusedSimpArgs false

def lenSum (ss : List Su) : Int := (ss.map Su.len).sum
def soundOf (ss : List Su) : Int := if ss.all Su.valid = true then (if lenSum ss ≤ 1048576 then 0 else 2) else 1

theorem lenSum_append (a b : List Su) : lenSum (a ++ b) = lenSum a + lenSum b := by simp [lenSum]
theorem take_succ {ss : List Su} {k : Nat} {x : Su} (hx : ss[k]? = some x) : ss.take (k + 1) = ss.take k ++ [x] := by
  obtain ⟨hk, rfl⟩ := List.getElem?_eq_some_iff.1 hx
  rw [List.take_succ_eq_append_getElem hk]
theorem lenSum_nonneg : ∀ {ss : List Su}, ss.all Su.valid = true → 0 ≤ lenSum ss
  | [], _ => by simp [lenSum]
  | x :: xs, h => by
    simp only [List.all_cons, Bool.and_eq_true] at h
    have := lenSum_nonneg h.2
    have := x.valid_len h.1
    simp only [lenSum, List.map_cons, List.sum_cons] at *
    omega
theorem all_take {ss : List Su} {k : Nat} (h : ss.all Su.valid = true) : (ss.take k).all Su.valid = true := by
  rw [List.all_eq_true] at *
  exact fun x hx => h x (List.mem_of_mem_take hx)
theorem soundOf_bad {ss : List Su} {k : Nat} {x : Su} (hx : ss[k]? = some x) (h : x.valid = false) : soundOf ss = 1 := by
  unfold soundOf
  rw [if_neg]
  intro hall
  have := List.all_eq_true.1 hall x (List.mem_of_getElem? hx)
  rw [h] at this; cases this

set_option maxHeartbeats 1000000 in
set_option maxRecDepth 100000 in
theorem examine_any (v : Value) (ss : List Su) (w : World) (hR : SuRow w v ss) : Calls Tryd.prog 56 #[v] w fun e w' => e = .returned (.int .i64 (soundOf ss)) ∧ Keep [] w w' := by
  have HR := Lib.hid hR
  obtain ⟨A, cp, rfl, hn, hc, -, -⟩ := hR
  have hc9 : cp ≤ 9223372036854775807 := hc
  obtain ⟨r, hr⟩ : ∃ r, r = soundOf ss := ⟨_, rfl⟩
  rw [← hr]
  have HRR := Lib.hid hr
  clear hr hc
  go_enter Tryd.func56, Tryd.ntmps56
  go_wp2_with fail
  go_loopw [8, 3] (fun i t wr => ∃ (k : Nat) (n : Int), k ≤ ss.length ∧ i = .int .i64 k ∧ t = .int .i64 n ∧ n = min (lenSum (ss.take k)) 1048577 ∧ 0 ≤ n ∧ n ≤ 1048577 ∧ (ss.take k).all Su.valid = true ∧ Keep [] w wr) (fun i _ _ => ss.length - (intOf i).toNat)
  case atStart => exact ⟨0, 0, by omega, rfl, rfl, by simp [lenSum]; omega, by omega, by omega, rfl, Keep.refl _ _⟩
  case round =>
    obtain ⟨k, n, hk, rfl, rfl, hn', hn0, hn1, hall, hK⟩ := hrel
    obtain ⟨W, rfl⟩ : ∃ W, W = wr := ⟨_, rfl⟩
    have HK := Lib.hid hK
    have HN := Lib.hid hn'
    have HALL := Lib.hid hall
    clear hK hn' hall
    by_cases hlt : k < ss.length
    · obtain ⟨x, hx⟩ : ∃ x, ss[k]? = some x := ⟨ss[k], by simp [hlt]⟩
      obtain ⟨g, off, cs, hidx, hrg, hsu⟩ := SuRow.idx (HR.out.keep HK.out) k x hx
      have HX := Lib.hid hx
      have HSU := Lib.hid hsu
      have HRG := Lib.hid hrg
      clear hrg hsu hx
      go_wp2_with (first | (refine wpList_load_su rfl (.tmp 10) rfl g off cs x HRG.out HSU.out rfl ?_) | (refine wpList_su_new rfl (.tmp 5) (.tmp 11) rfl cs x HSU.out rfl rfl ?_; intro w2 B2 K2; have HB2 := Lib.hid B2; have HK2 := Lib.hid (HK.out.trans K2); clear B2 K2 hidx) | (refine wpList_load_sb rfl (.tmp 5) rfl W.heap.size cs x HB2.out rfl ?_))
      cases hvx : x.valid
      · have hrr : r = 1 := by rw [HRR.out]; exact soundOf_bad HX.out hvx
        have HRE := Lib.hid hrr
        have HV := Lib.hid hvx
        clear hrr hvx
        refine (valid_any _ x _ HB2.out.2).mono ?_
        rintro e w3 ⟨rfl, K3⟩
        rw [HV.out]
        have HK3 := Lib.hid (HK2.out.trans K3)
        clear K3
        go_wp2_with fail
        go_ret
        exact ⟨by rw [HRE.out]; rfl, HK3.out⟩
      · have hval := x.valid_len hvx
        have HV := Lib.hid hvx
        clear hvx
        refine (valid_any _ x _ HB2.out.2).mono ?_
        rintro e w3 ⟨rfl, K3⟩
        rw [HV.out]
        have HK3 := Lib.hid (HK2.out.trans K3)
        have HB3 := Lib.hid (HB2.out.keep K3)
        obtain ⟨_, _, _, _, _, _, -, xl, -⟩ := su_cells HB3.out.1.range HB3.out.2
        clear K3
        go_wp2_with fail
        go_roundw
        case rel =>
          refine ⟨k + 1, min (n + x.len) 1048577, by omega, by go_num, ?_, ?_, by omega, by omega, ?_, HK3.out⟩
          · exact congrArg (Value.int .i64) (by split <;> omega)
          · rw [take_succ HX.out, lenSum_append, HN.out]
            simp only [lenSum, List.map_cons, List.map_nil, List.sum_cons, List.sum_nil]
            omega
          · rw [take_succ HX.out, List.all_append, HALL.out]; simp [HV.out]
        case measure => simp [intOf]; omega
    · have hkl : k = ss.length := by omega
      subst hkl
      have hall := HALL.out
      have hn2 := HN.out
      rw [List.take_length] at hall hn2
      by_cases hs : lenSum ss ≤ 1048576
      · have hrr : r = 0 := by rw [HRR.out]; simp [soundOf, hall, hs]
        have HRE := Lib.hid hrr
        have hd : decide (1048576 < n) = false := decide_eq_false (by omega)
        clear hrr hall hn2
        go_wp2_with fail
        go_ret
        exact ⟨by rw [HRE.out]; rfl, HK.out⟩
      · have hrr : r = 2 := by rw [HRR.out]; simp [soundOf, hall, hs]
        have HRE := Lib.hid hrr
        have hd : decide (1048576 < n) = true := decide_eq_true (by omega)
        clear hrr hall hn2
        go_wp2_with fail
        go_ret
        exact ⟨by rw [HRE.out]; rfl, HK.out⟩

set_option maxHeartbeats 1000000 in
set_option maxRecDepth 100000 in
theorem sound_any (v : Value) (ss : List Su) (w : World) (hR : SuRow w v ss) : Calls Tryd.prog 59 #[v] w fun e w' => e = .returned (.int .i64 (soundOf ss)) ∧ Keep [] w w' := by
  have HR := Lib.hid hR
  obtain ⟨A, cp, rfl, hn, hc, -, -⟩ := hR
  have hc9 : cp ≤ 9223372036854775807 := hc
  obtain ⟨r, hr⟩ : ∃ r, r = soundOf ss := ⟨_, rfl⟩
  rw [← hr]
  have HRR := Lib.hid hr
  clear hr hc
  go_enter Tryd.func59, Tryd.ntmps59
  go_wp2_with fail
  go_loopw [4] (fun i wr => ∃ k : Nat, k ≤ ss.length ∧ i = .int .i64 k ∧ (ss.take k).all Su.valid = true ∧ Keep [] w wr) (fun i _ => ss.length - (intOf i).toNat)
  case atStart => exact ⟨0, by omega, rfl, rfl, Keep.refl _ _⟩
  case round =>
    obtain ⟨k, hk, rfl, hall, hK⟩ := hrel
    obtain ⟨W, rfl⟩ : ∃ W, W = wr := ⟨_, rfl⟩
    have HK := Lib.hid hK
    have HALL := Lib.hid hall
    clear hK hall
    by_cases hlt : k < ss.length
    · obtain ⟨x, hx⟩ : ∃ x, ss[k]? = some x := ⟨ss[k], by simp [hlt]⟩
      obtain ⟨g, off, cs, hidx, hrg, hsu⟩ := SuRow.idx (HR.out.keep HK.out) k x hx
      have HX := Lib.hid hx
      have HSU := Lib.hid hsu
      have HRG := Lib.hid hrg
      clear hrg hsu hx
      go_wp2_with (first | (refine wpList_load_su rfl (.tmp 14) rfl g off cs x HRG.out HSU.out rfl ?_))
      cases hvx : x.valid
      · have hrr : r = 1 := by rw [HRR.out]; exact soundOf_bad HX.out hvx
        have HRE := Lib.hid hrr
        have HV := Lib.hid hvx
        clear hrr hvx
        refine (refvalid_any _ x _ HSU.out).mono ?_
        rintro e w3 ⟨rfl, K3⟩
        rw [HV.out]
        have HK3 := Lib.hid (HK.out.trans K3)
        clear K3
        go_wp2_with fail
        go_ret
        exact ⟨by rw [HRE.out]; rfl, HK3.out⟩
      · have HV := Lib.hid hvx
        clear hvx
        refine (refvalid_any _ x _ HSU.out).mono ?_
        rintro e w3 ⟨rfl, K3⟩
        rw [HV.out]
        have HK3 := Lib.hid (HK.out.trans K3)
        clear K3 hidx
        go_wp2_with fail
        go_roundw
        case rel => exact ⟨k + 1, by omega, by go_num, by rw [take_succ HX.out, List.all_append, HALL.out]; simp [HV.out], HK3.out⟩
        case measure => simp [intOf]; omega
    · have hkl : k = ss.length := by omega
      subst hkl
      have hall := HALL.out
      rw [List.take_length] at hall
      have HALL := Lib.hid hall
      clear hall
      go_wp2_with fail
      go_loopw [5, 3] (fun i t wr => ∃ (k : Nat) (n : Int), k ≤ ss.length ∧ i = .int .i64 k ∧ t = .int .i64 n ∧ n = lenSum (ss.take k) ∧ 0 ≤ n ∧ n ≤ 1048576 ∧ Keep [] w wr) (fun i _ _ => ss.length - (intOf i).toNat)
      case atStart => exact ⟨0, 0, by omega, rfl, rfl, by simp [lenSum], by omega, by omega, HK.out⟩
      case round =>
        obtain ⟨k, n, hk, rfl, rfl, hn', hn0, hn1, hK⟩ := hrel
        obtain ⟨V, rfl⟩ : ∃ V, V = wr := ⟨_, rfl⟩
        have HK2 := Lib.hid hK
        have HN := Lib.hid hn'
        clear hK hn'
        by_cases hlt : k < ss.length
        · obtain ⟨x, hx⟩ : ∃ x, ss[k]? = some x := ⟨ss[k], by simp [hlt]⟩
          obtain ⟨g, off, cs, hidx, hrg, hsu⟩ := SuRow.idx (HR.out.keep HK2.out) k x hx
          obtain ⟨_, _, _, _, _, _, -, xl, -⟩ := su_cells hrg hsu
          have hval := x.valid_len (List.all_eq_true.1 HALL.out x (List.mem_of_getElem? hx))
          have hstep : lenSum (ss.take (k + 1)) = n + x.len := by
            rw [take_succ hx, lenSum_append, HN.out]; simp [lenSum]
          have hrest : lenSum ss = lenSum (ss.take (k + 1)) + lenSum (ss.drop (k + 1)) := by rw [← lenSum_append, List.take_append_drop]
          have hdrop : 0 ≤ lenSum (ss.drop (k + 1)) := lenSum_nonneg (by
            rw [List.all_eq_true]
            exact fun y hy => List.all_eq_true.1 HALL.out y (List.mem_of_mem_drop hy))
          have HST := Lib.hid hstep
          clear hrg hsu hx
          by_cases hbig : n + x.len ≤ 1048576
          · have hd : decide (1048576 < n + x.len) = false := decide_eq_false (by omega)
            clear hstep hrest hdrop
            go_wp2_with fail
            go_roundw
            case rel => exact ⟨k + 1, n + x.len, by omega, by go_num, rfl, HST.out.symm, by omega, by omega, HK2.out⟩
            case measure => simp [intOf]; omega
          · have hrr : r = 2 := by
              rw [HRR.out]
              simp only [soundOf, HALL.out, if_true]
              rw [if_neg (by omega)]
            have HRE := Lib.hid hrr
            have hd : decide (1048576 < n + x.len) = true := decide_eq_true (by omega)
            clear hstep hrest hdrop hrr
            go_wp2_with fail
            go_ret
            exact ⟨by rw [HRE.out]; rfl, HK2.out⟩
        · have hkl : k = ss.length := by omega
          subst hkl
          have hn2 := HN.out
          rw [List.take_length] at hn2
          have hrr : r = 0 := by
            rw [HRR.out]
            simp only [soundOf, HALL.out, if_true]
            rw [if_pos (by omega)]
          have HRE := Lib.hid hrr
          clear hrr hn2
          go_wp2_with fail
          go_ret
          exact ⟨by rw [HRE.out]; rfl, HK2.out⟩
end Go.Proofs.YtomhlmfekmnajaaDoor
