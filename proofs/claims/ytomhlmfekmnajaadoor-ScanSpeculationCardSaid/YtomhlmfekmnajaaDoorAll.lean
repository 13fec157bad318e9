/- All of the automaton: the walk. -/
import Derived.Test.YtomhlmfekmnajaaDoorBox
namespace Go.Proofs.YtomhlmfekmnajaaDoor
open Go.RowKit
set_option linter.unusedVariables false

def allFrom (s : Su) : List Su → Su × Int
  | [] => (s, 0)
  | x :: xs => if (compose s x).2 = 0 then allFrom (compose s x).1 xs else (Su.zero, (compose s x).2)
def allOf (ss : List Su) : Su × Int := allFrom Su.empty ss
theorem allFrom_step {s x : Su} {ss : List Su} {k : Nat} (hx : ss[k]? = some x) : allFrom s (ss.drop k) = if (compose s x).2 = 0 then allFrom (compose s x).1 (ss.drop (k + 1)) else (Su.zero, (compose s x).2) := by
  obtain ⟨hk, rfl⟩ := List.getElem?_eq_some_iff.1 hx
  rw [List.drop_eq_getElem_cons hk]; rfl

def AllPost (r : Su × Int) (w : World) (e : Ending) (w' : World) : Prop := ∃ c, e = .returned (.tuple #[.agg c, .int .i64 r.2]) ∧ SuV w' (.agg c) r.1 ∧ Keep [] w w' ∧ FreshV w.heap.size (.agg c)
theorem empty_fresh (b : Nat) : FreshV b emptyV := FreshV.mk (by simp [Value.ownBlock]) (by simp [Value.ownBlock]) (by simp [Value.ownBlock])
theorem FreshV.le {b b' : Nat} {v : Value} (h : FreshV b v) (hb : b' ≤ b) : FreshV b' v := fun cs e i u hu g hg => Nat.le_trans hb (h cs e i u hu g hg)

set_option maxHeartbeats 1000000 in
set_option maxRecDepth 100000 in
theorem all_any (v : Value) (ss : List Su) (w : World) (hR : SuRow w v ss) : Calls Tryd.prog 18 #[v] w (AllPost (allOf ss) w) := by
  have HR := Lib.hid hR
  obtain ⟨A, cp, rfl, hn, hc, -, -⟩ := hR
  have hc9 : cp ≤ 9223372036854775807 := hc
  obtain ⟨r, hr⟩ : ∃ r, r = allOf ss := ⟨_, rfl⟩
  rw [← hr]
  have HRR := Lib.hid hr
  clear hr hc
  go_enter Tryd.func18, Tryd.ntmps18
  go_wp2_with fail
  have B0 := Blk.new w zcells 26
  have K0 := (Keep.refl [] w).alloc (.cells zcells 26)
  refine (empty_any _).mono ?_
  rintro e w1 ⟨rfl, K1⟩
  have HB1 := Lib.hid (K1.blk B0 (by simp))
  have HK1 := Lib.hid (K0.trans K1)
  have hsz1 : w.heap.size < w1.heap.size := by have := (HB1.out).lt; omega
  clear B0 K0 K1
  unfold emptyV
  go_wp2_with ((refine wpList_su_new rfl (.tmp 4) (.tmp 8) rfl _ Su.empty (emptyV_su _) rfl rfl ?_; intro w2 B2 K2; have HB2 := Lib.hid B2; have HK2 := Lib.hid K2; clear B2 K2))
  go_loopw [11] (fun i wr => ∃ (k : Nat) (c : Array Value) (s : Su), k ≤ ss.length ∧ i = .int .i64 k ∧ SBox wr w1.heap.size c s ∧ allFrom s (ss.drop k) = r ∧ Keep [] w wr ∧ Blk wr w.heap.size 26 zcells.toList ∧ FreshV (w1.heap.size + 1) (.agg c)) (fun i _ => ss.length - (intOf i).toNat)
  case atStart => exact ⟨0, _, _, by omega, rfl, HB2.out, HRR.out.symm, HK1.out.trans HK2.out, HK2.out.blk HB1.out (by simp), empty_fresh _⟩
  case round =>
    obtain ⟨k, c, s, hk, rfl, hS, hall, hK, hB, hF⟩ := hrel
    obtain ⟨W, rfl⟩ : ∃ W, W = wr := ⟨_, rfl⟩
    have HS := Lib.hid hS
    have HA := Lib.hid hall
    have HK := Lib.hid hK
    have HB := Lib.hid hB
    have HF := Lib.hid hF
    clear hS hall hK hB HB2 HK2 hF
    by_cases hlt : k < ss.length
    · obtain ⟨x, hx⟩ : ∃ x, ss[k]? = some x := ⟨ss[k], by simp [hlt]⟩
      obtain ⟨g, off, cs, hidx, hrg, hsu⟩ := SuRow.idx (HR.out.keep HK.out) k x hx
      have HX := Lib.hid hx
      have HSU := Lib.hid hsu
      have HRG := Lib.hid hrg
      clear hrg hsu hx
      go_wp2_with (first | (refine wpList_su_new rfl (.tmp 6) (.tmp 14) rfl cs x HSU.out rfl rfl ?_; intro w2 B2 K2; have HB2 := Lib.hid B2; have HK2 := Lib.hid K2; clear B2 K2 hidx) | (refine wpList_load_su rfl (.tmp 13) rfl g off cs x HRG.out HSU.out rfl ?_) | (refine wpList_load_sb rfl (.tmp 4) rfl w1.heap.size c s (HS.out.keep HK2.out) rfl ?_) | (refine wpList_load_sb rfl (.tmp 6) rfl W.heap.size cs x HB2.out rfl ?_))
      refine (compose_any _ _ s x _ (HS.out.2.keep HK2.out) HB2.out.2).mono ?_
      rintro e w3 ⟨v3, rfl, hv3, K3, hf3⟩
      obtain ⟨c3, rfl, -, -⟩ := hv3.cells
      obtain ⟨s3, hs3⟩ : ∃ s3, s3 = (compose s x).1 := ⟨_, rfl⟩
      obtain ⟨e3, he3⟩ : ∃ e3, e3 = (compose s x).2 := ⟨_, rfl⟩
      have hstep := allFrom_step (s := s) HX.out
      rw [← hs3] at hv3 hstep
      rw [← he3] at hstep
      rw [← he3]
      have HST := Lib.hid hstep
      have HV3 := Lib.hid hv3
      have HF3 := Lib.hid hf3
      have HK3 := Lib.hid (HK2.out.trans K3)
      have hD : w1.heap.size < w2.heap.size := by have := ((HS.out.keep HK2.out).1).lt; omega
      clear hs3 he3 hstep hv3 hf3 K3
      by_cases he : e3 = 0
      · subst he
        go_wp2_with ((refine wpList_su rfl (.tmp 4) (.tmp 19) rfl w1.heap.size c3 s3 c.toList (HS.out.keep HK3.out).1 HS.out.len HV3.out (fun _ k => HV3.out.keepNe k HF3.out hD) rfl rfl ?_; intro w4 B4 K4; have HB4 := Lib.hid B4; have HK4 := Lib.hid K4; clear B4 K4))
        go_roundw
        case rel =>
          refine ⟨k + 1, c3, s3, by omega, by go_num, HB4.out, ?_, (HK.out.trans HK3.out).fresh HK4.out (by simp; omega), HK4.out.blk (HK3.out.blk HB.out (by simp)) (by simp; omega), HF3.out.le hD⟩
          have := HST.out
          rw [HA.out] at this
          simpa using this.symm
        case measure => simp [intOf]; omega
      · have hne : (e3 != 0) = true := by simp [he]
        have hrr : r = (Su.zero, e3) := by have := HST.out; rw [HA.out, if_neg he] at this; exact this
        have HRE := Lib.hid hrr
        clear he hrr
        go_wp2_with (first | (refine wpList_su rfl (.tmp 4) (.tmp 19) rfl w1.heap.size c3 s3 c.toList (HS.out.keep HK3.out).1 HS.out.len HV3.out (fun _ k => HV3.out.keepNe k HF3.out hD) rfl rfl ?_; intro w4 B4 K4; have HB4 := Lib.hid (K4.blk (HK3.out.blk HB.out (by simp)) (by simp; omega)); have HK4 := Lib.hid ((HK.out.trans HK3.out).fresh K4 (by simp; omega)); clear B4 K4) | (refine wpList_su rfl (.tmp 2) (.tmp 23) rfl w.heap.size zcells Su.zero zcells.toList HB4.out rfl (zcells_su _) (SuV.keepZ _) rfl rfl ?_; intro w5 B5 K5; have HB5 := Lib.hid B5; have HK5 := Lib.hid (HK4.out.fresh K5 (by simp)); clear B5 K5))
        refine bodyPost_ret (v := .tuple #[.agg zcells, .int .i64 e3]) (su_results2 rfl _ w.heap.size zcells Su.zero _ HB5.out rfl rfl) rfl ?_
        refine ⟨zcells, ?_, ?_, HK5.out, zeroV_fresh _⟩
        · rw [HRE.out]
        · rw [HRE.out]; exact zeroV_su _
    · have hkl : k = ss.length := by omega
      subst hkl
      have hrr : r = (s, 0) := by have := HA.out; rw [List.drop_length] at this; exact this.symm
      have HRE := Lib.hid hrr
      clear hrr
      go_wp2_with (first | (refine wpList_load_sb rfl (.tmp 4) rfl w1.heap.size c s HS.out rfl ?_) | (refine wpList_su rfl (.tmp 2) (.tmp 26) rfl w.heap.size c s zcells.toList HB.out rfl HS.out.2 (fun _ k => HS.out.2.keepNe k HF.out (by omega)) rfl rfl ?_; intro w5 B5 K5; have HB5 := Lib.hid B5; have HK5 := Lib.hid K5; clear B5 K5))
      refine bodyPost_ret (v := .tuple #[.agg c, .int .i64 0]) (su_results2 rfl _ w.heap.size c s _ HB5.out rfl rfl) rfl ?_
      refine ⟨c, ?_, ?_, HK.out.fresh HK5.out (by simp), HF.out.le (by omega)⟩
      · rw [HRE.out]
      · rw [HRE.out]; exact HB5.out.2
end Go.Proofs.YtomhlmfekmnajaaDoor
