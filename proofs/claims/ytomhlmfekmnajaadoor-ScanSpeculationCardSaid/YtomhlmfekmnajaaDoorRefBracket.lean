/- Bracket of the reference: the walk. -/
import Derived.Test.YtomhlmfekmnajaaDoorBracketLaw
import Derived.Test.YtomhlmfekmnajaaDoorRefAll
namespace Go.Proofs.YtomhlmfekmnajaaDoor
open Go.RowKit
set_option linter.unusedVariables false
set_option linter.unusedSimpArgs false

set_option maxHeartbeats 1000000 in
set_option maxRecDepth 100000 in
theorem refbracket_any (v : Value) (ss : List Su) (w : World) (hR : SuRow w v ss) : Calls Tryd.prog 23 #[v] w (AllPost (bracketOf ss) w) := by
  have HR := Lib.hid hR
  obtain ⟨r, hr⟩ : ∃ r, r = bracketOf ss := ⟨_, rfl⟩
  rw [← hr]
  have HRR := Lib.hid hr
  have HB0 := Lib.hid (Blk.new w zcells 26)
  have HK0 := Lib.hid ((Keep.refl [] w).alloc (.cells zcells 26))
  clear hr hR
  go_enter Tryd.func23, Tryd.ntmps23
  go_wp2_with fail
  refine (sound_any _ ss _ (HR.out.keep HK0.out)).mono ?_
  rintro e w1 ⟨rfl, K1⟩
  have HB1 := Lib.hid (K1.blk HB0.out (by simp))
  have HK1 := Lib.hid (HK0.out.trans K1)
  have hlt0 : w.heap.size < w1.heap.size := HB1.out.lt
  obtain ⟨es, hes⟩ : ∃ es, es = soundOf ss := ⟨_, rfl⟩
  rw [← hes]
  have HES := Lib.hid hes
  clear K1 hes HB0 HK0
  by_cases he : es = 0
  · subst he
    have hrr : r = allOf ss := by rw [HRR.out]; simp [bracketOf, ← HES.out]
    have HRE := Lib.hid hrr
    clear hrr
    go_wp2_with fail
    refine (refall_any _ ss _ (HR.out.keep HK1.out)).mono ?_
    rintro e w2 ⟨c, rfl, hc, K2, hf⟩
    rw [← HRE.out] at hc ⊢
    have HC := Lib.hid hc
    have HF := Lib.hid hf
    have HB2 := Lib.hid (K2.blk HB1.out (by simp))
    have HK2 := Lib.hid (HK1.out.trans K2)
    have hw1 := HK1.out.size
    obtain ⟨r1, hr1⟩ : ∃ r1, r1 = r.1 := ⟨_, rfl⟩
    obtain ⟨r2, hr2⟩ : ∃ r2, r2 = r.2 := ⟨_, rfl⟩
    rw [← hr2]
    rw [← hr1] at HC
    have HR1 := Lib.hid hr1
    have HR2 := Lib.hid hr2
    clear hc hf K2 hr1 hr2
    go_wp2_with ((refine wpList_su rfl (.tmp 2) (.tmp 13) rfl w.heap.size c r1 zcells.toList HB2.out rfl HC.out (fun _ k => HC.out.keepNe k HF.out hlt0) rfl rfl ?_; intro w5 B5 K5; have HB5 := Lib.hid B5; have HK5 := Lib.hid (HK2.out.fresh K5 (by simp)); clear B5 K5))
    refine bodyPost_ret (v := .tuple #[.agg c, .int .i64 r2]) (su_results2 rfl _ w.heap.size c r1 _ HB5.out rfl rfl) rfl ?_
    exact ⟨c, by rw [HR2.out], by rw [← HR1.out]; exact HB5.out.2, HK5.out, HF.out.le hw1⟩
  · have hne : (es != 0) = true := by simp [he]
    have hrr : r = (Su.zero, es) := by rw [HRR.out]; simp [bracketOf, ← HES.out, he]
    have HRE := Lib.hid hrr
    clear he hrr
    go_wp2_with ((refine wpList_su rfl (.tmp 2) (.tmp 9) rfl w.heap.size zcells Su.zero zcells.toList HB1.out rfl (zcells_su _) (SuV.keepZ _) rfl rfl ?_; intro w5 B5 K5; have HB5 := Lib.hid B5; have HK5 := Lib.hid (HK1.out.fresh K5 (by simp)); clear B5 K5))
    refine bodyPost_ret (v := .tuple #[.agg zcells, .int .i64 es]) (su_results2 rfl _ w.heap.size zcells Su.zero _ HB5.out rfl rfl) rfl ?_
    exact ⟨zcells, by rw [HRE.out], by rw [HRE.out]; exact zcells_su _, HK5.out, zeroV_fresh _⟩
end Go.Proofs.YtomhlmfekmnajaaDoor
