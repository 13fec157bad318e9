/- Compose of the reference: the walk. -/
import Derived.Test.YtomhlmfekmnajaaDoorRefJoin
import Derived.Test.YtomhlmfekmnajaaDoorRefValid
namespace Go.Proofs.YtomhlmfekmnajaaDoor
open Go.RowKit
set_option linter.unusedVariables false

set_option maxHeartbeats 1000000 in
set_option maxRecDepth 100000 in
theorem refcompose_any (v1 v2 : Value) (s t : Su) (w : World) (hs : SuV w v1 s) (ht : SuV w v2 t) : Calls Tryd.prog 20 #[v1, v2] w (AllPost (compose s t) w) := by
  obtain ⟨c1, rfl, h17, -⟩ := hs.cells
  obtain ⟨c2, rfl, h27, -⟩ := ht.cells
  obtain ⟨r, hr⟩ : ∃ r, r = compose s t := ⟨_, rfl⟩
  rw [← hr]
  have HR := Lib.hid hr
  clear hr h17 h27
  go_enter Tryd.func20, Tryd.ntmps20
  go_upto_region 1 with fail
  have KW : Keep [] w (((w.alloc (.cells c1 26)).alloc (.cells c2 26)).alloc (.cells zcells 26)) := (((Keep.refl [] w).alloc _).alloc _).alloc _
  have hB := ((Blk.new w c1 26).alloc (.cells c2 26)).alloc (.cells zcells 26)
  have hC := (Blk.new (w.alloc (.cells c1 26)) c2 26).alloc (.cells zcells 26)
  have hD := Blk.new ((w.alloc (.cells c1 26)).alloc (.cells c2 26)) zcells 26
  rw [World.size_alloc] at hC hD
  rw [World.size_alloc] at hD
  generalize hWb : ((w.alloc (.cells c1 26)).alloc (.cells c2 26)).alloc (.cells zcells 26) = Wb at KW hB hC hD
  have HB := Lib.hid (show SBox Wb w.heap.size c1 s from ⟨hB, hs.keep KW⟩)
  have HC := Lib.hid (show SBox Wb (w.heap.size + 1) c2 t from ⟨hC, ht.keep KW⟩)
  have HD := Lib.hid hD
  have HK := Lib.hid KW
  have HS := Lib.hid hs
  have HT := Lib.hid ht
  have KK0 := Lib.hid (Keep.refl [] Wb)
  clear hWb KW hB hC hD hs ht
  have VAL : ∀ (c : Array Value) (u : Su) (W : World) (b : Bool), Hid (SuV W (.agg c) u) → u.valid = b → Calls Tryd.prog 17 #[.agg c] W fun e w' => e = .returned (.bool b) ∧ Keep [] W w' := fun c u W b h hb => hb ▸ refvalid_any _ u W h.out
  have HVAL := Lib.hid VAL
  clear VAL
  cases hvs : s.valid
  · have hrr : r = (Su.zero, 1) := by rw [HR.out]; simp [compose, hvs]
    have HRE := Lib.hid hrr
    have HVS := Lib.hid hvs
    clear hrr hvs
    go_wp2_with (refine wpList_load_sb rfl (.tmp 2) rfl w.heap.size c1 s HB.out rfl ?_)
    refine (HVAL.out c1 s _ _ (Lib.hid HB.out.2) HVS.out).mono ?_
    rintro e w1 ⟨rfl, K1⟩
    have HD1 := Lib.hid (K1.blk HD.out (by simp))
    have KK := Lib.hid (HK.out.trans K1)
    clear K1
    go_wp2_with ((refine wpList_su rfl (.tmp 4) (.tmp 14) rfl (w.heap.size + 1 + 1) zcells Su.zero zcells.toList HD1.out rfl (zcells_su _) (SuV.keepZ _) rfl rfl ?_; intro w5 B5 K5; have HB5 := Lib.hid B5; have HK5 := Lib.hid (KK.out.fresh K5 (by simp; omega)); clear B5 K5))
    refine bodyPost_ret (v := .tuple #[.agg zcells, .int .i64 1]) (su_results2 rfl _ (w.heap.size + 1 + 1) zcells Su.zero _ HB5.out rfl rfl) rfl ?_
    exact ⟨zcells, by rw [HRE.out], by rw [HRE.out]; exact zcells_su _, HK5.out, zeroV_fresh _⟩
  · have HVS := Lib.hid hvs
    have hval := s.valid_len hvs
    clear hvs
    cases hvt : t.valid
    · have hrr : r = (Su.zero, 1) := by rw [HR.out]; simp [compose, hvt]
      have HRE := Lib.hid hrr
      have HVT := Lib.hid hvt
      clear hrr hvt
      go_wp2_with (refine wpList_load_sb rfl (.tmp 2) rfl w.heap.size c1 s HB.out rfl ?_)
      refine (HVAL.out c1 s _ _ (Lib.hid HB.out.2) HVS.out).mono ?_
      rintro e w1 ⟨rfl, K1⟩
      have HC1 := Lib.hid (HC.out.keep K1)
      have HD1' := Lib.hid (K1.blk HD.out (by simp))
      have KK1 := Lib.hid (HK.out.trans K1)
      clear K1
      go_wp2_with (refine wpList_load_sb rfl (.tmp 3) rfl (w.heap.size + 1) c2 t HC1.out rfl ?_)
      refine (HVAL.out c2 t _ _ (Lib.hid HC1.out.2) HVT.out).mono ?_
      rintro e w2 ⟨rfl, K2⟩
      have HD1 := Lib.hid (K2.blk HD1'.out (by simp))
      have KK := Lib.hid (KK1.out.trans K2)
      clear K2
      go_wp2_with ((refine wpList_su rfl (.tmp 4) (.tmp 14) rfl (w.heap.size + 1 + 1) zcells Su.zero zcells.toList HD1.out rfl (zcells_su _) (SuV.keepZ _) rfl rfl ?_; intro w5 B5 K5; have HB5 := Lib.hid B5; have HK5 := Lib.hid (KK.out.fresh K5 (by simp; omega)); clear B5 K5))
      refine bodyPost_ret (v := .tuple #[.agg zcells, .int .i64 1]) (su_results2 rfl _ (w.heap.size + 1 + 1) zcells Su.zero _ HB5.out rfl rfl) rfl ?_
      exact ⟨zcells, by rw [HRE.out], by rw [HRE.out]; exact zcells_su _, HK5.out, zeroV_fresh _⟩
    · have HVT := Lib.hid hvt
      have hvalt := t.valid_len hvt
      clear hvt
      go_wp2_with (refine wpList_load_sb rfl (.tmp 2) rfl w.heap.size c1 s HB.out rfl ?_)
      refine (HVAL.out c1 s _ _ (Lib.hid HB.out.2) HVS.out).mono ?_
      rintro e w1 ⟨rfl, K1⟩
      have HB1 := Lib.hid (HB.out.keep K1)
      have HC1 := Lib.hid (HC.out.keep K1)
      have HD1' := Lib.hid (K1.blk HD.out (by simp))
      have KK1 := Lib.hid (HK.out.trans K1)
      clear K1
      go_wp2_with (refine wpList_load_sb rfl (.tmp 3) rfl (w.heap.size + 1) c2 t HC1.out rfl ?_)
      refine (HVAL.out c2 t _ _ (Lib.hid HC1.out.2) HVT.out).mono ?_
      rintro e w2 ⟨rfl, K2⟩
      have HB2 := Lib.hid (HB1.out.keep K2)
      have HC2 := Lib.hid (HC1.out.keep K2)
      have HD1 := Lib.hid (K2.blk HD1'.out (by simp))
      have KK := Lib.hid (KK1.out.trans K2)
      clear K2
      obtain ⟨_, _, _, _, _, _, -, bl, -⟩ := su_cells HB2.out.1.range HB2.out.2
      obtain ⟨_, _, _, _, _, _, -, cl, -⟩ := su_cells HC2.out.1.range HC2.out.2
      by_cases hsum : s.len + t.len ≤ 1048576
      · have hrr : r = (s.join t, 0) := by rw [HR.out]; simp [compose, HVS.out, HVT.out, hsum]
        have HRE := Lib.hid hrr
        have hd : decide (1048576 < s.len + t.len) = false := decide_eq_false (by omega)
        clear hrr
        go_wp2_with (first | (refine wpList_load_sb rfl (.tmp 2) rfl w.heap.size c1 s HB2.out rfl ?_) | (refine wpList_load_sb rfl (.tmp 3) rfl (w.heap.size + 1) c2 t HC2.out rfl ?_))
        refine (join_any _ _ s t _ HB2.out.2 HC2.out.2 HVS.out HVT.out hsum).mono ?_
        rintro e w3 ⟨c3, rfl, h3, K3, hf3⟩
        have hlt : w.heap.size + 1 + 1 < w2.heap.size := HD1.out.lt
        have HF := Lib.hid hf3
        have H3 := Lib.hid h3
        have HD3 := Lib.hid (K3.blk HD1.out (by simp))
        have HK3 := Lib.hid (KK.out.trans K3)
        have hsz := KK.out.size
        clear hf3 h3 K3 bl cl
        go_wp2_with ((refine wpList_su rfl (.tmp 4) (.tmp 24) rfl (w.heap.size + 1 + 1) c3 (s.join t) zcells.toList HD3.out rfl H3.out (fun _ k => H3.out.keepNe k HF.out hlt) rfl rfl ?_; intro w5 B5 K5; have HB5 := Lib.hid B5; have HK5 := Lib.hid (HK3.out.fresh K5 (by simp; omega)); clear B5 K5))
        refine bodyPost_ret (v := .tuple #[.agg c3, .int .i64 0]) (su_results2 rfl _ (w.heap.size + 1 + 1) c3 (s.join t) _ HB5.out rfl rfl) rfl ?_
        exact ⟨c3, by rw [HRE.out], by rw [HRE.out]; exact HB5.out.2, HK5.out, HF.out.le hsz⟩
      · have hrr : r = (Su.zero, 2) := by rw [HR.out]; simp [compose, HVS.out, HVT.out, hsum]
        have HRE := Lib.hid hrr
        have hd : decide (1048576 < s.len + t.len) = true := decide_eq_true (by omega)
        clear hrr
        go_wp2_with ((refine wpList_su rfl (.tmp 4) (.tmp 21) rfl (w.heap.size + 1 + 1) zcells Su.zero zcells.toList HD1.out rfl (zcells_su _) (SuV.keepZ _) rfl rfl ?_; intro w5 B5 K5; have HB5 := Lib.hid B5; have HK5 := Lib.hid (KK.out.fresh K5 (by simp; omega)); clear B5 K5))
        refine bodyPost_ret (v := .tuple #[.agg zcells, .int .i64 2]) (su_results2 rfl _ (w.heap.size + 1 + 1) zcells Su.zero _ HB5.out rfl rfl) rfl ?_
        exact ⟨zcells, by rw [HRE.out], by rw [HRE.out]; exact zcells_su _, HK5.out, zeroV_fresh _⟩
end Go.Proofs.YtomhlmfekmnajaaDoor
