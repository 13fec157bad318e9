/- All of the reference: the walk. -/
import Derived.Test.YtomhlmfekmnajaaDoorRefCompose
namespace Go.Proofs.YtomhlmfekmnajaaDoor
open Go.RowKit
set_option linter.unusedVariables false
set_option linter.unusedSimpArgs false

set_option maxHeartbeats 1000000 in
set_option maxRecDepth 100000 in
theorem refall_any (v : Value) (ss : List Su) (w : World) (hR : SuRow w v ss) : Calls Tryd.prog 19 #[v] w (AllPost (allOf ss) w) := by
  have HR := Lib.hid hR
  obtain ⟨A, cp, rfl, hn, hc, -, -⟩ := hR
  have hc9 : cp ≤ 9223372036854775807 := hc
  obtain ⟨r, hr⟩ : ∃ r, r = allOf ss := ⟨_, rfl⟩
  rw [← hr]
  have HRR := Lib.hid hr
  clear hr hc
  go_enter Tryd.func19, Tryd.ntmps19
  go_wp2_with fail
  have B0 := Blk.new w zcells 26
  have K0 := (Keep.refl [] w).alloc (.cells zcells 26)
  refine (refempty_any _).mono ?_
  rintro e w1 ⟨c0, rfl, h0, K1, hf0⟩
  have HB1 := Lib.hid (K1.blk B0 (by simp))
  have HK1 := Lib.hid (K0.trans K1)
  have hsz1 : w.heap.size < w1.heap.size := by have := (HB1.out).lt; omega
  have H0 := Lib.hid h0
  have HF0 := Lib.hid (show FreshV (w.heap.size + 1) (.agg c0) by rw [← World.size_alloc w (.cells zcells 26)]; exact hf0)
  clear B0 K0 K1 h0 hf0
  go_wp2_with ((refine wpList_su_new rfl (.tmp 4) (.tmp 8) rfl _ Su.empty H0.out rfl rfl ?_; intro w2 B2 K2; have HB2 := Lib.hid B2; have HK2 := Lib.hid K2; clear B2 K2))
  go_loopw [5] (fun i wr => ∃ (k : Nat) (c : Array Value) (s : Su), k ≤ ss.length ∧ i = .int .i64 k ∧ SBox wr w1.heap.size c s ∧ allFrom s (ss.drop k) = r ∧ Keep [] w wr ∧ Blk wr w.heap.size 26 zcells.toList ∧ FreshV (w.heap.size + 1) (.agg c)) (fun i _ => ss.length - (intOf i).toNat)
  case atStart => exact ⟨0, _, _, by omega, rfl, HB2.out, HRR.out.symm, HK1.out.trans HK2.out, HK2.out.blk HB1.out (by simp), HF0.out⟩
  case round =>
    obtain ⟨k, c, s, hk, rfl, hS, hall, hK, hB, hF⟩ := hrel
    obtain ⟨W, rfl⟩ : ∃ W, W = wr := ⟨_, rfl⟩
    have HS := Lib.hid hS
    have HA := Lib.hid hall
    have HK := Lib.hid hK
    have HB := Lib.hid hB
    have HF := Lib.hid hF
    clear hS hall hK hB HB2 HK2 hF
    by_cases hlt : k < ss.length
    · obtain ⟨x, hx⟩ : ∃ x, ss[k]? = some x := ⟨ss[k], by simp [hlt]⟩
      obtain ⟨g, off, cs, hidx, hrg, hsu⟩ := SuRow.idx (HR.out.keep HK.out) k x hx
      have HX := Lib.hid hx
      have HSU := Lib.hid hsu
      have HRG := Lib.hid hrg
      clear hrg hsu hx
      obtain ⟨s3, hs3⟩ : ∃ s3, s3 = (compose s x).1 := ⟨_, rfl⟩
      obtain ⟨e3, he3⟩ : ∃ e3, e3 = (compose s x).2 := ⟨_, rfl⟩
      have hstep := allFrom_step (s := s) HX.out
      rw [← hs3, ← he3] at hstep
      have HST := Lib.hid hstep
      have HS3 := Lib.hid hs3
      have HE3 := Lib.hid he3
      have hlt2 : w1.heap.size < W.heap.size := HS.out.1.lt
      clear hs3 he3 hstep
      go_wp2_with fail
      go_cut [6, 7] (fun p y wc => ∃ (D : Nat) (c3 : Array Value), p = .pointer (some ⟨D, 0, none⟩) ∧ y = .int .i64 e3 ∧ W.heap.size ≤ D ∧ Keep [] W wc ∧ SBox wc D c3 s3 ∧ FreshV W.heap.size (.agg c3))
      case first =>
          have KD : Keep [] W W.drew := (Keep.refl _ _).drew
          have KR : Keep [] W W := Keep.refl _ _
          refine wp_region_held_drew (S := fun v : World => v.rangeAt w1.heap.size 0 c.toList ∧ v.rangeAt g off cs.toList) (by kernel_rfl) ⟨HS.out.1.range, HRG.out⟩ (fun hHeld => ?_)
          change wpAnyH _ _ _ _ _ 12 (Array.replicate 12 false) _ _
          refine wpAnyH_take (i := 0) (oi := { dst := some 16, op := Go.Op.load 26 (Go.Operand.tmp 4), type := 26, pos := "ref.go:104", after := #[], guard := none }) (v := .agg c) rfl (by kernel_rfl) (by kernel_rfl) (by kernel_rfl) (fun _ _ _ h => h) (yields_su rfl (.tmp 4) rfl (w1.heap.size) (0) c rfl HS.out.2.size7 (fun v hS => hS.1)) hHeld ?_
          try simp only [Act.put, List.setIfInBounds_toArray, List.set_cons_zero, List.set_cons_succ]
          refine wpAnyH_take (i := 1) (oi := { dst := some 17, op := Go.Op.move (Go.Operand.tmp 0), type := 34, pos := "ref.go:104", after := #[], guard := none }) (v := ?v5002) rfl (by kernel_rfl) (by kernel_rfl) (by kernel_rfl) (fun _ _ _ h => h) (Or.inl ⟨by rfl, ?y5002⟩) hHeld ?r5002
          case y5002 => (intro w' hSw; (try dsimp only at hSw); go_simp; (try with_reducible rfl))
          try simp only [Act.put, List.setIfInBounds_toArray, List.set_cons_zero, List.set_cons_succ]
          refine wpAnyH_take (i := 2) (oi := { dst := some 18, op := Go.Op.move (Go.Operand.tmp 5), type := 3, pos := "ref.go:104", after := #[], guard := none }) (v := ?v5003) rfl (by kernel_rfl) (by kernel_rfl) (by kernel_rfl) (fun _ _ _ h => h) (Or.inl ⟨by rfl, ?y5003⟩) hHeld ?r5003
          case y5003 => (intro w' hSw; (try dsimp only at hSw); go_simp; (try with_reducible rfl))
          try simp only [Act.put, List.setIfInBounds_toArray, List.set_cons_zero, List.set_cons_succ]
          refine wpAnyH_take (i := 3) (oi := { dst := some 19, op := Go.Op.indexAddr 34 (Go.Operand.tmp 17) (Go.Operand.tmp 18), type := 0, pos := "ref.go:104", after := #[{ on := 1, ground := Go.Ground.data }, { on := 2, ground := Go.Ground.data }], guard := none }) (v := ?v5004) rfl (by kernel_rfl) (by kernel_rfl) (by kernel_rfl) (fun _ _ _ h => h) (Or.inl ⟨by rfl, ?y5004⟩) hHeld ?r5004
          case y5004 => (intro w' hSw; (try dsimp only at hSw); go_simp; (try with_reducible rfl))
          try simp only [Act.put, List.setIfInBounds_toArray, List.set_cons_zero, List.set_cons_succ]
          refine wpAnyH_take (i := 4) (oi := { dst := some 20, op := Go.Op.load 26 (Go.Operand.tmp 19), type := 26, pos := "ref.go:104", after := #[{ on := 3, ground := Go.Ground.data }], guard := none }) (v := .agg cs) rfl (by kernel_rfl) (by kernel_rfl) (by kernel_rfl) (fun _ _ _ h => h) (yields_su rfl (.tmp 19) rfl (g) (off) cs rfl HSU.out.size7 (fun v hS => hS.2)) hHeld ?_
          try simp only [Act.put, List.setIfInBounds_toArray, List.set_cons_zero, List.set_cons_succ]
          refine wpAnyH_ready (rs := [5, 9]) (by kernel_rfl) (by simp) ?_
          refine AllReadyH.cons (o := { dst := some 21, op := Go.Op.call { callee := Go.Callee.value (Go.Operand.func 20), args := #[Go.Operand.tmp 16, Go.Operand.tmp 20], argTypes := #[26, 26] }, type := 29, pos := "ref.go:104", after := #[{ on := 0, ground := Go.Ground.data }, { on := 4, ground := Go.Ground.data }], guard := none }) rfl (fun K hK => ?_) ?_
          · go_simp
            refine (refcompose_any _ _ s x _ (HS.out.2.keep KD) (HSU.out.keep KD)).mono ?_
            rintro e w5006 ⟨c3, rfl, h3, Kc5006, hf3⟩
            rw [← HS3.out] at h3
            rw [← HE3.out]
            have K5006 : Keep [] W w5006 := KD.trans Kc5006
            refine hK.out _ _ ?_ (fun hHeld => ?_)
            · exact ⟨rangeAt_keep HS.out.1.range K5006 (by simp), rangeAt_keep HRG.out K5006 (by simp)⟩
            clear hK K
            try simp only [Act.put, List.setIfInBounds_toArray, List.set_cons_zero, List.set_cons_succ]
            refine wpAnyH_take (i := 6) (oi := { dst := some 15, op := Go.Op.move (Go.Operand.tmp 21), type := 29, pos := "ref.go:104", after := #[{ on := 5, ground := Go.Ground.data }], guard := none }) (v := ?v5007) rfl (by kernel_rfl) (by kernel_rfl) (by kernel_rfl) (fun _ _ _ h => h) (Or.inl ⟨by rfl, ?y5007⟩) hHeld ?r5007
            case y5007 => (intro w' hSw; (try dsimp only at hSw); go_simp; (try with_reducible rfl))
            try simp only [Act.put, List.setIfInBounds_toArray, List.set_cons_zero, List.set_cons_succ]
            refine wpAnyH_take (i := 7) (oi := { dst := some 22, op := Go.Op.extract (Go.Operand.tmp 15) 0, type := 26, pos := "ref.go:104", after := #[{ on := 6, ground := Go.Ground.data }], guard := none }) (v := ?v5008) rfl (by kernel_rfl) (by kernel_rfl) (by kernel_rfl) (fun _ _ _ h => h) (Or.inl ⟨by rfl, ?y5008⟩) hHeld ?r5008
            case y5008 => (intro w' hSw; (try dsimp only at hSw); go_simp; (try with_reducible rfl))
            try simp only [Act.put, List.setIfInBounds_toArray, List.set_cons_zero, List.set_cons_succ]
            refine wpAnyH_take (i := 8) (oi := { dst := some 23, op := Go.Op.extract (Go.Operand.tmp 15) 1, type := 28, pos := "ref.go:104", after := #[{ on := 6, ground := Go.Ground.data }, { on := 10, ground := Go.Ground.gcOnly Go.Departure.lateStores }], guard := none }) (v := ?v5009) rfl (by kernel_rfl) (by kernel_rfl) (by kernel_rfl) (fun _ _ _ h => h) (Or.inl ⟨by rfl, ?y5009⟩) hHeld ?r5009
            case y5009 => (intro w' hSw; (try dsimp only at hSw); go_simp; (try with_reducible rfl))
            try simp only [Act.put, List.setIfInBounds_toArray, List.set_cons_zero, List.set_cons_succ]
            refine wpAnyH_ready (rs := [9]) (by kernel_rfl) (by simp) ?_
            refine AllReadyH.cons (o := { dst := some 6, op := Go.Op.alloc 26, type := 0, pos := "ref.go:104", after := #[], guard := none }) rfl (fun K hK => ?_) ?_
            · go_simp
              have DB5010 : Blk (w5006.alloc (.cells zcells 26)) w5006.heap.size 26 zcells.toList := Blk.new w5006 zcells 26
              have Ka5010 : Keep [] w5006 (w5006.alloc (.cells zcells 26)) := (Keep.refl [] _).alloc _
              have K5010 : Keep [] W (w5006.alloc (.cells zcells 26)) := K5006.trans Ka5010
              have hDge : W.heap.size ≤ w5006.heap.size := K5006.size
              have h35010 := h3.keep Ka5010
              generalize hWD5010 : (w5006.alloc (.cells zcells 26)) = WD5010 at *
              clear hWD5010
              refine hK.out _ _ ?_ (fun hHeld => ?_)
              · exact ⟨rangeAt_keep HS.out.1.range K5010 (by simp), rangeAt_keep HRG.out K5010 (by simp)⟩
              clear hK K
              try simp only [Act.put, List.setIfInBounds_toArray, List.set_cons_zero, List.set_cons_succ]
              refine wpAnyH_ready (rs := [10]) (by kernel_rfl) (by simp) ?_
              refine AllReadyH.cons (o := { dst := none, op := Go.Op.store 26 (Go.Operand.tmp 6) (Go.Operand.tmp 22), type := 0, pos := "ref.go:104", after := #[{ on := 9, ground := Go.Ground.data }, { on := 7, ground := Go.Ground.data }, { on := 5, ground := Go.Ground.chain }, { on := 0, ground := Go.Ground.phase }, { on := 1, ground := Go.Ground.phase }, { on := 2, ground := Go.Ground.phase }, { on := 3, ground := Go.Ground.phase }, { on := 4, ground := Go.Ground.phase }, { on := 5, ground := Go.Ground.phase }, { on := 6, ground := Go.Ground.phase }, { on := 7, ground := Go.Ground.phase }, { on := 8, ground := Go.Ground.textOnly Go.Departure.lateStores }, { on := 9, ground := Go.Ground.phase }], guard := none }) rfl (fun K hK => ?_) ?_
              · refine step_su rfl (.tmp 6) (.tmp 22) rfl w5006.heap.size c3 s3 zcells.toList DB5010 rfl h35010 (fun _ k => h3.keep (Keep.fresh Ka5010 k (by simp))) rfl rfl ?_
                intro wS BS KS
                have KF : Keep [] W wS := K5010.fresh KS (by simp <;> omega)
                refine hK.out _ _ ?_ (fun hHeld => ?_)
                · exact ⟨rangeAt_keep HS.out.1.range KF (by simp), rangeAt_keep HRG.out KF (by simp)⟩
                clear hK K
                try simp only [Act.put, List.setIfInBounds_toArray, List.set_cons_zero, List.set_cons_succ]
                refine wpAnyH_take (i := 11) (oi := { dst := some 7, op := Go.Op.assign (Go.Operand.tmp 23), type := 28, pos := "ref.go:104", after := #[{ on := 8, ground := Go.Ground.data }, { on := 10, ground := Go.Ground.chain }, { on := 0, ground := Go.Ground.phase }, { on := 1, ground := Go.Ground.phase }, { on := 2, ground := Go.Ground.phase }, { on := 3, ground := Go.Ground.phase }, { on := 4, ground := Go.Ground.phase }, { on := 5, ground := Go.Ground.phase }, { on := 6, ground := Go.Ground.phase }, { on := 7, ground := Go.Ground.phase }, { on := 8, ground := Go.Ground.phase }, { on := 9, ground := Go.Ground.phase }, { on := 10, ground := Go.Ground.phase }], guard := none }) (v := ?v5012) rfl (by kernel_rfl) (by kernel_rfl) (by kernel_rfl) (fun _ _ _ h => h) (Or.inl ⟨by rfl, ?y5012⟩) hHeld ?r5012
                case y5012 => (intro w' hSw; (try dsimp only at hSw); go_simp; (try with_reducible rfl))
                try simp only [Act.put, List.setIfInBounds_toArray, List.set_cons_zero, List.set_cons_succ]
                refine wpAnyH_done (by kernel_rfl) ?_ _
                have HKF := Lib.hid KF
                have HBS := Lib.hid BS
                have hge := hDge
                have HF3 := Lib.hid (FreshV.le hf3 (by first | exact (KR).size | omega : W.heap.size ≤ _))
                clear hHeld KF BS KS
                go_wp2_with fail
                go_meet
                case rel => exact ⟨_, c3, rfl, rfl, hge, HKF.out, HBS.out, HF3.out⟩
              exact AllReadyH.nil
            exact AllReadyH.nil
          refine AllReadyH.cons (o := { dst := some 6, op := Go.Op.alloc 26, type := 0, pos := "ref.go:104", after := #[], guard := none }) rfl (fun K hK => ?_) ?_
          · go_simp
            have DB5013 : Blk ((W.alloc (.cells zcells 26)).drew) W.heap.size 26 zcells.toList := Blk.new W zcells 26
            have Ka5013 : Keep [] W (W.alloc (.cells zcells 26)) := (Keep.refl [] _).alloc _
            have K5013 : Keep [] W ((W.alloc (.cells zcells 26)).drew) := ((KR.alloc _).drew)
            have hDge : W.heap.size ≤ W.heap.size := KR.size
            generalize hWD5013 : ((W.alloc (.cells zcells 26)).drew) = WD5013 at *
            clear hWD5013
            refine hK.out _ _ ?_ (fun hHeld => ?_)
            · exact ⟨rangeAt_keep HS.out.1.range K5013 (by simp), rangeAt_keep HRG.out K5013 (by simp)⟩
            clear hK K
            try simp only [Act.put, List.setIfInBounds_toArray, List.set_cons_zero, List.set_cons_succ]
            refine wpAnyH_ready (rs := [5]) (by kernel_rfl) (by simp) ?_
            refine AllReadyH.cons (o := { dst := some 21, op := Go.Op.call { callee := Go.Callee.value (Go.Operand.func 20), args := #[Go.Operand.tmp 16, Go.Operand.tmp 20], argTypes := #[26, 26] }, type := 29, pos := "ref.go:104", after := #[{ on := 0, ground := Go.Ground.data }, { on := 4, ground := Go.Ground.data }], guard := none }) rfl (fun K hK => ?_) ?_
            · go_simp
              have hDlt := DB5013.lt
              refine (refcompose_any _ _ s x _ (HS.out.2.keep K5013) (HSU.out.keep K5013)).mono ?_
              rintro e w5014 ⟨c3, rfl, h3, Kc5014, hf3⟩
              rw [← HS3.out] at h3
              rw [← HE3.out]
              have K5014 : Keep [] W w5014 := K5013.trans Kc5014
              have DB5014 := Kc5014.blk DB5013 (by simp)
              refine hK.out _ _ ?_ (fun hHeld => ?_)
              · exact ⟨rangeAt_keep HS.out.1.range K5014 (by simp), rangeAt_keep HRG.out K5014 (by simp)⟩
              clear hK K
              try simp only [Act.put, List.setIfInBounds_toArray, List.set_cons_zero, List.set_cons_succ]
              refine wpAnyH_take (i := 6) (oi := { dst := some 15, op := Go.Op.move (Go.Operand.tmp 21), type := 29, pos := "ref.go:104", after := #[{ on := 5, ground := Go.Ground.data }], guard := none }) (v := ?v5015) rfl (by kernel_rfl) (by kernel_rfl) (by kernel_rfl) (fun _ _ _ h => h) (Or.inl ⟨by rfl, ?y5015⟩) hHeld ?r5015
              case y5015 => (intro w' hSw; (try dsimp only at hSw); go_simp; (try with_reducible rfl))
              try simp only [Act.put, List.setIfInBounds_toArray, List.set_cons_zero, List.set_cons_succ]
              refine wpAnyH_take (i := 7) (oi := { dst := some 22, op := Go.Op.extract (Go.Operand.tmp 15) 0, type := 26, pos := "ref.go:104", after := #[{ on := 6, ground := Go.Ground.data }], guard := none }) (v := ?v5016) rfl (by kernel_rfl) (by kernel_rfl) (by kernel_rfl) (fun _ _ _ h => h) (Or.inl ⟨by rfl, ?y5016⟩) hHeld ?r5016
              case y5016 => (intro w' hSw; (try dsimp only at hSw); go_simp; (try with_reducible rfl))
              try simp only [Act.put, List.setIfInBounds_toArray, List.set_cons_zero, List.set_cons_succ]
              refine wpAnyH_take (i := 8) (oi := { dst := some 23, op := Go.Op.extract (Go.Operand.tmp 15) 1, type := 28, pos := "ref.go:104", after := #[{ on := 6, ground := Go.Ground.data }, { on := 10, ground := Go.Ground.gcOnly Go.Departure.lateStores }], guard := none }) (v := ?v5017) rfl (by kernel_rfl) (by kernel_rfl) (by kernel_rfl) (fun _ _ _ h => h) (Or.inl ⟨by rfl, ?y5017⟩) hHeld ?r5017
              case y5017 => (intro w' hSw; (try dsimp only at hSw); go_simp; (try with_reducible rfl))
              try simp only [Act.put, List.setIfInBounds_toArray, List.set_cons_zero, List.set_cons_succ]
              refine wpAnyH_ready (rs := [10]) (by kernel_rfl) (by simp) ?_
              refine AllReadyH.cons (o := { dst := none, op := Go.Op.store 26 (Go.Operand.tmp 6) (Go.Operand.tmp 22), type := 0, pos := "ref.go:104", after := #[{ on := 9, ground := Go.Ground.data }, { on := 7, ground := Go.Ground.data }, { on := 5, ground := Go.Ground.chain }, { on := 0, ground := Go.Ground.phase }, { on := 1, ground := Go.Ground.phase }, { on := 2, ground := Go.Ground.phase }, { on := 3, ground := Go.Ground.phase }, { on := 4, ground := Go.Ground.phase }, { on := 5, ground := Go.Ground.phase }, { on := 6, ground := Go.Ground.phase }, { on := 7, ground := Go.Ground.phase }, { on := 8, ground := Go.Ground.textOnly Go.Departure.lateStores }, { on := 9, ground := Go.Ground.phase }], guard := none }) rfl (fun K hK => ?_) ?_
              · refine step_su rfl (.tmp 6) (.tmp 22) rfl W.heap.size c3 s3 zcells.toList DB5014 rfl h3 (fun _ k => h3.keepNe k hf3 hDlt) rfl rfl ?_
                intro wS BS KS
                have KF : Keep [] W wS := K5014.fresh KS (by simp <;> omega)
                refine hK.out _ _ ?_ (fun hHeld => ?_)
                · exact ⟨rangeAt_keep HS.out.1.range KF (by simp), rangeAt_keep HRG.out KF (by simp)⟩
                clear hK K
                try simp only [Act.put, List.setIfInBounds_toArray, List.set_cons_zero, List.set_cons_succ]
                refine wpAnyH_take (i := 11) (oi := { dst := some 7, op := Go.Op.assign (Go.Operand.tmp 23), type := 28, pos := "ref.go:104", after := #[{ on := 8, ground := Go.Ground.data }, { on := 10, ground := Go.Ground.chain }, { on := 0, ground := Go.Ground.phase }, { on := 1, ground := Go.Ground.phase }, { on := 2, ground := Go.Ground.phase }, { on := 3, ground := Go.Ground.phase }, { on := 4, ground := Go.Ground.phase }, { on := 5, ground := Go.Ground.phase }, { on := 6, ground := Go.Ground.phase }, { on := 7, ground := Go.Ground.phase }, { on := 8, ground := Go.Ground.phase }, { on := 9, ground := Go.Ground.phase }, { on := 10, ground := Go.Ground.phase }], guard := none }) (v := ?v5019) rfl (by kernel_rfl) (by kernel_rfl) (by kernel_rfl) (fun _ _ _ h => h) (Or.inl ⟨by rfl, ?y5019⟩) hHeld ?r5019
                case y5019 => (intro w' hSw; (try dsimp only at hSw); go_simp; (try with_reducible rfl))
                try simp only [Act.put, List.setIfInBounds_toArray, List.set_cons_zero, List.set_cons_succ]
                refine wpAnyH_done (by kernel_rfl) ?_ _
                have HKF := Lib.hid KF
                have HBS := Lib.hid BS
                have hge := hDge
                have HF3 := Lib.hid (FreshV.le hf3 (by first | exact (KR).size | omega : W.heap.size ≤ _))
                clear hHeld KF BS KS
                go_wp2_with fail
                go_meet
                case rel => exact ⟨_, c3, rfl, rfl, hge, HKF.out, HBS.out, HF3.out⟩
              exact AllReadyH.nil
            exact AllReadyH.nil
          exact AllReadyH.nil
      case rest =>
        obtain ⟨D, c3, rfl, rfl, hD, hK5, hS5, hF5⟩ := hcut
        obtain ⟨W5, rfl⟩ : ∃ W5, W5 = wc := ⟨_, rfl⟩
        have HK5 := Lib.hid hK5
        have HS5 := Lib.hid hS5
        have HF5 := Lib.hid hF5
        clear hK5 hS5 hF5 hidx
        by_cases he : e3 = 0
        · subst he
          go_wp2_with (first | (refine wpList_load_sb rfl (.tmp 6) rfl D c3 s3 HS5.out rfl ?_) | (refine wpList_su rfl (.tmp 4) (.tmp 28) rfl w1.heap.size c3 s3 c.toList (HS.out.keep HK5.out).1 HS.out.len HS5.out.2 (fun _ k => HS5.out.2.keepNe k HF5.out hlt2) rfl rfl ?_; intro w4 B4 K4; have HB4 := Lib.hid B4; have HK4 := Lib.hid K4; clear B4 K4))
          go_roundw
          case rel =>
            refine ⟨k + 1, c3, s3, by omega, by go_num, HB4.out, ?_, (HK.out.trans HK5.out).fresh HK4.out (by simp; omega), HK4.out.blk (HK5.out.blk HB.out (by simp)) (by simp; omega), HF5.out.le (by omega)⟩
            have := HST.out
            rw [HA.out] at this
            simpa using this.symm
          case measure => simp [intOf]; omega
        · have hne : (e3 != 0) = true := by simp [he]
          have hrr : r = (Su.zero, e3) := by have := HST.out; rw [HA.out, if_neg he] at this; exact this
          have HRE := Lib.hid hrr
          clear he hrr
          go_wp2_with ((refine wpList_su rfl (.tmp 2) (.tmp 26) rfl w.heap.size zcells Su.zero zcells.toList (HK5.out.blk HB.out (by simp)) rfl (zcells_su _) (SuV.keepZ _) rfl rfl ?_; intro w5 B5 K5; have HB5 := Lib.hid B5; have HK6 := Lib.hid ((HK.out.trans HK5.out).fresh K5 (by simp)); clear B5 K5))
          refine bodyPost_ret (v := .tuple #[.agg zcells, .int .i64 e3]) (su_results2 rfl _ w.heap.size zcells Su.zero _ HB5.out rfl rfl) rfl ?_
          refine ⟨zcells, ?_, ?_, HK6.out, zeroV_fresh _⟩
          · rw [HRE.out]
          · rw [HRE.out]; exact zeroV_su _
    · have hkl : k = ss.length := by omega
      subst hkl
      have hrr : r = (s, 0) := by have := HA.out; rw [List.drop_length] at this; exact this.symm
      have HRE := Lib.hid hrr
      clear hrr
      go_wp2_with (first | (refine wpList_load_sb rfl (.tmp 4) rfl w1.heap.size c s HS.out rfl ?_) | (refine wpList_su rfl (.tmp 2) (.tmp 29) rfl w.heap.size c s zcells.toList HB.out rfl HS.out.2 (fun _ k => HS.out.2.keepNe k HF.out (by omega)) rfl rfl ?_; intro w5 B5 K5; have HB5 := Lib.hid B5; have HK5 := Lib.hid K5; clear B5 K5))
      refine bodyPost_ret (v := .tuple #[.agg c, .int .i64 0]) (su_results2 rfl _ w.heap.size c s _ HB5.out rfl rfl) rfl ?_
      refine ⟨c, ?_, ?_, HK.out.fresh HK5.out (by simp), HF.out.le (by omega)⟩
      · rw [HRE.out]
      · rw [HRE.out]; exact HB5.out.2
end Go.Proofs.YtomhlmfekmnajaaDoor
