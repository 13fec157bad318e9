/- Resolve: the walk. -/
import Derived.Test.YtomhlmfekmnajaaDoorSpan
namespace Go.Proofs.YtomhlmfekmnajaaDoor
open Go.RowKit
set_option linter.unusedVariables false
set_option linter.unusedSimpArgs false

def follow (at_ : Int) : Int → List Int → List (Int × Int) × Int
  | b, [] => ([], b)
  | b, x :: r => ((b, at_ + x) :: (follow at_ (at_ + x + 1) r).1, (follow at_ (at_ + x + 1) r).2)
theorem follow_snoc (at_ b : Int) (xs : List Int) (x : Int) : follow at_ b (xs ++ [x]) = ((follow at_ b xs).1 ++ [((follow at_ b xs).2, at_ + x)], at_ + x + 1) := by
  induction xs generalizing b with
  | nil => rfl
  | cons y ys ih => simp [follow, ih]
theorem follow_length (at_ b : Int) (xs : List Int) : (follow at_ b xs).1.length = xs.length := by
  induction xs generalizing b with
  | nil => rfl
  | cons y ys ih => simp [follow, ih]

def ResPost (l : List (Int × Int)) (x b : Int) (w : World) (e : Ending) (w' : World) : Prop := ∃ v, e = .returned (.tuple #[v, .int .i64 x, .int .i64 b, .int .i64 0]) ∧ SpRow w' v l ∧ Keep [] w w' ∧ ∀ g, v.ownBlock = some g → w.heap.size ≤ g

set_option maxHeartbeats 2000000 in
set_option maxRecDepth 100000 in
theorem resolve_any (at_ b : Int) (k : Nat) (v : Value) (s : Su) (w : World) (hk : k < 3) (h0 : 0 ≤ b) (h1 : b ≤ at_) (hs : SuV w v s) (hv : s.valid = true) (hl : at_ + s.len ≤ 1048576) :
    Calls Tryd.prog 74 #[.int .i64 at_, .int .i64 k, .int .i64 b, v] w (ResPost (follow at_ b (s.l k)).1 (s.e k) (follow at_ b (s.l k)).2 w) := by
  obtain ⟨c0, rfl, -, -⟩ := hs.cells
  obtain ⟨R, hR⟩ : ∃ R, R = follow at_ b (s.l k) := ⟨_, rfl⟩
  rw [← hR]
  have HR := Lib.hid hR
  have hval := s.valid_len hv
  have hmem := s.valid_mem hv k hk
  have hlen := s.valid_length hv k hk
  have HV := Lib.hid hv
  have HMEM := Lib.hid hmem
  have KW := (Keep.refl [] w).alloc (.cells c0 26)
  have HB := Lib.hid (show SBox (w.alloc (.cells c0 26)) w.heap.size c0 s from ⟨Blk.new w c0 26, hs.keep KW⟩)
  generalize hWb : w.alloc (.cells c0 26) = Wb at KW HB
  have HWb := Lib.hid hWb
  have HK := Lib.hid KW
  obtain ⟨i77, hi77, hz0, hz1, hz2⟩ := info_parts Tryd.info77
  have hk0 : decide ((k : Int) < 0) = false := decide_eq_false (by omega)
  have hk2 : decide (2 < (k : Int)) = false := decide_eq_false (by omega)
  have q1 : decide (at_ < 0) = false := decide_eq_false (by omega)
  have q2 : decide (b < 0) = false := decide_eq_false (by omega)
  have q3 : decide (at_ < b) = false := decide_eq_false (by omega)
  clear hR hv hmem hs hWb KW
  go_enter Tryd.func74, Tryd.ntmps74
  go_upto_region 1 with fail
  rw [HWb.out]
  go_wp2_with ((refine wpList_load_sb rfl (.tmp 7) rfl w.heap.size c0 s HB.out rfl ?_))
  refine (valid_any _ s _ HB.out.2).mono ?_
  rintro e w1 ⟨rfl, K1⟩
  rw [HV.out]
  have HB1 := Lib.hid (HB.out.keep K1)
  have HK1 := Lib.hid (HK.out.trans K1)
  have hsu := HB1.out.2
  obtain ⟨s0, s1, s2, hcc, i0, i1, i2⟩ := hsu
  injection hcc with hcc
  have hbox : SuBox w1 w.heap.size s s0 s1 s2 := by have := HB1.out.1; rw [hcc] at this; exact this
  have cl := hbox.cell 0 _ rfl
  have ce := hbox.exit k hk
  have cs := hbox.lines k hk
  have hI := SuBox.ints i0 i1 i2 k hk
  obtain ⟨sk, hsk⟩ : ∃ sk, sk = slOf s0 s1 s2 k := ⟨_, rfl⟩
  obtain ⟨xs, hxs⟩ : ∃ xs, xs = s.l k := ⟨_, rfl⟩
  obtain ⟨ek, hek⟩ : ∃ ek, ek = s.e k := ⟨_, rfl⟩
  rw [← hsk] at cs hI
  rw [← hxs] at hI hlen
  rw [← hek] at ce
  have HR := Lib.hid (show R = follow at_ b xs by rw [hxs]; exact HR.out)
  have HMEM := Lib.hid (show ∀ x ∈ xs, 0 ≤ x ∧ x < s.len by rw [hxs]; exact HMEM.out)
  obtain ⟨A, c, rfl, hn, hc, hA, hcell⟩ := hI
  have hc9 : c ≤ 9223372036854775807 := hc
  have HC := Lib.hid hcell
  have hd : decide (1048576 - s.len < at_) = false := decide_eq_false (by omega)
  have hk3 : (k : Int) < 3 := by omega
  have hsw := HK1.out.size
  have HEK := Lib.hid hek
  clear K1 hcc hbox hsk hxs hek hcell hA i0 i1 i2
  go_wp2_with fail
  clear hd q1 q2 q3 hk0 hk2
  go_loopw [50, 12, 2] (fun i l p wr => ∃ (j : Nat) (bb : Int), j ≤ xs.length ∧ i = .int .i64 j ∧ p = .int .i64 bb ∧ Hid (bb = (follow at_ b (xs.take j)).2) ∧ 0 ≤ bb ∧ bb ≤ 1048577 ∧ wr.ownsRow w1.heap.size 77 2 l j (spCells (follow at_ b (xs.take j)).1) ∧ Keep [] w1 wr) (fun i _ _ _ => xs.length - (intOf i).toNat)
  case atStart => exact ⟨0, b, by omega, rfl, rfl, Lib.hid rfl, by omega, by omega, World.ownsRow_nil _ _ _ _, Keep.refl _ _⟩
  case round =>
    obtain ⟨j, bb, hj, rfl, rfl, hbb, hb0, hb1, hO, hK⟩ := hrel
    obtain ⟨W, rfl⟩ : ∃ W, W = wr := ⟨_, rfl⟩
    obtain ⟨l, rfl⟩ : ∃ l, l = u12 := ⟨_, rfl⟩
    have HO := Lib.hid hO
    have HKW := Lib.hid hK
    have hsz := hK.size
    have ce' := hK.cell ce (by simp)
    clear hO hK cl
    by_cases hlt : j < xs.length
    · obtain ⟨g, off, rfl, hcj⟩ := HC.out j xs[j] (by simp [hlt])
      have hcj := HKW.out.cell hcj (by simp)
      have hx := HMEM.out xs[j] (List.getElem_mem hlt)
      obtain ⟨x, hxx⟩ : ∃ x, x = xs[j] := ⟨_, rfl⟩
      have hstep : follow at_ b (xs.take (j + 1)) = ((follow at_ b (xs.take j)).1 ++ [(bb, at_ + x)], at_ + x + 1) := by
        rw [List.take_succ_eq_append_getElem hlt, follow_snoc, ← hbb.out, ← hxx]
      have hcells : spCells (follow at_ b (xs.take (j + 1))).1 = spCells (follow at_ b (xs.take j)).1 ++ [.int .i64 bb, .int .i64 (at_ + x)] := by rw [hstep, spCells_append]; rfl
      rw [← hxx] at hcj hx
      have HST := Lib.hid hstep
      have HCE := Lib.hid hcells
      clear hxx hstep hcells ce' ce cs
      go_wp2_with (at_builtin; refine wpList_append_row rfl (.tmp 54) (.tmp 60) 49 rfl w1.heap.size 77 i77 (.agg #[.int .i64 0, .int .i64 0]) 2 16 Tryd.underlying49 hi77 hz0 hz1 hz2 rfl (by decide) l j _ rfl (HO.out.alloc _) (.slice (some ⟨W.heap.size, 0, none⟩) 1 1) 1 [.int .i64 bb, .int .i64 (at_ + x)] rfl (Row.of_own (World.ownsRow_lit (base := 0) (e := 77) (size := 2) W #[.int .i64 bb, .int .i64 (at_ + x)] 1 (Nat.zero_le _) (by decide) rfl)) (by simp [Value.oneCell']) (by unfold maxLen; omega) (by omega) (by simp; omega) ?_; intro v4 w4 own4 hg4; have HO4 := Lib.hid own4; have HK4 := Lib.hid ((HKW.out.alloc (.cells #[.int .i64 bb, .int .i64 (at_ + x)] 77)).fresh (Keep.of_grown hg4) (fun g hg => (World.ownsRow.lt (HO.out.alloc (.cells #[.int .i64 bb, .int .i64 (at_ + x)] 77)) g (by simpa using hg)).1)); clear own4 hg4)
      go_roundw
      case rel => exact ⟨j + 1, at_ + x + 1, by omega, by go_num, rfl, Lib.hid (by rw [HST.out]), by omega, by omega, by rw [HCE.out]; exact HO4.out, HK4.out⟩
      case measure => simp [intOf]; omega
    · have hjl : j = xs.length := by omega
      subst hjl
      have hO := HO.out
      rw [List.take_length, ← HR.out] at hO
      have hbR : bb = R.2 := by rw [HR.out, hbb.out, List.take_length]
      have HO2 := Lib.hid hO
      have HBR := Lib.hid hbR
      clear hO hbR HO hbb
      go_wp2_with fail
      go_quiet (fail)
      go_wp2_with fail
      refine bodyPost_ret (v := .tuple #[l, .int .i64 ek, .int .i64 bb, .int .i64 0]) (by simp [results, Tryd.results74, go_sem]) rfl ?_
      exact ⟨l, by rw [HBR.out, HEK.out], (SpRow.of_own HO2.out).keep ((Keep.refl _ _).drewN _), (HK1.out.trans HKW.out).drewN _, fun g hg => Nat.le_trans hsw (World.ownsRow.lt HO2.out g hg).1⟩
end Go.Proofs.YtomhlmfekmnajaaDoor
