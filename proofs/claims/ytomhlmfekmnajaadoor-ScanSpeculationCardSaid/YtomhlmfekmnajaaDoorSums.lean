/- Summaries of the chunks: the walk. -/
import Derived.Test.YtomhlmfekmnajaaDoorGrow
import Derived.Test.YtomhlmfekmnajaaDoorSpan
import Derived.Test.YtomhlmfekmnajaaDoorAll
namespace Go.Proofs.YtomhlmfekmnajaaDoor
open Go.RowKit
set_option linter.unusedVariables false
set_option linter.unusedSimpArgs false

theorem piece_bounds {n c : Int} {k : Nat} {p : Int × Int} (hc : 1 ≤ c) (hn : 0 ≤ n) (h : (piecesOf n c)[k]? = some p) : p = pieceAt n c k ∧ 0 ≤ p.1 ∧ p.1 ≤ p.2 ∧ p.2 ≤ n ∧ p.1 < n ∧ p.2 ≤ p.1 + c := by
  unfold piecesOf at h
  rw [List.getElem?_map] at h
  cases hr : (List.range ((n + c - 1) / c).toNat)[k]? with
  | none => rw [hr] at h; cases h
  | some i =>
    rw [hr] at h
    have hi : i = k ∧ k < ((n + c - 1) / c).toNat := by
      obtain ⟨h1, h2⟩ := List.getElem?_eq_some_iff.1 hr
      simp at h1 h2
      exact ⟨h2.symm, by omega⟩
    obtain ⟨rfl, hlt⟩ := hi
    simp only [Option.map_some, Option.some.injEq] at h
    subst h
    have h1 : (i : Int) + 1 ≤ (n + c - 1) / c := by omega
    have h2 := (Int.le_ediv_iff_mul_le (by omega)).1 h1
    rw [Int.add_mul, Int.one_mul] at h2
    have h3 : 0 ≤ (i : Int) * c := Int.mul_nonneg (Int.natCast_nonneg i) (by omega)
    refine ⟨rfl, ?_, ?_, ?_, ?_, ?_⟩ <;> simp only [pieceAt] <;> omega
theorem pieces_length_le {n c : Int} (hc : 1 ≤ c) (hn : 0 ≤ n) (hN : n ≤ 1048576) : (piecesOf n c).length ≤ 1048576 := by
  rcases Nat.lt_or_ge 1048576 (piecesOf n c).length with h | h
  · exfalso
    have hk : (piecesOf n c)[1048576]? = some ((piecesOf n c)[1048576]) := by simp [h]
    obtain ⟨e, _, _, _, hlt, _⟩ := piece_bounds hc hn hk
    rw [e] at hlt
    simp only [pieceAt] at hlt
    have := Int.mul_le_mul_of_nonneg_left hc (show (0 : Int) ≤ ((1048576 : Nat) : Int) by omega)
    omega
  · exact h

theorem fold7 (c : Array Value) (h : c.size = 7) : Array.foldl (fun (cs : Array Value) (x : Value × Nat) => cs.setIfInBounds x.snd x.fst) zcells c.zipIdx 0 7 = c := by
  obtain ⟨l⟩ := c
  match l, h with
  | [a0, a1, a2, a3, a4, a5, a6], _ => simp [zcells]

def sumOf (s : ByteArray) (p : Int × Int) : Su := summaryOf (bytesOf (s.extract p.1.toNat p.2.toNat))
def sumsOf (s : ByteArray) (c : Int) : List Su := (piecesOf s.size c).map (sumOf s)
def SumsPost (ss : List Su) (w : World) (e : Ending) (w' : World) : Prop := ∃ v, e = .returned (.tuple #[v, .int .i64 0]) ∧ SuRow w' v ss ∧ Keep [] w w'

set_option maxHeartbeats 1000000 in
set_option maxRecDepth 100000 in
theorem summaries_any (s : ByteArray) (c : Int) (w : World) (hM : Moves w) (hs : s.size ≤ 1048576) (hc1 : 1 ≤ c) (hc2 : c ≤ 65536) : Calls Tryd.prog 25 #[.string s, .int .i64 c] w (SumsPost (sumsOf s c) w) := by
  have HM := Lib.hid hM
  obtain ⟨P, hP⟩ : ∃ P, P = piecesOf s.size c := ⟨_, rfl⟩
  have hb := fun (k : Nat) p => piece_bounds (n := s.size) (k := k) (p := p) hc1 (by omega)
  have hPl : P.length ≤ 1048576 := by rw [hP]; exact pieces_length_le hc1 (by omega) (by omega)
  have hch : chunksOf s.size c = (P, 0) := by rw [chunksOf, if_pos ⟨hc1, hc2, by omega⟩, if_pos (by omega), hP]
  have hss : sumsOf s c = P.map (sumOf s) := by rw [hP]; rfl
  rw [hss]
  rw [← hP] at hb
  have HB := Lib.hid hb
  have HCH := Lib.hid hch
  clear hM hP hb hch hss
  go_enter Tryd.func25, Tryd.ntmps25
  go_wp2_with fail
  refine (chunks_any _ _ _).mono ?_
  rintro e w1 ⟨v, rfl, hv, K1, -⟩
  rw [HCH.out] at hv ⊢
  obtain ⟨A, cp, rfl, hl, hcm, -, hcell⟩ := hv
  have hc9 : cp ≤ 9223372036854775807 := hcm
  have HCELL := Lib.hid hcell
  have HK1 := Lib.hid K1
  have HM1 := Lib.hid (HM.out.keep K1)
  clear hcell K1 hcm
  go_wp2_with fail
  go_loopw [25, 8] (fun i l wr => ∃ (k : Nat) (css : List (Array Value)), k ≤ P.length ∧ i = .int .i64 k ∧ GrowSu wr w1.heap.size l css ((P.take k).map (sumOf s)) ∧ Keep [] w1 wr) (fun i _ _ => P.length - (intOf i).toNat)
  case atStart => exact ⟨0, [], by omega, rfl, by simpa using GrowSu.nil _ _, Keep.refl _ _⟩
  case round =>
    obtain ⟨k, css, hk, rfl, hG, hK⟩ := hrel
    obtain ⟨W, rfl⟩ : ∃ W, W = wr := ⟨_, rfl⟩
    obtain ⟨l, rfl⟩ : ∃ l, l = u8 := ⟨_, rfl⟩
    have HG := Lib.hid hG
    have HK := Lib.hid hK
    have hsz := hK.size
    clear hG hK
    by_cases hlt : k < P.length
    · obtain ⟨p, hp⟩ : ∃ p, P[k]? = some p := ⟨P[k], by simp [hlt]⟩
      obtain ⟨g, off, rfl, hc0, hc1'⟩ := HCELL.out k p hp
      have hc0 := HK.out.cell hc0 (by simp)
      have hc1' := HK.out.cell hc1' (by simp)
      obtain ⟨_, b0, b1, b2, b3, b4⟩ := HB.out k p hp
      obtain ⟨p0, p1⟩ := p
      simp only at hc0 hc1' b0 b1 b2 b3 b4
      have hex : (s.extract p0.toNat p1.toNat).size ≤ 1048576 := by rw [ByteArray.size_extract]; omega
      have htk : (P.take (k + 1)).map (sumOf s) = (P.take k).map (sumOf s) ++ [sumOf s (p0, p1)] := by
        obtain ⟨h1, h2⟩ := List.getElem?_eq_some_iff.1 hp
        rw [List.take_succ_eq_append_getElem h1, List.map_append, h2]; rfl
      have hlen : ((P.take k).map (sumOf s)).length < 1048577 := by simp; omega
      have HTK := Lib.hid htk
      have HLEN := Lib.hid hlen
      clear hp htk hlen
      go_wp2_with fail
      refine (summarize_any _ _ (HM1.out.keep (HK.out.alloc _)) hex).mono ?_
      rintro e w3 ⟨v3, rfl, h3, K3, hf3⟩
      have hsum : summarize (bytesOf (s.extract p0.toNat p1.toNat)) = (sumOf s (p0, p1), 0) := by
        unfold summarize
        rw [if_pos (by rw [bytesOf_length]; exact hex)]
        rfl
      rw [hsum] at h3 ⊢
      obtain ⟨c3, rfl, -, -⟩ := h3.cells
      have K13 : Keep [] w1 w3 := (HK.out.alloc _).trans K3
      have HG3 := Lib.hid ((HG.out.keep0 ((Keep.refl [] W).alloc (.cells #[.int .i64 p0, .int .i64 p1] 77))).keep0 K3)
      have HK3 := Lib.hid K13
      have H3 := Lib.hid h3
      have HF3 := Lib.hid hf3
      have hw3 := K13.size
      obtain ⟨S, hS⟩ : ∃ S, S = sumOf s (p0, p1) := ⟨_, rfl⟩
      rw [← hS] at H3 HTK
      have h37 : c3.size = 7 := H3.out.size7
      clear hsum h3 hf3 K13 K3 hS
      go_wp2_with (first | (refine wpList_su_new rfl (.tmp 11) (.tmp 37) rfl c3 S H3.out rfl rfl ?_; intro w4 B4 K4; have HB4 := Lib.hid B4; have HK4 := Lib.hid (HK3.out.trans K4); have HG4 := Lib.hid (HG3.out.keep0 K4); have hw4 := K4.size; clear B4 K4) | (refine wpList_load_sb rfl (.tmp 11) rfl w3.heap.size c3 S HB4.out rfl ?_) | (at_builtin; rw [fold7 c3 HB4.out.2.size7]; go_must (refine wpList_append_gs rfl (.tmp 39) (.tmp 41) rfl HG4.out (Nat.le_trans hw3 hw4) HB4.out.2 (b := W.heap.size + 1) (FreshV.le HF3.out (by simp)) (fun g hg => Nat.lt_succ_of_lt (HG.out.lt hg).2) HLEN.out rfl rfl ?_; intro v5 w5 G5 hs5 hk5; have HG5 := Lib.hid G5; have HK5 := Lib.hid (hk5 w1 HK4.out (Nat.le_refl _)); clear G5 hk5)))
      go_roundw
      case rel => exact ⟨k + 1, css ++ [c3], by omega, by go_num, by rw [HTK.out]; exact HG5.out, HK5.out⟩
      case measure => simp [intOf]; omega
    · have hkl : k = P.length := by omega
      subst hkl
      have hG := HG.out
      rw [List.take_length] at hG
      have HG2 := Lib.hid hG
      clear hG
      go_wp2_with fail
      go_ret2
      exact ⟨l, rfl, HG2.out.row, HK1.out.trans HK.out⟩
end Go.Proofs.YtomhlmfekmnajaaDoor
