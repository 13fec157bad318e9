/- The summary of the whole is the composition of the summaries of the chunks: plain. -/
import Derived.Test.YtomhlmfekmnajaaDoorSums
import Derived.Test.YtomhlmfekmnajaaDoorEntries
import Derived.Test.YtomhlmfekmnajaaDoorBracketLaw
namespace Go.Proofs.YtomhlmfekmnajaaDoor
open Go.RowKit
set_option linter.unusedVariables false

theorem exitAt_pre (a b : List Int) (k : Nat) : ∀ j, j ≤ a.length → exitAt (a ++ b) k j = exitAt a k j
  | 0, _ => rfl
  | j + 1, h => by
    show (nextOf (exitAt (a ++ b) k j) (classOf ((a ++ b).getD j 0))).toNat = (nextOf (exitAt a k j) (classOf (a.getD j 0))).toNat
    rw [exitAt_pre a b k j (by omega)]
    have : (a ++ b).getD j 0 = a.getD j 0 := by
      simp only [List.getD]
      rw [List.getElem?_append_left (by omega)]
    rw [this]
theorem exitAt_append (a b : List Int) (k : Nat) : ∀ j, j ≤ b.length → exitAt (a ++ b) k (a.length + j) = exitAt b (exitAt a k a.length) j
  | 0, _ => by
    show exitAt (a ++ b) k a.length = exitAt a k a.length
    exact exitAt_pre a b k a.length (Nat.le_refl _)
  | j + 1, h => by
    show (nextOf (exitAt (a ++ b) k (a.length + j)) (classOf ((a ++ b).getD (a.length + j) 0))).toNat = (nextOf (exitAt b (exitAt a k a.length) j) (classOf (b.getD j 0))).toNat
    rw [exitAt_append a b k j (by omega)]
    have : (a ++ b).getD (a.length + j) 0 = b.getD j 0 := by
      simp only [List.getD]
      rw [List.getElem?_append_right (by omega), show a.length + j - a.length = j by omega]
    rw [this]
theorem linesAt_pre (a b : List Int) (k : Nat) : ∀ j, j ≤ a.length → linesAt (a ++ b) k j = linesAt a k j
  | 0, _ => rfl
  | j + 1, h => by
    show (if endsOf (exitAt (a ++ b) k j) (classOf ((a ++ b).getD j 0)) then linesAt (a ++ b) k j ++ [(j : Int)] else linesAt (a ++ b) k j) = (if endsOf (exitAt a k j) (classOf (a.getD j 0)) then linesAt a k j ++ [(j : Int)] else linesAt a k j)
    rw [exitAt_pre a b k j (by omega), linesAt_pre a b k j (by omega)]
    have : (a ++ b).getD j 0 = a.getD j 0 := by
      simp only [List.getD]
      rw [List.getElem?_append_left (by omega)]
    rw [this]
theorem linesAt_append (a b : List Int) (k : Nat) : ∀ j, j ≤ b.length → linesAt (a ++ b) k (a.length + j) = linesAt a k a.length ++ (linesAt b (exitAt a k a.length) j).map ((a.length : Int) + ·)
  | 0, _ => by
    show linesAt (a ++ b) k a.length = _
    rw [linesAt_pre a b k a.length (Nat.le_refl _)]
    simp [linesAt]
  | j + 1, h => by
    show (if endsOf (exitAt (a ++ b) k (a.length + j)) (classOf ((a ++ b).getD (a.length + j) 0)) then linesAt (a ++ b) k (a.length + j) ++ [((a.length + j : Nat) : Int)] else linesAt (a ++ b) k (a.length + j)) = linesAt a k a.length ++ (if endsOf (exitAt b (exitAt a k a.length) j) (classOf (b.getD j 0)) then linesAt b (exitAt a k a.length) j ++ [(j : Int)] else linesAt b (exitAt a k a.length) j).map ((a.length : Int) + ·)
    rw [exitAt_append a b k j (by omega), linesAt_append a b k j (by omega)]
    have : (a ++ b).getD (a.length + j) 0 = b.getD j 0 := by
      simp only [List.getD]
      rw [List.getElem?_append_right (by omega), show a.length + j - a.length = j by omega]
    rw [this]
    split
    · simp
    · rfl

theorem summaryOf_e (bs : List Int) (k : Nat) (hk : k < 3) : (summaryOf bs).e k = exitAt bs k bs.length := by
  obtain rfl | rfl | rfl : k = 0 ∨ k = 1 ∨ k = 2 := by omega
  all_goals rfl
theorem summaryOf_l (bs : List Int) (k : Nat) (hk : k < 3) : (summaryOf bs).l k = linesAt bs k bs.length := by
  obtain rfl | rfl | rfl : k = 0 ∨ k = 1 ∨ k = 2 := by omega
  all_goals rfl
theorem summaryOf_append (a b : List Int) : summaryOf (a ++ b) = (summaryOf a).join (summaryOf b) := by
  refine Su.ext3 (by simp [summaryOf, Su.join]) (fun k hk => ?_) (fun k hk => ?_)
  · have hx := exitAt_le a k a.length (by omega)
    rw [Su.join_e _ _ k hk, summaryOf_e _ k hk, summaryOf_e _ k hk, Int.toNat_natCast, summaryOf_e _ _ (by omega), List.length_append, exitAt_append a b k b.length (Nat.le_refl _)]
  · have hx := exitAt_le a k a.length (by omega)
    rw [Su.join_l _ _ k hk, summaryOf_l _ k hk, summaryOf_l _ k hk, summaryOf_e _ k hk, Int.toNat_natCast, summaryOf_l _ _ (by omega), List.length_append, linesAt_append a b k b.length (Nat.le_refl _)]
    rfl

theorem lines_ok (bs : List Int) (k : Nat) (len : Int) : ∀ i : Nat, (i : Int) ≤ len → okFrom len (-1) (linesAt bs k i) = true ∧ lastOf (-1) (linesAt bs k i) < i
  | 0, _ => ⟨rfl, by simp [linesAt, lastOf]⟩
  | i + 1, h => by
    obtain ⟨h1, h2⟩ := lines_ok bs k len i (by omega)
    show okFrom len (-1) (if endsOf (exitAt bs k i) (classOf (bs.getD i 0)) then linesAt bs k i ++ [(i : Int)] else linesAt bs k i) = true ∧ lastOf (-1) (if endsOf (exitAt bs k i) (classOf (bs.getD i 0)) then linesAt bs k i ++ [(i : Int)] else linesAt bs k i) < ((i + 1 : Nat) : Int)
    split
    · refine ⟨?_, ?_⟩
      · rw [okFrom_append, h1]
        simp only [okFrom, Bool.true_and, Bool.and_true, decide_eq_true_eq]
        omega
      · simp only [lastOf, List.getLast?_concat, Option.getD_some]; omega
    · exact ⟨h1, by omega⟩
theorem summaryOf_valid (bs : List Int) (h : bs.length ≤ 1048576) : (summaryOf bs).valid = true := by
  refine Su.valid_of ⟨by show (0 : Int) ≤ (bs.length : Int); omega, by show (bs.length : Int) ≤ 1048576; omega⟩ (fun k hk => ?_)
  have hx := exitAt_le bs k bs.length (by omega)
  refine ⟨?_, ?_, ?_⟩
  · rw [summaryOf_l bs k hk]
    exact (lines_ok bs k bs.length bs.length (Int.le_refl _)).1
  · rw [summaryOf_e bs k hk]; omega
  · rw [summaryOf_e bs k hk]; omega

theorem bytes_extract (s : ByteArray) (i j : Nat) (hij : i ≤ j) (hj : j ≤ s.size) : bytesOf (s.extract i j) = ((bytesOf s).drop i).take (j - i) := by
  unfold bytesOf
  rw [← List.map_drop, ← List.map_take]
  congr 1
  simp [ByteArray.data_extract]

theorem piecesOf_length {n c : Int} (hc : 1 ≤ c) (hn : 0 ≤ n) : (((piecesOf n c).length : Nat) : Int) = (n + c - 1) / c := by
  unfold piecesOf
  rw [List.length_map, List.length_range]
  have : 0 ≤ (n + c - 1) / c := Int.ediv_nonneg (by omega) (by omega)
  omega

/-- Behind the first k chunks. -/
def upTo (n c : Int) (k : Nat) : Nat := (min ((k : Int) * c) n).toNat
theorem sums_upto (s : ByteArray) (c : Int) (hc : 1 ≤ c) : ∀ k, k ≤ (sumsOf s c).length → joinAll Su.empty ((sumsOf s c).take k) = summaryOf ((bytesOf s).take (upTo s.size c k)) ∧ lenSum ((sumsOf s c).take k) = upTo s.size c k
  | 0, _ => by
    have : upTo s.size c 0 = 0 := by simp [upTo]; omega
    rw [this]
    exact ⟨by simp [joinAll]; decide, by simp [lenSum]⟩
  | k + 1, h => by
    obtain ⟨h1, h2⟩ := sums_upto s c hc k (by omega)
    have hk : k < (piecesOf s.size c).length := by unfold sumsOf at h; rw [List.length_map] at h; omega
    obtain ⟨p, hp⟩ : ∃ p, (piecesOf s.size c)[k]? = some p := ⟨(piecesOf s.size c)[k], by simp [hk]⟩
    obtain ⟨e, b0, b1, b2, b3, b4⟩ := piece_bounds hc (by omega) hp
    have hx : (sumsOf s c)[k]? = some (sumOf s p) := by unfold sumsOf; rw [List.getElem?_map, hp]; rfl
    rw [take_succ hx]
    subst e
    simp only [pieceAt] at b0 b1 b2 b3 b4
    have u1 : ((upTo s.size c k : Nat) : Int) = (k : Int) * c := by unfold upTo; omega
    have u2 : ((upTo s.size c (k + 1) : Nat) : Int) = min ((k : Int) * c + c) s.size := by
      unfold upTo
      rw [Int.natCast_add, Int.natCast_one, Int.add_mul, Int.one_mul]
      omega
    have hle : upTo s.size c k ≤ upTo s.size c (k + 1) := by omega
    have hsz : upTo s.size c (k + 1) ≤ s.size := by omega
    have hb : bytesOf (s.extract ((k : Int) * c).toNat (min ((k : Int) * c + c) (s.size : Int)).toNat) = ((bytesOf s).drop (upTo s.size c k)).take (upTo s.size c (k + 1) - upTo s.size c k) := by
      rw [bytes_extract s _ _ (by omega) (by omega)]
      rw [show ((k : Int) * c).toNat = upTo s.size c k by omega, show (min ((k : Int) * c + c) (s.size : Int)).toNat = upTo s.size c (k + 1) by omega]
    have hsum : sumOf s (pieceAt s.size c k) = summaryOf (((bytesOf s).drop (upTo s.size c k)).take (upTo s.size c (k + 1) - upTo s.size c k)) := by
      unfold sumOf
      simp only [pieceAt]
      rw [hb]
    have hcat : (bytesOf s).take (upTo s.size c k) ++ ((bytesOf s).drop (upTo s.size c k)).take (upTo s.size c (k + 1) - upTo s.size c k) = (bytesOf s).take (upTo s.size c (k + 1)) := by
      rw [← List.take_add, show upTo s.size c k + (upTo s.size c (k + 1) - upTo s.size c k) = upTo s.size c (k + 1) by omega]
    refine ⟨?_, ?_⟩
    · unfold joinAll at h1 ⊢
      rw [List.foldl_append, h1]
      simp only [List.foldl_cons, List.foldl_nil]
      rw [hsum, ← summaryOf_append, hcat]
    · rw [lenSum_append, h2, hsum]
      simp only [lenSum, List.map_cons, List.map_nil, List.sum_cons, List.sum_nil]
      have : (summaryOf (((bytesOf s).drop (upTo s.size c k)).take (upTo s.size c (k + 1) - upTo s.size c k))).len = ((upTo s.size c (k + 1) - upTo s.size c k : Nat) : Int) := by
        show ((List.length _ : Nat) : Int) = _
        rw [List.length_take, List.length_drop, bytesOf_length]
        omega
      rw [this]; omega

theorem stateAt_join {ss : List Su} (h : ss.all Su.valid = true) : ∀ k, k ≤ ss.length → stateAt 0 ss k = (joinAll Su.empty (ss.take k)).e 0
  | 0, _ => by cases ss <;> rfl
  | k + 1, hk => by
    obtain ⟨x, hx⟩ : ∃ x, ss[k]? = some x := ⟨ss[k], by simp [show k < ss.length by omega]⟩
    rw [stateAt_succ ss 0 k x hx, stateAt_join h k (by omega), take_succ hx]
    unfold joinAll
    rw [List.foldl_append]
    simp only [List.foldl_cons, List.foldl_nil]
    rw [Su.join_e _ _ 0 (by omega)]

theorem sums_valid (s : ByteArray) (c : Int) (hc : 1 ≤ c) (hs : s.size ≤ 1048576) : (sumsOf s c).all Su.valid = true := by
  rw [List.all_eq_true]
  intro x hx
  obtain ⟨p, hp, rfl⟩ := List.mem_map.1 hx
  obtain ⟨k, hk⟩ := List.getElem?_of_mem hp
  obtain ⟨_, b0, b1, b2, b3, b4⟩ := piece_bounds hc (by omega) hk
  refine summaryOf_valid _ ?_
  rw [bytesOf_length, ByteArray.size_extract]
  omega
theorem sums_length (s : ByteArray) (c : Int) (hc : 1 ≤ c) : (((sumsOf s c).length : Nat) : Int) = ((s.size : Int) + c - 1) / c := by
  unfold sumsOf
  rw [List.length_map, piecesOf_length hc (by omega)]
theorem upTo_all (s : ByteArray) (c : Int) (hc : 1 ≤ c) : upTo s.size c (sumsOf s c).length = s.size := by
  unfold upTo
  have h := sums_length s c hc
  have h1 : ((s.size : Int) + c - 1) / c < ((sumsOf s c).length : Int) + 1 := by omega
  have h2 := (Int.ediv_lt_iff_lt_mul (show 0 < c by omega)).1 h1
  rw [Int.add_mul, Int.one_mul] at h2
  omega
theorem sums_whole (s : ByteArray) (c : Int) (hc : 1 ≤ c) (hs : s.size ≤ 1048576) : Good (sumsOf s c) ∧ soundOf (sumsOf s c) = 0 ∧ bracketOf (sumsOf s c) = (summaryOf (bytesOf s), 0) := by
  obtain ⟨h1, h2⟩ := sums_upto s c hc _ (Nat.le_refl _)
  rw [List.take_length, upTo_all s c hc] at h1 h2
  have hv := sums_valid s c hc hs
  have hg : Good (sumsOf s c) := ⟨hv, by rw [h2]; omega⟩
  have hso : soundOf (sumsOf s c) = 0 := by
    unfold soundOf
    rw [if_pos hv, if_pos hg.2]
  refine ⟨hg, hso, ?_⟩
  unfold bracketOf
  rw [if_pos hso, allOf_good hg, h1, ← bytesOf_length s, List.take_length]
theorem sums_state (s : ByteArray) (c : Int) (hc : 1 ≤ c) (hs : s.size ≤ 1048576) (k : Nat) (hk : k < (sumsOf s c).length) :
    0 ≤ (k : Int) * c ∧ (k : Int) * c ≤ s.size ∧ stateAt 0 (sumsOf s c) k = exitAt (bytesOf (s.extract 0 ((k : Int) * c).toNat)) 0 (s.extract 0 ((k : Int) * c).toNat).size := by
  obtain ⟨h1, _⟩ := sums_upto s c hc k (by omega)
  have hkp : k < (piecesOf s.size c).length := by unfold sumsOf at hk; rw [List.length_map] at hk; exact hk
  obtain ⟨e, b0, b1, b2, b3, b4⟩ := piece_bounds (n := (s.size : Int)) (k := k) (p := (piecesOf s.size c)[k]) hc (by omega) (by simp [hkp])
  rw [e] at b0 b3
  simp only [pieceAt] at b0 b3
  have hu : upTo s.size c k = ((k : Int) * c).toNat := by unfold upTo; omega
  refine ⟨b0, by omega, ?_⟩
  rw [stateAt_join (sums_valid s c hc hs) k (by omega), h1, summaryOf_e _ 0 (by omega), hu]
  have hb : bytesOf (s.extract 0 ((k : Int) * c).toNat) = (bytesOf s).take ((k : Int) * c).toNat := by
    rw [bytes_extract s 0 ((k : Int) * c).toNat (by omega) (by omega)]
    simp
  rw [← hb, ← bytesOf_length]
end Go.Proofs.YtomhlmfekmnajaaDoor
