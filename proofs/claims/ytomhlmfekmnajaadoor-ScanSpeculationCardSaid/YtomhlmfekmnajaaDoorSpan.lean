/- Slices of spans; Chunks and Pieces; Spans of keep: the walks. -/
import Derived.Test.YtomhlmfekmnajaaDoorBox
namespace Go.Proofs.YtomhlmfekmnajaaDoor
open Go.RowKit
set_option linter.unusedVariables false
set_option linter.unusedSimpArgs false

def spCells (xs : List (Int × Int)) : List Value := xs.flatMap fun p => [.int .i64 p.1, .int .i64 p.2]
theorem spCells_length : ∀ xs : List (Int × Int), (spCells xs).length = xs.length * 2
  | [] => rfl
  | p :: r => by have := spCells_length r; simp only [spCells, List.flatMap_cons, List.length_append, List.length_cons, List.length_nil] at *; omega
theorem spCells_append (a b : List (Int × Int)) : spCells (a ++ b) = spCells a ++ spCells b := by simp [spCells]
theorem spCells_at : ∀ (xs : List (Int × Int)) (k : Nat) (p : Int × Int), xs[k]? = some p → (spCells xs)[k * 2]? = some (.int .i64 p.1) ∧ (spCells xs)[k * 2 + 1]? = some (.int .i64 p.2)
  | [], k, p, h => by simp at h
  | q :: r, 0, p, h => by simp at h; subst h; simp [spCells]
  | q :: r, k + 1, p, h => by
    have := spCells_at r k p (by simpa using h)
    rw [show (k + 1) * 2 = k * 2 + 2 by omega, show k * 2 + 2 + 1 = (k * 2 + 1) + 2 by omega]
    simpa [spCells] using this
theorem spCells_one (xs : List (Int × Int)) : ∀ u ∈ spCells xs, u.oneCell' = true := by
  intro u hu
  obtain ⟨p, _, hp⟩ := List.mem_flatMap.1 hu
  simp at hp
  rcases hp with rfl | rfl <;> rfl

/-- The slice v reads as the spans xs. -/
def SpRow (w : World) (v : Value) (xs : List (Int × Int)) : Prop :=
  ∃ A c, v = .slice A xs.length c ∧ xs.length ≤ c ∧ c ≤ maxLen ∧ (A = none → c = 0) ∧ ∀ (k : Nat) (p : Int × Int), xs[k]? = some p → ∃ g off, A = some ⟨g, off, none⟩ ∧ w.cell? ⟨g, off + k * 2, none⟩ = some (.int .i64 p.1) ∧ w.cell? ⟨g, off + k * 2 + 1, none⟩ = some (.int .i64 p.2)
theorem SpRow.keep {w w' : World} {v : Value} {xs : List (Int × Int)} (h : SpRow w v xs) (k : Keep [] w w') : SpRow w' v xs := by
  obtain ⟨A, c, hv, h1, h2, h3, h4⟩ := h
  exact ⟨A, c, hv, h1, h2, h3, fun j p hp => by obtain ⟨g, off, hA, ha, hb⟩ := h4 j p hp; exact ⟨g, off, hA, k.cell ha (by simp), k.cell hb (by simp)⟩⟩
theorem SpRow.keepNe {w w' : World} {v : Value} {xs : List (Int × Int)} {D base : Nat} (h : SpRow w v xs) (k : Keep [D] w w') (hb : ∀ b, v.ownBlock = some b → base ≤ b) (hD : D < base) : SpRow w' v xs := by
  obtain ⟨A, c, rfl, h1, h2, h3, h4⟩ := h
  refine ⟨A, c, rfl, h1, h2, h3, fun j p hp => ?_⟩
  obtain ⟨g, off, rfl, ha, hb'⟩ := h4 j p hp
  have := hb g rfl
  exact ⟨g, off, rfl, k.cell ha (by simp; omega), k.cell hb' (by simp; omega)⟩
theorem SpRow.nil (w : World) : SpRow w (.slice none 0 0) [] := ⟨none, 0, rfl, Nat.le_refl _, Nat.zero_le _, fun _ => rfl, fun k x h => by simp at h⟩
theorem SpRow.of_own {w : World} {base : Nat} {v : Value} {n : Nat} {xs : List (Int × Int)} (h : w.ownsRow base 77 2 v n (spCells xs)) : SpRow w v xs := by
  have h1 := h.1
  rw [spCells_length] at h1
  have hn : n = xs.length := by omega
  subst hn
  have hr := Row.of_own h
  obtain ⟨A, c, rfl, hl, hc⟩ := hr.slice
  refine ⟨A, c, rfl, hl, hc, fun hA => ?_, fun k p hp => ?_⟩
  · obtain ⟨_, A', c', e, _, _, h2⟩ := hr
    injection e with e1 _ e3
    subst e1; subst e3
    rcases h2 with ⟨_, h2⟩ | ⟨g, off, cs, h2, _⟩
    · exact h2
    · rw [hA] at h2; cases h2
  · obtain ⟨a, b⟩ := spCells_at xs k p hp
    obtain ⟨g, off, rfl, ha⟩ := hr.at_ _ _ a
    obtain ⟨g', off', e, hb⟩ := hr.at_ _ _ b
    injection e with e
    injection e with e1 e2
    subst e1; subst e2
    exact ⟨g, off, rfl, ha, by rw [Nat.add_assoc]; exact hb⟩
theorem SpRow.shape {w : World} {v : Value} {xs : List (Int × Int)} (h : SpRow w v xs) : ∃ A c, v = .slice A xs.length c := by
  obtain ⟨A, c, rfl, _⟩ := h
  exact ⟨A, c, rfl⟩

def pieceAt (n c : Int) (i : Nat) : Int × Int := ((i : Int) * c, min ((i : Int) * c + c) n)
def piecesOf (n c : Int) : List (Int × Int) := (List.range ((n + c - 1) / c).toNat).map (pieceAt n c)
def chunksOf (n c : Int) : List (Int × Int) × Int := if 1 ≤ c ∧ c ≤ 65536 ∧ 0 ≤ n then (if n ≤ 1048576 then (piecesOf n c, 0) else ([], 2)) else ([], 3)
theorem pieces_count {n c : Int} {k : Nat} (hc : 1 ≤ c) (h1 : n ≤ (k : Int) * c) (h2 : (k : Int) * c < n + c) : ((n + c - 1) / c).toNat = k := by
  have a : (k : Int) ≤ (n + c - 1) / c := (Int.le_ediv_iff_mul_le (by omega)).2 (by omega)
  have b : (n + c - 1) / c < (k : Int) + 1 := (Int.ediv_lt_iff_lt_mul (by omega)).2 (by rw [Int.add_mul, Int.one_mul]; omega)
  omega
def SpPost (l : List (Int × Int)) (er : Int) (w : World) (e : Ending) (w' : World) : Prop := ∃ v, e = .returned (.tuple #[v, .int .i64 er]) ∧ SpRow w' v l ∧ Keep [] w w' ∧ ∀ b, v.ownBlock = some b → w.heap.size ≤ b

theorem Tryd.info77 : (Tryd.prog.info? 77).map (fun i => (i.zero, i.size, i.bytes)) = some (some (.agg #[.int .i64 0, .int .i64 0]), 2, 16) := by kernel_rfl
theorem k_le {k : Nat} {c t : Int} (hc : 1 ≤ c) (h : t = (k : Int) * c) : (k : Int) ≤ t := by
  rw [h]
  have := Int.mul_le_mul_of_nonneg_left hc (Int.natCast_nonneg k)
  omega

set_option maxHeartbeats 1000000 in
theorem chunks_any (n c : Int) (w : World) : Calls Tryd.prog 39 #[.int .i64 n, .int .i64 c] w (SpPost (chunksOf n c).1 (chunksOf n c).2 w) := by
  obtain ⟨r, hr⟩ : ∃ r, r = chunksOf n c := ⟨_, rfl⟩
  rw [← hr]
  have HR := Lib.hid hr
  clear hr
  by_cases h1 : c < 1
  · have hrr : r = ([], 3) := by rw [HR.out, chunksOf, if_neg (by omega)]
    have HRE := Lib.hid hrr
    clear hrr
    go_enter Tryd.func39, Tryd.ntmps39
    go_wp2_with fail
    go_ret2
    exact ⟨.slice none 0 0, by rw [HRE.out]; rfl, by rw [HRE.out]; exact SpRow.nil w, Keep.refl _ _, fun b hb => by simp [Value.ownBlock] at hb⟩
  · by_cases h2 : 65536 < c
    · have hrr : r = ([], 3) := by rw [HR.out, chunksOf, if_neg (by omega)]
      have HRE := Lib.hid hrr
      clear hrr
      go_enter Tryd.func39, Tryd.ntmps39
      go_wp2_with fail
      go_ret2
      exact ⟨.slice none 0 0, by rw [HRE.out]; rfl, by rw [HRE.out]; exact SpRow.nil w, Keep.refl _ _, fun b hb => by simp [Value.ownBlock] at hb⟩
    · by_cases h3 : n < 0
      · have hrr : r = ([], 3) := by rw [HR.out, chunksOf, if_neg (by omega)]
        have HRE := Lib.hid hrr
        clear hrr
        go_enter Tryd.func39, Tryd.ntmps39
        go_wp2_with fail
        go_ret2
        exact ⟨.slice none 0 0, by rw [HRE.out]; rfl, by rw [HRE.out]; exact SpRow.nil w, Keep.refl _ _, fun b hb => by simp [Value.ownBlock] at hb⟩
      · by_cases h4 : 1048576 < n
        · have hrr : r = ([], 2) := by rw [HR.out, chunksOf, if_pos (by omega), if_neg (by omega)]
          have HRE := Lib.hid hrr
          clear hrr
          go_enter Tryd.func39, Tryd.ntmps39
          go_wp2_with fail
          go_ret2
          exact ⟨.slice none 0 0, by rw [HRE.out]; rfl, by rw [HRE.out]; exact SpRow.nil w, Keep.refl _ _, fun b hb => by simp [Value.ownBlock] at hb⟩
        · have hrr : r = (piecesOf n c, 0) := by rw [HR.out, chunksOf, if_pos (by omega), if_pos (by omega)]
          have HRE := Lib.hid hrr
          clear hrr
          have hc1 : 1 ≤ c := by omega
          have hc2 : c ≤ 65536 := by omega
          have hn0 : 0 ≤ n := by omega
          have hn1 : n ≤ 1048576 := by omega
          have b1 : decide (c < 1) = false := decide_eq_false (by omega)
          have b2 : decide (65536 < c) = false := decide_eq_false (by omega)
          have b3 : decide (n < 0) = false := decide_eq_false (by omega)
          have b4 : decide (1048576 < n) = false := decide_eq_false (by omega)
          obtain ⟨i77, hi77, hz0, hz1, hz2⟩ := info_parts Tryd.info77
          clear h1 h2 h3 h4
          go_enter Tryd.func39, Tryd.ntmps39
          go_wp2_with fail
          clear b1 b2 b3 b4
          go_loopw [6, 7] (fun l i wr => ∃ (k : Nat) (t : Int), i = .int .i64 t ∧ Hid (t = (k : Int) * c) ∧ (k : Int) ≤ t ∧ 0 ≤ t ∧ t < n + c ∧ wr.ownsRow w.heap.size 77 2 l k (spCells ((List.range k).map (pieceAt n c))) ∧ Keep [] w wr) (fun _ i _ => (n + c - intOf i).toNat)
          case atStart => exact ⟨0, 0, rfl, Lib.hid (by simp), by omega, by omega, by omega, World.ownsRow_nil _ _ _ _, Keep.refl _ _⟩
          case round =>
            obtain ⟨k, t, rfl, ht, hkt, ht0, ht1, hO, hK⟩ := hrel
            obtain ⟨W, rfl⟩ : ∃ W, W = wr := ⟨_, rfl⟩
            obtain ⟨l, rfl⟩ : ∃ l, l = u6 := ⟨_, rfl⟩
            have HO := Lib.hid hO
            have HK := Lib.hid hK
            have hsz := hK.size
            clear hO hK
            by_cases hlt : t < n
            · obtain ⟨m, hm⟩ : ∃ m, m = min (t + c) n := ⟨_, rfl⟩
              have hmn : (if n < t + c then n else t + c) = m := by rw [hm]; split <;> omega
              have hstep : spCells ((List.range (k + 1)).map (pieceAt n c)) = spCells ((List.range k).map (pieceAt n c)) ++ [.int .i64 t, .int .i64 m] := by
                rw [List.range_succ, List.map_append, spCells_append]
                simp [spCells, pieceAt, ← ht.out, hm]
              have HST := Lib.hid hstep
              clear hm hstep
              go_wp2_with (at_builtin; refine wpList_append_row rfl (.tmp 28) (.tmp 36) 49 rfl w.heap.size 77 i77 (.agg #[.int .i64 0, .int .i64 0]) 2 16 Tryd.underlying49 hi77 hz0 hz1 hz2 rfl (by decide) l k _ rfl (HO.out.alloc _) (.slice (some ⟨W.heap.size, 0, none⟩) 1 1) 1 [.int .i64 t, .int .i64 m] rfl (Row.of_own (World.ownsRow_lit (base := 0) (e := 77) (size := 2) W #[.int .i64 t, .int .i64 m] 1 (Nat.zero_le _) (by decide) rfl)) (by simp [Value.oneCell']) (by unfold maxLen; omega) (by omega) (by simp; omega) ?_; intro v4 w4 own4 hg4; have HO4 := Lib.hid own4; have HK4 := Lib.hid ((HK.out.alloc (.cells #[.int .i64 t, .int .i64 m] 77)).grown hg4 (fun b hb => Or.inr (World.ownsRow.lt (HO.out.alloc (.cells #[.int .i64 t, .int .i64 m] 77)) b hb).1)); clear own4 hg4)
              go_roundw
              case rel => exact ⟨k + 1, t + c, rfl, Lib.hid (by rw [ht.out, Int.natCast_add, Int.natCast_one, Int.add_mul, Int.one_mul]), by omega, by omega, by omega, by rw [HST.out]; exact HO4.out, HK4.out⟩
              case measure => simp [intOf]; omega
            · have hcount := pieces_count hc1 (show n ≤ (k : Int) * c by rw [← ht.out]; omega) (show (k : Int) * c < n + c by rw [← ht.out]; exact ht1)
              have HC := Lib.hid hcount
              clear hcount
              go_wp2_with fail
              go_ret2
              refine ⟨l, by rw [HRE.out]; rfl, ?_, HK.out, fun b hb => (World.ownsRow.lt HO.out b hb).1⟩
              rw [HRE.out]
              have := SpRow.of_own HO.out
              simpa [piecesOf, HC.out] using this
end Go.Proofs.YtomhlmfekmnajaaDoor
