/- Composition is associative and has a unit. Plain. -/
import Derived.Test.YtomhlmfekmnajaaDoorJoin
namespace Go.Proofs.YtomhlmfekmnajaaDoor
open Go.RowKit
set_option linter.unusedVariables false

theorem Su.ext3 {s t : Su} (h0 : s.len = t.len) (he : ∀ k, k < 3 → s.e k = t.e k) (hl : ∀ k, k < 3 → s.l k = t.l k) : s = t := by
  have a0 : s.e0 = t.e0 := he 0 (by omega)
  have a1 : s.e1 = t.e1 := he 1 (by omega)
  have a2 : s.e2 = t.e2 := he 2 (by omega)
  have b0 : s.l0 = t.l0 := hl 0 (by omega)
  have b1 : s.l1 = t.l1 := hl 1 (by omega)
  have b2 : s.l2 = t.l2 := hl 2 (by omega)
  cases s; cases t; simp_all

theorem Su.join_e (s t : Su) (k : Nat) (hk : k < 3) : (s.join t).e k = t.e (s.e k).toNat := by
  obtain rfl | rfl | rfl : k = 0 ∨ k = 1 ∨ k = 2 := by omega
  all_goals rfl
theorem Su.join_l (s t : Su) (k : Nat) (hk : k < 3) : (s.join t).l k = s.l k ++ (t.l (s.e k).toNat).map (s.len + ·) := by
  obtain rfl | rfl | rfl : k = 0 ∨ k = 1 ∨ k = 2 := by omega
  all_goals rfl
theorem Su.join_len (s t : Su) : (s.join t).len = s.len + t.len := rfl

theorem okFrom_mono {len len' last : Int} {xs : List Int} (h : okFrom len last xs = true) (hl : len ≤ len') : okFrom len' last xs = true := by
  induction xs generalizing last with
  | nil => rfl
  | cons x xs ih =>
    simp only [okFrom, Bool.and_eq_true, decide_eq_true_eq] at h ⊢
    exact ⟨by omega, ih h.2⟩
theorem okFrom_shift {len last last' c : Int} {xs : List Int} (h : okFrom len last xs = true) (hl : last' ≤ c + last) : okFrom (c + len) last' (xs.map (c + ·)) = true := by
  induction xs generalizing last last' with
  | nil => rfl
  | cons x xs ih =>
    simp only [List.map_cons, okFrom, Bool.and_eq_true, decide_eq_true_eq] at h ⊢
    exact ⟨by omega, ih h.2 (Int.le_refl _)⟩
theorem lastOf_lt {len last : Int} {xs : List Int} (h : okFrom len last xs = true) (hl : last < len) : lastOf last xs < len := by
  unfold lastOf
  cases hx : xs.getLast? with
  | none => simpa using hl
  | some y =>
    have := (okFrom_bounds xs last h).1 y (List.mem_of_getLast? hx)
    simpa using this.2

theorem Su.valid_of {s : Su} (h0 : 0 ≤ s.len ∧ s.len ≤ 1048576) (h : ∀ k, k < 3 → okFrom s.len (-1) (s.l k) = true ∧ 0 ≤ s.e k ∧ s.e k ≤ 2) : s.valid = true := by
  unfold Su.valid Su.okAt
  simp only [Bool.and_eq_true, decide_eq_true_eq]
  exact ⟨h0, ⟨⟨(h 0 (by omega)).1, (h 0 (by omega)).2⟩, (h 1 (by omega)).1, (h 1 (by omega)).2⟩, (h 2 (by omega)).1, (h 2 (by omega)).2⟩

theorem Su.to_lt {s : Su} (h : s.valid = true) (k : Nat) (hk : k < 3) : (s.e k).toNat < 3 := by
  have := s.valid_e h k hk
  omega

theorem valid_join {s t : Su} (hs : s.valid = true) (ht : t.valid = true) (hl : s.len + t.len ≤ 1048576) : (s.join t).valid = true := by
  have a := s.valid_len hs
  have b := t.valid_len ht
  refine Su.valid_of ⟨by rw [Su.join_len]; omega, by rw [Su.join_len]; omega⟩ (fun k hk => ?_)
  have hx := Su.to_lt hs k hk
  rw [Su.join_e s t k hk, Su.join_l s t k hk, Su.join_len, okFrom_append, Bool.and_eq_true]
  have h1 := s.valid_l hs k hk
  refine ⟨⟨okFrom_mono h1 (by omega), okFrom_shift (t.valid_l ht _ hx) ?_⟩, t.valid_e ht _ hx⟩
  by_cases h0 : s.len = 0
  · have : s.l k = [] := by
      have := (okFrom_bounds _ _ h1).2
      exact List.length_eq_zero_iff.1 (by omega)
    rw [this, h0]
    decide
  · have := lastOf_lt h1 (by omega)
    omega

theorem join_assoc {s t u : Su} (hs : s.valid = true) (ht : t.valid = true) : (s.join t).join u = s.join (t.join u) := by
  refine Su.ext3 (by simp only [Su.join_len]; omega) (fun k hk => ?_) (fun k hk => ?_)
  · have hx := Su.to_lt hs k hk
    rw [Su.join_e _ _ k hk, Su.join_e _ _ k hk, Su.join_e _ _ k hk, Su.join_e _ _ _ hx]
  · have hx := Su.to_lt hs k hk
    rw [Su.join_l _ _ k hk, Su.join_l _ _ k hk, Su.join_l _ _ k hk, Su.join_l _ _ _ hx, Su.join_e _ _ k hk, Su.join_len]
    simp only [List.map_append, List.map_map, List.append_assoc, List.append_cancel_left_eq]
    exact List.map_congr_left (fun x _ => by simp only [Function.comp]; omega)

theorem empty_valid : Su.empty.valid = true := by decide
theorem empty_e (k : Nat) (hk : k < 3) : Su.empty.e k = (k : Int) := by
  obtain rfl | rfl | rfl : k = 0 ∨ k = 1 ∨ k = 2 := by omega
  all_goals rfl
theorem empty_l (k : Nat) : Su.empty.l k = [] := by
  unfold Su.l
  split <;> rfl
theorem empty_join (s : Su) : Su.empty.join s = s := by
  refine Su.ext3 (by simp only [Su.join_len]; show (0 : Int) + s.len = s.len; omega) (fun k hk => ?_) (fun k hk => ?_)
  · rw [Su.join_e _ _ k hk, empty_e k hk, Int.toNat_natCast]
  · rw [Su.join_l _ _ k hk, empty_e k hk, empty_l, Int.toNat_natCast]
    show [] ++ (s.l k).map ((0 : Int) + ·) = s.l k
    simp
theorem join_empty {s : Su} (hs : s.valid = true) : s.join Su.empty = s := by
  refine Su.ext3 (by simp only [Su.join_len]; show s.len + (0 : Int) = s.len; omega) (fun k hk => ?_) (fun k hk => ?_)
  · have hx := Su.to_lt hs k hk
    have := s.valid_e hs k hk
    rw [Su.join_e _ _ k hk, empty_e _ hx]; omega
  · rw [Su.join_l _ _ k hk, empty_l]; simp

theorem compose_ok {s t : Su} (h : (compose s t).2 = 0) : s.valid = true ∧ t.valid = true ∧ s.len + t.len ≤ 1048576 ∧ (compose s t).1 = s.join t := by
  unfold compose at h ⊢
  split
  · rename_i hv
    rw [if_pos hv] at h
    split
    · rename_i hl
      exact ⟨hv.1, hv.2, hl, rfl⟩
    · rename_i hl
      rw [if_neg hl] at h
      simp at h
  · rename_i hv
    rw [if_neg hv] at h
    simp at h

/-- The law. -/
theorem compose_assoc {a b c : Su} (h1 : (compose a b).2 = 0) (h2 : (compose b c).2 = 0) : compose (compose a b).1 c = compose a (compose b c).1 := by
  obtain ⟨va, vb, l1, e1⟩ := compose_ok h1
  obtain ⟨_, vc, l2, e2⟩ := compose_ok h2
  rw [e1, e2]
  have v1 := valid_join va vb l1
  have v2 := valid_join vb vc l2
  have hl : (a.join b).len + c.len = a.len + (b.join c).len := by simp only [Su.join_len]; omega
  simp only [compose, v1, v2, va, vc, and_self, if_true, join_assoc va vb, hl]
theorem compose_empty_left {a : Su} (h : a.valid = true) : compose Su.empty a = (a, 0) := by
  have := a.valid_len h
  unfold compose
  rw [if_pos ⟨empty_valid, h⟩, if_pos (by show (0 : Int) + a.len ≤ _; omega), empty_join]
theorem compose_empty_right {a : Su} (h : a.valid = true) : compose a Su.empty = (a, 0) := by
  have := a.valid_len h
  unfold compose
  rw [if_pos ⟨h, empty_valid⟩, if_pos (by show a.len + (0 : Int) ≤ _; omega), join_empty h]
end Go.Proofs.YtomhlmfekmnajaaDoor
