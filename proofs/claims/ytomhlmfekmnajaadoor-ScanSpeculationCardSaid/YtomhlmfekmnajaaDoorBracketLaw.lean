/- Composing neighbors: plain. -/
import Derived.Test.YtomhlmfekmnajaaDoorSound
import Derived.Test.YtomhlmfekmnajaaDoorAll
import Derived.Test.YtomhlmfekmnajaaDoorMonoid
namespace Go.Proofs.YtomhlmfekmnajaaDoor
open Go.RowKit
set_option linter.unusedVariables false

def joinAll (s : Su) (ss : List Su) : Su := ss.foldl Su.join s
def Good (ss : List Su) : Prop := ss.all Su.valid = true ∧ lenSum ss ≤ 1048576
def bracketOf (ss : List Su) : Su × Int := if soundOf ss = 0 then allOf ss else (Su.zero, soundOf ss)

theorem good_of {ss : List Su} (h : soundOf ss = 0) : Good ss := by
  unfold soundOf at h
  split at h
  · rename_i h1
    split at h
    · rename_i h2; exact ⟨h1, h2⟩
    · cases h
  · cases h

theorem join_good : ∀ {ss : List Su} {s : Su}, s.valid = true → ss.all Su.valid = true → s.len + lenSum ss ≤ 1048576 → (joinAll s ss).valid = true ∧ (joinAll s ss).len = s.len + lenSum ss ∧ allFrom s ss = (joinAll s ss, 0)
  | [], s, hs, _, _ => by simp [joinAll, lenSum, allFrom, hs]
  | x :: xs, s, hs, h, hl => by
    simp only [List.all_cons, Bool.and_eq_true] at h
    have h2 := lenSum_nonneg h.2
    have hx := x.valid_len h.1
    have hsum : lenSum (x :: xs) = x.len + lenSum xs := by simp [lenSum]
    rw [hsum] at hl
    have hv := valid_join hs h.1 (by omega)
    obtain ⟨r1, r2, r3⟩ := join_good hv h.2 (by rw [Su.join_len]; omega)
    have hc : compose s x = (s.join x, 0) := by
      unfold compose
      rw [if_pos ⟨hs, h.1⟩, if_pos (by omega)]
    refine ⟨r1, ?_, ?_⟩
    · show (joinAll (s.join x) xs).len = _
      rw [r2, hsum, Su.join_len]; omega
    · show (if (compose s x).2 = 0 then allFrom (compose s x).1 xs else _) = _
      rw [hc]
      simp only [if_true]
      exact r3

theorem allOf_good {ss : List Su} (h : Good ss) : allOf ss = (joinAll Su.empty ss, 0) :=
  (join_good empty_valid h.1 (by show (0 : Int) + _ ≤ _; have := h.2; omega)).2.2

theorem split_two {ss : List Su} {k : Nat} {a b : Su} (ha : ss[k]? = some a) (hb : ss[k + 1]? = some b) : ss = ss.take k ++ a :: b :: ss.drop (k + 2) := by
  obtain ⟨h1, rfl⟩ := List.getElem?_eq_some_iff.1 ha
  obtain ⟨h2, rfl⟩ := List.getElem?_eq_some_iff.1 hb
  conv => lhs; rw [← List.take_append_drop k ss]
  rw [List.drop_eq_getElem_cons h1, List.drop_eq_getElem_cons h2]

theorem set_erase {α : Type} {ss : List α} {k : Nat} {c : α} (h : k + 1 < ss.length) : (ss.set k c).eraseIdx (k + 1) = ss.take k ++ c :: ss.drop (k + 2) := by
  rw [List.eraseIdx_eq_take_drop_succ, List.drop_set_of_lt (by omega), List.take_set]
  rw [List.take_succ_eq_append_getElem (by omega)]
  rw [List.set_append_right _ _ (by simp; omega)]
  simp [Nat.min_eq_left (show k ≤ ss.length by omega)]

theorem bracket_step {ss : List Su} {k : Nat} {a b : Su} (h : Good ss) (ha : ss[k]? = some a) (hb : ss[k + 1]? = some b) :
    Good ((ss.set k (a.join b)).eraseIdx (k + 1)) ∧ joinAll Su.empty ((ss.set k (a.join b)).eraseIdx (k + 1)) = joinAll Su.empty ss ∧ compose a b = (a.join b, 0) := by
  have hlt : k + 1 < ss.length := (List.getElem?_eq_some_iff.1 hb).1
  have hs := split_two ha hb
  obtain ⟨pre, hpre⟩ : ∃ pre, pre = ss.take k := ⟨_, rfl⟩
  obtain ⟨post, hpost⟩ : ∃ post, post = ss.drop (k + 2) := ⟨_, rfl⟩
  rw [set_erase hlt, ← hpre, ← hpost]
  rw [← hpre, ← hpost] at hs
  obtain ⟨hall, hl⟩ := h
  rw [hs] at hall hl ⊢
  simp only [List.all_append, List.all_cons, Bool.and_eq_true] at hall
  obtain ⟨hp, hav, hbv, hq⟩ := hall
  have p0 := lenSum_nonneg hp
  have q0 := lenSum_nonneg hq
  have a0 := a.valid_len hav
  have b0 := b.valid_len hbv
  have e1 : lenSum (pre ++ a :: b :: post) = lenSum pre + a.len + b.len + lenSum post := by simp [lenSum]; omega
  have e2 : lenSum (pre ++ a.join b :: post) = lenSum pre + a.len + b.len + lenSum post := by simp [lenSum, Su.join_len]; omega
  rw [e1] at hl
  have hv := valid_join hav hbv (by omega)
  refine ⟨⟨?_, by rw [e2]; omega⟩, ?_, ?_⟩
  · simp only [List.all_append, List.all_cons, Bool.and_eq_true]
    exact ⟨hp, hv, hq⟩
  · obtain ⟨t, ht⟩ : ∃ t, t = joinAll Su.empty pre := ⟨_, rfl⟩
    have htv : t.valid = true := by rw [ht]; exact (join_good empty_valid hp (by show (0 : Int) + _ ≤ _; omega)).1
    unfold joinAll at ht ⊢
    rw [List.foldl_append, List.foldl_append, ← ht]
    simp only [List.foldl_cons]
    rw [join_assoc htv hav]
  · unfold compose
    rw [if_pos ⟨hav, hbv⟩, if_pos (by omega)]
end Go.Proofs.YtomhlmfekmnajaaDoor
