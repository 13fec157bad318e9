/- What Compose computes. Plain. -/
import Derived.Test.YtomhlmfekmnajaaDoorValid
namespace Go.Proofs.YtomhlmfekmnajaaDoor
open Go.RowKit
set_option linter.unusedVariables false

def Su.zero : Su := ⟨0, 0, 0, 0, [], [], []⟩
def Su.je (s t : Su) (k : Nat) : Int := t.e (s.e k).toNat
def Su.jl (s t : Su) (k : Nat) : List Int := s.l k ++ (t.l (s.e k).toNat).map (s.len + ·)
def Su.join (s t : Su) : Su := ⟨s.len + t.len, s.je t 0, s.je t 1, s.je t 2, s.jl t 0, s.jl t 1, s.jl t 2⟩
def compose (s t : Su) : Su × Int :=
  if s.valid = true ∧ t.valid = true then (if s.len + t.len ≤ 1048576 then (s.join t, 0) else (Su.zero, 2)) else (Su.zero, 1)

theorem Su.valid_okAt {s : Su} (h : s.valid = true) (k : Nat) (hk : k < 3) : s.okAt k = true := by
  unfold Su.valid at h
  simp only [Bool.and_eq_true] at h
  obtain rfl | rfl | rfl : k = 0 ∨ k = 1 ∨ k = 2 := by omega
  · exact h.2.1.1
  · exact h.2.1.2
  · exact h.2.2
theorem Su.valid_len {s : Su} (h : s.valid = true) : 0 ≤ s.len ∧ s.len ≤ 1048576 := by
  unfold Su.valid at h
  simp only [Bool.and_eq_true] at h
  exact of_decide_eq_true h.1
theorem Su.valid_e {s : Su} (h : s.valid = true) (k : Nat) (hk : k < 3) : 0 ≤ s.e k ∧ s.e k ≤ 2 := by
  have := s.valid_okAt h k hk
  unfold Su.okAt at this
  simp only [Bool.and_eq_true] at this
  exact of_decide_eq_true this.2
theorem Su.valid_l {s : Su} (h : s.valid = true) (k : Nat) (hk : k < 3) : okFrom s.len (-1) (s.l k) = true := by
  have := s.valid_okAt h k hk
  unfold Su.okAt at this
  simp only [Bool.and_eq_true] at this
  exact this.1
theorem okFrom_bounds {len : Int} (xs : List Int) (last : Int) (h : okFrom len last xs = true) : (∀ x ∈ xs, last < x ∧ x < len) ∧ (xs.length : Int) ≤ max 0 (len - 1 - last) := by
  induction xs generalizing last with
  | nil => simp; omega
  | cons x xs ih =>
    simp only [okFrom, Bool.and_eq_true] at h
    have h1 := of_decide_eq_true h.1
    obtain ⟨h2, h3⟩ := ih x h.2
    refine ⟨fun y hy => ?_, ?_⟩
    · rcases List.mem_cons.1 hy with rfl | hy
      · exact h1
      · have := h2 y hy; omega
    · simp only [List.length_cons, Int.natCast_add]; omega
theorem Su.valid_length {s : Su} (h : s.valid = true) (k : Nat) (hk : k < 3) : (s.l k).length ≤ 1048576 := by
  have := (okFrom_bounds _ _ (s.valid_l h k hk)).2
  have := s.valid_len h
  omega
theorem Su.valid_mem {s : Su} (h : s.valid = true) (k : Nat) (hk : k < 3) (x : Int) (hx : x ∈ s.l k) : 0 ≤ x ∧ x < s.len := by
  have := (okFrom_bounds _ _ (s.valid_l h k hk)).1 x hx
  omega
end Go.Proofs.YtomhlmfekmnajaaDoor
