/- Arguments opened: slices of summaries, slices of numbers, strings, numbers. -/
import Derived.Test.YtomhlmfekmnajaaDoorOpen
import Derived.Test.YtomhlmfekmnajaaDoorBox
import Derived.Deep.Slices
import Derived.ChangeSlices
namespace Go.Proofs.YtomhlmfekmnajaaDoor
open Go.ChangeShapes Go.WideShapes Go.ChangeAt Go.RowKit Go.Deep
set_option linter.unusedVariables false

section
variable {H : Type} {enc : TypeId × Value → H} {W : World} {base : Nat} {sp : Nat → Bool} {held : Bool} {fuel : Nat}

theorem weightsAll_mem {P : Program} {e : TypeId} {d : DataW H} {n : Nat} : ∀ {l : List (DataW H)}, d ∈ l → n ∈ d.weights P e → n ∈ DataW.weightsAll P e l
  | x :: r, hd, hn => by
    simp only [DataW.weightsAll, List.mem_append]
    rcases List.mem_cons.1 hd with rfl | hd
    · exact .inl hn
    · exact .inr (weightsAll_mem hd hn)

theorem spot_none {a : Addr} {v : Value} (h : W.cell? a = some v) : ∃ g off, a = ⟨g, off, none⟩ := by
  obtain ⟨g, off, spot⟩ := a
  cases spot with
  | none => exact ⟨g, off, rfl⟩
  | some s =>
    exfalso
    simp [World.cell?] at h
    split at h <;> simp at h

theorem list_of {α : Type} {Q : Nat → α → Prop} : ∀ n : Nat, (∀ i, i < n → ∃ s, Q i s) → ∃ ss : List α, ss.length = n ∧ ∀ k s, ss[k]? = some s → Q k s
  | 0, _ => ⟨[], rfl, fun k s h => by simp at h⟩
  | n + 1, h => by
    obtain ⟨ss, hl, hs⟩ := list_of n (fun i hi => h i (by omega))
    obtain ⟨s, hq⟩ := h n (by omega)
    refine ⟨ss ++ [s], by simp [hl], fun k x hx => ?_⟩
    rcases Nat.lt_or_ge k n with hk | hk
    · rw [List.getElem?_append_left (by omega)] at hx
      exact hs k x hx
    · rw [List.getElem?_append_right (by omega), hl] at hx
      have hk0 : k - n = 0 := by
        have := (List.getElem?_eq_some_iff.1 hx).1
        simp at this; omega
      rw [hk0] at hx
      simp at hx
      have : k = n := by omega
      subst this; subst hx
      exact hq

set_option maxRecDepth 100000 in
theorem open_sus {v : Value} {d : DataW H} {p : List MemPlace} (hv : ∃ a l c, v = .slice a l c) (h : DataW.Trod enc Tryd.prog W base sp held 34 v d p) :
    ∃ ss, SuRow W v ss ∧ ∀ s ∈ ss, ∀ l, (l = s.l0 ∨ l = s.l1 ∨ l = s.l2) → l = [] ∨ ∃ n ∈ d.weights Tryd.prog 34, l.length * 8 ≤ n := by
  obtain ⟨fuel, hf⟩ := h
  obtain ⟨va, vl, vc, rfl⟩ := hv
  rcases open_slice Tryd.underlying34 hf with ⟨hcs, _⟩ | ⟨a, len, cap, m, n, D, Pl, hcs, hb, hl, hm, hmm, hx, hi⟩
  · simp [Value.cells] at hcs
    obtain ⟨rfl, rfl, rfl⟩ := hcs
    exact ⟨[], SuRow.nil W, fun s hs => by simp at hs⟩
  · simp [Value.cells] at hcs
    obtain ⟨rfl, rfl, rfl⟩ := hcs
    have hlm : vl ≤ m := by rw [hmm]; split <;> omega
    rw [c26] at hi
    simp only [Prod.mk.injEq] at hx
    obtain ⟨hd, _⟩ := hx
    have hall : ∀ i, i < vl → ∃ s : Su, ∃ g off cs, (some a : Option Addr) = some ⟨g, off, none⟩ ∧ W.rangeAt g (off + i * 7) (Array.toList cs) ∧ SuV W (.agg cs) s ∧ ∀ l, (l = s.l0 ∨ l = s.l1 ∨ l = s.l2) → l = [] ∨ ∃ n ∈ d.weights Tryd.prog 34, l.length * 8 ≤ n := by
      intro i him
      obtain ⟨cs', hc, ht⟩ := hi i (by omega)
      obtain ⟨_, hcl, hat⟩ := World.cells?_some hc
      obtain ⟨s, hs, hw⟩ := open_su (v := .agg cs'.toArray) (d := D i) (p := Pl i) ⟨_, by simpa [Value.cells] using ht⟩
      have hspot : ∃ g off, a = ⟨g, off, none⟩ := by
        obtain ⟨cs0, hc0, _⟩ := hi 0 (by omega)
        obtain ⟨_, hcl0, hat0⟩ := World.cells?_some hc0
        have h0 := hat0 0 (by omega)
        rw [List.getElem?_eq_getElem (by omega)] at h0
        have e : (a.add (0 * 7)).add 0 = a := by simp [Addr.add]
        rw [e] at h0
        exact spot_none h0
      obtain ⟨g, off, rfl⟩ := hspot
      refine ⟨s, g, off, cs'.toArray, rfl, fun j u hj => ?_, hs, fun l hl' => ?_⟩
      · have hj' : j < 7 := by have := (List.getElem?_eq_some_iff.1 hj).1; simpa [hcl] using this
        have := hat j hj'
        rw [addr_add, addr_add] at this
        rw [this]
        simpa using hj
      · rcases hw l hl' with h | ⟨n, hn, hle⟩
        · exact .inl h
        · refine .inr ⟨n, ?_, hle⟩
          rw [hd]
          simp only [DataW.weights, Tryd.underlying34, List.mem_cons, List.mem_append]
          exact .inr (.inl (weightsAll_mem (List.mem_map.2 ⟨i, List.mem_range.2 him, rfl⟩) hn))
    obtain ⟨ss, hss, hP⟩ := list_of vl hall
    refine ⟨ss, ⟨some a, vc, by rw [hss], by omega, hm, (fun h => by cases h), fun k s hs => ?_⟩, fun s hs l hl' => ?_⟩
    · obtain ⟨g, off, cs, e, hr, hsu, _⟩ := hP k s hs
      exact ⟨g, off, cs, e, hr, hsu⟩
    · obtain ⟨k, hk⟩ := List.getElem?_of_mem hs
      obtain ⟨_, _, _, _, _, _, hw⟩ := hP k s hk
      exact hw l hl'

theorem open_line' {v : Value} {d : DataW H} {p : List MemPlace} (hv : ∃ a l c, v = .slice a l c) (h : DataW.Trod enc Tryd.prog W base sp held 23 v d p) : ∃ xs, Ints W v xs ∧ (xs = [] ∨ ∃ n ∈ d.weights Tryd.prog 23, xs.length * 8 ≤ n) := by
  obtain ⟨a, l, c, rfl⟩ := hv
  obtain ⟨fuel, hf⟩ := h
  exact open_line (u := .slice a l c) (x := (d, p)) (by simpa [Value.cells] using hf)
end
end Go.Proofs.YtomhlmfekmnajaaDoor
