/- A region that draws its order and whose last operation waits, through the others, for every other one: whatever the order, it comes last. So the region is the region of the others, in any order, and then that operation. Plain facts of the model's regions; no program. -/
import Derived.Deep.RegionHeld3
namespace Go.Proofs.YtomhlmfekmnajaaDoor
open Go

/-- Each operation waits for earlier ones alone, and each but the last has one that waits for it directly. -/
def lastB (l : List Oper) (o : Oper) : Bool :=
  let ops := l ++ [o]
  (List.range ops.length).all (fun i => ((ops[i]?).map fun x => x.after.all (fun e => !Region.binds .any e || e.on < i) && (match x.guard with | some (j, _) => decide (j < l.length) | none => true)).getD true) &&
  (List.range l.length).all (fun i => (List.range ops.length).any fun j => decide (i < j) && ((ops[j]?).map fun x => x.after.any fun e => Region.binds .any e && e.on == i).getD false)

section
variable {P : Program} {l : List Oper} {o : Oper} {Q : Exit → Act → World → Prop}

/-- What is left behind the others: the last operation. -/
def lastQ (P : Program) (l : List Oper) (o : Oper) (Q : Exit → Act → World → Prop) : Exit → Act → World → Prop
  | .normal, a, w => wpList P (l ++ [o]).toArray Q [o] a w
  | e, a, w => Q e a w

theorem lastB_edges (h : lastB l o = true) {i : Nat} {x : Oper} (hx : (l ++ [o])[i]? = some x) : (∀ e ∈ x.after, Region.binds .any e = true → e.on < i) ∧ (∀ j b, x.guard = some (j, b) → j < l.length) := by
  simp only [lastB, Bool.and_eq_true] at h
  have hi : i < (l ++ [o]).length := (List.getElem?_eq_some_iff.1 hx).1
  have h1 := List.all_eq_true.1 h.1 i (List.mem_range.2 hi)
  rw [hx] at h1
  simp only [Option.map_some, Option.getD_some, Bool.and_eq_true] at h1
  refine ⟨fun e he hb => ?_, fun j b hg => ?_⟩
  · have h2 := Array.all_eq_true'.1 h1.1 e he
    simp only [hb, Bool.not_true, Bool.false_or, decide_eq_true_eq] at h2
    exact h2
  · have h2 := h1.2
    rw [hg] at h2
    simpa using h2

theorem lastB_wait (h : lastB l o = true) {i : Nat} (hi : i < l.length) : ∃ j x, i < j ∧ (l ++ [o])[j]? = some x ∧ ∃ e ∈ x.after, Region.binds .any e = true ∧ e.on = i := by
  simp only [lastB, Bool.and_eq_true] at h
  have h1 := List.all_eq_true.1 h.2 i (List.mem_range.2 hi)
  obtain ⟨j, hj, h2⟩ := List.any_eq_true.1 h1
  simp only [Bool.and_eq_true, decide_eq_true_eq] at h2
  obtain ⟨hij, h3⟩ := h2
  cases hx : (l ++ [o])[j]? with
  | none => rw [hx] at h3; simp at h3
  | some x =>
    rw [hx] at h3
    simp only [Option.map_some, Option.getD_some] at h3
    obtain ⟨e, he, h4⟩ := Array.any_eq_true'.1 h3
    simp only [Bool.and_eq_true, beq_iff_eq] at h4
    exact ⟨j, x, hij, hx, e, he, h4.1, h4.2⟩

/-- Whatever has come up, what it waits for has come up. -/
def Closed (l : List Oper) (o : Oper) (listed : Array Bool) : Prop := ∀ k x, (l ++ [o])[k]? = some x → listed.getD k false = true → ∀ e ∈ x.after, Region.binds .any e = true → listed.getD e.on false = true

theorem all_listed (h : lastB l o = true) {listed : Array Bool} (hC : Closed l o listed) (hn : ∀ e ∈ o.after, Region.binds .any e = true → listed.getD e.on false = true) : ∀ d i, i + d = l.length → 0 < d → listed.getD i false = true := by
  intro d
  induction d using Nat.strongRecOn with
  | ind d ih =>
    intro i hid hd
    obtain ⟨j, x, hij, hx, e, he, hb, heq⟩ := lastB_wait h (i := i) (by omega)
    have hj : j < l.length + 1 := by have := (List.getElem?_eq_some_iff.1 hx).1; simpa using this
    by_cases hjn : j = l.length
    · subst hjn
      have : x = o := by simpa using hx.symm
      subst this
      rw [← heq]; exact hn e he hb
    · have := ih (l.length - j) (by omega) j (by omega) (by omega)
      rw [← heq]; exact hC j x hx this e he hb

theorem getD_bound {listed : Array Bool} {i : Nat} (hi : i < listed.size) : listed.getD i true = listed.getD i false := by simp [Array.getD, hi]

/-- The operation at place i of the others is that of the whole. -/
theorem at_left {i : Nat} (hi : i < l.length) : (l ++ [o])[i]? = l[i]? := List.getElem?_append_left hi

theorem ready_left (h : lastB l o = true) {listed listedL : Array Bool} (hs : listed.size = l.length + 1) (hsL : listedL.size = l.length) (heq : ∀ i, i < l.length → listed.getD i false = listedL.getD i false) {i : Nat} (hi : i < l.length) :
    i ∈ Region.ready .any (l ++ [o]).toArray listed ↔ i ∈ Region.ready .any l.toArray listedL := by
  rw [mem_ready, mem_ready, getD_bound (by omega), getD_bound (by omega), heq i hi]
  simp only [List.getElem?_toArray, at_left hi]
  constructor
  · rintro ⟨h0, x, hx, hall⟩
    refine ⟨h0, x, hx, fun e he hb => ?_⟩
    have hlt := (lastB_edges h (i := i) (by rw [at_left hi]; exact hx)).1 e he hb
    rw [← heq e.on (by omega)]; exact hall e he hb
  · rintro ⟨h0, x, hx, hall⟩
    refine ⟨h0, x, hx, fun e he hb => ?_⟩
    have hlt := (lastB_edges h (i := i) (by rw [at_left hi]; exact hx)).1 e he hb
    rw [heq e.on (by omega)]; exact hall e he hb

/-- Where nothing of the others may come up, all of them have. -/
theorem done_left (h : lastB l o = true) {listedL : Array Bool} (hsL : listedL.size = l.length) (hr : Region.ready .any l.toArray listedL = []) : ∀ i, i < l.length → listedL.getD i false = true := by
  intro i
  induction i using Nat.strongRecOn with
  | ind i ih =>
    intro hi
    cases hb : listedL.getD i false with
    | true => rfl
    | false =>
      have : i ∈ Region.ready .any l.toArray listedL := by
        rw [mem_ready, getD_bound (by omega)]
        refine ⟨hb, l[i], by simp [hi], fun e he hbn => ?_⟩
        have hlt := (lastB_edges h (i := i) (x := l[i]) (by rw [at_left hi]; simp [hi])).1 e he hbn
        exact ih e.on hlt (by omega)
      rw [hr] at this
      cases this

theorem yielded_left (tmps : Array Value) {j : Nat} (hj : j < l.length) : yielded l.toArray tmps j = yielded (l ++ [o]).toArray tmps j := by
  unfold yielded
  simp only [List.getElem?_toArray, at_left hj]

theorem wpOp_left (h : lastB l o = true) {i : Nat} (hi : i < l.length) {K : Act → World → Prop} {a : Act} {w : World} (hh : wpOp P l.toArray (lastQ P l o Q) i K a w) : wpOp P (l ++ [o]).toArray Q i K a w := by
  unfold wpOp at *
  simp only [List.getElem?_toArray, at_left hi] at *
  cases hx : l[i]? with
  | none => rw [hx] at hh; exact hh
  | some x =>
    rw [hx] at hh
    simp only at hh ⊢
    have hg := (lastB_edges h (i := i) (by rw [at_left hi]; exact hx)).2
    have hw : Region.wanted x (yielded (l ++ [o]).toArray a.tmps) = Region.wanted x (yielded l.toArray a.tmps) := by
      unfold Region.wanted
      cases hgd : x.guard with
      | none => rfl
      | some p => obtain ⟨j, b⟩ := p; simp only; rw [yielded_left a.tmps (hg j b hgd)]
    rw [hw]
    split
    · rename_i hwant
      rw [if_pos hwant] at hh
      refine hh.imp (fun h1 => ?_) (fun h1 => ⟨h1.1, h1.2⟩)
      unfold Oper.wp at *
      generalize (execOp a.eval x).run P w = r at *
      cases r with
      | ok n w' =>
        cases n <;> simp only [Oper.upon] at h1 ⊢ <;> exact h1
      | halt y w' => cases y <;> simp only [Oper.upon] at h1 ⊢ <;> exact h1
    · rename_i hwant
      rw [if_neg hwant] at hh
      exact hh

theorem closed_set {listed : Array Bool} (hC : Closed l o listed) {i : Nat} {x : Oper} (hx : (l ++ [o])[i]? = some x) (hall : ∀ e ∈ x.after, Region.binds .any e = true → listed.getD e.on false = true) : Closed l o (listed.setIfInBounds i true) := by
  intro k y hy hk e he hb
  by_cases hki : k = i
  · subst hki
    rw [hx] at hy
    injection hy with hy
    subst hy
    exact getD_set_true (hall e he hb)
  · have : listed.getD k false = true := by rw [getD_set_ne false (Ne.symm hki)] at hk; exact hk
    exact getD_set_true (hC k y hy this e he hb)

theorem wpAny_last (h : lastB l o = true) : ∀ (fuel : Nat) (listed listedL : Array Bool) (a : Act) (w : World), listed.size = l.length + 1 → listedL.size = l.length → (∀ i, i < l.length → listed.getD i false = listedL.getD i false) → listed.getD l.length false = false → Closed l o listed →
    wpAny P .any l.toArray (lastQ P l o Q) fuel listedL a w → wpAny P .any (l ++ [o]).toArray Q (fuel + 1) listed a w := by
  intro fuel
  induction fuel with
  | zero =>
    intro listed listedL a w hs hsL heq hn hC H
    have hall : ∀ i, i < l.length → listed.getD i false = true := fun i hi => by rw [heq i hi]; exact done_left h hsL H.1 i hi
    exact last_step h listed a w hs hall hn H.2 0
  | succ fuel ih =>
    intro listed listedL a w hs hsL heq hn hC H
    by_cases hr : Region.ready .any l.toArray listedL = []
    · have hall : ∀ i, i < l.length → listed.getD i false = true := fun i hi => by rw [heq i hi]; exact done_left h hsL hr i hi
      exact last_step h listed a w hs hall hn (H.1 hr) (fuel + 1)
    · have hnot : ∀ i, i ∈ Region.ready .any (l ++ [o]).toArray listed → i < l.length := by
        intro i hi
        obtain ⟨h0, x, hx, hall⟩ := mem_ready.1 hi
        have hlt : i < l.length + 1 := by
          have := (Array.getElem?_eq_some_iff.1 hx).1
          simpa using this
        rcases Nat.lt_or_ge i l.length with h1 | h1
        · exact h1
        · have hi' : i = l.length := by omega
          subst hi'
          have hxo : x = o := by simpa using hx.symm
          subst hxo
          exfalso
          obtain ⟨j, hj⟩ := List.exists_mem_of_ne_nil _ hr
          have hjl : j < l.length := by
            obtain ⟨_, y, hy, _⟩ := mem_ready.1 hj
            have := (Array.getElem?_eq_some_iff.1 hy).1
            simpa using this
          have hj0 : listedL.getD j false = false := by
            have := (mem_ready.1 hj).1
            rwa [getD_bound (by omega)] at this
          have := all_listed h hC hall (l.length - j) j (by omega) (by omega)
          rw [heq j hjl, hj0] at this
          cases this
      refine ⟨fun h0 => ?_, fun i hi => ?_⟩
      · exfalso
        obtain ⟨j, hj⟩ := List.exists_mem_of_ne_nil _ hr
        have hjl : j < l.length := by
          obtain ⟨_, y, hy, _⟩ := mem_ready.1 hj
          have := (Array.getElem?_eq_some_iff.1 hy).1
          simpa using this
        have := (ready_left h hs hsL heq hjl).2 hj
        rw [h0] at this
        cases this
      · have hil := hnot i hi
        have hiL := (ready_left h hs hsL heq hil).1 hi
        obtain ⟨_, x, hx, hall⟩ := mem_ready.1 hi
        refine wpOp_left h hil (wpOp_mono (fun a' w' H' => ?_) (H.2 i hiL))
        refine ih (listed.setIfInBounds i true) (listedL.setIfInBounds i true) a' w' (by simpa using hs) (by simpa using hsL) (fun j hj => ?_) ?_ (closed_set hC (by simpa using hx) hall) H'
        · by_cases hji : j = i
          · subst hji
            simp [Array.getD, hs, hsL, hj, Nat.lt_succ_of_lt hj]
          · rw [getD_set_ne false (Ne.symm hji), getD_set_ne false (Ne.symm hji)]
            exact heq j hj
        · rw [getD_set_ne false (by omega)]
          exact hn
where
  last_step (h : lastB l o = true) (listed : Array Bool) (a : Act) (w : World) (hs : listed.size = l.length + 1) (hall : ∀ i, i < l.length → listed.getD i false = true) (hn : listed.getD l.length false = false) (H : lastQ P l o Q .normal a w) (fuel : Nat) : wpAny P .any (l ++ [o]).toArray Q (fuel + 1) listed a w := by
    have hrn : l.length ∈ Region.ready .any (l ++ [o]).toArray listed := by
      rw [mem_ready, getD_bound (by omega)]
      refine ⟨hn, o, by simp, fun e he hb => ?_⟩
      exact hall e.on ((lastB_edges h (i := l.length) (x := o) (by simp)).1 e he hb)
    refine ⟨fun h0 => (by rw [h0] at hrn; cases hrn), fun i hi => ?_⟩
    have hi' : i = l.length := by
      obtain ⟨h0, x, hx, _⟩ := mem_ready.1 hi
      have hlt : i < l.length + 1 := by
        have := (Array.getElem?_eq_some_iff.1 hx).1
        simpa using this
      rcases Nat.lt_or_ge i l.length with h1 | h1
      · rw [getD_bound (by omega), hall i h1] at h0; cases h0
      · omega
    subst hi'
    have hdone : Region.ready .any (l ++ [o]).toArray (listed.setIfInBounds l.length true) = [] := by
      cases hr : Region.ready .any (l ++ [o]).toArray (listed.setIfInBounds l.length true) with
      | nil => rfl
      | cons j js =>
        exfalso
        have hj : j ∈ Region.ready .any (l ++ [o]).toArray (listed.setIfInBounds l.length true) := by rw [hr]; simp
        obtain ⟨h0, x, hx, _⟩ := mem_ready.1 hj
        have hlt : j < l.length + 1 := by
          have := (Array.getElem?_eq_some_iff.1 hx).1
          simpa using this
        by_cases hjn : j = l.length
        · subst hjn
          simp [Array.getD, hs] at h0
        · rw [getD_set_ne true (Ne.symm hjn), getD_bound (by omega), hall j (by omega)] at h0
          cases h0
    have H' : wpList P (l ++ [o]).toArray Q [o] a w := H
    unfold wpList at H'
    unfold wpOp
    simp only [List.getElem?_toArray, List.getElem?_concat_length]
    split
    · rename_i hw
      rw [if_pos hw] at H'
      exact H'.imp (Oper.wp_mono (fun a' w' hq => wpAny_done hdone hq fuel)) id
    · rename_i hw
      rw [if_neg hw] at H'
      exact wpAny_done hdone H' fuel

/-- THE BEGINNING: the region is that of the others, in any order; then the last operation. -/
theorem wp_region_last {id N : Nat} {a : Act} {w : World} {l : List Oper} {o : Oper} (hm : P.follows .mixedOrders = true) (hB : lastB l o = true) (hN : l.length = N)
    (h : wpAny P .any l.toArray (lastQ P l o Q) N (Array.replicate N false) a w.drew) : (Code.region id (l ++ [o]).toArray true).wp P Q a w := by
  subst hN
  refine wp_region_any hm ?_
  have hsz : (l ++ [o]).toArray.size = l.length + 1 := by simp
  rw [hsz]
  refine wpAny_last hB l.length _ (Array.replicate l.length false) a _ (by simp) (by simp) (fun i hi => by simp [Array.getD, hi, Nat.lt_succ_of_lt hi]) (by simp [Array.getD]) (fun k x hx hk => ?_) h
  exfalso
  have hk' : k < l.length + 1 := by have := (List.getElem?_eq_some_iff.1 hx).1; simpa using this
  simp [Array.getD, hk'] at hk
end
end Go.Proofs.YtomhlmfekmnajaaDoor
