/- The ring and the reference's ring side by side: what both hold, and what Put and Take do to it. -/
import Derived.Test.YtinanoclnlcilaaRefPut
import Derived.Test.YtinanoclnlcilaaPutOk
import Derived.Test.YtinanoclnlcilaaTake
namespace Go.Proofs.Ytinanoclnlcilaa
open Go.RowKit
set_option linter.unusedVariables false

theorem ResAt.keep {w w' : World} {p : Nat} {r : Res} {ex : List Nat} (h : ResAt w p r) (k : Keep ex w w') (he : p ∉ ex) (he5 : ∀ b ∈ ex, ∀ cs, ¬ BlkR w b 5 cs) : ResAt w' p r := by
  obtain ⟨v, hb, hx⟩ := h
  exact ⟨v, k.blk hb he, hx.keep k he5⟩

theorem RingAt.keep {w w' : World} {R S : Nat} {sl : List (Option Nat)} {nx cr : Int} {ex : List Nat} (h : RingAt w R S sl nx cr) (k : Keep ex w w') (h1 : R ∉ ex) (h2 : S ∉ ex) : RingAt w' R S sl nx cr := ⟨k.blk h.hr h1, k.blk h.hs h2⟩

theorem RefAt.keep {w w' : World} {Q : Nat} {cap next credits : Int} {vN vR : Value} {nums : List Int} {rs : List Res} {ex : List Nat} (h : RefAt w Q cap next credits vN vR nums rs) (k : Keep ex w w') (h1 : Q ∉ ex)
    (e3 : ∀ b ∈ ex, ∀ cs, ¬ BlkR w b 3 cs) (e33 : ∀ b ∈ ex, ∀ cs, ¬ BlkR w b 33 cs) (e5 : ∀ b ∈ ex, ∀ cs, ¬ BlkR w b 5 cs) : RefAt w' Q cap next credits vN vR nums rs :=
  ⟨k.blk h.hq h1, h.hN.keep k e3, h.hR.keep k e33 e5⟩

/-- The numbers nx .. nx + cap - 1 have different remainders. -/
theorem rem_ne {cap nx a b : Int} (hc : 0 < cap) (ha : nx ≤ a) (ha' : a < nx + cap) (hb : nx ≤ b) (hb' : b < nx + cap) (hne : a ≠ b) : (a % cap).toNat ≠ (b % cap).toNat := by
  intro h
  have h1 := Int.emod_nonneg a (show cap ≠ 0 by omega)
  have h2 := Int.emod_nonneg b (show cap ≠ 0 by omega)
  have h3 : a % cap = b % cap := by omega
  have h4 : (a - b) % cap = 0 := Int.emod_eq_emod_iff_emod_sub_eq_zero.1 h3
  obtain ⟨k, hk⟩ := Int.dvd_of_emod_eq_zero h4
  rcases Int.lt_trichotomy k 0 with h | h | h
  · have : cap * k ≤ cap * (-1) := Int.mul_le_mul_of_nonneg_left (by omega) (by omega)
    omega
  · subst h; omega
  · have : cap * 1 ≤ cap * k := Int.mul_le_mul_of_nonneg_left (by omega) (by omega)
    omega

structure Sim (w : World) (R S Q : Nat) (cap nx : Nat) (credits : Int) (sl : List (Option Nat)) (vN vR : Value) (st : List (Int × Res)) : Prop where
  ring : RingAt w R S sl nx credits
  ref : RefAt w Q cap nx credits vN vR (st.map (·.1)) (st.map (·.2))
  len : sl.length = cap
  cap0 : 1 ≤ cap
  cap1 : cap ≤ 64
  nx0 : 1 ≤ nx
  cr0 : 0 ≤ credits
  cr1 : credits ≤ cap
  asc : st.Pairwise (fun a b => a.1 < b.1)
  win : ∀ x ∈ st, (nx : Int) ≤ x.1 ∧ x.1 < nx + cap
  full : ∀ x ∈ st, ∃ p, sl[(x.1 % (cap : Int)).toNat]? = some (some p) ∧ ResAt w p x.2
  free : ∀ n : Int, (nx : Int) ≤ n → n < nx + cap → n ∉ st.map (·.1) → sl[(n % (cap : Int)).toNat]? = some none

theorem Sim.keep {w w' : World} {R S Q cap nx : Nat} {credits : Int} {sl : List (Option Nat)} {vN vR : Value} {st : List (Int × Res)} (h : Sim w R S Q cap nx credits sl vN vR st) (k : Keep [] w w') : Sim w' R S Q cap nx credits sl vN vR st :=
  { ring := h.ring.keep k (by simp) (by simp), ref := h.ref.keep0 k, len := h.len, cap0 := h.cap0, cap1 := h.cap1, nx0 := h.nx0, cr0 := h.cr0, cr1 := h.cr1, asc := h.asc, win := h.win,
    full := fun x hx => by obtain ⟨p, h1, h2⟩ := h.full x hx; exact ⟨p, h1, h2.keep k (by simp) (by simp)⟩, free := h.free }

/-- At most cap results are held. -/
theorem asc_length (st : List (Int × Res)) (a b : Int) (hasc : st.Pairwise (fun x y => x.1 < y.1)) (hw : ∀ x ∈ st, a ≤ x.1 ∧ x.1 < b) : (st.length : Int) ≤ max 0 (b - a) := by
  induction st generalizing a with
  | nil => simp; omega
  | cons x l ih =>
    have h1 := hw x (by simp)
    rw [List.pairwise_cons] at hasc
    have := ih (x.1 + 1) hasc.2 (fun y hy => ⟨by have := hasc.1 y hy; omega, (hw y (List.mem_cons_of_mem _ hy)).2⟩)
    simp only [List.length_cons, Int.natCast_add]
    omega

theorem Sim.count {w : World} {R S Q cap nx : Nat} {credits : Int} {sl : List (Option Nat)} {vN vR : Value} {st : List (Int × Res)} (h : Sim w R S Q cap nx credits sl vN vR st) : st.length ≤ 64 := by
  have := asc_length st nx (nx + cap) h.asc h.win
  have := h.cap1
  omega

/-- A slot is full exactly if its number is held. -/
theorem Sim.slot {w : World} {R S Q cap nx : Nat} {credits : Int} {sl : List (Option Nat)} {vN vR : Value} {st : List (Int × Res)} (h : Sim w R S Q cap nx credits sl vN vR st) (k : Nat) (hk : k < cap) : Ytinanoclnlcilaa.full sl (nx + k) = decide (((nx + k : Nat) : Int) ∈ st.map (·.1)) := by
  have hm : (((nx + k : Nat) : Int) % (cap : Int)).toNat = (nx + k) % cap := by rw [← Int.natCast_emod, Int.toNat_natCast]
  by_cases hmem : ((nx + k : Nat) : Int) ∈ st.map (·.1)
  · obtain ⟨x, hx, hx1⟩ := List.mem_map.1 hmem
    obtain ⟨p, h1, _⟩ := h.full x hx
    rw [hx1, hm] at h1
    rw [decide_eq_true hmem]
    simp [Ytinanoclnlcilaa.full, h.len, h1]
  · have h1 := h.free ((nx + k : Nat) : Int) (by omega) (by omega) hmem
    rw [hm] at h1
    rw [decide_eq_false hmem]
    simp [Ytinanoclnlcilaa.full, h.len, h1]

/-- A strictly ascending list, up to a bound. -/
theorem asc_upto (l : List Int) (hasc : l.Pairwise (· < ·)) (b : Int) : l.filter (· < b + 1) = l.filter (· < b) ++ (if b ∈ l then [b] else []) := by
  induction l with
  | nil => simp
  | cons x l ih =>
    rw [List.pairwise_cons] at hasc
    have ih := ih hasc.2
    rcases Int.lt_trichotomy x b with h | h | h
    · have hne : ¬ b = x := by omega
      simp only [List.filter_cons, show x < b + 1 by omega, h, decide_true, if_true, List.cons_append, List.mem_cons, hne, false_or]
      rw [ih]
    · subst h
      have h0 : l.filter (· < x + 1) = [] := List.filter_eq_nil_iff.2 (fun y hy => by have := hasc.1 y hy; simp; omega)
      have h1 : l.filter (· < x) = [] := List.filter_eq_nil_iff.2 (fun y hy => by have := hasc.1 y hy; simp; omega)
      simp [h0, h1, show x < x + 1 by omega]
    · have hb : b ∉ l := fun hb => by have := hasc.1 b hb; omega
      have hne : ¬ b = x := by omega
      have h0 : l.filter (· < b + 1) = [] := List.filter_eq_nil_iff.2 (fun y hy => by have := hasc.1 y hy; simp; omega)
      have h1 : l.filter (· < b) = [] := List.filter_eq_nil_iff.2 (fun y hy => by have := hasc.1 y hy; simp; omega)
      simp [h0, h1, hb, hne, show ¬ x < b + 1 by omega, show ¬ x < b by omega]

/-- Held tells the numbers that are held. -/
theorem Sim.held {w : World} {R S Q cap nx : Nat} {credits : Int} {sl : List (Option Nat)} {vN vR : Value} {st : List (Int × Res)} (h : Sim w R S Q cap nx credits sl vN vR st) : heldTo sl nx sl.length = st.map (·.1) := by
  have hasc : (st.map (·.1)).Pairwise (· < ·) := List.pairwise_map.2 h.asc
  have key : ∀ k, k ≤ cap → heldTo sl nx k = (st.map (·.1)).filter (· < ((nx + k : Nat) : Int)) := by
    intro k
    induction k with
    | zero =>
      intro _
      have : (st.map (·.1)).filter (· < ((nx + 0 : Nat) : Int)) = [] := List.filter_eq_nil_iff.2 (fun y hy => by
        obtain ⟨x, hx, rfl⟩ := List.mem_map.1 hy
        have := (h.win x hx).1
        simp; omega)
      rw [this]; rfl
    | succ k ih =>
      intro hk
      have hs := h.slot k (by omega)
      rw [show ((nx + (k + 1) : Nat) : Int) = ((nx + k : Nat) : Int) + 1 from by omega, asc_upto _ hasc, ← ih (by omega)]
      rw [show heldTo sl nx (k + 1) = if Ytinanoclnlcilaa.full sl (nx + k) then heldTo sl nx k ++ [((nx + k : Nat) : Int)] else heldTo sl nx k from rfl, hs]
      by_cases hmem : ((nx + k : Nat) : Int) ∈ st.map (·.1) <;> simp only [hmem, decide_true, decide_false, if_true, if_false, Bool.false_eq_true, List.append_nil]
  rw [h.len, key cap (Nat.le_refl _)]
  refine List.filter_eq_self.2 (fun y hy => ?_)
  obtain ⟨x, hx, rfl⟩ := List.mem_map.1 hy
  have := (h.win x hx).2
  simp; omega

/-- Where a number belongs. -/
def place (st : List (Int × Res)) (n : Int) : Nat := below (st.map (·.1)) n
def put (st : List (Int × Res)) (n : Int) (r : Res) : List (Int × Res) := st.take (place st n) ++ [(n, r)] ++ st.drop (place st n)

theorem mem_put {st : List (Int × Res)} {n : Int} {r : Res} {x : Int × Res} : x ∈ put st n r ↔ x ∈ st ∨ x = (n, r) := by
  unfold put
  conv => rhs; rw [← List.take_append_drop (place st n) st]
  simp only [List.mem_append, List.mem_singleton]
  constructor
  · rintro ((h | h) | h) <;> simp [h]
  · rintro ((h | h) | h) <;> simp [h]

theorem place_cons_lt {x : Int × Res} {l : List (Int × Res)} {n : Int} (h : x.1 < n) : place (x :: l) n = place l n + 1 := by
  simp [place, below, h]
theorem place_cons_ge {x : Int × Res} {l : List (Int × Res)} {n : Int} (h : ¬ x.1 < n) : place (x :: l) n = 0 := by
  simp [place, below, h]

theorem asc_put {st : List (Int × Res)} {n : Int} (r : Res) (hasc : st.Pairwise (fun a b => a.1 < b.1)) (hn : n ∉ st.map (·.1)) : (put st n r).Pairwise (fun a b => a.1 < b.1) := by
  induction st with
  | nil => simp [put, place, below]
  | cons x l ih =>
    have hasc' := hasc
    rw [List.pairwise_cons] at hasc'
    simp only [List.map_cons, List.mem_cons, not_or] at hn
    by_cases hx : x.1 < n
    · have ih := ih hasc'.2 hn.2
      have : put (x :: l) n r = x :: put l n r := by simp [put, place_cons_lt hx]
      rw [this, List.pairwise_cons]
      refine ⟨fun y hy => ?_, ih⟩
      rcases mem_put.1 hy with h | h
      · exact hasc'.1 y h
      · rw [h]; exact hx
    · have : put (x :: l) n r = (n, r) :: x :: l := by simp [put, place_cons_ge hx]
      rw [this, List.pairwise_cons]
      refine ⟨fun y hy => ?_, hasc⟩
      have hnx : n < x.1 := by omega
      rcases List.mem_cons.1 hy with h | h
      · rw [h]; exact hnx
      · have := hasc'.1 y h; simp only; omega

/-- Both rings have stored the result. -/
theorem Sim.put {w w1 w2 : World} {R S Q cap nx : Nat} {credits : Int} {sl : List (Option Nat)} {vN vR : Value} {st : List (Int × Res)} {n : Int} {r : Res} {e1 e2 : Ending} (h : Sim w R S Q cap nx credits sl vN vR st)
    (hlo : (nx : Int) ≤ n) (hhi : n < nx + cap) (hn : n ∉ st.map (·.1)) (h1 : PutPost R S sl nx credits (n % (sl.length : Int)).toNat r w e1 w1) (h2 : RefPutPost Q cap nx credits (st.map (·.1)) (st.map (·.2)) n r w1 e2 w2) :
    ∃ sl' vN' vR', Sim w2 R S Q cap nx credits sl' vN' vR' (Ytinanoclnlcilaa.put st n r) ∧ Keep [S, Q] w w2 := by
  obtain ⟨_, K1, hr1, hp1⟩ := h1
  obtain ⟨vN', vR', _, K2, href⟩ := h2
  have hlen := h.len
  rw [hlen] at hr1
  have hSQ : S ≠ Q := h.ring.hs.ne h.ref.hq (by decide)
  have hRQ : R ≠ Q := h.ring.hr.ne h.ref.hq (by decide)
  have hcap := h.cap0
  have e5S : ∀ b ∈ [S], ∀ cs, ¬ BlkR w b 5 cs := by intro b hb cs hc; simp only [List.mem_singleton] at hb; subst hb; exact h.ring.hs.neR hc (by decide) rfl
  have hQ1 : Blk w1 Q 39 _ := K1.blk h.ref.hq (by simp only [List.mem_singleton]; exact fun e => hSQ e.symm)
  have e5Q : ∀ b ∈ [Q], ∀ cs, ¬ BlkR w1 b 5 cs := by intro b hb cs hc; simp only [List.mem_singleton] at hb; subst hb; exact hQ1.neR hc (by decide) rfl
  have hi : (n % (cap : Int)).toNat < cap := by
    have a1 := Int.emod_nonneg n (show (cap : Int) ≠ 0 by omega)
    have a2 := Int.emod_lt_of_pos n (show (0 : Int) < cap by omega)
    omega
  refine ⟨sl.set (n % (cap : Int)).toNat (some w.heap.size), vN', vR', ?_, (K1.mono (by simp)).trans (K2.mono (by simp))⟩
  refine { ring := hr1.keep K2 (by simpa using hRQ) (by simpa using hSQ), ref := ?_, len := by simpa using hlen, cap0 := h.cap0, cap1 := h.cap1, nx0 := h.nx0, cr0 := h.cr0, cr1 := h.cr1, asc := asc_put r h.asc hn, win := ?_, full := ?_, free := ?_ }
  · have e1 : (Ytinanoclnlcilaa.put st n r).map (·.1) = (st.map (·.1)).take (below (st.map (·.1)) n) ++ [n] ++ (st.map (·.1)).drop (below (st.map (·.1)) n) := by simp [Ytinanoclnlcilaa.put, place, List.map_take, List.map_drop]
    have e2 : (Ytinanoclnlcilaa.put st n r).map (·.2) = (st.map (·.2)).take (below (st.map (·.1)) n) ++ [r] ++ (st.map (·.2)).drop (below (st.map (·.1)) n) := by simp [Ytinanoclnlcilaa.put, place, List.map_take, List.map_drop]
    rw [e1, e2]; exact href
  · intro x hx
    rcases mem_put.1 hx with hx | rfl
    · exact h.win x hx
    · exact ⟨hlo, hhi⟩
  · intro x hx
    rcases mem_put.1 hx with hx | rfl
    · obtain ⟨p, h1, h2⟩ := h.full x hx
      have hwx := h.win x hx
      have hne : x.1 ≠ n := fun e => hn (e ▸ List.mem_map.2 ⟨x, hx, rfl⟩)
      have hrem := rem_ne (cap := cap) (nx := nx) (by omega) hwx.1 hwx.2 hlo hhi hne
      obtain ⟨v, hb, hx5⟩ := h2
      have hpS : p ≠ S := hb.ne h.ring.hs (by decide)
      have hpQ : p ≠ Q := hb.ne h.ref.hq (by decide)
      refine ⟨p, by rw [List.getElem?_set_ne (Ne.symm hrem)]; exact h1, ?_⟩
      have h3 : ResAt w1 p x.2 := ResAt.keep ⟨v, hb, hx5⟩ K1 (by simpa using hpS) e5S
      exact h3.keep K2 (by simpa using hpQ) e5Q
    · refine ⟨w.heap.size, by rw [List.getElem?_set_self (by omega)], ?_⟩
      have : w.heap.size ≠ Q := by have := h.ref.hq.lt; omega
      rw [hlen] at *
      exact hp1.keep K2 (by simpa using this) e5Q
  · intro m hm1 hm2 hmem
    have hmn : m ≠ n := fun e => hmem (List.mem_map.2 ⟨(n, r), mem_put.2 (Or.inr rfl), e.symm⟩)
    have hrem := rem_ne (cap := cap) (nx := nx) (by omega) hm1 hm2 hlo hhi hmn
    rw [List.getElem?_set_ne (Ne.symm hrem)]
    refine h.free m hm1 hm2 (fun hx => hmem ?_)
    obtain ⟨x, hx, e⟩ := List.mem_map.1 hx
    exact List.mem_map.2 ⟨x, mem_put.2 (Or.inl hx), e⟩
end Go.Proofs.Ytinanoclnlcilaa
