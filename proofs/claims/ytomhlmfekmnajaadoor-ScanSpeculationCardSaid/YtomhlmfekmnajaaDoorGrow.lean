/- A slice of summaries that grows by append. -/
import Derived.Test.YtomhlmfekmnajaaDoorOwnSu
import Derived.Maps.AppendAt
namespace Go.Proofs.YtomhlmfekmnajaaDoor
open Go.RowKit
set_option linter.unusedVariables false
set_option linter.unusedSimpArgs false

/-- The cells c read as s as long as nothing but the block o, if there is one, turns. -/
def StableO (w : World) (o : Option Nat) (c : Array Value) (s : Su) : Prop := ∀ W, Keep o.toList w W → SuV W (.agg c) s
theorem StableO.now {w : World} {o : Option Nat} {c : Array Value} {s : Su} (h : StableO w o c s) : SuV w (.agg c) s := h w (Keep.refl _ _)
theorem StableO.keep0 {w w' : World} {o : Option Nat} {c : Array Value} {s : Su} (h : StableO w o c s) (k : Keep [] w w') : StableO w' o c s := fun W K => h W ((k.mono (by simp)).trans K)
theorem Keep.freshX {ex ex' : List Nat} {w w1 w2 : World} (h : Keep ex w w1) (k : Keep ex' w1 w2) (he : ∀ b ∈ ex', b ∈ ex ∨ w.heap.size ≤ b) : Keep ex w w2 :=
  ⟨k.os.trans h.os, k.tape.trans h.tape, k.output.trans h.output, Nat.le_trans h.size k.size, fun i hi hx => (k.block i (Nat.lt_of_lt_of_le hi h.size) (fun hm => by rcases he i hm with h1 | h1; exact hx h1; omega)).trans (h.block i hi hx)⟩
theorem StableO.grow {w w' : World} {o o' : Option Nat} {c : Array Value} {s : Su} (h : StableO w o c s) (K : Keep o.toList w w') (ho : o' = o ∨ ∃ b, o' = some b ∧ w.heap.size ≤ b) : StableO w' o' c s := by
  intro W KW
  refine h W (K.freshX KW fun b hb => ?_)
  rcases ho with rfl | ⟨g, rfl, hg⟩
  · exact .inl hb
  · simp at hb; subst hb; exact .inr hg
theorem StableO.of_fresh {w : World} {o : Option Nat} {b : Nat} {c : Array Value} {s : Su} (h : SuV w (.agg c) s) (hf : FreshV b (.agg c)) (ho : ∀ g, o = some g → g < b) : StableO w o c s := by
  intro W K
  cases o with
  | none => exact h.keep K
  | some g => exact h.keepNe K hf (ho g rfl)

structure GrowSu (w : World) (base : Nat) (v : Value) (css : List (Array Value)) (ss : List Su) : Prop where
  own : w.ownsRow base 26 7 v ss.length (flat css)
  len : css.length = ss.length
  st : ∀ (k : Nat) (c : Array Value) (s : Su), css[k]? = some c → ss[k]? = some s → StableO w v.ownBlock c s
namespace GrowSu
variable {w w' : World} {base : Nat} {v : Value} {css : List (Array Value)} {ss : List Su}
theorem nil (w : World) (base : Nat) : GrowSu w base (.slice none 0 0) [] [] := ⟨World.ownsRow_nil _ _ _ _, rfl, fun k c s h => by simp at h⟩
theorem keep0 (h : GrowSu w base v css ss) (k : Keep [] w w') : GrowSu w' base v css ss := ⟨own_keep h.own k, h.len, fun j c s hc hs => (h.st j c s hc hs).keep0 k⟩
theorem lt (h : GrowSu w base v css ss) {g : Nat} (hg : v.ownBlock = some g) : base ≤ g ∧ g < w.heap.size := World.ownsRow.lt h.own g hg
theorem seven (h : GrowSu w base v css ss) : ∀ c ∈ css, c.size = 7 := fun c hc => by
  obtain ⟨k, hk⟩ := List.getElem?_of_mem hc
  have hlt : k < ss.length := by rw [← h.len]; exact (List.getElem?_eq_some_iff.1 hk).1
  exact (h.st k c ss[k] hk (by simp [hlt])).now.size7

/-- append(l, x) -/
theorem append (h : GrowSu w base v css ss) (hb : base ≤ w.heap.size) {c : Array Value} {s : Su} (hc : SuV w (.agg c) s) {b : Nat} (hf : FreshV b (.agg c)) (hbv : ∀ g, v.ownBlock = some g → g < b) (hn : ss.length < 1048577) (ty : TypeId) :
    ∃ v' w', (Builtin.append_ #[34, 34] ty #[v, .slice (some ⟨w.heap.size, 0, none⟩) 1 1]).run Tryd.prog (w.alloc (.cells c 26)) = .ok v' w' ∧ GrowSu w' base v' (css ++ [c]) (ss ++ [s]) ∧ w.heap.size ≤ w'.heap.size ∧
      ∀ w0, Keep [] w0 w → w0.heap.size ≤ base → Keep [] w0 w' := by
  have ka : Keep [] w (w.alloc (.cells c 26)) := (Keep.refl _ _).alloc _
  have h1 := h.keep0 ka
  obtain ⟨i26, hi26, hz0, hz1, hz2⟩ := info_parts Tryd.info26
  obtain ⟨v', w', hr, ho, hg, _, hat⟩ := run_append_own_at (P := Tryd.prog) (w.alloc (.cells c 26)) base 34 ty 26 i26 (.agg zcells) 7 104 Tryd.underlying34 hi26 hz0 hz1 hz2 rfl (by decide) v ss.length (flat css) h1.own ⟨w.heap.size, 0, none⟩ 1 1 c.toList (by simpa using hc.size7)
    (fun j u hj => by rw [addr_add, Nat.zero_add]; exact (Blk.new w c 26).cell j u hj) (fun u hu => Array.all_eq_true_iff_forall_mem.1 hc.one u (by simpa using hu)) (by unfold maxLen; omega) (by omega) (by simp; omega)
  have kg := Keep.of_grown hg
  have hsz : w.heap.size + 1 = (w.alloc (.cells c 26)).heap.size := (World.size_alloc _ _).symm
  have hat' : v'.ownBlock = v.ownBlock ∨ ∃ g, v'.ownBlock = some g ∧ (w.alloc (.cells c 26)).heap.size ≤ g := by
    rcases hat with e | e
    · exact .inl e
    · exact .inr ⟨_, e, Nat.le_refl _⟩
  refine ⟨v', w', hr, ⟨?_, by simp [h.len], fun k d t hd ht => ?_⟩, Nat.le_trans ka.size kg.size, fun w0 k0 hw0 => ?_⟩
  · rw [List.length_append, List.length_singleton, flat_append]
    simpa [flat] using ho
  · rcases Nat.lt_or_ge k css.length with hk | hk
    · rw [List.getElem?_append_left hk] at hd
      rw [List.getElem?_append_left (by rw [← h.len]; exact hk)] at ht
      exact (h1.st k d t hd ht).grow kg hat'
    · rw [List.getElem?_append_right hk] at hd
      rw [List.getElem?_append_right (by rw [← h.len]; exact hk), ← h.len] at ht
      have hk0 : k - css.length = 0 := by
        have := (List.getElem?_eq_some_iff.1 hd).1
        simp at this; omega
      rw [hk0] at hd ht
      simp at hd ht
      subst hd; subst ht
      exact (StableO.of_fresh (hc.keep ka) hf hbv).grow kg hat'
  · exact (k0.trans ka).fresh kg (fun b hb => Nat.le_trans hw0 (World.ownsRow.lt h1.own b (by simpa using hb)).1)

/-- It reads as a slice of summaries. -/
theorem row (h : GrowSu w base v css ss) : SuRow w v ss := by
  rcases h.own.2 with ⟨hv, h0⟩ | ⟨g, cap, cur, rfl, hb, hg, hnc, hcm, hcs, htake⟩
  · have hss : ss = [] := List.length_eq_zero_iff.1 h0
    rw [hv, hss]
    exact SuRow.nil w
  · refine ⟨some ⟨g, 0, none⟩, cap, rfl, hnc, hcm, (fun h => by cases h), fun k s hs => ?_⟩
    have hlt : k < css.length := by rw [h.len]; exact (List.getElem?_eq_some_iff.1 hs).1
    have hck : css[k]? = some css[k] := by simp [hlt]
    obtain ⟨h1, h2⟩ := flat_at h.seven hck
    refine ⟨g, 0, css[k], rfl, fun j u hu => ?_, (h.st k _ s hck hs).now⟩
    have hB : BlkR w g 26 cur.toList := ⟨(0, 0), by simpa using hg⟩
    refine hB.cell _ _ ?_
    have e : (cur.toList.take (ss.length * 7))[k * 7 + j]? = some u := by
      rw [htake, h1, List.append_assoc, List.getElem?_append_right (by omega), h2, show k * 7 + j - k * 7 = j by omega, List.getElem?_append_left (List.getElem?_eq_some_iff.1 hu).1]
      exact hu
    rw [Nat.zero_add]
    rw [List.getElem?_take] at e
    split at e
    · exact e
    · cases e
end GrowSu

theorem wpList_append_gs {w : World} {ops : Array Oper} {rest : List Oper} {o : Oper} {a : Act} {Q : Exit → Act → World → Prop} (hgd : o.guard = none) (x y : Operand)
    (ho : o.op = .call { callee := .builtin .append, args := #[x, y], argTypes := #[34, 34] }) {base : Nat} {v : Value} {css : List (Array Value)} {ss : List Su} (h : GrowSu w base v css ss) (hb : base ≤ w.heap.size)
    {c : Array Value} {s : Su} (hc : SuV w (.agg c) s) {b : Nat} (hf : FreshV b (.agg c)) (hbv : ∀ g, v.ownBlock = some g → g < b) (hn : ss.length < 1048577)
    (hx : a.eval x = v) (hy : a.eval y = .slice (some ⟨w.heap.size, 0, none⟩) 1 1)
    (hk : ∀ v' w', GrowSu w' base v' (css ++ [c]) (ss ++ [s]) → w.heap.size ≤ w'.heap.size → (∀ w0, Keep [] w0 w → w0.heap.size ≤ base → Keep [] w0 w') → wpList Tryd.prog ops Q rest (a.put o.dst v') w') :
    wpList Tryd.prog ops Q (o :: rest) a (w.alloc (.cells c 26)) :=
  wpList_plain hgd fun _ hK => by
    obtain ⟨v', w', hr, h2, h3, h4⟩ := h.append hb hc hf hbv hn o.type
    unfold Oper.wp execOp
    simp only [ho, resolve, invoke, builtin, Sem.run_bind, Sem.run_pure, Result.andThen_ok, List.map_toArray, List.map_cons, List.map_nil, hx, hy, hr]
    exact hK _ _ (hk v' w' h2 h3 h4)
end Go.Proofs.YtomhlmfekmnajaaDoor
