/- A slice of summaries that the call owns; slices.Clone and slices.Delete of such slices: the walks. -/
import Derived.Test.YtomhlmfekmnajaaDoorSound
import Derived.Test.YtomhlmfekmnajaaDoorOpens
import Derived.Deep.RegionLaw
import Derived.Lib.SliceRun
import Derived.WalkSpells
namespace Go.Proofs.YtomhlmfekmnajaaDoor
open Go.RowKit
set_option linter.unusedVariables false
set_option linter.unusedSimpArgs false

def flat (css : List (Array Value)) : List Value := css.flatMap Array.toList
theorem flat_length : ∀ {css : List (Array Value)}, (∀ c ∈ css, c.size = 7) → (flat css).length = css.length * 7
  | [], _ => rfl
  | c :: r, h => by
    have h1 := flat_length (css := r) (fun x hx => h x (by simp [hx]))
    have h2 := h c (by simp)
    simp only [flat, List.flatMap_cons, List.length_append, Array.length_toList, List.length_cons] at *
    omega
theorem flat_append (a b : List (Array Value)) : flat (a ++ b) = flat a ++ flat b := by simp [flat]
theorem flat_at {css : List (Array Value)} (h : ∀ c ∈ css, c.size = 7) {k : Nat} {c : Array Value} (hk : css[k]? = some c) :
    flat css = flat (css.take k) ++ c.toList ++ flat (css.drop (k + 1)) ∧ (flat (css.take k)).length = k * 7 := by
  obtain ⟨hlt, rfl⟩ := List.getElem?_eq_some_iff.1 hk
  constructor
  · have e : flat css = flat (css.take k) ++ flat (css.drop k) := by rw [← flat_append, List.take_append_drop]
    have e2 : flat (css.drop k) = css[k].toList ++ flat (css.drop (k + 1)) := by rw [List.drop_eq_getElem_cons hlt]; rfl
    rw [e, e2, List.append_assoc]
  · rw [flat_length (fun x hx => h x (List.mem_of_mem_take hx)), List.length_take, Nat.min_eq_left (by omega)]
theorem flat_split {css : List (Array Value)} (h : ∀ c ∈ css, c.size = 7) {k : Nat} (hk : k ≤ css.length) : flat css = flat (css.take k) ++ flat (css.drop k) ∧ (flat (css.take k)).length = k * 7 := by
  constructor
  · rw [← flat_append, List.take_append_drop]
  · rw [flat_length (fun x hx => h x (List.mem_of_mem_take hx)), List.length_take, Nat.min_eq_left hk]

/-- The cells c read as s as long as nothing but block g turns. -/
def Stable (w : World) (g : Nat) (c : Array Value) (s : Su) : Prop := ∀ w', Keep [g] w w' → SuV w' (.agg c) s
theorem Stable.now {w : World} {g : Nat} {c : Array Value} {s : Su} (h : Stable w g c s) : SuV w (.agg c) s := h w (Keep.refl _ _)
theorem Stable.keep {w w' : World} {g : Nat} {c : Array Value} {s : Su} (h : Stable w g c s) (k : Keep [g] w w') : Stable w' g c s := fun W K => h W (k.trans K)
theorem Stable.keep0 {w w' : World} {g : Nat} {c : Array Value} {s : Su} (h : Stable w g c s) (k : Keep [] w w') : Stable w' g c s := h.keep (k.mono (by simp))
theorem Stable.of_fresh {w : World} {g base : Nat} {c : Array Value} {s : Su} (h : SuV w (.agg c) s) (hf : FreshV base (.agg c)) (hg : g < base) : Stable w g c s := fun W K => h.keepNe K hf hg
theorem Stable.of_old {w0 w : World} {g : Nat} {c : Array Value} {s : Su} (h : SuV w0 (.agg c) s) (k : Keep [] w0 w) (hg : w0.heap.size ≤ g) : Stable w g c s := fun W K => h.keep (k.fresh K (by simpa using hg))

structure OwnSu (w : World) (g cap : Nat) (css : List (Array Value)) (ss : List Su) (rest : List Value) : Prop where
  blk : Blk w g 26 (flat css ++ rest)
  len : css.length = ss.length
  le : ss.length ≤ cap
  capm : cap ≤ maxLen
  size : (flat css ++ rest).length = cap * 7
  at_ : ∀ (k : Nat) (c : Array Value) (s : Su), css[k]? = some c → ss[k]? = some s → Stable w g c s
namespace OwnSu
variable {w w' : World} {g cap : Nat} {css : List (Array Value)} {ss : List Su} {rest : List Value}
theorem su (h : OwnSu w g cap css ss rest) {c : Array Value} (hc : c ∈ css) : ∃ s, SuV w (.agg c) s := by
  obtain ⟨k, hk⟩ := List.getElem?_of_mem hc
  have hlt : k < ss.length := by rw [← h.len]; exact (List.getElem?_eq_some_iff.1 hk).1
  exact ⟨ss[k], (h.at_ k c ss[k] hk (by simp [hlt])).now⟩
theorem seven (h : OwnSu w g cap css ss rest) : ∀ c ∈ css, c.size = 7 := fun c hc => by obtain ⟨s, hs⟩ := h.su hc; exact hs.size7
theorem ones (h : OwnSu w g cap css ss rest) : ∀ u ∈ flat css, u.oneCell' = true := by
  intro u hu
  obtain ⟨c, hc, hcu⟩ := List.mem_flatMap.1 hu
  obtain ⟨s, hs⟩ := h.su hc
  exact Array.all_eq_true_iff_forall_mem.1 hs.one u (by simpa using hcu)
theorem keep0 (h : OwnSu w g cap css ss rest) (k : Keep [] w w') : OwnSu w' g cap css ss rest :=
  ⟨k.blk h.blk (by simp), h.len, h.le, h.capm, h.size, fun j c s hc hs => (h.at_ j c s hc hs).keep0 k⟩
/-- element k -/
theorem range (h : OwnSu w g cap css ss rest) {k : Nat} {c : Array Value} (hk : css[k]? = some c) : w.rangeAt g (k * 7) c.toList := by
  obtain ⟨h1, h2⟩ := flat_at h.seven hk
  intro j v hv
  refine h.blk.cell _ _ ?_
  rw [h1, List.append_assoc, List.append_assoc, List.getElem?_append_right (by omega), h2, show k * 7 + j - k * 7 = j by omega]
  rw [List.getElem?_append_left (by exact (List.getElem?_eq_some_iff.1 hv).1)]
  exact hv
theorem at' (h : OwnSu w g cap css ss rest) {k : Nat} {s : Su} (hs : ss[k]? = some s) : ∃ c, css[k]? = some c ∧ SuV w (.agg c) s := by
  have hlt : k < css.length := by rw [h.len]; exact (List.getElem?_eq_some_iff.1 hs).1
  exact ⟨css[k], by simp [hlt], (h.at_ k _ s (by simp [hlt]) hs).now⟩
theorem there (h : OwnSu w g cap css ss rest) {k : Nat} (hk : k < ss.length) : w.there g (k * 7) 7 := fun j hj => by
  have hl := flat_length h.seven
  have hlt : k * 7 + j < (flat css ++ rest).length := by rw [h.size]; have := h.le; omega
  rw [h.blk.cell (k * 7 + j) _ (List.getElem?_eq_getElem hlt)]
  exact ⟨rfl, h.blk.froz _⟩
theorem idx (h : OwnSu w g cap css ss rest) (k : Nat) (hk : k < ss.length) (W : World) : (Instr.indexAt 34 (.slice (some ⟨g, 0, none⟩) ss.length cap) (.int .i64 (k : Int))).run Tryd.prog W = .ok (.pointer (some ⟨g, k * 7, none⟩)) W := by
  have hT : Tryd.prog.underlying 34 = some (.slice 26) := Tryd.underlying34
  have he : Tryd.prog.elem 34 = 26 := by simp [Program.elem, hT]
  cases hi : Tryd.prog.info? 26 with
  | none => have := Tryd.size26; rw [hi] at this; cases this
  | some i0 =>
    have hsz : i0.size = 7 := by have := Tryd.size26; rw [hi] at this; simpa using this
    rw [run_indexAt_slice W 34 ⟨g, 0, none⟩ ss.length cap .i64 k (by rw [he]; exact hT), he]
    simp [sizeOf, typeInfo, hi, hsz, Result.andThen, hk, addr_add]

/-- l[k] = x -/
theorem set (h : OwnSu w g cap css ss rest) {k : Nat} (hk : k < ss.length) {c : Array Value} {s : Su} (hc : Stable w g c s) :
    OwnSu (w.setCells g (k * 7) c.toList) g cap (css.set k c) (ss.set k s) rest ∧ Keep [g] w (w.setCells g (k * 7) c.toList) := by
  have hK := keep_setCells (b := g) c.toList (k * 7) w
  have hck : css[k]? = some (css[k]'(by rw [h.len]; exact hk)) := by simp [show k < css.length by rw [h.len]; exact hk]
  obtain ⟨h1, h2⟩ := flat_at h.seven hck
  have h7 : c.size = 7 := hc.now.size7
  have h7k := h.seven _ (List.mem_of_getElem? hck)
  have hlen : k < css.length := by rw [h.len]; exact hk
  have hfl : flat (css.set k c) = flat (css.take k) ++ c.toList ++ flat (css.drop (k + 1)) := by
    rw [List.set_eq_take_append_cons_drop, if_pos hlen]
    simp [flat]
  refine ⟨⟨?_, by simp [h.len], by simpa using h.le, h.capm, ?_, fun j d t hd ht => ?_⟩, hK⟩
  · have hb := blk_setCells c.toList (k * 7) w _ h.blk (by have := h.le; have := h.size; simp only [Array.length_toList, h7, this]; omega)
    rw [h1] at hb
    have e1 : (flat (css.take k) ++ (css[k]'hlen).toList ++ flat (css.drop (k + 1)) ++ rest).take (k * 7) = flat (css.take k) := by
      rw [List.append_assoc, List.append_assoc, ← h2, List.take_left']
      rfl
    have e2 : (flat (css.take k) ++ (css[k]'hlen).toList ++ flat (css.drop (k + 1)) ++ rest).drop (k * 7 + c.toList.length) = flat (css.drop (k + 1)) ++ rest := by
      rw [List.append_assoc, List.drop_left']
      simp [h2, h7, h7k]
    rw [e1, e2] at hb
    rw [hfl]
    simpa [List.append_assoc] using hb
  · have := h.size
    rw [h1] at this
    rw [hfl]
    simp only [List.length_append, Array.length_toList, h7, h7k] at this ⊢
    omega
  · by_cases hjk : j = k
    · subst hjk
      simp only [List.getElem?_set_self hlen, Option.some.injEq] at hd
      simp only [List.getElem?_set_self hk, Option.some.injEq] at ht
      subst hd; subst ht
      exact hc.keep hK
    · rw [List.getElem?_set_ne (Ne.symm hjk)] at hd ht
      exact (h.at_ j d t hd ht).keep hK
end OwnSu

theorem rangeAt_append {w : World} {g o : Nat} {xs ys : List Value} (h1 : w.rangeAt g o xs) (h2 : w.rangeAt g (o + xs.length) ys) : w.rangeAt g o (xs ++ ys) := by
  intro j v hv
  rcases Nat.lt_or_ge j xs.length with h | h
  · rw [List.getElem?_append_left h] at hv
    exact h1 j v hv
  · rw [List.getElem?_append_right h] at hv
    have := h2 _ v hv
    rwa [show o + xs.length + (j - xs.length) = o + j by omega] at this
theorem range_flat {w : World} {g : Nat} : ∀ {css : List (Array Value)} {o : Nat}, (∀ c ∈ css, c.size = 7) → (∀ (k : Nat) c, css[k]? = some c → w.rangeAt g (o + k * 7) c.toList) → w.rangeAt g o (flat css)
  | [], o, _, _ => fun j v hv => by simp [flat] at hv
  | c :: r, o, h7, h => by
    have h0 := h 0 c rfl
    rw [Nat.zero_mul, Nat.add_zero] at h0
    refine rangeAt_append h0 (range_flat (fun x hx => h7 x (by simp [hx])) fun k d hd => ?_)
    have := h (k + 1) d (by simpa using hd)
    rwa [Array.length_toList, h7 c (by simp), show o + 7 + k * 7 = o + (k + 1) * 7 by omega]

theorem SuRow.flat {w : World} {v : Value} {ss : List Su} (h : SuRow w v ss) (hne : 0 < ss.length) :
    ∃ g off c css, v = .slice (some ⟨g, off, none⟩) ss.length c ∧ css.length = ss.length ∧ (∀ (k : Nat) c s, css[k]? = some c → ss[k]? = some s → SuV w (.agg c) s) ∧ w.rangeAt g off (flat css) ∧ ∀ c ∈ css, c.size = 7 := by
  obtain ⟨A, c, rfl, h1, h2, h3, h4⟩ := h
  obtain ⟨g, off, _, rfl, _, _⟩ := h4 0 ss[0] (by simp [hne])
  have hall : ∀ i, i < ss.length → ∃ cs : Array Value, w.rangeAt g (off + i * 7) cs.toList ∧ ∀ s, ss[i]? = some s → SuV w (.agg cs) s := by
    intro i hi
    obtain ⟨g', off', cs, e, hr, hs⟩ := h4 i ss[i] (by simp [hi])
    injection e with e
    injection e with e1 e2
    subst e1; subst e2
    exact ⟨cs, hr, fun s hss => by simp [hi] at hss; rw [← hss]; exact hs⟩
  obtain ⟨css, hl, hc⟩ := list_of ss.length hall
  have h7 : ∀ c ∈ css, c.size = 7 := fun c hcm => by
    obtain ⟨k, hk⟩ := List.getElem?_of_mem hcm
    have hlt : k < ss.length := by rw [← hl]; exact (List.getElem?_eq_some_iff.1 hk).1
    exact ((hc k c hk).2 ss[k] (by simp [hlt])).size7
  exact ⟨g, off, c, css, rfl, hl, fun k c s hk hs => (hc k c hk).2 s hs, range_flat h7 fun k c hk => (hc k c hk).1, h7⟩

theorem Tryd.info26 : (Tryd.prog.info? 26).map (fun i => (i.zero, i.size, i.bytes)) = some (some (.agg zcells), 7, 104) := by kernel_rfl

def ClonePost (ss : List Su) (w : World) (e : Ending) (w' : World) : Prop := ∃ g cap css rest, e = .returned (.slice (some ⟨g, 0, none⟩) ss.length cap) ∧ OwnSu w' g cap css ss rest ∧ Keep [] w w' ∧ w.heap.size ≤ g

set_option maxHeartbeats 1000000 in
theorem clone_any (v : Value) (ss : List Su) (w : World) (hR : SuRow w v ss) (hne : 0 < ss.length) (h8 : ss.length ≤ 1000000) : Calls Tryd.prog 57 #[v] w (ClonePost ss w) := by
  obtain ⟨g0, off, cp, css, rfl, hl, hsu, hrg, h7⟩ := hR.flat hne
  have HSU := Lib.hid hsu
  have HRG := Lib.hid hrg
  have H7 := Lib.hid h7
  have HL := Lib.hid hl
  obtain ⟨i26, hi26, hz0, hz1, hz2⟩ := info_parts Tryd.info26
  have hlen : (flat css).length = ss.length * 7 := by rw [flat_length h7, hl]
  have HLEN := Lib.hid hlen
  have ho : ∀ u ∈ flat css, u.oneCell' = true := by
    intro u hu
    obtain ⟨c, hc, hcu⟩ := List.mem_flatMap.1 hu
    obtain ⟨k, hk⟩ := List.getElem?_of_mem hc
    have hlt : k < ss.length := by rw [← hl]; exact (List.getElem?_eq_some_iff.1 hk).1
    exact Array.all_eq_true_iff_forall_mem.1 (hsu k c ss[k] hk (by simp [hlt])).one u (by simpa using hcu)
  have HO := Lib.hid ho
  clear hR hsu hrg h7 hl hlen ho
  have q34 : ∀ (w : World) (a : Option Addr) (n c n' c' : Nat), (binOp .eql 34 (.slice a n c) (.slice none n' c')).run Tryd.prog w = .ok (.bool a.isNone) w := fun w a n c n' c' => Lib.run_eql_slice_nil w _ _ a n c n' c' Tryd.underlying34
  have hown := World.ownsRow_lit (base := w.heap.size) (e := 26) (size := 7) w #[] 0 (Nat.le_refl _) (by decide) rfl
  have HOWN := Lib.hid hown
  clear hown
  go_enter Tryd.func57, Tryd.ntmps57
  go_wp2_with (at_builtin; refine wpList_append_own _ rfl (.tmp 5) (.tmp 6) 34 rfl w.heap.size 26 i26 (.agg zcells) 7 104 Tryd.underlying34 hi26 hz0 hz1 hz2 rfl (by decide) _ 0 [] rfl HOWN.out ⟨g0, off, none⟩ ss.length cp (flat css) rfl HLEN.out (fun j u hj => by rw [addr_add]; exact ((Keep.refl [] w).alloc _).cell (HRG.out j u hj) (by simp)) HO.out (by unfold maxLen; omega) (by omega) (by simp) ?_; intro v' w' hown' hgrow _; have HOW := Lib.hid hown'; have HG := Lib.hid hgrow; clear hown' hgrow q34)
  go_ret
  have hK : Keep [] w _ := ((Keep.refl [] w).alloc (.cells #[] 26)).grown HG.out (by intro b hb; right; have := Option.some.inj (show some w.heap.size = some b from hb); omega)
  rcases HOW.out.2 with ⟨_, h0⟩ | ⟨g, cap, cur, rfl, hb, hg, hnc, hcm, hcs, htake⟩
  · omega
  · rw [Nat.zero_add] at htake hnc
    have hcur : flat css ++ cur.toList.drop (ss.length * 7) = cur.toList := by
      have : flat css = cur.toList.take (ss.length * 7) := by rw [htake]; rfl
      rw [this, List.take_append_drop]
    refine ⟨g, cap, css, cur.toList.drop (ss.length * 7), by rw [Nat.zero_add]; rfl, ⟨?_, HL.out, hnc, hcm, ?_, fun k c s hc hs => ?_⟩, hK, hb⟩
    · rw [hcur]; simpa [Blk] using hg
    · rw [hcur]; simpa using hcs
    · exact Stable.of_old (HSU.out k c s hc hs) hK hb

theorem zero26 (w : World) : (zeroValue 26).run Tryd.prog w = .ok (.agg zcells) w := by kernel_rfl
theorem run_clear_su (w : World) (ty : TypeId) (g o c : Nat) (h : w.there g o 7) : (Builtin.clear_ #[34] ty #[.slice (some ⟨g, o, none⟩) 1 c]).run Tryd.prog w = .ok (.tuple #[]) (w.setCells g o zcells.toList) := by
  have hzc : (Builtin.zeroCells (Value.agg zcells).cells 1).toList = zcells.toList := by kernel_rfl
  have hst := run_storeCells_cells (P := Tryd.prog) g o zcells.toList 0 w (fun j hj => by simpa using (h j hj).1) (fun j hj => by simpa using (h j hj).2) (by simp [Value.oneCell'])
  simp only [Nat.add_zero] at hst
  simp [Builtin.clear_, run_underlying Tryd.underlying34, zero26, hzc, hst]

theorem OwnSu.erase {w : World} {g cap : Nat} {css : List (Array Value)} {ss : List Su} {rest : List Value} (h : OwnSu w g cap css ss rest) {i : Nat} (hi : i < ss.length) {w' w2 : World} (hd : w' = w.drew)
    (hw2 : w2 = w'.setCells g (i * 7) (flat (css.drop (i + 1)))) :
    Keep [g] w w2 ∧ w2.there g ((ss.length - 1) * 7) 7 ∧ ∃ rest', OwnSu (w2.setCells g ((ss.length - 1) * 7) zcells.toList) g cap (css.eraseIdx i) (ss.eraseIdx i) rest' ∧ Keep [g] w (w2.setCells g ((ss.length - 1) * 7) zcells.toList) := by
  have hic : i < css.length := by rw [h.len]; exact hi
  obtain ⟨h1, h2⟩ := flat_split h.seven (k := i) (by omega)
  have h3 : (flat (css.drop (i + 1))).length = (ss.length - (i + 1)) * 7 := by rw [flat_length (fun x hx => h.seven x (List.mem_of_mem_drop hx)), List.length_drop, h.len]
  have h4 : (flat css).length = ss.length * 7 := by rw [flat_length h.seven, h.len]
  have hKd : Keep [g] w w' := by rw [hd]; exact (Keep.refl _ _).drew
  have hK2 : Keep [g] w w2 := by rw [hw2]; exact hKd.trans (keep_setCells _ _ _)
  have hB' : Blk w' g 26 (flat css ++ rest) := by rw [hd]; exact h.blk
  have hsz := h.size
  have hle := h.le
  have hfl : flat (css.eraseIdx i) = flat (css.take i) ++ flat (css.drop (i + 1)) := by
    rw [List.eraseIdx_eq_take_drop_succ, flat_append]
  have hfle : (flat (css.eraseIdx i)).length = (ss.length - 1) * 7 := by rw [hfl, List.length_append, h2, h3]; omega
  have hb := blk_setCells (flat (css.drop (i + 1))) (i * 7) w' _ hB' (by rw [h3, hsz]; omega)
  rw [← hw2] at hb
  have e1 : (flat css ++ rest).take (i * 7) = flat (css.take i) := by
    rw [h1, List.append_assoc, ← h2, List.take_left']
    rfl
  obtain ⟨r, hr⟩ : ∃ r, r = (flat css ++ rest).drop (i * 7 + (flat (css.drop (i + 1))).length) := ⟨_, rfl⟩
  rw [e1, ← hr, ← hfl] at hb
  have hrl : r.length = cap * 7 - (ss.length - 1) * 7 := by rw [hr, List.length_drop, hsz, h3]; omega
  have ht : w2.there g ((ss.length - 1) * 7) 7 := fun j hj => by
    have hlt : (ss.length - 1) * 7 + j < (flat (css.eraseIdx i) ++ r).length := by rw [List.length_append, hfle, hrl]; omega
    rw [hb.cell _ _ (List.getElem?_eq_getElem hlt)]
    exact ⟨rfl, hb.froz _⟩
  have hb2 := blk_setCells zcells.toList ((ss.length - 1) * 7) w2 _ hb (by rw [List.length_append, hfle, hrl]; simp; omega)
  have e2 : (flat (css.eraseIdx i) ++ r).take ((ss.length - 1) * 7) = flat (css.eraseIdx i) := by rw [← hfle, List.take_left']; rfl
  rw [e2, List.append_assoc] at hb2
  have hK3 : Keep [g] w (w2.setCells g ((ss.length - 1) * 7) zcells.toList) := hK2.trans (keep_setCells _ _ _)
  refine ⟨hK2, ht, _, ⟨hb2, ?_, ?_, h.capm, ?_, fun k c s hc hs => ?_⟩, hK3⟩
  · rw [List.length_eraseIdx, List.length_eraseIdx, if_pos hic, if_pos hi, h.len]
  · rw [List.length_eraseIdx, if_pos hi]; omega
  · simp only [List.length_append, List.length_drop, hfle, hrl]; simp; omega
  · rw [List.getElem?_eraseIdx] at hc hs
    split at hc
    · rename_i hlt
      rw [if_pos hlt] at hs
      exact (h.at_ k c s hc hs).keep hK3
    · rename_i hlt
      rw [if_neg hlt] at hs
      exact (h.at_ (k + 1) c s hc hs).keep hK3

def DeletePost (g cap i : Nat) (css : List (Array Value)) (ss : List Su) (w : World) (e : Ending) (w' : World) : Prop :=
  ∃ rest, e = .returned (.slice (some ⟨g, 0, none⟩) (ss.length - 1) cap) ∧ OwnSu w' g cap (css.eraseIdx i) (ss.eraseIdx i) rest ∧ Keep [g] w w'

set_option maxHeartbeats 1000000 in
set_option maxRecDepth 100000 in
theorem delete_any (g cap i : Nat) (css : List (Array Value)) (ss : List Su) (rest : List Value) (w : World) (h : OwnSu w g cap css ss rest) (hi : i < ss.length) :
    Calls Tryd.prog 58 #[.slice (some ⟨g, 0, none⟩) ss.length cap, .int .i64 i, .int .i64 ((i : Int) + 1)] w (DeletePost g cap i css ss w) := by
  obtain ⟨n, hn⟩ : ∃ n, n = ss.length := ⟨_, rfl⟩
  have hle := h.le
  have hcm := h.capm
  unfold maxLen at hcm
  obtain ⟨i26, hi26, hz0, hz1, hz2⟩ := info_parts Tryd.info26
  obtain ⟨W2, hW2⟩ : ∃ W2, W2 = w.drew.setCells g (0 + i * 7) (flat (css.drop (i + 1))) := ⟨_, rfl⟩
  obtain ⟨hK2, ht, rest', hO, hK3⟩ := h.erase (w2 := W2) hi rfl (by rw [hW2, Nat.zero_add])
  have hcl : ∀ ty, (Builtin.clear_ #[34] ty #[.slice (some ⟨g, (ss.length - 1) * 7, none⟩) (ss.length - (ss.length - 1)) (cap - (ss.length - 1))]).run Tryd.prog W2 = .ok (.tuple #[]) (W2.setCells g ((ss.length - 1) * 7) zcells.toList) := fun ty => by
    rw [show ss.length - (ss.length - 1) = 1 by omega]
    exact run_clear_su W2 ty g ((ss.length - 1) * 7) (cap - (ss.length - 1)) ht
  have s1 : (flat (css.drop (i + 1))).length = (ss.length - (i + 1)) * 7 := by rw [flat_length (fun x hx => h.seven x (List.mem_of_mem_drop hx)), List.length_drop, h.len]
  have s2 : ∀ u ∈ flat (css.drop (i + 1)), u.oneCell' = true := fun u hu => h.ones u (by
    rw [(flat_split h.seven (k := i + 1) (by rw [h.len]; omega)).1]
    exact List.mem_append_right _ hu)
  obtain ⟨A, hA, hsrc⟩ : ∃ A : Addr, (if cap = i + 1 then some (⟨g, 0, none⟩ : Addr) else some ⟨g, (i + 1) * 7, none⟩) = some A ∧ ∀ t u, (flat (css.drop (i + 1)))[t]? = some u → w.drew.cell? (A.add t) = some u := by
    by_cases hc : cap = i + 1
    · refine ⟨⟨g, 0, none⟩, by simp [hc], fun t u hu => ?_⟩
      have : (flat (css.drop (i + 1))).length = 0 := by rw [s1]; omega
      rw [List.length_eq_zero_iff.1 this] at hu
      simp at hu
    · refine ⟨⟨g, (i + 1) * 7, none⟩, by simp [hc], fun t u hu => ?_⟩
      rw [addr_add]
      obtain ⟨h1, h2⟩ := flat_split h.seven (k := i + 1) (by rw [h.len]; omega)
      refine h.blk.cell _ _ ?_
      rw [h1, List.append_assoc, List.getElem?_append_right (by omega), h2, show (i + 1) * 7 + t - (i + 1) * 7 = t by omega, List.getElem?_append_left (List.getElem?_eq_some_iff.1 hu).1]
      exact hu
  have s3 : ∀ t, t < (flat (css.drop (i + 1))).length → (w.drew.cell? ⟨g, 0 + i * 7 + t, none⟩).isSome = true ∧ w.drew.frozen? ⟨g, 0 + i * 7 + t, none⟩ = false := by
    intro t hh
    rw [s1] at hh
    have hlt : 0 + i * 7 + t < (flat css ++ rest).length := by rw [h.size]; omega
    exact ⟨by show (w.cell? _).isSome = true; rw [h.blk.cell _ _ (List.getElem?_eq_getElem hlt)]; rfl, h.blk.froz _⟩
  obtain ⟨news, hnews⟩ : ∃ news, news = flat (css.drop (i + 1)) := ⟨_, rfl⟩
  rw [← hnews] at s1 s2 s3 hsrc hW2
  have S1 := Lib.hid s1
  have S2 := Lib.hid s2
  have S3 := Lib.hid s3
  have HSRC := Lib.hid hsrc
  have HO := Lib.hid hO
  have HK3 := Lib.hid hK3
  have HW2 := Lib.hid hW2
  rw [← hn] at hi hle hcl S1 HO HK3 ⊢
  have HN := Lib.hid hn
  have hne : ((i : Int) == (i : Int) + 1) = false := by simp; omega
  clear hO hK3 hW2 hsrc s1 s2 s3 hnews hn h ht hK2
  go_enter Tryd.func58, Tryd.ntmps58
  go_wp2_with fail
  have hic : i ≤ cap := by omega
  have hjn : i + 1 ≤ n := by omega
  have hjn' : (i : Int) + 1 ≤ (n : Int) := by omega
  have hjc : i + 1 ≤ cap := by omega
  have hj0 : 0 ≤ (i : Int) + 1 := by omega
  go_region_law (refine step_append_room rfl (.tmp 22) (.tmp 25) 34 rfl 26 i26 7 Tryd.underlying34 hi26 hz1 g 0 i cap (by simp [Act.eval, Act.put]) A (n - (i + 1)) (cap - (i + 1)) news (by simp [Act.eval, Act.put]) S1.out HSRC.out S2.out (by omega) S3.out ?_; rw [← HW2.out])
  have e1 : i + (n - (i + 1)) = n - 1 := by omega
  rw [e1]
  clear e1 hic hjn hjn' hjc hj0 hA
  have hn1 : 0 ≤ (n : Int) - 1 := by omega
  go_wp2_with fail
  go_ret
  exact ⟨rest', by rw [HN.out]; rfl, HO.out, HK3.out⟩
end Go.Proofs.YtomhlmfekmnajaaDoor
