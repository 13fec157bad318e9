/- A slice of which the cells up to its length are known: cut in front, cut behind, appended to what the call owns. Over any program. -/
import Derived.Test.YtomhlmfekmnajaaDoorHeap
import Derived.Laws.AppendOwnNone
import Derived.WalkSpells
namespace Go.Proofs.YtomhlmfekmnajaaDoor
open Go.RowKit

/-- The slice v has n elements of type t (sz cells each); its cells are xs. -/
def Row (w : World) (v : Value) (t : TypeId) (sz n : Nat) (xs : List Value) : Prop :=
  xs.length = n * sz ∧ ∃ A c, v = .slice A n c ∧ n ≤ c ∧ c ≤ maxLen ∧
    ((A = none ∧ c = 0) ∨ ∃ g off cs, A = some ⟨g, off, none⟩ ∧ BlkR w g t cs ∧ ∀ j u, xs[j]? = some u → cs[off + j]? = some u)

theorem addr_add (g off k : Nat) : (⟨g, off, none⟩ : Addr).add k = ⟨g, off + k, none⟩ := by
  simp only [Addr.add]
  split
  · rename_i h; subst h; rfl
  · rfl

namespace Row
variable {w w' : World} {v : Value} {t : TypeId} {sz n : Nat} {xs : List Value}

theorem nil (w : World) (t : TypeId) (sz : Nat) : Row w (.slice none 0 0) t sz 0 [] := ⟨by simp, none, 0, rfl, Nat.le_refl _, Nat.zero_le _, .inl ⟨rfl, rfl⟩⟩

theorem of_own {base : Nat} (h : w.ownsRow base t sz v n xs) : Row w v t sz n xs := by
  refine ⟨h.1, ?_⟩
  rcases h.2 with ⟨hv, hn⟩ | ⟨g, cap, cur, hv, _, hg, hnc, hcm, _, htake⟩
  · exact ⟨none, 0, by rw [hv, hn], by omega, Nat.zero_le _, .inl ⟨rfl, rfl⟩⟩
  · refine ⟨_, cap, hv, hnc, hcm, .inr ⟨g, 0, cur.toList, rfl, ⟨(0, 0), by simpa using hg⟩, fun j u hj => ?_⟩⟩
    have hlt : j < xs.length := (List.getElem?_eq_some_iff.1 hj).1
    have h1 := hj
    rw [← htake, List.getElem?_take_of_lt (by rw [← h.1]; exact hlt)] at h1
    rw [Nat.zero_add]; exact h1

theorem keep {ex : List Nat} (h : Row w v t sz n xs) (k : Keep ex w w') (he : ∀ b ∈ ex, ∀ cs, ¬ BlkR w b t cs) : Row w' v t sz n xs := by
  obtain ⟨h0, A, c, hv, hn, hc, h1⟩ := h
  refine ⟨h0, A, c, hv, hn, hc, ?_⟩
  rcases h1 with h1 | ⟨g, off, cs, hA, hb, hx⟩
  · exact .inl h1
  · exact .inr ⟨g, off, cs, hA, k.blkR hb (fun hm => he g hm cs hb), hx⟩

theorem keepAt {g off c : Nat} {ex : List Nat} (h : Row w (.slice (some ⟨g, off, none⟩) n c) t sz n xs) (k : Keep ex w w') (hg : g ∉ ex) : Row w' (.slice (some ⟨g, off, none⟩) n c) t sz n xs := by
  obtain ⟨h0, A, c', hv, hn, hc, h1⟩ := h
  refine ⟨h0, A, c', hv, hn, hc, ?_⟩
  injection hv with hA _ _
  rcases h1 with h1 | ⟨g', off', cs, hA', hb, hx⟩
  · exact .inl h1
  · refine .inr ⟨g', off', cs, hA', k.blkR hb ?_, hx⟩
    rw [← hA] at hA'
    injection hA' with hA'
    injection hA' with e1
    rw [← e1]; exact hg

theorem cast (h : Row w v t sz n xs) {m : Nat} (e : n = m) : Row w v t sz m xs := e ▸ h

theorem keep0 (h : Row w v t sz n xs) (k : Keep [] w w') : Row w' v t sz n xs := h.keep k (by simp)

/-- Its shape. -/
theorem slice (h : Row w v t sz n xs) : ∃ A c, v = .slice A n c ∧ n ≤ c ∧ c ≤ maxLen := by
  obtain ⟨_, A, c, hv, hn, hc, _⟩ := h
  exact ⟨A, c, hv, hn, hc⟩

/-- A cell. -/
theorem at_ {A : Option Addr} {c : Nat} (h : Row w (.slice A n c) t sz n xs) (j : Nat) (u : Value) (hu : xs[j]? = some u) : ∃ g off, A = some ⟨g, off, none⟩ ∧ w.cell? ⟨g, off + j, none⟩ = some u := by
  obtain ⟨h0, A', c', hv, hn, _, h1⟩ := h
  injection hv with hA _ hc
  subst hA; subst hc
  have hlt : j < xs.length := (List.getElem?_eq_some_iff.1 hu).1
  rcases h1 with ⟨_, h2⟩ | ⟨g, off, cs, hA, hb, hx⟩
  · have : n = 0 := by omega
    subst this
    simp at h0; subst h0; simp at hlt
  · exact ⟨g, off, hA, hb.cell _ _ (hx j u hu)⟩

section
variable {P : Program} {T : TypeId} {i0 : TypeInfo}

/-- v[:i] -/
theorem to_ (h : Row w v t sz n xs) (hT : P.underlying T = some (.slice t)) (hi0 : P.info? t = some i0) (hsz : i0.size = sz) (i : Nat) (hi : i ≤ n) :
    ∃ v1, (∀ W : World, (Instr.slice T v none (some (.int .i64 (i : Int))) none).run P W = .ok v1 W) ∧ Row w v1 t sz i (xs.take (i * sz)) := by
  obtain ⟨h0, A, c, rfl, hn, hc, h1⟩ := h
  have he : P.elem T = t := by simp [Program.elem, hT]
  refine ⟨sliced A 0 i c sz, fun W => ?_, ?_⟩
  · rw [run_slice_h (P := P) W T A n c (by rw [he]; exact hT) .i64 i (by omega) (by omega), he]
    simp [sizeOf, typeInfo, hi0, hsz, Result.andThen]
  · refine ⟨by simp [h0, Nat.min_eq_left hi], ?_⟩
    have hs : sliced A 0 i c sz = .slice A i c := by
      unfold sliced
      rcases h1 with ⟨rfl, rfl⟩ | ⟨g, off, cs, rfl, _⟩
      · simp
      · simp [addr_add]
    refine ⟨A, c, hs, by omega, hc, ?_⟩
    rcases h1 with h1 | ⟨g, off, cs, hA, hb, hx⟩
    · exact .inl h1
    · refine .inr ⟨g, off, cs, hA, hb, fun j u hj => hx j u ?_⟩
      rw [List.getElem?_take] at hj
      split at hj
      · exact hj
      · cases hj

/-- len(v) -/
theorem len_ (h : Row w v t sz n xs) (hT : P.underlying T = some (.slice t)) (ty : TypeId) (W : World) : (Builtin.len_ #[T] ty #[v]).run P W = .ok (.int .i64 (n : Int)) W := by
  obtain ⟨h0, A, c, rfl, hn, hc, h1⟩ := h
  have he : P.elem T = t := by simp [Program.elem, hT]
  rw [run_len_slice W T ty A n c (by rw [he]; exact hT)]
  rfl

/-- &v[i], and the cells there -/
theorem idx (h : Row w v t sz n xs) (hT : P.underlying T = some (.slice t)) (hi0 : P.info? t = some i0) (hsz : i0.size = sz) (i : Nat) (hi : i < n) :
    ∃ g off, (∀ W : World, (Instr.indexAt T v (.int .i64 (i : Int))).run P W = .ok (.pointer (some ⟨g, off, none⟩)) W) ∧ (∀ k u, xs[i * sz + k]? = some u → w.cell? ⟨g, off + k, none⟩ = some u) ∧ ∃ cs, BlkR w g t cs := by
  obtain ⟨h0, A, c, rfl, hn, hc, h1⟩ := h
  have he : P.elem T = t := by simp [Program.elem, hT]
  rcases h1 with ⟨_, h1⟩ | ⟨g, off, cs, rfl, hb, hx⟩
  · omega
  · refine ⟨g, off + i * sz, fun W => ?_, fun k u hu => ?_, cs, hb⟩
    · rw [run_indexAt_slice W T ⟨g, off, none⟩ n c .i64 i (by rw [he]; exact hT), he]
      simp [sizeOf, typeInfo, hi0, hsz, Result.andThen, hi, addr_add]
    · rw [Nat.add_assoc]
      exact hb.cell _ _ (hx _ _ hu)

/-- v[i:] -/
theorem from_ (h : Row w v t sz n xs) (hT : P.underlying T = some (.slice t)) (hi0 : P.info? t = some i0) (hsz : i0.size = sz) (i : Nat) (hi : i ≤ n) :
    ∃ v1, (∀ W : World, (Instr.slice T v (some (.int .i64 (i : Int))) none none).run P W = .ok v1 W) ∧ Row w v1 t sz (n - i) (xs.drop (i * sz)) := by
  obtain ⟨h0, A, c, rfl, hn, hc, h1⟩ := h
  have he : P.elem T = t := by simp [Program.elem, hT]
  refine ⟨sliced A i n c sz, fun W => ?_, ?_⟩
  · rw [run_slice_l (P := P) W T A n c (by rw [he]; exact hT) .i64 i (by omega) (by omega), he]
    simp [sizeOf, typeInfo, hi0, hsz, Result.andThen]
  · refine ⟨by simp [h0, Nat.sub_mul], ?_⟩
    unfold sliced
    by_cases hci : c = i
    · rw [if_pos hci]
      have hni : n = i := by omega
      refine ⟨A, c - i, rfl, by omega, by omega, ?_⟩
      rcases h1 with ⟨h1, h2⟩ | ⟨g, off, cs, hA, hb, hx⟩
      · exact .inl ⟨h1, by omega⟩
      · refine .inr ⟨g, off, cs, hA, hb, fun j u hj => ?_⟩
        have : (xs.drop (i * sz)).length = 0 := by simp [h0, hni]
        have := (List.getElem?_eq_some_iff.1 hj).1
        omega
    · rw [if_neg hci]
      rcases h1 with ⟨rfl, h2⟩ | ⟨g, off, cs, rfl, hb, hx⟩
      · omega
      · refine ⟨some ⟨g, off + i * sz, none⟩, c - i, by simp [addr_add], by omega, by omega, .inr ⟨g, off + i * sz, cs, rfl, hb, fun j u hj => ?_⟩⟩
        rw [List.getElem?_drop] at hj
        have := hx _ _ hj
        rw [← Nat.add_assoc] at this
        exact this
end
end Row

section
variable {P : Program} {w : World}

/-- append(own, v...) -/
theorem run_append_row (t ty : TypeId) (base : Nat) (e : TypeId) (i : TypeInfo) (z : Value) (size bytes : Nat) (ht : P.underlying t = some (.slice e)) (hi : P.info? e = some i) (hz : i.zero = some z)
    (hsize : i.size = size) (hby : i.bytes = bytes) (hzs : z.cells.size = size) (hsz : 0 < size)
    (v : Value) (n : Nat) (xs : List Value) (hown : w.ownsRow base e size v n xs) (xv : Value) (m : Nat) (news : List Value) (hx : Row w xv e size m news) (h1 : ∀ u ∈ news, u.oneCell' = true)
    (h63 : n + m ≤ maxLen) (hbytes : (n + m) * bytes ≤ 140737488355328) (hbase : base ≤ w.heap.size) :
    ∃ v' w', (Builtin.append_ #[t, t] ty #[v, xv]).run P w = .ok v' w' ∧ w'.ownsRow base e size v' (n + m) (xs ++ news) ∧ w.grownBy w' v.ownBlock := by
  obtain ⟨h0, A, c, rfl, hn, hc, hA⟩ := hx
  rcases hA with ⟨rfl, rfl⟩ | ⟨g, off, cs, rfl, hb, hcell⟩
  · have hm : m = 0 := by omega
    subst hm
    have hnil : news = [] := by simpa using h0
    subst hnil
    exact ⟨v, w, run_append_owned_none (P := P) (w := w) base t ty e i size ht hi v n xs hown, by simpa using hown, World.grownBy.refl _ _⟩
  · obtain ⟨v', w', hr, h2, h3, h4⟩ := run_append_own (P := P) w base t ty e i z size bytes ht hi hz hsize hby hzs hsz v n xs hown ⟨g, off, none⟩ m c news h0 (fun j u hj => by rw [addr_add]; exact hb.cell _ _ (hcell j u hj)) h1 h63 hbytes hbase
    exact ⟨v', w', hr, h2, h3⟩

theorem wp_append_row {o : Oper} {a : Act} {K : Act → World → Prop} {Q : Exit → Act → World → Prop} (s x : Operand) (t : TypeId)
    (ho : o.op = .call { callee := .builtin .append, args := #[s, x], argTypes := #[t, t] })
    (base : Nat) (e : TypeId) (i : TypeInfo) (z : Value) (size bytes : Nat) (ht : P.underlying t = some (.slice e)) (hi : P.info? e = some i) (hz : i.zero = some z)
    (hsize : i.size = size) (hby : i.bytes = bytes) (hzs : z.cells.size = size) (hsz : 0 < size)
    (v : Value) (n : Nat) (xs : List Value) (hs : a.eval s = v) (hown : w.ownsRow base e size v n xs)
    (xv : Value) (m : Nat) (news : List Value) (hx : a.eval x = xv) (hrow : Row w xv e size m news) (h1 : ∀ u ∈ news, u.oneCell' = true)
    (h63 : n + m ≤ maxLen) (hbytes : (n + m) * bytes ≤ 140737488355328) (hbase : base ≤ w.heap.size)
    (h : ∀ v' w', w'.ownsRow base e size v' (n + m) (xs ++ news) → w.grownBy w' v.ownBlock → K (a.put o.dst v') w') : o.wp P a w K Q := by
  obtain ⟨v', w', hr, h2, h3⟩ := run_append_row (P := P) (w := w) t o.type base e i z size bytes ht hi hz hsize hby hzs hsz v n xs hown xv m news hrow h1 h63 hbytes hbase
  unfold Oper.wp execOp
  simp only [ho, resolve, invoke, builtin, Sem.run_bind, Sem.run_pure, Result.andThen_ok, List.map_toArray, List.map_cons, List.map_nil, hs, hx, hr]
  exact h v' w' h2 h3

/-- .. in the walk. -/
theorem wpList_append_row {ops : Array Oper} {rest : List Oper} {o : Oper} {a : Act} {Q : Exit → Act → World → Prop} (hgd : o.guard = none) (s x : Operand) (t : TypeId)
    (ho : o.op = .call { callee := .builtin .append, args := #[s, x], argTypes := #[t, t] })
    (base : Nat) (e : TypeId) (i : TypeInfo) (z : Value) (size bytes : Nat) (ht : P.underlying t = some (.slice e)) (hi : P.info? e = some i) (hz : i.zero = some z)
    (hsize : i.size = size) (hby : i.bytes = bytes) (hzs : z.cells.size = size) (hsz : 0 < size)
    (v : Value) (n : Nat) (xs : List Value) (hs : a.eval s = v) (hown : w.ownsRow base e size v n xs)
    (xv : Value) (m : Nat) (news : List Value) (hx : a.eval x = xv) (hrow : Row w xv e size m news) (h1 : ∀ u ∈ news, u.oneCell' = true)
    (h63 : n + m ≤ maxLen) (hbytes : (n + m) * bytes ≤ 140737488355328) (hbase : base ≤ w.heap.size)
    (h : ∀ v' w', w'.ownsRow base e size v' (n + m) (xs ++ news) → w.grownBy w' v.ownBlock → wpList P ops Q rest (a.put o.dst v') w') : wpList P ops Q (o :: rest) a w :=
  wpList_plain hgd fun _ hK => wp_append_row s x t ho base e i z size bytes ht hi hz hsize hby hzs hsz v n xs hs hown xv m news hx hrow h1 h63 hbytes hbase fun v' w' h2 h3 => hK _ _ (h v' w' h2 h3)

/-- .. as a step of a region that draws its order. -/
theorem step_append_row {ops : Array Oper} {o : Oper} {a : Act} {K : Act → World → Prop} {Q : Exit → Act → World → Prop} {E : Prop} (hgd : o.guard = none) (s x : Operand) (t : TypeId)
    (ho : o.op = .call { callee := .builtin .append, args := #[s, x], argTypes := #[t, t] })
    (base : Nat) (e : TypeId) (i : TypeInfo) (z : Value) (size bytes : Nat) (ht : P.underlying t = some (.slice e)) (hi : P.info? e = some i) (hz : i.zero = some z)
    (hsize : i.size = size) (hby : i.bytes = bytes) (hzs : z.cells.size = size) (hsz : 0 < size)
    (v : Value) (n : Nat) (xs : List Value) (hs : a.eval s = v) (hown : w.ownsRow base e size v n xs)
    (xv : Value) (m : Nat) (news : List Value) (hx : a.eval x = xv) (hrow : Row w xv e size m news) (h1 : ∀ u ∈ news, u.oneCell' = true)
    (h63 : n + m ≤ maxLen) (hbytes : (n + m) * bytes ≤ 140737488355328) (hbase : base ≤ w.heap.size)
    (h : ∀ v' w', w'.ownsRow base e size v' (n + m) (xs ++ news) → w.grownBy w' v.ownBlock → K (a.put o.dst v') w') :
    if Region.wanted o (yielded ops a.tmps) = true then Oper.wp P o a w K Q else E := by
  have hw : Region.wanted o (yielded ops a.tmps) = true := by simp [Region.wanted, hgd]
  rw [if_pos hw]
  exact wp_append_row s x t ho base e i z size bytes ht hi hz hsize hby hzs hsz v n xs hs hown xv m news hx hrow h1 h63 hbytes hbase h
end
end Go.Proofs.YtomhlmfekmnajaaDoor
