/- append(own, v...) where v is a slice that reads as numbers; the summary that Compose builds, cell by cell. -/
import Derived.Test.YtomhlmfekmnajaaDoorJoin
import Derived.Test.YtomhlmfekmnajaaDoorRow
namespace Go.Proofs.YtomhlmfekmnajaaDoor
open Go.RowKit
set_option linter.unusedVariables false

section
variable {P : Program} {w : World}
theorem run_append_ints (t ty : TypeId) (base : Nat) (e : TypeId) (i : TypeInfo) (z : Value) (bytes : Nat) (ht : P.underlying t = some (.slice e)) (hi : P.info? e = some i) (hz : i.zero = some z)
    (hsize : i.size = 1) (hby : i.bytes = bytes) (hzs : z.cells.size = 1)
    (v : Value) (n : Nat) (xs : List Value) (hown : w.ownsRow base e 1 v n xs) (xv : Value) (news : List Int) (hx : Ints w xv news)
    (h63 : n + news.length ≤ maxLen) (hbytes : (n + news.length) * bytes ≤ 140737488355328) (hbase : base ≤ w.heap.size) :
    ∃ v' w', (Builtin.append_ #[t, t] ty #[v, xv]).run P w = .ok v' w' ∧ w'.ownsRow base e 1 v' (n + news.length) (xs ++ news.map (Value.int .i64)) ∧ w.grownBy w' v.ownBlock := by
  obtain ⟨A, c, rfl, hn, hc, h0, hcell⟩ := hx
  cases A with
  | none =>
    have hc0 := h0 rfl
    subst hc0
    have : news = [] := List.length_eq_zero_iff.1 (by omega)
    subst this
    exact ⟨v, w, run_append_owned_none (P := P) (w := w) base t ty e i 1 ht hi v n xs hown, by simpa using hown, World.grownBy.refl _ _⟩
  | some a =>
    obtain ⟨v', w', hr, h2, h3, _⟩ := run_append_own (P := P) w base t ty e i z 1 bytes ht hi hz hsize hby hzs (by decide) v n xs hown a news.length c (news.map (Value.int .i64)) (by simp)
      (fun j u hj => by
        rw [List.getElem?_map] at hj
        cases hx : news[j]? with
        | none => rw [hx] at hj; cases hj
        | some x =>
          rw [hx] at hj
          obtain ⟨g, off, hA, hcc⟩ := hcell j x hx
          injection hA with hA
          subst hA
          rw [addr_add, hcc]
          exact hj) (fun u hu => by obtain ⟨x, _, rfl⟩ := List.mem_map.1 hu; rfl) h63 hbytes hbase
    exact ⟨v', w', hr, h2, h3⟩

theorem wpList_append_ints {ops : Array Oper} {rest : List Oper} {o : Oper} {a : Act} {Q : Exit → Act → World → Prop} (hgd : o.guard = none) (s x : Operand) (t : TypeId)
    (ho : o.op = .call { callee := .builtin .append, args := #[s, x], argTypes := #[t, t] })
    (base : Nat) (e : TypeId) (i : TypeInfo) (z : Value) (bytes : Nat) (ht : P.underlying t = some (.slice e)) (hi : P.info? e = some i) (hz : i.zero = some z)
    (hsize : i.size = 1) (hby : i.bytes = bytes) (hzs : z.cells.size = 1)
    (v : Value) (n : Nat) (xs : List Value) (hs : a.eval s = v) (hown : w.ownsRow base e 1 v n xs)
    (xv : Value) (news : List Int) (hx : a.eval x = xv) (hrow : Ints w xv news)
    (h63 : n + news.length ≤ maxLen) (hbytes : (n + news.length) * bytes ≤ 140737488355328) (hbase : base ≤ w.heap.size)
    (h : ∀ v' w', w'.ownsRow base e 1 v' (n + news.length) (xs ++ news.map (Value.int .i64)) → w.grownBy w' v.ownBlock → wpList P ops Q rest (a.put o.dst v') w') : wpList P ops Q (o :: rest) a w :=
  wpList_plain hgd fun _ hK => by
    obtain ⟨v', w', hr, h2, h3⟩ := run_append_ints (P := P) (w := w) t o.type base e i z bytes ht hi hz hsize hby hzs v n xs hown xv news hrow h63 hbytes hbase
    unfold Oper.wp execOp
    simp only [ho, resolve, invoke, builtin, Sem.run_bind, Sem.run_pure, Result.andThen_ok, List.map_toArray, List.map_cons, List.map_nil, hs, hx, hr]
    exact hK _ _ (h v' w' h2 h3)
end

theorem Tryd.info3 : (Tryd.prog.info? 3).map (fun i => (i.zero, i.size, i.bytes)) = some (some (.int .i64 0), 1, 8) := by kernel_rfl

/-- What turns is new. -/
theorem Keep.fresh {ex : List Nat} {w w1 w2 : World} (h : Keep [] w w1) (k : Keep ex w1 w2) (he : ∀ b ∈ ex, w.heap.size ≤ b) : Keep [] w w2 :=
  ⟨k.os.trans h.os, k.tape.trans h.tape, k.output.trans h.output, Nat.le_trans h.size k.size, fun i hi _ => (k.block i (Nat.lt_of_lt_of_le hi h.size) (fun hm => by have := he i hm; omega)).trans (h.block i hi (by simp))⟩

theorem not_own {w : World} {base : Nat} {e : TypeId} {size : Nat} {v : Value} {n : Nat} {xs : List Value} (h : w.ownsRow base e size v n xs) (b : Nat) (hb : b < base) : b ∉ v.ownBlock.toList := by
  intro hm
  have := (World.ownsRow.lt h b (by simpa using hm)).1
  omega

theorem ownsRow_other {w : World} {base : Nat} {e : TypeId} {size : Nat} {v : Value} {n : Nat} {xs : List Value} (h : w.ownsRow base e size v n xs) (a : Addr) (u : Value) (ha : a.block < base) : (w.setCell a u).ownsRow base e size v n xs := by
  refine ⟨h.1, ?_⟩
  rcases h.2 with hn | ⟨g, cap, cur, hv, hb, hg, rest⟩
  · exact .inl hn
  · exact .inr ⟨g, cap, cur, hv, hb, by rw [Below.heap_setCell _ _ _ _ (by omega)]; exact hg, rest⟩

/-- The cells of the summary that is built, ahead of round k. -/
def oc (s t : Su) (k : Nat) (L : Nat → Value) : List Value :=
  [.int .i64 (s.len + t.len), .int .i64 (if 0 < k then s.je t 0 else 0), .int .i64 (if 1 < k then s.je t 1 else 0), .int .i64 (if 2 < k then s.je t 2 else 0), L 0, L 1, L 2]
theorem oc_e (s t : Su) (k : Nat) (L : Nat → Value) (hk : k < 3) : (oc s t k L)[1 + k]? = some (.int .i64 0) := by
  obtain rfl | rfl | rfl : k = 0 ∨ k = 1 ∨ k = 2 := by omega
  all_goals rfl
theorem oc_l (s t : Su) (k : Nat) (L : Nat → Value) (u : Value) (hk : k < 3) : ((oc s t k L).set (1 + k) u)[4 + k]? = some (L k) := by
  obtain rfl | rfl | rfl : k = 0 ∨ k = 1 ∨ k = 2 := by omega
  all_goals rfl
theorem oc_v (s t : Su) (k : Nat) (L : Nat → Value) (u v : Value) (hk : k < 3) : (((oc s t k L).set (1 + k) u).set (4 + k) v)[4 + k]? = some v := by
  obtain rfl | rfl | rfl : k = 0 ∨ k = 1 ∨ k = 2 := by omega
  all_goals rfl
theorem oc_set (s t : Su) (k : Nat) (L : Nat → Value) (u v v' : Value) : ((((oc s t k L).set (1 + k) u).set (4 + k) v).set (4 + k) v') = (((oc s t k L).set (1 + k) u).set (4 + k) v') := by simp [List.set_set]
def upd (L : Nat → Value) (k : Nat) (v : Value) : Nat → Value := fun j => if j = k then v else L j
theorem oc_step (s t : Su) (k : Nat) (L : Nat → Value) (v : Value) (hk : k < 3) : (((oc s t k L).set (1 + k) (.int .i64 (s.je t k))).set (4 + k) v) = oc s t (k + 1) (upd L k v) := by
  obtain rfl | rfl | rfl : k = 0 ∨ k = 1 ∨ k = 2 := by omega
  all_goals simp [oc, upd]

/-- The slices of a summary lie in blocks from base on. -/
def FreshV (base : Nat) (v : Value) : Prop := ∀ cs, v = .agg cs → ∀ (i : Nat) (u : Value), cs[i]? = some u → ∀ b, u.ownBlock = some b → base ≤ b
theorem FreshV.mk {base : Nat} {x y z t : Int} {s0 s1 s2 : Value} (h0 : ∀ b, s0.ownBlock = some b → base ≤ b) (h1 : ∀ b, s1.ownBlock = some b → base ≤ b) (h2 : ∀ b, s2.ownBlock = some b → base ≤ b) : FreshV base (.agg #[.int .i64 x, .int .i64 y, .int .i64 z, .int .i64 t, s0, s1, s2]) := by
  intro cs h i u hu b hb
  simp only [Value.agg.injEq] at h
  subst h
  match i with
  | 0 | 1 | 2 | 3 => simp at hu; subst hu; simp [Value.ownBlock] at hb
  | 4 => simp at hu; subst hu; exact h0 b hb
  | 5 => simp at hu; subst hu; exact h1 b hb
  | 6 => simp at hu; subst hu; exact h2 b hb
  | i + 7 => simp at hu

theorem list_step (xa xb : List Int) (c : Int) (j : Nat) (h : j < xb.length) : ((xa ++ (xb.take (j + 1)).map (c + ·)).map (Value.int .i64)) = (xa ++ (xb.take j).map (c + ·)).map (Value.int .i64) ++ [.int .i64 (c + xb[j])] := by
  rw [List.take_succ_eq_append_getElem h]
  simp only [List.map_append, List.map_cons, List.map_nil, List.append_assoc]

theorem rows_su {wk V : World} {b : Nat} {cs : List Value} {s t : Su} {L : Nat → Value} (hb : Blk wk b 26 cs) (K : Keep [b] wk V) (hR : ∀ j, j < 3 → ∃ n, Row wk (L j) 3 1 n ((s.jl t j).map (Value.int .i64))) :
    SuV V (.agg #[.int .i64 (s.len + t.len), .int .i64 (s.je t 0), .int .i64 (s.je t 1), .int .i64 (s.je t 2), L 0, L 1, L 2]) (s.join t) := by
  have h : ∀ j, j < 3 → Ints V (L j) (s.jl t j) := by
    intro j hj
    obtain ⟨n, hn⟩ := hR j hj
    have h1 := hn.1
    simp only [List.length_map, Nat.mul_one] at h1
    have h2 := Row.keep hn K (by
      intro b' hb' cs' hc
      simp only [List.mem_singleton] at hb'
      subst hb'
      exact hb.neR hc (by decide) rfl)
    exact Ints.of_row (Row.cast h2 h1.symm)
  exact ⟨_, _, _, rfl, h 0 (by omega), h 1 (by omega), h 2 (by omega)⟩
end Go.Proofs.YtomhlmfekmnajaaDoor
