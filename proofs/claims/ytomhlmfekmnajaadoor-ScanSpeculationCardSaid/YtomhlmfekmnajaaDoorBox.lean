/- Boxes that hold a summary, read and written whole; slices of summaries. -/
import Derived.Test.YtomhlmfekmnajaaDoorMon
import Derived.Deep.MidRow
namespace Go.Proofs.YtomhlmfekmnajaaDoor
open Go.RowKit
set_option linter.unusedVariables false

section
variable {P : Program} {w : World}

theorem Blk.range {b : Nat} {t : TypeId} {cs : List Value} (h : Blk w b t cs) : w.rangeAt b 0 cs := fun j v hv => by rw [Nat.zero_add]; exact h.cell j v hv
theorem Blk.there {b : Nat} {t : TypeId} {cs : List Value} (h : Blk w b t cs) : w.there b 0 cs.length := fun j hj => by
  rw [Nat.zero_add]
  exact ⟨by rw [h.cell j cs[j] (by simp [hj])]; rfl, h.froz j⟩

theorem blk_setCells {b : Nat} {t : TypeId} : ∀ (vs : List Value) (o : Nat) (w : World) (cs : List Value), Blk w b t cs → o + vs.length ≤ cs.length → Blk (w.setCells b o vs) b t (cs.take o ++ vs ++ cs.drop (o + vs.length))
  | [], o, w, cs, h, _ => by simpa [World.setCells] using h
  | v :: r, o, w, cs, h, hl => by
    rw [World.setCells]
    have h1 := blk_setCells r (o + 1) _ _ (h.set o v) (by simp at hl ⊢; omega)
    have e : (cs.set o v).take (o + 1) ++ r ++ (cs.set o v).drop (o + 1 + r.length) = cs.take o ++ v :: r ++ cs.drop (o + (v :: r).length) := by
      have ho : o < cs.length := by simp at hl; omega
      rw [List.take_succ_eq_append_getElem (by simpa using ho), List.take_set_of_le (Nat.le_refl o), List.drop_set_of_lt (by omega)]
      simp [Nat.add_assoc, Nat.add_comm 1]
    rw [e] at h1
    exact h1
theorem keep_setCells {b : Nat} : ∀ (vs : List Value) (o : Nat) (w : World), Keep [b] w (w.setCells b o vs)
  | [], o, w => Keep.refl _ _
  | v :: r, o, w => by
    rw [World.setCells]
    exact ((Keep.refl [b] w).setCell (a := ⟨b, o, none⟩) (Or.inl (by simp)) v).trans (keep_setCells r (o + 1) _)
theorem size_setCells {b : Nat} : ∀ (vs : List Value) (o : Nat) (w : World), (w.setCells b o vs).heap.size = w.heap.size
  | [], o, w => rfl
  | v :: r, o, w => by rw [World.setCells, size_setCells r (o + 1) _]; simp

/-- A struct is read out of its box. -/
theorem load_box {D : Nat} {ty t : TypeId} {c : Array Value} {d : TypeDesc} (hb : Blk w D t c.toList) (hu : P.underlying ty = some d) (hd : d.isRow = true) (hi : (P.info? ty).map (·.size) = some c.size) :
    (Instr.loadAt ty (.pointer (some ⟨D, 0, none⟩))).run P w = .ok (.agg c) w := by
  have := run_loadAt_mid (P := P) w D 0 ty c.toList d hb.range hu hd (by simpa using hi)
  simpa using this
theorem load_at {D o : Nat} {ty : TypeId} {c : Array Value} {d : TypeDesc} (hb : w.rangeAt D o c.toList) (hu : P.underlying ty = some d) (hd : d.isRow = true) (hi : (P.info? ty).map (·.size) = some c.size) :
    (Instr.loadAt ty (.pointer (some ⟨D, o, none⟩))).run P w = .ok (.agg c) w := by
  have := run_loadAt_mid (P := P) w D o ty c.toList d hb hu hd (by simpa using hi)
  simpa using this

theorem store_box {D : Nat} {ty t : TypeId} {c : Array Value} {cs : List Value} (hb : Blk w D t cs) (hl : cs.length = c.size) (hi : (P.info? ty).map (·.size) = some c.size) (h1 : c.all (·.oneCell') = true) :
    ∃ w', (Instr.storeAt ty (.pointer (some ⟨D, 0, none⟩)) (.agg c)).run P w = .ok () w' ∧ Blk w' D t c.toList ∧ Keep [D] w w' ∧ w'.heap.size = w.heap.size := by
  refine ⟨_, run_storeAt_mid (P := P) w D 0 ty c (by rw [← hl]; exact hb.there) hi h1, ?_, keep_setCells _ _ _, size_setCells _ _ _⟩
  have := blk_setCells c.toList 0 w cs hb (by simp [hl])
  have hd : cs.drop c.size = [] := by rw [List.drop_eq_nil_iff]; omega
  simpa [hd] using this

theorem wp_store_box {op : Oper} {a : Act} {K : Act → World → Prop} {Q : Exit → Act → World → Prop} (ty : TypeId) (x y : Operand) (ho : op.op = .store ty x y)
    (D : Nat) (c : Array Value) (hx : a.eval x = .pointer (some ⟨D, 0, none⟩)) (hy : a.eval y = .agg c) (t : TypeId) (cs : List Value)
    (hb : Blk w D t cs) (hl : cs.length = c.size) (hi : (P.info? ty).map (·.size) = some c.size) (h1 : c.all (·.oneCell') = true)
    (h : ∀ w', Blk w' D t c.toList → Keep [D] w w' → w'.heap.size = w.heap.size → K (a.put op.dst undef) w') : op.wp P a w K Q := by
  obtain ⟨w', hr, hb', hk, hs⟩ := store_box (P := P) (ty := ty) hb hl hi h1
  unfold Oper.wp execOp
  simp only [ho, hx, hy, Sem.run_bind, hr, Result.andThen_ok, Sem.run_pure]
  exact h w' hb' hk hs

theorem wpList_store_box {ops : Array Oper} {rest : List Oper} {op : Oper} {a : Act} {Q : Exit → Act → World → Prop} (hgd : op.guard = none) (ty : TypeId) (x y : Operand) (ho : op.op = .store ty x y)
    (D : Nat) (c : Array Value) (hx : a.eval x = .pointer (some ⟨D, 0, none⟩)) (hy : a.eval y = .agg c) (t : TypeId) (cs : List Value)
    (hb : Blk w D t cs) (hl : cs.length = c.size) (hi : (P.info? ty).map (·.size) = some c.size) (h1 : c.all (·.oneCell') = true)
    (h : ∀ w', Blk w' D t c.toList → Keep [D] w w' → w'.heap.size = w.heap.size → wpList P ops Q rest (a.put op.dst undef) w') : wpList P ops Q (op :: rest) a w :=
  wpList_plain hgd fun _ hK => wp_store_box ty x y ho D c hx hy t cs hb hl hi h1 fun w' h2 h3 h4 => hK _ _ (h w' h2 h3 h4)

/-- A store into a box that was laid just now. -/
theorem wpList_store_new {ops : Array Oper} {rest : List Oper} {op : Oper} {a : Act} {Q : Exit → Act → World → Prop} (hgd : op.guard = none) (ty : TypeId) (x y : Operand) (ho : op.op = .store ty x y)
    (c z : Array Value) (t : TypeId) (hx : a.eval x = .pointer (some ⟨w.heap.size, 0, none⟩)) (hy : a.eval y = .agg c)
    (hl : z.size = c.size) (hi : (P.info? ty).map (·.size) = some c.size) (h1 : c.all (·.oneCell') = true)
    (h : ∀ w', Blk w' w.heap.size t c.toList → Keep [] w w' → wpList P ops Q rest (a.put op.dst undef) w') : wpList P ops Q (op :: rest) a (w.alloc (.cells z t)) :=
  wpList_store_box hgd ty x y ho w.heap.size c hx hy t z.toList (Blk.new w z t) (by simpa using hl) hi h1 fun w' h2 h3 h4 =>
    h w' h2 (((Keep.refl [] w).alloc _).fresh h3 (by simp))

theorem step_store_box {ops : Array Oper} {o : Oper} {a : Act} {K : Act → World → Prop} {Q : Exit → Act → World → Prop} {E : Prop} (hgd : o.guard = none) (ty : TypeId) (x y : Operand) (ho : o.op = .store ty x y)
    (D : Nat) (c : Array Value) (hx : a.eval x = .pointer (some ⟨D, 0, none⟩)) (hy : a.eval y = .agg c) (t : TypeId) (cs : List Value)
    (hb : Blk w D t cs) (hl : cs.length = c.size) (hi : (P.info? ty).map (·.size) = some c.size) (h1 : c.all (·.oneCell') = true)
    (h : ∀ w', Blk w' D t c.toList → Keep [D] w w' → w'.heap.size = w.heap.size → K (a.put o.dst undef) w') :
    if Region.wanted o (yielded ops a.tmps) = true then Oper.wp P o a w K Q else E := by
  have hw : Region.wanted o (yielded ops a.tmps) = true := by simp [Region.wanted, hgd]
  rw [if_pos hw]
  exact wp_store_box ty x y ho D c hx hy t cs hb hl hi h1 h

/-- The end of a function whose first result lies in a box. -/
theorem results_box2 {fn : Func} {p q : Tmp} {ty : TypeId} (h : fn.results = #[.cell p ty, .tmp q]) (tmps : Array Value) (D : Nat) (t : TypeId) (c : Array Value) (d : TypeDesc) (u : Value)
    (hp : tmps.getD p undef = .pointer (some ⟨D, 0, none⟩)) (hq : tmps.getD q undef = u) (hb : Blk w D t c.toList) (hu : P.underlying ty = some d) (hd : d.isRow = true) (hi : (P.info? ty).map (·.size) = some c.size) :
    (results fn tmps).run P w = .ok (.tuple #[.agg c, u]) w := by
  have hp' : tmps[p]?.getD undef = .pointer (some ⟨D, 0, none⟩) := by simpa using hp
  have hq' : tmps[q]?.getD undef = u := by simpa using hq
  have hl := run_loadVar_row (P := P) w D t ty c (0, 0) d hb hu (by cases d <;> simp_all [TypeDesc.isRow]) hi
  simp [results, h, hp', hq', asAddr, hl]
theorem results_box1 {fn : Func} {p : Tmp} {ty : TypeId} (h : fn.results = #[.cell p ty]) (tmps : Array Value) (D : Nat) (t : TypeId) (c : Array Value) (d : TypeDesc)
    (hp : tmps.getD p undef = .pointer (some ⟨D, 0, none⟩)) (hb : Blk w D t c.toList) (hu : P.underlying ty = some d) (hd : d.isRow = true) (hi : (P.info? ty).map (·.size) = some c.size) :
    (results fn tmps).run P w = .ok (.agg c) w := by
  have hp' : tmps[p]?.getD undef = .pointer (some ⟨D, 0, none⟩) := by simpa using hp
  have hl := run_loadVar_row (P := P) w D t ty c (0, 0) d hb hu (by cases d <;> simp_all [TypeDesc.isRow]) hi
  simp [results, h, hp', asAddr, hl]
end

theorem Tryd.size26 : (Tryd.prog.info? 26).map (·.size) = some 7 := by kernel_rfl
theorem size26 {c : Array Value} (h : c.size = 7) : (Tryd.prog.info? 26).map (·.size) = some c.size := by rw [h]; exact Tryd.size26

/-- The value's cells. -/
theorem SuV.cells {w : World} {v : Value} {s : Su} (h : SuV w v s) : ∃ c : Array Value, v = .agg c ∧ c.size = 7 ∧ c.all (·.oneCell') = true := by
  obtain ⟨A0, c0, A1, c1, A2, c2, rfl⟩ := h.open
  exact ⟨_, rfl, rfl, by simp [Value.oneCell']⟩

/-- In block D lies the summary s, as the cells c. -/
def SBox (w : World) (D : Nat) (c : Array Value) (s : Su) : Prop := Blk w D 26 c.toList ∧ SuV w (.agg c) s
theorem SBox.keep {w w' : World} {D : Nat} {c : Array Value} {s : Su} (h : SBox w D c s) (k : Keep [] w w') : SBox w' D c s := ⟨k.blk h.1 (by simp), h.2.keep k⟩
theorem SuV.size7 {w : World} {c : Array Value} {s : Su} (h : SuV w (.agg c) s) : c.size = 7 := by
  obtain ⟨c', e, h7, _⟩ := h.cells
  injection e with e
  rw [e]; exact h7
theorem SuV.one {w : World} {c : Array Value} {s : Su} (h : SuV w (.agg c) s) : c.all (·.oneCell') = true := by
  obtain ⟨c', e, _, h1⟩ := h.cells
  injection e with e
  rw [e]; exact h1
theorem SBox.load {w : World} {D : Nat} {c : Array Value} {s : Su} (h : SBox w D c s) : (Instr.loadAt 26 (.pointer (some ⟨D, 0, none⟩))).run Tryd.prog w = .ok (.agg c) w :=
  load_box h.1 Tryd.underlying26 rfl (size26 h.2.size7)

/-- A slice of summaries. -/
def SuRow (w : World) (v : Value) (ss : List Su) : Prop :=
  ∃ A c, v = .slice A ss.length c ∧ ss.length ≤ c ∧ c ≤ maxLen ∧ (A = none → c = 0) ∧
    ∀ (k : Nat) (s : Su), ss[k]? = some s → ∃ g off cs, A = some ⟨g, off, none⟩ ∧ w.rangeAt g (off + k * 7) cs.toList ∧ SuV w (.agg cs) s
theorem rangeAt_keep {w w' : World} {g o : Nat} {cs : List Value} {ex : List Nat} (h : w.rangeAt g o cs) (k : Keep ex w w') (hg : g ∉ ex) : w'.rangeAt g o cs := fun j v hv => k.cell (h j v hv) hg
theorem SuRow.keep {w w' : World} {v : Value} {ss : List Su} (h : SuRow w v ss) (k : Keep [] w w') : SuRow w' v ss := by
  obtain ⟨A, c, hv, h1, h2, h3, h4⟩ := h
  refine ⟨A, c, hv, h1, h2, h3, fun j s hs => ?_⟩
  obtain ⟨g, off, cs, hA, hr, hsu⟩ := h4 j s hs
  exact ⟨g, off, cs, hA, rangeAt_keep hr k (by simp), hsu.keep k⟩
theorem SuRow.nil (w : World) : SuRow w (.slice none 0 0) [] := ⟨none, 0, rfl, Nat.le_refl _, Nat.zero_le _, fun _ => rfl, fun k s h => by simp at h⟩

theorem Tryd.size26' : (Tryd.prog.info? 26).map (·.size) = some 7 := by kernel_rfl
/-- &l[k], and what lies there -/
theorem SuRow.idx {w : World} {v : Value} {ss : List Su} (h : SuRow w v ss) (k : Nat) (s : Su) (hs : ss[k]? = some s) :
    ∃ g off cs, (∀ W : World, (Instr.indexAt 34 v (.int .i64 (k : Int))).run Tryd.prog W = .ok (.pointer (some ⟨g, off, none⟩)) W) ∧ w.rangeAt g off cs.toList ∧ SuV w (.agg cs) s := by
  obtain ⟨A, c, rfl, h1, h2, h3, h4⟩ := h
  obtain ⟨g, off, cs, rfl, hr, hsu⟩ := h4 k s hs
  have hk : k < ss.length := (List.getElem?_eq_some_iff.1 hs).1
  have hT : Tryd.prog.underlying 34 = some (.slice 26) := Tryd.underlying34
  have he : Tryd.prog.elem 34 = 26 := by simp [Program.elem, hT]
  cases hi : Tryd.prog.info? 26 with
  | none => have := Tryd.size26; rw [hi] at this; cases this
  | some i0 =>
    have hsz : i0.size = 7 := by have := Tryd.size26; rw [hi] at this; simpa using this
    refine ⟨g, off + k * 7, cs, fun W => ?_, hr, hsu⟩
    rw [run_indexAt_slice W 34 ⟨g, off, none⟩ ss.length c .i64 k (by rw [he]; exact hT), he]
    simp [sizeOf, typeInfo, hi, hsz, Result.andThen, hk, addr_add]
theorem su_load {w : World} {g o : Nat} {cs : Array Value} {s : Su} (h : w.rangeAt g o cs.toList) (hs : SuV w (.agg cs) s) : (Instr.loadAt 26 (.pointer (some ⟨g, o, none⟩))).run Tryd.prog w = .ok (.agg cs) w :=
  load_at h Tryd.underlying26 rfl (size26 hs.size7)
/-- The cells of the value, one by one. -/
theorem su_cells {w : World} {g o : Nat} {cs : Array Value} {s : Su} (h : w.rangeAt g o cs.toList) (hs : SuV w (.agg cs) s) :
    ∃ A0 c0 A1 c1 A2 c2, cs = #[.int .i64 s.len, .int .i64 s.e0, .int .i64 s.e1, .int .i64 s.e2, .slice A0 s.l0.length c0, .slice A1 s.l1.length c1, .slice A2 s.l2.length c2] ∧
      w.cell? ⟨g, o, none⟩ = some (.int .i64 s.len) ∧ w.cell? ⟨g, o + 1, none⟩ = some (.int .i64 s.e0) ∧ w.cell? ⟨g, o + 2, none⟩ = some (.int .i64 s.e1) ∧ w.cell? ⟨g, o + 3, none⟩ = some (.int .i64 s.e2) ∧
      w.cell? ⟨g, o + 4, none⟩ = some (.slice A0 s.l0.length c0) ∧ w.cell? ⟨g, o + 5, none⟩ = some (.slice A1 s.l1.length c1) ∧ w.cell? ⟨g, o + 6, none⟩ = some (.slice A2 s.l2.length c2) := by
  obtain ⟨A0, c0, A1, c1, A2, c2, e⟩ := hs.open
  injection e with e
  subst e
  exact ⟨A0, c0, A1, c1, A2, c2, rfl, h 0 _ rfl, h 1 _ rfl, h 2 _ rfl, h 3 _ rfl, h 4 _ rfl, h 5 _ rfl, h 6 _ rfl⟩

abbrev zcells : Array Value := #[.int .i64 0, .int .i64 0, .int .i64 0, .int .i64 0, .slice none 0 0, .slice none 0 0, .slice none 0 0]
theorem zcells_su (w : World) : SuV w (.agg zcells) Su.zero := zeroV_su w
theorem SBox.len {w : World} {D : Nat} {c : Array Value} {s : Su} (h : SBox w D c s) : c.toList.length = 7 := by simpa using h.2.size7

/-- A summary into a box that was laid just now. -/
theorem wpList_su_new {w : World} {ops : Array Oper} {rest : List Oper} {op : Oper} {a : Act} {Q : Exit → Act → World → Prop} (hgd : op.guard = none) (x y : Operand) (ho : op.op = .store 26 x y)
    (c : Array Value) (s : Su) (hs : SuV w (.agg c) s) (hx : a.eval x = .pointer (some ⟨w.heap.size, 0, none⟩)) (hy : a.eval y = .agg c)
    (h : ∀ w', SBox w' w.heap.size c s → Keep [] w w' → wpList Tryd.prog ops Q rest (a.put op.dst undef) w') : wpList Tryd.prog ops Q (op :: rest) a (w.alloc (.cells zcells 26)) :=
  wpList_store_new hgd 26 x y ho c zcells 26 hx hy hs.size7.symm (size26 hs.size7) hs.one fun w' h2 h3 => h w' ⟨h2, hs.keep h3⟩ h3

/-- A summary into a box. -/
theorem wpList_su {w : World} {ops : Array Oper} {rest : List Oper} {op : Oper} {a : Act} {Q : Exit → Act → World → Prop} (hgd : op.guard = none) (x y : Operand) (ho : op.op = .store 26 x y)
    (D : Nat) (c : Array Value) (s : Su) (cs : List Value) (hb : Blk w D 26 cs) (hl : cs.length = 7) (hs : SuV w (.agg c) s) (hs' : ∀ w', Keep [D] w w' → SuV w' (.agg c) s) (hx : a.eval x = .pointer (some ⟨D, 0, none⟩)) (hy : a.eval y = .agg c)
    (h : ∀ w', SBox w' D c s → Keep [D] w w' → wpList Tryd.prog ops Q rest (a.put op.dst undef) w') : wpList Tryd.prog ops Q (op :: rest) a w :=
  wpList_store_box hgd 26 x y ho D c hx hy 26 cs hb (hl.trans hs.size7.symm) (size26 hs.size7) hs.one fun w' h2 h3 _ => h w' ⟨h2, hs' w' h3⟩ h3
theorem step_su {w : World} {ops : Array Oper} {o : Oper} {a : Act} {K : Act → World → Prop} {Q : Exit → Act → World → Prop} {E : Prop} (hgd : o.guard = none) (x y : Operand) (ho : o.op = .store 26 x y)
    (D : Nat) (c : Array Value) (s : Su) (cs : List Value) (hb : Blk w D 26 cs) (hl : cs.length = 7) (hs : SuV w (.agg c) s) (hs' : ∀ w', Keep [D] w w' → SuV w' (.agg c) s) (hx : a.eval x = .pointer (some ⟨D, 0, none⟩)) (hy : a.eval y = .agg c)
    (h : ∀ w', SBox w' D c s → Keep [D] w w' → K (a.put o.dst undef) w') : if Region.wanted o (yielded ops a.tmps) = true then Oper.wp Tryd.prog o a w K Q else E :=
  step_store_box hgd 26 x y ho D c hx hy 26 cs hb (hl.trans hs.size7.symm) (size26 hs.size7) hs.one fun w' h2 h3 _ => h w' ⟨h2, hs' w' h3⟩ h3

/-- An operation whose guard, if it has one, lets it run. -/
theorem wpList_wanted {P : Program} {w : World} {ops : Array Oper} {rest : List Oper} {o : Oper} {a : Act} {Q : Exit → Act → World → Prop} (hg : Region.wanted o (yielded ops a.tmps) = true)
    (h : ∀ K : Act → World → Prop, (∀ a w, wpList P ops Q rest a w → K a w) → o.wp P a w K Q) : wpList P ops Q (o :: rest) a w :=
  wpList_step fun K hK => by simp only [hg, if_true]; exact h K hK

/-- A summary is read, whole. -/
theorem wpList_load_su {w : World} {ops : Array Oper} {rest : List Oper} {op : Oper} {a : Act} {Q : Exit → Act → World → Prop} (hgd : Region.wanted op (yielded ops a.tmps) = true) (x : Operand) (ho : op.op = .load 26 x)
    (g o : Nat) (c : Array Value) (s : Su) (hr : w.rangeAt g o c.toList) (hs : SuV w (.agg c) s) (hx : a.eval x = .pointer (some ⟨g, o, none⟩))
    (h : wpList Tryd.prog ops Q rest (a.put op.dst (.agg c)) w) : wpList Tryd.prog ops Q (op :: rest) a w := by
  refine wpList_wanted hgd fun K hK => ?_
  refine wp_load_mid 26 x ho g o hx c.toList _ hr Tryd.underlying26 rfl (by simpa using size26 hs.size7) ?_
  simpa using hK _ _ h
theorem wpList_load_sb {w : World} {ops : Array Oper} {rest : List Oper} {op : Oper} {a : Act} {Q : Exit → Act → World → Prop} (hgd : Region.wanted op (yielded ops a.tmps) = true) (x : Operand) (ho : op.op = .load 26 x)
    (D : Nat) (c : Array Value) (s : Su) (hb : SBox w D c s) (hx : a.eval x = .pointer (some ⟨D, 0, none⟩))
    (h : wpList Tryd.prog ops Q rest (a.put op.dst (.agg c)) w) : wpList Tryd.prog ops Q (op :: rest) a w :=
  wpList_load_su hgd x ho D 0 c s hb.1.range hb.2 hx h
theorem yields_su {ops : Array Oper} {S : World → Prop} {op : Oper} {a : Act} (hw : Region.wanted op (yielded ops a.tmps) = true) (x : Operand) (ho : op.op = .load 26 x)
    (g o : Nat) (c : Array Value) (hx : a.eval x = .pointer (some ⟨g, o, none⟩)) (h7 : c.size = 7) (hS : ∀ w, S w → w.rangeAt g o c.toList) : YieldsIf Tryd.prog ops S op (.agg c) a := by
  have := yieldsIf_load_mid (P := Tryd.prog) (ops := ops) (S := S) hw 26 x ho g o hx c.toList _ hS Tryd.underlying26 rfl (by simpa using size26 h7)
  simpa using this

/-- .. where the result of a function that makes its slices anew goes into a box that was there. -/
theorem SuV.keepF {w w' : World} {v : Value} {s : Su} {D base : Nat} (h : SuV w v s) (hf : FreshV base v) (hD : D < base) : ∀ w', Keep [D] w w' → SuV w' v s := fun _ k => h.keepNe k hf hD
theorem SuV.keepZ {w : World} (D : Nat) : ∀ w', Keep [D] w w' → SuV w' (.agg zcells) Su.zero := fun w' _ => zcells_su w'

/-- The ends of the functions whose first result is a summary in a box. -/
theorem su_results2 {w : World} {fn : Func} {p q : Tmp} (h : fn.results = #[.cell p 26, .tmp q]) (tmps : Array Value) (D : Nat) (c : Array Value) (s : Su) (u : Value) (hb : SBox w D c s)
    (hp : tmps.getD p undef = .pointer (some ⟨D, 0, none⟩)) (hq : tmps.getD q undef = u) : (results fn tmps).run Tryd.prog w = .ok (.tuple #[.agg c, u]) w :=
  results_box2 h tmps D 26 c _ u hp hq hb.1 Tryd.underlying26 rfl (size26 hb.2.size7)
theorem su_results1 {w : World} {fn : Func} {p : Tmp} (h : fn.results = #[.cell p 26]) (tmps : Array Value) (D : Nat) (c : Array Value) (s : Su) (hb : SBox w D c s)
    (hp : tmps.getD p undef = .pointer (some ⟨D, 0, none⟩)) : (results fn tmps).run Tryd.prog w = .ok (.agg c) w :=
  results_box1 h tmps D 26 c _ hp hb.1 Tryd.underlying26 rfl (size26 hb.2.size7)
end Go.Proofs.YtomhlmfekmnajaaDoor
