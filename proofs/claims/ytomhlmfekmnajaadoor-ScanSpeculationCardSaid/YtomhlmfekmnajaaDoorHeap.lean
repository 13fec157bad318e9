/- Words on memory: a block known whole, and worlds in which only some blocks have turned. Plain facts of the model's worlds; no program. -/
import Derived.WalkKit
import Derived.BigQuiet
import Derived.Deep.QuietTactic
import Derived.Deep.Draws
import Derived.Below
namespace Go.Proofs.YtomhlmfekmnajaaDoor
open Go.RowKit

/-- Block b holds the cells cs of type t; none is frozen. -/
def Blk (w : World) (b : Nat) (t : TypeId) (cs : List Value) : Prop := w.heap[b]? = some (.cells cs.toArray t (0, 0))

namespace Blk
variable {w w' : World} {b : Nat} {t : TypeId} {cs : List Value}

theorem cell (h : Blk w b t cs) (i : Nat) (v : Value) (hv : cs[i]? = some v) : w.cell? ⟨b, i, none⟩ = some v := by
  have h' : w.heap[b]? = some (.cells cs.toArray t (0, 0)) := h
  simp [World.cell?, h', hv]
theorem froz (h : Blk w b t cs) (i : Nat) : w.frozen? ⟨b, i, none⟩ = false := by
  have h' : w.heap[b]? = some (.cells cs.toArray t (0, 0)) := h
  simp [World.frozen?, h']
theorem lt (h : Blk w b t cs) : b < w.heap.size := (Array.getElem?_eq_some_iff.1 h).1
theorem of_block (h : Blk w b t cs) (e : w'.heap[b]? = w.heap[b]?) : Blk w' b t cs := e.trans h
theorem alloc (h : Blk w b t cs) (o : Obj) : Blk (w.alloc o) b t cs := h.of_block (Below.heap_alloc _ _ _ h.lt)
theorem new (w : World) (c : Array Value) (t : TypeId) : Blk (w.alloc (.cells c t)) w.heap.size t c.toList := by
  show (w.heap.push _)[w.heap.size]? = _
  simp
theorem drewN (h : Blk w b t cs) (n : Nat) : Blk (w.drewN n) b t cs := h
theorem drew (h : Blk w b t cs) : Blk w.drew b t cs := h
theorem set (h : Blk w b t cs) (i : Nat) (v : Value) : Blk (w.setCell ⟨b, i, none⟩ v) b t (cs.set i v) := by
  have h' : w.heap[b]? = some (.cells cs.toArray t (0, 0)) := h
  show (w.setCell ⟨b, i, none⟩ v).heap[b]? = _
  simp [World.setCell, Array.getElem?_modify, h']
theorem other (h : Blk w b t cs) {a : Addr} (ha : a.block ≠ b) (v : Value) : Blk (w.setCell a v) b t cs := h.of_block (Below.heap_setCell _ _ _ _ (fun e => ha e.symm))
theorem ne {b' : Nat} {t' : TypeId} {cs' : List Value} (h : Blk w b t cs) (h' : Blk w b' t' cs') (hne : t ≠ t') : b ≠ b' := by
  intro e
  subst e
  have e1 : w.heap[b]? = some (.cells cs.toArray t (0, 0)) := h
  have e2 : w.heap[b]? = some (.cells cs'.toArray t' (0, 0)) := h'
  rw [e1] at e2
  injection e2 with e2
  injection e2 with _ e3
  exact hne e3
end Blk

/-- Block b holds the cells cs of type t, frozen or not: for reading. -/
def BlkR (w : World) (b : Nat) (t : TypeId) (cs : List Value) : Prop := ∃ fr, w.heap[b]? = some (.cells cs.toArray t fr)
namespace BlkR
variable {w w' : World} {b : Nat} {t : TypeId} {cs : List Value}
theorem cell (h : BlkR w b t cs) (i : Nat) (v : Value) (hv : cs[i]? = some v) : w.cell? ⟨b, i, none⟩ = some v := by
  obtain ⟨fr, h'⟩ := h
  simp [World.cell?, h', hv]
theorem lt (h : BlkR w b t cs) : b < w.heap.size := by
  obtain ⟨fr, h'⟩ := h
  exact (Array.getElem?_eq_some_iff.1 h').1
theorem of_block (h : BlkR w b t cs) (e : w'.heap[b]? = w.heap[b]?) : BlkR w' b t cs := by
  obtain ⟨fr, h'⟩ := h
  exact ⟨fr, e.trans h'⟩
end BlkR
theorem Blk.r {w : World} {b : Nat} {t : TypeId} {cs : List Value} (h : Blk w b t cs) : BlkR w b t cs := ⟨(0, 0), h⟩
theorem Blk.neR {w : World} {b b' : Nat} {t t' : TypeId} {cs cs' : List Value} (h : Blk w b t cs) (h' : BlkR w b' t' cs') (hne : t ≠ t') : b ≠ b' := by
  intro e
  subst e
  obtain ⟨fr, e2⟩ := h'
  have e1 : w.heap[b]? = some (.cells cs.toArray t (0, 0)) := h
  rw [e1] at e2
  injection e2 with e2
  injection e2 with _ e3
  exact hne e3

/-- Of the blocks that were there only those of 'ex' may have turned. -/
structure Keep (ex : List Nat) (w w' : World) : Prop where
  os : w'.os = w.os
  tape : w'.tape = w.tape
  output : w'.output = w.output
  size : w.heap.size ≤ w'.heap.size
  block : ∀ k, k < w.heap.size → k ∉ ex → w'.heap[k]? = w.heap[k]?

namespace Keep
variable {ex : List Nat} {w w1 w2 : World}
theorem refl (ex : List Nat) (w : World) : Keep ex w w := ⟨rfl, rfl, rfl, Nat.le_refl _, fun _ _ _ => rfl⟩
theorem trans (h : Keep ex w w1) (k : Keep ex w1 w2) : Keep ex w w2 :=
  ⟨k.os.trans h.os, k.tape.trans h.tape, k.output.trans h.output, Nat.le_trans h.size k.size, fun i hi he => (k.block i (Nat.lt_of_lt_of_le hi h.size) he).trans (h.block i hi he)⟩
theorem mono {ex' : List Nat} (h : Keep ex w w1) (hs : ∀ k ∈ ex, k ∈ ex') : Keep ex' w w1 :=
  ⟨h.os, h.tape, h.output, h.size, fun i hi he => h.block i hi (fun hk => he (hs i hk))⟩
theorem drewN (h : Keep ex w w1) (n : Nat) : Keep ex w (w1.drewN n) := ⟨h.os, h.tape, h.output, h.size, h.block⟩
theorem drew (h : Keep ex w w1) : Keep ex w w1.drew := ⟨h.os, h.tape, h.output, h.size, h.block⟩
theorem alloc (h : Keep ex w w1) (o : Obj) : Keep ex w (w1.alloc o) :=
  h.trans ⟨rfl, rfl, rfl, by simp, fun k hk _ => Below.heap_alloc _ _ _ hk⟩
theorem setCell (h : Keep ex w w1) {a : Addr} (ha : a.block ∈ ex ∨ w.heap.size ≤ a.block) (v : Value) : Keep ex w (w1.setCell a v) :=
  ⟨h.os, h.tape, h.output, by simpa using h.size, fun k hk he => by
    rw [Below.heap_setCell _ _ _ _ (fun e => by rcases ha with ha | ha; exact he (e ▸ ha); omega)]
    exact h.block k hk he⟩
theorem grown (h : Keep ex w w1) {row : Option Nat} (hg : w1.grownBy w2 row) (hr : ∀ k, row = some k → k ∈ ex ∨ w.heap.size ≤ k) : Keep ex w w2 :=
  ⟨hg.os.trans h.os, hg.tape.trans h.tape, hg.output.trans h.output, Nat.le_trans h.size hg.size, fun k hk he => by
    rw [hg.block k (Nat.lt_of_lt_of_le hk h.size) (fun e => by rcases hr k e.symm with h1 | h1; exact he h1; omega)]
    exact h.block k hk he⟩
theorem of_grown {row : Option Nat} (hg : w.grownBy w1 row) : Keep row.toList w w1 :=
  ⟨hg.os, hg.tape, hg.output, hg.size, fun k hk he => hg.block k hk (fun e => he (by rw [← e]; simp))⟩
theorem below (h : Keep ex w w1) {B : Nat} (hB : B ≤ w.heap.size) (he : ∀ k ∈ ex, B ≤ k) : Below B w w1 :=
  ⟨h.os, h.tape, h.output, h.size, fun k hk => h.block k (by omega) (fun hk' => by have := he k hk'; omega)⟩
theorem of_below (h : Below w.heap.size w w1) : Keep ex w w1 := ⟨h.os, h.tape, h.output, h.size, fun k hk _ => h.block k hk⟩
theorem blk (h : Keep ex w w1) {b : Nat} {t : TypeId} {cs : List Value} (hb : Blk w b t cs) (he : b ∉ ex) : Blk w1 b t cs := hb.of_block (h.block b hb.lt he)
theorem blkR (h : Keep ex w w1) {b : Nat} {t : TypeId} {cs : List Value} (hb : BlkR w b t cs) (he : b ∉ ex) : BlkR w1 b t cs := hb.of_block (h.block b hb.lt he)
theorem cell (h : Keep ex w w1) {a : Addr} {v : Value} (hc : w.cell? a = some v) (he : a.block ∉ ex) : w1.cell? a = some v :=
  (World.cell?_of_block (h.block a.block (World.block_lt_of_cell? w a hc) he)).trans hc
end Keep
end Go.Proofs.YtomhlmfekmnajaaDoor
