/- bytes.Clone, Put and Take of the ring. -/
import Derived.Test.YtinanoclnlcilaaSlot
import Derived.Test.YtinanoclnlcilaaRow
import Derived.Lib.Hide
namespace Go.Proofs.Ytinanoclnlcilaa
open Go.RowKit

/-- A slice of bytes that reads as xs. -/
def ByteRow (w : World) (v : Value) (xs : List Int) : Prop := Row w v 5 1 xs.length (xs.map (Value.int .u8))

structure Res where
  out : List Int
  st : Int
  rec_ : Int

/-- A result at block p. -/
def ResAt (w : World) (p : Nat) (r : Res) : Prop := ∃ v, Blk w p 33 [v, .int .i64 r.st, .int .i64 r.rec_] ∧ ByteRow w v r.out

def ClonePost (w : World) (xs : List Int) (e : Ending) (w' : World) : Prop := ∃ v, e = .returned v ∧ ByteRow w' v xs ∧ Keep [] w w'

theorem Try.info5 : (Try.prog.info? 5).map (fun i => (i.zero, i.size, i.bytes)) = some (some (.int .u8 0), 1, 1) := by kernel_rfl

theorem clone_any (v : Value) (xs : List Int) (w : World) (hx : ByteRow w v xs) (hl : xs.length ≤ 1000) : Calls Try.prog 23 #[v] w (ClonePost w xs) := by
  obtain ⟨i0, hi, hz0, hz1, hz2⟩ := info_parts Try.info5
  have hx' := hx
  obtain ⟨hlen, A, c, rfl, hn, hc, hA⟩ := hx'
  rcases hA with ⟨rfl, rfl⟩ | ⟨g, off, cs, rfl, hb, hcell⟩
  · have h0 : xs.length = 0 := by omega
    have h1 : xs = [] := List.length_eq_zero_iff.1 h0
    subst h1
    have he : ∀ w : World, (binOp .eql 31 (.slice none 0 0) (.slice none 0 0)).run Try.prog w = .ok (.bool true) w := fun w => Lib.run_eql_slice_nil w 31 5 _ _ _ _ _ Try.underlying31
    have X : ClonePost w [] (.returned (.slice none 0 0)) w := ⟨_, rfl, Row.nil _ _ _, Keep.refl _ _⟩
    have HX := Lib.hid X
    clear X hx hlen
    simp only [List.length_nil]
    go_enter Try.func23, Try.ntmps23
    go_wp2
    go_ret
    exact HX.out
  · have he : ∀ w : World, (binOp .eql 31 (.slice (some ⟨g, off, none⟩) xs.length c) (.slice none 0 0)).run Try.prog w = .ok (.bool false) w := fun w => Lib.run_eql_slice_nil w 31 5 _ _ _ _ _ Try.underlying31
    have hown : (w.alloc (.cells #[] 5)).ownsRow w.heap.size 5 1 (.slice (some ⟨w.heap.size, 0, none⟩) 0 0) 0 [] := World.ownsRow_lit w #[] 0 (Nat.le_refl _) (by decide) rfl
    have hrow : Row (w.alloc (.cells #[] 5)) (.slice (some ⟨g, off, none⟩) xs.length c) 5 1 xs.length (xs.map (Value.int .u8)) := hx.keep0 ((Keep.refl _ _).alloc _)
    have HX := Lib.hid hx
    clear hx hlen hcell
    go_enter Try.func23, Try.ntmps23
    go_wp2_with (at_builtin; refine wpList_append_row rfl (.tmp 5) (.tmp 6) 31 rfl w.heap.size 5 i0 (.int .u8 0) 1 1 Try.underlying31 hi hz0 hz1 hz2 rfl (by decide) (.slice (some ⟨w.heap.size, 0, none⟩) 0 0) 0 [] rfl hown (.slice (some ⟨g, off, none⟩) xs.length c) xs.length (xs.map (Value.int .u8)) rfl hrow (ints_oneCell _ _) (by unfold maxLen; omega) (by omega) (by simp) ?_; intro v' w1 hown' hgrow)
    have K : Keep [] w w1 := (((Keep.refl [] w).alloc _).grown hgrow (fun k hk => Or.inr (Nat.le_of_eq (by simpa [Value.ownBlock] using hk))))
    have B : ByteRow w1 v' xs := Row.of_own (by simpa using hown')
    clear hown' hgrow hown he hrow
    go_wp2
    go_ret
    exact ⟨v', rfl, B, K⟩
end Go.Proofs.Ytinanoclnlcilaa
