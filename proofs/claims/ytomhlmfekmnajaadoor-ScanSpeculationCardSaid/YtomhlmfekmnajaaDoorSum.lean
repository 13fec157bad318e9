/- Summaries as values; lists of numbers behind slices; the small functions of the automaton. -/
import Derived.Test.YtomhlmfekmnajaaDoorRows
import Derived.Test.YtomhlmfekmnajaaDoorRow
import Derived.WalkSpells
import Derived.WalkLawsBesides
import Derived.Deep.OwnRows
import Derived.BigRegion
import Derived.Lib.Hide
import Derived.Laws.PanicsMore
namespace Go.Proofs.YtomhlmfekmnajaaDoor
open Go.RowKit
set_option linter.unusedVariables false

/-- The slice v reads as the numbers xs. -/
def Ints (w : World) (v : Value) (xs : List Int) : Prop :=
  ∃ A c, v = .slice A xs.length c ∧ xs.length ≤ c ∧ c ≤ maxLen ∧ (A = none → c = 0) ∧ ∀ (k : Nat) (x : Int), xs[k]? = some x → ∃ g off, A = some ⟨g, off, none⟩ ∧ w.cell? ⟨g, off + k, none⟩ = some (.int .i64 x)

theorem Ints.keep {w w' : World} {v : Value} {xs : List Int} (h : Ints w v xs) (k : Keep [] w w') : Ints w' v xs := by
  obtain ⟨A, c, hv, h1, h2, h3, h4⟩ := h
  exact ⟨A, c, hv, h1, h2, h3, fun j x hx => by obtain ⟨g, off, hA, hc⟩ := h4 j x hx; exact ⟨g, off, hA, k.cell hc (by simp)⟩⟩

theorem Ints.nil (w : World) : Ints w (.slice none 0 0) [] := ⟨none, 0, rfl, Nat.le_refl _, Nat.zero_le _, fun _ => rfl, fun k x h => by simp at h⟩

theorem Ints.of_row {w : World} {v : Value} {xs : List Int} (h : Row w v 3 1 xs.length (xs.map (Value.int .i64))) : Ints w v xs := by
  have h' := h
  obtain ⟨h0, A, c, rfl, hn, hc, h1⟩ := h
  refine ⟨A, c, rfl, hn, hc, fun hA => ?_, fun k x hx => Row.at_ h' k _ (by simp [hx])⟩
  rcases h1 with ⟨_, h1⟩ | ⟨g, off, cs, rfl, _⟩
  · exact h1
  · cases hA

structure Su where
  len : Int
  e0 : Int
  e1 : Int
  e2 : Int
  l0 : List Int
  l1 : List Int
  l2 : List Int
  deriving DecidableEq

def Su.e (s : Su) : Nat → Int | 0 => s.e0 | 1 => s.e1 | _ => s.e2
def Su.l (s : Su) : Nat → List Int | 0 => s.l0 | 1 => s.l1 | _ => s.l2

/-- The value v reads as the summary s. -/
def SuV (w : World) (v : Value) (s : Su) : Prop :=
  ∃ s0 s1 s2, v = .agg #[.int .i64 s.len, .int .i64 s.e0, .int .i64 s.e1, .int .i64 s.e2, s0, s1, s2] ∧ Ints w s0 s.l0 ∧ Ints w s1 s.l1 ∧ Ints w s2 s.l2

theorem SuV.keep {w w' : World} {v : Value} {s : Su} (h : SuV w v s) (k : Keep [] w w') : SuV w' v s := by
  obtain ⟨a, b, c, hv, h1, h2, h3⟩ := h
  exact ⟨a, b, c, hv, h1.keep k, h2.keep k, h3.keep k⟩

/-- The table of the transitions: state, class. -/
def nextOf : Nat → Nat → Int
  | 0, 1 => 1 | 0, _ => 0
  | 1, 1 => 0 | 1, 2 => 2 | 1, _ => 1
  | _, _ => 1
def endsOf : Nat → Nat → Bool
  | 0, 3 => true | _, _ => false

def Moves (w : World) : Prop := ∀ i j : Nat, i < 3 → j < 4 → w.cell? ⟨0, i * 8 + j * 2, none⟩ = some (.int .i64 (nextOf i j)) ∧ w.cell? ⟨0, i * 8 + j * 2 + 1, none⟩ = some (.bool (endsOf i j))
theorem Moves.keep {w w' : World} (h : Moves w) (k : Keep [] w w') : Moves w' := fun i j hi hj => ⟨k.cell (h i j hi hj).1 (by simp), k.cell (h i j hi hj).2 (by simp)⟩

def classOf (b : Int) : Nat := if b = 34 then 1 else if b = 92 then 2 else if b = 10 then 3 else 0
theorem classOf_lt (b : Int) : classOf b < 4 := by unfold classOf; split <;> (try split) <;> (try split) <;> omega

set_option maxHeartbeats 400000 in
theorem class_any (b : Int) (w : World) : Calls Tryd.prog 75 #[.int .u8 b] w fun e w' => e = .returned (.int .i64 (classOf b)) ∧ w' = w := by
  by_cases h1 : b = 34
  · subst h1
    go_enter Tryd.func75, Tryd.ntmps75
    go_wp2
    go_ret
    exact ⟨rfl, rfl⟩
  · by_cases h2 : b = 92
    · subst h2
      go_enter Tryd.func75, Tryd.ntmps75
      go_wp2
      go_ret
      exact ⟨rfl, rfl⟩
    · by_cases h3 : b = 10
      · subst h3
        go_enter Tryd.func75, Tryd.ntmps75
        go_wp2
        go_ret
        exact ⟨rfl, rfl⟩
      · have hc : classOf b = 0 := by simp [classOf, h1, h2, h3]
        rw [hc]
        go_enter Tryd.func75, Tryd.ntmps75
        go_wp2
        go_ret
        exact ⟨rfl, rfl⟩

set_option maxHeartbeats 400000 in
theorem known_any (k : Int) (w : World) : Calls Tryd.prog 52 #[.int .i64 k] w fun e w' => e = .returned (.bool (decide (0 ≤ k ∧ k ≤ 2))) ∧ w' = w := by
  by_cases h1 : 0 ≤ k
  · by_cases h2 : k ≤ 2
    · have hd : decide (0 ≤ k ∧ k ≤ 2) = true := decide_eq_true ⟨h1, h2⟩
      rw [hd]
      go_enter Tryd.func52, Tryd.ntmps52
      go_wp2
      go_ret
      exact ⟨rfl, rfl⟩
    · have hd : decide (0 ≤ k ∧ k ≤ 2) = false := decide_eq_false (fun h => h2 h.2)
      rw [hd]
      go_enter Tryd.func52, Tryd.ntmps52
      go_wp2
      go_ret
      exact ⟨rfl, rfl⟩
  · have hd : decide (0 ≤ k ∧ k ≤ 2) = false := decide_eq_false (fun h => h1 h.1)
    rw [hd]
    go_enter Tryd.func52, Tryd.ntmps52
    go_wp2
    go_ret
    exact ⟨rfl, rfl⟩

def emptyV : Value := .agg #[.int .i64 0, .int .i64 0, .int .i64 1, .int .i64 2, .slice none 0 0, .slice none 0 0, .slice none 0 0]
def Su.empty : Su := ⟨0, 0, 1, 2, [], [], []⟩
theorem emptyV_su (w : World) : SuV w emptyV Su.empty := ⟨_, _, _, rfl, Ints.nil w, Ints.nil w, Ints.nil w⟩

set_option maxHeartbeats 400000 in
theorem empty_any (w : World) : Calls Tryd.prog 14 #[] w fun e w' => e = .returned emptyV ∧ Keep [] w w' := by
  go_enter Tryd.func14, Tryd.ntmps14
  go_wp2
  refine bodyPost_ret (v := emptyV) (by simp [results, Tryd.results14, go_sem, emptyV]) rfl ⟨rfl, ?_⟩
  exact (Keep.refl [] w).alloc _

def slOf (s0 s1 s2 : Value) : Nat → Value | 0 => s0 | 1 => s1 | _ => s2
theorem idx24 (s0 s1 s2 : Value) (k : Nat) (hk : k < 3) (W : World) : (Instr.index 24 (.agg #[s0, s1, s2]) (.int .i64 (k : Int))).run Tryd.prog W = .ok (slOf s0 s1 s2 k) W := by
  obtain rfl | rfl | rfl : k = 0 ∨ k = 1 ∨ k = 2 := by omega
  all_goals simp [Instr.index, run_underlying Tryd.underlying24, asIntOf, go_sem, slOf]
theorem idx22 (s : Su) (k : Nat) (hk : k < 3) (W : World) : (Instr.index 22 (.agg #[.int .i64 s.e0, .int .i64 s.e1, .int .i64 s.e2]) (.int .i64 (k : Int))).run Tryd.prog W = .ok (.int .i64 (s.e k)) W := by
  obtain rfl | rfl | rfl : k = 0 ∨ k = 1 ∨ k = 2 := by omega
  all_goals simp [Instr.index, run_underlying Tryd.underlying22, asIntOf, go_sem, Su.e]

theorem eq22 (a0 a1 a2 b0 b1 b2 : Int) (W : World) : (Op.equalIn 10000 22 (.agg #[.int .i64 a0, .int .i64 a1, .int .i64 a2]) (.agg #[.int .i64 b0, .int .i64 b1, .int .i64 b2])).run Tryd.prog W = .ok (a0 == b0 && (a1 == b1 && a2 == b2)) W := by
  have hi : ∀ a b : Int, (Op.equalIn 9999 3 (.int .i64 a) (.int .i64 b)).run Tryd.prog W = .ok (a == b) W := fun a b => run_equalIn_int W 9998 3 .i64 .i64 a b Tryd.underlying3
  show (Op.equalIn (9998 + 1 + 1) 22 _ _).run Tryd.prog W = _
  unfold Op.equalIn
  simp [run_underlying Tryd.underlying22, run_underlying Tryd.underlying3, go_sem, List.range', isAgg, hi]
  by_cases h0 : a0 = b0 <;> by_cases h1 : a1 = b1 <;> by_cases h2 : a2 = b2 <;> simp [h0, h1, h2, go_sem]

/-- The cells of a summary in its box. -/
def SuBox (w : World) (b : Nat) (s : Su) (s0 s1 s2 : Value) : Prop := Blk w b 26 [.int .i64 s.len, .int .i64 s.e0, .int .i64 s.e1, .int .i64 s.e2, s0, s1, s2]
theorem SuBox.exit {w : World} {b : Nat} {s : Su} {s0 s1 s2 : Value} (h : SuBox w b s s0 s1 s2) (k : Nat) (hk : k < 3) : w.cell? ⟨b, 1 + k, none⟩ = some (.int .i64 (s.e k)) := by
  match k, hk with
  | 0, _ => exact h.cell 1 _ rfl
  | 1, _ => exact h.cell 2 _ rfl
  | 2, _ => exact h.cell 3 _ rfl
theorem SuBox.lines {w : World} {b : Nat} {s : Su} {s0 s1 s2 : Value} (h : SuBox w b s s0 s1 s2) (k : Nat) (hk : k < 3) : w.cell? ⟨b, 4 + k, none⟩ = some (slOf s0 s1 s2 k) := by
  match k, hk with
  | 0, _ => exact h.cell 4 _ rfl
  | 1, _ => exact h.cell 5 _ rfl
  | 2, _ => exact h.cell 6 _ rfl
theorem SuBox.ints {w : World} {s : Su} {s0 s1 s2 : Value} (h0 : Ints w s0 s.l0) (h1 : Ints w s1 s.l1) (h2 : Ints w s2 s.l2) (k : Nat) (hk : k < 3) : Ints w (slOf s0 s1 s2 k) (s.l k) := by
  match k, hk with
  | 0, _ => exact h0
  | 1, _ => exact h1
  | 2, _ => exact h2
end Go.Proofs.YtomhlmfekmnajaaDoor
