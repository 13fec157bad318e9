/- Step and Read of the reference: the walks. -/
import Derived.Test.YtomhlmfekmnajaaDoorBox
import Derived.Test.YtomhlmfekmnajaaDoorSumz
namespace Go.Proofs.YtomhlmfekmnajaaDoor
open Go.RowKit
set_option linter.unusedVariables false

set_option maxHeartbeats 1000000 in
theorem refstep_any (k : Nat) (b : Int) (w : World) (h : k ≤ 2) : Calls Tryd.prog 93 #[.int .i64 k, .int .u8 b] w fun e w' => e = .returned (.tuple #[.int .i64 (nextOf k (classOf b)), .bool (endsOf k (classOf b))]) ∧ w = w' := by
  obtain ⟨n, hn⟩ : ∃ n, n = nextOf k (classOf b) := ⟨_, rfl⟩
  obtain ⟨s, hs⟩ : ∃ s, s = endsOf k (classOf b) := ⟨_, rfl⟩
  rw [← hn, ← hs]
  have q : ∀ x y : Int, x ≠ y → (x == y) = false := fun x y h => by simp [h]
  obtain rfl | rfl | rfl : k = 0 ∨ k = 1 ∨ k = 2 := by omega
  · by_cases h34 : b = 34
    · subst h34
      replace hn : n = 1 := hn
      replace hs : s = false := hs
      subst hn hs
      clear q
      go_enter Tryd.func93, Tryd.ntmps93
      go_wp2
      go_ret2
      exact ⟨rfl, rfl⟩
    · have e34 := q b 34 h34
      replace hn : n = 0 := by rw [hn, classOf]; rw [if_neg h34]; split <;> (try split) <;> rfl
      replace hs : s = (b == 10) := by
        rw [hs, classOf, if_neg h34]
        by_cases h92 : b = 92
        · subst h92; rfl
        · rw [if_neg h92]
          by_cases h10 : b = 10
          · subst h10; rfl
          · rw [if_neg h10]; simp [endsOf, h10]
      subst hn
      obtain ⟨t, ht⟩ : ∃ t, t = (b == 10) := ⟨_, rfl⟩
      rw [← ht] at hs
      subst hs
      have HT := Lib.hid ht
      cases s
      · have e10 : (b == 10) = false := ht.symm
        clear ht q
        go_enter Tryd.func93, Tryd.ntmps93
        go_wp2
        go_ret2
        exact ⟨rfl, rfl⟩
      · have e10 : (b == 10) = true := ht.symm
        clear ht q
        go_enter Tryd.func93, Tryd.ntmps93
        go_wp2
        go_ret2
        exact ⟨rfl, rfl⟩
  · by_cases h92 : b = 92
    · subst h92
      replace hn : n = 2 := hn
      replace hs : s = false := hs
      subst hn hs
      clear q
      go_enter Tryd.func93, Tryd.ntmps93
      go_wp2
      go_ret2
      exact ⟨rfl, rfl⟩
    · by_cases h34 : b = 34
      · subst h34
        replace hn : n = 0 := hn
        replace hs : s = false := hs
        subst hn hs
        clear q h92
        go_enter Tryd.func93, Tryd.ntmps93
        go_wp2
        go_ret2
        exact ⟨rfl, rfl⟩
      · have e34 := q b 34 h34
        have e92 := q b 92 h92
        replace hn : n = 1 := by rw [hn, classOf, if_neg h34, if_neg h92]; split <;> rfl
        replace hs : s = false := by rw [hs, classOf, if_neg h34, if_neg h92]; split <;> rfl
        subst hn hs
        clear q h34 h92
        go_enter Tryd.func93, Tryd.ntmps93
        go_wp2
        go_ret2
        exact ⟨rfl, rfl⟩
  · replace hn : n = 1 := hn
    replace hs : s = false := hs
    subst hn hs
    clear q
    go_enter Tryd.func93, Tryd.ntmps93
    go_wp2
    go_ret2
    exact ⟨rfl, rfl⟩
end Go.Proofs.YtomhlmfekmnajaaDoor
