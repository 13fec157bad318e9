/- Entries of scan, Lines of split, Mod of keep: the walks. -/
import Derived.Test.YtomhlmfekmnajaaDoorSound
import Derived.Test.YtomhlmfekmnajaaDoorRefRead
namespace Go.Proofs.YtomhlmfekmnajaaDoor
open Go.RowKit
set_option linter.unusedVariables false
set_option linter.unusedSimpArgs false

theorem SBox.exit {w : World} {D : Nat} {c : Array Value} {s : Su} (h : SBox w D c s) (k : Nat) (hk : k < 3) : w.cell? ⟨D, 1 + k, none⟩ = some (.int .i64 (s.e k)) := by
  obtain ⟨s0, s1, s2, hcc, _⟩ := h.2
  injection hcc with hcc
  have hbox : SuBox w D s s0 s1 s2 := by have := h.1; rw [hcc] at this; exact this
  exact hbox.exit k hk

def entriesFrom (st : Int) : List Su → List Int
  | [] => []
  | s :: r => st :: entriesFrom (s.e st.toNat) r
def stateAt (st : Int) : List Su → Nat → Int
  | _, 0 => st
  | [], _ + 1 => st
  | s :: r, k + 1 => stateAt (s.e st.toNat) r k
theorem stateAt_succ : ∀ (ss : List Su) (st : Int) (k : Nat) (x : Su), ss[k]? = some x → stateAt st ss (k + 1) = x.e (stateAt st ss k).toNat
  | [], st, k, x, h => by simp at h
  | s :: r, st, 0, x, h => by simp at h; subst h; simp [stateAt]
  | s :: r, st, k + 1, x, h => by
    show stateAt (s.e st.toNat) r (k + 1) = _
    rw [stateAt_succ r _ k x (by simpa using h)]
    rfl
theorem stateAt_lt : ∀ (ss : List Su) (st : Int) (k : Nat), ss.all Su.valid = true → 0 ≤ st → st ≤ 2 → 0 ≤ stateAt st ss k ∧ stateAt st ss k ≤ 2
  | ss, st, 0, _, h0, h1 => by cases ss <;> exact ⟨h0, h1⟩
  | [], st, k + 1, _, h0, h1 => ⟨h0, h1⟩
  | s :: r, st, k + 1, h, h0, h1 => by
    simp only [List.all_cons, Bool.and_eq_true] at h
    have := s.valid_e h.1 st.toNat (by omega)
    exact stateAt_lt r _ k h.2 this.1 this.2
def entriesOf (ss : List Su) : List Int := (List.range ss.length).map fun k => stateAt 0 ss k

def EntPost (l : List Int) (w : World) (e : Ending) (w' : World) : Prop := ∃ v, e = .returned (.tuple #[v, .int .i64 0]) ∧ Ints w' v l ∧ Keep [] w w'

set_option maxHeartbeats 1000000 in
set_option maxRecDepth 100000 in
theorem entries_any (v : Value) (ss : List Su) (w : World) (hR : SuRow w v ss) (hs : soundOf ss = 0) (hl : ss.length ≤ 1048576) : Calls Tryd.prog 27 #[v] w (EntPost (entriesOf ss) w) := by
  have HR := Lib.hid hR
  obtain ⟨A, cp, rfl, hn, hc, -, -⟩ := hR
  have hc9 : cp ≤ 9223372036854775807 := hc
  have hall : ss.all Su.valid = true := by
    unfold soundOf at hs
    split at hs
    · assumption
    · cases hs
  have HALL := Lib.hid hall
  have HS := Lib.hid hs
  obtain ⟨i3, hi3, hz0, hz1, hz2⟩ := info_parts Tryd.info3
  clear hc hall hs
  go_enter Tryd.func27, Tryd.ntmps27
  go_wp2_with fail
  refine (examine_any _ ss _ HR.out).mono ?_
  rintro e w1 ⟨rfl, K1⟩
  rw [HS.out]
  have HK1 := Lib.hid K1
  clear K1
  go_wp2_with fail
  go_loopw [16, 5, 6] (fun i l t wr => ∃ (k : Nat) (x : Nat), k ≤ ss.length ∧ i = .int .i64 k ∧ t = .int .i64 x ∧ Hid ((x : Int) = stateAt 0 ss k) ∧ x ≤ 2 ∧ wr.ownsRow w1.heap.size 3 1 l k (((List.range k).map fun j => stateAt 0 ss j).map (Value.int .i64)) ∧ Keep [] w1 wr) (fun i _ _ _ => ss.length - (intOf i).toNat)
  case atStart => exact ⟨0, 0, by omega, rfl, rfl, Lib.hid (by cases ss <;> rfl), by omega, World.ownsRow_nil _ _ _ _, Keep.refl _ _⟩
  case round =>
    obtain ⟨k, x, hk, rfl, rfl, hx, hx2, hO, hK⟩ := hrel
    obtain ⟨W, rfl⟩ : ∃ W, W = wr := ⟨_, rfl⟩
    obtain ⟨l, rfl⟩ : ∃ l, l = u5 := ⟨_, rfl⟩
    have HO := Lib.hid hO
    have HK := Lib.hid hK
    have hsz := hK.size
    clear hO hK
    by_cases hlt : k < ss.length
    · obtain ⟨y, hy⟩ : ∃ y, ss[k]? = some y := ⟨ss[k], by simp [hlt]⟩
      obtain ⟨g, off, cs, hidx, hrg, hsu⟩ := SuRow.idx (HR.out.keep (HK1.out.trans HK.out)) k y hy
      have hyv : y.valid = true := List.all_eq_true.1 HALL.out y (List.mem_of_getElem? hy)
      have hye := y.valid_e hyv x (by omega)
      have hnx := stateAt_succ ss 0 k y hy
      rw [← hx.out, Int.toNat_natCast] at hnx
      obtain ⟨z, hz⟩ : ∃ z : Nat, y.e x = (z : Int) := ⟨(y.e x).toNat, by omega⟩
      have hzz : z ≤ 2 := by omega
      rw [hz] at hnx
      have hstep : ((List.range (k + 1)).map fun j => stateAt 0 ss j).map (Value.int .i64) = ((List.range k).map fun j => stateAt 0 ss j).map (Value.int .i64) ++ [.int .i64 (x : Int)] := by
        rw [List.range_succ]
        simp [← hx.out]
      have HNX := Lib.hid hnx
      have HST := Lib.hid hstep
      have HZ := Lib.hid hz
      have HSU := Lib.hid hsu
      have HRG := Lib.hid hrg
      have hx3 : (x : Int) < 3 := by omega
      clear hrg hsu hy hyv hnx hstep hz hye
      go_wp2_with (first | (refine wpList_load_su rfl (.tmp 18) rfl g off cs y HRG.out HSU.out rfl ?_) | (refine wpList_su_new rfl (.tmp 8) (.tmp 19) rfl cs y HSU.out rfl rfl ?_; intro w4 B4 K4; have HB4 := Lib.hid B4; have HK4 := Lib.hid K4; have hw4 := K4.size; have HO4 := Lib.hid (own_keep HO.out K4); clear B4 K4 hidx) | (at_builtin; refine wpList_append_row rfl (.tmp 20) (.tmp 22) 23 rfl w1.heap.size 3 i3 (.int .i64 0) 1 8 Tryd.underlying23 hi3 hz0 hz1 hz2 rfl (by decide) l k _ rfl (HO4.out.alloc _) (.slice (some ⟨w4.heap.size, 0, none⟩) 1 1) 1 [.int .i64 (x : Int)] rfl (Row.of_own (World.ownsRow_lit (base := 0) (e := 3) (size := 1) w4 #[.int .i64 (x : Int)] 1 (Nat.zero_le _) (by decide) rfl)) (by simp [Value.oneCell']) (by unfold maxLen; omega) (by omega) (by simp; omega) ?_; intro v5 w5 own5 hg5; have HO5 := Lib.hid own5; have hk5 := ((HK.out.trans HK4.out).alloc (.cells #[.int .i64 (x : Int)] 3)).fresh (Keep.of_grown hg5) (fun g hg => (World.ownsRow.lt (HO4.out.alloc (.cells #[.int .i64 (x : Int)] 3)) g (by simpa using hg)).1); have HK5 := Lib.hid hk5; have ye := (Keep.of_grown hg5).cell (a := ⟨W.heap.size, 1 + x, none⟩) (v := .int .i64 (z : Int)) (((Keep.refl [] w4).alloc _).cell (by have := HB4.out.exit x (by omega); rwa [HZ.out] at this) (by simp)) (fun hm => by have := (World.ownsRow.lt HO.out W.heap.size (by simpa using hm)).2; omega); clear own5 hg5 hk5))
      go_roundw
      case rel => exact ⟨k + 1, z, by omega, by go_num, rfl, Lib.hid HNX.out.symm, hzz, by rw [HST.out]; exact HO5.out, HK5.out⟩
      case measure => simp [intOf]; omega
    · have hkl : k = ss.length := by omega
      subst hkl
      go_wp2_with fail
      go_ret2
      exact ⟨l, rfl, own_ints HO.out, HK1.out.trans HK.out⟩
end Go.Proofs.YtomhlmfekmnajaaDoor
