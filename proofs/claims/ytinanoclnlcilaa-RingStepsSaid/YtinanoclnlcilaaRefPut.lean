/- Put of the reference's ring. -/
import Derived.Test.YtinanoclnlcilaaRefTake
import Derived.Test.YtinanoclnlcilaaLast
import Derived.Deep.DeepCutAuto
import Derived.Deep.CutBlock
namespace Go.Proofs.Ytinanoclnlcilaa
open Go.RowKit
set_option linter.unusedVariables false

theorem refPut_range (Q : Nat) (cap next credits : Int) (vN vR : Value) (nums : List Int) (rs : List Res) (n : Int) (v : Value) (st rc : Int) (w : World) (h : RefAt w Q cap next credits vN vR nums rs) (hcap : cap ≤ 64) (hcap0 : 0 ≤ cap) (hn0 : 1 ≤ next) (hn1 : next ≤ 1000)
    (hlo : -9223372036854775808 ≤ n) (hhi : n ≤ 9223372036854775807) (hv : v.oneCell' = true) (hno : n < next ∨ cap ≤ n - next) :
    Calls Try.prog 10 #[.pointer (some ⟨Q, 0, none⟩), .int .i64 n, .agg #[v, .int .i64 st, .int .i64 rc]] w fun e w' => e = .returned (.int .i64 3) ∧ Keep [] w w' := by
  have c0 := h.hq.cell 0 _ rfl
  have c1 := h.hq.cell 1 _ rfl
  have hQ := h.hq.lt
  by_cases h1 : n < next
  · go_enter Try.func10, Try.ntmps10
    go_wp2_with fail
    go_quiet (fail)
    go_wp2_with fail
    go_ret
    exact ⟨rfl, ((Keep.refl [] w).alloc _).drewN _⟩
  · have h2 : cap ≤ n - next := by omega
    have hw : IntKind.i64.wrap (n - next) = n - next := IntWalk.i64_in _ (by omega)
    go_enter Try.func10, Try.ntmps10
    go_wp2_with fail
    go_quiet (fail)
    go_wp2_with fail
    go_ret
    exact ⟨rfl, ((Keep.refl [] w).alloc _).drewN _⟩

theorem refPut_state (Q : Nat) (cap next credits : Int) (vN vR : Value) (nums : List Int) (rs : List Res) (n : Int) (v : Value) (st rc : Int) (w : World) (h : RefAt w Q cap next credits vN vR nums rs) (hl : nums.length ≤ 1000) (hcap : cap ≤ 64) (hcap0 : 0 ≤ cap) (hn0 : 1 ≤ next) (hn1 : next ≤ 1000)
    (h1 : next ≤ n) (h2 : n - next < cap) (hv : v.oneCell' = true) (hmem : n ∈ nums) :
    Calls Try.prog 10 #[.pointer (some ⟨Q, 0, none⟩), .int .i64 n, .agg #[v, .int .i64 st, .int .i64 rc]] w fun e w' => e = .returned (.int .i64 11) ∧ Keep [] w w' := by
  have c0 := h.hq.cell 0 _ rfl
  have c1 := h.hq.cell 1 _ rfl
  have c3 := h.hq.cell 3 _ rfl
  have hQ := h.hq.lt
  have h1' : ¬ n < next := by omega
  have hw : IntKind.i64.wrap (n - next) = n - next := IntWalk.i64_in _ (by omega)
  have HM := Lib.hid hmem
  obtain ⟨A, c, rfl, _, _⟩ := Row.slice h.hN
  have HN := Lib.hid h.hN
  clear hmem
  go_enter Try.func10, Try.ntmps10
  go_wp2_with fail
  go_quiet (fail)
  clear hw
  go_wp2_with fail
  refine (at_any Q A c nums n _ ?_ (HN.out.keep0 (((Keep.refl _ _).alloc _).drewN _)) hl).mono ?_
  · go_simp
  rintro e w' ⟨k, rfl, hk, hk1, hk2, rfl⟩
  have hk0 : 0 ≤ k := hk.2 HM.out
  clear hk
  go_wp2_with fail
  go_ret
  exact ⟨rfl, ((Keep.refl [] w).alloc _).drewN _⟩

/-- The place of n in an ascending list. -/
def below (nums : List Int) (n : Int) : Nat := (nums.takeWhile (· < n)).length

theorem below_le (nums : List Int) (n : Int) : below nums n ≤ nums.length := (List.takeWhile_sublist _).length_le
theorem below_step (nums : List Int) (n : Int) (k : Nat) (hk : k ≤ below nums n) (hlt : k < nums.length) (h : nums[k] < n) : k + 1 ≤ below nums n := by
  induction nums generalizing k with
  | nil => simp at hlt
  | cons x l ih =>
    cases k with
    | zero =>
      simp only [List.getElem_cons_zero] at h
      simp [below, h]
    | succ k =>
      simp only [List.getElem_cons_succ] at h
      by_cases hx : x < n
      · simp only [below, List.takeWhile_cons, hx, decide_true, if_true, List.length_cons] at hk ⊢
        have := ih k (by unfold below; omega) (by simpa using hlt) h
        unfold below at this; omega
      · simp [below, hx] at hk
theorem below_stop (nums : List Int) (n : Int) (k : Nat) (hk : k ≤ below nums n) (hlt : k < nums.length) (h : ¬ nums[k] < n) : k = below nums n := by
  induction nums generalizing k with
  | nil => simp at hlt
  | cons x l ih =>
    cases k with
    | zero =>
      simp only [List.getElem_cons_zero] at h
      simp [below, h]
    | succ k =>
      simp only [List.getElem_cons_succ] at h
      by_cases hx : x < n
      · simp only [below, List.takeWhile_cons, hx, decide_true, if_true, List.length_cons] at hk ⊢
        have := ih k (by unfold below; omega) (by simpa using hlt) h
        unfold below at this; omega
      · simp [below, hx] at hk

/-- What a Put that stores leaves. -/
def RefPutPost (Q : Nat) (cap next credits : Int) (nums : List Int) (rs : List Res) (n : Int) (r : Res) (w : World) (e : Ending) (w' : World) : Prop :=
  ∃ vN vR, e = .returned (.int .i64 0) ∧ Keep [Q] w w' ∧ RefAt w' Q cap next credits vN vR (nums.take (below nums n) ++ [n] ++ nums.drop (below nums n)) (rs.take (below nums n) ++ [r] ++ rs.drop (below nums n))

theorem cellsOf_oneCell {w : World} (items : List (Value × Res)) (h : ∀ it ∈ items, ByteRow w it.1 it.2.out) : ∀ u ∈ cellsOf items, u.oneCell' = true := by
  induction items with
  | nil => intro u hu; simp [cellsOf] at hu
  | cons x l ih =>
    obtain ⟨v, r⟩ := x
    intro u hu
    simp only [cellsOf, List.mem_cons] at hu
    rcases hu with rfl | rfl | rfl | hu
    · obtain ⟨A, c, hv, _, _⟩ := Row.slice (h (u, r) (by simp))
      simp only at hv
      rw [hv]; rfl
    · rfl
    · rfl
    · exact ih (fun it hit => h it (List.mem_cons_of_mem _ hit)) u hu

/-- What the whole leaves. -/
theorem end10 {Q : Nat} {cap next credits n : Int} {vN vR vN' v8 : Value} {nums : List Int} {rs : List Res} {r : Res} {items : List (Value × Res)} {w W8 W9 w10 : World} {A : Option Addr} {c : Nat} {xs : List Value}
    (hA : RefAt w Q cap next credits vN vR nums rs) (K8 : Keep [] w W8) (K9 : Keep [Q] W8 W9) (Q8 : Blk W8 Q 39 [.int .i64 cap, .int .i64 next, .int .i64 credits, vN, vR]) (Q9 : Blk W9 Q 39 [.int .i64 cap, .int .i64 next, .int .i64 credits, vN', vR])
    (N9 : Row W9 vN' 3 1 (nums.length + 1) ((nums.take (below nums n) ++ [n] ++ nums.drop (below nums n)).map (Value.int .i64))) (B9 : ByteRow W9 v8 r.out) (hit : items.map (·.2) = rs) (hby : ∀ it ∈ items, ByteRow W9 it.1 it.2.out) (hil : items.length = nums.length) (hbl : below nums n ≤ nums.length)
    (KK : Keep [] W9 w10) (hR : Row w10 (.slice A (nums.length + 1) c) 33 3 (nums.length + 1) xs) (hxs : xs = (cellsOf items).take (below nums n * 3) ++ [v8, .int .i64 r.st, .int .i64 r.rec_] ++ (cellsOf items).drop (below nums n * 3)) :
    RefPutPost Q cap next credits nums rs n r w (.returned (.int .i64 0)) (w10.setCell ⟨Q, 4, none⟩ (.slice A (nums.length + 1) c)) := by
  subst hxs
  have Q10 := KK.blk Q9 (by simp)
  have K' : Keep [Q] w10 (w10.setCell ⟨Q, 4, none⟩ (.slice A (nums.length + 1) c)) := (Keep.refl [Q] w10).setCell (a := ⟨Q, 4, none⟩) (Or.inl (by simp)) _
  have e3 : ∀ b ∈ [Q], ∀ cs, ¬ BlkR w10 b 3 cs := by intro b hb cs hc; simp only [List.mem_singleton] at hb; subst hb; exact Q10.neR hc (by decide) rfl
  have e33 : ∀ b ∈ [Q], ∀ cs, ¬ BlkR w10 b 33 cs := by intro b hb cs hc; simp only [List.mem_singleton] at hb; subst hb; exact Q10.neR hc (by decide) rfl
  have e5 : ∀ b ∈ [Q], ∀ cs, ¬ BlkR w10 b 5 cs := by intro b hb cs hc; simp only [List.mem_singleton] at hb; subst hb; exact Q10.neR hc (by decide) rfl
  have hlen : (nums.take (below nums n) ++ [n] ++ nums.drop (below nums n)).length = nums.length + 1 := by simp; omega
  have hilen : (items.take (below nums n) ++ [(v8, r)] ++ items.drop (below nums n)).length = nums.length + 1 := by simp; omega
  refine ⟨vN', .slice A (nums.length + 1) c, rfl, (((K8.mono (by simp)).trans K9).trans (KK.mono (by simp))).trans K', ⟨Q10.set 4 _, ?_, items.take (below nums n) ++ [(v8, r)] ++ items.drop (below nums n), ?_, ?_, ?_⟩⟩
  · show Row _ _ 3 1 _ _
    rw [hlen]
    exact (N9.keep0 KK).keep K' e3
  · rw [← hit]; simp [List.map_take, List.map_drop]
  · rw [hilen, cellsOf_append, cellsOf_append, ← cellsOf_take, ← cellsOf_drop]
    exact hR.keep K' e33
  · intro it hi
    simp only [List.mem_append, List.mem_singleton] at hi
    rcases hi with (hi | rfl) | hi
    · exact ((hby it (List.mem_of_mem_take hi)).keep0 KK).keep K' e5
    · exact (B9.keep0 KK).keep K' e5
    · exact ((hby it (List.mem_of_mem_drop hi)).keep0 KK).keep K' e5

/-- The relation behind region 9. -/
theorem cut9 {Q : Nat} {cap next credits n : Int} {vN vR : Value} {nums : List Int} {W8 w9 : World} {A : Option Addr} {c N : Nat} {xs : List Value} (hQ : Blk W8 Q 39 [.int .i64 cap, .int .i64 next, .int .i64 credits, vN, vR]) (K : Keep [] W8 w9)
    (hN : N = nums.length + 1) (hR : Row w9 (.slice A N c) 3 1 N xs) (hxs : xs = (nums.take (below nums n) ++ [n] ++ nums.drop (below nums n)).map (Value.int .i64)) :
    ∃ A' c', Keep [Q] W8 (w9.setCell ⟨Q, 3, none⟩ (.slice A N c)) ∧ Blk (w9.setCell ⟨Q, 3, none⟩ (.slice A N c)) Q 39 [.int .i64 cap, .int .i64 next, .int .i64 credits, .slice A' (nums.length + 1) c', vR] ∧
      Row (w9.setCell ⟨Q, 3, none⟩ (.slice A N c)) (.slice A' (nums.length + 1) c') 3 1 (nums.length + 1) ((nums.take (below nums n) ++ [n] ++ nums.drop (below nums n)).map (Value.int .i64)) := by
  subst hN
  subst hxs
  have hQ9 := K.blk hQ (by simp)
  have K' : Keep [Q] w9 (w9.setCell ⟨Q, 3, none⟩ (.slice A (nums.length + 1) c)) := (Keep.refl [Q] w9).setCell (a := ⟨Q, 3, none⟩) (Or.inl (by simp)) _
  refine ⟨A, c, (K.mono (by simp)).trans K', hQ9.set 3 _, hR.keep K' ?_⟩
  intro b hb cs hc
  simp only [List.mem_singleton] at hb
  subst hb
  exact hQ9.neR hc (by decide) rfl

set_option maxHeartbeats 2000000 in
set_option maxRecDepth 100000 in
theorem refPut_ok (Q : Nat) (cap next credits : Int) (vN vR : Value) (nums : List Int) (rs : List Res) (n : Int) (v : Value) (r : Res) (w : World) (h : RefAt w Q cap next credits vN vR nums rs) (hl : nums.length ≤ 1000) (hlr : rs.length = nums.length) (hcap : cap ≤ 64) (hcap0 : 0 ≤ cap) (hn0 : 1 ≤ next) (hn1 : next ≤ 1000)
    (h1 : next ≤ n) (h2 : n - next < cap) (hno : n ∉ nums) (hB : ByteRow w v r.out) (hlen : r.out.length ≤ 1000) :
    Calls Try.prog 10 #[.pointer (some ⟨Q, 0, none⟩), .int .i64 n, .agg #[v, .int .i64 r.st, .int .i64 r.rec_]] w (RefPutPost Q cap next credits nums rs n r w) := by
  have c0 := h.hq.cell 0 _ rfl
  have c1 := h.hq.cell 1 _ rfl
  have c3 := h.hq.cell 3 _ rfl
  have c4 := h.hq.cell 4 _ rfl
  have hQ := h.hq.lt
  have h1' : ¬ n < next := by omega
  have hw : IntKind.i64.wrap (n - next) = n - next := IntWalk.i64_in _ (by omega)
  obtain ⟨i3, hi3, hz30, hz31, hz32⟩ := info_parts Try.info3
  obtain ⟨i5, hi5, hz50, hz51, hz52⟩ := info_parts Try.info5
  obtain ⟨A, c, hvN, hnc, hcm⟩ := Row.slice h.hN
  have hlenN : ∀ W : World, (Builtin.len_ #[22] 3 #[vN]).run Try.prog W = .ok (.int .i64 (nums.length : Int)) W := fun W => Row.len_ h.hN Try.underlying22 3 W
  obtain ⟨A9, c9, rfl, _, _⟩ := Row.slice hB
  have HM := Lib.hid hno
  have HV := Lib.hid hvN
  have HA := Lib.hid h
  have HB := Lib.hid hB
  have hbl := below_le nums n
  clear hno hvN hB h
  go_enter Try.func10, Try.ntmps10
  go_wp2_with fail
  go_quiet (fail)
  clear hw
  go_wp2_with fail
  refine (at_any Q A c nums n _ ?_ (by rw [← HV.out]; exact HA.out.hN.keep0 (((Keep.refl _ _).alloc _).drewN _)) hl).mono ?_
  · rw [← HV.out]; go_simp
  rintro e w' ⟨k, rfl, hk, hk1, hk2, rfl⟩
  have hk0 : ¬ 0 ≤ k := fun h => HM.out (hk.1 h)
  clear hk
  go_upto_block 1 with fail
  clear hk0 hk1 hk2
  go_cut [7] (fun s7 wc => s7 = .int .i64 (below nums n : Nat) ∧ Keep [] w wc ∧ Blk wc w.heap.size 33 [.slice A9 r.out.length c9, .int .i64 r.st, .int .i64 r.rec_])
  case first =>
    go_wp2_with fail
    go_loop [7] (fun i => ∃ k : Nat, k ≤ below nums n ∧ i = .int .i64 k) (fun i => nums.length - (intOf i).toNat)
    case atStart => exact ⟨0, Nat.zero_le _, rfl⟩
    case round =>
      obtain ⟨k, hk, rfl⟩ := hrel
      by_cases hlt : k < nums.length
      · obtain ⟨g, off, hix, hcs, gs, hgb⟩ := Row.idx HA.out.hN Try.underlying22 hi3 hz31 k hlt
        have r0 := hcs 0 (.int .i64 nums[k]) (by simp [hlt])
        simp only [Nat.add_zero] at r0
        have hglt : g < w.heap.size := World.block_lt_of_cell? _ _ r0
        clear hcs hgb
        by_cases hltn : nums[k] < n
        · have hst := below_step nums n k hk hlt hltn
          go_wp2_with fail
          go_round
          case rel => exact ⟨k + 1, hst, by go_num⟩
          case measure => simp [intOf]; omega
        · have hkb := Lib.hid (below_stop nums n k hk hlt hltn)
          go_wp2_with fail
          go_meet
          case rel => exact ⟨by rw [← hkb.out], ((Keep.refl _ _).alloc _).drewN _, (Blk.new w #[_, _, _] 33).drewN _⟩
      · have hkb := Lib.hid (show k = below nums n by omega)
        go_wp2_with fail
        go_meet
        case rel => exact ⟨by rw [← hkb.out], ((Keep.refl _ _).alloc _).drewN _, (Blk.new w #[_, _, _] 33).drewN _⟩
  case rest =>
    obtain ⟨rfl, K1, P1⟩ := hcut
    have p0 := P1.cell 0 _ rfl
    have p0f := P1.froz 0
    have hPlt := P1.lt
    have hne : ¬ w.heap.size = wc.heap.size := by omega
    have hown5 : (wc.alloc (.cells #[] 5)).ownsRow w.heap.size 5 1 (.slice (some ⟨wc.heap.size, 0, none⟩) 0 0) 0 [] := World.ownsRow_lit wc #[] 0 K1.size (by decide) rfl
    have hrow5 := HB.out.keep0 (K1.alloc (.cells #[] 5))
    go_upto_region 9 with (at_builtin; refine wpList_append_row rfl (.tmp 53) (.tmp 55) 31 rfl w.heap.size 5 i5 (.int .u8 0) 1 1 Try.underlying31 hi5 hz50 hz51 hz52 rfl (by decide) (.slice (some ⟨wc.heap.size, 0, none⟩) 0 0) 0 [] rfl hown5 (.slice A9 r.out.length c9) r.out.length (r.out.map (Value.int .u8)) rfl hrow5 (ints_oneCell _ _) (by unfold maxLen; omega) (by omega) (by simp; omega) ?_; intro v5 w5 hown5' hg5; have hB5 := Lib.hid (show ByteRow w5 v5 r.out from Row.of_own (by simpa using hown5')); have K5 : Keep [] w w5 := (K1.alloc (.cells #[] 5)).grown hg5 (fun b hb => Or.inr (World.ownsRow.lt hown5 b hb).1); have P5 : Blk w5 w.heap.size 33 _ := (Keep.of_grown hg5).blk (P1.alloc (.cells #[] 5)) (by simp [Value.ownBlock]; omega); obtain ⟨A8, c8, rfl, _, _⟩ := Row.slice hB5.out; have p5 := P5.cell 0 _ rfl; have p5f := P5.froz 0; clear hown5' hg5 hown5 hrow5 p0 p0f)
    obtain ⟨W8, hW8⟩ : ∃ W, W = w5.setCell ⟨w.heap.size, 0, none⟩ (.slice A8 r.out.length c8) := ⟨_, rfl⟩
    have K8 : Keep [] w W8 := by rw [hW8]; exact K5.setCell (a := ⟨w.heap.size, 0, none⟩) (Or.inr (Nat.le_refl _)) _
    have P8 : Blk W8 w.heap.size 33 [.slice A8 r.out.length c8, .int .i64 r.st, .int .i64 r.rec_] := by rw [hW8]; exact P5.set 0 _
    have B8 : ByteRow W8 (.slice A8 r.out.length c8) r.out := by
      rw [hW8]
      refine hB5.out.keep ((Keep.refl [w.heap.size] _).setCell (a := ⟨w.heap.size, 0, none⟩) (Or.inl (by simp)) _) ?_
      intro b hb cs hc
      simp only [List.mem_singleton] at hb
      subst hb
      exact P5.neR hc (by decide) rfl
    rw [← hW8]
    clear hW8 P5 K5 hB5 p5 p5f P1 K1 hne hPlt
    have Q8 := K8.blk HA.out.hq (by simp)
    have hS0 := Q8.cell 3 _ rfl
    have hN8 : Row W8 vN 3 1 nums.length (nums.map (Value.int .i64)) := HA.out.hN.keep0 K8
    obtain ⟨v1, hs1, hr1⟩ := Row.to_ hN8 Try.underlying22 hi3 hz31 (below nums n) hbl
    obtain ⟨A1, cc1, rfl, _, _⟩ := Row.slice hr1
    obtain ⟨v2, hs2, hr2⟩ := Row.from_ hN8 Try.underlying22 hi3 hz31 (below nums n) hbl
    obtain ⟨A2, cc2, rfl, _, _⟩ := Row.slice hr2
    have HN8 := Lib.hid hN8
    have HQ8 := Lib.hid Q8
    have HP8 := Lib.hid P8
    have HB8 := Lib.hid B8
    have HK8 := Lib.hid K8
    have Hr1 := Lib.hid hr1
    have Hr2 := Lib.hid hr2
    clear hN8 P8 B8 hr1 hr2 K8 Q8
    go_cut [] (fun wc2 => ∃ A' c', Keep [Q] W8 wc2 ∧ Blk wc2 Q 39 [.int .i64 cap, .int .i64 next, .int .i64 credits, .slice A' (nums.length + 1) c', vR] ∧ Row wc2 (.slice A' (nums.length + 1) c') 3 1 (nums.length + 1) ((nums.take (below nums n) ++ [n] ++ nums.drop (below nums n)).map (Value.int .i64)))
    case first =>
      have hr1 := Hr1.out
      have hr2 := Hr2.out
      have Q8 := HQ8.out
      refine wp_region_last (N := 21) (l := [{ dst := some 58, op := Go.Op.move (Go.Operand.tmp 0), type := 29, pos := "ref.go:92", after := #[], guard := none }, { dst := some 59, op := Go.Op.buildSlice 22 0 #[], type := 22, pos := "ref.go:92", after := #[], guard := none }, { dst := some 60, op := Go.Op.move (Go.Operand.tmp 0), type := 29, pos := "ref.go:92", after := #[], guard := none }, { dst := some 61, op := Go.Op.nilCheck (Go.Operand.tmp 60), type := 0, pos := "ref.go:92", after := #[{ on := 2, ground := Go.Ground.data }], guard := none }, { dst := some 62, op := Go.Op.fieldAddr 39 (Go.Operand.tmp 61) 3, type := 0, pos := "ref.go:92", after := #[{ on := 3, ground := Go.Ground.data }], guard := none }, { dst := some 63, op := Go.Op.load 22 (Go.Operand.tmp 62), type := 22, pos := "ref.go:92", after := #[{ on := 4, ground := Go.Ground.data }], guard := none }, { dst := some 64, op := Go.Op.move (Go.Operand.tmp 7), type := 3, pos := "ref.go:92", after := #[], guard := none }, { dst := some 65, op := Go.Op.slice 22 (Go.Operand.tmp 63) none (some (Go.Operand.tmp 64)) none, type := 22, pos := "ref.go:92", after := #[{ on := 5, ground := Go.Ground.data }, { on := 6, ground := Go.Ground.data }], guard := none }, { dst := some 66, op := Go.Op.call { callee := Go.Callee.builtin Go.Builtin.append, args := #[Go.Operand.tmp 59, Go.Operand.tmp 65], argTypes := #[22, 22] }, type := 22, pos := "ref.go:92", after := #[{ on := 1, ground := Go.Ground.data }, { on := 7, ground := Go.Ground.data }], guard := none }, { dst := some 67, op := Go.Op.move (Go.Operand.tmp 1), type := 3, pos := "ref.go:92", after := #[], guard := none }, { dst := some 68, op := Go.Op.buildSlice 22 1 #[(0, Go.Operand.tmp 67)], type := 22, pos := "ref.go:92", after := #[{ on := 9, ground := Go.Ground.data }], guard := none }, { dst := some 69, op := Go.Op.call { callee := Go.Callee.builtin Go.Builtin.append, args := #[Go.Operand.tmp 66, Go.Operand.tmp 68], argTypes := #[22, 22] }, type := 22, pos := "ref.go:92", after := #[{ on := 8, ground := Go.Ground.data }, { on := 10, ground := Go.Ground.data }, { on := 8, ground := Go.Ground.chain }], guard := none }, { dst := some 70, op := Go.Op.move (Go.Operand.tmp 0), type := 29, pos := "ref.go:92", after := #[], guard := none }, { dst := some 71, op := Go.Op.nilCheck (Go.Operand.tmp 70), type := 0, pos := "ref.go:92", after := #[{ on := 12, ground := Go.Ground.data }], guard := none }, { dst := some 72, op := Go.Op.fieldAddr 39 (Go.Operand.tmp 71) 3, type := 0, pos := "ref.go:92", after := #[{ on := 13, ground := Go.Ground.data }], guard := none }, { dst := some 73, op := Go.Op.load 22 (Go.Operand.tmp 72), type := 22, pos := "ref.go:92", after := #[{ on := 14, ground := Go.Ground.data }], guard := none }, { dst := some 74, op := Go.Op.move (Go.Operand.tmp 7), type := 3, pos := "ref.go:92", after := #[], guard := none }, { dst := some 75, op := Go.Op.slice 22 (Go.Operand.tmp 73) (some (Go.Operand.tmp 74)) none none, type := 22, pos := "ref.go:92", after := #[{ on := 15, ground := Go.Ground.data }, { on := 16, ground := Go.Ground.data }], guard := none }, { dst := some 76, op := Go.Op.call { callee := Go.Callee.builtin Go.Builtin.append, args := #[Go.Operand.tmp 69, Go.Operand.tmp 75], argTypes := #[22, 22] }, type := 22, pos := "ref.go:92", after := #[{ on := 11, ground := Go.Ground.data }, { on := 17, ground := Go.Ground.data }, { on := 11, ground := Go.Ground.chain }], guard := none }, { dst := some 77, op := Go.Op.nilCheck (Go.Operand.tmp 58), type := 0, pos := "ref.go:92", after := #[{ on := 0, ground := Go.Ground.data }, { on := 0, ground := Go.Ground.phase }, { on := 1, ground := Go.Ground.phase }, { on := 2, ground := Go.Ground.phase }, { on := 3, ground := Go.Ground.phase }, { on := 4, ground := Go.Ground.phase }, { on := 5, ground := Go.Ground.phase }, { on := 6, ground := Go.Ground.phase }, { on := 7, ground := Go.Ground.phase }, { on := 8, ground := Go.Ground.phase }, { on := 9, ground := Go.Ground.phase }, { on := 10, ground := Go.Ground.phase }, { on := 11, ground := Go.Ground.phase }, { on := 12, ground := Go.Ground.phase }, { on := 13, ground := Go.Ground.phase }, { on := 14, ground := Go.Ground.phase }, { on := 15, ground := Go.Ground.phase }, { on := 16, ground := Go.Ground.phase }, { on := 17, ground := Go.Ground.phase }, { on := 18, ground := Go.Ground.phase }], guard := none }, { dst := some 78, op := Go.Op.fieldAddr 39 (Go.Operand.tmp 77) 3, type := 0, pos := "ref.go:92", after := #[{ on := 19, ground := Go.Ground.data }, { on := 0, ground := Go.Ground.phase }, { on := 1, ground := Go.Ground.phase }, { on := 2, ground := Go.Ground.phase }, { on := 3, ground := Go.Ground.phase }, { on := 4, ground := Go.Ground.phase }, { on := 5, ground := Go.Ground.phase }, { on := 6, ground := Go.Ground.phase }, { on := 7, ground := Go.Ground.phase }, { on := 8, ground := Go.Ground.phase }, { on := 9, ground := Go.Ground.phase }, { on := 10, ground := Go.Ground.phase }, { on := 11, ground := Go.Ground.phase }, { on := 12, ground := Go.Ground.phase }, { on := 13, ground := Go.Ground.phase }, { on := 14, ground := Go.Ground.phase }, { on := 15, ground := Go.Ground.phase }, { on := 16, ground := Go.Ground.phase }, { on := 17, ground := Go.Ground.phase }, { on := 18, ground := Go.Ground.phase }], guard := none }]) (o := { dst := none, op := Go.Op.store 22 (Go.Operand.tmp 78) (Go.Operand.tmp 76), type := 0, pos := "ref.go:92", after := #[{ on := 20, ground := Go.Ground.data }, { on := 18, ground := Go.Ground.data }, { on := 18, ground := Go.Ground.chain }, { on := 0, ground := Go.Ground.phase }, { on := 1, ground := Go.Ground.phase }, { on := 2, ground := Go.Ground.phase }, { on := 3, ground := Go.Ground.phase }, { on := 4, ground := Go.Ground.phase }, { on := 5, ground := Go.Ground.phase }, { on := 6, ground := Go.Ground.phase }, { on := 7, ground := Go.Ground.phase }, { on := 8, ground := Go.Ground.phase }, { on := 9, ground := Go.Ground.phase }, { on := 10, ground := Go.Ground.phase }, { on := 11, ground := Go.Ground.phase }, { on := 12, ground := Go.Ground.phase }, { on := 13, ground := Go.Ground.phase }, { on := 14, ground := Go.Ground.phase }, { on := 15, ground := Go.Ground.phase }, { on := 16, ground := Go.Ground.phase }, { on := 17, ground := Go.Ground.phase }, { on := 18, ground := Go.Ground.phase }], guard := none }) (by kernel_rfl) (by kernel_rfl) rfl ?_
      have hHeld : (fun w' : World => w'.cell? ⟨Q, 3, none⟩ = some vN) W8.drew := hS0
      have K0 : Keep [] W8 W8.drew := (Keep.refl _ _).drew
      refine wpAny_of_held (S := fun w' : World => w'.cell? ⟨Q, 3, none⟩ = some vN) _ _ _ _ ?_
      refine wpAnyH_take (i := 0) (oi := { dst := some 58, op := Go.Op.move (Go.Operand.tmp 0), type := 29, pos := "ref.go:92", after := #[], guard := none }) (v := ?v1001) rfl (by kernel_rfl) (by kernel_rfl) (by kernel_rfl) (fun _ _ _ h => h) (Or.inl ⟨by rfl, ?y1001⟩) hHeld ?r1001
      case y1001 => (intro w' hSw; (try dsimp only at hSw); go_simp; (try with_reducible rfl))
      try simp only [Act.put, List.setIfInBounds_toArray, List.set_cons_zero, List.set_cons_succ]
      refine wpAnyH_take (i := 2) (oi := { dst := some 60, op := Go.Op.move (Go.Operand.tmp 0), type := 29, pos := "ref.go:92", after := #[], guard := none }) (v := ?v1002) rfl (by kernel_rfl) (by kernel_rfl) (by kernel_rfl) (fun _ _ _ h => h) (Or.inl ⟨by rfl, ?y1002⟩) hHeld ?r1002
      case y1002 => (intro w' hSw; (try dsimp only at hSw); go_simp; (try with_reducible rfl))
      try simp only [Act.put, List.setIfInBounds_toArray, List.set_cons_zero, List.set_cons_succ]
      refine wpAnyH_take (i := 3) (oi := { dst := some 61, op := Go.Op.nilCheck (Go.Operand.tmp 60), type := 0, pos := "ref.go:92", after := #[{ on := 2, ground := Go.Ground.data }], guard := none }) (v := ?v1003) rfl (by kernel_rfl) (by kernel_rfl) (by kernel_rfl) (fun _ _ _ h => h) (Or.inl ⟨by rfl, ?y1003⟩) hHeld ?r1003
      case y1003 => (intro w' hSw; (try dsimp only at hSw); go_simp; (try with_reducible rfl))
      try simp only [Act.put, List.setIfInBounds_toArray, List.set_cons_zero, List.set_cons_succ]
      refine wpAnyH_take (i := 4) (oi := { dst := some 62, op := Go.Op.fieldAddr 39 (Go.Operand.tmp 61) 3, type := 0, pos := "ref.go:92", after := #[{ on := 3, ground := Go.Ground.data }], guard := none }) (v := ?v1004) rfl (by kernel_rfl) (by kernel_rfl) (by kernel_rfl) (fun _ _ _ h => h) (Or.inl ⟨by rfl, ?y1004⟩) hHeld ?r1004
      case y1004 => (intro w' hSw; (try dsimp only at hSw); go_simp; (try with_reducible rfl))
      try simp only [Act.put, List.setIfInBounds_toArray, List.set_cons_zero, List.set_cons_succ]
      refine wpAnyH_take (i := 5) (oi := { dst := some 63, op := Go.Op.load 22 (Go.Operand.tmp 62), type := 22, pos := "ref.go:92", after := #[{ on := 4, ground := Go.Ground.data }], guard := none }) (v := ?v1005) rfl (by kernel_rfl) (by kernel_rfl) (by kernel_rfl) (fun _ _ _ h => h) (Or.inl ⟨by rfl, ?y1005⟩) hHeld ?r1005
      case y1005 => (intro w' hSw; (try dsimp only at hSw); go_simp; (try with_reducible rfl))
      try simp only [Act.put, List.setIfInBounds_toArray, List.set_cons_zero, List.set_cons_succ]
      refine wpAnyH_take (i := 6) (oi := { dst := some 64, op := Go.Op.move (Go.Operand.tmp 7), type := 3, pos := "ref.go:92", after := #[], guard := none }) (v := ?v1006) rfl (by kernel_rfl) (by kernel_rfl) (by kernel_rfl) (fun _ _ _ h => h) (Or.inl ⟨by rfl, ?y1006⟩) hHeld ?r1006
      case y1006 => (intro w' hSw; (try dsimp only at hSw); go_simp; (try with_reducible rfl))
      try simp only [Act.put, List.setIfInBounds_toArray, List.set_cons_zero, List.set_cons_succ]
      refine wpAnyH_take (i := 7) (oi := { dst := some 65, op := Go.Op.slice 22 (Go.Operand.tmp 63) none (some (Go.Operand.tmp 64)) none, type := 22, pos := "ref.go:92", after := #[{ on := 5, ground := Go.Ground.data }, { on := 6, ground := Go.Ground.data }], guard := none }) (v := ?v1007) rfl (by kernel_rfl) (by kernel_rfl) (by kernel_rfl) (fun _ _ _ h => h) (Or.inl ⟨by rfl, ?y1007⟩) hHeld ?r1007
      case y1007 => (intro w' hSw; (try dsimp only at hSw); go_simp; (try with_reducible rfl))
      try simp only [Act.put, List.setIfInBounds_toArray, List.set_cons_zero, List.set_cons_succ]
      refine wpAnyH_take (i := 9) (oi := { dst := some 67, op := Go.Op.move (Go.Operand.tmp 1), type := 3, pos := "ref.go:92", after := #[], guard := none }) (v := ?v1008) rfl (by kernel_rfl) (by kernel_rfl) (by kernel_rfl) (fun _ _ _ h => h) (Or.inl ⟨by rfl, ?y1008⟩) hHeld ?r1008
      case y1008 => (intro w' hSw; (try dsimp only at hSw); go_simp; (try with_reducible rfl))
      try simp only [Act.put, List.setIfInBounds_toArray, List.set_cons_zero, List.set_cons_succ]
      refine wpAnyH_take (i := 12) (oi := { dst := some 70, op := Go.Op.move (Go.Operand.tmp 0), type := 29, pos := "ref.go:92", after := #[], guard := none }) (v := ?v1009) rfl (by kernel_rfl) (by kernel_rfl) (by kernel_rfl) (fun _ _ _ h => h) (Or.inl ⟨by rfl, ?y1009⟩) hHeld ?r1009
      case y1009 => (intro w' hSw; (try dsimp only at hSw); go_simp; (try with_reducible rfl))
      try simp only [Act.put, List.setIfInBounds_toArray, List.set_cons_zero, List.set_cons_succ]
      refine wpAnyH_take (i := 13) (oi := { dst := some 71, op := Go.Op.nilCheck (Go.Operand.tmp 70), type := 0, pos := "ref.go:92", after := #[{ on := 12, ground := Go.Ground.data }], guard := none }) (v := ?v1010) rfl (by kernel_rfl) (by kernel_rfl) (by kernel_rfl) (fun _ _ _ h => h) (Or.inl ⟨by rfl, ?y1010⟩) hHeld ?r1010
      case y1010 => (intro w' hSw; (try dsimp only at hSw); go_simp; (try with_reducible rfl))
      try simp only [Act.put, List.setIfInBounds_toArray, List.set_cons_zero, List.set_cons_succ]
      refine wpAnyH_take (i := 14) (oi := { dst := some 72, op := Go.Op.fieldAddr 39 (Go.Operand.tmp 71) 3, type := 0, pos := "ref.go:92", after := #[{ on := 13, ground := Go.Ground.data }], guard := none }) (v := ?v1011) rfl (by kernel_rfl) (by kernel_rfl) (by kernel_rfl) (fun _ _ _ h => h) (Or.inl ⟨by rfl, ?y1011⟩) hHeld ?r1011
      case y1011 => (intro w' hSw; (try dsimp only at hSw); go_simp; (try with_reducible rfl))
      try simp only [Act.put, List.setIfInBounds_toArray, List.set_cons_zero, List.set_cons_succ]
      refine wpAnyH_take (i := 15) (oi := { dst := some 73, op := Go.Op.load 22 (Go.Operand.tmp 72), type := 22, pos := "ref.go:92", after := #[{ on := 14, ground := Go.Ground.data }], guard := none }) (v := ?v1012) rfl (by kernel_rfl) (by kernel_rfl) (by kernel_rfl) (fun _ _ _ h => h) (Or.inl ⟨by rfl, ?y1012⟩) hHeld ?r1012
      case y1012 => (intro w' hSw; (try dsimp only at hSw); go_simp; (try with_reducible rfl))
      try simp only [Act.put, List.setIfInBounds_toArray, List.set_cons_zero, List.set_cons_succ]
      refine wpAnyH_take (i := 16) (oi := { dst := some 74, op := Go.Op.move (Go.Operand.tmp 7), type := 3, pos := "ref.go:92", after := #[], guard := none }) (v := ?v1013) rfl (by kernel_rfl) (by kernel_rfl) (by kernel_rfl) (fun _ _ _ h => h) (Or.inl ⟨by rfl, ?y1013⟩) hHeld ?r1013
      case y1013 => (intro w' hSw; (try dsimp only at hSw); go_simp; (try with_reducible rfl))
      try simp only [Act.put, List.setIfInBounds_toArray, List.set_cons_zero, List.set_cons_succ]
      refine wpAnyH_take (i := 17) (oi := { dst := some 75, op := Go.Op.slice 22 (Go.Operand.tmp 73) (some (Go.Operand.tmp 74)) none none, type := 22, pos := "ref.go:92", after := #[{ on := 15, ground := Go.Ground.data }, { on := 16, ground := Go.Ground.data }], guard := none }) (v := ?v1014) rfl (by kernel_rfl) (by kernel_rfl) (by kernel_rfl) (fun _ _ _ h => h) (Or.inl ⟨by rfl, ?y1014⟩) hHeld ?r1014
      case y1014 => (intro w' hSw; (try dsimp only at hSw); go_simp; (try with_reducible rfl))
      try simp only [Act.put, List.setIfInBounds_toArray, List.set_cons_zero, List.set_cons_succ]
      refine wpAnyH_ready (rs := [1, 10]) (by kernel_rfl) (by simp) ?_
      refine AllReadyH.cons (o := { dst := some 59, op := Go.Op.buildSlice 22 0 #[], type := 22, pos := "ref.go:92", after := #[], guard := none }) rfl (fun K hK => ?_) ?_
      · go_simp
        have K1015 : Keep [] W8 (W8.drew.alloc (.cells #[] 3)) := K0.alloc _
        have own1015 : (W8.drew.alloc (.cells #[] 3)).ownsRow W8.heap.size 3 1 (.slice (some ⟨W8.heap.size, 0, none⟩) 0 0) 0 [] := by have h_ := World.ownsRow_lit (base := W8.heap.size) (e := 3) (size := 1) W8.drew #[] 0 K0.size (by decide) rfl; rwa [show W8.drew.heap.size = W8.heap.size from by first | rfl | simp] at h_
        refine hK.out _ _ ?_ (fun hHeld => ?_)
        · exact Keep.cell (a := ⟨Q, 3, none⟩) K1015 hS0 (by simp)
        clear hK K
        try simp only [Act.put, List.setIfInBounds_toArray, List.set_cons_zero, List.set_cons_succ]
        refine wpAnyH_ready (rs := [8, 10]) (by kernel_rfl) (by simp) ?_
        refine AllReadyH.cons (o := { dst := some 66, op := Go.Op.call { callee := Go.Callee.builtin Go.Builtin.append, args := #[Go.Operand.tmp 59, Go.Operand.tmp 65], argTypes := #[22, 22] }, type := 22, pos := "ref.go:92", after := #[{ on := 1, ground := Go.Ground.data }, { on := 7, ground := Go.Ground.data }], guard := none }) rfl (fun K hK => ?_) ?_
        · refine step_append_row rfl (.tmp 59) (.tmp 65) 22 rfl W8.heap.size 3 i3 (.int .i64 0) 1 8 Try.underlying22 hi3 hz30 hz31 hz32 rfl (by decide) (.slice (some ⟨W8.heap.size, 0, none⟩) 0 0) (0) [] rfl own1015 (.slice A1 (below nums n) cc1) ((below nums n)) ((nums.map (Value.int .i64)).take (below nums n * 1)) rfl (hr1.keep0 K1015) (fun u hu => ints_oneCell _ _ u (List.mem_of_mem_take hu)) (by unfold maxLen; omega) (by omega) K1015.size ?_
          intro v1016 w1016 own1016 hg1016
          have K1016 : Keep [] W8 w1016 := K1015.grown hg1016 (fun b hb => Or.inr (World.ownsRow.lt own1015 b hb).1)
          refine hK.out _ _ ?_ (fun hHeld => ?_)
          · exact Keep.cell (a := ⟨Q, 3, none⟩) K1016 hS0 (by simp)
          clear hK K
          try simp only [Act.put, List.setIfInBounds_toArray, List.set_cons_zero, List.set_cons_succ]
          refine wpAnyH_ready (rs := [10]) (by kernel_rfl) (by simp) ?_
          refine AllReadyH.cons (o := { dst := some 68, op := Go.Op.buildSlice 22 1 #[(0, Go.Operand.tmp 67)], type := 22, pos := "ref.go:92", after := #[{ on := 9, ground := Go.Ground.data }], guard := none }) rfl (fun K hK => ?_) ?_
          · go_simp
            have K1017 : Keep [] W8 (w1016.alloc (.cells #[.int .i64 n] 3)) := K1016.alloc _
            have row1017 : Row (w1016.alloc (.cells #[.int .i64 n] 3)) (.slice (some ⟨w1016.heap.size, 0, none⟩) 1 1) 3 1 1 [.int .i64 n] := by have h_ := Row.of_own (World.ownsRow_lit (base := 0) (e := 3) (size := 1) w1016 #[.int .i64 n] 1 (Nat.zero_le _) (by decide) rfl); rwa [show w1016.heap.size = w1016.heap.size from by first | rfl | simp] at h_
            have own1017 := World.ownsRow.alloc own1016 (.cells #[.int .i64 n] 3)
            refine hK.out _ _ ?_ (fun hHeld => ?_)
            · exact Keep.cell (a := ⟨Q, 3, none⟩) K1017 hS0 (by simp)
            clear hK K
            try simp only [Act.put, List.setIfInBounds_toArray, List.set_cons_zero, List.set_cons_succ]
            refine wpAnyH_ready (rs := [11]) (by kernel_rfl) (by simp) ?_
            refine AllReadyH.cons (o := { dst := some 69, op := Go.Op.call { callee := Go.Callee.builtin Go.Builtin.append, args := #[Go.Operand.tmp 66, Go.Operand.tmp 68], argTypes := #[22, 22] }, type := 22, pos := "ref.go:92", after := #[{ on := 8, ground := Go.Ground.data }, { on := 10, ground := Go.Ground.data }, { on := 8, ground := Go.Ground.chain }], guard := none }) rfl (fun K hK => ?_) ?_
            · refine step_append_row rfl (.tmp 66) (.tmp 68) 22 rfl W8.heap.size 3 i3 (.int .i64 0) 1 8 Try.underlying22 hi3 hz30 hz31 hz32 rfl (by decide) v1016 (0 + (below nums n)) ([] ++ ((nums.map (Value.int .i64)).take (below nums n * 1))) rfl own1017 (.slice (some ⟨w1016.heap.size, 0, none⟩) 1 1) (1) [.int .i64 n] rfl row1017 (by simp [Value.oneCell']) (by unfold maxLen; omega) (by omega) K1017.size ?_
              intro v1018 w1018 own1018 hg1018
              have K1018 : Keep [] W8 w1018 := K1017.grown hg1018 (fun b hb => Or.inr (World.ownsRow.lt own1017 b hb).1)
              refine hK.out _ _ ?_ (fun hHeld => ?_)
              · exact Keep.cell (a := ⟨Q, 3, none⟩) K1018 hS0 (by simp)
              clear hK K
              try simp only [Act.put, List.setIfInBounds_toArray, List.set_cons_zero, List.set_cons_succ]
              refine wpAnyH_ready (rs := [18]) (by kernel_rfl) (by simp) ?_
              refine AllReadyH.cons (o := { dst := some 76, op := Go.Op.call { callee := Go.Callee.builtin Go.Builtin.append, args := #[Go.Operand.tmp 69, Go.Operand.tmp 75], argTypes := #[22, 22] }, type := 22, pos := "ref.go:92", after := #[{ on := 11, ground := Go.Ground.data }, { on := 17, ground := Go.Ground.data }, { on := 11, ground := Go.Ground.chain }], guard := none }) rfl (fun K hK => ?_) ?_
              · refine step_append_row rfl (.tmp 69) (.tmp 75) 22 rfl W8.heap.size 3 i3 (.int .i64 0) 1 8 Try.underlying22 hi3 hz30 hz31 hz32 rfl (by decide) v1018 (0 + (below nums n) + 1) (([] ++ ((nums.map (Value.int .i64)).take (below nums n * 1))) ++ [.int .i64 n]) rfl own1018 (.slice A2 (nums.length - below nums n) cc2) ((nums.length - below nums n)) ((nums.map (Value.int .i64)).drop (below nums n * 1)) rfl (hr2.keep0 K1018) (fun u hu => ints_oneCell _ _ u (List.mem_of_mem_drop hu)) (by unfold maxLen; omega) (by omega) K1018.size ?_
                intro v1019 w1019 own1019 hg1019
                have K1019 : Keep [] W8 w1019 := K1018.grown hg1019 (fun b hb => Or.inr (World.ownsRow.lt own1018 b hb).1)
                refine hK.out _ _ ?_ (fun hHeld => ?_)
                · exact Keep.cell (a := ⟨Q, 3, none⟩) K1019 hS0 (by simp)
                clear hK K
                try simp only [Act.put, List.setIfInBounds_toArray, List.set_cons_zero, List.set_cons_succ]
                refine wpAnyH_take (i := 19) (oi := { dst := some 77, op := Go.Op.nilCheck (Go.Operand.tmp 58), type := 0, pos := "ref.go:92", after := #[{ on := 0, ground := Go.Ground.data }, { on := 0, ground := Go.Ground.phase }, { on := 1, ground := Go.Ground.phase }, { on := 2, ground := Go.Ground.phase }, { on := 3, ground := Go.Ground.phase }, { on := 4, ground := Go.Ground.phase }, { on := 5, ground := Go.Ground.phase }, { on := 6, ground := Go.Ground.phase }, { on := 7, ground := Go.Ground.phase }, { on := 8, ground := Go.Ground.phase }, { on := 9, ground := Go.Ground.phase }, { on := 10, ground := Go.Ground.phase }, { on := 11, ground := Go.Ground.phase }, { on := 12, ground := Go.Ground.phase }, { on := 13, ground := Go.Ground.phase }, { on := 14, ground := Go.Ground.phase }, { on := 15, ground := Go.Ground.phase }, { on := 16, ground := Go.Ground.phase }, { on := 17, ground := Go.Ground.phase }, { on := 18, ground := Go.Ground.phase }], guard := none }) (v := ?v1020) rfl (by kernel_rfl) (by kernel_rfl) (by kernel_rfl) (fun _ _ _ h => h) (Or.inl ⟨by rfl, ?y1020⟩) hHeld ?r1020
                case y1020 => (intro w' hSw; (try dsimp only at hSw); go_simp; (try with_reducible rfl))
                try simp only [Act.put, List.setIfInBounds_toArray, List.set_cons_zero, List.set_cons_succ]
                refine wpAnyH_take (i := 20) (oi := { dst := some 78, op := Go.Op.fieldAddr 39 (Go.Operand.tmp 77) 3, type := 0, pos := "ref.go:92", after := #[{ on := 19, ground := Go.Ground.data }, { on := 0, ground := Go.Ground.phase }, { on := 1, ground := Go.Ground.phase }, { on := 2, ground := Go.Ground.phase }, { on := 3, ground := Go.Ground.phase }, { on := 4, ground := Go.Ground.phase }, { on := 5, ground := Go.Ground.phase }, { on := 6, ground := Go.Ground.phase }, { on := 7, ground := Go.Ground.phase }, { on := 8, ground := Go.Ground.phase }, { on := 9, ground := Go.Ground.phase }, { on := 10, ground := Go.Ground.phase }, { on := 11, ground := Go.Ground.phase }, { on := 12, ground := Go.Ground.phase }, { on := 13, ground := Go.Ground.phase }, { on := 14, ground := Go.Ground.phase }, { on := 15, ground := Go.Ground.phase }, { on := 16, ground := Go.Ground.phase }, { on := 17, ground := Go.Ground.phase }, { on := 18, ground := Go.Ground.phase }], guard := none }) (v := ?v1021) rfl (by kernel_rfl) (by kernel_rfl) (by kernel_rfl) (fun _ _ _ h => h) (Or.inl ⟨by rfl, ?y1021⟩) hHeld ?r1021
                case y1021 => (intro w' hSw; (try dsimp only at hSw); go_simp; (try with_reducible rfl))
                try simp only [Act.put, List.setIfInBounds_toArray, List.set_cons_zero, List.set_cons_succ]
                refine wpAnyH_done (by kernel_rfl) ?_ _
                have L9 : 0 + (below nums n) + 1 + (nums.length - below nums n) = nums.length + 1 := by omega
                have KK := K1019
                have R9 := Row.of_own own1019
                obtain ⟨Az, cz, rfl, _, _⟩ := Row.slice R9
                rw [L9] at R9 ⊢
                clear L9
                have q3 := (KK.blk Q8 (by simp)).cell 3 _ rfl
                have q3f := (KK.blk Q8 (by simp)).froz 3
                have HKK := Lib.hid KK
                have HR9 := Lib.hid R9
                clear hHeld hr1 hr2 hs1 hs2 KK R9
                show wpList _ _ _ _ _ _
                go_wp2_with fail
                go_meet
                case rel => exact cut9 HQ8.out HKK.out rfl HR9.out (by simp)
              exact AllReadyH.nil
            exact AllReadyH.nil
          exact AllReadyH.nil
        refine AllReadyH.cons (o := { dst := some 68, op := Go.Op.buildSlice 22 1 #[(0, Go.Operand.tmp 67)], type := 22, pos := "ref.go:92", after := #[{ on := 9, ground := Go.Ground.data }], guard := none }) rfl (fun K hK => ?_) ?_
        · go_simp
          have K1022 : Keep [] W8 ((W8.drew.alloc (.cells #[] 3)).alloc (.cells #[.int .i64 n] 3)) := K1015.alloc _
          have row1022 : Row ((W8.drew.alloc (.cells #[] 3)).alloc (.cells #[.int .i64 n] 3)) (.slice (some ⟨(W8.heap.size + 1), 0, none⟩) 1 1) 3 1 1 [.int .i64 n] := by have h_ := Row.of_own (World.ownsRow_lit (base := 0) (e := 3) (size := 1) (W8.drew.alloc (.cells #[] 3)) #[.int .i64 n] 1 (Nat.zero_le _) (by decide) rfl); rwa [show (W8.drew.alloc (.cells #[] 3)).heap.size = (W8.heap.size + 1) from by first | rfl | simp] at h_
          have own1022 := World.ownsRow.alloc own1015 (.cells #[.int .i64 n] 3)
          refine hK.out _ _ ?_ (fun hHeld => ?_)
          · exact Keep.cell (a := ⟨Q, 3, none⟩) K1022 hS0 (by simp)
          clear hK K
          try simp only [Act.put, List.setIfInBounds_toArray, List.set_cons_zero, List.set_cons_succ]
          refine wpAnyH_ready (rs := [8]) (by kernel_rfl) (by simp) ?_
          refine AllReadyH.cons (o := { dst := some 66, op := Go.Op.call { callee := Go.Callee.builtin Go.Builtin.append, args := #[Go.Operand.tmp 59, Go.Operand.tmp 65], argTypes := #[22, 22] }, type := 22, pos := "ref.go:92", after := #[{ on := 1, ground := Go.Ground.data }, { on := 7, ground := Go.Ground.data }], guard := none }) rfl (fun K hK => ?_) ?_
          · refine step_append_row rfl (.tmp 59) (.tmp 65) 22 rfl W8.heap.size 3 i3 (.int .i64 0) 1 8 Try.underlying22 hi3 hz30 hz31 hz32 rfl (by decide) (.slice (some ⟨W8.heap.size, 0, none⟩) 0 0) (0) [] rfl own1022 (.slice A1 (below nums n) cc1) ((below nums n)) ((nums.map (Value.int .i64)).take (below nums n * 1)) rfl (hr1.keep0 K1022) (fun u hu => ints_oneCell _ _ u (List.mem_of_mem_take hu)) (by unfold maxLen; omega) (by omega) K1022.size ?_
            intro v1023 w1023 own1023 hg1023
            have K1023 : Keep [] W8 w1023 := K1022.grown hg1023 (fun b hb => Or.inr (World.ownsRow.lt own1022 b hb).1)
            have row1023 := Row.keepAt row1022 (Keep.of_grown hg1023) (by simp [Value.ownBlock])
            refine hK.out _ _ ?_ (fun hHeld => ?_)
            · exact Keep.cell (a := ⟨Q, 3, none⟩) K1023 hS0 (by simp)
            clear hK K
            try simp only [Act.put, List.setIfInBounds_toArray, List.set_cons_zero, List.set_cons_succ]
            refine wpAnyH_ready (rs := [11]) (by kernel_rfl) (by simp) ?_
            refine AllReadyH.cons (o := { dst := some 69, op := Go.Op.call { callee := Go.Callee.builtin Go.Builtin.append, args := #[Go.Operand.tmp 66, Go.Operand.tmp 68], argTypes := #[22, 22] }, type := 22, pos := "ref.go:92", after := #[{ on := 8, ground := Go.Ground.data }, { on := 10, ground := Go.Ground.data }, { on := 8, ground := Go.Ground.chain }], guard := none }) rfl (fun K hK => ?_) ?_
            · refine step_append_row rfl (.tmp 66) (.tmp 68) 22 rfl W8.heap.size 3 i3 (.int .i64 0) 1 8 Try.underlying22 hi3 hz30 hz31 hz32 rfl (by decide) v1023 (0 + (below nums n)) ([] ++ ((nums.map (Value.int .i64)).take (below nums n * 1))) rfl own1023 (.slice (some ⟨(W8.heap.size + 1), 0, none⟩) 1 1) (1) [.int .i64 n] rfl row1023 (by simp [Value.oneCell']) (by unfold maxLen; omega) (by omega) K1023.size ?_
              intro v1024 w1024 own1024 hg1024
              have K1024 : Keep [] W8 w1024 := K1023.grown hg1024 (fun b hb => Or.inr (World.ownsRow.lt own1023 b hb).1)
              refine hK.out _ _ ?_ (fun hHeld => ?_)
              · exact Keep.cell (a := ⟨Q, 3, none⟩) K1024 hS0 (by simp)
              clear hK K
              try simp only [Act.put, List.setIfInBounds_toArray, List.set_cons_zero, List.set_cons_succ]
              refine wpAnyH_ready (rs := [18]) (by kernel_rfl) (by simp) ?_
              refine AllReadyH.cons (o := { dst := some 76, op := Go.Op.call { callee := Go.Callee.builtin Go.Builtin.append, args := #[Go.Operand.tmp 69, Go.Operand.tmp 75], argTypes := #[22, 22] }, type := 22, pos := "ref.go:92", after := #[{ on := 11, ground := Go.Ground.data }, { on := 17, ground := Go.Ground.data }, { on := 11, ground := Go.Ground.chain }], guard := none }) rfl (fun K hK => ?_) ?_
              · refine step_append_row rfl (.tmp 69) (.tmp 75) 22 rfl W8.heap.size 3 i3 (.int .i64 0) 1 8 Try.underlying22 hi3 hz30 hz31 hz32 rfl (by decide) v1024 (0 + (below nums n) + 1) (([] ++ ((nums.map (Value.int .i64)).take (below nums n * 1))) ++ [.int .i64 n]) rfl own1024 (.slice A2 (nums.length - below nums n) cc2) ((nums.length - below nums n)) ((nums.map (Value.int .i64)).drop (below nums n * 1)) rfl (hr2.keep0 K1024) (fun u hu => ints_oneCell _ _ u (List.mem_of_mem_drop hu)) (by unfold maxLen; omega) (by omega) K1024.size ?_
                intro v1025 w1025 own1025 hg1025
                have K1025 : Keep [] W8 w1025 := K1024.grown hg1025 (fun b hb => Or.inr (World.ownsRow.lt own1024 b hb).1)
                refine hK.out _ _ ?_ (fun hHeld => ?_)
                · exact Keep.cell (a := ⟨Q, 3, none⟩) K1025 hS0 (by simp)
                clear hK K
                try simp only [Act.put, List.setIfInBounds_toArray, List.set_cons_zero, List.set_cons_succ]
                refine wpAnyH_take (i := 19) (oi := { dst := some 77, op := Go.Op.nilCheck (Go.Operand.tmp 58), type := 0, pos := "ref.go:92", after := #[{ on := 0, ground := Go.Ground.data }, { on := 0, ground := Go.Ground.phase }, { on := 1, ground := Go.Ground.phase }, { on := 2, ground := Go.Ground.phase }, { on := 3, ground := Go.Ground.phase }, { on := 4, ground := Go.Ground.phase }, { on := 5, ground := Go.Ground.phase }, { on := 6, ground := Go.Ground.phase }, { on := 7, ground := Go.Ground.phase }, { on := 8, ground := Go.Ground.phase }, { on := 9, ground := Go.Ground.phase }, { on := 10, ground := Go.Ground.phase }, { on := 11, ground := Go.Ground.phase }, { on := 12, ground := Go.Ground.phase }, { on := 13, ground := Go.Ground.phase }, { on := 14, ground := Go.Ground.phase }, { on := 15, ground := Go.Ground.phase }, { on := 16, ground := Go.Ground.phase }, { on := 17, ground := Go.Ground.phase }, { on := 18, ground := Go.Ground.phase }], guard := none }) (v := ?v1026) rfl (by kernel_rfl) (by kernel_rfl) (by kernel_rfl) (fun _ _ _ h => h) (Or.inl ⟨by rfl, ?y1026⟩) hHeld ?r1026
                case y1026 => (intro w' hSw; (try dsimp only at hSw); go_simp; (try with_reducible rfl))
                try simp only [Act.put, List.setIfInBounds_toArray, List.set_cons_zero, List.set_cons_succ]
                refine wpAnyH_take (i := 20) (oi := { dst := some 78, op := Go.Op.fieldAddr 39 (Go.Operand.tmp 77) 3, type := 0, pos := "ref.go:92", after := #[{ on := 19, ground := Go.Ground.data }, { on := 0, ground := Go.Ground.phase }, { on := 1, ground := Go.Ground.phase }, { on := 2, ground := Go.Ground.phase }, { on := 3, ground := Go.Ground.phase }, { on := 4, ground := Go.Ground.phase }, { on := 5, ground := Go.Ground.phase }, { on := 6, ground := Go.Ground.phase }, { on := 7, ground := Go.Ground.phase }, { on := 8, ground := Go.Ground.phase }, { on := 9, ground := Go.Ground.phase }, { on := 10, ground := Go.Ground.phase }, { on := 11, ground := Go.Ground.phase }, { on := 12, ground := Go.Ground.phase }, { on := 13, ground := Go.Ground.phase }, { on := 14, ground := Go.Ground.phase }, { on := 15, ground := Go.Ground.phase }, { on := 16, ground := Go.Ground.phase }, { on := 17, ground := Go.Ground.phase }, { on := 18, ground := Go.Ground.phase }], guard := none }) (v := ?v1027) rfl (by kernel_rfl) (by kernel_rfl) (by kernel_rfl) (fun _ _ _ h => h) (Or.inl ⟨by rfl, ?y1027⟩) hHeld ?r1027
                case y1027 => (intro w' hSw; (try dsimp only at hSw); go_simp; (try with_reducible rfl))
                try simp only [Act.put, List.setIfInBounds_toArray, List.set_cons_zero, List.set_cons_succ]
                refine wpAnyH_done (by kernel_rfl) ?_ _
                have L9 : 0 + (below nums n) + 1 + (nums.length - below nums n) = nums.length + 1 := by omega
                have KK := K1025
                have R9 := Row.of_own own1025
                obtain ⟨Az, cz, rfl, _, _⟩ := Row.slice R9
                rw [L9] at R9 ⊢
                clear L9
                have q3 := (KK.blk Q8 (by simp)).cell 3 _ rfl
                have q3f := (KK.blk Q8 (by simp)).froz 3
                have HKK := Lib.hid KK
                have HR9 := Lib.hid R9
                clear hHeld hr1 hr2 hs1 hs2 KK R9
                show wpList _ _ _ _ _ _
                go_wp2_with fail
                go_meet
                case rel => exact cut9 HQ8.out HKK.out rfl HR9.out (by simp)
              exact AllReadyH.nil
            exact AllReadyH.nil
          exact AllReadyH.nil
        exact AllReadyH.nil
      refine AllReadyH.cons (o := { dst := some 68, op := Go.Op.buildSlice 22 1 #[(0, Go.Operand.tmp 67)], type := 22, pos := "ref.go:92", after := #[{ on := 9, ground := Go.Ground.data }], guard := none }) rfl (fun K hK => ?_) ?_
      · go_simp
        have K1028 : Keep [] W8 (W8.drew.alloc (.cells #[.int .i64 n] 3)) := K0.alloc _
        have row1028 : Row (W8.drew.alloc (.cells #[.int .i64 n] 3)) (.slice (some ⟨W8.heap.size, 0, none⟩) 1 1) 3 1 1 [.int .i64 n] := by have h_ := Row.of_own (World.ownsRow_lit (base := 0) (e := 3) (size := 1) W8.drew #[.int .i64 n] 1 (Nat.zero_le _) (by decide) rfl); rwa [show W8.drew.heap.size = W8.heap.size from by first | rfl | simp] at h_
        refine hK.out _ _ ?_ (fun hHeld => ?_)
        · exact Keep.cell (a := ⟨Q, 3, none⟩) K1028 hS0 (by simp)
        clear hK K
        try simp only [Act.put, List.setIfInBounds_toArray, List.set_cons_zero, List.set_cons_succ]
        refine wpAnyH_ready (rs := [1]) (by kernel_rfl) (by simp) ?_
        refine AllReadyH.cons (o := { dst := some 59, op := Go.Op.buildSlice 22 0 #[], type := 22, pos := "ref.go:92", after := #[], guard := none }) rfl (fun K hK => ?_) ?_
        · go_simp
          have K1029 : Keep [] W8 ((W8.drew.alloc (.cells #[.int .i64 n] 3)).alloc (.cells #[] 3)) := K1028.alloc _
          have own1029 : ((W8.drew.alloc (.cells #[.int .i64 n] 3)).alloc (.cells #[] 3)).ownsRow W8.heap.size 3 1 (.slice (some ⟨(W8.heap.size + 1), 0, none⟩) 0 0) 0 [] := by have h_ := World.ownsRow_lit (base := W8.heap.size) (e := 3) (size := 1) (W8.drew.alloc (.cells #[.int .i64 n] 3)) #[] 0 K1028.size (by decide) rfl; rwa [show (W8.drew.alloc (.cells #[.int .i64 n] 3)).heap.size = (W8.heap.size + 1) from by first | rfl | simp] at h_
          have row1029 := row1028.keep0 ((Keep.refl [] _).alloc (.cells #[] 3))
          refine hK.out _ _ ?_ (fun hHeld => ?_)
          · exact Keep.cell (a := ⟨Q, 3, none⟩) K1029 hS0 (by simp)
          clear hK K
          try simp only [Act.put, List.setIfInBounds_toArray, List.set_cons_zero, List.set_cons_succ]
          refine wpAnyH_ready (rs := [8]) (by kernel_rfl) (by simp) ?_
          refine AllReadyH.cons (o := { dst := some 66, op := Go.Op.call { callee := Go.Callee.builtin Go.Builtin.append, args := #[Go.Operand.tmp 59, Go.Operand.tmp 65], argTypes := #[22, 22] }, type := 22, pos := "ref.go:92", after := #[{ on := 1, ground := Go.Ground.data }, { on := 7, ground := Go.Ground.data }], guard := none }) rfl (fun K hK => ?_) ?_
          · refine step_append_row rfl (.tmp 59) (.tmp 65) 22 rfl W8.heap.size 3 i3 (.int .i64 0) 1 8 Try.underlying22 hi3 hz30 hz31 hz32 rfl (by decide) (.slice (some ⟨(W8.heap.size + 1), 0, none⟩) 0 0) (0) [] rfl own1029 (.slice A1 (below nums n) cc1) ((below nums n)) ((nums.map (Value.int .i64)).take (below nums n * 1)) rfl (hr1.keep0 K1029) (fun u hu => ints_oneCell _ _ u (List.mem_of_mem_take hu)) (by unfold maxLen; omega) (by omega) K1029.size ?_
            intro v1030 w1030 own1030 hg1030
            have K1030 : Keep [] W8 w1030 := K1029.grown hg1030 (fun b hb => Or.inr (World.ownsRow.lt own1029 b hb).1)
            have row1030 := Row.keepAt row1029 (Keep.of_grown hg1030) (by simp [Value.ownBlock])
            refine hK.out _ _ ?_ (fun hHeld => ?_)
            · exact Keep.cell (a := ⟨Q, 3, none⟩) K1030 hS0 (by simp)
            clear hK K
            try simp only [Act.put, List.setIfInBounds_toArray, List.set_cons_zero, List.set_cons_succ]
            refine wpAnyH_ready (rs := [11]) (by kernel_rfl) (by simp) ?_
            refine AllReadyH.cons (o := { dst := some 69, op := Go.Op.call { callee := Go.Callee.builtin Go.Builtin.append, args := #[Go.Operand.tmp 66, Go.Operand.tmp 68], argTypes := #[22, 22] }, type := 22, pos := "ref.go:92", after := #[{ on := 8, ground := Go.Ground.data }, { on := 10, ground := Go.Ground.data }, { on := 8, ground := Go.Ground.chain }], guard := none }) rfl (fun K hK => ?_) ?_
            · refine step_append_row rfl (.tmp 66) (.tmp 68) 22 rfl W8.heap.size 3 i3 (.int .i64 0) 1 8 Try.underlying22 hi3 hz30 hz31 hz32 rfl (by decide) v1030 (0 + (below nums n)) ([] ++ ((nums.map (Value.int .i64)).take (below nums n * 1))) rfl own1030 (.slice (some ⟨W8.heap.size, 0, none⟩) 1 1) (1) [.int .i64 n] rfl row1030 (by simp [Value.oneCell']) (by unfold maxLen; omega) (by omega) K1030.size ?_
              intro v1031 w1031 own1031 hg1031
              have K1031 : Keep [] W8 w1031 := K1030.grown hg1031 (fun b hb => Or.inr (World.ownsRow.lt own1030 b hb).1)
              refine hK.out _ _ ?_ (fun hHeld => ?_)
              · exact Keep.cell (a := ⟨Q, 3, none⟩) K1031 hS0 (by simp)
              clear hK K
              try simp only [Act.put, List.setIfInBounds_toArray, List.set_cons_zero, List.set_cons_succ]
              refine wpAnyH_ready (rs := [18]) (by kernel_rfl) (by simp) ?_
              refine AllReadyH.cons (o := { dst := some 76, op := Go.Op.call { callee := Go.Callee.builtin Go.Builtin.append, args := #[Go.Operand.tmp 69, Go.Operand.tmp 75], argTypes := #[22, 22] }, type := 22, pos := "ref.go:92", after := #[{ on := 11, ground := Go.Ground.data }, { on := 17, ground := Go.Ground.data }, { on := 11, ground := Go.Ground.chain }], guard := none }) rfl (fun K hK => ?_) ?_
              · refine step_append_row rfl (.tmp 69) (.tmp 75) 22 rfl W8.heap.size 3 i3 (.int .i64 0) 1 8 Try.underlying22 hi3 hz30 hz31 hz32 rfl (by decide) v1031 (0 + (below nums n) + 1) (([] ++ ((nums.map (Value.int .i64)).take (below nums n * 1))) ++ [.int .i64 n]) rfl own1031 (.slice A2 (nums.length - below nums n) cc2) ((nums.length - below nums n)) ((nums.map (Value.int .i64)).drop (below nums n * 1)) rfl (hr2.keep0 K1031) (fun u hu => ints_oneCell _ _ u (List.mem_of_mem_drop hu)) (by unfold maxLen; omega) (by omega) K1031.size ?_
                intro v1032 w1032 own1032 hg1032
                have K1032 : Keep [] W8 w1032 := K1031.grown hg1032 (fun b hb => Or.inr (World.ownsRow.lt own1031 b hb).1)
                refine hK.out _ _ ?_ (fun hHeld => ?_)
                · exact Keep.cell (a := ⟨Q, 3, none⟩) K1032 hS0 (by simp)
                clear hK K
                try simp only [Act.put, List.setIfInBounds_toArray, List.set_cons_zero, List.set_cons_succ]
                refine wpAnyH_take (i := 19) (oi := { dst := some 77, op := Go.Op.nilCheck (Go.Operand.tmp 58), type := 0, pos := "ref.go:92", after := #[{ on := 0, ground := Go.Ground.data }, { on := 0, ground := Go.Ground.phase }, { on := 1, ground := Go.Ground.phase }, { on := 2, ground := Go.Ground.phase }, { on := 3, ground := Go.Ground.phase }, { on := 4, ground := Go.Ground.phase }, { on := 5, ground := Go.Ground.phase }, { on := 6, ground := Go.Ground.phase }, { on := 7, ground := Go.Ground.phase }, { on := 8, ground := Go.Ground.phase }, { on := 9, ground := Go.Ground.phase }, { on := 10, ground := Go.Ground.phase }, { on := 11, ground := Go.Ground.phase }, { on := 12, ground := Go.Ground.phase }, { on := 13, ground := Go.Ground.phase }, { on := 14, ground := Go.Ground.phase }, { on := 15, ground := Go.Ground.phase }, { on := 16, ground := Go.Ground.phase }, { on := 17, ground := Go.Ground.phase }, { on := 18, ground := Go.Ground.phase }], guard := none }) (v := ?v1033) rfl (by kernel_rfl) (by kernel_rfl) (by kernel_rfl) (fun _ _ _ h => h) (Or.inl ⟨by rfl, ?y1033⟩) hHeld ?r1033
                case y1033 => (intro w' hSw; (try dsimp only at hSw); go_simp; (try with_reducible rfl))
                try simp only [Act.put, List.setIfInBounds_toArray, List.set_cons_zero, List.set_cons_succ]
                refine wpAnyH_take (i := 20) (oi := { dst := some 78, op := Go.Op.fieldAddr 39 (Go.Operand.tmp 77) 3, type := 0, pos := "ref.go:92", after := #[{ on := 19, ground := Go.Ground.data }, { on := 0, ground := Go.Ground.phase }, { on := 1, ground := Go.Ground.phase }, { on := 2, ground := Go.Ground.phase }, { on := 3, ground := Go.Ground.phase }, { on := 4, ground := Go.Ground.phase }, { on := 5, ground := Go.Ground.phase }, { on := 6, ground := Go.Ground.phase }, { on := 7, ground := Go.Ground.phase }, { on := 8, ground := Go.Ground.phase }, { on := 9, ground := Go.Ground.phase }, { on := 10, ground := Go.Ground.phase }, { on := 11, ground := Go.Ground.phase }, { on := 12, ground := Go.Ground.phase }, { on := 13, ground := Go.Ground.phase }, { on := 14, ground := Go.Ground.phase }, { on := 15, ground := Go.Ground.phase }, { on := 16, ground := Go.Ground.phase }, { on := 17, ground := Go.Ground.phase }, { on := 18, ground := Go.Ground.phase }], guard := none }) (v := ?v1034) rfl (by kernel_rfl) (by kernel_rfl) (by kernel_rfl) (fun _ _ _ h => h) (Or.inl ⟨by rfl, ?y1034⟩) hHeld ?r1034
                case y1034 => (intro w' hSw; (try dsimp only at hSw); go_simp; (try with_reducible rfl))
                try simp only [Act.put, List.setIfInBounds_toArray, List.set_cons_zero, List.set_cons_succ]
                refine wpAnyH_done (by kernel_rfl) ?_ _
                have L9 : 0 + (below nums n) + 1 + (nums.length - below nums n) = nums.length + 1 := by omega
                have KK := K1032
                have R9 := Row.of_own own1032
                obtain ⟨Az, cz, rfl, _, _⟩ := Row.slice R9
                rw [L9] at R9 ⊢
                clear L9
                have q3 := (KK.blk Q8 (by simp)).cell 3 _ rfl
                have q3f := (KK.blk Q8 (by simp)).froz 3
                have HKK := Lib.hid KK
                have HR9 := Lib.hid R9
                clear hHeld hr1 hr2 hs1 hs2 KK R9
                show wpList _ _ _ _ _ _
                go_wp2_with fail
                go_meet
                case rel => exact cut9 HQ8.out HKK.out rfl HR9.out (by simp)
              exact AllReadyH.nil
            exact AllReadyH.nil
          exact AllReadyH.nil
        exact AllReadyH.nil
      exact AllReadyH.nil
    case rest =>
      obtain ⟨A', c', K9, Q9, N9⟩ := hcut
      obtain ⟨W9, hW9⟩ : ∃ W, W = wc := ⟨_, rfl⟩
      rw [← hW9] at K9 Q9 N9 ⊢
      clear hW9 hS0 hs1 hs2
      have e33 : ∀ b ∈ [Q], ∀ cs, ¬ BlkR W8 b 33 cs := by intro b hb cs hc; simp only [List.mem_singleton] at hb; subst hb; exact HQ8.out.neR hc (by decide) rfl
      have e5 : ∀ b ∈ [Q], ∀ cs, ¬ BlkR W8 b 5 cs := by intro b hb cs hc; simp only [List.mem_singleton] at hb; subst hb; exact HQ8.out.neR hc (by decide) rfl
      have hPQ : w.heap.size ∉ [Q] := by simp only [List.mem_singleton]; omega
      have P9 := K9.blk HP8.out hPQ
      have B9 := HB8.out.keep K9 e5
      obtain ⟨items, hit, hRow, hby⟩ := (HA.out.hR.keep HK8.out (by simp) (by simp)).keep K9 e33 e5
      have hil : items.length = nums.length := by rw [← hlr, ← hit, List.length_map]
      rw [hil] at hRow
      obtain ⟨i33, hi33, hz330, hz331, hz332⟩ := info_parts Try.info33
      obtain ⟨v1, hs1, hr1⟩ := Row.to_ hRow Try.underlying37 hi33 hz331 (below nums n) hbl
      obtain ⟨A1, cc1, rfl, _, _⟩ := Row.slice hr1
      obtain ⟨v2, hs2, hr2⟩ := Row.from_ hRow Try.underlying37 hi33 hz331 (below nums n) hbl
      obtain ⟨A2, cc2, rfl, _, _⟩ := Row.slice hr2
      have hS0 : W9.cell? ⟨Q, 4, none⟩ = some vR ∧ W9.cell? ⟨w.heap.size, 0, none⟩ = some (.slice A8 r.out.length c8) ∧ W9.cell? ⟨w.heap.size, 1, none⟩ = some (.int .i64 r.st) ∧ W9.cell? ⟨w.heap.size, 2, none⟩ = some (.int .i64 r.rec_) := ⟨Q9.cell 4 _ rfl, P9.cell 0 _ rfl, P9.cell 1 _ rfl, P9.cell 2 _ rfl⟩
      have ho : ∀ u ∈ cellsOf items, u.oneCell' = true := cellsOf_oneCell items hby
      have HQ9 := Lib.hid Q9
      have HN9 := Lib.hid N9
      have HB9 := Lib.hid B9
      have HIT := Lib.hid hit
      have HBY := Lib.hid hby
      have HK9 := Lib.hid K9
      have HIL := Lib.hid hil
      have HO := Lib.hid ho
      have Hr1 := Lib.hid hr1
      have Hr2 := Lib.hid hr2
      clear P9 B9 hRow hby hit K9 N9 Q9 hr1 hr2 e33 e5 hil ho hPQ
      go_wp2_with fail
      have hr1 := Hr1.out
      have hr2 := Hr2.out
      have Q9 := HQ9.out
      have ho := HO.out
      refine wp_region_last (N := 21) (l := [{ dst := some 79, op := Go.Op.move (Go.Operand.tmp 0), type := 29, pos := "ref.go:93", after := #[], guard := none }, { dst := some 80, op := Go.Op.buildSlice 37 0 #[], type := 37, pos := "ref.go:93", after := #[], guard := none }, { dst := some 81, op := Go.Op.move (Go.Operand.tmp 0), type := 29, pos := "ref.go:93", after := #[], guard := none }, { dst := some 82, op := Go.Op.nilCheck (Go.Operand.tmp 81), type := 0, pos := "ref.go:93", after := #[{ on := 2, ground := Go.Ground.data }], guard := none }, { dst := some 83, op := Go.Op.fieldAddr 39 (Go.Operand.tmp 82) 4, type := 0, pos := "ref.go:93", after := #[{ on := 3, ground := Go.Ground.data }], guard := none }, { dst := some 84, op := Go.Op.load 37 (Go.Operand.tmp 83), type := 37, pos := "ref.go:93", after := #[{ on := 4, ground := Go.Ground.data }], guard := none }, { dst := some 85, op := Go.Op.move (Go.Operand.tmp 7), type := 3, pos := "ref.go:93", after := #[], guard := none }, { dst := some 86, op := Go.Op.slice 37 (Go.Operand.tmp 84) none (some (Go.Operand.tmp 85)) none, type := 37, pos := "ref.go:93", after := #[{ on := 5, ground := Go.Ground.data }, { on := 6, ground := Go.Ground.data }], guard := none }, { dst := some 87, op := Go.Op.call { callee := Go.Callee.builtin Go.Builtin.append, args := #[Go.Operand.tmp 80, Go.Operand.tmp 86], argTypes := #[37, 37] }, type := 37, pos := "ref.go:93", after := #[{ on := 1, ground := Go.Ground.data }, { on := 7, ground := Go.Ground.data }], guard := none }, { dst := some 88, op := Go.Op.load 33 (Go.Operand.tmp 5), type := 33, pos := "ref.go:93", after := #[], guard := none }, { dst := some 89, op := Go.Op.buildSlice 37 1 #[(0, Go.Operand.tmp 88)], type := 37, pos := "ref.go:93", after := #[{ on := 9, ground := Go.Ground.data }], guard := none }, { dst := some 90, op := Go.Op.call { callee := Go.Callee.builtin Go.Builtin.append, args := #[Go.Operand.tmp 87, Go.Operand.tmp 89], argTypes := #[37, 37] }, type := 37, pos := "ref.go:93", after := #[{ on := 8, ground := Go.Ground.data }, { on := 10, ground := Go.Ground.data }, { on := 8, ground := Go.Ground.chain }], guard := none }, { dst := some 91, op := Go.Op.move (Go.Operand.tmp 0), type := 29, pos := "ref.go:93", after := #[], guard := none }, { dst := some 92, op := Go.Op.nilCheck (Go.Operand.tmp 91), type := 0, pos := "ref.go:93", after := #[{ on := 12, ground := Go.Ground.data }], guard := none }, { dst := some 93, op := Go.Op.fieldAddr 39 (Go.Operand.tmp 92) 4, type := 0, pos := "ref.go:93", after := #[{ on := 13, ground := Go.Ground.data }], guard := none }, { dst := some 94, op := Go.Op.load 37 (Go.Operand.tmp 93), type := 37, pos := "ref.go:93", after := #[{ on := 14, ground := Go.Ground.data }], guard := none }, { dst := some 95, op := Go.Op.move (Go.Operand.tmp 7), type := 3, pos := "ref.go:93", after := #[], guard := none }, { dst := some 96, op := Go.Op.slice 37 (Go.Operand.tmp 94) (some (Go.Operand.tmp 95)) none none, type := 37, pos := "ref.go:93", after := #[{ on := 15, ground := Go.Ground.data }, { on := 16, ground := Go.Ground.data }], guard := none }, { dst := some 97, op := Go.Op.call { callee := Go.Callee.builtin Go.Builtin.append, args := #[Go.Operand.tmp 90, Go.Operand.tmp 96], argTypes := #[37, 37] }, type := 37, pos := "ref.go:93", after := #[{ on := 11, ground := Go.Ground.data }, { on := 17, ground := Go.Ground.data }, { on := 11, ground := Go.Ground.chain }], guard := none }, { dst := some 98, op := Go.Op.nilCheck (Go.Operand.tmp 79), type := 0, pos := "ref.go:93", after := #[{ on := 0, ground := Go.Ground.data }, { on := 0, ground := Go.Ground.phase }, { on := 1, ground := Go.Ground.phase }, { on := 2, ground := Go.Ground.phase }, { on := 3, ground := Go.Ground.phase }, { on := 4, ground := Go.Ground.phase }, { on := 5, ground := Go.Ground.phase }, { on := 6, ground := Go.Ground.phase }, { on := 7, ground := Go.Ground.phase }, { on := 8, ground := Go.Ground.phase }, { on := 9, ground := Go.Ground.phase }, { on := 10, ground := Go.Ground.phase }, { on := 11, ground := Go.Ground.phase }, { on := 12, ground := Go.Ground.phase }, { on := 13, ground := Go.Ground.phase }, { on := 14, ground := Go.Ground.phase }, { on := 15, ground := Go.Ground.phase }, { on := 16, ground := Go.Ground.phase }, { on := 17, ground := Go.Ground.phase }, { on := 18, ground := Go.Ground.phase }], guard := none }, { dst := some 99, op := Go.Op.fieldAddr 39 (Go.Operand.tmp 98) 4, type := 0, pos := "ref.go:93", after := #[{ on := 19, ground := Go.Ground.data }, { on := 0, ground := Go.Ground.phase }, { on := 1, ground := Go.Ground.phase }, { on := 2, ground := Go.Ground.phase }, { on := 3, ground := Go.Ground.phase }, { on := 4, ground := Go.Ground.phase }, { on := 5, ground := Go.Ground.phase }, { on := 6, ground := Go.Ground.phase }, { on := 7, ground := Go.Ground.phase }, { on := 8, ground := Go.Ground.phase }, { on := 9, ground := Go.Ground.phase }, { on := 10, ground := Go.Ground.phase }, { on := 11, ground := Go.Ground.phase }, { on := 12, ground := Go.Ground.phase }, { on := 13, ground := Go.Ground.phase }, { on := 14, ground := Go.Ground.phase }, { on := 15, ground := Go.Ground.phase }, { on := 16, ground := Go.Ground.phase }, { on := 17, ground := Go.Ground.phase }, { on := 18, ground := Go.Ground.phase }], guard := none }]) (o := { dst := none, op := Go.Op.store 37 (Go.Operand.tmp 99) (Go.Operand.tmp 97), type := 0, pos := "ref.go:93", after := #[{ on := 20, ground := Go.Ground.data }, { on := 18, ground := Go.Ground.data }, { on := 18, ground := Go.Ground.chain }, { on := 0, ground := Go.Ground.phase }, { on := 1, ground := Go.Ground.phase }, { on := 2, ground := Go.Ground.phase }, { on := 3, ground := Go.Ground.phase }, { on := 4, ground := Go.Ground.phase }, { on := 5, ground := Go.Ground.phase }, { on := 6, ground := Go.Ground.phase }, { on := 7, ground := Go.Ground.phase }, { on := 8, ground := Go.Ground.phase }, { on := 9, ground := Go.Ground.phase }, { on := 10, ground := Go.Ground.phase }, { on := 11, ground := Go.Ground.phase }, { on := 12, ground := Go.Ground.phase }, { on := 13, ground := Go.Ground.phase }, { on := 14, ground := Go.Ground.phase }, { on := 15, ground := Go.Ground.phase }, { on := 16, ground := Go.Ground.phase }, { on := 17, ground := Go.Ground.phase }, { on := 18, ground := Go.Ground.phase }], guard := none }) (by kernel_rfl) (by kernel_rfl) rfl ?_
      have hHeld : (fun w' : World => w'.cell? ⟨Q, 4, none⟩ = some vR ∧ w'.cell? ⟨w.heap.size, 0, none⟩ = some (.slice A8 r.out.length c8) ∧ w'.cell? ⟨w.heap.size, 1, none⟩ = some (.int .i64 r.st) ∧ w'.cell? ⟨w.heap.size, 2, none⟩ = some (.int .i64 r.rec_)) W9.drew := hS0
      have K0 : Keep [] W9 W9.drew := (Keep.refl _ _).drew
      refine wpAny_of_held (S := fun w' : World => w'.cell? ⟨Q, 4, none⟩ = some vR ∧ w'.cell? ⟨w.heap.size, 0, none⟩ = some (.slice A8 r.out.length c8) ∧ w'.cell? ⟨w.heap.size, 1, none⟩ = some (.int .i64 r.st) ∧ w'.cell? ⟨w.heap.size, 2, none⟩ = some (.int .i64 r.rec_)) _ _ _ _ ?_
      refine wpAnyH_take (i := 0) (oi := { dst := some 79, op := Go.Op.move (Go.Operand.tmp 0), type := 29, pos := "ref.go:93", after := #[], guard := none }) (v := ?v2001) rfl (by kernel_rfl) (by kernel_rfl) (by kernel_rfl) (fun _ _ _ h => h) (Or.inl ⟨by rfl, ?y2001⟩) hHeld ?r2001
      case y2001 => (intro w' hSw; (try dsimp only at hSw); go_simp; (try with_reducible rfl))
      try simp only [Act.put, List.setIfInBounds_toArray, List.set_cons_zero, List.set_cons_succ]
      refine wpAnyH_take (i := 2) (oi := { dst := some 81, op := Go.Op.move (Go.Operand.tmp 0), type := 29, pos := "ref.go:93", after := #[], guard := none }) (v := ?v2002) rfl (by kernel_rfl) (by kernel_rfl) (by kernel_rfl) (fun _ _ _ h => h) (Or.inl ⟨by rfl, ?y2002⟩) hHeld ?r2002
      case y2002 => (intro w' hSw; (try dsimp only at hSw); go_simp; (try with_reducible rfl))
      try simp only [Act.put, List.setIfInBounds_toArray, List.set_cons_zero, List.set_cons_succ]
      refine wpAnyH_take (i := 3) (oi := { dst := some 82, op := Go.Op.nilCheck (Go.Operand.tmp 81), type := 0, pos := "ref.go:93", after := #[{ on := 2, ground := Go.Ground.data }], guard := none }) (v := ?v2003) rfl (by kernel_rfl) (by kernel_rfl) (by kernel_rfl) (fun _ _ _ h => h) (Or.inl ⟨by rfl, ?y2003⟩) hHeld ?r2003
      case y2003 => (intro w' hSw; (try dsimp only at hSw); go_simp; (try with_reducible rfl))
      try simp only [Act.put, List.setIfInBounds_toArray, List.set_cons_zero, List.set_cons_succ]
      refine wpAnyH_take (i := 4) (oi := { dst := some 83, op := Go.Op.fieldAddr 39 (Go.Operand.tmp 82) 4, type := 0, pos := "ref.go:93", after := #[{ on := 3, ground := Go.Ground.data }], guard := none }) (v := ?v2004) rfl (by kernel_rfl) (by kernel_rfl) (by kernel_rfl) (fun _ _ _ h => h) (Or.inl ⟨by rfl, ?y2004⟩) hHeld ?r2004
      case y2004 => (intro w' hSw; (try dsimp only at hSw); go_simp; (try with_reducible rfl))
      try simp only [Act.put, List.setIfInBounds_toArray, List.set_cons_zero, List.set_cons_succ]
      refine wpAnyH_take (i := 5) (oi := { dst := some 84, op := Go.Op.load 37 (Go.Operand.tmp 83), type := 37, pos := "ref.go:93", after := #[{ on := 4, ground := Go.Ground.data }], guard := none }) (v := ?v2005) rfl (by kernel_rfl) (by kernel_rfl) (by kernel_rfl) (fun _ _ _ h => h) (Or.inl ⟨by rfl, ?y2005⟩) hHeld ?r2005
      case y2005 => (intro w' hSw; (try dsimp only at hSw); go_simp; (try with_reducible rfl))
      try simp only [Act.put, List.setIfInBounds_toArray, List.set_cons_zero, List.set_cons_succ]
      refine wpAnyH_take (i := 6) (oi := { dst := some 85, op := Go.Op.move (Go.Operand.tmp 7), type := 3, pos := "ref.go:93", after := #[], guard := none }) (v := ?v2006) rfl (by kernel_rfl) (by kernel_rfl) (by kernel_rfl) (fun _ _ _ h => h) (Or.inl ⟨by rfl, ?y2006⟩) hHeld ?r2006
      case y2006 => (intro w' hSw; (try dsimp only at hSw); go_simp; (try with_reducible rfl))
      try simp only [Act.put, List.setIfInBounds_toArray, List.set_cons_zero, List.set_cons_succ]
      refine wpAnyH_take (i := 7) (oi := { dst := some 86, op := Go.Op.slice 37 (Go.Operand.tmp 84) none (some (Go.Operand.tmp 85)) none, type := 37, pos := "ref.go:93", after := #[{ on := 5, ground := Go.Ground.data }, { on := 6, ground := Go.Ground.data }], guard := none }) (v := ?v2007) rfl (by kernel_rfl) (by kernel_rfl) (by kernel_rfl) (fun _ _ _ h => h) (Or.inl ⟨by rfl, ?y2007⟩) hHeld ?r2007
      case y2007 => (intro w' hSw; (try dsimp only at hSw); go_simp; (try with_reducible rfl))
      try simp only [Act.put, List.setIfInBounds_toArray, List.set_cons_zero, List.set_cons_succ]
      refine wpAnyH_take (i := 9) (oi := { dst := some 88, op := Go.Op.load 33 (Go.Operand.tmp 5), type := 33, pos := "ref.go:93", after := #[], guard := none }) (v := ?v2008) rfl (by kernel_rfl) (by kernel_rfl) (by kernel_rfl) (fun _ _ _ h => h) (Or.inl ⟨by rfl, ?y2008⟩) hHeld ?r2008
      case y2008 => (intro w' hSw; (try dsimp only at hSw); go_simp; (try with_reducible rfl))
      try simp only [Act.put, List.setIfInBounds_toArray, List.set_cons_zero, List.set_cons_succ]
      refine wpAnyH_take (i := 12) (oi := { dst := some 91, op := Go.Op.move (Go.Operand.tmp 0), type := 29, pos := "ref.go:93", after := #[], guard := none }) (v := ?v2009) rfl (by kernel_rfl) (by kernel_rfl) (by kernel_rfl) (fun _ _ _ h => h) (Or.inl ⟨by rfl, ?y2009⟩) hHeld ?r2009
      case y2009 => (intro w' hSw; (try dsimp only at hSw); go_simp; (try with_reducible rfl))
      try simp only [Act.put, List.setIfInBounds_toArray, List.set_cons_zero, List.set_cons_succ]
      refine wpAnyH_take (i := 13) (oi := { dst := some 92, op := Go.Op.nilCheck (Go.Operand.tmp 91), type := 0, pos := "ref.go:93", after := #[{ on := 12, ground := Go.Ground.data }], guard := none }) (v := ?v2010) rfl (by kernel_rfl) (by kernel_rfl) (by kernel_rfl) (fun _ _ _ h => h) (Or.inl ⟨by rfl, ?y2010⟩) hHeld ?r2010
      case y2010 => (intro w' hSw; (try dsimp only at hSw); go_simp; (try with_reducible rfl))
      try simp only [Act.put, List.setIfInBounds_toArray, List.set_cons_zero, List.set_cons_succ]
      refine wpAnyH_take (i := 14) (oi := { dst := some 93, op := Go.Op.fieldAddr 39 (Go.Operand.tmp 92) 4, type := 0, pos := "ref.go:93", after := #[{ on := 13, ground := Go.Ground.data }], guard := none }) (v := ?v2011) rfl (by kernel_rfl) (by kernel_rfl) (by kernel_rfl) (fun _ _ _ h => h) (Or.inl ⟨by rfl, ?y2011⟩) hHeld ?r2011
      case y2011 => (intro w' hSw; (try dsimp only at hSw); go_simp; (try with_reducible rfl))
      try simp only [Act.put, List.setIfInBounds_toArray, List.set_cons_zero, List.set_cons_succ]
      refine wpAnyH_take (i := 15) (oi := { dst := some 94, op := Go.Op.load 37 (Go.Operand.tmp 93), type := 37, pos := "ref.go:93", after := #[{ on := 14, ground := Go.Ground.data }], guard := none }) (v := ?v2012) rfl (by kernel_rfl) (by kernel_rfl) (by kernel_rfl) (fun _ _ _ h => h) (Or.inl ⟨by rfl, ?y2012⟩) hHeld ?r2012
      case y2012 => (intro w' hSw; (try dsimp only at hSw); go_simp; (try with_reducible rfl))
      try simp only [Act.put, List.setIfInBounds_toArray, List.set_cons_zero, List.set_cons_succ]
      refine wpAnyH_take (i := 16) (oi := { dst := some 95, op := Go.Op.move (Go.Operand.tmp 7), type := 3, pos := "ref.go:93", after := #[], guard := none }) (v := ?v2013) rfl (by kernel_rfl) (by kernel_rfl) (by kernel_rfl) (fun _ _ _ h => h) (Or.inl ⟨by rfl, ?y2013⟩) hHeld ?r2013
      case y2013 => (intro w' hSw; (try dsimp only at hSw); go_simp; (try with_reducible rfl))
      try simp only [Act.put, List.setIfInBounds_toArray, List.set_cons_zero, List.set_cons_succ]
      refine wpAnyH_take (i := 17) (oi := { dst := some 96, op := Go.Op.slice 37 (Go.Operand.tmp 94) (some (Go.Operand.tmp 95)) none none, type := 37, pos := "ref.go:93", after := #[{ on := 15, ground := Go.Ground.data }, { on := 16, ground := Go.Ground.data }], guard := none }) (v := ?v2014) rfl (by kernel_rfl) (by kernel_rfl) (by kernel_rfl) (fun _ _ _ h => h) (Or.inl ⟨by rfl, ?y2014⟩) hHeld ?r2014
      case y2014 => (intro w' hSw; (try dsimp only at hSw); go_simp; (try with_reducible rfl))
      try simp only [Act.put, List.setIfInBounds_toArray, List.set_cons_zero, List.set_cons_succ]
      refine wpAnyH_ready (rs := [1, 10]) (by kernel_rfl) (by simp) ?_
      refine AllReadyH.cons (o := { dst := some 80, op := Go.Op.buildSlice 37 0 #[], type := 37, pos := "ref.go:93", after := #[], guard := none }) rfl (fun K hK => ?_) ?_
      · go_simp
        have K2015 : Keep [] W9 (W9.drew.alloc (.cells #[] 33)) := K0.alloc _
        have own2015 : (W9.drew.alloc (.cells #[] 33)).ownsRow W9.heap.size 33 3 (.slice (some ⟨W9.heap.size, 0, none⟩) 0 0) 0 [] := by have h_ := World.ownsRow_lit (base := W9.heap.size) (e := 33) (size := 3) W9.drew #[] 0 K0.size (by decide) rfl; rwa [show W9.drew.heap.size = W9.heap.size from by first | rfl | simp] at h_
        refine hK.out _ _ ?_ (fun hHeld => ?_)
        · exact ⟨Keep.cell (a := ⟨Q, 4, none⟩) K2015 hS0.1 (by simp), Keep.cell (a := ⟨w.heap.size, 0, none⟩) K2015 hS0.2.1 (by simp), Keep.cell (a := ⟨w.heap.size, 1, none⟩) K2015 hS0.2.2.1 (by simp), Keep.cell (a := ⟨w.heap.size, 2, none⟩) K2015 hS0.2.2.2 (by simp)⟩
        clear hK K
        try simp only [Act.put, List.setIfInBounds_toArray, List.set_cons_zero, List.set_cons_succ]
        refine wpAnyH_ready (rs := [8, 10]) (by kernel_rfl) (by simp) ?_
        refine AllReadyH.cons (o := { dst := some 87, op := Go.Op.call { callee := Go.Callee.builtin Go.Builtin.append, args := #[Go.Operand.tmp 80, Go.Operand.tmp 86], argTypes := #[37, 37] }, type := 37, pos := "ref.go:93", after := #[{ on := 1, ground := Go.Ground.data }, { on := 7, ground := Go.Ground.data }], guard := none }) rfl (fun K hK => ?_) ?_
        · refine step_append_row rfl (.tmp 80) (.tmp 86) 37 rfl W9.heap.size 33 i33 (.agg #[.slice none 0 0, .int .i64 0, .int .i64 0]) 3 40 Try.underlying37 hi33 hz330 hz331 hz332 rfl (by decide) (.slice (some ⟨W9.heap.size, 0, none⟩) 0 0) (0) [] rfl own2015 (.slice A1 (below nums n) cc1) ((below nums n)) ((cellsOf items).take (below nums n * 3)) rfl (hr1.keep0 K2015) (fun u hu => ho u (List.mem_of_mem_take hu)) (by unfold maxLen; omega) (by omega) K2015.size ?_
          intro v2016 w2016 own2016 hg2016
          have K2016 : Keep [] W9 w2016 := K2015.grown hg2016 (fun b hb => Or.inr (World.ownsRow.lt own2015 b hb).1)
          refine hK.out _ _ ?_ (fun hHeld => ?_)
          · exact ⟨Keep.cell (a := ⟨Q, 4, none⟩) K2016 hS0.1 (by simp), Keep.cell (a := ⟨w.heap.size, 0, none⟩) K2016 hS0.2.1 (by simp), Keep.cell (a := ⟨w.heap.size, 1, none⟩) K2016 hS0.2.2.1 (by simp), Keep.cell (a := ⟨w.heap.size, 2, none⟩) K2016 hS0.2.2.2 (by simp)⟩
          clear hK K
          try simp only [Act.put, List.setIfInBounds_toArray, List.set_cons_zero, List.set_cons_succ]
          refine wpAnyH_ready (rs := [10]) (by kernel_rfl) (by simp) ?_
          refine AllReadyH.cons (o := { dst := some 89, op := Go.Op.buildSlice 37 1 #[(0, Go.Operand.tmp 88)], type := 37, pos := "ref.go:93", after := #[{ on := 9, ground := Go.Ground.data }], guard := none }) rfl (fun K hK => ?_) ?_
          · go_simp
            have K2017 : Keep [] W9 (w2016.alloc (.cells #[.slice A8 r.out.length c8, .int .i64 r.st, .int .i64 r.rec_] 33)) := K2016.alloc _
            have row2017 : Row (w2016.alloc (.cells #[.slice A8 r.out.length c8, .int .i64 r.st, .int .i64 r.rec_] 33)) (.slice (some ⟨w2016.heap.size, 0, none⟩) 1 1) 33 3 1 [.slice A8 r.out.length c8, .int .i64 r.st, .int .i64 r.rec_] := by have h_ := Row.of_own (World.ownsRow_lit (base := 0) (e := 33) (size := 3) w2016 #[.slice A8 r.out.length c8, .int .i64 r.st, .int .i64 r.rec_] 1 (Nat.zero_le _) (by decide) rfl); rwa [show w2016.heap.size = w2016.heap.size from by first | rfl | simp] at h_
            have own2017 := World.ownsRow.alloc own2016 (.cells #[.slice A8 r.out.length c8, .int .i64 r.st, .int .i64 r.rec_] 33)
            refine hK.out _ _ ?_ (fun hHeld => ?_)
            · exact ⟨Keep.cell (a := ⟨Q, 4, none⟩) K2017 hS0.1 (by simp), Keep.cell (a := ⟨w.heap.size, 0, none⟩) K2017 hS0.2.1 (by simp), Keep.cell (a := ⟨w.heap.size, 1, none⟩) K2017 hS0.2.2.1 (by simp), Keep.cell (a := ⟨w.heap.size, 2, none⟩) K2017 hS0.2.2.2 (by simp)⟩
            clear hK K
            try simp only [Act.put, List.setIfInBounds_toArray, List.set_cons_zero, List.set_cons_succ]
            refine wpAnyH_ready (rs := [11]) (by kernel_rfl) (by simp) ?_
            refine AllReadyH.cons (o := { dst := some 90, op := Go.Op.call { callee := Go.Callee.builtin Go.Builtin.append, args := #[Go.Operand.tmp 87, Go.Operand.tmp 89], argTypes := #[37, 37] }, type := 37, pos := "ref.go:93", after := #[{ on := 8, ground := Go.Ground.data }, { on := 10, ground := Go.Ground.data }, { on := 8, ground := Go.Ground.chain }], guard := none }) rfl (fun K hK => ?_) ?_
            · refine step_append_row rfl (.tmp 87) (.tmp 89) 37 rfl W9.heap.size 33 i33 (.agg #[.slice none 0 0, .int .i64 0, .int .i64 0]) 3 40 Try.underlying37 hi33 hz330 hz331 hz332 rfl (by decide) v2016 (0 + (below nums n)) ([] ++ ((cellsOf items).take (below nums n * 3))) rfl own2017 (.slice (some ⟨w2016.heap.size, 0, none⟩) 1 1) (1) [.slice A8 r.out.length c8, .int .i64 r.st, .int .i64 r.rec_] rfl row2017 (by simp [Value.oneCell']) (by unfold maxLen; omega) (by omega) K2017.size ?_
              intro v2018 w2018 own2018 hg2018
              have K2018 : Keep [] W9 w2018 := K2017.grown hg2018 (fun b hb => Or.inr (World.ownsRow.lt own2017 b hb).1)
              refine hK.out _ _ ?_ (fun hHeld => ?_)
              · exact ⟨Keep.cell (a := ⟨Q, 4, none⟩) K2018 hS0.1 (by simp), Keep.cell (a := ⟨w.heap.size, 0, none⟩) K2018 hS0.2.1 (by simp), Keep.cell (a := ⟨w.heap.size, 1, none⟩) K2018 hS0.2.2.1 (by simp), Keep.cell (a := ⟨w.heap.size, 2, none⟩) K2018 hS0.2.2.2 (by simp)⟩
              clear hK K
              try simp only [Act.put, List.setIfInBounds_toArray, List.set_cons_zero, List.set_cons_succ]
              refine wpAnyH_ready (rs := [18]) (by kernel_rfl) (by simp) ?_
              refine AllReadyH.cons (o := { dst := some 97, op := Go.Op.call { callee := Go.Callee.builtin Go.Builtin.append, args := #[Go.Operand.tmp 90, Go.Operand.tmp 96], argTypes := #[37, 37] }, type := 37, pos := "ref.go:93", after := #[{ on := 11, ground := Go.Ground.data }, { on := 17, ground := Go.Ground.data }, { on := 11, ground := Go.Ground.chain }], guard := none }) rfl (fun K hK => ?_) ?_
              · refine step_append_row rfl (.tmp 90) (.tmp 96) 37 rfl W9.heap.size 33 i33 (.agg #[.slice none 0 0, .int .i64 0, .int .i64 0]) 3 40 Try.underlying37 hi33 hz330 hz331 hz332 rfl (by decide) v2018 (0 + (below nums n) + 1) (([] ++ ((cellsOf items).take (below nums n * 3))) ++ [.slice A8 r.out.length c8, .int .i64 r.st, .int .i64 r.rec_]) rfl own2018 (.slice A2 (nums.length - below nums n) cc2) ((nums.length - below nums n)) ((cellsOf items).drop (below nums n * 3)) rfl (hr2.keep0 K2018) (fun u hu => ho u (List.mem_of_mem_drop hu)) (by unfold maxLen; omega) (by omega) K2018.size ?_
                intro v2019 w2019 own2019 hg2019
                have K2019 : Keep [] W9 w2019 := K2018.grown hg2019 (fun b hb => Or.inr (World.ownsRow.lt own2018 b hb).1)
                refine hK.out _ _ ?_ (fun hHeld => ?_)
                · exact ⟨Keep.cell (a := ⟨Q, 4, none⟩) K2019 hS0.1 (by simp), Keep.cell (a := ⟨w.heap.size, 0, none⟩) K2019 hS0.2.1 (by simp), Keep.cell (a := ⟨w.heap.size, 1, none⟩) K2019 hS0.2.2.1 (by simp), Keep.cell (a := ⟨w.heap.size, 2, none⟩) K2019 hS0.2.2.2 (by simp)⟩
                clear hK K
                try simp only [Act.put, List.setIfInBounds_toArray, List.set_cons_zero, List.set_cons_succ]
                refine wpAnyH_take (i := 19) (oi := { dst := some 98, op := Go.Op.nilCheck (Go.Operand.tmp 79), type := 0, pos := "ref.go:93", after := #[{ on := 0, ground := Go.Ground.data }, { on := 0, ground := Go.Ground.phase }, { on := 1, ground := Go.Ground.phase }, { on := 2, ground := Go.Ground.phase }, { on := 3, ground := Go.Ground.phase }, { on := 4, ground := Go.Ground.phase }, { on := 5, ground := Go.Ground.phase }, { on := 6, ground := Go.Ground.phase }, { on := 7, ground := Go.Ground.phase }, { on := 8, ground := Go.Ground.phase }, { on := 9, ground := Go.Ground.phase }, { on := 10, ground := Go.Ground.phase }, { on := 11, ground := Go.Ground.phase }, { on := 12, ground := Go.Ground.phase }, { on := 13, ground := Go.Ground.phase }, { on := 14, ground := Go.Ground.phase }, { on := 15, ground := Go.Ground.phase }, { on := 16, ground := Go.Ground.phase }, { on := 17, ground := Go.Ground.phase }, { on := 18, ground := Go.Ground.phase }], guard := none }) (v := ?v2020) rfl (by kernel_rfl) (by kernel_rfl) (by kernel_rfl) (fun _ _ _ h => h) (Or.inl ⟨by rfl, ?y2020⟩) hHeld ?r2020
                case y2020 => (intro w' hSw; (try dsimp only at hSw); go_simp; (try with_reducible rfl))
                try simp only [Act.put, List.setIfInBounds_toArray, List.set_cons_zero, List.set_cons_succ]
                refine wpAnyH_take (i := 20) (oi := { dst := some 99, op := Go.Op.fieldAddr 39 (Go.Operand.tmp 98) 4, type := 0, pos := "ref.go:93", after := #[{ on := 19, ground := Go.Ground.data }, { on := 0, ground := Go.Ground.phase }, { on := 1, ground := Go.Ground.phase }, { on := 2, ground := Go.Ground.phase }, { on := 3, ground := Go.Ground.phase }, { on := 4, ground := Go.Ground.phase }, { on := 5, ground := Go.Ground.phase }, { on := 6, ground := Go.Ground.phase }, { on := 7, ground := Go.Ground.phase }, { on := 8, ground := Go.Ground.phase }, { on := 9, ground := Go.Ground.phase }, { on := 10, ground := Go.Ground.phase }, { on := 11, ground := Go.Ground.phase }, { on := 12, ground := Go.Ground.phase }, { on := 13, ground := Go.Ground.phase }, { on := 14, ground := Go.Ground.phase }, { on := 15, ground := Go.Ground.phase }, { on := 16, ground := Go.Ground.phase }, { on := 17, ground := Go.Ground.phase }, { on := 18, ground := Go.Ground.phase }], guard := none }) (v := ?v2021) rfl (by kernel_rfl) (by kernel_rfl) (by kernel_rfl) (fun _ _ _ h => h) (Or.inl ⟨by rfl, ?y2021⟩) hHeld ?r2021
                case y2021 => (intro w' hSw; (try dsimp only at hSw); go_simp; (try with_reducible rfl))
                try simp only [Act.put, List.setIfInBounds_toArray, List.set_cons_zero, List.set_cons_succ]
                refine wpAnyH_done (by kernel_rfl) ?_ _
                have L9 : 0 + (below nums n) + 1 + (nums.length - below nums n) = nums.length + 1 := by omega
                have KK := K2019
                have R9 := Row.of_own own2019
                obtain ⟨Az, cz, rfl, _, _⟩ := Row.slice R9
                rw [L9] at R9 ⊢
                clear L9
                have q3 := (KK.blk Q9 (by simp)).cell 4 _ rfl
                have q3f := (KK.blk Q9 (by simp)).froz 4
                have HKK := Lib.hid KK
                have HR9 := Lib.hid R9
                clear hHeld hr1 hr2 hs1 hs2 KK R9 hS0 ho
                show wpList _ _ _ _ _ _
                go_wp2_with fail
                go_ret
                exact end10 HA.out HK8.out HK9.out HQ8.out HQ9.out HN9.out HB9.out HIT.out HBY.out HIL.out hbl HKK.out HR9.out (by simp)
              exact AllReadyH.nil
            exact AllReadyH.nil
          exact AllReadyH.nil
        refine AllReadyH.cons (o := { dst := some 89, op := Go.Op.buildSlice 37 1 #[(0, Go.Operand.tmp 88)], type := 37, pos := "ref.go:93", after := #[{ on := 9, ground := Go.Ground.data }], guard := none }) rfl (fun K hK => ?_) ?_
        · go_simp
          have K2022 : Keep [] W9 ((W9.drew.alloc (.cells #[] 33)).alloc (.cells #[.slice A8 r.out.length c8, .int .i64 r.st, .int .i64 r.rec_] 33)) := K2015.alloc _
          have row2022 : Row ((W9.drew.alloc (.cells #[] 33)).alloc (.cells #[.slice A8 r.out.length c8, .int .i64 r.st, .int .i64 r.rec_] 33)) (.slice (some ⟨(W9.heap.size + 1), 0, none⟩) 1 1) 33 3 1 [.slice A8 r.out.length c8, .int .i64 r.st, .int .i64 r.rec_] := by have h_ := Row.of_own (World.ownsRow_lit (base := 0) (e := 33) (size := 3) (W9.drew.alloc (.cells #[] 33)) #[.slice A8 r.out.length c8, .int .i64 r.st, .int .i64 r.rec_] 1 (Nat.zero_le _) (by decide) rfl); rwa [show (W9.drew.alloc (.cells #[] 33)).heap.size = (W9.heap.size + 1) from by first | rfl | simp] at h_
          have own2022 := World.ownsRow.alloc own2015 (.cells #[.slice A8 r.out.length c8, .int .i64 r.st, .int .i64 r.rec_] 33)
          refine hK.out _ _ ?_ (fun hHeld => ?_)
          · exact ⟨Keep.cell (a := ⟨Q, 4, none⟩) K2022 hS0.1 (by simp), Keep.cell (a := ⟨w.heap.size, 0, none⟩) K2022 hS0.2.1 (by simp), Keep.cell (a := ⟨w.heap.size, 1, none⟩) K2022 hS0.2.2.1 (by simp), Keep.cell (a := ⟨w.heap.size, 2, none⟩) K2022 hS0.2.2.2 (by simp)⟩
          clear hK K
          try simp only [Act.put, List.setIfInBounds_toArray, List.set_cons_zero, List.set_cons_succ]
          refine wpAnyH_ready (rs := [8]) (by kernel_rfl) (by simp) ?_
          refine AllReadyH.cons (o := { dst := some 87, op := Go.Op.call { callee := Go.Callee.builtin Go.Builtin.append, args := #[Go.Operand.tmp 80, Go.Operand.tmp 86], argTypes := #[37, 37] }, type := 37, pos := "ref.go:93", after := #[{ on := 1, ground := Go.Ground.data }, { on := 7, ground := Go.Ground.data }], guard := none }) rfl (fun K hK => ?_) ?_
          · refine step_append_row rfl (.tmp 80) (.tmp 86) 37 rfl W9.heap.size 33 i33 (.agg #[.slice none 0 0, .int .i64 0, .int .i64 0]) 3 40 Try.underlying37 hi33 hz330 hz331 hz332 rfl (by decide) (.slice (some ⟨W9.heap.size, 0, none⟩) 0 0) (0) [] rfl own2022 (.slice A1 (below nums n) cc1) ((below nums n)) ((cellsOf items).take (below nums n * 3)) rfl (hr1.keep0 K2022) (fun u hu => ho u (List.mem_of_mem_take hu)) (by unfold maxLen; omega) (by omega) K2022.size ?_
            intro v2023 w2023 own2023 hg2023
            have K2023 : Keep [] W9 w2023 := K2022.grown hg2023 (fun b hb => Or.inr (World.ownsRow.lt own2022 b hb).1)
            have row2023 := Row.keepAt row2022 (Keep.of_grown hg2023) (by simp [Value.ownBlock])
            refine hK.out _ _ ?_ (fun hHeld => ?_)
            · exact ⟨Keep.cell (a := ⟨Q, 4, none⟩) K2023 hS0.1 (by simp), Keep.cell (a := ⟨w.heap.size, 0, none⟩) K2023 hS0.2.1 (by simp), Keep.cell (a := ⟨w.heap.size, 1, none⟩) K2023 hS0.2.2.1 (by simp), Keep.cell (a := ⟨w.heap.size, 2, none⟩) K2023 hS0.2.2.2 (by simp)⟩
            clear hK K
            try simp only [Act.put, List.setIfInBounds_toArray, List.set_cons_zero, List.set_cons_succ]
            refine wpAnyH_ready (rs := [11]) (by kernel_rfl) (by simp) ?_
            refine AllReadyH.cons (o := { dst := some 90, op := Go.Op.call { callee := Go.Callee.builtin Go.Builtin.append, args := #[Go.Operand.tmp 87, Go.Operand.tmp 89], argTypes := #[37, 37] }, type := 37, pos := "ref.go:93", after := #[{ on := 8, ground := Go.Ground.data }, { on := 10, ground := Go.Ground.data }, { on := 8, ground := Go.Ground.chain }], guard := none }) rfl (fun K hK => ?_) ?_
            · refine step_append_row rfl (.tmp 87) (.tmp 89) 37 rfl W9.heap.size 33 i33 (.agg #[.slice none 0 0, .int .i64 0, .int .i64 0]) 3 40 Try.underlying37 hi33 hz330 hz331 hz332 rfl (by decide) v2023 (0 + (below nums n)) ([] ++ ((cellsOf items).take (below nums n * 3))) rfl own2023 (.slice (some ⟨(W9.heap.size + 1), 0, none⟩) 1 1) (1) [.slice A8 r.out.length c8, .int .i64 r.st, .int .i64 r.rec_] rfl row2023 (by simp [Value.oneCell']) (by unfold maxLen; omega) (by omega) K2023.size ?_
              intro v2024 w2024 own2024 hg2024
              have K2024 : Keep [] W9 w2024 := K2023.grown hg2024 (fun b hb => Or.inr (World.ownsRow.lt own2023 b hb).1)
              refine hK.out _ _ ?_ (fun hHeld => ?_)
              · exact ⟨Keep.cell (a := ⟨Q, 4, none⟩) K2024 hS0.1 (by simp), Keep.cell (a := ⟨w.heap.size, 0, none⟩) K2024 hS0.2.1 (by simp), Keep.cell (a := ⟨w.heap.size, 1, none⟩) K2024 hS0.2.2.1 (by simp), Keep.cell (a := ⟨w.heap.size, 2, none⟩) K2024 hS0.2.2.2 (by simp)⟩
              clear hK K
              try simp only [Act.put, List.setIfInBounds_toArray, List.set_cons_zero, List.set_cons_succ]
              refine wpAnyH_ready (rs := [18]) (by kernel_rfl) (by simp) ?_
              refine AllReadyH.cons (o := { dst := some 97, op := Go.Op.call { callee := Go.Callee.builtin Go.Builtin.append, args := #[Go.Operand.tmp 90, Go.Operand.tmp 96], argTypes := #[37, 37] }, type := 37, pos := "ref.go:93", after := #[{ on := 11, ground := Go.Ground.data }, { on := 17, ground := Go.Ground.data }, { on := 11, ground := Go.Ground.chain }], guard := none }) rfl (fun K hK => ?_) ?_
              · refine step_append_row rfl (.tmp 90) (.tmp 96) 37 rfl W9.heap.size 33 i33 (.agg #[.slice none 0 0, .int .i64 0, .int .i64 0]) 3 40 Try.underlying37 hi33 hz330 hz331 hz332 rfl (by decide) v2024 (0 + (below nums n) + 1) (([] ++ ((cellsOf items).take (below nums n * 3))) ++ [.slice A8 r.out.length c8, .int .i64 r.st, .int .i64 r.rec_]) rfl own2024 (.slice A2 (nums.length - below nums n) cc2) ((nums.length - below nums n)) ((cellsOf items).drop (below nums n * 3)) rfl (hr2.keep0 K2024) (fun u hu => ho u (List.mem_of_mem_drop hu)) (by unfold maxLen; omega) (by omega) K2024.size ?_
                intro v2025 w2025 own2025 hg2025
                have K2025 : Keep [] W9 w2025 := K2024.grown hg2025 (fun b hb => Or.inr (World.ownsRow.lt own2024 b hb).1)
                refine hK.out _ _ ?_ (fun hHeld => ?_)
                · exact ⟨Keep.cell (a := ⟨Q, 4, none⟩) K2025 hS0.1 (by simp), Keep.cell (a := ⟨w.heap.size, 0, none⟩) K2025 hS0.2.1 (by simp), Keep.cell (a := ⟨w.heap.size, 1, none⟩) K2025 hS0.2.2.1 (by simp), Keep.cell (a := ⟨w.heap.size, 2, none⟩) K2025 hS0.2.2.2 (by simp)⟩
                clear hK K
                try simp only [Act.put, List.setIfInBounds_toArray, List.set_cons_zero, List.set_cons_succ]
                refine wpAnyH_take (i := 19) (oi := { dst := some 98, op := Go.Op.nilCheck (Go.Operand.tmp 79), type := 0, pos := "ref.go:93", after := #[{ on := 0, ground := Go.Ground.data }, { on := 0, ground := Go.Ground.phase }, { on := 1, ground := Go.Ground.phase }, { on := 2, ground := Go.Ground.phase }, { on := 3, ground := Go.Ground.phase }, { on := 4, ground := Go.Ground.phase }, { on := 5, ground := Go.Ground.phase }, { on := 6, ground := Go.Ground.phase }, { on := 7, ground := Go.Ground.phase }, { on := 8, ground := Go.Ground.phase }, { on := 9, ground := Go.Ground.phase }, { on := 10, ground := Go.Ground.phase }, { on := 11, ground := Go.Ground.phase }, { on := 12, ground := Go.Ground.phase }, { on := 13, ground := Go.Ground.phase }, { on := 14, ground := Go.Ground.phase }, { on := 15, ground := Go.Ground.phase }, { on := 16, ground := Go.Ground.phase }, { on := 17, ground := Go.Ground.phase }, { on := 18, ground := Go.Ground.phase }], guard := none }) (v := ?v2026) rfl (by kernel_rfl) (by kernel_rfl) (by kernel_rfl) (fun _ _ _ h => h) (Or.inl ⟨by rfl, ?y2026⟩) hHeld ?r2026
                case y2026 => (intro w' hSw; (try dsimp only at hSw); go_simp; (try with_reducible rfl))
                try simp only [Act.put, List.setIfInBounds_toArray, List.set_cons_zero, List.set_cons_succ]
                refine wpAnyH_take (i := 20) (oi := { dst := some 99, op := Go.Op.fieldAddr 39 (Go.Operand.tmp 98) 4, type := 0, pos := "ref.go:93", after := #[{ on := 19, ground := Go.Ground.data }, { on := 0, ground := Go.Ground.phase }, { on := 1, ground := Go.Ground.phase }, { on := 2, ground := Go.Ground.phase }, { on := 3, ground := Go.Ground.phase }, { on := 4, ground := Go.Ground.phase }, { on := 5, ground := Go.Ground.phase }, { on := 6, ground := Go.Ground.phase }, { on := 7, ground := Go.Ground.phase }, { on := 8, ground := Go.Ground.phase }, { on := 9, ground := Go.Ground.phase }, { on := 10, ground := Go.Ground.phase }, { on := 11, ground := Go.Ground.phase }, { on := 12, ground := Go.Ground.phase }, { on := 13, ground := Go.Ground.phase }, { on := 14, ground := Go.Ground.phase }, { on := 15, ground := Go.Ground.phase }, { on := 16, ground := Go.Ground.phase }, { on := 17, ground := Go.Ground.phase }, { on := 18, ground := Go.Ground.phase }], guard := none }) (v := ?v2027) rfl (by kernel_rfl) (by kernel_rfl) (by kernel_rfl) (fun _ _ _ h => h) (Or.inl ⟨by rfl, ?y2027⟩) hHeld ?r2027
                case y2027 => (intro w' hSw; (try dsimp only at hSw); go_simp; (try with_reducible rfl))
                try simp only [Act.put, List.setIfInBounds_toArray, List.set_cons_zero, List.set_cons_succ]
                refine wpAnyH_done (by kernel_rfl) ?_ _
                have L9 : 0 + (below nums n) + 1 + (nums.length - below nums n) = nums.length + 1 := by omega
                have KK := K2025
                have R9 := Row.of_own own2025
                obtain ⟨Az, cz, rfl, _, _⟩ := Row.slice R9
                rw [L9] at R9 ⊢
                clear L9
                have q3 := (KK.blk Q9 (by simp)).cell 4 _ rfl
                have q3f := (KK.blk Q9 (by simp)).froz 4
                have HKK := Lib.hid KK
                have HR9 := Lib.hid R9
                clear hHeld hr1 hr2 hs1 hs2 KK R9 hS0 ho
                show wpList _ _ _ _ _ _
                go_wp2_with fail
                go_ret
                exact end10 HA.out HK8.out HK9.out HQ8.out HQ9.out HN9.out HB9.out HIT.out HBY.out HIL.out hbl HKK.out HR9.out (by simp)
              exact AllReadyH.nil
            exact AllReadyH.nil
          exact AllReadyH.nil
        exact AllReadyH.nil
      refine AllReadyH.cons (o := { dst := some 89, op := Go.Op.buildSlice 37 1 #[(0, Go.Operand.tmp 88)], type := 37, pos := "ref.go:93", after := #[{ on := 9, ground := Go.Ground.data }], guard := none }) rfl (fun K hK => ?_) ?_
      · go_simp
        have K2028 : Keep [] W9 (W9.drew.alloc (.cells #[.slice A8 r.out.length c8, .int .i64 r.st, .int .i64 r.rec_] 33)) := K0.alloc _
        have row2028 : Row (W9.drew.alloc (.cells #[.slice A8 r.out.length c8, .int .i64 r.st, .int .i64 r.rec_] 33)) (.slice (some ⟨W9.heap.size, 0, none⟩) 1 1) 33 3 1 [.slice A8 r.out.length c8, .int .i64 r.st, .int .i64 r.rec_] := by have h_ := Row.of_own (World.ownsRow_lit (base := 0) (e := 33) (size := 3) W9.drew #[.slice A8 r.out.length c8, .int .i64 r.st, .int .i64 r.rec_] 1 (Nat.zero_le _) (by decide) rfl); rwa [show W9.drew.heap.size = W9.heap.size from by first | rfl | simp] at h_
        refine hK.out _ _ ?_ (fun hHeld => ?_)
        · exact ⟨Keep.cell (a := ⟨Q, 4, none⟩) K2028 hS0.1 (by simp), Keep.cell (a := ⟨w.heap.size, 0, none⟩) K2028 hS0.2.1 (by simp), Keep.cell (a := ⟨w.heap.size, 1, none⟩) K2028 hS0.2.2.1 (by simp), Keep.cell (a := ⟨w.heap.size, 2, none⟩) K2028 hS0.2.2.2 (by simp)⟩
        clear hK K
        try simp only [Act.put, List.setIfInBounds_toArray, List.set_cons_zero, List.set_cons_succ]
        refine wpAnyH_ready (rs := [1]) (by kernel_rfl) (by simp) ?_
        refine AllReadyH.cons (o := { dst := some 80, op := Go.Op.buildSlice 37 0 #[], type := 37, pos := "ref.go:93", after := #[], guard := none }) rfl (fun K hK => ?_) ?_
        · go_simp
          have K2029 : Keep [] W9 ((W9.drew.alloc (.cells #[.slice A8 r.out.length c8, .int .i64 r.st, .int .i64 r.rec_] 33)).alloc (.cells #[] 33)) := K2028.alloc _
          have own2029 : ((W9.drew.alloc (.cells #[.slice A8 r.out.length c8, .int .i64 r.st, .int .i64 r.rec_] 33)).alloc (.cells #[] 33)).ownsRow W9.heap.size 33 3 (.slice (some ⟨(W9.heap.size + 1), 0, none⟩) 0 0) 0 [] := by have h_ := World.ownsRow_lit (base := W9.heap.size) (e := 33) (size := 3) (W9.drew.alloc (.cells #[.slice A8 r.out.length c8, .int .i64 r.st, .int .i64 r.rec_] 33)) #[] 0 K2028.size (by decide) rfl; rwa [show (W9.drew.alloc (.cells #[.slice A8 r.out.length c8, .int .i64 r.st, .int .i64 r.rec_] 33)).heap.size = (W9.heap.size + 1) from by first | rfl | simp] at h_
          have row2029 := row2028.keep0 ((Keep.refl [] _).alloc (.cells #[] 33))
          refine hK.out _ _ ?_ (fun hHeld => ?_)
          · exact ⟨Keep.cell (a := ⟨Q, 4, none⟩) K2029 hS0.1 (by simp), Keep.cell (a := ⟨w.heap.size, 0, none⟩) K2029 hS0.2.1 (by simp), Keep.cell (a := ⟨w.heap.size, 1, none⟩) K2029 hS0.2.2.1 (by simp), Keep.cell (a := ⟨w.heap.size, 2, none⟩) K2029 hS0.2.2.2 (by simp)⟩
          clear hK K
          try simp only [Act.put, List.setIfInBounds_toArray, List.set_cons_zero, List.set_cons_succ]
          refine wpAnyH_ready (rs := [8]) (by kernel_rfl) (by simp) ?_
          refine AllReadyH.cons (o := { dst := some 87, op := Go.Op.call { callee := Go.Callee.builtin Go.Builtin.append, args := #[Go.Operand.tmp 80, Go.Operand.tmp 86], argTypes := #[37, 37] }, type := 37, pos := "ref.go:93", after := #[{ on := 1, ground := Go.Ground.data }, { on := 7, ground := Go.Ground.data }], guard := none }) rfl (fun K hK => ?_) ?_
          · refine step_append_row rfl (.tmp 80) (.tmp 86) 37 rfl W9.heap.size 33 i33 (.agg #[.slice none 0 0, .int .i64 0, .int .i64 0]) 3 40 Try.underlying37 hi33 hz330 hz331 hz332 rfl (by decide) (.slice (some ⟨(W9.heap.size + 1), 0, none⟩) 0 0) (0) [] rfl own2029 (.slice A1 (below nums n) cc1) ((below nums n)) ((cellsOf items).take (below nums n * 3)) rfl (hr1.keep0 K2029) (fun u hu => ho u (List.mem_of_mem_take hu)) (by unfold maxLen; omega) (by omega) K2029.size ?_
            intro v2030 w2030 own2030 hg2030
            have K2030 : Keep [] W9 w2030 := K2029.grown hg2030 (fun b hb => Or.inr (World.ownsRow.lt own2029 b hb).1)
            have row2030 := Row.keepAt row2029 (Keep.of_grown hg2030) (by simp [Value.ownBlock])
            refine hK.out _ _ ?_ (fun hHeld => ?_)
            · exact ⟨Keep.cell (a := ⟨Q, 4, none⟩) K2030 hS0.1 (by simp), Keep.cell (a := ⟨w.heap.size, 0, none⟩) K2030 hS0.2.1 (by simp), Keep.cell (a := ⟨w.heap.size, 1, none⟩) K2030 hS0.2.2.1 (by simp), Keep.cell (a := ⟨w.heap.size, 2, none⟩) K2030 hS0.2.2.2 (by simp)⟩
            clear hK K
            try simp only [Act.put, List.setIfInBounds_toArray, List.set_cons_zero, List.set_cons_succ]
            refine wpAnyH_ready (rs := [11]) (by kernel_rfl) (by simp) ?_
            refine AllReadyH.cons (o := { dst := some 90, op := Go.Op.call { callee := Go.Callee.builtin Go.Builtin.append, args := #[Go.Operand.tmp 87, Go.Operand.tmp 89], argTypes := #[37, 37] }, type := 37, pos := "ref.go:93", after := #[{ on := 8, ground := Go.Ground.data }, { on := 10, ground := Go.Ground.data }, { on := 8, ground := Go.Ground.chain }], guard := none }) rfl (fun K hK => ?_) ?_
            · refine step_append_row rfl (.tmp 87) (.tmp 89) 37 rfl W9.heap.size 33 i33 (.agg #[.slice none 0 0, .int .i64 0, .int .i64 0]) 3 40 Try.underlying37 hi33 hz330 hz331 hz332 rfl (by decide) v2030 (0 + (below nums n)) ([] ++ ((cellsOf items).take (below nums n * 3))) rfl own2030 (.slice (some ⟨W9.heap.size, 0, none⟩) 1 1) (1) [.slice A8 r.out.length c8, .int .i64 r.st, .int .i64 r.rec_] rfl row2030 (by simp [Value.oneCell']) (by unfold maxLen; omega) (by omega) K2030.size ?_
              intro v2031 w2031 own2031 hg2031
              have K2031 : Keep [] W9 w2031 := K2030.grown hg2031 (fun b hb => Or.inr (World.ownsRow.lt own2030 b hb).1)
              refine hK.out _ _ ?_ (fun hHeld => ?_)
              · exact ⟨Keep.cell (a := ⟨Q, 4, none⟩) K2031 hS0.1 (by simp), Keep.cell (a := ⟨w.heap.size, 0, none⟩) K2031 hS0.2.1 (by simp), Keep.cell (a := ⟨w.heap.size, 1, none⟩) K2031 hS0.2.2.1 (by simp), Keep.cell (a := ⟨w.heap.size, 2, none⟩) K2031 hS0.2.2.2 (by simp)⟩
              clear hK K
              try simp only [Act.put, List.setIfInBounds_toArray, List.set_cons_zero, List.set_cons_succ]
              refine wpAnyH_ready (rs := [18]) (by kernel_rfl) (by simp) ?_
              refine AllReadyH.cons (o := { dst := some 97, op := Go.Op.call { callee := Go.Callee.builtin Go.Builtin.append, args := #[Go.Operand.tmp 90, Go.Operand.tmp 96], argTypes := #[37, 37] }, type := 37, pos := "ref.go:93", after := #[{ on := 11, ground := Go.Ground.data }, { on := 17, ground := Go.Ground.data }, { on := 11, ground := Go.Ground.chain }], guard := none }) rfl (fun K hK => ?_) ?_
              · refine step_append_row rfl (.tmp 90) (.tmp 96) 37 rfl W9.heap.size 33 i33 (.agg #[.slice none 0 0, .int .i64 0, .int .i64 0]) 3 40 Try.underlying37 hi33 hz330 hz331 hz332 rfl (by decide) v2031 (0 + (below nums n) + 1) (([] ++ ((cellsOf items).take (below nums n * 3))) ++ [.slice A8 r.out.length c8, .int .i64 r.st, .int .i64 r.rec_]) rfl own2031 (.slice A2 (nums.length - below nums n) cc2) ((nums.length - below nums n)) ((cellsOf items).drop (below nums n * 3)) rfl (hr2.keep0 K2031) (fun u hu => ho u (List.mem_of_mem_drop hu)) (by unfold maxLen; omega) (by omega) K2031.size ?_
                intro v2032 w2032 own2032 hg2032
                have K2032 : Keep [] W9 w2032 := K2031.grown hg2032 (fun b hb => Or.inr (World.ownsRow.lt own2031 b hb).1)
                refine hK.out _ _ ?_ (fun hHeld => ?_)
                · exact ⟨Keep.cell (a := ⟨Q, 4, none⟩) K2032 hS0.1 (by simp), Keep.cell (a := ⟨w.heap.size, 0, none⟩) K2032 hS0.2.1 (by simp), Keep.cell (a := ⟨w.heap.size, 1, none⟩) K2032 hS0.2.2.1 (by simp), Keep.cell (a := ⟨w.heap.size, 2, none⟩) K2032 hS0.2.2.2 (by simp)⟩
                clear hK K
                try simp only [Act.put, List.setIfInBounds_toArray, List.set_cons_zero, List.set_cons_succ]
                refine wpAnyH_take (i := 19) (oi := { dst := some 98, op := Go.Op.nilCheck (Go.Operand.tmp 79), type := 0, pos := "ref.go:93", after := #[{ on := 0, ground := Go.Ground.data }, { on := 0, ground := Go.Ground.phase }, { on := 1, ground := Go.Ground.phase }, { on := 2, ground := Go.Ground.phase }, { on := 3, ground := Go.Ground.phase }, { on := 4, ground := Go.Ground.phase }, { on := 5, ground := Go.Ground.phase }, { on := 6, ground := Go.Ground.phase }, { on := 7, ground := Go.Ground.phase }, { on := 8, ground := Go.Ground.phase }, { on := 9, ground := Go.Ground.phase }, { on := 10, ground := Go.Ground.phase }, { on := 11, ground := Go.Ground.phase }, { on := 12, ground := Go.Ground.phase }, { on := 13, ground := Go.Ground.phase }, { on := 14, ground := Go.Ground.phase }, { on := 15, ground := Go.Ground.phase }, { on := 16, ground := Go.Ground.phase }, { on := 17, ground := Go.Ground.phase }, { on := 18, ground := Go.Ground.phase }], guard := none }) (v := ?v2033) rfl (by kernel_rfl) (by kernel_rfl) (by kernel_rfl) (fun _ _ _ h => h) (Or.inl ⟨by rfl, ?y2033⟩) hHeld ?r2033
                case y2033 => (intro w' hSw; (try dsimp only at hSw); go_simp; (try with_reducible rfl))
                try simp only [Act.put, List.setIfInBounds_toArray, List.set_cons_zero, List.set_cons_succ]
                refine wpAnyH_take (i := 20) (oi := { dst := some 99, op := Go.Op.fieldAddr 39 (Go.Operand.tmp 98) 4, type := 0, pos := "ref.go:93", after := #[{ on := 19, ground := Go.Ground.data }, { on := 0, ground := Go.Ground.phase }, { on := 1, ground := Go.Ground.phase }, { on := 2, ground := Go.Ground.phase }, { on := 3, ground := Go.Ground.phase }, { on := 4, ground := Go.Ground.phase }, { on := 5, ground := Go.Ground.phase }, { on := 6, ground := Go.Ground.phase }, { on := 7, ground := Go.Ground.phase }, { on := 8, ground := Go.Ground.phase }, { on := 9, ground := Go.Ground.phase }, { on := 10, ground := Go.Ground.phase }, { on := 11, ground := Go.Ground.phase }, { on := 12, ground := Go.Ground.phase }, { on := 13, ground := Go.Ground.phase }, { on := 14, ground := Go.Ground.phase }, { on := 15, ground := Go.Ground.phase }, { on := 16, ground := Go.Ground.phase }, { on := 17, ground := Go.Ground.phase }, { on := 18, ground := Go.Ground.phase }], guard := none }) (v := ?v2034) rfl (by kernel_rfl) (by kernel_rfl) (by kernel_rfl) (fun _ _ _ h => h) (Or.inl ⟨by rfl, ?y2034⟩) hHeld ?r2034
                case y2034 => (intro w' hSw; (try dsimp only at hSw); go_simp; (try with_reducible rfl))
                try simp only [Act.put, List.setIfInBounds_toArray, List.set_cons_zero, List.set_cons_succ]
                refine wpAnyH_done (by kernel_rfl) ?_ _
                have L9 : 0 + (below nums n) + 1 + (nums.length - below nums n) = nums.length + 1 := by omega
                have KK := K2032
                have R9 := Row.of_own own2032
                obtain ⟨Az, cz, rfl, _, _⟩ := Row.slice R9
                rw [L9] at R9 ⊢
                clear L9
                have q3 := (KK.blk Q9 (by simp)).cell 4 _ rfl
                have q3f := (KK.blk Q9 (by simp)).froz 4
                have HKK := Lib.hid KK
                have HR9 := Lib.hid R9
                clear hHeld hr1 hr2 hs1 hs2 KK R9 hS0 ho
                show wpList _ _ _ _ _ _
                go_wp2_with fail
                go_ret
                exact end10 HA.out HK8.out HK9.out HQ8.out HQ9.out HN9.out HB9.out HIT.out HBY.out HIL.out hbl HKK.out HR9.out (by simp)
              exact AllReadyH.nil
            exact AllReadyH.nil
          exact AllReadyH.nil
        exact AllReadyH.nil
      exact AllReadyH.nil
end Go.Proofs.Ytinanoclnlcilaa
