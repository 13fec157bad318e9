/- Bracket: the walk. -/
import Derived.Test.YtomhlmfekmnajaaDoorOwnSu
import Derived.Test.YtomhlmfekmnajaaDoorBracketLaw
import Derived.Test.YtomhlmfekmnajaaDoorLast
import Derived.Deep.DeepCutAuto
import Derived.Deep.CutBlock
namespace Go.Proofs.YtomhlmfekmnajaaDoor
open Go.RowKit
set_option linter.unusedVariables false
set_option linter.unusedSimpArgs false

theorem Ints.tail {w : World} {v : Value} {x : Int} {xs : List Int} (h : Ints w v (x :: xs)) :
    ∃ v', (∀ W : World, (Instr.slice 23 v (some (.int .i64 1)) none none).run Tryd.prog W = .ok v' W) ∧ Ints w v' xs := by
  obtain ⟨A, c, rfl, h1, h2, h3, h4⟩ := h
  obtain ⟨g, off, rfl, _⟩ := h4 0 x rfl
  obtain ⟨i3, hi3, hz0, hz1, hz2⟩ := info_parts Tryd.info3
  have hT : Tryd.prog.underlying 23 = some (.slice 3) := Tryd.underlying23
  have he : Tryd.prog.elem 23 = 3 := by simp [Program.elem, hT]
  have hl : (x :: xs).length = xs.length + 1 := rfl
  refine ⟨sliced (some ⟨g, off, none⟩) 1 (x :: xs).length c 1, fun W => ?_, ?_⟩
  · rw [run_slice_l (P := Tryd.prog) W 23 (some ⟨g, off, none⟩) (x :: xs).length c (by rw [he]; exact hT) .i64 1 (by omega) (by rw [hl]; omega), he]
    simp [sizeOf, typeInfo, hi3, hz1, Result.andThen]
  · unfold sliced
    by_cases hc : c = 1
    · have hxs : xs = [] := by
        rw [hl] at h1
        exact List.length_eq_zero_iff.1 (by omega)
      subst hxs
      rw [if_pos hc]
      exact ⟨some ⟨g, off, none⟩, c - 1, by simp, by simp, by omega, (fun h => by cases h), fun k y hy => by simp at hy⟩
    · rw [if_neg hc]
      refine ⟨some ⟨g, off + 1, none⟩, c - 1, by simp [addr_add], by rw [hl] at h1; omega, by omega, (fun h => by cases h), fun k y hy => ?_⟩
      obtain ⟨g', off', e, hcell⟩ := h4 (k + 1) y (by simpa using hy)
      injection e with e
      injection e with e1 e2
      subst e1; subst e2
      exact ⟨g, off + 1, rfl, by rw [Nat.add_assoc, Nat.add_comm 1 k]; exact hcell⟩

theorem step_store_mid {P : Program} {w : World} {ops : Array Oper} {o : Oper} {a : Act} {K : Act → World → Prop} {Q : Exit → Act → World → Prop} {E : Prop} (hgd : o.guard = none) (ty : TypeId) (x y : Operand) (ho : o.op = .store ty x y)
    (b off : Nat) (cells : Array Value) (hx : a.eval x = .pointer (some ⟨b, off, none⟩)) (hy : a.eval y = .agg cells)
    (ht : w.there b off cells.size) (hi : (P.info? ty).map (·.size) = some cells.size) (h1 : cells.all (·.oneCell') = true) (h : K (a.put o.dst undef) (w.setCells b off cells.toList)) :
    if Region.wanted o (yielded ops a.tmps) = true then Oper.wp P o a w K Q else E := by
  have hw : Region.wanted o (yielded ops a.tmps) = true := by simp [Region.wanted, hgd]
  rw [if_pos hw]
  exact wp_store_mid ty x y ho b off cells hx hy ht hi h1 h

theorem step_load_su {w : World} {ops : Array Oper} {o : Oper} {a : Act} {K : Act → World → Prop} {Q : Exit → Act → World → Prop} {E : Prop} (hgd : o.guard = none) (x : Operand) (ho : o.op = .load 26 x)
    (g off : Nat) (c : Array Value) (s : Su) (hr : w.rangeAt g off c.toList) (hs : SuV w (.agg c) s) (hx : a.eval x = .pointer (some ⟨g, off, none⟩)) (h : K (a.put o.dst (.agg c)) w) :
    if Region.wanted o (yielded ops a.tmps) = true then Oper.wp Tryd.prog o a w K Q else E := by
  have hw : Region.wanted o (yielded ops a.tmps) = true := by simp [Region.wanted, hgd]
  rw [if_pos hw]
  refine wp_load_mid 26 x ho g off hx c.toList _ hr Tryd.underlying26 rfl (by simpa using size26 hs.size7) ?_
  simpa using h

theorem Ints.len {w : World} {v : Value} {xs : List Int} (h : Ints w v xs) (W : World) : (Builtin.len_ #[23] 3 #[v]).run Tryd.prog W = .ok (.int .i64 (xs.length : Int)) W := by
  obtain ⟨A, c, rfl, _⟩ := h
  have he : Tryd.prog.elem 23 = 3 := by simp [Program.elem, Tryd.underlying23]
  rw [run_len_slice W 23 3 A xs.length c (by rw [he]; exact Tryd.underlying23)]
  rfl
theorem Ints.head {w : World} {v : Value} {x : Int} {xs : List Int} (h : Ints w v (x :: xs)) :
    ∃ g off, (∀ W : World, (Instr.indexAt 23 v (.int .i64 0)).run Tryd.prog W = .ok (.pointer (some ⟨g, off, none⟩)) W) ∧ w.cell? ⟨g, off, none⟩ = some (.int .i64 x) := by
  obtain ⟨A, c, rfl, h1, h2, h3, h4⟩ := h
  obtain ⟨g, off, rfl, hc⟩ := h4 0 x rfl
  obtain ⟨i3, hi3, hz0, hz1, hz2⟩ := info_parts Tryd.info3
  have hT : Tryd.prog.underlying 23 = some (.slice 3) := Tryd.underlying23
  have he : Tryd.prog.elem 23 = 3 := by simp [Program.elem, hT]
  refine ⟨g, off, fun W => ?_, hc⟩
  have := run_indexAt_slice W 23 ⟨g, off, none⟩ (x :: xs).length c .i64 (P := Tryd.prog) 0 (by rw [he]; exact hT)
  rw [this, he]
  simp [sizeOf, typeInfo, hi3, hz1, Result.andThen, addr_add]

theorem delete_at (g cap k : Nat) (css : List (Array Value)) (ss : List Su) (rest : List Value) (w : World) (h : OwnSu w g cap css ss rest) (hk : k + 1 < ss.length) :
    Calls Tryd.prog 58 #[.slice (some ⟨g, 0, none⟩) ss.length cap, .int .i64 ((k : Int) + 1), .int .i64 ((k : Int) + 2)] w (DeletePost g cap (k + 1) css ss w) := by
  have := delete_any g cap (k + 1) css ss rest w h hk
  rw [show ((k + 1 : Nat) : Int) + 1 = (k : Int) + 2 by omega] at this
  exact this

def lenOf : Value → Nat | .slice _ n _ => n | _ => 0

theorem mod_bounds (x n : Int) (h : 0 < n) : -n < x.tmod n ∧ x.tmod n < n := ⟨Int.lt_tmod_of_pos x h, Int.tmod_lt_of_pos x h⟩

set_option maxHeartbeats 2000000 in
set_option maxRecDepth 100000 in
theorem bracket_any (v p : Value) (ss : List Su) (ps : List Int) (w : World) (hR : SuRow w v ss) (hP : Ints w p ps) (h8 : ss.length ≤ 1000000) : Calls Tryd.prog 22 #[v, p] w (AllPost (bracketOf ss) w) := by
  have HR := Lib.hid hR
  have HP := Lib.hid hP
  obtain ⟨A, cp, rfl, hn, hc, -, -⟩ := hR
  have hc9 : cp ≤ 9223372036854775807 := hc
  obtain ⟨r, hr⟩ : ∃ r, r = bracketOf ss := ⟨_, rfl⟩
  rw [← hr]
  have HRR := Lib.hid hr
  have HB0 := Lib.hid (Blk.new w zcells 26)
  have HK0 := Lib.hid ((Keep.refl [] w).alloc (.cells zcells 26))
  clear hr hc hP
  go_enter Tryd.func22, Tryd.ntmps22
  go_wp2_with fail
  refine (examine_any _ ss _ (HR.out.keep HK0.out)).mono ?_
  rintro e w1 ⟨rfl, K1⟩
  have HB1 := Lib.hid (K1.blk HB0.out (by simp))
  have HK1 := Lib.hid (HK0.out.trans K1)
  obtain ⟨es, hes⟩ : ∃ es, es = soundOf ss := ⟨_, rfl⟩
  rw [← hes]
  have HES := Lib.hid hes
  clear K1 hes HB0 HK0
  by_cases he : es = 0
  · subst he
    have HG := Lib.hid (good_of HES.out.symm)
    have hrr : r = allOf ss := by rw [HRR.out]; simp [bracketOf, ← HES.out]
    have HRE := Lib.hid hrr
    clear hrr
    by_cases hz : ss.length = 0
    · have hss : ss = [] := List.length_eq_zero_iff.1 hz
      have hzz : ((ss.length : Int) == 0) = true := by simp [hz]
      have HSS := Lib.hid hss
      clear hss hz
      go_wp2_with fail
      refine (empty_any _).mono ?_
      rintro e w2 ⟨rfl, K2⟩
      have HB2 := Lib.hid (K2.blk HB1.out (by simp))
      have HK2 := Lib.hid (HK1.out.trans K2)
      clear K2
      unfold emptyV
      go_wp2_with ((refine wpList_su rfl (.tmp 4) (.tmp 20) rfl w.heap.size _ Su.empty zcells.toList HB2.out rfl (emptyV_su _) (fun w' _ => emptyV_su w') rfl rfl ?_; intro w5 B5 K5; have HB5 := Lib.hid B5; have HK5 := Lib.hid (HK2.out.fresh K5 (by simp)); clear B5 K5))
      refine bodyPost_ret (v := .tuple #[emptyV, .int .i64 0]) (su_results2 rfl _ w.heap.size _ Su.empty _ HB5.out rfl rfl) rfl ?_
      have hall : allOf ss = (Su.empty, 0) := by rw [HSS.out]; rfl
      exact ⟨_, by rw [HRE.out, hall]; rfl, by rw [HRE.out, hall]; exact HB5.out.2, HK5.out, empty_fresh _⟩
    · have hzz : ((ss.length : Int) == 0) = false := beq_eq_false_iff_ne.2 (by omega)
      have hpos : 0 < ss.length := by omega
      clear hz
      go_wp2_with fail
      refine (clone_any _ ss _ (HR.out.keep HK1.out) hpos h8).mono ?_
      rintro e w2 ⟨g, cap, css, rest, rfl, hO, K2, hg⟩
      have HB2 := Lib.hid (K2.blk HB1.out (by simp))
      have HK2 := Lib.hid (HK1.out.trans K2)
      have HO := Lib.hid hO
      have hle := hO.le
      have hcap9 : cap ≤ 9223372036854775807 := hO.capm
      have hlt0 : w.heap.size < w1.heap.size := HB1.out.lt
      clear K2 hO hzz
      go_wp2_with fail
      go_loopw [0, 1] (fun l q wr => ∃ (css : List (Array Value)) (rest : List Value) (tt : List Su) (qs : List Int), l = .slice (some ⟨g, 0, none⟩) tt.length cap ∧ OwnSu wr g cap css tt rest ∧ Ints w q qs ∧ 0 < tt.length ∧ tt.length ≤ cap ∧ tt.length ≤ ss.length ∧ Good tt ∧ joinAll Su.empty tt = joinAll Su.empty ss ∧ Keep [] w wr ∧ Blk wr w.heap.size 26 zcells.toList) (fun l _ _ => lenOf l)
      case atStart => exact ⟨css, rest, ss, ps, rfl, HO.out, HP.out, hpos, hle, Nat.le_refl _, HG.out, rfl, HK2.out, HB2.out⟩
      case round =>
        obtain ⟨css, rest, tt, qs, rfl, hO, hQ, htp, htc, hts, hG, hJ, hK, hB⟩ := hrel
        obtain ⟨W, rfl⟩ : ∃ W, W = wr := ⟨_, rfl⟩
        obtain ⟨q, rfl⟩ : ∃ q, q = u1 := ⟨_, rfl⟩
        have HO2 := Lib.hid hO
        have HQ := Lib.hid hQ
        have HG2 := Lib.hid hG
        have HJ := Lib.hid hJ
        have HK := Lib.hid hK
        have HB := Lib.hid hB
        have hgW : g < W.heap.size := hO.blk.lt
        clear hO hQ hG hJ hK hB HO HB2 HK2
        by_cases h1 : 1 < tt.length
        · have d1 : decide ((1 : Int) < (tt.length : Int)) = true := decide_eq_true (by omega)
          have hlq := fun V : World => HQ.out.len V
          have hn1 : (1 : Int) ≤ (tt.length : Int) - 1 := by omega
          go_upto_if 31 with fail
          go_cut [1, 7] (fun q k wc => ∃ (j : Nat) (qs : List Int), k = .int .i64 j ∧ j + 1 < tt.length ∧ Ints w q qs ∧ wc = W)
          case first =>
            cases hq : qs with
            | nil =>
              subst hq
              go_wp2_with fail
              go_meet
              case rel => exact ⟨0, [], rfl, by omega, HQ.out, rfl⟩
            | cons x xs =>
              subst hq
              obtain ⟨q', hsl, hq'⟩ := HQ.out.tail
              have HQ' := Lib.hid hq'
              obtain ⟨gq, oq, hix, hcq⟩ := HQ.out.head
              have hcq := HK.out.cell hcq (by simp)
              obtain ⟨m1, m2⟩ := mod_bounds x ((tt.length : Int) - 1) (by omega)
              obtain ⟨M, hM⟩ : ∃ M, M = x.tmod ((tt.length : Int) - 1) := ⟨_, rfl⟩
              have hlen : 0 < (x :: xs).length := by simp
              go_wp2_with fail
              go_meet
              case rel =>
                have mm := Int.emod_nonneg (x.tmod ((tt.length : Int) - 1)) (show (tt.length : Int) - 1 ≠ 0 by omega)
                have mx := Int.emod_lt_of_pos (x.tmod ((tt.length : Int) - 1)) (show 0 < (tt.length : Int) - 1 by omega)
                exact ⟨((x.tmod ((tt.length : Int) - 1)) % ((tt.length : Int) - 1)).toNat, xs, by rw [Int.toNat_of_nonneg mm], by omega, HQ'.out, rfl⟩
          case rest =>
            obtain ⟨j, qs, rfl, hj, hQ, hwc⟩ := hcut
            subst hwc
            obtain ⟨W, rfl⟩ : ∃ W', W' = wc := ⟨_, rfl⟩
            clear hlq
            have HQ3 := Lib.hid hQ
            clear hQ HQ
            obtain ⟨a, ha⟩ : ∃ a, tt[j]? = some a := ⟨tt[j]'(by omega), by simp [show j < tt.length by omega]⟩
            obtain ⟨b, hb⟩ : ∃ b, tt[j + 1]? = some b := ⟨tt[j + 1]'(by omega), by simp [show j + 1 < tt.length by omega]⟩
            obtain ⟨hG3, hJ3, hcomp⟩ := bracket_step HG2.out ha hb
            obtain ⟨ca, hca, hsa⟩ := HO2.out.at' ha
            obtain ⟨cb, hcb, hsb⟩ := HO2.out.at' hb
            have HRA := Lib.hid (HO2.out.range hca)
            have HRB := Lib.hid (HO2.out.range hcb)
            have HSA := Lib.hid hsa
            have HSB := Lib.hid hsb
            have hidx0 := HO2.out.idx j (by omega)
            have hidx1 : ∀ W : World, (Instr.indexAt 34 (.slice (some ⟨g, 0, none⟩) tt.length cap) (.int .i64 ((j : Int) + 1))).run Tryd.prog W = .ok (.pointer (some ⟨g, (j + 1) * 7, none⟩)) W := HO2.out.idx (j + 1) hj
            have hset := set_erase (ss := tt) (c := a.join b) hj
            have hlen : ((tt.set j (a.join b)).eraseIdx (j + 1)).length = tt.length - 1 := by rw [List.length_eraseIdx, List.length_set, if_pos hj]
            have HG3 := Lib.hid hG3
            have HJ3 := Lib.hid (hJ3.trans HJ.out)
            have HCOMP := Lib.hid hcomp
            have HLEN := Lib.hid hlen
            clear hG3 hJ3 hcomp hsa hsb ha hb hset hlen hca hcb
            go_wp2_with fail
            have wj := IntWalk.i64_in ((j : Int) + 1) (by omega)
            have wj0 : 0 ≤ (j : Int) + 1 := by omega
            have wj1 : (j : Int) + 1 < (tt.length : Int) := by omega
            have wj2 : ((j : Int) + 1).toNat = j + 1 := by omega
            have KD : Keep [] W W.drew := (Keep.refl _ _).drew
            refine wp_region_held_drew (S := fun v : World => True) (by kernel_rfl) trivial (fun hHeld => ?_)
            change wpAnyH _ _ _ _ _ 17 (Array.replicate 17 false) _ _
            refine wpAnyH_take (i := 0) (oi := { dst := some 44, op := Go.Op.move (Go.Operand.tmp 0), type := 34, pos := "scan.go:84", after := #[], guard := none }) (v := ?v13001) rfl (by kernel_rfl) (by kernel_rfl) (by kernel_rfl) (fun _ _ _ h => h) (Or.inl ⟨by rfl, ?y13001⟩) hHeld ?r13001
            case y13001 => (intro w' hSw; (try dsimp only at hSw); go_simp; (try with_reducible rfl))
            try simp only [Act.put, List.setIfInBounds_toArray, List.set_cons_zero, List.set_cons_succ]
            refine wpAnyH_take (i := 1) (oi := { dst := some 45, op := Go.Op.move (Go.Operand.tmp 7), type := 3, pos := "scan.go:84", after := #[], guard := none }) (v := ?v13002) rfl (by kernel_rfl) (by kernel_rfl) (by kernel_rfl) (fun _ _ _ h => h) (Or.inl ⟨by rfl, ?y13002⟩) hHeld ?r13002
            case y13002 => (intro w' hSw; (try dsimp only at hSw); go_simp; (try with_reducible rfl))
            try simp only [Act.put, List.setIfInBounds_toArray, List.set_cons_zero, List.set_cons_succ]
            refine wpAnyH_take (i := 2) (oi := { dst := some 46, op := Go.Op.move (Go.Operand.tmp 0), type := 34, pos := "scan.go:84", after := #[], guard := none }) (v := ?v13003) rfl (by kernel_rfl) (by kernel_rfl) (by kernel_rfl) (fun _ _ _ h => h) (Or.inl ⟨by rfl, ?y13003⟩) hHeld ?r13003
            case y13003 => (intro w' hSw; (try dsimp only at hSw); go_simp; (try with_reducible rfl))
            try simp only [Act.put, List.setIfInBounds_toArray, List.set_cons_zero, List.set_cons_succ]
            refine wpAnyH_take (i := 3) (oi := { dst := some 47, op := Go.Op.move (Go.Operand.tmp 7), type := 3, pos := "scan.go:84", after := #[], guard := none }) (v := ?v13004) rfl (by kernel_rfl) (by kernel_rfl) (by kernel_rfl) (fun _ _ _ h => h) (Or.inl ⟨by rfl, ?y13004⟩) hHeld ?r13004
            case y13004 => (intro w' hSw; (try dsimp only at hSw); go_simp; (try with_reducible rfl))
            try simp only [Act.put, List.setIfInBounds_toArray, List.set_cons_zero, List.set_cons_succ]
            refine wpAnyH_take (i := 4) (oi := { dst := some 48, op := Go.Op.indexAddr 34 (Go.Operand.tmp 46) (Go.Operand.tmp 47), type := 0, pos := "scan.go:84", after := #[{ on := 2, ground := Go.Ground.data }, { on := 3, ground := Go.Ground.data }], guard := none }) (v := ?v13005) rfl (by kernel_rfl) (by kernel_rfl) (by kernel_rfl) (fun _ _ _ h => h) (Or.inl ⟨by rfl, ?y13005⟩) hHeld ?r13005
            case y13005 => (intro w' hSw; (try dsimp only at hSw); go_simp; (try with_reducible rfl))
            try simp only [Act.put, List.setIfInBounds_toArray, List.set_cons_zero, List.set_cons_succ]
            refine wpAnyH_take (i := 6) (oi := { dst := some 50, op := Go.Op.move (Go.Operand.tmp 0), type := 34, pos := "scan.go:84", after := #[], guard := none }) (v := ?v13006) rfl (by kernel_rfl) (by kernel_rfl) (by kernel_rfl) (fun _ _ _ h => h) (Or.inl ⟨by rfl, ?y13006⟩) hHeld ?r13006
            case y13006 => (intro w' hSw; (try dsimp only at hSw); go_simp; (try with_reducible rfl))
            try simp only [Act.put, List.setIfInBounds_toArray, List.set_cons_zero, List.set_cons_succ]
            refine wpAnyH_take (i := 7) (oi := { dst := some 51, op := Go.Op.move (Go.Operand.tmp 7), type := 3, pos := "scan.go:84", after := #[], guard := none }) (v := ?v13007) rfl (by kernel_rfl) (by kernel_rfl) (by kernel_rfl) (fun _ _ _ h => h) (Or.inl ⟨by rfl, ?y13007⟩) hHeld ?r13007
            case y13007 => (intro w' hSw; (try dsimp only at hSw); go_simp; (try with_reducible rfl))
            try simp only [Act.put, List.setIfInBounds_toArray, List.set_cons_zero, List.set_cons_succ]
            refine wpAnyH_take (i := 8) (oi := { dst := some 52, op := Go.Op.binOp Go.BinOp.add 3 (Go.Operand.tmp 51) (Go.Operand.const (Go.Value.int Go.IntKind.i64 1)) 3, type := 3, pos := "scan.go:84", after := #[{ on := 7, ground := Go.Ground.data }], guard := none }) (v := ?v13008) rfl (by kernel_rfl) (by kernel_rfl) (by kernel_rfl) (fun _ _ _ h => h) (Or.inl ⟨by rfl, ?y13008⟩) hHeld ?r13008
            case y13008 => (intro w' hSw; (try dsimp only at hSw); go_simp; (try with_reducible rfl))
            try simp only [Act.put, List.setIfInBounds_toArray, List.set_cons_zero, List.set_cons_succ]
            refine wpAnyH_take (i := 9) (oi := { dst := some 53, op := Go.Op.indexAddr 34 (Go.Operand.tmp 50) (Go.Operand.tmp 52), type := 0, pos := "scan.go:84", after := #[{ on := 6, ground := Go.Ground.data }, { on := 8, ground := Go.Ground.data }], guard := none }) (v := ?v13009) rfl (by kernel_rfl) (by kernel_rfl) (by kernel_rfl) (fun _ _ _ h => h) (Or.inl ⟨by rfl, ?y13009⟩) hHeld ?r13009
            case y13009 => (intro w' hSw; (try dsimp only at hSw); go_simp; (try with_reducible rfl))
            try simp only [Act.put, List.setIfInBounds_toArray, List.set_cons_zero, List.set_cons_succ]
            refine wpAnyH_ready (rs := [5, 10]) (by kernel_rfl) (by simp) ?_
            refine AllReadyH.cons (o := { dst := some 49, op := Go.Op.load 26 (Go.Operand.tmp 48), type := 26, pos := "scan.go:84", after := #[{ on := 4, ground := Go.Ground.data }], guard := none }) rfl (fun K hK => ?_) ?_
            · refine step_load_su rfl (.tmp 48) rfl g (j * 7) ca _ (rangeAt_keep HRA.out KD (by simp)) (HSA.out.keep KD) rfl ?_
              refine hK.out _ _ ?_ (fun hHeld => ?_)
              · trivial
              clear hK K
              try simp only [Act.put, List.setIfInBounds_toArray, List.set_cons_zero, List.set_cons_succ]
              refine wpAnyH_ready (rs := [10]) (by kernel_rfl) (by simp) ?_
              refine AllReadyH.cons (o := { dst := some 54, op := Go.Op.load 26 (Go.Operand.tmp 53), type := 26, pos := "scan.go:84", after := #[{ on := 9, ground := Go.Ground.data }], guard := none }) rfl (fun K hK => ?_) ?_
              · refine step_load_su rfl (.tmp 53) rfl g ((j + 1) * 7) cb _ (rangeAt_keep HRB.out KD (by simp)) (HSB.out.keep KD) rfl ?_
                refine hK.out _ _ ?_ (fun hHeld => ?_)
                · trivial
                clear hK K
                try simp only [Act.put, List.setIfInBounds_toArray, List.set_cons_zero, List.set_cons_succ]
                refine wpAnyH_ready (rs := [11]) (by kernel_rfl) (by simp) ?_
                refine AllReadyH.cons (o := { dst := some 55, op := Go.Op.call { callee := Go.Callee.value (Go.Operand.func 13), args := #[Go.Operand.tmp 49, Go.Operand.tmp 54], argTypes := #[26, 26] }, type := 29, pos := "scan.go:84", after := #[{ on := 5, ground := Go.Ground.data }, { on := 10, ground := Go.Ground.data }], guard := none }) rfl (fun K hK => ?_) ?_
                · go_simp
                  refine (compose_any _ _ a b _ (HSA.out.keep KD) (HSB.out.keep KD)).mono ?_
                  rintro e w1 ⟨v3, rfl, h3, Kc, hf3⟩
                  obtain ⟨c3, rfl, -, -⟩ := h3.cells
                  rw [HCOMP.out] at h3 ⊢
                  have K1 : Keep [] W w1 := KD.trans Kc
                  refine hK.out _ _ ?_ (fun hHeld => ?_)
                  · trivial
                  clear hK K
                  try simp only [Act.put, List.setIfInBounds_toArray, List.set_cons_zero, List.set_cons_succ]
                  refine wpAnyH_take (i := 12) (oi := { dst := some 43, op := Go.Op.move (Go.Operand.tmp 55), type := 29, pos := "scan.go:84", after := #[{ on := 11, ground := Go.Ground.data }], guard := none }) (v := ?v13013) rfl (by kernel_rfl) (by kernel_rfl) (by kernel_rfl) (fun _ _ _ h => h) (Or.inl ⟨by rfl, ?y13013⟩) hHeld ?r13013
                  case y13013 => (intro w' hSw; (try dsimp only at hSw); go_simp; (try with_reducible rfl))
                  try simp only [Act.put, List.setIfInBounds_toArray, List.set_cons_zero, List.set_cons_succ]
                  refine wpAnyH_take (i := 13) (oi := { dst := some 56, op := Go.Op.extract (Go.Operand.tmp 43) 0, type := 26, pos := "scan.go:84", after := #[{ on := 12, ground := Go.Ground.data }], guard := none }) (v := ?v13014) rfl (by kernel_rfl) (by kernel_rfl) (by kernel_rfl) (fun _ _ _ h => h) (Or.inl ⟨by rfl, ?y13014⟩) hHeld ?r13014
                  case y13014 => (intro w' hSw; (try dsimp only at hSw); go_simp; (try with_reducible rfl))
                  try simp only [Act.put, List.setIfInBounds_toArray, List.set_cons_zero, List.set_cons_succ]
                  refine wpAnyH_take (i := 14) (oi := { dst := some 57, op := Go.Op.extract (Go.Operand.tmp 43) 1, type := 28, pos := "scan.go:84", after := #[{ on := 12, ground := Go.Ground.data }, { on := 16, ground := Go.Ground.gcOnly Go.Departure.lateStores }], guard := none }) (v := ?v13015) rfl (by kernel_rfl) (by kernel_rfl) (by kernel_rfl) (fun _ _ _ h => h) (Or.inl ⟨by rfl, ?y13015⟩) hHeld ?r13015
                  case y13015 => (intro w' hSw; (try dsimp only at hSw); go_simp; (try with_reducible rfl))
                  try simp only [Act.put, List.setIfInBounds_toArray, List.set_cons_zero, List.set_cons_succ]
                  refine wpAnyH_take (i := 15) (oi := { dst := some 58, op := Go.Op.indexAddr 34 (Go.Operand.tmp 44) (Go.Operand.tmp 45), type := 0, pos := "scan.go:84", after := #[{ on := 0, ground := Go.Ground.data }, { on := 1, ground := Go.Ground.data }, { on := 0, ground := Go.Ground.phase }, { on := 1, ground := Go.Ground.phase }, { on := 2, ground := Go.Ground.phase }, { on := 3, ground := Go.Ground.phase }, { on := 4, ground := Go.Ground.phase }, { on := 5, ground := Go.Ground.phase }, { on := 6, ground := Go.Ground.phase }, { on := 7, ground := Go.Ground.phase }, { on := 8, ground := Go.Ground.phase }, { on := 9, ground := Go.Ground.phase }, { on := 10, ground := Go.Ground.phase }, { on := 11, ground := Go.Ground.phase }, { on := 12, ground := Go.Ground.phase }, { on := 13, ground := Go.Ground.phase }, { on := 14, ground := Go.Ground.textOnly Go.Departure.lateStores }], guard := none }) (v := ?v13016) rfl (by kernel_rfl) (by kernel_rfl) (by kernel_rfl) (fun _ _ _ h => h) (Or.inl ⟨by rfl, ?y13016⟩) hHeld ?r13016
                  case y13016 => (intro w' hSw; (try dsimp only at hSw); go_simp; (try with_reducible rfl))
                  try simp only [Act.put, List.setIfInBounds_toArray, List.set_cons_zero, List.set_cons_succ]
                  refine wpAnyH_ready (rs := [16]) (by kernel_rfl) (by simp) ?_
                  refine AllReadyH.cons (o := { dst := none, op := Go.Op.store 26 (Go.Operand.tmp 58) (Go.Operand.tmp 56), type := 0, pos := "scan.go:84", after := #[{ on := 15, ground := Go.Ground.data }, { on := 13, ground := Go.Ground.data }, { on := 11, ground := Go.Ground.chain }, { on := 0, ground := Go.Ground.phase }, { on := 1, ground := Go.Ground.phase }, { on := 2, ground := Go.Ground.phase }, { on := 3, ground := Go.Ground.phase }, { on := 4, ground := Go.Ground.phase }, { on := 5, ground := Go.Ground.phase }, { on := 6, ground := Go.Ground.phase }, { on := 7, ground := Go.Ground.phase }, { on := 8, ground := Go.Ground.phase }, { on := 9, ground := Go.Ground.phase }, { on := 10, ground := Go.Ground.phase }, { on := 11, ground := Go.Ground.phase }, { on := 12, ground := Go.Ground.phase }, { on := 13, ground := Go.Ground.phase }, { on := 14, ground := Go.Ground.textOnly Go.Departure.lateStores }], guard := none }) rfl (fun K hK => ?_) ?_
                  · have hO1 := HO2.out.keep0 K1
                    have hgw : g < W.drew.heap.size := hgW
                    have hst := Stable.of_fresh h3 hf3 hgw
                    obtain ⟨hO4, K4⟩ := hO1.set (k := j) (by omega) hst
                    have hth := hO1.there (k := j) (by omega)
                    have h7 := Lib.hid h3.size7
                    have h71 := Lib.hid h3.one
                    have HTH := Lib.hid (show w1.there g (j * 7) c3.size by rw [h7.out]; exact hth)
                    obtain ⟨V, hV⟩ : ∃ V, V = w1.setCells g (j * 7) c3.toList := ⟨_, rfl⟩
                    rw [← hV] at hO4 K4
                    have HO4 := Lib.hid hO4
                    have KV : Keep [g] W V := (K1.mono (by simp)).trans K4
                    have HKV := Lib.hid KV
                    have HV := Lib.hid hV
                    have hl4 : (tt.set j (a.join b)).length = tt.length := by simp
                    clear hO1 hst hO4 K4 hth h3 hf3 hV K1 Kc KV
                    refine step_store_mid rfl 26 (.tmp 58) (.tmp 56) rfl g (j * 7) c3 rfl rfl HTH.out (size26 h7.out) h71.out ?_
                    rw [← HV.out]
                    refine hK.out _ _ ?_ (fun hHeld => ?_)
                    · trivial
                    clear hK K
                    try simp only [Act.put, List.setIfInBounds_toArray, List.set_cons_zero, List.set_cons_succ]
                    refine wpAnyH_done (by kernel_rfl) ?_ _
                    clear hHeld wj wj0 wj1 wj2
                    go_wp2_with fail
                    have hdel := delete_at g cap j (css.set j c3) (tt.set j (a.join b)) rest V HO4.out (by rw [hl4]; exact hj)
                    rw [hl4] at hdel
                    refine hdel.mono ?_
                    rintro e w5 ⟨rest5, rfl, hO5, K5⟩
                    rw [hl4]
                    have HO5 := Lib.hid hO5
                    have HK5 := Lib.hid ((HK.out.fresh HKV.out (by simp; omega)).fresh K5 (by simp; omega))
                    have HKg := Lib.hid (HKV.out.trans K5)
                    clear hdel hO5 K5 hl4
                    go_wp2_with fail
                    go_roundw
                    case rel => exact ⟨_, rest5, (tt.set j (a.join b)).eraseIdx (j + 1), qs, by rw [HLEN.out], HO5.out, HQ3.out, by rw [HLEN.out]; omega, by rw [HLEN.out]; omega, by rw [HLEN.out]; omega, HG3.out, HJ3.out, HK5.out, HKg.out.blk HB.out (by simp; omega)⟩
                    case measure => simp [lenOf]; omega
                  exact AllReadyH.nil
                exact AllReadyH.nil
              exact AllReadyH.nil
            refine AllReadyH.cons (o := { dst := some 54, op := Go.Op.load 26 (Go.Operand.tmp 53), type := 26, pos := "scan.go:84", after := #[{ on := 9, ground := Go.Ground.data }], guard := none }) rfl (fun K hK => ?_) ?_
            · refine step_load_su rfl (.tmp 53) rfl g ((j + 1) * 7) cb _ (rangeAt_keep HRB.out KD (by simp)) (HSB.out.keep KD) rfl ?_
              refine hK.out _ _ ?_ (fun hHeld => ?_)
              · trivial
              clear hK K
              try simp only [Act.put, List.setIfInBounds_toArray, List.set_cons_zero, List.set_cons_succ]
              refine wpAnyH_ready (rs := [5]) (by kernel_rfl) (by simp) ?_
              refine AllReadyH.cons (o := { dst := some 49, op := Go.Op.load 26 (Go.Operand.tmp 48), type := 26, pos := "scan.go:84", after := #[{ on := 4, ground := Go.Ground.data }], guard := none }) rfl (fun K hK => ?_) ?_
              · refine step_load_su rfl (.tmp 48) rfl g (j * 7) ca _ (rangeAt_keep HRA.out KD (by simp)) (HSA.out.keep KD) rfl ?_
                refine hK.out _ _ ?_ (fun hHeld => ?_)
                · trivial
                clear hK K
                try simp only [Act.put, List.setIfInBounds_toArray, List.set_cons_zero, List.set_cons_succ]
                refine wpAnyH_ready (rs := [11]) (by kernel_rfl) (by simp) ?_
                refine AllReadyH.cons (o := { dst := some 55, op := Go.Op.call { callee := Go.Callee.value (Go.Operand.func 13), args := #[Go.Operand.tmp 49, Go.Operand.tmp 54], argTypes := #[26, 26] }, type := 29, pos := "scan.go:84", after := #[{ on := 5, ground := Go.Ground.data }, { on := 10, ground := Go.Ground.data }], guard := none }) rfl (fun K hK => ?_) ?_
                · go_simp
                  refine (compose_any _ _ a b _ (HSA.out.keep KD) (HSB.out.keep KD)).mono ?_
                  rintro e w1 ⟨v3, rfl, h3, Kc, hf3⟩
                  obtain ⟨c3, rfl, -, -⟩ := h3.cells
                  rw [HCOMP.out] at h3 ⊢
                  have K1 : Keep [] W w1 := KD.trans Kc
                  refine hK.out _ _ ?_ (fun hHeld => ?_)
                  · trivial
                  clear hK K
                  try simp only [Act.put, List.setIfInBounds_toArray, List.set_cons_zero, List.set_cons_succ]
                  refine wpAnyH_take (i := 12) (oi := { dst := some 43, op := Go.Op.move (Go.Operand.tmp 55), type := 29, pos := "scan.go:84", after := #[{ on := 11, ground := Go.Ground.data }], guard := none }) (v := ?v13021) rfl (by kernel_rfl) (by kernel_rfl) (by kernel_rfl) (fun _ _ _ h => h) (Or.inl ⟨by rfl, ?y13021⟩) hHeld ?r13021
                  case y13021 => (intro w' hSw; (try dsimp only at hSw); go_simp; (try with_reducible rfl))
                  try simp only [Act.put, List.setIfInBounds_toArray, List.set_cons_zero, List.set_cons_succ]
                  refine wpAnyH_take (i := 13) (oi := { dst := some 56, op := Go.Op.extract (Go.Operand.tmp 43) 0, type := 26, pos := "scan.go:84", after := #[{ on := 12, ground := Go.Ground.data }], guard := none }) (v := ?v13022) rfl (by kernel_rfl) (by kernel_rfl) (by kernel_rfl) (fun _ _ _ h => h) (Or.inl ⟨by rfl, ?y13022⟩) hHeld ?r13022
                  case y13022 => (intro w' hSw; (try dsimp only at hSw); go_simp; (try with_reducible rfl))
                  try simp only [Act.put, List.setIfInBounds_toArray, List.set_cons_zero, List.set_cons_succ]
                  refine wpAnyH_take (i := 14) (oi := { dst := some 57, op := Go.Op.extract (Go.Operand.tmp 43) 1, type := 28, pos := "scan.go:84", after := #[{ on := 12, ground := Go.Ground.data }, { on := 16, ground := Go.Ground.gcOnly Go.Departure.lateStores }], guard := none }) (v := ?v13023) rfl (by kernel_rfl) (by kernel_rfl) (by kernel_rfl) (fun _ _ _ h => h) (Or.inl ⟨by rfl, ?y13023⟩) hHeld ?r13023
                  case y13023 => (intro w' hSw; (try dsimp only at hSw); go_simp; (try with_reducible rfl))
                  try simp only [Act.put, List.setIfInBounds_toArray, List.set_cons_zero, List.set_cons_succ]
                  refine wpAnyH_take (i := 15) (oi := { dst := some 58, op := Go.Op.indexAddr 34 (Go.Operand.tmp 44) (Go.Operand.tmp 45), type := 0, pos := "scan.go:84", after := #[{ on := 0, ground := Go.Ground.data }, { on := 1, ground := Go.Ground.data }, { on := 0, ground := Go.Ground.phase }, { on := 1, ground := Go.Ground.phase }, { on := 2, ground := Go.Ground.phase }, { on := 3, ground := Go.Ground.phase }, { on := 4, ground := Go.Ground.phase }, { on := 5, ground := Go.Ground.phase }, { on := 6, ground := Go.Ground.phase }, { on := 7, ground := Go.Ground.phase }, { on := 8, ground := Go.Ground.phase }, { on := 9, ground := Go.Ground.phase }, { on := 10, ground := Go.Ground.phase }, { on := 11, ground := Go.Ground.phase }, { on := 12, ground := Go.Ground.phase }, { on := 13, ground := Go.Ground.phase }, { on := 14, ground := Go.Ground.textOnly Go.Departure.lateStores }], guard := none }) (v := ?v13024) rfl (by kernel_rfl) (by kernel_rfl) (by kernel_rfl) (fun _ _ _ h => h) (Or.inl ⟨by rfl, ?y13024⟩) hHeld ?r13024
                  case y13024 => (intro w' hSw; (try dsimp only at hSw); go_simp; (try with_reducible rfl))
                  try simp only [Act.put, List.setIfInBounds_toArray, List.set_cons_zero, List.set_cons_succ]
                  refine wpAnyH_ready (rs := [16]) (by kernel_rfl) (by simp) ?_
                  refine AllReadyH.cons (o := { dst := none, op := Go.Op.store 26 (Go.Operand.tmp 58) (Go.Operand.tmp 56), type := 0, pos := "scan.go:84", after := #[{ on := 15, ground := Go.Ground.data }, { on := 13, ground := Go.Ground.data }, { on := 11, ground := Go.Ground.chain }, { on := 0, ground := Go.Ground.phase }, { on := 1, ground := Go.Ground.phase }, { on := 2, ground := Go.Ground.phase }, { on := 3, ground := Go.Ground.phase }, { on := 4, ground := Go.Ground.phase }, { on := 5, ground := Go.Ground.phase }, { on := 6, ground := Go.Ground.phase }, { on := 7, ground := Go.Ground.phase }, { on := 8, ground := Go.Ground.phase }, { on := 9, ground := Go.Ground.phase }, { on := 10, ground := Go.Ground.phase }, { on := 11, ground := Go.Ground.phase }, { on := 12, ground := Go.Ground.phase }, { on := 13, ground := Go.Ground.phase }, { on := 14, ground := Go.Ground.textOnly Go.Departure.lateStores }], guard := none }) rfl (fun K hK => ?_) ?_
                  · have hO1 := HO2.out.keep0 K1
                    have hgw : g < W.drew.heap.size := hgW
                    have hst := Stable.of_fresh h3 hf3 hgw
                    obtain ⟨hO4, K4⟩ := hO1.set (k := j) (by omega) hst
                    have hth := hO1.there (k := j) (by omega)
                    have h7 := Lib.hid h3.size7
                    have h71 := Lib.hid h3.one
                    have HTH := Lib.hid (show w1.there g (j * 7) c3.size by rw [h7.out]; exact hth)
                    obtain ⟨V, hV⟩ : ∃ V, V = w1.setCells g (j * 7) c3.toList := ⟨_, rfl⟩
                    rw [← hV] at hO4 K4
                    have HO4 := Lib.hid hO4
                    have KV : Keep [g] W V := (K1.mono (by simp)).trans K4
                    have HKV := Lib.hid KV
                    have HV := Lib.hid hV
                    have hl4 : (tt.set j (a.join b)).length = tt.length := by simp
                    clear hO1 hst hO4 K4 hth h3 hf3 hV K1 Kc KV
                    refine step_store_mid rfl 26 (.tmp 58) (.tmp 56) rfl g (j * 7) c3 rfl rfl HTH.out (size26 h7.out) h71.out ?_
                    rw [← HV.out]
                    refine hK.out _ _ ?_ (fun hHeld => ?_)
                    · trivial
                    clear hK K
                    try simp only [Act.put, List.setIfInBounds_toArray, List.set_cons_zero, List.set_cons_succ]
                    refine wpAnyH_done (by kernel_rfl) ?_ _
                    clear hHeld wj wj0 wj1 wj2
                    go_wp2_with fail
                    have hdel := delete_at g cap j (css.set j c3) (tt.set j (a.join b)) rest V HO4.out (by rw [hl4]; exact hj)
                    rw [hl4] at hdel
                    refine hdel.mono ?_
                    rintro e w5 ⟨rest5, rfl, hO5, K5⟩
                    rw [hl4]
                    have HO5 := Lib.hid hO5
                    have HK5 := Lib.hid ((HK.out.fresh HKV.out (by simp; omega)).fresh K5 (by simp; omega))
                    have HKg := Lib.hid (HKV.out.trans K5)
                    clear hdel hO5 K5 hl4
                    go_wp2_with fail
                    go_roundw
                    case rel => exact ⟨_, rest5, (tt.set j (a.join b)).eraseIdx (j + 1), qs, by rw [HLEN.out], HO5.out, HQ3.out, by rw [HLEN.out]; omega, by rw [HLEN.out]; omega, by rw [HLEN.out]; omega, HG3.out, HJ3.out, HK5.out, HKg.out.blk HB.out (by simp; omega)⟩
                    case measure => simp [lenOf]; omega
                  exact AllReadyH.nil
                exact AllReadyH.nil
              exact AllReadyH.nil
            exact AllReadyH.nil
        · have h1' : tt.length = 1 := by omega
          obtain ⟨a, ha⟩ : ∃ a, tt[0]? = some a := ⟨tt[0]'(by omega), by simp [htp]⟩
          have htt : tt = [a] := by
            match tt, h1', ha with
            | [y], _, h => simp at h; rw [h]
          have hav : a.valid = true := by have := HG2.out.1; rw [htt] at this; simpa using this
          obtain ⟨ca, hca, hsa⟩ := HO2.out.at' ha
          have hidx0 : ∀ W : World, (Instr.indexAt 34 (.slice (some ⟨g, 0, none⟩) tt.length cap) (.int .i64 0)).run Tryd.prog W = .ok (.pointer (some ⟨g, 0, none⟩)) W := HO2.out.idx 0 (by omega)
          have hra : W.rangeAt g 0 ca.toList := HO2.out.range hca
          have hall : r = (a, 0) := by
            rw [HRE.out, allOf_good HG.out, ← HJ.out, htt]
            simp [joinAll, empty_join]
          have HRA := Lib.hid hra
          have HSA := Lib.hid hsa
          have HALL := Lib.hid hall
          have HAV := Lib.hid hav
          have hcp : compose Su.empty a = (a, 0) := compose_empty_left hav
          have HCP := Lib.hid hcp
          obtain ⟨s3, hs3⟩ : ∃ s3, s3 = a := ⟨_, rfl⟩
          have HS3 := Lib.hid hs3
          have d1 : decide ((1 : Int) < (tt.length : Int)) = false := decide_eq_false (by omega)
          clear hra hsa hall hav hcp ha htt hca hs3
          go_wp2_with fail
          go_cut [9, 10] (fun p y wc => ∃ (D : Nat) (c3 : Array Value), p = .pointer (some ⟨D, 0, none⟩) ∧ y = .int .i64 0 ∧ W.heap.size ≤ D ∧ Keep [] W wc ∧ SBox wc D c3 s3 ∧ FreshV W.heap.size (.agg c3))
          case first =>
            have KD : Keep [] W W.drew := (Keep.refl _ _).drew
            have KR : Keep [] W W := Keep.refl _ _
            refine wp_region_held_drew (S := fun v : World => v.rangeAt g 0 ca.toList) (by kernel_rfl) HRA.out (fun hHeld => ?_)
            change wpAnyH _ _ _ _ _ 11 (Array.replicate 11 false) _ _
            refine wpAnyH_take (i := 1) (oi := { dst := some 67, op := Go.Op.move (Go.Operand.tmp 0), type := 34, pos := "scan.go:87", after := #[], guard := none }) (v := ?v15001) rfl (by kernel_rfl) (by kernel_rfl) (by kernel_rfl) (fun _ _ _ h => h) (Or.inl ⟨by rfl, ?y15001⟩) hHeld ?r15001
            case y15001 => (intro w' hSw; (try dsimp only at hSw); go_simp; (try with_reducible rfl))
            try simp only [Act.put, List.setIfInBounds_toArray, List.set_cons_zero, List.set_cons_succ]
            refine wpAnyH_take (i := 2) (oi := { dst := some 68, op := Go.Op.indexAddr 34 (Go.Operand.tmp 67) (Go.Operand.const (Go.Value.int Go.IntKind.i64 0)), type := 0, pos := "scan.go:87", after := #[{ on := 1, ground := Go.Ground.data }], guard := none }) (v := ?v15002) rfl (by kernel_rfl) (by kernel_rfl) (by kernel_rfl) (fun _ _ _ h => h) (Or.inl ⟨by rfl, ?y15002⟩) hHeld ?r15002
            case y15002 => (intro w' hSw; (try dsimp only at hSw); go_simp; (try with_reducible rfl))
            try simp only [Act.put, List.setIfInBounds_toArray, List.set_cons_zero, List.set_cons_succ]
            refine wpAnyH_take (i := 3) (oi := { dst := some 69, op := Go.Op.load 26 (Go.Operand.tmp 68), type := 26, pos := "scan.go:87", after := #[{ on := 2, ground := Go.Ground.data }], guard := none }) (v := .agg ca) rfl (by kernel_rfl) (by kernel_rfl) (by kernel_rfl) (fun _ _ _ h => h) (yields_su rfl (.tmp 68) rfl (g) (0) ca rfl HSA.out.size7 (fun v hS => hS)) hHeld ?_
            try simp only [Act.put, List.setIfInBounds_toArray, List.set_cons_zero, List.set_cons_succ]
            refine wpAnyH_ready (rs := [0, 8]) (by kernel_rfl) (by simp) ?_
            refine AllReadyH.cons (o := { dst := some 66, op := Go.Op.call { callee := Go.Callee.value (Go.Operand.func 14), args := #[], argTypes := #[] }, type := 26, pos := "scan.go:87", after := #[], guard := none }) rfl (fun K hK => ?_) ?_
            · go_simp
              refine (empty_any _).mono ?_
              rintro e w15004 ⟨rfl, Kc15004⟩
              have K15004 : Keep [] W w15004 := KD.trans Kc15004
              refine hK.out _ _ ?_ (fun hHeld => ?_)
              · exact rangeAt_keep HRA.out K15004 (by simp)
              clear hK K
              try simp only [Act.put, List.setIfInBounds_toArray, List.set_cons_zero, List.set_cons_succ]
              refine wpAnyH_ready (rs := [4, 8]) (by kernel_rfl) (by simp) ?_
              refine AllReadyH.cons (o := { dst := some 70, op := Go.Op.call { callee := Go.Callee.value (Go.Operand.func 13), args := #[Go.Operand.tmp 66, Go.Operand.tmp 69], argTypes := #[26, 26] }, type := 29, pos := "scan.go:87", after := #[{ on := 0, ground := Go.Ground.data }, { on := 3, ground := Go.Ground.data }, { on := 0, ground := Go.Ground.chain }], guard := none }) rfl (fun K hK => ?_) ?_
              · go_simp
                refine (compose_any _ _ Su.empty a _ (emptyV_su _) (HSA.out.keep K15004)).mono ?_
                rintro e w15005 ⟨v3, rfl, h3, Kc15005, hf3⟩
                obtain ⟨c3, rfl, -, -⟩ := h3.cells
                rw [HCP.out] at h3 ⊢
                rw [show (a, (0 : Int)).1 = s3 from HS3.out.symm] at h3
                have K15005 : Keep [] W w15005 := K15004.trans Kc15005
                refine hK.out _ _ ?_ (fun hHeld => ?_)
                · exact rangeAt_keep HRA.out K15005 (by simp)
                clear hK K
                try simp only [Act.put, List.setIfInBounds_toArray, List.set_cons_zero, List.set_cons_succ]
                refine wpAnyH_take (i := 5) (oi := { dst := some 65, op := Go.Op.move (Go.Operand.tmp 70), type := 29, pos := "scan.go:87", after := #[{ on := 4, ground := Go.Ground.data }], guard := none }) (v := ?v15006) rfl (by kernel_rfl) (by kernel_rfl) (by kernel_rfl) (fun _ _ _ h => h) (Or.inl ⟨by rfl, ?y15006⟩) hHeld ?r15006
                case y15006 => (intro w' hSw; (try dsimp only at hSw); go_simp; (try with_reducible rfl))
                try simp only [Act.put, List.setIfInBounds_toArray, List.set_cons_zero, List.set_cons_succ]
                refine wpAnyH_take (i := 6) (oi := { dst := some 71, op := Go.Op.extract (Go.Operand.tmp 65) 0, type := 26, pos := "scan.go:87", after := #[{ on := 5, ground := Go.Ground.data }], guard := none }) (v := ?v15007) rfl (by kernel_rfl) (by kernel_rfl) (by kernel_rfl) (fun _ _ _ h => h) (Or.inl ⟨by rfl, ?y15007⟩) hHeld ?r15007
                case y15007 => (intro w' hSw; (try dsimp only at hSw); go_simp; (try with_reducible rfl))
                try simp only [Act.put, List.setIfInBounds_toArray, List.set_cons_zero, List.set_cons_succ]
                refine wpAnyH_take (i := 7) (oi := { dst := some 72, op := Go.Op.extract (Go.Operand.tmp 65) 1, type := 28, pos := "scan.go:87", after := #[{ on := 5, ground := Go.Ground.data }, { on := 9, ground := Go.Ground.gcOnly Go.Departure.lateStores }], guard := none }) (v := ?v15008) rfl (by kernel_rfl) (by kernel_rfl) (by kernel_rfl) (fun _ _ _ h => h) (Or.inl ⟨by rfl, ?y15008⟩) hHeld ?r15008
                case y15008 => (intro w' hSw; (try dsimp only at hSw); go_simp; (try with_reducible rfl))
                try simp only [Act.put, List.setIfInBounds_toArray, List.set_cons_zero, List.set_cons_succ]
                refine wpAnyH_ready (rs := [8]) (by kernel_rfl) (by simp) ?_
                refine AllReadyH.cons (o := { dst := some 9, op := Go.Op.alloc 26, type := 0, pos := "scan.go:87", after := #[], guard := none }) rfl (fun K hK => ?_) ?_
                · go_simp
                  have DB15009 : Blk (w15005.alloc (.cells zcells 26)) w15005.heap.size 26 zcells.toList := Blk.new w15005 zcells 26
                  have Ka15009 : Keep [] w15005 (w15005.alloc (.cells zcells 26)) := (Keep.refl [] _).alloc _
                  have K15009 : Keep [] W (w15005.alloc (.cells zcells 26)) := K15005.trans Ka15009
                  have hDge : W.heap.size ≤ w15005.heap.size := K15005.size
                  have h315009 := h3.keep Ka15009
                  generalize hWD15009 : (w15005.alloc (.cells zcells 26)) = WD15009 at *
                  clear hWD15009
                  refine hK.out _ _ ?_ (fun hHeld => ?_)
                  · exact rangeAt_keep HRA.out K15009 (by simp)
                  clear hK K
                  try simp only [Act.put, List.setIfInBounds_toArray, List.set_cons_zero, List.set_cons_succ]
                  refine wpAnyH_ready (rs := [9]) (by kernel_rfl) (by simp) ?_
                  refine AllReadyH.cons (o := { dst := none, op := Go.Op.store 26 (Go.Operand.tmp 9) (Go.Operand.tmp 71), type := 0, pos := "scan.go:87", after := #[{ on := 8, ground := Go.Ground.data }, { on := 6, ground := Go.Ground.data }, { on := 4, ground := Go.Ground.chain }, { on := 0, ground := Go.Ground.phase }, { on := 1, ground := Go.Ground.phase }, { on := 2, ground := Go.Ground.phase }, { on := 3, ground := Go.Ground.phase }, { on := 4, ground := Go.Ground.phase }, { on := 5, ground := Go.Ground.phase }, { on := 6, ground := Go.Ground.phase }, { on := 7, ground := Go.Ground.textOnly Go.Departure.lateStores }, { on := 8, ground := Go.Ground.phase }], guard := none }) rfl (fun K hK => ?_) ?_
                  · refine step_su rfl (.tmp 9) (.tmp 71) rfl w15005.heap.size c3 s3 zcells.toList DB15009 rfl h315009 (fun _ k => h3.keep (Keep.fresh Ka15009 k (by simp))) rfl rfl ?_
                    intro wS BS KS
                    have KF : Keep [] W wS := K15009.fresh KS (by simp <;> omega)
                    refine hK.out _ _ ?_ (fun hHeld => ?_)
                    · exact rangeAt_keep HRA.out KF (by simp)
                    clear hK K
                    try simp only [Act.put, List.setIfInBounds_toArray, List.set_cons_zero, List.set_cons_succ]
                    refine wpAnyH_take (i := 10) (oi := { dst := some 10, op := Go.Op.assign (Go.Operand.tmp 72), type := 28, pos := "scan.go:87", after := #[{ on := 7, ground := Go.Ground.data }, { on := 9, ground := Go.Ground.chain }, { on := 0, ground := Go.Ground.phase }, { on := 1, ground := Go.Ground.phase }, { on := 2, ground := Go.Ground.phase }, { on := 3, ground := Go.Ground.phase }, { on := 4, ground := Go.Ground.phase }, { on := 5, ground := Go.Ground.phase }, { on := 6, ground := Go.Ground.phase }, { on := 7, ground := Go.Ground.phase }, { on := 8, ground := Go.Ground.phase }, { on := 9, ground := Go.Ground.phase }], guard := none }) (v := ?v15011) rfl (by kernel_rfl) (by kernel_rfl) (by kernel_rfl) (fun _ _ _ h => h) (Or.inl ⟨by rfl, ?y15011⟩) hHeld ?r15011
                    case y15011 => (intro w' hSw; (try dsimp only at hSw); go_simp; (try with_reducible rfl))
                    try simp only [Act.put, List.setIfInBounds_toArray, List.set_cons_zero, List.set_cons_succ]
                    refine wpAnyH_done (by kernel_rfl) ?_ _
                    have HKF := Lib.hid KF
                    have HBS := Lib.hid BS
                    have hge := hDge
                    have HF3 := Lib.hid (FreshV.le hf3 (by first | exact KR.size | exact (K15004).size | omega : W.heap.size ≤ _))
                    clear hHeld KF BS KS
                    go_wp2_with fail
                    go_meet
                    case rel => exact ⟨_, c3, rfl, rfl, hge, HKF.out, HBS.out, HF3.out⟩
                  exact AllReadyH.nil
                exact AllReadyH.nil
              refine AllReadyH.cons (o := { dst := some 9, op := Go.Op.alloc 26, type := 0, pos := "scan.go:87", after := #[], guard := none }) rfl (fun K hK => ?_) ?_
              · go_simp
                have DB15012 : Blk (w15004.alloc (.cells zcells 26)) w15004.heap.size 26 zcells.toList := Blk.new w15004 zcells 26
                have Ka15012 : Keep [] w15004 (w15004.alloc (.cells zcells 26)) := (Keep.refl [] _).alloc _
                have K15012 : Keep [] W (w15004.alloc (.cells zcells 26)) := K15004.trans Ka15012
                have hDge : W.heap.size ≤ w15004.heap.size := K15004.size
                generalize hWD15012 : (w15004.alloc (.cells zcells 26)) = WD15012 at *
                clear hWD15012
                refine hK.out _ _ ?_ (fun hHeld => ?_)
                · exact rangeAt_keep HRA.out K15012 (by simp)
                clear hK K
                try simp only [Act.put, List.setIfInBounds_toArray, List.set_cons_zero, List.set_cons_succ]
                refine wpAnyH_ready (rs := [4]) (by kernel_rfl) (by simp) ?_
                refine AllReadyH.cons (o := { dst := some 70, op := Go.Op.call { callee := Go.Callee.value (Go.Operand.func 13), args := #[Go.Operand.tmp 66, Go.Operand.tmp 69], argTypes := #[26, 26] }, type := 29, pos := "scan.go:87", after := #[{ on := 0, ground := Go.Ground.data }, { on := 3, ground := Go.Ground.data }, { on := 0, ground := Go.Ground.chain }], guard := none }) rfl (fun K hK => ?_) ?_
                · go_simp
                  have hDlt := DB15012.lt
                  refine (compose_any _ _ Su.empty a _ (emptyV_su _) (HSA.out.keep K15012)).mono ?_
                  rintro e w15013 ⟨v3, rfl, h3, Kc15013, hf3⟩
                  obtain ⟨c3, rfl, -, -⟩ := h3.cells
                  rw [HCP.out] at h3 ⊢
                  rw [show (a, (0 : Int)).1 = s3 from HS3.out.symm] at h3
                  have K15013 : Keep [] W w15013 := K15012.trans Kc15013
                  have DB15013 := Kc15013.blk DB15012 (by simp)
                  refine hK.out _ _ ?_ (fun hHeld => ?_)
                  · exact rangeAt_keep HRA.out K15013 (by simp)
                  clear hK K
                  try simp only [Act.put, List.setIfInBounds_toArray, List.set_cons_zero, List.set_cons_succ]
                  refine wpAnyH_take (i := 5) (oi := { dst := some 65, op := Go.Op.move (Go.Operand.tmp 70), type := 29, pos := "scan.go:87", after := #[{ on := 4, ground := Go.Ground.data }], guard := none }) (v := ?v15014) rfl (by kernel_rfl) (by kernel_rfl) (by kernel_rfl) (fun _ _ _ h => h) (Or.inl ⟨by rfl, ?y15014⟩) hHeld ?r15014
                  case y15014 => (intro w' hSw; (try dsimp only at hSw); go_simp; (try with_reducible rfl))
                  try simp only [Act.put, List.setIfInBounds_toArray, List.set_cons_zero, List.set_cons_succ]
                  refine wpAnyH_take (i := 6) (oi := { dst := some 71, op := Go.Op.extract (Go.Operand.tmp 65) 0, type := 26, pos := "scan.go:87", after := #[{ on := 5, ground := Go.Ground.data }], guard := none }) (v := ?v15015) rfl (by kernel_rfl) (by kernel_rfl) (by kernel_rfl) (fun _ _ _ h => h) (Or.inl ⟨by rfl, ?y15015⟩) hHeld ?r15015
                  case y15015 => (intro w' hSw; (try dsimp only at hSw); go_simp; (try with_reducible rfl))
                  try simp only [Act.put, List.setIfInBounds_toArray, List.set_cons_zero, List.set_cons_succ]
                  refine wpAnyH_take (i := 7) (oi := { dst := some 72, op := Go.Op.extract (Go.Operand.tmp 65) 1, type := 28, pos := "scan.go:87", after := #[{ on := 5, ground := Go.Ground.data }, { on := 9, ground := Go.Ground.gcOnly Go.Departure.lateStores }], guard := none }) (v := ?v15016) rfl (by kernel_rfl) (by kernel_rfl) (by kernel_rfl) (fun _ _ _ h => h) (Or.inl ⟨by rfl, ?y15016⟩) hHeld ?r15016
                  case y15016 => (intro w' hSw; (try dsimp only at hSw); go_simp; (try with_reducible rfl))
                  try simp only [Act.put, List.setIfInBounds_toArray, List.set_cons_zero, List.set_cons_succ]
                  refine wpAnyH_ready (rs := [9]) (by kernel_rfl) (by simp) ?_
                  refine AllReadyH.cons (o := { dst := none, op := Go.Op.store 26 (Go.Operand.tmp 9) (Go.Operand.tmp 71), type := 0, pos := "scan.go:87", after := #[{ on := 8, ground := Go.Ground.data }, { on := 6, ground := Go.Ground.data }, { on := 4, ground := Go.Ground.chain }, { on := 0, ground := Go.Ground.phase }, { on := 1, ground := Go.Ground.phase }, { on := 2, ground := Go.Ground.phase }, { on := 3, ground := Go.Ground.phase }, { on := 4, ground := Go.Ground.phase }, { on := 5, ground := Go.Ground.phase }, { on := 6, ground := Go.Ground.phase }, { on := 7, ground := Go.Ground.textOnly Go.Departure.lateStores }, { on := 8, ground := Go.Ground.phase }], guard := none }) rfl (fun K hK => ?_) ?_
                  · refine step_su rfl (.tmp 9) (.tmp 71) rfl w15004.heap.size c3 s3 zcells.toList DB15013 rfl h3 (fun _ k => h3.keepNe k hf3 hDlt) rfl rfl ?_
                    intro wS BS KS
                    have KF : Keep [] W wS := K15013.fresh KS (by simp <;> omega)
                    refine hK.out _ _ ?_ (fun hHeld => ?_)
                    · exact rangeAt_keep HRA.out KF (by simp)
                    clear hK K
                    try simp only [Act.put, List.setIfInBounds_toArray, List.set_cons_zero, List.set_cons_succ]
                    refine wpAnyH_take (i := 10) (oi := { dst := some 10, op := Go.Op.assign (Go.Operand.tmp 72), type := 28, pos := "scan.go:87", after := #[{ on := 7, ground := Go.Ground.data }, { on := 9, ground := Go.Ground.chain }, { on := 0, ground := Go.Ground.phase }, { on := 1, ground := Go.Ground.phase }, { on := 2, ground := Go.Ground.phase }, { on := 3, ground := Go.Ground.phase }, { on := 4, ground := Go.Ground.phase }, { on := 5, ground := Go.Ground.phase }, { on := 6, ground := Go.Ground.phase }, { on := 7, ground := Go.Ground.phase }, { on := 8, ground := Go.Ground.phase }, { on := 9, ground := Go.Ground.phase }], guard := none }) (v := ?v15018) rfl (by kernel_rfl) (by kernel_rfl) (by kernel_rfl) (fun _ _ _ h => h) (Or.inl ⟨by rfl, ?y15018⟩) hHeld ?r15018
                    case y15018 => (intro w' hSw; (try dsimp only at hSw); go_simp; (try with_reducible rfl))
                    try simp only [Act.put, List.setIfInBounds_toArray, List.set_cons_zero, List.set_cons_succ]
                    refine wpAnyH_done (by kernel_rfl) ?_ _
                    have HKF := Lib.hid KF
                    have HBS := Lib.hid BS
                    have hge := hDge
                    have HF3 := Lib.hid (FreshV.le hf3 (by first | exact KR.size | exact (K15012).size | omega : W.heap.size ≤ _))
                    clear hHeld KF BS KS
                    go_wp2_with fail
                    go_meet
                    case rel => exact ⟨_, c3, rfl, rfl, hge, HKF.out, HBS.out, HF3.out⟩
                  exact AllReadyH.nil
                exact AllReadyH.nil
              exact AllReadyH.nil
            refine AllReadyH.cons (o := { dst := some 9, op := Go.Op.alloc 26, type := 0, pos := "scan.go:87", after := #[], guard := none }) rfl (fun K hK => ?_) ?_
            · go_simp
              have DB15019 : Blk ((W.alloc (.cells zcells 26)).drew) W.heap.size 26 zcells.toList := Blk.new W zcells 26
              have Ka15019 : Keep [] W (W.alloc (.cells zcells 26)) := (Keep.refl [] _).alloc _
              have K15019 : Keep [] W ((W.alloc (.cells zcells 26)).drew) := ((KR.alloc _).drew)
              have hDge : W.heap.size ≤ W.heap.size := KR.size
              generalize hWD15019 : ((W.alloc (.cells zcells 26)).drew) = WD15019 at *
              clear hWD15019
              refine hK.out _ _ ?_ (fun hHeld => ?_)
              · exact rangeAt_keep HRA.out K15019 (by simp)
              clear hK K
              try simp only [Act.put, List.setIfInBounds_toArray, List.set_cons_zero, List.set_cons_succ]
              refine wpAnyH_ready (rs := [0]) (by kernel_rfl) (by simp) ?_
              refine AllReadyH.cons (o := { dst := some 66, op := Go.Op.call { callee := Go.Callee.value (Go.Operand.func 14), args := #[], argTypes := #[] }, type := 26, pos := "scan.go:87", after := #[], guard := none }) rfl (fun K hK => ?_) ?_
              · go_simp
                refine (empty_any _).mono ?_
                rintro e w15020 ⟨rfl, Kc15020⟩
                have K15020 : Keep [] W w15020 := K15019.trans Kc15020
                have DB15020 := Kc15020.blk DB15019 (by simp)
                refine hK.out _ _ ?_ (fun hHeld => ?_)
                · exact rangeAt_keep HRA.out K15020 (by simp)
                clear hK K
                try simp only [Act.put, List.setIfInBounds_toArray, List.set_cons_zero, List.set_cons_succ]
                refine wpAnyH_ready (rs := [4]) (by kernel_rfl) (by simp) ?_
                refine AllReadyH.cons (o := { dst := some 70, op := Go.Op.call { callee := Go.Callee.value (Go.Operand.func 13), args := #[Go.Operand.tmp 66, Go.Operand.tmp 69], argTypes := #[26, 26] }, type := 29, pos := "scan.go:87", after := #[{ on := 0, ground := Go.Ground.data }, { on := 3, ground := Go.Ground.data }, { on := 0, ground := Go.Ground.chain }], guard := none }) rfl (fun K hK => ?_) ?_
                · go_simp
                  have hDlt := DB15020.lt
                  refine (compose_any _ _ Su.empty a _ (emptyV_su _) (HSA.out.keep K15020)).mono ?_
                  rintro e w15021 ⟨v3, rfl, h3, Kc15021, hf3⟩
                  obtain ⟨c3, rfl, -, -⟩ := h3.cells
                  rw [HCP.out] at h3 ⊢
                  rw [show (a, (0 : Int)).1 = s3 from HS3.out.symm] at h3
                  have K15021 : Keep [] W w15021 := K15020.trans Kc15021
                  have DB15021 := Kc15021.blk DB15020 (by simp)
                  refine hK.out _ _ ?_ (fun hHeld => ?_)
                  · exact rangeAt_keep HRA.out K15021 (by simp)
                  clear hK K
                  try simp only [Act.put, List.setIfInBounds_toArray, List.set_cons_zero, List.set_cons_succ]
                  refine wpAnyH_take (i := 5) (oi := { dst := some 65, op := Go.Op.move (Go.Operand.tmp 70), type := 29, pos := "scan.go:87", after := #[{ on := 4, ground := Go.Ground.data }], guard := none }) (v := ?v15022) rfl (by kernel_rfl) (by kernel_rfl) (by kernel_rfl) (fun _ _ _ h => h) (Or.inl ⟨by rfl, ?y15022⟩) hHeld ?r15022
                  case y15022 => (intro w' hSw; (try dsimp only at hSw); go_simp; (try with_reducible rfl))
                  try simp only [Act.put, List.setIfInBounds_toArray, List.set_cons_zero, List.set_cons_succ]
                  refine wpAnyH_take (i := 6) (oi := { dst := some 71, op := Go.Op.extract (Go.Operand.tmp 65) 0, type := 26, pos := "scan.go:87", after := #[{ on := 5, ground := Go.Ground.data }], guard := none }) (v := ?v15023) rfl (by kernel_rfl) (by kernel_rfl) (by kernel_rfl) (fun _ _ _ h => h) (Or.inl ⟨by rfl, ?y15023⟩) hHeld ?r15023
                  case y15023 => (intro w' hSw; (try dsimp only at hSw); go_simp; (try with_reducible rfl))
                  try simp only [Act.put, List.setIfInBounds_toArray, List.set_cons_zero, List.set_cons_succ]
                  refine wpAnyH_take (i := 7) (oi := { dst := some 72, op := Go.Op.extract (Go.Operand.tmp 65) 1, type := 28, pos := "scan.go:87", after := #[{ on := 5, ground := Go.Ground.data }, { on := 9, ground := Go.Ground.gcOnly Go.Departure.lateStores }], guard := none }) (v := ?v15024) rfl (by kernel_rfl) (by kernel_rfl) (by kernel_rfl) (fun _ _ _ h => h) (Or.inl ⟨by rfl, ?y15024⟩) hHeld ?r15024
                  case y15024 => (intro w' hSw; (try dsimp only at hSw); go_simp; (try with_reducible rfl))
                  try simp only [Act.put, List.setIfInBounds_toArray, List.set_cons_zero, List.set_cons_succ]
                  refine wpAnyH_ready (rs := [9]) (by kernel_rfl) (by simp) ?_
                  refine AllReadyH.cons (o := { dst := none, op := Go.Op.store 26 (Go.Operand.tmp 9) (Go.Operand.tmp 71), type := 0, pos := "scan.go:87", after := #[{ on := 8, ground := Go.Ground.data }, { on := 6, ground := Go.Ground.data }, { on := 4, ground := Go.Ground.chain }, { on := 0, ground := Go.Ground.phase }, { on := 1, ground := Go.Ground.phase }, { on := 2, ground := Go.Ground.phase }, { on := 3, ground := Go.Ground.phase }, { on := 4, ground := Go.Ground.phase }, { on := 5, ground := Go.Ground.phase }, { on := 6, ground := Go.Ground.phase }, { on := 7, ground := Go.Ground.textOnly Go.Departure.lateStores }, { on := 8, ground := Go.Ground.phase }], guard := none }) rfl (fun K hK => ?_) ?_
                  · refine step_su rfl (.tmp 9) (.tmp 71) rfl W.heap.size c3 s3 zcells.toList DB15021 rfl h3 (fun _ k => h3.keepNe k hf3 hDlt) rfl rfl ?_
                    intro wS BS KS
                    have KF : Keep [] W wS := K15021.fresh KS (by simp <;> omega)
                    refine hK.out _ _ ?_ (fun hHeld => ?_)
                    · exact rangeAt_keep HRA.out KF (by simp)
                    clear hK K
                    try simp only [Act.put, List.setIfInBounds_toArray, List.set_cons_zero, List.set_cons_succ]
                    refine wpAnyH_take (i := 10) (oi := { dst := some 10, op := Go.Op.assign (Go.Operand.tmp 72), type := 28, pos := "scan.go:87", after := #[{ on := 7, ground := Go.Ground.data }, { on := 9, ground := Go.Ground.chain }, { on := 0, ground := Go.Ground.phase }, { on := 1, ground := Go.Ground.phase }, { on := 2, ground := Go.Ground.phase }, { on := 3, ground := Go.Ground.phase }, { on := 4, ground := Go.Ground.phase }, { on := 5, ground := Go.Ground.phase }, { on := 6, ground := Go.Ground.phase }, { on := 7, ground := Go.Ground.phase }, { on := 8, ground := Go.Ground.phase }, { on := 9, ground := Go.Ground.phase }], guard := none }) (v := ?v15026) rfl (by kernel_rfl) (by kernel_rfl) (by kernel_rfl) (fun _ _ _ h => h) (Or.inl ⟨by rfl, ?y15026⟩) hHeld ?r15026
                    case y15026 => (intro w' hSw; (try dsimp only at hSw); go_simp; (try with_reducible rfl))
                    try simp only [Act.put, List.setIfInBounds_toArray, List.set_cons_zero, List.set_cons_succ]
                    refine wpAnyH_done (by kernel_rfl) ?_ _
                    have HKF := Lib.hid KF
                    have HBS := Lib.hid BS
                    have hge := hDge
                    have HF3 := Lib.hid (FreshV.le hf3 (by first | exact KR.size | exact (K15020).size | omega : W.heap.size ≤ _))
                    clear hHeld KF BS KS
                    go_wp2_with fail
                    go_meet
                    case rel => exact ⟨_, c3, rfl, rfl, hge, HKF.out, HBS.out, HF3.out⟩
                  exact AllReadyH.nil
                exact AllReadyH.nil
              exact AllReadyH.nil
            exact AllReadyH.nil
          case rest =>
            obtain ⟨D, c3, rfl, rfl, hD, hK5, hS5, hF5⟩ := hcut
            obtain ⟨W5, rfl⟩ : ∃ W5, W5 = wc := ⟨_, rfl⟩
            have HK5 := Lib.hid hK5
            have HS5 := Lib.hid hS5
            have HF5 := Lib.hid hF5
            have hWw := HK.out.size
            have hW0 : w.heap.size < W.heap.size := HB.out.lt
            clear hK5 hS5 hF5 hidx0
            go_wp2_with (first | (refine wpList_load_sb rfl (.tmp 9) rfl D c3 s3 HS5.out rfl ?_) | (refine wpList_su rfl (.tmp 4) (.tmp 73) rfl w.heap.size c3 s3 zcells.toList (HK5.out.blk HB.out (by simp)) rfl HS5.out.2 (fun _ k => HS5.out.2.keepNe k HF5.out hW0) rfl rfl ?_; intro w4 B4 K4; have HB4 := Lib.hid B4; have HK4 := Lib.hid K4; clear B4 K4))
            refine bodyPost_ret (v := .tuple #[.agg c3, .int .i64 0]) (su_results2 rfl _ w.heap.size c3 s3 _ HB4.out rfl rfl) rfl ?_
            exact ⟨c3, by rw [HALL.out], by rw [HALL.out, ← HS3.out]; exact HB4.out.2, (HK.out.trans HK5.out).fresh HK4.out (by simp), HF5.out.le hWw⟩
  · have hne : (es != 0) = true := by simp [he]
    have hrr : r = (Su.zero, es) := by rw [HRR.out]; simp [bracketOf, ← HES.out, he]
    have HRE := Lib.hid hrr
    clear he hrr
    go_wp2_with ((refine wpList_su rfl (.tmp 4) (.tmp 15) rfl w.heap.size zcells Su.zero zcells.toList HB1.out rfl (zcells_su _) (SuV.keepZ _) rfl rfl ?_; intro w5 B5 K5; have HB5 := Lib.hid B5; have HK5 := Lib.hid (HK1.out.fresh K5 (by simp)); clear B5 K5))
    refine bodyPost_ret (v := .tuple #[.agg zcells, .int .i64 es]) (su_results2 rfl _ w.heap.size zcells Su.zero _ HB5.out rfl rfl) rfl ?_
    exact ⟨zcells, by rw [HRE.out], by rw [HRE.out]; exact zcells_su _, HK5.out, zeroV_fresh _⟩
end Go.Proofs.YtomhlmfekmnajaaDoor
