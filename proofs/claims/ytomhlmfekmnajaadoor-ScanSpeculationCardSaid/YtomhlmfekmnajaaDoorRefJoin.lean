/- Join of the reference: the walk. -/
import Derived.Test.YtomhlmfekmnajaaDoorRefRead
import Derived.Test.YtomhlmfekmnajaaDoorLast
namespace Go.Proofs.YtomhlmfekmnajaaDoor
open Go.RowKit
set_option linter.unusedVariables false

set_option maxHeartbeats 4000000 in
set_option maxRecDepth 100000 in
theorem join_any (v1 v2 : Value) (s t : Su) (w : World) (hs : SuV w v1 s) (ht : SuV w v2 t) (hvs : s.valid = true) (hvt : t.valid = true) (hsum : s.len + t.len ≤ 1048576) :
    Calls Tryd.prog 54 #[v1, v2] w (MadePost (s.join t) w) := by
  obtain ⟨s0, s1, s2, rfl, h0, h1, h2⟩ := hs
  obtain ⟨t0, t1, t2, rfl, g0, g1, g2⟩ := ht
  have HI := Lib.hid (SuBox.ints h0 h1 h2)
  have HJ := Lib.hid (SuBox.ints g0 g1 g2)
  clear h0 h1 h2 g0 g1 g2
  have HVS := Lib.hid hvs
  have HVT := Lib.hid hvt
  have hval := s.valid_len hvs
  have hvalt := t.valid_len hvt
  clear hvs hvt
  obtain ⟨i3, hi3, hz0, hz1, hz2⟩ := info_parts Tryd.info3
  go_enter Tryd.func54, Tryd.ntmps54
  go_wp2_with fail
  generalize hWb : (((w.alloc (.cells #[.int .i64 s.len, .int .i64 s.e0, .int .i64 s.e1, .int .i64 s.e2, s0, s1, s2] 26)).alloc (.cells #[.int .i64 t.len, .int .i64 t.e0, .int .i64 t.e1, .int .i64 t.e2, t0, t1, t2] 26)).alloc (.cells #[.int .i64 0, .int .i64 0, .int .i64 0, .int .i64 0, .slice none 0 0, .slice none 0 0, .slice none 0 0] 26)).alloc (.cells #[.int .i64 (s.len + t.len), .int .i64 0, .int .i64 0, .int .i64 0, .slice none 0 0, .slice none 0 0, .slice none 0 0] 26) = Wb
  have KW : Keep [] w Wb := by rw [← hWb]; exact ((((Keep.refl [] w).alloc _).alloc _).alloc _).alloc _
  have B : SuBox Wb w.heap.size s s0 s1 s2 := by rw [← hWb]; exact (((Blk.new w #[.int .i64 s.len, .int .i64 s.e0, .int .i64 s.e1, .int .i64 s.e2, s0, s1, s2] 26).alloc _).alloc _).alloc _
  have C : SuBox Wb (w.heap.size + 1) t t0 t1 t2 := by
    have := ((Blk.new (w.alloc (.cells #[.int .i64 s.len, .int .i64 s.e0, .int .i64 s.e1, .int .i64 s.e2, s0, s1, s2] 26)) #[.int .i64 t.len, .int .i64 t.e0, .int .i64 t.e1, .int .i64 t.e2, t0, t1, t2] 26).alloc (.cells zcells 26)).alloc (.cells #[.int .i64 (s.len + t.len), .int .i64 0, .int .i64 0, .int .i64 0, .slice none 0 0, .slice none 0 0, .slice none 0 0] 26)
    rw [World.size_alloc, hWb] at this
    exact this
  have D : Blk Wb (w.heap.size + 1 + 1) 26 zcells.toList := by
    have := (Blk.new ((w.alloc (.cells #[.int .i64 s.len, .int .i64 s.e0, .int .i64 s.e1, .int .i64 s.e2, s0, s1, s2] 26)).alloc (.cells #[.int .i64 t.len, .int .i64 t.e0, .int .i64 t.e1, .int .i64 t.e2, t0, t1, t2] 26)) zcells 26).alloc (.cells #[.int .i64 (s.len + t.len), .int .i64 0, .int .i64 0, .int .i64 0, .slice none 0 0, .slice none 0 0, .slice none 0 0] 26)
    rw [World.size_alloc, World.size_alloc, hWb] at this
    exact this
  have Ob : Blk Wb (w.heap.size + 1 + 1 + 1) 26 (oc s t 0 fun _ => .slice none 0 0) := by
    have := Blk.new (((w.alloc (.cells #[.int .i64 s.len, .int .i64 s.e0, .int .i64 s.e1, .int .i64 s.e2, s0, s1, s2] 26)).alloc (.cells #[.int .i64 t.len, .int .i64 t.e0, .int .i64 t.e1, .int .i64 t.e2, t0, t1, t2] 26)).alloc (.cells zcells 26)) #[.int .i64 (s.len + t.len), .int .i64 0, .int .i64 0, .int .i64 0, .slice none 0 0, .slice none 0 0, .slice none 0 0] 26
    rw [World.size_alloc, World.size_alloc, World.size_alloc, hWb] at this
    exact this
  have hWs : Wb.heap.size = w.heap.size + 1 + 1 + 1 + 1 := by rw [← hWb]; simp
  have HB := Lib.hid B
  have HC := Lib.hid C
  have HD := Lib.hid D
  have HO := Lib.hid Ob
  have HK := Lib.hid KW
  obtain ⟨O, hO⟩ : ∃ O, O = w.heap.size + 1 + 1 + 1 := ⟨_, rfl⟩
  rw [← hO] at HO ⊢
  have hO1 : w.heap.size < O := by omega
  have hO2 : w.heap.size + 1 < O := by omega
  have hO3 : w.heap.size + 1 + 1 < O := by omega
  have hO4 : O < Wb.heap.size := by omega
  clear B C D Ob KW hWb hO hWs
  go_loopw [6] (fun i wr => ∃ (k : Nat) (L : Nat → Value), k ≤ 3 ∧ i = .int .i64 k ∧ Keep [O] Wb wr ∧ Blk wr O 26 (oc s t k L) ∧ ∀ j, j < k → ∃ n, Row wr (L j) 3 1 n ((s.jl t j).map (Value.int .i64)) ∧ ∀ b, (L j).ownBlock = some b → O + 1 ≤ b) (fun i _ => 3 - (intOf i).toNat)
  case atStart => exact ⟨0, fun _ => .slice none 0 0, by omega, rfl, Keep.refl _ _, HO.out, fun j hj => by omega⟩
  case round =>
    obtain ⟨k, L, hk, rfl, hK, hO, hR⟩ := hrel
    obtain ⟨wk, rfl⟩ : ∃ wk, wk = wr := ⟨_, rfl⟩
    clear HO
    by_cases hk3 : k < 3
    · obtain ⟨x, hx⟩ : ∃ x : Nat, s.e k = (x : Int) := ⟨(s.e k).toNat, by have := s.valid_e HVS.out k hk3; omega⟩
      have hx3 : x < 3 := by have := s.valid_e HVS.out k hk3; omega
      have hje : s.je t k = t.e x := by simp [Su.je, hx]
      have hjl : s.jl t k = s.l k ++ (t.l x).map (s.len + ·) := by simp [Su.jl, hx]
      have B2 : SuBox wk w.heap.size s s0 s1 s2 := hK.blk HB.out (by simp; omega)
      have C2 : SuBox wk (w.heap.size + 1) t t0 t1 t2 := hK.blk HC.out (by simp; omega)
      have D2 := hK.blk HD.out (by simp; omega)
      have KK2 := HK.out.fresh hK (by simp; omega)
      have hla := s.valid_length HVS.out k hk3
      have hlb := t.valid_length HVT.out x hx3
      have hmem := t.valid_mem HVT.out x hx3
      have hIa := HI.out k hk3
      have hJa := HJ.out x hx3
      obtain ⟨sk, hsk⟩ : ∃ sk, sk = slOf s0 s1 s2 k := ⟨_, rfl⟩
      obtain ⟨tk, htk⟩ : ∃ tk, tk = slOf t0 t1 t2 x := ⟨_, rfl⟩
      obtain ⟨xa, hxa⟩ : ∃ xa, xa = s.l k := ⟨_, rfl⟩
      obtain ⟨xb, hxb⟩ : ∃ xb, xb = t.l x := ⟨_, rfl⟩
      have be := B2.exit k hk3
      have ce := C2.exit x hx3
      have cl := C2.lines x hx3
      have bl := B2.lines k hk3
      rw [hx] at be
      rw [← hsk] at hIa bl
      rw [← htk] at hJa cl
      rw [← hxa] at hIa hla hjl
      rw [← hxb] at hJa hlb hmem hjl
      rw [← hje] at ce
      obtain ⟨je, hje'⟩ : ∃ je, je = s.je t k := ⟨_, rfl⟩
      rw [← hje'] at ce
      have HB2 := Lib.hid B2
      have HC2 := Lib.hid C2
      have HKK2 := Lib.hid KK2
      have HIa := Lib.hid hIa
      have HJa := Lib.hid hJa
      have HTK := Lib.hid htk.symm
      have HMEM := Lib.hid hmem
      have HJL := Lib.hid hjl
      have HJE := Lib.hid hje'
      have HO := Lib.hid hO
      have HR := Lib.hid hR
      have HK2 := Lib.hid hK
      have oe := hO.cell _ _ (oc_e s t k L hk3)
      have oef := hO.froz (1 + k)
      have osz := hO.lt
      have hk3' : (k : Int) < 3 := by omega
      have hx3' : (x : Int) < 3 := by omega
      have hsA : w.heap.size < wk.heap.size := by omega
      have hsB : w.heap.size + 1 < wk.heap.size := by omega
      clear hx hje hjl hK hO hR B2 C2 D2 KK2 hIa hJa hsk htk hxa hxb hje' hmem
      have hnb : ¬ O = w.heap.size := by omega
      have hnc : ¬ O = w.heap.size + 1 := by omega
      obtain ⟨Ws, hWs⟩ : ∃ Ws, Ws = (wk.setCell ⟨O, 1 + k, none⟩ (.int .i64 je)).alloc (.cells #[] 3) := ⟨_, rfl⟩
      have hown : Ws.ownsRow wk.heap.size 3 1 (.slice (some ⟨wk.heap.size, 0, none⟩) 0 0) 0 [] := by
        have := World.ownsRow_lit (base := wk.heap.size) (e := 3) (size := 1) (wk.setCell ⟨O, 1 + k, none⟩ (.int .i64 je)) #[] 0 (by simp) (by decide) rfl
        rw [hWs]
        simpa using this
      have Kws : Keep [O] wk Ws := by rw [hWs]; exact ((Keep.refl [O] wk).setCell (a := ⟨O, 1 + k, none⟩) (Or.inl (by simp)) _).alloc _
      have Ows : Blk Ws O 26 ((oc s t k L).set (1 + k) (.int .i64 je)) := by rw [hWs]; exact (HO.out.set _ _).alloc _
      have hints : Ints Ws sk xa := HIa.out.keep (HKK2.out.fresh Kws (by simp; omega))
      have hwss : wk.heap.size ≤ Ws.heap.size := Kws.size
      have HKws := Lib.hid Kws
      have HOws := Lib.hid Ows
      have HOwn := Lib.hid hown
      have HInts := Lib.hid hints
      have HWs := Lib.hid hWs
      clear Kws Ows hown hints hWs
      go_upto_region 8 with (at_builtin; rw [← HWs.out]; refine wpList_append_ints rfl (.tmp 31) (.tmp 35) 23 rfl wk.heap.size 3 i3 (.int .i64 0) 8 Tryd.underlying23 hi3 hz0 hz1 hz2 rfl (.slice (some ⟨wk.heap.size, 0, none⟩) 0 0) 0 [] rfl HOwn.out sk xa rfl HInts.out (by unfold maxLen; omega) (by omega) hwss ?_; intro v1 w3 hown3 hgrow; have K3 : Keep [O] wk w3 := HKws.out.grown hgrow (by intro b hb; right; simp [Value.ownBlock] at hb; omega); have O3 : Blk w3 O 26 ((oc s t k L).set (1 + k) (.int .i64 je)) := (Keep.of_grown hgrow).blk HOws.out (by simp [Value.ownBlock]; omega); have ol := O3.cell _ _ (oc_l s t k L _ hk3); have olf := O3.froz (4 + k); simp only [Nat.zero_add, List.nil_append] at hown3; obtain ⟨A3, c3, rfl, _, _⟩ := Row.slice (Row.of_own hown3); have HG := Lib.hid hgrow; clear hgrow HOwn HInts HWs HKws HOws)
      obtain ⟨Y, hY⟩ : ∃ Y, Y = w3.setCell ⟨O, 4 + k, none⟩ (.slice A3 xa.length c3) := ⟨_, rfl⟩
      have KY : Keep [O] wk Y := by rw [hY]; exact K3.setCell (a := ⟨O, 4 + k, none⟩) (Or.inl (by simp)) _
      have OY : Blk Y O 26 (((oc s t k L).set (1 + k) (.int .i64 je)).set (4 + k) (.slice A3 xa.length c3)) := by rw [hY]; exact O3.set _ _
      have ownY : Y.ownsRow wk.heap.size 3 1 (.slice A3 xa.length c3) xa.length (xa.map (Value.int .i64)) := by rw [hY]; exact ownsRow_other hown3 _ _ osz
      rw [← hY]
      obtain ⟨A2, c2, htk2, hn2, hc2, hA2, hcell2⟩ := HJa.out
      subst htk2
      have HCL := Lib.hid cl
      have HCELL := Lib.hid hcell2
      have HKY := Lib.hid KY
      have HOY := Lib.hid OY
      have HOwnY := Lib.hid ownY
      clear hY KY OY ownY hcell2 K3 O3 ol olf hown3 bl ce oe oef HG be cl hA2
      go_wp2_with fail
      go_loopw [8] (fun i wj => ∃ (j : Nat) (v : Value), j ≤ xb.length ∧ i = .int .i64 j ∧ Keep [O] wk wj ∧ Blk wj O 26 (((oc s t k L).set (1 + k) (.int .i64 je)).set (4 + k) v) ∧ wj.ownsRow wk.heap.size 3 1 v (xa.length + j) ((xa ++ (xb.take j).map (s.len + ·)).map (Value.int .i64))) (fun i _ => xb.length - (intOf i).toNat)
      case atStart => exact ⟨0, _, by omega, rfl, HKY.out, HOY.out, by simpa using HOwnY.out⟩
      case round =>
        obtain ⟨j, v, hj, rfl, hKj, hOj, hOwn⟩ := hrel
        obtain ⟨wj, rfl⟩ : ∃ wj, wj = wr := ⟨_, rfl⟩
        clear HKY HOY HOwnY
        have HKj := Lib.hid hKj
        have HOj := Lib.hid hOj
        have HOwn := Lib.hid hOwn
        have KJ2 : Keep [] w wj := HKK2.out.fresh hKj (by simp; omega)
        have bl : wj.cell? ⟨w.heap.size + 1, 4 + x, none⟩ = some (.slice A2 xb.length c2) := hKj.cell HCL.out (by simp; omega)
        clear hKj hOj hOwn
        by_cases hjn : j < xb.length
        · obtain ⟨g2, off2, rfl, hcj⟩ := HCELL.out j xb[j] (by simp [hjn])
          have hsG : g2 < wk.heap.size := by have := World.block_lt_of_cell? _ _ hcj; simp only at this; omega
          have hcj := KJ2.cell hcj (by simp)
          have hy := HMEM.out xb[j] (List.getElem_mem hjn)
          have hlist := list_step xa xb s.len j hjn
          obtain ⟨y, hyy⟩ : ∃ y, y = xb[j] := ⟨_, rfl⟩
          rw [← hyy] at hcj hy hlist
          have HLIST := Lib.hid hlist
          have oj := HOj.out.cell _ _ (oc_v s t k L _ _ hk3)
          have nl := HKj.out.cell (HB2.out.cell 0 _ rfl) (by simp; omega)
          obtain ⟨Av, cv, rfl, _, _⟩ := Row.slice (Row.of_own HOwn.out)
          clear hyy hlist KJ2
          have wy := IntWalk.i64_in (s.len + y) (by omega)
          go_wp2_with fail
          refine wp_region_last (N := 19) (l := [{ dst := some 48, op := Go.Op.move (Go.Operand.tmp 6), type := 3, pos := "ref.go:80", after := #[], guard := none }, { dst := some 49, op := Go.Op.move (Go.Operand.tmp 6), type := 3, pos := "ref.go:80", after := #[], guard := none }, { dst := some 50, op := Go.Op.fieldAddr 26 (Go.Operand.tmp 5) 2, type := 0, pos := "ref.go:80", after := #[], guard := none }, { dst := some 51, op := Go.Op.indexAddr 24 (Go.Operand.tmp 50) (Go.Operand.tmp 49), type := 0, pos := "ref.go:80", after := #[{ on := 2, ground := Go.Ground.data }, { on := 1, ground := Go.Ground.data }], guard := none }, { dst := some 52, op := Go.Op.load 23 (Go.Operand.tmp 51), type := 23, pos := "ref.go:80", after := #[{ on := 3, ground := Go.Ground.data }], guard := none }, { dst := some 53, op := Go.Op.fieldAddr 26 (Go.Operand.tmp 2) 0, type := 0, pos := "ref.go:80", after := #[], guard := none }, { dst := some 54, op := Go.Op.load 3 (Go.Operand.tmp 53), type := 3, pos := "ref.go:80", after := #[{ on := 5, ground := Go.Ground.data }], guard := none }, { dst := some 55, op := Go.Op.move (Go.Operand.tmp 7), type := 3, pos := "ref.go:80", after := #[], guard := none }, { dst := some 56, op := Go.Op.fieldAddr 26 (Go.Operand.tmp 3) 2, type := 0, pos := "ref.go:80", after := #[], guard := none }, { dst := some 57, op := Go.Op.indexAddr 24 (Go.Operand.tmp 56) (Go.Operand.tmp 55), type := 0, pos := "ref.go:80", after := #[{ on := 8, ground := Go.Ground.data }, { on := 7, ground := Go.Ground.data }], guard := none }, { dst := some 58, op := Go.Op.load 23 (Go.Operand.tmp 57), type := 23, pos := "ref.go:80", after := #[{ on := 9, ground := Go.Ground.data }], guard := none }, { dst := some 59, op := Go.Op.move (Go.Operand.tmp 8), type := 3, pos := "ref.go:80", after := #[], guard := none }, { dst := some 60, op := Go.Op.indexAddr 23 (Go.Operand.tmp 58) (Go.Operand.tmp 59), type := 0, pos := "ref.go:80", after := #[{ on := 10, ground := Go.Ground.data }, { on := 11, ground := Go.Ground.data }], guard := none }, { dst := some 61, op := Go.Op.load 3 (Go.Operand.tmp 60), type := 3, pos := "ref.go:80", after := #[{ on := 12, ground := Go.Ground.data }], guard := none }, { dst := some 62, op := Go.Op.binOp Go.BinOp.add 3 (Go.Operand.tmp 54) (Go.Operand.tmp 61) 3, type := 3, pos := "ref.go:80", after := #[{ on := 6, ground := Go.Ground.data }, { on := 13, ground := Go.Ground.data }], guard := none }, { dst := some 63, op := Go.Op.buildSlice 23 1 #[(0, Go.Operand.tmp 62)], type := 23, pos := "ref.go:80", after := #[{ on := 14, ground := Go.Ground.data }], guard := none }, { dst := some 64, op := Go.Op.call { callee := Go.Callee.builtin Go.Builtin.append, args := #[Go.Operand.tmp 52, Go.Operand.tmp 63], argTypes := #[23, 23] }, type := 23, pos := "ref.go:80", after := #[{ on := 4, ground := Go.Ground.data }, { on := 15, ground := Go.Ground.data }], guard := none }, { dst := some 65, op := Go.Op.fieldAddr 26 (Go.Operand.tmp 5) 2, type := 0, pos := "ref.go:80", after := #[], guard := none }, { dst := some 66, op := Go.Op.indexAddr 24 (Go.Operand.tmp 65) (Go.Operand.tmp 48), type := 0, pos := "ref.go:80", after := #[{ on := 17, ground := Go.Ground.data }, { on := 0, ground := Go.Ground.data }, { on := 0, ground := Go.Ground.phase }, { on := 1, ground := Go.Ground.phase }, { on := 2, ground := Go.Ground.phase }, { on := 3, ground := Go.Ground.phase }, { on := 4, ground := Go.Ground.phase }, { on := 5, ground := Go.Ground.phase }, { on := 6, ground := Go.Ground.phase }, { on := 7, ground := Go.Ground.phase }, { on := 8, ground := Go.Ground.phase }, { on := 9, ground := Go.Ground.phase }, { on := 10, ground := Go.Ground.phase }, { on := 11, ground := Go.Ground.phase }, { on := 12, ground := Go.Ground.phase }, { on := 13, ground := Go.Ground.phase }, { on := 14, ground := Go.Ground.phase }, { on := 15, ground := Go.Ground.phase }, { on := 16, ground := Go.Ground.phase }], guard := none }]) (o := { dst := none, op := Go.Op.store 23 (Go.Operand.tmp 66) (Go.Operand.tmp 64), type := 0, pos := "ref.go:80", after := #[{ on := 18, ground := Go.Ground.data }, { on := 16, ground := Go.Ground.data }, { on := 16, ground := Go.Ground.chain }, { on := 0, ground := Go.Ground.phase }, { on := 1, ground := Go.Ground.phase }, { on := 2, ground := Go.Ground.phase }, { on := 3, ground := Go.Ground.phase }, { on := 4, ground := Go.Ground.phase }, { on := 5, ground := Go.Ground.phase }, { on := 6, ground := Go.Ground.phase }, { on := 7, ground := Go.Ground.phase }, { on := 8, ground := Go.Ground.phase }, { on := 9, ground := Go.Ground.phase }, { on := 10, ground := Go.Ground.phase }, { on := 11, ground := Go.Ground.phase }, { on := 12, ground := Go.Ground.phase }, { on := 13, ground := Go.Ground.phase }, { on := 14, ground := Go.Ground.phase }, { on := 15, ground := Go.Ground.phase }, { on := 16, ground := Go.Ground.phase }], guard := none }) (by kernel_rfl) (by kernel_rfl) rfl ?_
          have hHeld : (fun v : World => v.cell? ⟨O, 4 + k, none⟩ = some (.slice Av (xa.length + j) cv) ∧ v.cell? ⟨w.heap.size, 0, none⟩ = some (.int .i64 s.len) ∧ v.cell? ⟨w.heap.size + 1, 4 + x, none⟩ = some (.slice (some ⟨g2, off2, none⟩) xb.length c2) ∧ v.cell? ⟨g2, off2 + j, none⟩ = some (.int .i64 y)) wj.drew := ⟨oj, nl, bl, hcj⟩
          refine wpAny_of_held (S := fun v : World => v.cell? ⟨O, 4 + k, none⟩ = some (.slice Av (xa.length + j) cv) ∧ v.cell? ⟨w.heap.size, 0, none⟩ = some (.int .i64 s.len) ∧ v.cell? ⟨w.heap.size + 1, 4 + x, none⟩ = some (.slice (some ⟨g2, off2, none⟩) xb.length c2) ∧ v.cell? ⟨g2, off2 + j, none⟩ = some (.int .i64 y)) _ _ _ _ ?_
          refine wpAnyH_take (i := 0) (oi := { dst := some 48, op := Go.Op.move (Go.Operand.tmp 6), type := 3, pos := "ref.go:80", after := #[], guard := none }) (v := ?v11001) rfl (by kernel_rfl) (by kernel_rfl) (by kernel_rfl) (fun _ _ _ h => h) (Or.inl ⟨by rfl, ?y11001⟩) hHeld ?r11001
          case y11001 => (intro w' hSw; (try dsimp only at hSw); go_simp; (try with_reducible rfl))
          try simp only [Act.put, List.setIfInBounds_toArray, List.set_cons_zero, List.set_cons_succ]
          refine wpAnyH_take (i := 1) (oi := { dst := some 49, op := Go.Op.move (Go.Operand.tmp 6), type := 3, pos := "ref.go:80", after := #[], guard := none }) (v := ?v11002) rfl (by kernel_rfl) (by kernel_rfl) (by kernel_rfl) (fun _ _ _ h => h) (Or.inl ⟨by rfl, ?y11002⟩) hHeld ?r11002
          case y11002 => (intro w' hSw; (try dsimp only at hSw); go_simp; (try with_reducible rfl))
          try simp only [Act.put, List.setIfInBounds_toArray, List.set_cons_zero, List.set_cons_succ]
          refine wpAnyH_take (i := 2) (oi := { dst := some 50, op := Go.Op.fieldAddr 26 (Go.Operand.tmp 5) 2, type := 0, pos := "ref.go:80", after := #[], guard := none }) (v := ?v11003) rfl (by kernel_rfl) (by kernel_rfl) (by kernel_rfl) (fun _ _ _ h => h) (Or.inl ⟨by rfl, ?y11003⟩) hHeld ?r11003
          case y11003 => (intro w' hSw; (try dsimp only at hSw); go_simp; (try with_reducible rfl))
          try simp only [Act.put, List.setIfInBounds_toArray, List.set_cons_zero, List.set_cons_succ]
          refine wpAnyH_take (i := 3) (oi := { dst := some 51, op := Go.Op.indexAddr 24 (Go.Operand.tmp 50) (Go.Operand.tmp 49), type := 0, pos := "ref.go:80", after := #[{ on := 2, ground := Go.Ground.data }, { on := 1, ground := Go.Ground.data }], guard := none }) (v := ?v11004) rfl (by kernel_rfl) (by kernel_rfl) (by kernel_rfl) (fun _ _ _ h => h) (Or.inl ⟨by rfl, ?y11004⟩) hHeld ?r11004
          case y11004 => (intro w' hSw; (try dsimp only at hSw); go_simp; (try with_reducible rfl))
          try simp only [Act.put, List.setIfInBounds_toArray, List.set_cons_zero, List.set_cons_succ]
          refine wpAnyH_take (i := 4) (oi := { dst := some 52, op := Go.Op.load 23 (Go.Operand.tmp 51), type := 23, pos := "ref.go:80", after := #[{ on := 3, ground := Go.Ground.data }], guard := none }) (v := ?v11005) rfl (by kernel_rfl) (by kernel_rfl) (by kernel_rfl) (fun _ _ _ h => h) (Or.inl ⟨by rfl, ?y11005⟩) hHeld ?r11005
          case y11005 => (intro w' hSw; (try dsimp only at hSw); go_simp; (try with_reducible rfl))
          try simp only [Act.put, List.setIfInBounds_toArray, List.set_cons_zero, List.set_cons_succ]
          refine wpAnyH_take (i := 5) (oi := { dst := some 53, op := Go.Op.fieldAddr 26 (Go.Operand.tmp 2) 0, type := 0, pos := "ref.go:80", after := #[], guard := none }) (v := ?v11006) rfl (by kernel_rfl) (by kernel_rfl) (by kernel_rfl) (fun _ _ _ h => h) (Or.inl ⟨by rfl, ?y11006⟩) hHeld ?r11006
          case y11006 => (intro w' hSw; (try dsimp only at hSw); go_simp; (try with_reducible rfl))
          try simp only [Act.put, List.setIfInBounds_toArray, List.set_cons_zero, List.set_cons_succ]
          refine wpAnyH_take (i := 6) (oi := { dst := some 54, op := Go.Op.load 3 (Go.Operand.tmp 53), type := 3, pos := "ref.go:80", after := #[{ on := 5, ground := Go.Ground.data }], guard := none }) (v := ?v11007) rfl (by kernel_rfl) (by kernel_rfl) (by kernel_rfl) (fun _ _ _ h => h) (Or.inl ⟨by rfl, ?y11007⟩) hHeld ?r11007
          case y11007 => (intro w' hSw; (try dsimp only at hSw); go_simp; (try with_reducible rfl))
          try simp only [Act.put, List.setIfInBounds_toArray, List.set_cons_zero, List.set_cons_succ]
          refine wpAnyH_take (i := 7) (oi := { dst := some 55, op := Go.Op.move (Go.Operand.tmp 7), type := 3, pos := "ref.go:80", after := #[], guard := none }) (v := ?v11008) rfl (by kernel_rfl) (by kernel_rfl) (by kernel_rfl) (fun _ _ _ h => h) (Or.inl ⟨by rfl, ?y11008⟩) hHeld ?r11008
          case y11008 => (intro w' hSw; (try dsimp only at hSw); go_simp; (try with_reducible rfl))
          try simp only [Act.put, List.setIfInBounds_toArray, List.set_cons_zero, List.set_cons_succ]
          refine wpAnyH_take (i := 8) (oi := { dst := some 56, op := Go.Op.fieldAddr 26 (Go.Operand.tmp 3) 2, type := 0, pos := "ref.go:80", after := #[], guard := none }) (v := ?v11009) rfl (by kernel_rfl) (by kernel_rfl) (by kernel_rfl) (fun _ _ _ h => h) (Or.inl ⟨by rfl, ?y11009⟩) hHeld ?r11009
          case y11009 => (intro w' hSw; (try dsimp only at hSw); go_simp; (try with_reducible rfl))
          try simp only [Act.put, List.setIfInBounds_toArray, List.set_cons_zero, List.set_cons_succ]
          refine wpAnyH_take (i := 9) (oi := { dst := some 57, op := Go.Op.indexAddr 24 (Go.Operand.tmp 56) (Go.Operand.tmp 55), type := 0, pos := "ref.go:80", after := #[{ on := 8, ground := Go.Ground.data }, { on := 7, ground := Go.Ground.data }], guard := none }) (v := ?v11010) rfl (by kernel_rfl) (by kernel_rfl) (by kernel_rfl) (fun _ _ _ h => h) (Or.inl ⟨by rfl, ?y11010⟩) hHeld ?r11010
          case y11010 => (intro w' hSw; (try dsimp only at hSw); go_simp; (try with_reducible rfl))
          try simp only [Act.put, List.setIfInBounds_toArray, List.set_cons_zero, List.set_cons_succ]
          refine wpAnyH_take (i := 10) (oi := { dst := some 58, op := Go.Op.load 23 (Go.Operand.tmp 57), type := 23, pos := "ref.go:80", after := #[{ on := 9, ground := Go.Ground.data }], guard := none }) (v := ?v11011) rfl (by kernel_rfl) (by kernel_rfl) (by kernel_rfl) (fun _ _ _ h => h) (Or.inl ⟨by rfl, ?y11011⟩) hHeld ?r11011
          case y11011 => (intro w' hSw; (try dsimp only at hSw); go_simp; (try with_reducible rfl))
          try simp only [Act.put, List.setIfInBounds_toArray, List.set_cons_zero, List.set_cons_succ]
          refine wpAnyH_take (i := 11) (oi := { dst := some 59, op := Go.Op.move (Go.Operand.tmp 8), type := 3, pos := "ref.go:80", after := #[], guard := none }) (v := ?v11012) rfl (by kernel_rfl) (by kernel_rfl) (by kernel_rfl) (fun _ _ _ h => h) (Or.inl ⟨by rfl, ?y11012⟩) hHeld ?r11012
          case y11012 => (intro w' hSw; (try dsimp only at hSw); go_simp; (try with_reducible rfl))
          try simp only [Act.put, List.setIfInBounds_toArray, List.set_cons_zero, List.set_cons_succ]
          refine wpAnyH_take (i := 12) (oi := { dst := some 60, op := Go.Op.indexAddr 23 (Go.Operand.tmp 58) (Go.Operand.tmp 59), type := 0, pos := "ref.go:80", after := #[{ on := 10, ground := Go.Ground.data }, { on := 11, ground := Go.Ground.data }], guard := none }) (v := ?v11013) rfl (by kernel_rfl) (by kernel_rfl) (by kernel_rfl) (fun _ _ _ h => h) (Or.inl ⟨by rfl, ?y11013⟩) hHeld ?r11013
          case y11013 => (intro w' hSw; (try dsimp only at hSw); go_simp; (try with_reducible rfl))
          try simp only [Act.put, List.setIfInBounds_toArray, List.set_cons_zero, List.set_cons_succ]
          refine wpAnyH_take (i := 13) (oi := { dst := some 61, op := Go.Op.load 3 (Go.Operand.tmp 60), type := 3, pos := "ref.go:80", after := #[{ on := 12, ground := Go.Ground.data }], guard := none }) (v := ?v11014) rfl (by kernel_rfl) (by kernel_rfl) (by kernel_rfl) (fun _ _ _ h => h) (Or.inl ⟨by rfl, ?y11014⟩) hHeld ?r11014
          case y11014 => (intro w' hSw; (try dsimp only at hSw); go_simp; (try with_reducible rfl))
          try simp only [Act.put, List.setIfInBounds_toArray, List.set_cons_zero, List.set_cons_succ]
          refine wpAnyH_take (i := 14) (oi := { dst := some 62, op := Go.Op.binOp Go.BinOp.add 3 (Go.Operand.tmp 54) (Go.Operand.tmp 61) 3, type := 3, pos := "ref.go:80", after := #[{ on := 6, ground := Go.Ground.data }, { on := 13, ground := Go.Ground.data }], guard := none }) (v := ?v11015) rfl (by kernel_rfl) (by kernel_rfl) (by kernel_rfl) (fun _ _ _ h => h) (Or.inl ⟨by rfl, ?y11015⟩) hHeld ?r11015
          case y11015 => (intro w' hSw; (try dsimp only at hSw); go_simp; (try with_reducible rfl))
          try simp only [Act.put, List.setIfInBounds_toArray, List.set_cons_zero, List.set_cons_succ]
          refine wpAnyH_take (i := 17) (oi := { dst := some 65, op := Go.Op.fieldAddr 26 (Go.Operand.tmp 5) 2, type := 0, pos := "ref.go:80", after := #[], guard := none }) (v := ?v11016) rfl (by kernel_rfl) (by kernel_rfl) (by kernel_rfl) (fun _ _ _ h => h) (Or.inl ⟨by rfl, ?y11016⟩) hHeld ?r11016
          case y11016 => (intro w' hSw; (try dsimp only at hSw); go_simp; (try with_reducible rfl))
          try simp only [Act.put, List.setIfInBounds_toArray, List.set_cons_zero, List.set_cons_succ]
          refine wpAnyH_ready (rs := [15]) (by kernel_rfl) (by simp) ?_
          refine AllReadyH.cons (o := { dst := some 63, op := Go.Op.buildSlice 23 1 #[(0, Go.Operand.tmp 62)], type := 23, pos := "ref.go:80", after := #[{ on := 14, ground := Go.Ground.data }], guard := none }) rfl (fun K hK => ?_) ?_
          · go_simp
            have KA : Keep [O] wk ((wj.alloc (.cells #[.int .i64 (s.len + y)] 3)).drew) := (HKj.out.alloc _).drew
            have rowA : Row ((wj.alloc (.cells #[.int .i64 (s.len + y)] 3)).drew) (.slice (some ⟨wj.heap.size, 0, none⟩) 1 1) 3 1 1 [.int .i64 (s.len + y)] := Row.of_own (World.ownsRow_lit (base := 0) (e := 3) (size := 1) wj #[.int .i64 (s.len + y)] 1 (Nat.zero_le _) (by decide) rfl)
            have ownA : ((wj.alloc (.cells #[.int .i64 (s.len + y)] 3)).drew).ownsRow wk.heap.size 3 1 (.slice Av (xa.length + j) cv) (xa.length + j) ((xa ++ (xb.take j).map (s.len + ·)).map (Value.int .i64)) := World.ownsRow.alloc (w := wj) HOwn.out _
            have kA : Keep [] wj ((wj.alloc (.cells #[.int .i64 (s.len + y)] 3)).drew) := ((Keep.refl [] wj).alloc _).drew
            have sA := And.intro (kA.cell oj (by simp)) (And.intro (kA.cell nl (by simp)) (And.intro (kA.cell bl (by simp)) (kA.cell hcj (by simp))))
            refine hK.out _ _ ?_ (fun hHeld => ?_)
            · exact sA
            clear hK K
            try simp only [Act.put, List.setIfInBounds_toArray, List.set_cons_zero, List.set_cons_succ]
            refine wpAnyH_ready (rs := [16]) (by kernel_rfl) (by simp) ?_
            refine AllReadyH.cons (o := { dst := some 64, op := Go.Op.call { callee := Go.Callee.builtin Go.Builtin.append, args := #[Go.Operand.tmp 52, Go.Operand.tmp 63], argTypes := #[23, 23] }, type := 23, pos := "ref.go:80", after := #[{ on := 4, ground := Go.Ground.data }, { on := 15, ground := Go.Ground.data }], guard := none }) rfl (fun K hK => ?_) ?_
            · refine step_append_row rfl (.tmp 52) (.tmp 63) 23 rfl wk.heap.size 3 i3 (.int .i64 0) 1 8 Tryd.underlying23 hi3 hz0 hz1 hz2 rfl (by decide) (.slice Av (xa.length + j) cv) (xa.length + j) ((xa ++ (xb.take j).map (s.len + ·)).map (Value.int .i64)) rfl ownA (.slice (some ⟨wj.heap.size, 0, none⟩) 1 1) 1 [.int .i64 (s.len + y)] rfl rowA (by simp [Value.oneCell']) (by unfold maxLen; omega) (by omega) KA.size ?_
              intro v4 w4 own4 hg4
              have k4 := Keep.of_grown hg4
              have s4 := And.intro (k4.cell sA.1 (not_own ownA _ osz)) (And.intro (k4.cell sA.2.1 (not_own ownA _ hsA)) (And.intro (k4.cell sA.2.2.1 (not_own ownA _ hsB)) (k4.cell sA.2.2.2 (not_own ownA _ hsG))))
              have K4 : Keep [O] wk w4 := KA.grown hg4 (fun b hb => Or.inr (World.ownsRow.lt ownA b hb).1)
              have O4 := k4.blk ((HOj.out.alloc (.cells #[.int .i64 (s.len + y)] 3)).drew) (not_own ownA _ osz)
              refine hK.out _ _ ?_ (fun hHeld => ?_)
              · exact s4
              clear hK K
              try simp only [Act.put, List.setIfInBounds_toArray, List.set_cons_zero, List.set_cons_succ]
              refine wpAnyH_take (i := 18) (oi := { dst := some 66, op := Go.Op.indexAddr 24 (Go.Operand.tmp 65) (Go.Operand.tmp 48), type := 0, pos := "ref.go:80", after := #[{ on := 17, ground := Go.Ground.data }, { on := 0, ground := Go.Ground.data }, { on := 0, ground := Go.Ground.phase }, { on := 1, ground := Go.Ground.phase }, { on := 2, ground := Go.Ground.phase }, { on := 3, ground := Go.Ground.phase }, { on := 4, ground := Go.Ground.phase }, { on := 5, ground := Go.Ground.phase }, { on := 6, ground := Go.Ground.phase }, { on := 7, ground := Go.Ground.phase }, { on := 8, ground := Go.Ground.phase }, { on := 9, ground := Go.Ground.phase }, { on := 10, ground := Go.Ground.phase }, { on := 11, ground := Go.Ground.phase }, { on := 12, ground := Go.Ground.phase }, { on := 13, ground := Go.Ground.phase }, { on := 14, ground := Go.Ground.phase }, { on := 15, ground := Go.Ground.phase }, { on := 16, ground := Go.Ground.phase }], guard := none }) (v := ?v11019) rfl (by kernel_rfl) (by kernel_rfl) (by kernel_rfl) (fun _ _ _ h => h) (Or.inl ⟨by rfl, ?y11019⟩) hHeld ?r11019
              case y11019 => (intro w' hSw; (try dsimp only at hSw); go_simp; (try with_reducible rfl))
              try simp only [Act.put, List.setIfInBounds_toArray, List.set_cons_zero, List.set_cons_succ]
              refine wpAnyH_done (by kernel_rfl) ?_ _
              have o4 := O4.cell _ _ (oc_v s t k L _ _ hk3)
              have o4f := O4.froz (4 + k)
              have HK4 := Lib.hid K4
              have HO4 := Lib.hid O4
              obtain ⟨A4, c4, rfl, _, _⟩ := Row.slice (Row.of_own own4)
              have HOwn4 := Lib.hid own4
              clear hHeld s4 sA own4 ownA rowA KA K4 O4 hg4 kA k4
              show wpList _ _ _ _ _ _
              go_wp2_with fail
              go_roundw
              case rel => exact ⟨j + 1, _, by omega, by go_num, HK4.out.setCell (a := ⟨O, 4 + k, none⟩) (Or.inl (by simp)) _, by rw [← oc_set]; exact HO4.out.set _ _, by rw [HLIST.out]; exact ownsRow_other HOwn4.out ⟨O, 4 + k, none⟩ _ osz⟩
              case measure => simp [intOf]; omega
            exact AllReadyH.nil
          exact AllReadyH.nil
        · have hjl : j = xb.length := by omega
          subst hjl
          have hnil : xb.drop xb.length = [] := by simp
          go_wp2_with fail
          go_roundw
          case rel =>
            refine ⟨k + 1, upd L k v, by omega, by go_num, HK2.out.trans HKj.out, ?_, fun j hj => ?_⟩
            · rw [← oc_step s t k L v hk3, ← HJE.out]; exact HOj.out
            · by_cases h : j = k
              · subst h
                refine ⟨xa.length + xb.length, ?_, fun b hb => Nat.le_trans osz (World.ownsRow.lt HOwn.out b (by simpa [upd] using hb)).1⟩
                rw [HJL.out]
                have := Row.of_own HOwn.out
                rw [List.take_length] at this
                simpa [upd] using this
              · obtain ⟨n, hn, hfr⟩ := HR.out j (by omega)
                refine ⟨n, ?_, by simpa [upd, h] using hfr⟩
                have := Row.keep hn HKj.out (by
                  intro b hb cs hc
                  simp only [List.mem_singleton] at hb
                  subst hb
                  exact HO.out.neR hc (by decide) rfl)
                simpa [upd, h] using this
          case measure => simp [intOf]; omega
    · have hk3' : k = 3 := by omega
      subst hk3'
      have KKK := HK.out.fresh hK (by simp; omega)
      have D2 := hK.blk HD.out (by simp; omega)
      have hS : SBox wk O (oc s t 3 L).toArray (s.join t) := ⟨by simpa using hO, by have := rows_su hO (Keep.refl [O] wk) (fun j hj => (hR j hj).imp fun _ h => h.1); simpa [oc] using this⟩
      have hF : FreshV (O + 1) (.agg (oc s t 3 L).toArray) := FreshV.mk (fun b hb => (hR 0 (by omega)).elim fun _ h => h.2 b hb) (fun b hb => (hR 1 (by omega)).elim fun _ h => h.2 b hb) (fun b hb => (hR 2 (by omega)).elim fun _ h => h.2 b hb)
      obtain ⟨cc, hcc⟩ : ∃ cc, cc = (oc s t 3 L).toArray := ⟨_, rfl⟩
      rw [← hcc] at hS hF
      have HS := Lib.hid hS
      have HF := Lib.hid hF
      have HKKK := Lib.hid KKK
      have HD2 := Lib.hid D2
      clear hS hF hcc hO hR hK KKK D2
      go_wp2_with (first | (refine wpList_load_sb rfl (.tmp 5) rfl O cc (s.join t) HS.out rfl ?_) | (refine wpList_su rfl (.tmp 4) (.tmp 67) rfl (w.heap.size + 1 + 1) cc (s.join t) zcells.toList HD2.out rfl HS.out.2 (fun _ k => HS.out.2.keepNe k HF.out (by omega)) rfl rfl ?_; intro w5 B5 K5; have HB5 := Lib.hid B5; have HK5 := Lib.hid K5; clear B5 K5))
      refine bodyPost_ret (v := .agg cc) (su_results1 rfl _ (w.heap.size + 1 + 1) cc _ HB5.out rfl) rfl ?_
      exact ⟨cc, rfl, HB5.out.2, HKKK.out.fresh HK5.out (by simp; omega), HF.out.le (by omega)⟩
end Go.Proofs.YtomhlmfekmnajaaDoor
