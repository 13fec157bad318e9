/- AutomatonMonoid: the walk. -/
import Derived.Test.YtomhlmfekmnajaaDoorAwake
import Derived.Test.YtomhlmfekmnajaaDoorMonoid
import Derived.Deep.RegionHeld3
import Derived.Deep.DeepCutAuto
import Derived.Deep.CutBlock
namespace Go.Proofs.YtomhlmfekmnajaaDoor
open Go.RowKit
set_option linter.unusedVariables false
set_option linter.unusedSimpArgs false

def BoxAt (w : World) (D : Nat) (s : Su) : Prop := ∃ s0 s1 s2, SuBox w D s s0 s1 s2 ∧ Ints w s0 s.l0 ∧ Ints w s1 s.l1 ∧ Ints w s2 s.l2
theorem BoxAt.keep {w w' : World} {D : Nat} {s : Su} (h : BoxAt w D s) (k : Keep [] w w') : BoxAt w' D s := by
  obtain ⟨a, b, c, h0, h1, h2, h3⟩ := h
  exact ⟨a, b, c, k.blk h0 (by simp), h1.keep k, h2.keep k, h3.keep k⟩
theorem SuV.open {w : World} {v : Value} {s : Su} (h : SuV w v s) : ∃ A0 c0 A1 c1 A2 c2, v = .agg #[.int .i64 s.len, .int .i64 s.e0, .int .i64 s.e1, .int .i64 s.e2, .slice A0 s.l0.length c0, .slice A1 s.l1.length c1, .slice A2 s.l2.length c2] := by
  obtain ⟨s0, s1, s2, rfl, h0, h1, h2⟩ := h
  obtain ⟨A0, c0, rfl⟩ := h0.shape rfl
  obtain ⟨A1, c1, rfl⟩ := h1.shape rfl
  obtain ⟨A2, c2, rfl⟩ := h2.shape rfl
  exact ⟨_, _, _, _, _, _, rfl⟩
theorem BoxAt.open {w : World} {D : Nat} {s : Su} (h : BoxAt w D s) : ∃ A0 c0 A1 c1 A2 c2, Blk w D 26 [.int .i64 s.len, .int .i64 s.e0, .int .i64 s.e1, .int .i64 s.e2, .slice A0 s.l0.length c0, .slice A1 s.l1.length c1, .slice A2 s.l2.length c2] ∧
    SuV w (.agg #[.int .i64 s.len, .int .i64 s.e0, .int .i64 s.e1, .int .i64 s.e2, .slice A0 s.l0.length c0, .slice A1 s.l1.length c1, .slice A2 s.l2.length c2]) s := by
  obtain ⟨s0, s1, s2, hb, h0, h1, h2⟩ := h
  obtain ⟨A0, c0, rfl⟩ := h0.shape rfl
  obtain ⟨A1, c1, rfl⟩ := h1.shape rfl
  obtain ⟨A2, c2, rfl⟩ := h2.shape rfl
  exact ⟨_, _, _, _, _, _, hb, _, _, _, rfl, h0, h1, h2⟩
theorem BoxAt.new {w : World} {s : Su} {s0 s1 s2 : Value} (h : SuV w (.agg #[.int .i64 s.len, .int .i64 s.e0, .int .i64 s.e1, .int .i64 s.e2, s0, s1, s2]) s) :
    BoxAt (w.alloc (.cells #[.int .i64 s.len, .int .i64 s.e0, .int .i64 s.e1, .int .i64 s.e2, s0, s1, s2] 26)) w.heap.size s := by
  obtain ⟨a, b, c, hv, h0, h1, h2⟩ := h
  simp only [Value.agg.injEq, Array.mk.injEq, List.cons.injEq, and_true, true_and] at hv
  obtain ⟨rfl, rfl, rfl⟩ := hv
  have k := (Keep.refl [] w).alloc (.cells #[.int .i64 s.len, .int .i64 s.e0, .int .i64 s.e1, .int .i64 s.e2, s0, s1, s2] 26)
  exact ⟨s0, s1, s2, Blk.new w #[.int .i64 s.len, .int .i64 s.e0, .int .i64 s.e1, .int .i64 s.e2, s0, s1, s2] 26, h0.keep k, h1.keep k, h2.keep k⟩

theorem Ints.keepNe {w w' : World} {v : Value} {xs : List Int} {D base : Nat} (h : Ints w v xs) (k : Keep [D] w w') (hb : ∀ b, v.ownBlock = some b → base ≤ b) (hD : D < base) : Ints w' v xs := by
  obtain ⟨A, c, rfl, h1, h2, h3, h4⟩ := h
  refine ⟨A, c, rfl, h1, h2, h3, fun j x hx => ?_⟩
  obtain ⟨g, off, rfl, hc⟩ := h4 j x hx
  refine ⟨g, off, rfl, k.cell hc ?_⟩
  have := hb g rfl
  simp only [List.mem_singleton]
  omega
theorem SuV.keepNe {w w' : World} {v : Value} {s : Su} {D base : Nat} (h : SuV w v s) (k : Keep [D] w w') (hf : FreshV base v) (hD : D < base) : SuV w' v s := by
  obtain ⟨s0, s1, s2, rfl, h0, h1, h2⟩ := h
  exact ⟨s0, s1, s2, rfl, h0.keepNe k (fun b hb => hf _ rfl 4 s0 rfl b hb) hD, h1.keepNe k (fun b hb => hf _ rfl 5 s1 rfl b hb) hD, h2.keepNe k (fun b hb => hf _ rfl 6 s2 rfl b hb) hD⟩
theorem BoxAt.of {w : World} {D : Nat} {s : Su} {s0 s1 s2 : Value} (hb : Blk w D 26 [.int .i64 s.len, .int .i64 s.e0, .int .i64 s.e1, .int .i64 s.e2, s0, s1, s2]) (h : SuV w (.agg #[.int .i64 s.len, .int .i64 s.e0, .int .i64 s.e1, .int .i64 s.e2, s0, s1, s2]) s) : BoxAt w D s := by
  obtain ⟨a, b, c, hv, h0, h1, h2⟩ := h
  simp only [Value.agg.injEq, Array.mk.injEq, List.cons.injEq, and_true, true_and] at hv
  obtain ⟨rfl, rfl, rfl⟩ := hv
  exact ⟨_, _, _, hb, h0, h1, h2⟩

set_option maxHeartbeats 4000000 in
set_option maxRecDepth 100000 in
theorem monoid_any (v1 v2 v3 : Value) (a b c : Su) (w : World) (hM : Moves w) (ha : SuV w v1 a) (hb : SuV w v2 b) (hc : SuV w v3 c) (la0 : a.l0.length ≤ 17592186044416) (la1 : a.l1.length ≤ 17592186044416) (la2 : a.l2.length ≤ 17592186044416) (lb0 : b.l0.length ≤ 17592186044416) (lb1 : b.l1.length ≤ 17592186044416) (lb2 : b.l2.length ≤ 17592186044416) (lc0 : c.l0.length ≤ 17592186044416) (lc1 : c.l1.length ≤ 17592186044416) (lc2 : c.l2.length ≤ 17592186044416) :
    Calls Tryd.prog 3 #[v1, v2, v3] w fun e w' => e = .returned (.bool true) ∧ Keep [] w w' := by
  obtain ⟨Aa0, ca0, Aa1, ca1, Aa2, ca2, rfl⟩ := ha.open
  obtain ⟨Ab0, cb0, Ab1, cb1, Ab2, cb2, rfl⟩ := hb.open
  obtain ⟨Ac0, cc0, Ac1, cc1, Ac2, cc2, rfl⟩ := hc.open
  have k1 := (Keep.refl [] w).alloc (.cells #[.int .i64 a.len, .int .i64 a.e0, .int .i64 a.e1, .int .i64 a.e2, .slice Aa0 a.l0.length ca0, .slice Aa1 a.l1.length ca1, .slice Aa2 a.l2.length ca2] 26)
  have k2 := (Keep.refl [] (w.alloc (.cells #[.int .i64 a.len, .int .i64 a.e0, .int .i64 a.e1, .int .i64 a.e2, .slice Aa0 a.l0.length ca0, .slice Aa1 a.l1.length ca1, .slice Aa2 a.l2.length ca2] 26))).alloc (.cells #[.int .i64 b.len, .int .i64 b.e0, .int .i64 b.e1, .int .i64 b.e2, .slice Ab0 b.l0.length cb0, .slice Ab1 b.l1.length cb1, .slice Ab2 b.l2.length cb2] 26)
  have k3 := (Keep.refl [] ((w.alloc (.cells #[.int .i64 a.len, .int .i64 a.e0, .int .i64 a.e1, .int .i64 a.e2, .slice Aa0 a.l0.length ca0, .slice Aa1 a.l1.length ca1, .slice Aa2 a.l2.length ca2] 26)).alloc (.cells #[.int .i64 b.len, .int .i64 b.e0, .int .i64 b.e1, .int .i64 b.e2, .slice Ab0 b.l0.length cb0, .slice Ab1 b.l1.length cb1, .slice Ab2 b.l2.length cb2] 26))).alloc (.cells #[.int .i64 c.len, .int .i64 c.e0, .int .i64 c.e1, .int .i64 c.e2, .slice Ac0 c.l0.length cc0, .slice Ac1 c.l1.length cc1, .slice Ac2 c.l2.length cc2] 26)
  have BA := ((BoxAt.new ha).keep k2).keep k3
  have BB := (BoxAt.new (hb.keep k1)).keep k3
  have BC := BoxAt.new ((hc.keep k1).keep k2)
  rw [World.size_alloc] at BB BC
  rw [World.size_alloc] at BC
  generalize hWb : ((w.alloc (.cells #[.int .i64 a.len, .int .i64 a.e0, .int .i64 a.e1, .int .i64 a.e2, .slice Aa0 a.l0.length ca0, .slice Aa1 a.l1.length ca1, .slice Aa2 a.l2.length ca2] 26)).alloc (.cells #[.int .i64 b.len, .int .i64 b.e0, .int .i64 b.e1, .int .i64 b.e2, .slice Ab0 b.l0.length cb0, .slice Ab1 b.l1.length cb1, .slice Ab2 b.l2.length cb2] 26)).alloc (.cells #[.int .i64 c.len, .int .i64 c.e0, .int .i64 c.e1, .int .i64 c.e2, .slice Ac0 c.l0.length cc0, .slice Ac1 c.l1.length cc1, .slice Ac2 c.l2.length cc2] 26) = Wb at BA BB BC k3
  have KW : Keep [] w Wb := (k1.trans k2).trans k3
  have HVa := Lib.hid (ha.keep KW)
  have HVb := Lib.hid (hb.keep KW)
  have HA := Lib.hid BA
  have HB := Lib.hid BB
  have HC := Lib.hid BC
  have HK := Lib.hid KW
  have HM := Lib.hid hM
  have HWb := Lib.hid hWb
  clear k1 k2 k3 BA BB BC KW hM ha hb hc hWb
  by_cases hsum : (a.l0.length : Int) + a.l1.length + a.l2.length + b.l0.length + b.l1.length + b.l2.length + c.l0.length + c.l1.length + c.l2.length ≤ 150
  · go_enter Tryd.func3, Tryd.ntmps3
    go_wp2_with fail
    rw [HWb.out]
    refine (compose_any _ _ a b _ HVa.out HVb.out).mono ?_
    rintro e w1 ⟨x, rfl, hx, Kx, _⟩
    obtain ⟨ab, hab⟩ : ∃ ab, ab = (compose a b).1 := ⟨_, rfl⟩
    obtain ⟨e1, he1⟩ : ∃ e1, e1 = (compose a b).2 := ⟨_, rfl⟩
    rw [← hab] at hx
    rw [← he1]
    have HAB := Lib.hid hab
    have HE1 := Lib.hid he1
    clear hab he1 hsum la0 la1 la2 lb0 lb1 lb2 lc0 lc1 lc2 HVa HVb
    obtain ⟨Ax0, cx0, Ax1, cx1, Ax2, cx2, rfl⟩ := hx.open
    have BX := Lib.hid (BoxAt.new hx)
    have Kx1 := Lib.hid ((Keep.refl [] w1).alloc (.cells #[.int .i64 ab.len, .int .i64 ab.e0, .int .i64 ab.e1, .int .i64 ab.e2, .slice Ax0 ab.l0.length cx0, .slice Ax1 ab.l1.length cx1, .slice Ax2 ab.l2.length cx2] 26))
    have HA1 := Lib.hid (HA.out.keep Kx)
    have HB1 := Lib.hid (HB.out.keep Kx)
    have HC1 := Lib.hid (HC.out.keep Kx)
    have HK1 := Lib.hid (HK.out.trans Kx)
    clear Kx hx HA HB HC HK
    obtain ⟨Ab0, cb0, Ab1, cb1, Ab2, cb2, Bb, Vb⟩ := (HB1.out).open
    have b0 := Bb.cell 0 _ rfl
    have b1 := Bb.cell 1 _ rfl
    have b2 := Bb.cell 2 _ rfl
    have b3 := Bb.cell 3 _ rfl
    have b4 := Bb.cell 4 _ rfl
    have b5 := Bb.cell 5 _ rfl
    have b6 := Bb.cell 6 _ rfl
    have bz := Bb.lt
    have HVb := Lib.hid Vb
    clear Bb Vb
    obtain ⟨Ac0, cc0, Ac1, cc1, Ac2, cc2, Bc, Vc⟩ := (HC1.out).open
    have c0 := Bc.cell 0 _ rfl
    have c1 := Bc.cell 1 _ rfl
    have c2 := Bc.cell 2 _ rfl
    have c3 := Bc.cell 3 _ rfl
    have c4 := Bc.cell 4 _ rfl
    have c5 := Bc.cell 5 _ rfl
    have c6 := Bc.cell 6 _ rfl
    have cz := Bc.lt
    have HVc := Lib.hid Vc
    clear Bc Vc
    go_wp2_with fail
    refine (compose_any _ _ b c _ (HVb.out.keep Kx1.out) (HVc.out.keep Kx1.out)).mono ?_
    rintro e w2 ⟨y, rfl, hy, Ky, _⟩
    obtain ⟨bc, hbc⟩ : ∃ bc, bc = (compose b c).1 := ⟨_, rfl⟩
    obtain ⟨e2, he2⟩ : ∃ e2, e2 = (compose b c).2 := ⟨_, rfl⟩
    rw [← hbc] at hy
    rw [← he2]
    have HBC := Lib.hid hbc
    have HE2 := Lib.hid he2
    obtain ⟨Ay0, cy0, Ay1, cy1, Ay2, cy2, rfl⟩ := hy.open
    have BY := Lib.hid (BoxAt.new hy)
    have Ky1 := Lib.hid ((Keep.refl [] w2).alloc (.cells #[.int .i64 bc.len, .int .i64 bc.e0, .int .i64 bc.e1, .int .i64 bc.e2, .slice Ay0 bc.l0.length cy0, .slice Ay1 bc.l1.length cy1, .slice Ay2 bc.l2.length cy2] 26))
    have HA2 := Lib.hid ((HA1.out.keep Kx1.out).keep Ky)
    have HC2 := Lib.hid ((HC1.out.keep Kx1.out).keep Ky)
    have HX2 := Lib.hid (BX.out.keep Ky)
    have HK2 := Lib.hid ((HK1.out.trans Kx1.out).trans Ky)
    clear b0 b1 b2 b3 b4 b5 b6 c0 c1 c2 c3 c4 c5 c6 bz cz
    clear hbc he2 hy Ky HA1 HB1 HC1 BX HK1 Kx1 HVb HVc
    by_cases he : e1 = 0 ∧ e2 = 0
    · obtain ⟨rfl, rfl⟩ := he
      obtain ⟨Ax0, cx0, Ax1, cx1, Ax2, cx2, Bx, Vx⟩ := (HX2.out).open
      have x0 := Bx.cell 0 _ rfl
      have x1 := Bx.cell 1 _ rfl
      have x2 := Bx.cell 2 _ rfl
      have x3 := Bx.cell 3 _ rfl
      have x4 := Bx.cell 4 _ rfl
      have x5 := Bx.cell 5 _ rfl
      have x6 := Bx.cell 6 _ rfl
      have xz := Bx.lt
      have HVx := Lib.hid Vx
      clear Bx Vx
      obtain ⟨Ac0, cc0, Ac1, cc1, Ac2, cc2, Bc, Vc⟩ := (HC2.out).open
      have c0 := Bc.cell 0 _ rfl
      have c1 := Bc.cell 1 _ rfl
      have c2 := Bc.cell 2 _ rfl
      have c3 := Bc.cell 3 _ rfl
      have c4 := Bc.cell 4 _ rfl
      have c5 := Bc.cell 5 _ rfl
      have c6 := Bc.cell 6 _ rfl
      have cz := Bc.lt
      have HVc := Lib.hid Vc
      clear Bc Vc
      go_wp2_with fail
      refine (compose_any _ _ ab c _ (HVx.out.keep Ky1.out) (HVc.out.keep Ky1.out)).mono ?_
      rintro e w3 ⟨p, rfl, hp, Kp, _⟩
      have hass : compose ab c = compose a bc := by rw [HAB.out, HBC.out]; exact compose_assoc HE1.out.symm HE2.out.symm
      rw [hass] at hp ⊢
      obtain ⟨z, hz⟩ : ∃ z, z = (compose a bc).1 := ⟨_, rfl⟩
      obtain ⟨e3, he3⟩ : ∃ e3, e3 = (compose a bc).2 := ⟨_, rfl⟩
      rw [← hz] at hp
      rw [← he3]
      have HZ := Lib.hid hz
      have HE3 := Lib.hid he3
      obtain ⟨Ap0, cp0, Ap1, cp1, Ap2, cp2, rfl⟩ := hp.open
      have BP := Lib.hid (BoxAt.new hp)
      have Kp1 := Lib.hid ((Keep.refl [] w3).alloc (.cells #[.int .i64 z.len, .int .i64 z.e0, .int .i64 z.e1, .int .i64 z.e2, .slice Ap0 z.l0.length cp0, .slice Ap1 z.l1.length cp1, .slice Ap2 z.l2.length cp2] 26))
      have HA3 := Lib.hid ((HA2.out.keep Ky1.out).keep Kp)
      have HY3 := Lib.hid (BY.out.keep Kp)
      have HK3 := Lib.hid ((HK2.out.trans Ky1.out).trans Kp)
      clear x0 x1 x2 x3 x4 x5 x6 c0 c1 c2 c3 c4 c5 c6 xz cz
      clear hass hz he3 hp Kp HA2 HC2 HX2 BY HK2 Ky1 HVx HVc
      obtain ⟨Aa0, ca0, Aa1, ca1, Aa2, ca2, Ba, Va⟩ := (HA3.out).open
      have a0 := Ba.cell 0 _ rfl
      have a1 := Ba.cell 1 _ rfl
      have a2 := Ba.cell 2 _ rfl
      have a3 := Ba.cell 3 _ rfl
      have a4 := Ba.cell 4 _ rfl
      have a5 := Ba.cell 5 _ rfl
      have a6 := Ba.cell 6 _ rfl
      have az := Ba.lt
      have HVa := Lib.hid Va
      clear Ba Va
      obtain ⟨Ay0, cy0, Ay1, cy1, Ay2, cy2, By, Vy⟩ := (HY3.out).open
      have y0 := By.cell 0 _ rfl
      have y1 := By.cell 1 _ rfl
      have y2 := By.cell 2 _ rfl
      have y3 := By.cell 3 _ rfl
      have y4 := By.cell 4 _ rfl
      have y5 := By.cell 5 _ rfl
      have y6 := By.cell 6 _ rfl
      have yz := By.lt
      have HVy := Lib.hid Vy
      clear By Vy
      go_wp2_with fail
      refine (compose_any _ _ a bc _ (HVa.out.keep Kp1.out) (HVy.out.keep Kp1.out)).mono ?_
      rintro e w4 ⟨q, rfl, hq, Kq, _⟩
      rw [← HZ.out] at hq
      rw [← HE3.out]
      obtain ⟨Aq0, cq0, Aq1, cq1, Aq2, cq2, rfl⟩ := hq.open
      have BQ := Lib.hid (BoxAt.new hq)
      have Kq1 := Lib.hid ((Keep.refl [] w4).alloc (.cells #[.int .i64 z.len, .int .i64 z.e0, .int .i64 z.e1, .int .i64 z.e2, .slice Aq0 z.l0.length cq0, .slice Aq1 z.l1.length cq1, .slice Aq2 z.l2.length cq2] 26))
      have HA4 := Lib.hid ((HA3.out.keep Kp1.out).keep Kq)
      have HP4 := Lib.hid (BP.out.keep Kq)
      have HK4 := Lib.hid ((HK3.out.trans Kp1.out).trans Kq)
      clear a0 a1 a2 a3 a4 a5 a6 y0 y1 y2 y3 y4 y5 y6 az yz
      clear hq Kq HA3 HY3 BP HK3 Kp1 HVa HVy
      go_wp2_with fail
      generalize hW4 : w4.alloc (.cells #[.int .i64 z.len, .int .i64 z.e0, .int .i64 z.e1, .int .i64 z.e2, .slice Aq0 z.l0.length cq0, .slice Aq1 z.l1.length cq1, .slice Aq2 z.l2.length cq2] 26) = W4 at BQ Kq1
      have va := (compose_ok HE1.out.symm).1
      have HVAL := Lib.hid va
      have HA5 := Lib.hid (HA4.out.keep Kq1.out)
      have HP5 := Lib.hid (HP4.out.keep Kq1.out)
      have HK5 := Lib.hid (HK4.out.trans Kq1.out)
      have BQ5 := BQ
      clear hW4 va HA4 HP4 HK4 Kq1 BQ
      go_cut [13, 14] (fun x y wc => ∃ D : Nat, x = .pointer (some ⟨D, 0, none⟩) ∧ y = .int .i64 0 ∧ Keep [] W4 wc ∧ BoxAt wc D a)
      case first =>
        obtain ⟨Aa0, ca0, Aa1, ca1, Aa2, ca2, Ba, Va⟩ := (HA5.out).open
        have a0 := Ba.cell 0 _ rfl
        have a1 := Ba.cell 1 _ rfl
        have a2 := Ba.cell 2 _ rfl
        have a3 := Ba.cell 3 _ rfl
        have a4 := Ba.cell 4 _ rfl
        have a5 := Ba.cell 5 _ rfl
        have a6 := Ba.cell 6 _ rfl
        have az := Ba.lt
        have HVa := Lib.hid Va
        clear Ba Va
        have s0 := And.intro a0 (And.intro a1 (And.intro a2 (And.intro a3 (And.intro a4 (And.intro a5 a6)))))
        have K0 : Keep [] W4 W4.drew := (Keep.refl _ _).drew
        clear a0 a1 a2 a3 a4 a5 a6 az
        refine wp_region_held_drew (S := fun v : World => v.cell? ⟨w.heap.size, 0, none⟩ = some (.int .i64 a.len) ∧ v.cell? ⟨w.heap.size, 1, none⟩ = some (.int .i64 a.e0) ∧ v.cell? ⟨w.heap.size, 2, none⟩ = some (.int .i64 a.e1) ∧ v.cell? ⟨w.heap.size, 3, none⟩ = some (.int .i64 a.e2) ∧ v.cell? ⟨w.heap.size, 4, none⟩ = some (.slice Aa0 a.l0.length ca0) ∧ v.cell? ⟨w.heap.size, 5, none⟩ = some (.slice Aa1 a.l1.length ca1) ∧ v.cell? ⟨w.heap.size, 6, none⟩ = some (.slice Aa2 a.l2.length ca2)) (by kernel_rfl) s0 (fun hHeld => ?_)
        change wpAnyH _ _ _ _ _ 9 (Array.replicate 9 false) _ _
        refine wpAnyH_take (i := 1) (oi := { dst := some 96, op := Go.Op.load 26 (Go.Operand.tmp 3), type := 26, pos := "law.go:76", after := #[], guard := none }) (v := ?v9001) rfl (by kernel_rfl) (by kernel_rfl) (by kernel_rfl) (fun _ _ _ h => h) (Or.inl ⟨by rfl, ?y9001⟩) hHeld ?r9001
        case y9001 => (intro w' hSw; (try dsimp only at hSw); go_simp; (try with_reducible rfl))
        try simp only [Act.put, List.setIfInBounds_toArray, List.set_cons_zero, List.set_cons_succ]
        refine wpAnyH_ready (rs := [0, 6]) (by kernel_rfl) (by simp) ?_
        refine AllReadyH.cons (o := { dst := some 95, op := Go.Op.call { callee := Go.Callee.value (Go.Operand.func 14), args := #[], argTypes := #[] }, type := 26, pos := "law.go:76", after := #[], guard := none }) rfl (fun K hK => ?_) ?_
        · go_simp
          refine (empty_any _).mono ?_
          rintro e w9002 ⟨rfl, Kc9002⟩
          have K9002 : Keep [] W4 w9002 := K0.trans Kc9002
          refine hK.out _ _ ?_ (fun hHeld => ?_)
          · exact ⟨K9002.cell s0.1 (by simp), K9002.cell s0.2.1 (by simp), K9002.cell s0.2.2.1 (by simp), K9002.cell s0.2.2.2.1 (by simp), K9002.cell s0.2.2.2.2.1 (by simp), K9002.cell s0.2.2.2.2.2.1 (by simp), K9002.cell s0.2.2.2.2.2.2 (by simp)⟩
          clear hK K
          try simp only [Act.put, List.setIfInBounds_toArray, List.set_cons_zero, List.set_cons_succ]
          refine wpAnyH_ready (rs := [2, 6]) (by kernel_rfl) (by simp) ?_
          refine AllReadyH.cons (o := { dst := some 97, op := Go.Op.call { callee := Go.Callee.value (Go.Operand.func 13), args := #[Go.Operand.tmp 95, Go.Operand.tmp 96], argTypes := #[26, 26] }, type := 29, pos := "law.go:76", after := #[{ on := 0, ground := Go.Ground.data }, { on := 1, ground := Go.Ground.data }, { on := 0, ground := Go.Ground.chain }], guard := none }) rfl (fun K hK => ?_) ?_
          · go_simp
            refine (compose_any _ _ Su.empty a _ (emptyV_su _) (HVa.out.keep K9002)).mono ?_
            rintro e w9003 ⟨u, rfl, hu, Kc9003, hfr⟩
            rw [compose_empty_left HVAL.out] at hu ⊢
            obtain ⟨Au0, cu0, Au1, cu1, Au2, cu2, rfl⟩ := hu.open
            have K9003 : Keep [] W4 w9003 := K9002.trans Kc9003
            refine hK.out _ _ ?_ (fun hHeld => ?_)
            · exact ⟨K9003.cell s0.1 (by simp), K9003.cell s0.2.1 (by simp), K9003.cell s0.2.2.1 (by simp), K9003.cell s0.2.2.2.1 (by simp), K9003.cell s0.2.2.2.2.1 (by simp), K9003.cell s0.2.2.2.2.2.1 (by simp), K9003.cell s0.2.2.2.2.2.2 (by simp)⟩
            clear hK K
            try simp only [Act.put, List.setIfInBounds_toArray, List.set_cons_zero, List.set_cons_succ]
            refine wpAnyH_take (i := 3) (oi := { dst := some 94, op := Go.Op.move (Go.Operand.tmp 97), type := 29, pos := "law.go:76", after := #[{ on := 2, ground := Go.Ground.data }], guard := none }) (v := ?v9004) rfl (by kernel_rfl) (by kernel_rfl) (by kernel_rfl) (fun _ _ _ h => h) (Or.inl ⟨by rfl, ?y9004⟩) hHeld ?r9004
            case y9004 => (intro w' hSw; (try dsimp only at hSw); go_simp; (try with_reducible rfl))
            try simp only [Act.put, List.setIfInBounds_toArray, List.set_cons_zero, List.set_cons_succ]
            refine wpAnyH_take (i := 4) (oi := { dst := some 98, op := Go.Op.extract (Go.Operand.tmp 94) 0, type := 26, pos := "law.go:76", after := #[{ on := 3, ground := Go.Ground.data }], guard := none }) (v := ?v9005) rfl (by kernel_rfl) (by kernel_rfl) (by kernel_rfl) (fun _ _ _ h => h) (Or.inl ⟨by rfl, ?y9005⟩) hHeld ?r9005
            case y9005 => (intro w' hSw; (try dsimp only at hSw); go_simp; (try with_reducible rfl))
            try simp only [Act.put, List.setIfInBounds_toArray, List.set_cons_zero, List.set_cons_succ]
            refine wpAnyH_take (i := 5) (oi := { dst := some 99, op := Go.Op.extract (Go.Operand.tmp 94) 1, type := 28, pos := "law.go:76", after := #[{ on := 3, ground := Go.Ground.data }, { on := 7, ground := Go.Ground.gcOnly Go.Departure.lateStores }], guard := none }) (v := ?v9006) rfl (by kernel_rfl) (by kernel_rfl) (by kernel_rfl) (fun _ _ _ h => h) (Or.inl ⟨by rfl, ?y9006⟩) hHeld ?r9006
            case y9006 => (intro w' hSw; (try dsimp only at hSw); go_simp; (try with_reducible rfl))
            try simp only [Act.put, List.setIfInBounds_toArray, List.set_cons_zero, List.set_cons_succ]
            refine wpAnyH_ready (rs := [6]) (by kernel_rfl) (by simp) ?_
            refine AllReadyH.cons (o := { dst := some 13, op := Go.Op.alloc 26, type := 0, pos := "law.go:76", after := #[], guard := none }) rfl (fun K hK => ?_) ?_
            · go_simp
              generalize hWD : (w9003.alloc (.cells #[.int .i64 0, .int .i64 0, .int .i64 0, .int .i64 0, .slice none 0 0, .slice none 0 0, .slice none 0 0] 26)) = WD
              have DB9007 : Blk WD w9003.heap.size 26 [.int .i64 0, .int .i64 0, .int .i64 0, .int .i64 0, .slice none 0 0, .slice none 0 0, .slice none 0 0] := by rw [← hWD]; exact (Blk.new w9003 #[.int .i64 0, .int .i64 0, .int .i64 0, .int .i64 0, .slice none 0 0, .slice none 0 0, .slice none 0 0] 26)
              have K9007 : Keep [] W4 WD := by rw [← hWD]; exact K9003.alloc _
              have hDge : W4.heap.size ≤ w9003.heap.size := K9003.size
              have KC9007 : Keep [] w9003 WD := by rw [← hWD]; exact (Keep.refl [] w9003).alloc _
              clear hWD
              refine hK.out _ _ ?_ (fun hHeld => ?_)
              · exact ⟨K9007.cell s0.1 (by simp), K9007.cell s0.2.1 (by simp), K9007.cell s0.2.2.1 (by simp), K9007.cell s0.2.2.2.1 (by simp), K9007.cell s0.2.2.2.2.1 (by simp), K9007.cell s0.2.2.2.2.2.1 (by simp), K9007.cell s0.2.2.2.2.2.2 (by simp)⟩
              clear hK K
              try simp only [Act.put, List.setIfInBounds_toArray, List.set_cons_zero, List.set_cons_succ]
              refine wpAnyH_ready (rs := [7]) (by kernel_rfl) (by simp) ?_
              refine AllReadyH.cons (o := { dst := none, op := Go.Op.store 26 (Go.Operand.tmp 13) (Go.Operand.tmp 98), type := 0, pos := "law.go:76", after := #[{ on := 6, ground := Go.Ground.data }, { on := 4, ground := Go.Ground.data }, { on := 2, ground := Go.Ground.chain }, { on := 0, ground := Go.Ground.phase }, { on := 1, ground := Go.Ground.phase }, { on := 2, ground := Go.Ground.phase }, { on := 3, ground := Go.Ground.phase }, { on := 4, ground := Go.Ground.phase }, { on := 5, ground := Go.Ground.textOnly Go.Departure.lateStores }, { on := 6, ground := Go.Ground.phase }], guard := none }) rfl (fun K hK => ?_) ?_
              · have d0 := DB9007.cell 0 _ rfl
                have f0 := DB9007.froz 0
                have d1 := DB9007.cell 1 _ rfl
                have f1 := DB9007.froz 1
                have d2 := DB9007.cell 2 _ rfl
                have f2 := DB9007.froz 2
                have d3 := DB9007.cell 3 _ rfl
                have f3 := DB9007.froz 3
                have d4 := DB9007.cell 4 _ rfl
                have f4 := DB9007.froz 4
                have d5 := DB9007.cell 5 _ rfl
                have f5 := DB9007.froz 5
                have d6 := DB9007.cell 6 _ rfl
                have f6 := DB9007.froz 6
                go_simp
                obtain ⟨V, hV⟩ : ∃ V, V = (((((((WD.setCell ⟨w9003.heap.size, 0, none⟩ (.int .i64 a.len)).setCell ⟨w9003.heap.size, 1, none⟩ (.int .i64 a.e0)).setCell ⟨w9003.heap.size, 2, none⟩ (.int .i64 a.e1)).setCell ⟨w9003.heap.size, 3, none⟩ (.int .i64 a.e2)).setCell ⟨w9003.heap.size, 4, none⟩ (.slice Au0 a.l0.length cu0)).setCell ⟨w9003.heap.size, 5, none⟩ (.slice Au1 a.l1.length cu1)).setCell ⟨w9003.heap.size, 6, none⟩ (.slice Au2 a.l2.length cu2)) := ⟨_, rfl⟩
                have DF : Blk V w9003.heap.size 26 [(.int .i64 a.len), (.int .i64 a.e0), (.int .i64 a.e1), (.int .i64 a.e2), (.slice Au0 a.l0.length cu0), (.slice Au1 a.l1.length cu1), (.slice Au2 a.l2.length cu2)] := by rw [hV]; exact (((((((DB9007.set 0 _).set 1 _).set 2 _).set 3 _).set 4 _).set 5 _).set 6 _)
                have KF : Keep [] W4 V := by rw [hV]; exact (((((((K9007.setCell (a := ⟨w9003.heap.size, 0, none⟩) (Or.inr hDge) _).setCell (a := ⟨w9003.heap.size, 1, none⟩) (Or.inr hDge) _).setCell (a := ⟨w9003.heap.size, 2, none⟩) (Or.inr hDge) _).setCell (a := ⟨w9003.heap.size, 3, none⟩) (Or.inr hDge) _).setCell (a := ⟨w9003.heap.size, 4, none⟩) (Or.inr hDge) _).setCell (a := ⟨w9003.heap.size, 5, none⟩) (Or.inr hDge) _).setCell (a := ⟨w9003.heap.size, 6, none⟩) (Or.inr hDge) _)
                have KV : Keep [] w9003 V := by rw [hV]; exact (((((((KC9007.setCell (a := ⟨w9003.heap.size, 0, none⟩) (Or.inr (Nat.le_refl _)) _).setCell (a := ⟨w9003.heap.size, 1, none⟩) (Or.inr (Nat.le_refl _)) _).setCell (a := ⟨w9003.heap.size, 2, none⟩) (Or.inr (Nat.le_refl _)) _).setCell (a := ⟨w9003.heap.size, 3, none⟩) (Or.inr (Nat.le_refl _)) _).setCell (a := ⟨w9003.heap.size, 4, none⟩) (Or.inr (Nat.le_refl _)) _).setCell (a := ⟨w9003.heap.size, 5, none⟩) (Or.inr (Nat.le_refl _)) _).setCell (a := ⟨w9003.heap.size, 6, none⟩) (Or.inr (Nat.le_refl _)) _)
                have BF := BoxAt.of DF (hu.keep KV)
                rw [← hV]
                clear hV
                refine hK.out _ _ ?_ (fun hHeld => ?_)
                · exact ⟨KF.cell s0.1 (by simp), KF.cell s0.2.1 (by simp), KF.cell s0.2.2.1 (by simp), KF.cell s0.2.2.2.1 (by simp), KF.cell s0.2.2.2.2.1 (by simp), KF.cell s0.2.2.2.2.2.1 (by simp), KF.cell s0.2.2.2.2.2.2 (by simp)⟩
                clear hK K
                try simp only [Act.put, List.setIfInBounds_toArray, List.set_cons_zero, List.set_cons_succ]
                refine wpAnyH_take (i := 8) (oi := { dst := some 14, op := Go.Op.assign (Go.Operand.tmp 99), type := 28, pos := "law.go:76", after := #[{ on := 5, ground := Go.Ground.data }, { on := 7, ground := Go.Ground.chain }, { on := 0, ground := Go.Ground.phase }, { on := 1, ground := Go.Ground.phase }, { on := 2, ground := Go.Ground.phase }, { on := 3, ground := Go.Ground.phase }, { on := 4, ground := Go.Ground.phase }, { on := 5, ground := Go.Ground.phase }, { on := 6, ground := Go.Ground.phase }, { on := 7, ground := Go.Ground.phase }], guard := none }) (v := ?v9009) rfl (by kernel_rfl) (by kernel_rfl) (by kernel_rfl) (fun _ _ _ h => h) (Or.inl ⟨by rfl, ?y9009⟩) hHeld ?r9009
                case y9009 => (intro w' hSw; (try dsimp only at hSw); go_simp; (try with_reducible rfl))
                try simp only [Act.put, List.setIfInBounds_toArray, List.set_cons_zero, List.set_cons_succ]
                refine wpAnyH_done (by kernel_rfl) ?_ _
                have HBF := Lib.hid BF
                have HKF := Lib.hid KF
                clear hHeld BF KF
                go_wp2_with fail
                go_meet
                case rel => exact ⟨_, rfl, rfl, HKF.out, HBF.out⟩
              exact AllReadyH.nil
            exact AllReadyH.nil
          refine AllReadyH.cons (o := { dst := some 13, op := Go.Op.alloc 26, type := 0, pos := "law.go:76", after := #[], guard := none }) rfl (fun K hK => ?_) ?_
          · go_simp
            generalize hWD : (w9002.alloc (.cells #[.int .i64 0, .int .i64 0, .int .i64 0, .int .i64 0, .slice none 0 0, .slice none 0 0, .slice none 0 0] 26)) = WD
            have DB9010 : Blk WD w9002.heap.size 26 [.int .i64 0, .int .i64 0, .int .i64 0, .int .i64 0, .slice none 0 0, .slice none 0 0, .slice none 0 0] := by rw [← hWD]; exact (Blk.new w9002 #[.int .i64 0, .int .i64 0, .int .i64 0, .int .i64 0, .slice none 0 0, .slice none 0 0, .slice none 0 0] 26)
            have K9010 : Keep [] W4 WD := by rw [← hWD]; exact K9002.alloc _
            have hDge : W4.heap.size ≤ w9002.heap.size := K9002.size
            clear hWD
            refine hK.out _ _ ?_ (fun hHeld => ?_)
            · exact ⟨K9010.cell s0.1 (by simp), K9010.cell s0.2.1 (by simp), K9010.cell s0.2.2.1 (by simp), K9010.cell s0.2.2.2.1 (by simp), K9010.cell s0.2.2.2.2.1 (by simp), K9010.cell s0.2.2.2.2.2.1 (by simp), K9010.cell s0.2.2.2.2.2.2 (by simp)⟩
            clear hK K
            try simp only [Act.put, List.setIfInBounds_toArray, List.set_cons_zero, List.set_cons_succ]
            refine wpAnyH_ready (rs := [2]) (by kernel_rfl) (by simp) ?_
            refine AllReadyH.cons (o := { dst := some 97, op := Go.Op.call { callee := Go.Callee.value (Go.Operand.func 13), args := #[Go.Operand.tmp 95, Go.Operand.tmp 96], argTypes := #[26, 26] }, type := 29, pos := "law.go:76", after := #[{ on := 0, ground := Go.Ground.data }, { on := 1, ground := Go.Ground.data }, { on := 0, ground := Go.Ground.chain }], guard := none }) rfl (fun K hK => ?_) ?_
            · go_simp
              refine (compose_any _ _ Su.empty a _ (emptyV_su _) (HVa.out.keep K9010)).mono ?_
              rintro e w9011 ⟨u, rfl, hu, Kc9011, hfr⟩
              rw [compose_empty_left HVAL.out] at hu ⊢
              obtain ⟨Au0, cu0, Au1, cu1, Au2, cu2, rfl⟩ := hu.open
              have hDlt := DB9010.lt
              have K9011 : Keep [] W4 w9011 := K9010.trans Kc9011
              have DB9011 := Kc9011.blk DB9010 (by simp)
              refine hK.out _ _ ?_ (fun hHeld => ?_)
              · exact ⟨K9011.cell s0.1 (by simp), K9011.cell s0.2.1 (by simp), K9011.cell s0.2.2.1 (by simp), K9011.cell s0.2.2.2.1 (by simp), K9011.cell s0.2.2.2.2.1 (by simp), K9011.cell s0.2.2.2.2.2.1 (by simp), K9011.cell s0.2.2.2.2.2.2 (by simp)⟩
              clear hK K
              try simp only [Act.put, List.setIfInBounds_toArray, List.set_cons_zero, List.set_cons_succ]
              refine wpAnyH_take (i := 3) (oi := { dst := some 94, op := Go.Op.move (Go.Operand.tmp 97), type := 29, pos := "law.go:76", after := #[{ on := 2, ground := Go.Ground.data }], guard := none }) (v := ?v9012) rfl (by kernel_rfl) (by kernel_rfl) (by kernel_rfl) (fun _ _ _ h => h) (Or.inl ⟨by rfl, ?y9012⟩) hHeld ?r9012
              case y9012 => (intro w' hSw; (try dsimp only at hSw); go_simp; (try with_reducible rfl))
              try simp only [Act.put, List.setIfInBounds_toArray, List.set_cons_zero, List.set_cons_succ]
              refine wpAnyH_take (i := 4) (oi := { dst := some 98, op := Go.Op.extract (Go.Operand.tmp 94) 0, type := 26, pos := "law.go:76", after := #[{ on := 3, ground := Go.Ground.data }], guard := none }) (v := ?v9013) rfl (by kernel_rfl) (by kernel_rfl) (by kernel_rfl) (fun _ _ _ h => h) (Or.inl ⟨by rfl, ?y9013⟩) hHeld ?r9013
              case y9013 => (intro w' hSw; (try dsimp only at hSw); go_simp; (try with_reducible rfl))
              try simp only [Act.put, List.setIfInBounds_toArray, List.set_cons_zero, List.set_cons_succ]
              refine wpAnyH_take (i := 5) (oi := { dst := some 99, op := Go.Op.extract (Go.Operand.tmp 94) 1, type := 28, pos := "law.go:76", after := #[{ on := 3, ground := Go.Ground.data }, { on := 7, ground := Go.Ground.gcOnly Go.Departure.lateStores }], guard := none }) (v := ?v9014) rfl (by kernel_rfl) (by kernel_rfl) (by kernel_rfl) (fun _ _ _ h => h) (Or.inl ⟨by rfl, ?y9014⟩) hHeld ?r9014
              case y9014 => (intro w' hSw; (try dsimp only at hSw); go_simp; (try with_reducible rfl))
              try simp only [Act.put, List.setIfInBounds_toArray, List.set_cons_zero, List.set_cons_succ]
              refine wpAnyH_ready (rs := [7]) (by kernel_rfl) (by simp) ?_
              refine AllReadyH.cons (o := { dst := none, op := Go.Op.store 26 (Go.Operand.tmp 13) (Go.Operand.tmp 98), type := 0, pos := "law.go:76", after := #[{ on := 6, ground := Go.Ground.data }, { on := 4, ground := Go.Ground.data }, { on := 2, ground := Go.Ground.chain }, { on := 0, ground := Go.Ground.phase }, { on := 1, ground := Go.Ground.phase }, { on := 2, ground := Go.Ground.phase }, { on := 3, ground := Go.Ground.phase }, { on := 4, ground := Go.Ground.phase }, { on := 5, ground := Go.Ground.textOnly Go.Departure.lateStores }, { on := 6, ground := Go.Ground.phase }], guard := none }) rfl (fun K hK => ?_) ?_
              · have d0 := DB9011.cell 0 _ rfl
                have f0 := DB9011.froz 0
                have d1 := DB9011.cell 1 _ rfl
                have f1 := DB9011.froz 1
                have d2 := DB9011.cell 2 _ rfl
                have f2 := DB9011.froz 2
                have d3 := DB9011.cell 3 _ rfl
                have f3 := DB9011.froz 3
                have d4 := DB9011.cell 4 _ rfl
                have f4 := DB9011.froz 4
                have d5 := DB9011.cell 5 _ rfl
                have f5 := DB9011.froz 5
                have d6 := DB9011.cell 6 _ rfl
                have f6 := DB9011.froz 6
                go_simp
                obtain ⟨V, hV⟩ : ∃ V, V = (((((((w9011.setCell ⟨w9002.heap.size, 0, none⟩ (.int .i64 a.len)).setCell ⟨w9002.heap.size, 1, none⟩ (.int .i64 a.e0)).setCell ⟨w9002.heap.size, 2, none⟩ (.int .i64 a.e1)).setCell ⟨w9002.heap.size, 3, none⟩ (.int .i64 a.e2)).setCell ⟨w9002.heap.size, 4, none⟩ (.slice Au0 a.l0.length cu0)).setCell ⟨w9002.heap.size, 5, none⟩ (.slice Au1 a.l1.length cu1)).setCell ⟨w9002.heap.size, 6, none⟩ (.slice Au2 a.l2.length cu2)) := ⟨_, rfl⟩
                have DF : Blk V w9002.heap.size 26 [(.int .i64 a.len), (.int .i64 a.e0), (.int .i64 a.e1), (.int .i64 a.e2), (.slice Au0 a.l0.length cu0), (.slice Au1 a.l1.length cu1), (.slice Au2 a.l2.length cu2)] := by rw [hV]; exact (((((((DB9011.set 0 _).set 1 _).set 2 _).set 3 _).set 4 _).set 5 _).set 6 _)
                have KF : Keep [] W4 V := by rw [hV]; exact (((((((K9011.setCell (a := ⟨w9002.heap.size, 0, none⟩) (Or.inr hDge) _).setCell (a := ⟨w9002.heap.size, 1, none⟩) (Or.inr hDge) _).setCell (a := ⟨w9002.heap.size, 2, none⟩) (Or.inr hDge) _).setCell (a := ⟨w9002.heap.size, 3, none⟩) (Or.inr hDge) _).setCell (a := ⟨w9002.heap.size, 4, none⟩) (Or.inr hDge) _).setCell (a := ⟨w9002.heap.size, 5, none⟩) (Or.inr hDge) _).setCell (a := ⟨w9002.heap.size, 6, none⟩) (Or.inr hDge) _)
                have KV : Keep [w9002.heap.size] w9011 V := by rw [hV]; exact ((((((((Keep.refl _ _).setCell (a := ⟨w9002.heap.size, 0, none⟩) (Or.inl (by simp)) _).setCell (a := ⟨w9002.heap.size, 1, none⟩) (Or.inl (by simp)) _).setCell (a := ⟨w9002.heap.size, 2, none⟩) (Or.inl (by simp)) _).setCell (a := ⟨w9002.heap.size, 3, none⟩) (Or.inl (by simp)) _).setCell (a := ⟨w9002.heap.size, 4, none⟩) (Or.inl (by simp)) _).setCell (a := ⟨w9002.heap.size, 5, none⟩) (Or.inl (by simp)) _).setCell (a := ⟨w9002.heap.size, 6, none⟩) (Or.inl (by simp)) _)
                have BF := BoxAt.of DF (hu.keepNe KV hfr hDlt)
                rw [← hV]
                clear hV
                refine hK.out _ _ ?_ (fun hHeld => ?_)
                · exact ⟨KF.cell s0.1 (by simp), KF.cell s0.2.1 (by simp), KF.cell s0.2.2.1 (by simp), KF.cell s0.2.2.2.1 (by simp), KF.cell s0.2.2.2.2.1 (by simp), KF.cell s0.2.2.2.2.2.1 (by simp), KF.cell s0.2.2.2.2.2.2 (by simp)⟩
                clear hK K
                try simp only [Act.put, List.setIfInBounds_toArray, List.set_cons_zero, List.set_cons_succ]
                refine wpAnyH_take (i := 8) (oi := { dst := some 14, op := Go.Op.assign (Go.Operand.tmp 99), type := 28, pos := "law.go:76", after := #[{ on := 5, ground := Go.Ground.data }, { on := 7, ground := Go.Ground.chain }, { on := 0, ground := Go.Ground.phase }, { on := 1, ground := Go.Ground.phase }, { on := 2, ground := Go.Ground.phase }, { on := 3, ground := Go.Ground.phase }, { on := 4, ground := Go.Ground.phase }, { on := 5, ground := Go.Ground.phase }, { on := 6, ground := Go.Ground.phase }, { on := 7, ground := Go.Ground.phase }], guard := none }) (v := ?v9016) rfl (by kernel_rfl) (by kernel_rfl) (by kernel_rfl) (fun _ _ _ h => h) (Or.inl ⟨by rfl, ?y9016⟩) hHeld ?r9016
                case y9016 => (intro w' hSw; (try dsimp only at hSw); go_simp; (try with_reducible rfl))
                try simp only [Act.put, List.setIfInBounds_toArray, List.set_cons_zero, List.set_cons_succ]
                refine wpAnyH_done (by kernel_rfl) ?_ _
                have HBF := Lib.hid BF
                have HKF := Lib.hid KF
                clear hHeld BF KF
                go_wp2_with fail
                go_meet
                case rel => exact ⟨_, rfl, rfl, HKF.out, HBF.out⟩
              exact AllReadyH.nil
            exact AllReadyH.nil
          exact AllReadyH.nil
        refine AllReadyH.cons (o := { dst := some 13, op := Go.Op.alloc 26, type := 0, pos := "law.go:76", after := #[], guard := none }) rfl (fun K hK => ?_) ?_
        · go_simp
          generalize hWD : ((W4.alloc (.cells #[.int .i64 0, .int .i64 0, .int .i64 0, .int .i64 0, .slice none 0 0, .slice none 0 0, .slice none 0 0] 26)).drew) = WD
          have DB9017 : Blk WD W4.heap.size 26 [.int .i64 0, .int .i64 0, .int .i64 0, .int .i64 0, .slice none 0 0, .slice none 0 0, .slice none 0 0] := by rw [← hWD]; exact (Blk.new W4 #[.int .i64 0, .int .i64 0, .int .i64 0, .int .i64 0, .slice none 0 0, .slice none 0 0, .slice none 0 0] 26).drew
          have K9017 : Keep [] W4 WD := by rw [← hWD]; exact ((Keep.refl [] _).alloc _).drew
          have hDge : W4.heap.size ≤ W4.heap.size := K0.size
          clear hWD
          refine hK.out _ _ ?_ (fun hHeld => ?_)
          · exact ⟨K9017.cell s0.1 (by simp), K9017.cell s0.2.1 (by simp), K9017.cell s0.2.2.1 (by simp), K9017.cell s0.2.2.2.1 (by simp), K9017.cell s0.2.2.2.2.1 (by simp), K9017.cell s0.2.2.2.2.2.1 (by simp), K9017.cell s0.2.2.2.2.2.2 (by simp)⟩
          clear hK K
          try simp only [Act.put, List.setIfInBounds_toArray, List.set_cons_zero, List.set_cons_succ]
          refine wpAnyH_ready (rs := [0]) (by kernel_rfl) (by simp) ?_
          refine AllReadyH.cons (o := { dst := some 95, op := Go.Op.call { callee := Go.Callee.value (Go.Operand.func 14), args := #[], argTypes := #[] }, type := 26, pos := "law.go:76", after := #[], guard := none }) rfl (fun K hK => ?_) ?_
          · go_simp
            refine (empty_any _).mono ?_
            rintro e w9018 ⟨rfl, Kc9018⟩
            have K9018 : Keep [] W4 w9018 := K9017.trans Kc9018
            have DB9018 := Kc9018.blk DB9017 (by simp)
            refine hK.out _ _ ?_ (fun hHeld => ?_)
            · exact ⟨K9018.cell s0.1 (by simp), K9018.cell s0.2.1 (by simp), K9018.cell s0.2.2.1 (by simp), K9018.cell s0.2.2.2.1 (by simp), K9018.cell s0.2.2.2.2.1 (by simp), K9018.cell s0.2.2.2.2.2.1 (by simp), K9018.cell s0.2.2.2.2.2.2 (by simp)⟩
            clear hK K
            try simp only [Act.put, List.setIfInBounds_toArray, List.set_cons_zero, List.set_cons_succ]
            refine wpAnyH_ready (rs := [2]) (by kernel_rfl) (by simp) ?_
            refine AllReadyH.cons (o := { dst := some 97, op := Go.Op.call { callee := Go.Callee.value (Go.Operand.func 13), args := #[Go.Operand.tmp 95, Go.Operand.tmp 96], argTypes := #[26, 26] }, type := 29, pos := "law.go:76", after := #[{ on := 0, ground := Go.Ground.data }, { on := 1, ground := Go.Ground.data }, { on := 0, ground := Go.Ground.chain }], guard := none }) rfl (fun K hK => ?_) ?_
            · go_simp
              refine (compose_any _ _ Su.empty a _ (emptyV_su _) (HVa.out.keep K9018)).mono ?_
              rintro e w9019 ⟨u, rfl, hu, Kc9019, hfr⟩
              rw [compose_empty_left HVAL.out] at hu ⊢
              obtain ⟨Au0, cu0, Au1, cu1, Au2, cu2, rfl⟩ := hu.open
              have hDlt := DB9018.lt
              have K9019 : Keep [] W4 w9019 := K9018.trans Kc9019
              have DB9019 := Kc9019.blk DB9018 (by simp)
              refine hK.out _ _ ?_ (fun hHeld => ?_)
              · exact ⟨K9019.cell s0.1 (by simp), K9019.cell s0.2.1 (by simp), K9019.cell s0.2.2.1 (by simp), K9019.cell s0.2.2.2.1 (by simp), K9019.cell s0.2.2.2.2.1 (by simp), K9019.cell s0.2.2.2.2.2.1 (by simp), K9019.cell s0.2.2.2.2.2.2 (by simp)⟩
              clear hK K
              try simp only [Act.put, List.setIfInBounds_toArray, List.set_cons_zero, List.set_cons_succ]
              refine wpAnyH_take (i := 3) (oi := { dst := some 94, op := Go.Op.move (Go.Operand.tmp 97), type := 29, pos := "law.go:76", after := #[{ on := 2, ground := Go.Ground.data }], guard := none }) (v := ?v9020) rfl (by kernel_rfl) (by kernel_rfl) (by kernel_rfl) (fun _ _ _ h => h) (Or.inl ⟨by rfl, ?y9020⟩) hHeld ?r9020
              case y9020 => (intro w' hSw; (try dsimp only at hSw); go_simp; (try with_reducible rfl))
              try simp only [Act.put, List.setIfInBounds_toArray, List.set_cons_zero, List.set_cons_succ]
              refine wpAnyH_take (i := 4) (oi := { dst := some 98, op := Go.Op.extract (Go.Operand.tmp 94) 0, type := 26, pos := "law.go:76", after := #[{ on := 3, ground := Go.Ground.data }], guard := none }) (v := ?v9021) rfl (by kernel_rfl) (by kernel_rfl) (by kernel_rfl) (fun _ _ _ h => h) (Or.inl ⟨by rfl, ?y9021⟩) hHeld ?r9021
              case y9021 => (intro w' hSw; (try dsimp only at hSw); go_simp; (try with_reducible rfl))
              try simp only [Act.put, List.setIfInBounds_toArray, List.set_cons_zero, List.set_cons_succ]
              refine wpAnyH_take (i := 5) (oi := { dst := some 99, op := Go.Op.extract (Go.Operand.tmp 94) 1, type := 28, pos := "law.go:76", after := #[{ on := 3, ground := Go.Ground.data }, { on := 7, ground := Go.Ground.gcOnly Go.Departure.lateStores }], guard := none }) (v := ?v9022) rfl (by kernel_rfl) (by kernel_rfl) (by kernel_rfl) (fun _ _ _ h => h) (Or.inl ⟨by rfl, ?y9022⟩) hHeld ?r9022
              case y9022 => (intro w' hSw; (try dsimp only at hSw); go_simp; (try with_reducible rfl))
              try simp only [Act.put, List.setIfInBounds_toArray, List.set_cons_zero, List.set_cons_succ]
              refine wpAnyH_ready (rs := [7]) (by kernel_rfl) (by simp) ?_
              refine AllReadyH.cons (o := { dst := none, op := Go.Op.store 26 (Go.Operand.tmp 13) (Go.Operand.tmp 98), type := 0, pos := "law.go:76", after := #[{ on := 6, ground := Go.Ground.data }, { on := 4, ground := Go.Ground.data }, { on := 2, ground := Go.Ground.chain }, { on := 0, ground := Go.Ground.phase }, { on := 1, ground := Go.Ground.phase }, { on := 2, ground := Go.Ground.phase }, { on := 3, ground := Go.Ground.phase }, { on := 4, ground := Go.Ground.phase }, { on := 5, ground := Go.Ground.textOnly Go.Departure.lateStores }, { on := 6, ground := Go.Ground.phase }], guard := none }) rfl (fun K hK => ?_) ?_
              · have d0 := DB9019.cell 0 _ rfl
                have f0 := DB9019.froz 0
                have d1 := DB9019.cell 1 _ rfl
                have f1 := DB9019.froz 1
                have d2 := DB9019.cell 2 _ rfl
                have f2 := DB9019.froz 2
                have d3 := DB9019.cell 3 _ rfl
                have f3 := DB9019.froz 3
                have d4 := DB9019.cell 4 _ rfl
                have f4 := DB9019.froz 4
                have d5 := DB9019.cell 5 _ rfl
                have f5 := DB9019.froz 5
                have d6 := DB9019.cell 6 _ rfl
                have f6 := DB9019.froz 6
                go_simp
                obtain ⟨V, hV⟩ : ∃ V, V = (((((((w9019.setCell ⟨W4.heap.size, 0, none⟩ (.int .i64 a.len)).setCell ⟨W4.heap.size, 1, none⟩ (.int .i64 a.e0)).setCell ⟨W4.heap.size, 2, none⟩ (.int .i64 a.e1)).setCell ⟨W4.heap.size, 3, none⟩ (.int .i64 a.e2)).setCell ⟨W4.heap.size, 4, none⟩ (.slice Au0 a.l0.length cu0)).setCell ⟨W4.heap.size, 5, none⟩ (.slice Au1 a.l1.length cu1)).setCell ⟨W4.heap.size, 6, none⟩ (.slice Au2 a.l2.length cu2)) := ⟨_, rfl⟩
                have DF : Blk V W4.heap.size 26 [(.int .i64 a.len), (.int .i64 a.e0), (.int .i64 a.e1), (.int .i64 a.e2), (.slice Au0 a.l0.length cu0), (.slice Au1 a.l1.length cu1), (.slice Au2 a.l2.length cu2)] := by rw [hV]; exact (((((((DB9019.set 0 _).set 1 _).set 2 _).set 3 _).set 4 _).set 5 _).set 6 _)
                have KF : Keep [] W4 V := by rw [hV]; exact (((((((K9019.setCell (a := ⟨W4.heap.size, 0, none⟩) (Or.inr hDge) _).setCell (a := ⟨W4.heap.size, 1, none⟩) (Or.inr hDge) _).setCell (a := ⟨W4.heap.size, 2, none⟩) (Or.inr hDge) _).setCell (a := ⟨W4.heap.size, 3, none⟩) (Or.inr hDge) _).setCell (a := ⟨W4.heap.size, 4, none⟩) (Or.inr hDge) _).setCell (a := ⟨W4.heap.size, 5, none⟩) (Or.inr hDge) _).setCell (a := ⟨W4.heap.size, 6, none⟩) (Or.inr hDge) _)
                have KV : Keep [W4.heap.size] w9019 V := by rw [hV]; exact ((((((((Keep.refl _ _).setCell (a := ⟨W4.heap.size, 0, none⟩) (Or.inl (by simp)) _).setCell (a := ⟨W4.heap.size, 1, none⟩) (Or.inl (by simp)) _).setCell (a := ⟨W4.heap.size, 2, none⟩) (Or.inl (by simp)) _).setCell (a := ⟨W4.heap.size, 3, none⟩) (Or.inl (by simp)) _).setCell (a := ⟨W4.heap.size, 4, none⟩) (Or.inl (by simp)) _).setCell (a := ⟨W4.heap.size, 5, none⟩) (Or.inl (by simp)) _).setCell (a := ⟨W4.heap.size, 6, none⟩) (Or.inl (by simp)) _)
                have BF := BoxAt.of DF (hu.keepNe KV hfr hDlt)
                rw [← hV]
                clear hV
                refine hK.out _ _ ?_ (fun hHeld => ?_)
                · exact ⟨KF.cell s0.1 (by simp), KF.cell s0.2.1 (by simp), KF.cell s0.2.2.1 (by simp), KF.cell s0.2.2.2.1 (by simp), KF.cell s0.2.2.2.2.1 (by simp), KF.cell s0.2.2.2.2.2.1 (by simp), KF.cell s0.2.2.2.2.2.2 (by simp)⟩
                clear hK K
                try simp only [Act.put, List.setIfInBounds_toArray, List.set_cons_zero, List.set_cons_succ]
                refine wpAnyH_take (i := 8) (oi := { dst := some 14, op := Go.Op.assign (Go.Operand.tmp 99), type := 28, pos := "law.go:76", after := #[{ on := 5, ground := Go.Ground.data }, { on := 7, ground := Go.Ground.chain }, { on := 0, ground := Go.Ground.phase }, { on := 1, ground := Go.Ground.phase }, { on := 2, ground := Go.Ground.phase }, { on := 3, ground := Go.Ground.phase }, { on := 4, ground := Go.Ground.phase }, { on := 5, ground := Go.Ground.phase }, { on := 6, ground := Go.Ground.phase }, { on := 7, ground := Go.Ground.phase }], guard := none }) (v := ?v9024) rfl (by kernel_rfl) (by kernel_rfl) (by kernel_rfl) (fun _ _ _ h => h) (Or.inl ⟨by rfl, ?y9024⟩) hHeld ?r9024
                case y9024 => (intro w' hSw; (try dsimp only at hSw); go_simp; (try with_reducible rfl))
                try simp only [Act.put, List.setIfInBounds_toArray, List.set_cons_zero, List.set_cons_succ]
                refine wpAnyH_done (by kernel_rfl) ?_ _
                have HBF := Lib.hid BF
                have HKF := Lib.hid KF
                clear hHeld BF KF
                go_wp2_with fail
                go_meet
                case rel => exact ⟨_, rfl, rfl, HKF.out, HBF.out⟩
              exact AllReadyH.nil
            exact AllReadyH.nil
          exact AllReadyH.nil
        exact AllReadyH.nil
      case rest =>
        obtain ⟨D, rfl, rfl, K9, B9⟩ := hcut
        obtain ⟨W5, rfl⟩ : ∃ W5, W5 = wc := ⟨_, rfl⟩
        have HA6 := Lib.hid (HA5.out.keep K9)
        have HP6 := Lib.hid (HP5.out.keep K9)
        have HQ6 := Lib.hid (BQ5.out.keep K9)
        have HD6 := Lib.hid B9
        have HK6 := Lib.hid (HK5.out.trans K9)
        clear K9 B9 HA5 HP5 BQ5 HK5
        go_wp2_with fail
        go_cut [15, 16] (fun x y wc => ∃ D : Nat, x = .pointer (some ⟨D, 0, none⟩) ∧ y = .int .i64 0 ∧ Keep [] W5 wc ∧ BoxAt wc D a)
        case first =>
          obtain ⟨Aa0, ca0, Aa1, ca1, Aa2, ca2, Ba, Va⟩ := (HA6.out).open
          have a0 := Ba.cell 0 _ rfl
          have a1 := Ba.cell 1 _ rfl
          have a2 := Ba.cell 2 _ rfl
          have a3 := Ba.cell 3 _ rfl
          have a4 := Ba.cell 4 _ rfl
          have a5 := Ba.cell 5 _ rfl
          have a6 := Ba.cell 6 _ rfl
          have az := Ba.lt
          have HVa := Lib.hid Va
          clear Ba Va
          have s0 := And.intro a0 (And.intro a1 (And.intro a2 (And.intro a3 (And.intro a4 (And.intro a5 a6)))))
          have K0 : Keep [] W5 W5.drew := (Keep.refl _ _).drew
          clear a0 a1 a2 a3 a4 a5 a6 az
          refine wp_region_held_drew (S := fun v : World => v.cell? ⟨w.heap.size, 0, none⟩ = some (.int .i64 a.len) ∧ v.cell? ⟨w.heap.size, 1, none⟩ = some (.int .i64 a.e0) ∧ v.cell? ⟨w.heap.size, 2, none⟩ = some (.int .i64 a.e1) ∧ v.cell? ⟨w.heap.size, 3, none⟩ = some (.int .i64 a.e2) ∧ v.cell? ⟨w.heap.size, 4, none⟩ = some (.slice Aa0 a.l0.length ca0) ∧ v.cell? ⟨w.heap.size, 5, none⟩ = some (.slice Aa1 a.l1.length ca1) ∧ v.cell? ⟨w.heap.size, 6, none⟩ = some (.slice Aa2 a.l2.length ca2)) (by kernel_rfl) s0 (fun hHeld => ?_)
          change wpAnyH _ _ _ _ _ 9 (Array.replicate 9 false) _ _
          refine wpAnyH_take (i := 0) (oi := { dst := some 101, op := Go.Op.load 26 (Go.Operand.tmp 3), type := 26, pos := "law.go:77", after := #[], guard := none }) (v := ?v10001) rfl (by kernel_rfl) (by kernel_rfl) (by kernel_rfl) (fun _ _ _ h => h) (Or.inl ⟨by rfl, ?y10001⟩) hHeld ?r10001
          case y10001 => (intro w' hSw; (try dsimp only at hSw); go_simp; (try with_reducible rfl))
          try simp only [Act.put, List.setIfInBounds_toArray, List.set_cons_zero, List.set_cons_succ]
          refine wpAnyH_ready (rs := [1, 6]) (by kernel_rfl) (by simp) ?_
          refine AllReadyH.cons (o := { dst := some 102, op := Go.Op.call { callee := Go.Callee.value (Go.Operand.func 14), args := #[], argTypes := #[] }, type := 26, pos := "law.go:77", after := #[], guard := none }) rfl (fun K hK => ?_) ?_
          · go_simp
            refine (empty_any _).mono ?_
            rintro e w10002 ⟨rfl, Kc10002⟩
            have K10002 : Keep [] W5 w10002 := K0.trans Kc10002
            refine hK.out _ _ ?_ (fun hHeld => ?_)
            · exact ⟨K10002.cell s0.1 (by simp), K10002.cell s0.2.1 (by simp), K10002.cell s0.2.2.1 (by simp), K10002.cell s0.2.2.2.1 (by simp), K10002.cell s0.2.2.2.2.1 (by simp), K10002.cell s0.2.2.2.2.2.1 (by simp), K10002.cell s0.2.2.2.2.2.2 (by simp)⟩
            clear hK K
            try simp only [Act.put, List.setIfInBounds_toArray, List.set_cons_zero, List.set_cons_succ]
            refine wpAnyH_ready (rs := [2, 6]) (by kernel_rfl) (by simp) ?_
            refine AllReadyH.cons (o := { dst := some 103, op := Go.Op.call { callee := Go.Callee.value (Go.Operand.func 13), args := #[Go.Operand.tmp 101, Go.Operand.tmp 102], argTypes := #[26, 26] }, type := 29, pos := "law.go:77", after := #[{ on := 0, ground := Go.Ground.data }, { on := 1, ground := Go.Ground.data }, { on := 1, ground := Go.Ground.chain }], guard := none }) rfl (fun K hK => ?_) ?_
            · go_simp
              refine (compose_any _ _ a Su.empty _ (HVa.out.keep K10002) (emptyV_su _)).mono ?_
              rintro e w10003 ⟨u, rfl, hu, Kc10003, hfr⟩
              rw [compose_empty_right HVAL.out] at hu ⊢
              obtain ⟨Au0, cu0, Au1, cu1, Au2, cu2, rfl⟩ := hu.open
              have K10003 : Keep [] W5 w10003 := K10002.trans Kc10003
              refine hK.out _ _ ?_ (fun hHeld => ?_)
              · exact ⟨K10003.cell s0.1 (by simp), K10003.cell s0.2.1 (by simp), K10003.cell s0.2.2.1 (by simp), K10003.cell s0.2.2.2.1 (by simp), K10003.cell s0.2.2.2.2.1 (by simp), K10003.cell s0.2.2.2.2.2.1 (by simp), K10003.cell s0.2.2.2.2.2.2 (by simp)⟩
              clear hK K
              try simp only [Act.put, List.setIfInBounds_toArray, List.set_cons_zero, List.set_cons_succ]
              refine wpAnyH_take (i := 3) (oi := { dst := some 100, op := Go.Op.move (Go.Operand.tmp 103), type := 29, pos := "law.go:77", after := #[{ on := 2, ground := Go.Ground.data }], guard := none }) (v := ?v10004) rfl (by kernel_rfl) (by kernel_rfl) (by kernel_rfl) (fun _ _ _ h => h) (Or.inl ⟨by rfl, ?y10004⟩) hHeld ?r10004
              case y10004 => (intro w' hSw; (try dsimp only at hSw); go_simp; (try with_reducible rfl))
              try simp only [Act.put, List.setIfInBounds_toArray, List.set_cons_zero, List.set_cons_succ]
              refine wpAnyH_take (i := 4) (oi := { dst := some 104, op := Go.Op.extract (Go.Operand.tmp 100) 0, type := 26, pos := "law.go:77", after := #[{ on := 3, ground := Go.Ground.data }], guard := none }) (v := ?v10005) rfl (by kernel_rfl) (by kernel_rfl) (by kernel_rfl) (fun _ _ _ h => h) (Or.inl ⟨by rfl, ?y10005⟩) hHeld ?r10005
              case y10005 => (intro w' hSw; (try dsimp only at hSw); go_simp; (try with_reducible rfl))
              try simp only [Act.put, List.setIfInBounds_toArray, List.set_cons_zero, List.set_cons_succ]
              refine wpAnyH_take (i := 5) (oi := { dst := some 105, op := Go.Op.extract (Go.Operand.tmp 100) 1, type := 28, pos := "law.go:77", after := #[{ on := 3, ground := Go.Ground.data }, { on := 7, ground := Go.Ground.gcOnly Go.Departure.lateStores }], guard := none }) (v := ?v10006) rfl (by kernel_rfl) (by kernel_rfl) (by kernel_rfl) (fun _ _ _ h => h) (Or.inl ⟨by rfl, ?y10006⟩) hHeld ?r10006
              case y10006 => (intro w' hSw; (try dsimp only at hSw); go_simp; (try with_reducible rfl))
              try simp only [Act.put, List.setIfInBounds_toArray, List.set_cons_zero, List.set_cons_succ]
              refine wpAnyH_ready (rs := [6]) (by kernel_rfl) (by simp) ?_
              refine AllReadyH.cons (o := { dst := some 15, op := Go.Op.alloc 26, type := 0, pos := "law.go:77", after := #[], guard := none }) rfl (fun K hK => ?_) ?_
              · go_simp
                generalize hWD : (w10003.alloc (.cells #[.int .i64 0, .int .i64 0, .int .i64 0, .int .i64 0, .slice none 0 0, .slice none 0 0, .slice none 0 0] 26)) = WD
                have DB10007 : Blk WD w10003.heap.size 26 [.int .i64 0, .int .i64 0, .int .i64 0, .int .i64 0, .slice none 0 0, .slice none 0 0, .slice none 0 0] := by rw [← hWD]; exact (Blk.new w10003 #[.int .i64 0, .int .i64 0, .int .i64 0, .int .i64 0, .slice none 0 0, .slice none 0 0, .slice none 0 0] 26)
                have K10007 : Keep [] W5 WD := by rw [← hWD]; exact K10003.alloc _
                have hDge : W5.heap.size ≤ w10003.heap.size := K10003.size
                have KC10007 : Keep [] w10003 WD := by rw [← hWD]; exact (Keep.refl [] w10003).alloc _
                clear hWD
                refine hK.out _ _ ?_ (fun hHeld => ?_)
                · exact ⟨K10007.cell s0.1 (by simp), K10007.cell s0.2.1 (by simp), K10007.cell s0.2.2.1 (by simp), K10007.cell s0.2.2.2.1 (by simp), K10007.cell s0.2.2.2.2.1 (by simp), K10007.cell s0.2.2.2.2.2.1 (by simp), K10007.cell s0.2.2.2.2.2.2 (by simp)⟩
                clear hK K
                try simp only [Act.put, List.setIfInBounds_toArray, List.set_cons_zero, List.set_cons_succ]
                refine wpAnyH_ready (rs := [7]) (by kernel_rfl) (by simp) ?_
                refine AllReadyH.cons (o := { dst := none, op := Go.Op.store 26 (Go.Operand.tmp 15) (Go.Operand.tmp 104), type := 0, pos := "law.go:77", after := #[{ on := 6, ground := Go.Ground.data }, { on := 4, ground := Go.Ground.data }, { on := 2, ground := Go.Ground.chain }, { on := 0, ground := Go.Ground.phase }, { on := 1, ground := Go.Ground.phase }, { on := 2, ground := Go.Ground.phase }, { on := 3, ground := Go.Ground.phase }, { on := 4, ground := Go.Ground.phase }, { on := 5, ground := Go.Ground.textOnly Go.Departure.lateStores }, { on := 6, ground := Go.Ground.phase }], guard := none }) rfl (fun K hK => ?_) ?_
                · have d0 := DB10007.cell 0 _ rfl
                  have f0 := DB10007.froz 0
                  have d1 := DB10007.cell 1 _ rfl
                  have f1 := DB10007.froz 1
                  have d2 := DB10007.cell 2 _ rfl
                  have f2 := DB10007.froz 2
                  have d3 := DB10007.cell 3 _ rfl
                  have f3 := DB10007.froz 3
                  have d4 := DB10007.cell 4 _ rfl
                  have f4 := DB10007.froz 4
                  have d5 := DB10007.cell 5 _ rfl
                  have f5 := DB10007.froz 5
                  have d6 := DB10007.cell 6 _ rfl
                  have f6 := DB10007.froz 6
                  go_simp
                  obtain ⟨V, hV⟩ : ∃ V, V = (((((((WD.setCell ⟨w10003.heap.size, 0, none⟩ (.int .i64 a.len)).setCell ⟨w10003.heap.size, 1, none⟩ (.int .i64 a.e0)).setCell ⟨w10003.heap.size, 2, none⟩ (.int .i64 a.e1)).setCell ⟨w10003.heap.size, 3, none⟩ (.int .i64 a.e2)).setCell ⟨w10003.heap.size, 4, none⟩ (.slice Au0 a.l0.length cu0)).setCell ⟨w10003.heap.size, 5, none⟩ (.slice Au1 a.l1.length cu1)).setCell ⟨w10003.heap.size, 6, none⟩ (.slice Au2 a.l2.length cu2)) := ⟨_, rfl⟩
                  have DF : Blk V w10003.heap.size 26 [(.int .i64 a.len), (.int .i64 a.e0), (.int .i64 a.e1), (.int .i64 a.e2), (.slice Au0 a.l0.length cu0), (.slice Au1 a.l1.length cu1), (.slice Au2 a.l2.length cu2)] := by rw [hV]; exact (((((((DB10007.set 0 _).set 1 _).set 2 _).set 3 _).set 4 _).set 5 _).set 6 _)
                  have KF : Keep [] W5 V := by rw [hV]; exact (((((((K10007.setCell (a := ⟨w10003.heap.size, 0, none⟩) (Or.inr hDge) _).setCell (a := ⟨w10003.heap.size, 1, none⟩) (Or.inr hDge) _).setCell (a := ⟨w10003.heap.size, 2, none⟩) (Or.inr hDge) _).setCell (a := ⟨w10003.heap.size, 3, none⟩) (Or.inr hDge) _).setCell (a := ⟨w10003.heap.size, 4, none⟩) (Or.inr hDge) _).setCell (a := ⟨w10003.heap.size, 5, none⟩) (Or.inr hDge) _).setCell (a := ⟨w10003.heap.size, 6, none⟩) (Or.inr hDge) _)
                  have KV : Keep [] w10003 V := by rw [hV]; exact (((((((KC10007.setCell (a := ⟨w10003.heap.size, 0, none⟩) (Or.inr (Nat.le_refl _)) _).setCell (a := ⟨w10003.heap.size, 1, none⟩) (Or.inr (Nat.le_refl _)) _).setCell (a := ⟨w10003.heap.size, 2, none⟩) (Or.inr (Nat.le_refl _)) _).setCell (a := ⟨w10003.heap.size, 3, none⟩) (Or.inr (Nat.le_refl _)) _).setCell (a := ⟨w10003.heap.size, 4, none⟩) (Or.inr (Nat.le_refl _)) _).setCell (a := ⟨w10003.heap.size, 5, none⟩) (Or.inr (Nat.le_refl _)) _).setCell (a := ⟨w10003.heap.size, 6, none⟩) (Or.inr (Nat.le_refl _)) _)
                  have BF := BoxAt.of DF (hu.keep KV)
                  rw [← hV]
                  clear hV
                  refine hK.out _ _ ?_ (fun hHeld => ?_)
                  · exact ⟨KF.cell s0.1 (by simp), KF.cell s0.2.1 (by simp), KF.cell s0.2.2.1 (by simp), KF.cell s0.2.2.2.1 (by simp), KF.cell s0.2.2.2.2.1 (by simp), KF.cell s0.2.2.2.2.2.1 (by simp), KF.cell s0.2.2.2.2.2.2 (by simp)⟩
                  clear hK K
                  try simp only [Act.put, List.setIfInBounds_toArray, List.set_cons_zero, List.set_cons_succ]
                  refine wpAnyH_take (i := 8) (oi := { dst := some 16, op := Go.Op.assign (Go.Operand.tmp 105), type := 28, pos := "law.go:77", after := #[{ on := 5, ground := Go.Ground.data }, { on := 7, ground := Go.Ground.chain }, { on := 0, ground := Go.Ground.phase }, { on := 1, ground := Go.Ground.phase }, { on := 2, ground := Go.Ground.phase }, { on := 3, ground := Go.Ground.phase }, { on := 4, ground := Go.Ground.phase }, { on := 5, ground := Go.Ground.phase }, { on := 6, ground := Go.Ground.phase }, { on := 7, ground := Go.Ground.phase }], guard := none }) (v := ?v10009) rfl (by kernel_rfl) (by kernel_rfl) (by kernel_rfl) (fun _ _ _ h => h) (Or.inl ⟨by rfl, ?y10009⟩) hHeld ?r10009
                  case y10009 => (intro w' hSw; (try dsimp only at hSw); go_simp; (try with_reducible rfl))
                  try simp only [Act.put, List.setIfInBounds_toArray, List.set_cons_zero, List.set_cons_succ]
                  refine wpAnyH_done (by kernel_rfl) ?_ _
                  have HBF := Lib.hid BF
                  have HKF := Lib.hid KF
                  clear hHeld BF KF
                  go_wp2_with fail
                  go_meet
                  case rel => exact ⟨_, rfl, rfl, HKF.out, HBF.out⟩
                exact AllReadyH.nil
              exact AllReadyH.nil
            refine AllReadyH.cons (o := { dst := some 15, op := Go.Op.alloc 26, type := 0, pos := "law.go:77", after := #[], guard := none }) rfl (fun K hK => ?_) ?_
            · go_simp
              generalize hWD : (w10002.alloc (.cells #[.int .i64 0, .int .i64 0, .int .i64 0, .int .i64 0, .slice none 0 0, .slice none 0 0, .slice none 0 0] 26)) = WD
              have DB10010 : Blk WD w10002.heap.size 26 [.int .i64 0, .int .i64 0, .int .i64 0, .int .i64 0, .slice none 0 0, .slice none 0 0, .slice none 0 0] := by rw [← hWD]; exact (Blk.new w10002 #[.int .i64 0, .int .i64 0, .int .i64 0, .int .i64 0, .slice none 0 0, .slice none 0 0, .slice none 0 0] 26)
              have K10010 : Keep [] W5 WD := by rw [← hWD]; exact K10002.alloc _
              have hDge : W5.heap.size ≤ w10002.heap.size := K10002.size
              clear hWD
              refine hK.out _ _ ?_ (fun hHeld => ?_)
              · exact ⟨K10010.cell s0.1 (by simp), K10010.cell s0.2.1 (by simp), K10010.cell s0.2.2.1 (by simp), K10010.cell s0.2.2.2.1 (by simp), K10010.cell s0.2.2.2.2.1 (by simp), K10010.cell s0.2.2.2.2.2.1 (by simp), K10010.cell s0.2.2.2.2.2.2 (by simp)⟩
              clear hK K
              try simp only [Act.put, List.setIfInBounds_toArray, List.set_cons_zero, List.set_cons_succ]
              refine wpAnyH_ready (rs := [2]) (by kernel_rfl) (by simp) ?_
              refine AllReadyH.cons (o := { dst := some 103, op := Go.Op.call { callee := Go.Callee.value (Go.Operand.func 13), args := #[Go.Operand.tmp 101, Go.Operand.tmp 102], argTypes := #[26, 26] }, type := 29, pos := "law.go:77", after := #[{ on := 0, ground := Go.Ground.data }, { on := 1, ground := Go.Ground.data }, { on := 1, ground := Go.Ground.chain }], guard := none }) rfl (fun K hK => ?_) ?_
              · go_simp
                refine (compose_any _ _ a Su.empty _ (HVa.out.keep K10010) (emptyV_su _)).mono ?_
                rintro e w10011 ⟨u, rfl, hu, Kc10011, hfr⟩
                rw [compose_empty_right HVAL.out] at hu ⊢
                obtain ⟨Au0, cu0, Au1, cu1, Au2, cu2, rfl⟩ := hu.open
                have hDlt := DB10010.lt
                have K10011 : Keep [] W5 w10011 := K10010.trans Kc10011
                have DB10011 := Kc10011.blk DB10010 (by simp)
                refine hK.out _ _ ?_ (fun hHeld => ?_)
                · exact ⟨K10011.cell s0.1 (by simp), K10011.cell s0.2.1 (by simp), K10011.cell s0.2.2.1 (by simp), K10011.cell s0.2.2.2.1 (by simp), K10011.cell s0.2.2.2.2.1 (by simp), K10011.cell s0.2.2.2.2.2.1 (by simp), K10011.cell s0.2.2.2.2.2.2 (by simp)⟩
                clear hK K
                try simp only [Act.put, List.setIfInBounds_toArray, List.set_cons_zero, List.set_cons_succ]
                refine wpAnyH_take (i := 3) (oi := { dst := some 100, op := Go.Op.move (Go.Operand.tmp 103), type := 29, pos := "law.go:77", after := #[{ on := 2, ground := Go.Ground.data }], guard := none }) (v := ?v10012) rfl (by kernel_rfl) (by kernel_rfl) (by kernel_rfl) (fun _ _ _ h => h) (Or.inl ⟨by rfl, ?y10012⟩) hHeld ?r10012
                case y10012 => (intro w' hSw; (try dsimp only at hSw); go_simp; (try with_reducible rfl))
                try simp only [Act.put, List.setIfInBounds_toArray, List.set_cons_zero, List.set_cons_succ]
                refine wpAnyH_take (i := 4) (oi := { dst := some 104, op := Go.Op.extract (Go.Operand.tmp 100) 0, type := 26, pos := "law.go:77", after := #[{ on := 3, ground := Go.Ground.data }], guard := none }) (v := ?v10013) rfl (by kernel_rfl) (by kernel_rfl) (by kernel_rfl) (fun _ _ _ h => h) (Or.inl ⟨by rfl, ?y10013⟩) hHeld ?r10013
                case y10013 => (intro w' hSw; (try dsimp only at hSw); go_simp; (try with_reducible rfl))
                try simp only [Act.put, List.setIfInBounds_toArray, List.set_cons_zero, List.set_cons_succ]
                refine wpAnyH_take (i := 5) (oi := { dst := some 105, op := Go.Op.extract (Go.Operand.tmp 100) 1, type := 28, pos := "law.go:77", after := #[{ on := 3, ground := Go.Ground.data }, { on := 7, ground := Go.Ground.gcOnly Go.Departure.lateStores }], guard := none }) (v := ?v10014) rfl (by kernel_rfl) (by kernel_rfl) (by kernel_rfl) (fun _ _ _ h => h) (Or.inl ⟨by rfl, ?y10014⟩) hHeld ?r10014
                case y10014 => (intro w' hSw; (try dsimp only at hSw); go_simp; (try with_reducible rfl))
                try simp only [Act.put, List.setIfInBounds_toArray, List.set_cons_zero, List.set_cons_succ]
                refine wpAnyH_ready (rs := [7]) (by kernel_rfl) (by simp) ?_
                refine AllReadyH.cons (o := { dst := none, op := Go.Op.store 26 (Go.Operand.tmp 15) (Go.Operand.tmp 104), type := 0, pos := "law.go:77", after := #[{ on := 6, ground := Go.Ground.data }, { on := 4, ground := Go.Ground.data }, { on := 2, ground := Go.Ground.chain }, { on := 0, ground := Go.Ground.phase }, { on := 1, ground := Go.Ground.phase }, { on := 2, ground := Go.Ground.phase }, { on := 3, ground := Go.Ground.phase }, { on := 4, ground := Go.Ground.phase }, { on := 5, ground := Go.Ground.textOnly Go.Departure.lateStores }, { on := 6, ground := Go.Ground.phase }], guard := none }) rfl (fun K hK => ?_) ?_
                · have d0 := DB10011.cell 0 _ rfl
                  have f0 := DB10011.froz 0
                  have d1 := DB10011.cell 1 _ rfl
                  have f1 := DB10011.froz 1
                  have d2 := DB10011.cell 2 _ rfl
                  have f2 := DB10011.froz 2
                  have d3 := DB10011.cell 3 _ rfl
                  have f3 := DB10011.froz 3
                  have d4 := DB10011.cell 4 _ rfl
                  have f4 := DB10011.froz 4
                  have d5 := DB10011.cell 5 _ rfl
                  have f5 := DB10011.froz 5
                  have d6 := DB10011.cell 6 _ rfl
                  have f6 := DB10011.froz 6
                  go_simp
                  obtain ⟨V, hV⟩ : ∃ V, V = (((((((w10011.setCell ⟨w10002.heap.size, 0, none⟩ (.int .i64 a.len)).setCell ⟨w10002.heap.size, 1, none⟩ (.int .i64 a.e0)).setCell ⟨w10002.heap.size, 2, none⟩ (.int .i64 a.e1)).setCell ⟨w10002.heap.size, 3, none⟩ (.int .i64 a.e2)).setCell ⟨w10002.heap.size, 4, none⟩ (.slice Au0 a.l0.length cu0)).setCell ⟨w10002.heap.size, 5, none⟩ (.slice Au1 a.l1.length cu1)).setCell ⟨w10002.heap.size, 6, none⟩ (.slice Au2 a.l2.length cu2)) := ⟨_, rfl⟩
                  have DF : Blk V w10002.heap.size 26 [(.int .i64 a.len), (.int .i64 a.e0), (.int .i64 a.e1), (.int .i64 a.e2), (.slice Au0 a.l0.length cu0), (.slice Au1 a.l1.length cu1), (.slice Au2 a.l2.length cu2)] := by rw [hV]; exact (((((((DB10011.set 0 _).set 1 _).set 2 _).set 3 _).set 4 _).set 5 _).set 6 _)
                  have KF : Keep [] W5 V := by rw [hV]; exact (((((((K10011.setCell (a := ⟨w10002.heap.size, 0, none⟩) (Or.inr hDge) _).setCell (a := ⟨w10002.heap.size, 1, none⟩) (Or.inr hDge) _).setCell (a := ⟨w10002.heap.size, 2, none⟩) (Or.inr hDge) _).setCell (a := ⟨w10002.heap.size, 3, none⟩) (Or.inr hDge) _).setCell (a := ⟨w10002.heap.size, 4, none⟩) (Or.inr hDge) _).setCell (a := ⟨w10002.heap.size, 5, none⟩) (Or.inr hDge) _).setCell (a := ⟨w10002.heap.size, 6, none⟩) (Or.inr hDge) _)
                  have KV : Keep [w10002.heap.size] w10011 V := by rw [hV]; exact ((((((((Keep.refl _ _).setCell (a := ⟨w10002.heap.size, 0, none⟩) (Or.inl (by simp)) _).setCell (a := ⟨w10002.heap.size, 1, none⟩) (Or.inl (by simp)) _).setCell (a := ⟨w10002.heap.size, 2, none⟩) (Or.inl (by simp)) _).setCell (a := ⟨w10002.heap.size, 3, none⟩) (Or.inl (by simp)) _).setCell (a := ⟨w10002.heap.size, 4, none⟩) (Or.inl (by simp)) _).setCell (a := ⟨w10002.heap.size, 5, none⟩) (Or.inl (by simp)) _).setCell (a := ⟨w10002.heap.size, 6, none⟩) (Or.inl (by simp)) _)
                  have BF := BoxAt.of DF (hu.keepNe KV hfr hDlt)
                  rw [← hV]
                  clear hV
                  refine hK.out _ _ ?_ (fun hHeld => ?_)
                  · exact ⟨KF.cell s0.1 (by simp), KF.cell s0.2.1 (by simp), KF.cell s0.2.2.1 (by simp), KF.cell s0.2.2.2.1 (by simp), KF.cell s0.2.2.2.2.1 (by simp), KF.cell s0.2.2.2.2.2.1 (by simp), KF.cell s0.2.2.2.2.2.2 (by simp)⟩
                  clear hK K
                  try simp only [Act.put, List.setIfInBounds_toArray, List.set_cons_zero, List.set_cons_succ]
                  refine wpAnyH_take (i := 8) (oi := { dst := some 16, op := Go.Op.assign (Go.Operand.tmp 105), type := 28, pos := "law.go:77", after := #[{ on := 5, ground := Go.Ground.data }, { on := 7, ground := Go.Ground.chain }, { on := 0, ground := Go.Ground.phase }, { on := 1, ground := Go.Ground.phase }, { on := 2, ground := Go.Ground.phase }, { on := 3, ground := Go.Ground.phase }, { on := 4, ground := Go.Ground.phase }, { on := 5, ground := Go.Ground.phase }, { on := 6, ground := Go.Ground.phase }, { on := 7, ground := Go.Ground.phase }], guard := none }) (v := ?v10016) rfl (by kernel_rfl) (by kernel_rfl) (by kernel_rfl) (fun _ _ _ h => h) (Or.inl ⟨by rfl, ?y10016⟩) hHeld ?r10016
                  case y10016 => (intro w' hSw; (try dsimp only at hSw); go_simp; (try with_reducible rfl))
                  try simp only [Act.put, List.setIfInBounds_toArray, List.set_cons_zero, List.set_cons_succ]
                  refine wpAnyH_done (by kernel_rfl) ?_ _
                  have HBF := Lib.hid BF
                  have HKF := Lib.hid KF
                  clear hHeld BF KF
                  go_wp2_with fail
                  go_meet
                  case rel => exact ⟨_, rfl, rfl, HKF.out, HBF.out⟩
                exact AllReadyH.nil
              exact AllReadyH.nil
            exact AllReadyH.nil
          refine AllReadyH.cons (o := { dst := some 15, op := Go.Op.alloc 26, type := 0, pos := "law.go:77", after := #[], guard := none }) rfl (fun K hK => ?_) ?_
          · go_simp
            generalize hWD : ((W5.alloc (.cells #[.int .i64 0, .int .i64 0, .int .i64 0, .int .i64 0, .slice none 0 0, .slice none 0 0, .slice none 0 0] 26)).drew) = WD
            have DB10017 : Blk WD W5.heap.size 26 [.int .i64 0, .int .i64 0, .int .i64 0, .int .i64 0, .slice none 0 0, .slice none 0 0, .slice none 0 0] := by rw [← hWD]; exact (Blk.new W5 #[.int .i64 0, .int .i64 0, .int .i64 0, .int .i64 0, .slice none 0 0, .slice none 0 0, .slice none 0 0] 26).drew
            have K10017 : Keep [] W5 WD := by rw [← hWD]; exact ((Keep.refl [] _).alloc _).drew
            have hDge : W5.heap.size ≤ W5.heap.size := K0.size
            clear hWD
            refine hK.out _ _ ?_ (fun hHeld => ?_)
            · exact ⟨K10017.cell s0.1 (by simp), K10017.cell s0.2.1 (by simp), K10017.cell s0.2.2.1 (by simp), K10017.cell s0.2.2.2.1 (by simp), K10017.cell s0.2.2.2.2.1 (by simp), K10017.cell s0.2.2.2.2.2.1 (by simp), K10017.cell s0.2.2.2.2.2.2 (by simp)⟩
            clear hK K
            try simp only [Act.put, List.setIfInBounds_toArray, List.set_cons_zero, List.set_cons_succ]
            refine wpAnyH_ready (rs := [1]) (by kernel_rfl) (by simp) ?_
            refine AllReadyH.cons (o := { dst := some 102, op := Go.Op.call { callee := Go.Callee.value (Go.Operand.func 14), args := #[], argTypes := #[] }, type := 26, pos := "law.go:77", after := #[], guard := none }) rfl (fun K hK => ?_) ?_
            · go_simp
              refine (empty_any _).mono ?_
              rintro e w10018 ⟨rfl, Kc10018⟩
              have K10018 : Keep [] W5 w10018 := K10017.trans Kc10018
              have DB10018 := Kc10018.blk DB10017 (by simp)
              refine hK.out _ _ ?_ (fun hHeld => ?_)
              · exact ⟨K10018.cell s0.1 (by simp), K10018.cell s0.2.1 (by simp), K10018.cell s0.2.2.1 (by simp), K10018.cell s0.2.2.2.1 (by simp), K10018.cell s0.2.2.2.2.1 (by simp), K10018.cell s0.2.2.2.2.2.1 (by simp), K10018.cell s0.2.2.2.2.2.2 (by simp)⟩
              clear hK K
              try simp only [Act.put, List.setIfInBounds_toArray, List.set_cons_zero, List.set_cons_succ]
              refine wpAnyH_ready (rs := [2]) (by kernel_rfl) (by simp) ?_
              refine AllReadyH.cons (o := { dst := some 103, op := Go.Op.call { callee := Go.Callee.value (Go.Operand.func 13), args := #[Go.Operand.tmp 101, Go.Operand.tmp 102], argTypes := #[26, 26] }, type := 29, pos := "law.go:77", after := #[{ on := 0, ground := Go.Ground.data }, { on := 1, ground := Go.Ground.data }, { on := 1, ground := Go.Ground.chain }], guard := none }) rfl (fun K hK => ?_) ?_
              · go_simp
                refine (compose_any _ _ a Su.empty _ (HVa.out.keep K10018) (emptyV_su _)).mono ?_
                rintro e w10019 ⟨u, rfl, hu, Kc10019, hfr⟩
                rw [compose_empty_right HVAL.out] at hu ⊢
                obtain ⟨Au0, cu0, Au1, cu1, Au2, cu2, rfl⟩ := hu.open
                have hDlt := DB10018.lt
                have K10019 : Keep [] W5 w10019 := K10018.trans Kc10019
                have DB10019 := Kc10019.blk DB10018 (by simp)
                refine hK.out _ _ ?_ (fun hHeld => ?_)
                · exact ⟨K10019.cell s0.1 (by simp), K10019.cell s0.2.1 (by simp), K10019.cell s0.2.2.1 (by simp), K10019.cell s0.2.2.2.1 (by simp), K10019.cell s0.2.2.2.2.1 (by simp), K10019.cell s0.2.2.2.2.2.1 (by simp), K10019.cell s0.2.2.2.2.2.2 (by simp)⟩
                clear hK K
                try simp only [Act.put, List.setIfInBounds_toArray, List.set_cons_zero, List.set_cons_succ]
                refine wpAnyH_take (i := 3) (oi := { dst := some 100, op := Go.Op.move (Go.Operand.tmp 103), type := 29, pos := "law.go:77", after := #[{ on := 2, ground := Go.Ground.data }], guard := none }) (v := ?v10020) rfl (by kernel_rfl) (by kernel_rfl) (by kernel_rfl) (fun _ _ _ h => h) (Or.inl ⟨by rfl, ?y10020⟩) hHeld ?r10020
                case y10020 => (intro w' hSw; (try dsimp only at hSw); go_simp; (try with_reducible rfl))
                try simp only [Act.put, List.setIfInBounds_toArray, List.set_cons_zero, List.set_cons_succ]
                refine wpAnyH_take (i := 4) (oi := { dst := some 104, op := Go.Op.extract (Go.Operand.tmp 100) 0, type := 26, pos := "law.go:77", after := #[{ on := 3, ground := Go.Ground.data }], guard := none }) (v := ?v10021) rfl (by kernel_rfl) (by kernel_rfl) (by kernel_rfl) (fun _ _ _ h => h) (Or.inl ⟨by rfl, ?y10021⟩) hHeld ?r10021
                case y10021 => (intro w' hSw; (try dsimp only at hSw); go_simp; (try with_reducible rfl))
                try simp only [Act.put, List.setIfInBounds_toArray, List.set_cons_zero, List.set_cons_succ]
                refine wpAnyH_take (i := 5) (oi := { dst := some 105, op := Go.Op.extract (Go.Operand.tmp 100) 1, type := 28, pos := "law.go:77", after := #[{ on := 3, ground := Go.Ground.data }, { on := 7, ground := Go.Ground.gcOnly Go.Departure.lateStores }], guard := none }) (v := ?v10022) rfl (by kernel_rfl) (by kernel_rfl) (by kernel_rfl) (fun _ _ _ h => h) (Or.inl ⟨by rfl, ?y10022⟩) hHeld ?r10022
                case y10022 => (intro w' hSw; (try dsimp only at hSw); go_simp; (try with_reducible rfl))
                try simp only [Act.put, List.setIfInBounds_toArray, List.set_cons_zero, List.set_cons_succ]
                refine wpAnyH_ready (rs := [7]) (by kernel_rfl) (by simp) ?_
                refine AllReadyH.cons (o := { dst := none, op := Go.Op.store 26 (Go.Operand.tmp 15) (Go.Operand.tmp 104), type := 0, pos := "law.go:77", after := #[{ on := 6, ground := Go.Ground.data }, { on := 4, ground := Go.Ground.data }, { on := 2, ground := Go.Ground.chain }, { on := 0, ground := Go.Ground.phase }, { on := 1, ground := Go.Ground.phase }, { on := 2, ground := Go.Ground.phase }, { on := 3, ground := Go.Ground.phase }, { on := 4, ground := Go.Ground.phase }, { on := 5, ground := Go.Ground.textOnly Go.Departure.lateStores }, { on := 6, ground := Go.Ground.phase }], guard := none }) rfl (fun K hK => ?_) ?_
                · have d0 := DB10019.cell 0 _ rfl
                  have f0 := DB10019.froz 0
                  have d1 := DB10019.cell 1 _ rfl
                  have f1 := DB10019.froz 1
                  have d2 := DB10019.cell 2 _ rfl
                  have f2 := DB10019.froz 2
                  have d3 := DB10019.cell 3 _ rfl
                  have f3 := DB10019.froz 3
                  have d4 := DB10019.cell 4 _ rfl
                  have f4 := DB10019.froz 4
                  have d5 := DB10019.cell 5 _ rfl
                  have f5 := DB10019.froz 5
                  have d6 := DB10019.cell 6 _ rfl
                  have f6 := DB10019.froz 6
                  go_simp
                  obtain ⟨V, hV⟩ : ∃ V, V = (((((((w10019.setCell ⟨W5.heap.size, 0, none⟩ (.int .i64 a.len)).setCell ⟨W5.heap.size, 1, none⟩ (.int .i64 a.e0)).setCell ⟨W5.heap.size, 2, none⟩ (.int .i64 a.e1)).setCell ⟨W5.heap.size, 3, none⟩ (.int .i64 a.e2)).setCell ⟨W5.heap.size, 4, none⟩ (.slice Au0 a.l0.length cu0)).setCell ⟨W5.heap.size, 5, none⟩ (.slice Au1 a.l1.length cu1)).setCell ⟨W5.heap.size, 6, none⟩ (.slice Au2 a.l2.length cu2)) := ⟨_, rfl⟩
                  have DF : Blk V W5.heap.size 26 [(.int .i64 a.len), (.int .i64 a.e0), (.int .i64 a.e1), (.int .i64 a.e2), (.slice Au0 a.l0.length cu0), (.slice Au1 a.l1.length cu1), (.slice Au2 a.l2.length cu2)] := by rw [hV]; exact (((((((DB10019.set 0 _).set 1 _).set 2 _).set 3 _).set 4 _).set 5 _).set 6 _)
                  have KF : Keep [] W5 V := by rw [hV]; exact (((((((K10019.setCell (a := ⟨W5.heap.size, 0, none⟩) (Or.inr hDge) _).setCell (a := ⟨W5.heap.size, 1, none⟩) (Or.inr hDge) _).setCell (a := ⟨W5.heap.size, 2, none⟩) (Or.inr hDge) _).setCell (a := ⟨W5.heap.size, 3, none⟩) (Or.inr hDge) _).setCell (a := ⟨W5.heap.size, 4, none⟩) (Or.inr hDge) _).setCell (a := ⟨W5.heap.size, 5, none⟩) (Or.inr hDge) _).setCell (a := ⟨W5.heap.size, 6, none⟩) (Or.inr hDge) _)
                  have KV : Keep [W5.heap.size] w10019 V := by rw [hV]; exact ((((((((Keep.refl _ _).setCell (a := ⟨W5.heap.size, 0, none⟩) (Or.inl (by simp)) _).setCell (a := ⟨W5.heap.size, 1, none⟩) (Or.inl (by simp)) _).setCell (a := ⟨W5.heap.size, 2, none⟩) (Or.inl (by simp)) _).setCell (a := ⟨W5.heap.size, 3, none⟩) (Or.inl (by simp)) _).setCell (a := ⟨W5.heap.size, 4, none⟩) (Or.inl (by simp)) _).setCell (a := ⟨W5.heap.size, 5, none⟩) (Or.inl (by simp)) _).setCell (a := ⟨W5.heap.size, 6, none⟩) (Or.inl (by simp)) _)
                  have BF := BoxAt.of DF (hu.keepNe KV hfr hDlt)
                  rw [← hV]
                  clear hV
                  refine hK.out _ _ ?_ (fun hHeld => ?_)
                  · exact ⟨KF.cell s0.1 (by simp), KF.cell s0.2.1 (by simp), KF.cell s0.2.2.1 (by simp), KF.cell s0.2.2.2.1 (by simp), KF.cell s0.2.2.2.2.1 (by simp), KF.cell s0.2.2.2.2.2.1 (by simp), KF.cell s0.2.2.2.2.2.2 (by simp)⟩
                  clear hK K
                  try simp only [Act.put, List.setIfInBounds_toArray, List.set_cons_zero, List.set_cons_succ]
                  refine wpAnyH_take (i := 8) (oi := { dst := some 16, op := Go.Op.assign (Go.Operand.tmp 105), type := 28, pos := "law.go:77", after := #[{ on := 5, ground := Go.Ground.data }, { on := 7, ground := Go.Ground.chain }, { on := 0, ground := Go.Ground.phase }, { on := 1, ground := Go.Ground.phase }, { on := 2, ground := Go.Ground.phase }, { on := 3, ground := Go.Ground.phase }, { on := 4, ground := Go.Ground.phase }, { on := 5, ground := Go.Ground.phase }, { on := 6, ground := Go.Ground.phase }, { on := 7, ground := Go.Ground.phase }], guard := none }) (v := ?v10024) rfl (by kernel_rfl) (by kernel_rfl) (by kernel_rfl) (fun _ _ _ h => h) (Or.inl ⟨by rfl, ?y10024⟩) hHeld ?r10024
                  case y10024 => (intro w' hSw; (try dsimp only at hSw); go_simp; (try with_reducible rfl))
                  try simp only [Act.put, List.setIfInBounds_toArray, List.set_cons_zero, List.set_cons_succ]
                  refine wpAnyH_done (by kernel_rfl) ?_ _
                  have HBF := Lib.hid BF
                  have HKF := Lib.hid KF
                  clear hHeld BF KF
                  go_wp2_with fail
                  go_meet
                  case rel => exact ⟨_, rfl, rfl, HKF.out, HBF.out⟩
                exact AllReadyH.nil
              exact AllReadyH.nil
            exact AllReadyH.nil
          exact AllReadyH.nil
        case rest =>
          obtain ⟨E, rfl, rfl, K10, B10⟩ := hcut
          obtain ⟨W6, rfl⟩ : ∃ W6, W6 = wc := ⟨_, rfl⟩
          have HA7 := Lib.hid (HA6.out.keep K10)
          have HP7 := Lib.hid (HP6.out.keep K10)
          have HQ7 := Lib.hid (HQ6.out.keep K10)
          have HD7 := Lib.hid (HD6.out.keep K10)
          have HE7 := Lib.hid B10
          have HK7 := Lib.hid (HK6.out.trans K10)
          clear K10 B10 HA6 HP6 HQ6 HD6 HK6
          have hee : (e3 == e3) = true := by simp
          obtain ⟨Ap0, cp0, Ap1, cp1, Ap2, cp2, Bp, Vp⟩ := (HP7.out).open
          have p0 := Bp.cell 0 _ rfl
          have p1 := Bp.cell 1 _ rfl
          have p2 := Bp.cell 2 _ rfl
          have p3 := Bp.cell 3 _ rfl
          have p4 := Bp.cell 4 _ rfl
          have p5 := Bp.cell 5 _ rfl
          have p6 := Bp.cell 6 _ rfl
          have pz := Bp.lt
          have HVp := Lib.hid Vp
          clear Bp Vp
          obtain ⟨Aq0, cq0, Aq1, cq1, Aq2, cq2, Bq, Vq⟩ := (HQ7.out).open
          have q0 := Bq.cell 0 _ rfl
          have q1 := Bq.cell 1 _ rfl
          have q2 := Bq.cell 2 _ rfl
          have q3 := Bq.cell 3 _ rfl
          have q4 := Bq.cell 4 _ rfl
          have q5 := Bq.cell 5 _ rfl
          have q6 := Bq.cell 6 _ rfl
          have qz := Bq.lt
          have HVq := Lib.hid Vq
          clear Bq Vq
          go_wp2_with fail
          refine (same_any _ _ z z true (decide_eq_true rfl).symm _ HVp.out HVq.out).mono ?_
          rintro e w8 ⟨rfl, K8⟩
          have HA8 := Lib.hid (HA7.out.keep K8)
          have HD8 := Lib.hid (HD7.out.keep K8)
          have HE8 := Lib.hid (HE7.out.keep K8)
          have HK8 := Lib.hid (HK7.out.trans K8)
          clear p0 p1 p2 p3 p4 p5 p6 q0 q1 q2 q3 q4 q5 q6 pz qz
          clear K8 HA7 HP7 HQ7 HD7 HE7 HK7 HVp HVq hee
          obtain ⟨Ad0, cd0, Ad1, cd1, Ad2, cd2, Bd, Vd⟩ := (HD8.out).open
          have d0 := Bd.cell 0 _ rfl
          have d1 := Bd.cell 1 _ rfl
          have d2 := Bd.cell 2 _ rfl
          have d3 := Bd.cell 3 _ rfl
          have d4 := Bd.cell 4 _ rfl
          have d5 := Bd.cell 5 _ rfl
          have d6 := Bd.cell 6 _ rfl
          have dz := Bd.lt
          have HVd := Lib.hid Vd
          clear Bd Vd
          obtain ⟨Aa0, ca0, Aa1, ca1, Aa2, ca2, Ba, Va⟩ := (HA8.out).open
          have a0 := Ba.cell 0 _ rfl
          have a1 := Ba.cell 1 _ rfl
          have a2 := Ba.cell 2 _ rfl
          have a3 := Ba.cell 3 _ rfl
          have a4 := Ba.cell 4 _ rfl
          have a5 := Ba.cell 5 _ rfl
          have a6 := Ba.cell 6 _ rfl
          have az := Ba.lt
          have HVa := Lib.hid Va
          clear Ba Va
          go_wp2_with fail
          refine (same_any _ _ a a true (decide_eq_true rfl).symm _ HVd.out HVa.out).mono ?_
          rintro e w9 ⟨rfl, K9⟩
          have HA9 := Lib.hid (HA8.out.keep K9)
          have HE9 := Lib.hid (HE8.out.keep K9)
          have HK9 := Lib.hid (HK8.out.trans K9)
          clear d0 d1 d2 d3 d4 d5 d6 a0 a1 a2 a3 a4 a5 a6 dz az
          clear K9 HA8 HD8 HE8 HK8 HVd HVa
          obtain ⟨Ae0, ce0, Ae1, ce1, Ae2, ce2, Be, Ve⟩ := (HE9.out).open
          have e0 := Be.cell 0 _ rfl
          have e1 := Be.cell 1 _ rfl
          have e2 := Be.cell 2 _ rfl
          have e3 := Be.cell 3 _ rfl
          have e4 := Be.cell 4 _ rfl
          have e5 := Be.cell 5 _ rfl
          have e6 := Be.cell 6 _ rfl
          have ez := Be.lt
          have HVe := Lib.hid Ve
          clear Be Ve
          obtain ⟨Aa0, ca0, Aa1, ca1, Aa2, ca2, Ba, Va⟩ := (HA9.out).open
          have a0 := Ba.cell 0 _ rfl
          have a1 := Ba.cell 1 _ rfl
          have a2 := Ba.cell 2 _ rfl
          have a3 := Ba.cell 3 _ rfl
          have a4 := Ba.cell 4 _ rfl
          have a5 := Ba.cell 5 _ rfl
          have a6 := Ba.cell 6 _ rfl
          have az := Ba.lt
          have HVa := Lib.hid Va
          clear Ba Va
          go_wp2_with fail
          refine (same_any _ _ a a true (decide_eq_true rfl).symm _ HVe.out HVa.out).mono ?_
          rintro e w10 ⟨rfl, K10⟩
          have HK10 := Lib.hid (HK9.out.trans K10)
          clear e0 e1 e2 e3 e4 e5 e6 a0 a1 a2 a3 a4 a5 a6 ez az
          clear K10 HA9 HE9 HK9 HVe HVa
          go_wp2_with fail
          refine (awake_any _ (HM.out.keep HK10.out)).mono ?_
          rintro e w11 ⟨rfl, K11⟩
          have HK11 := Lib.hid (HK10.out.trans K11)
          clear K11
          go_wp2_with fail
          go_ret
          exact ⟨rfl, HK11.out⟩
    · by_cases h1 : e1 = 0
      · have h2 : ¬ e2 = 0 := fun h => he ⟨h1, h⟩
        have n1 : (e1 != 0) = false := by simp [h1]
        have n2 : (e2 != 0) = true := by simp [h2]
        clear he
        go_wp2_with fail
        refine (awake_any _ (HM.out.keep (HK2.out.trans Ky1.out))).mono ?_
        rintro e w3 ⟨rfl, K3⟩
        have HK3 := Lib.hid ((HK2.out.trans Ky1.out).trans K3)
        clear K3
        go_wp2_with fail
        go_ret
        exact ⟨rfl, HK3.out⟩
      · have n1 : (e1 != 0) = true := by simp [h1]
        clear he
        go_wp2_with fail
        refine (awake_any _ (HM.out.keep (HK2.out.trans Ky1.out))).mono ?_
        rintro e w3 ⟨rfl, K3⟩
        have HK3 := Lib.hid ((HK2.out.trans Ky1.out).trans K3)
        clear K3
        go_wp2_with fail
        go_ret
        exact ⟨rfl, HK3.out⟩
  · have hsum2 : 150 < (a.l0.length : Int) + a.l1.length + a.l2.length + b.l0.length + b.l1.length + b.l2.length + c.l0.length + c.l1.length + c.l2.length := by omega
    clear hsum
    go_enter Tryd.func3, Tryd.ntmps3
    go_wp2_with fail
    rw [HWb.out]
    refine (awake_any _ (HM.out.keep HK.out)).mono ?_
    rintro e w3 ⟨rfl, K3⟩
    have HK3 := Lib.hid (HK.out.trans K3)
    clear K3
    go_wp2_with fail
    go_ret
    exact ⟨rfl, HK3.out⟩
end Go.Proofs.YtomhlmfekmnajaaDoor
