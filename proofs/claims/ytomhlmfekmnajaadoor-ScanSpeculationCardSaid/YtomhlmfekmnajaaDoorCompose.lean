/- Compose of the automaton: the walk. -/
import Derived.Test.YtomhlmfekmnajaaDoorJoin
import Derived.Test.YtomhlmfekmnajaaDoorLast
import Derived.Test.YtomhlmfekmnajaaDoorApp
import Derived.Deep.RegionHeld3
import Derived.Deep.CutBlock
import Derived.Deep.DeepCutAuto
namespace Go.Proofs.YtomhlmfekmnajaaDoor
open Go.RowKit
set_option linter.unusedVariables false

def CompPost (s t : Su) (w : World) (e : Ending) (w' : World) : Prop := ∃ v, e = .returned (.tuple #[v, .int .i64 (compose s t).2]) ∧ SuV w' v (compose s t).1 ∧ Keep [] w w' ∧ FreshV w.heap.size v

def zeroV : Value := .agg #[.int .i64 0, .int .i64 0, .int .i64 0, .int .i64 0, .slice none 0 0, .slice none 0 0, .slice none 0 0]
theorem zeroV_fresh (b : Nat) : FreshV b zeroV := by
  intro cs h i u hu c hc
  simp only [zeroV, Value.agg.injEq] at h
  subst h
  match i with
  | 0 | 1 | 2 | 3 | 4 | 5 | 6 => simp at hu; subst hu; simp [Value.ownBlock] at hc
  | i + 7 => simp at hu
theorem zeroV_su (w : World) : SuV w zeroV Su.zero := ⟨_, _, _, rfl, Ints.nil w, Ints.nil w, Ints.nil w⟩

set_option maxHeartbeats 4000000 in
set_option maxRecDepth 100000 in
theorem compose_any (v1 v2 : Value) (s t : Su) (w : World) (hs : SuV w v1 s) (ht : SuV w v2 t) : Calls Tryd.prog 13 #[v1, v2] w (CompPost s t w) := by
  obtain ⟨s0, s1, s2, rfl, h0, h1, h2⟩ := hs
  obtain ⟨t0, t1, t2, rfl, g0, g1, g2⟩ := ht
  have VS := Lib.hid (show SuV w (.agg #[.int .i64 s.len, .int .i64 s.e0, .int .i64 s.e1, .int .i64 s.e2, s0, s1, s2]) s from ⟨_, _, _, rfl, h0, h1, h2⟩)
  have VT := Lib.hid (show SuV w (.agg #[.int .i64 t.len, .int .i64 t.e0, .int .i64 t.e1, .int .i64 t.e2, t0, t1, t2]) t from ⟨_, _, _, rfl, g0, g1, g2⟩)
  have HI := Lib.hid (SuBox.ints h0 h1 h2)
  have HJ := Lib.hid (SuBox.ints g0 g1 g2)
  clear h0 h1 h2 g0 g1 g2
  generalize hWb : ((w.alloc (.cells #[.int .i64 s.len, .int .i64 s.e0, .int .i64 s.e1, .int .i64 s.e2, s0, s1, s2] 26)).alloc (.cells #[.int .i64 t.len, .int .i64 t.e0, .int .i64 t.e1, .int .i64 t.e2, t0, t1, t2] 26)).alloc (.cells #[.int .i64 0, .int .i64 0, .int .i64 0, .int .i64 0, .slice none 0 0, .slice none 0 0, .slice none 0 0] 26) = Wb
  have KW : Keep [] w Wb := by rw [← hWb]; exact (((Keep.refl [] w).alloc _).alloc _).alloc _
  have B : SuBox Wb w.heap.size s s0 s1 s2 := by rw [← hWb]; exact ((Blk.new w #[.int .i64 s.len, .int .i64 s.e0, .int .i64 s.e1, .int .i64 s.e2, s0, s1, s2] 26).alloc _).alloc _
  have C : SuBox Wb (w.heap.size + 1) t t0 t1 t2 := by
    have := (Blk.new (w.alloc (.cells #[.int .i64 s.len, .int .i64 s.e0, .int .i64 s.e1, .int .i64 s.e2, s0, s1, s2] 26)) #[.int .i64 t.len, .int .i64 t.e0, .int .i64 t.e1, .int .i64 t.e2, t0, t1, t2] 26).alloc (.cells #[.int .i64 0, .int .i64 0, .int .i64 0, .int .i64 0, .slice none 0 0, .slice none 0 0, .slice none 0 0] 26)
    rw [World.size_alloc, hWb] at this
    exact this
  have D : Blk Wb (w.heap.size + 1 + 1) 26 [.int .i64 0, .int .i64 0, .int .i64 0, .int .i64 0, .slice none 0 0, .slice none 0 0, .slice none 0 0] := by
    have := Blk.new ((w.alloc (.cells #[.int .i64 s.len, .int .i64 s.e0, .int .i64 s.e1, .int .i64 s.e2, s0, s1, s2] 26)).alloc (.cells #[.int .i64 t.len, .int .i64 t.e0, .int .i64 t.e1, .int .i64 t.e2, t0, t1, t2] 26)) #[.int .i64 0, .int .i64 0, .int .i64 0, .int .i64 0, .slice none 0 0, .slice none 0 0, .slice none 0 0] 26
    rw [World.size_alloc, World.size_alloc, hWb] at this
    exact this
  have HB := Lib.hid B
  have HC := Lib.hid C
  have HD := Lib.hid D
  have HK := Lib.hid KW
  have b0 := B.cell 0 _ rfl
  have b1 := B.cell 1 _ rfl
  have b2 := B.cell 2 _ rfl
  have b3 := B.cell 3 _ rfl
  have b4 := B.cell 4 _ rfl
  have b5 := B.cell 5 _ rfl
  have b6 := B.cell 6 _ rfl
  have HWb := Lib.hid hWb
  clear B C D KW hWb
  cases hvs : s.valid
  · have hcp : compose s t = (Su.zero, 1) := by simp [compose, hvs]
    have HCP := Lib.hid hcp
    have HVS := Lib.hid hvs
    clear hcp hvs b0 b1 b2 b3 b4 b5 b6
    go_enter Tryd.func13, Tryd.ntmps13
    go_wp2_with fail
    rw [HWb.out]
    refine (valid_any _ s _ (VS.out.keep HK.out)).mono ?_
    rintro e w1 ⟨rfl, K1⟩
    rw [HVS.out]
    have D1 := K1.blk HD.out (by simp)
    have HD1 := Lib.hid D1
    have KK := Lib.hid (HK.out.trans K1)
    have d0 := D1.cell 0 _ rfl
    have d1 := D1.cell 1 _ rfl
    have d2 := D1.cell 2 _ rfl
    have d3 := D1.cell 3 _ rfl
    have d4 := D1.cell 4 _ rfl
    have d5 := D1.cell 5 _ rfl
    have d6 := D1.cell 6 _ rfl
    have f0 := D1.froz 0
    have f1 := D1.froz 1
    have f2 := D1.froz 2
    have f3 := D1.froz 3
    have f4 := D1.froz 4
    have f5 := D1.froz 5
    have f6 := D1.froz 6
    clear D1 K1
    go_wp2_with fail
    clear d0 d1 d2 d3 d4 d5 d6 f0 f1 f2 f3 f4 f5 f6
    obtain ⟨V, hV⟩ : ∃ V, V = (((((((w1.setCell ⟨(w.heap.size + 1 + 1), 0, none⟩ (.int .i64 0)).setCell ⟨(w.heap.size + 1 + 1), 1, none⟩ (.int .i64 0)).setCell ⟨(w.heap.size + 1 + 1), 2, none⟩ (.int .i64 0)).setCell ⟨(w.heap.size + 1 + 1), 3, none⟩ (.int .i64 0)).setCell ⟨(w.heap.size + 1 + 1), 4, none⟩ (.slice none 0 0)).setCell ⟨(w.heap.size + 1 + 1), 5, none⟩ (.slice none 0 0)).setCell ⟨(w.heap.size + 1 + 1), 6, none⟩ (.slice none 0 0)) := ⟨_, rfl⟩
    have DF : Blk V (w.heap.size + 1 + 1) 26 [(.int .i64 0), (.int .i64 0), (.int .i64 0), (.int .i64 0), (.slice none 0 0), (.slice none 0 0), (.slice none 0 0)] := by rw [hV]; exact (((((((HD1.out.set 0 _).set 1 _).set 2 _).set 3 _).set 4 _).set 5 _).set 6 _)
    have KF : Keep [] w V := by rw [hV]; exact (((((((KK.out.setCell (a := ⟨(w.heap.size + 1 + 1), 0, none⟩) (Or.inr (by simp only; omega)) _).setCell (a := ⟨(w.heap.size + 1 + 1), 1, none⟩) (Or.inr (by simp only; omega)) _).setCell (a := ⟨(w.heap.size + 1 + 1), 2, none⟩) (Or.inr (by simp only; omega)) _).setCell (a := ⟨(w.heap.size + 1 + 1), 3, none⟩) (Or.inr (by simp only; omega)) _).setCell (a := ⟨(w.heap.size + 1 + 1), 4, none⟩) (Or.inr (by simp only; omega)) _).setCell (a := ⟨(w.heap.size + 1 + 1), 5, none⟩) (Or.inr (by simp only; omega)) _).setCell (a := ⟨(w.heap.size + 1 + 1), 6, none⟩) (Or.inr (by simp only; omega)) _)
    rw [← hV]
    clear hV
    have x0 := DF.cell 0 _ rfl
    have x1 := DF.cell 1 _ rfl
    have x2 := DF.cell 2 _ rfl
    have x3 := DF.cell 3 _ rfl
    have x4 := DF.cell 4 _ rfl
    have x5 := DF.cell 5 _ rfl
    have x6 := DF.cell 6 _ rfl
    refine bodyPost_ret (v := .tuple #[zeroV, .int .i64 1]) (by simp [results, Tryd.results13, go_sem, zeroV, x0, x1, x2, x3, x4, x5, x6]) rfl ?_
    refine ⟨zeroV, by rw [HCP.out], by rw [HCP.out]; exact (zeroV_su V), KF, zeroV_fresh _⟩
  · have HVS := Lib.hid hvs
    have hval := s.valid_len hvs
    clear hvs
    cases hvt : t.valid
    · have hcp : compose s t = (Su.zero, 1) := by simp [compose, hvt]
      have HCP := Lib.hid hcp
      have HVT := Lib.hid hvt
      clear hcp hvt b0 b1 b2 b3 b4 b5 b6
      go_enter Tryd.func13, Tryd.ntmps13
      go_wp2_with fail
      rw [HWb.out]
      refine (valid_any _ s _ (VS.out.keep HK.out)).mono ?_
      rintro e w1 ⟨rfl, K1⟩
      rw [HVS.out]
      have C1 := K1.blk HC.out (by simp)
      have c0 := C1.cell 0 _ rfl
      have c1 := C1.cell 1 _ rfl
      have c2 := C1.cell 2 _ rfl
      have c3 := C1.cell 3 _ rfl
      have c4 := C1.cell 4 _ rfl
      have c5 := C1.cell 5 _ rfl
      have c6 := C1.cell 6 _ rfl
      go_wp2_with fail
      refine (valid_any _ t _ ((VT.out.keep HK.out).keep K1)).mono ?_
      rintro e w2 ⟨rfl, K2⟩
      rw [HVT.out]
      clear c0 c1 c2 c3 c4 c5 c6 C1
      have D1 := (K1.trans K2).blk HD.out (by simp)
      have HD1 := Lib.hid D1
      have KK := Lib.hid ((HK.out.trans K1).trans K2)
      have d0 := D1.cell 0 _ rfl
      have d1 := D1.cell 1 _ rfl
      have d2 := D1.cell 2 _ rfl
      have d3 := D1.cell 3 _ rfl
      have d4 := D1.cell 4 _ rfl
      have d5 := D1.cell 5 _ rfl
      have d6 := D1.cell 6 _ rfl
      have f0 := D1.froz 0
      have f1 := D1.froz 1
      have f2 := D1.froz 2
      have f3 := D1.froz 3
      have f4 := D1.froz 4
      have f5 := D1.froz 5
      have f6 := D1.froz 6
      clear D1 K1 K2
      go_wp2_with fail
      clear d0 d1 d2 d3 d4 d5 d6 f0 f1 f2 f3 f4 f5 f6
      obtain ⟨V, hV⟩ : ∃ V, V = (((((((w2.setCell ⟨(w.heap.size + 1 + 1), 0, none⟩ (.int .i64 0)).setCell ⟨(w.heap.size + 1 + 1), 1, none⟩ (.int .i64 0)).setCell ⟨(w.heap.size + 1 + 1), 2, none⟩ (.int .i64 0)).setCell ⟨(w.heap.size + 1 + 1), 3, none⟩ (.int .i64 0)).setCell ⟨(w.heap.size + 1 + 1), 4, none⟩ (.slice none 0 0)).setCell ⟨(w.heap.size + 1 + 1), 5, none⟩ (.slice none 0 0)).setCell ⟨(w.heap.size + 1 + 1), 6, none⟩ (.slice none 0 0)) := ⟨_, rfl⟩
      have DF : Blk V (w.heap.size + 1 + 1) 26 [(.int .i64 0), (.int .i64 0), (.int .i64 0), (.int .i64 0), (.slice none 0 0), (.slice none 0 0), (.slice none 0 0)] := by rw [hV]; exact (((((((HD1.out.set 0 _).set 1 _).set 2 _).set 3 _).set 4 _).set 5 _).set 6 _)
      have KF : Keep [] w V := by rw [hV]; exact (((((((KK.out.setCell (a := ⟨(w.heap.size + 1 + 1), 0, none⟩) (Or.inr (by simp only; omega)) _).setCell (a := ⟨(w.heap.size + 1 + 1), 1, none⟩) (Or.inr (by simp only; omega)) _).setCell (a := ⟨(w.heap.size + 1 + 1), 2, none⟩) (Or.inr (by simp only; omega)) _).setCell (a := ⟨(w.heap.size + 1 + 1), 3, none⟩) (Or.inr (by simp only; omega)) _).setCell (a := ⟨(w.heap.size + 1 + 1), 4, none⟩) (Or.inr (by simp only; omega)) _).setCell (a := ⟨(w.heap.size + 1 + 1), 5, none⟩) (Or.inr (by simp only; omega)) _).setCell (a := ⟨(w.heap.size + 1 + 1), 6, none⟩) (Or.inr (by simp only; omega)) _)
      rw [← hV]
      clear hV
      have x0 := DF.cell 0 _ rfl
      have x1 := DF.cell 1 _ rfl
      have x2 := DF.cell 2 _ rfl
      have x3 := DF.cell 3 _ rfl
      have x4 := DF.cell 4 _ rfl
      have x5 := DF.cell 5 _ rfl
      have x6 := DF.cell 6 _ rfl
      refine bodyPost_ret (v := .tuple #[zeroV, .int .i64 1]) (by simp [results, Tryd.results13, go_sem, zeroV, x0, x1, x2, x3, x4, x5, x6]) rfl ?_
      refine ⟨zeroV, by rw [HCP.out], by rw [HCP.out]; exact (zeroV_su V), KF, zeroV_fresh _⟩
    · have HVT := Lib.hid hvt
      have hvalt := t.valid_len hvt
      clear hvt
      go_enter Tryd.func13, Tryd.ntmps13
      go_wp2_with fail
      rw [HWb.out]
      refine (valid_any _ s _ (VS.out.keep HK.out)).mono ?_
      rintro e w1 ⟨rfl, K1⟩
      rw [HVS.out]
      have C1 := K1.blk HC.out (by simp)
      have c0 := C1.cell 0 _ rfl
      have c1 := C1.cell 1 _ rfl
      have c2 := C1.cell 2 _ rfl
      have c3 := C1.cell 3 _ rfl
      have c4 := C1.cell 4 _ rfl
      have c5 := C1.cell 5 _ rfl
      have c6 := C1.cell 6 _ rfl
      go_wp2_with fail
      refine (valid_any _ t _ ((VT.out.keep HK.out).keep K1)).mono ?_
      rintro e w2 ⟨rfl, K2⟩
      rw [HVT.out]
      clear c0 c1 c2 c3 c4 c5 c6 C1 b0 b1 b2 b3 b4 b5 b6
      have D1 := (K1.trans K2).blk HD.out (by simp)
      have HD1 := Lib.hid D1
      have B1 : SuBox w2 w.heap.size s s0 s1 s2 := (K1.trans K2).blk HB.out (by simp)
      have C1 : SuBox w2 (w.heap.size + 1) t t0 t1 t2 := (K1.trans K2).blk HC.out (by simp)
      have KK := Lib.hid ((HK.out.trans K1).trans K2)
      have HB1 := Lib.hid B1
      have HC1 := Lib.hid C1
      have bl := B1.cell 0 _ rfl
      have be0 := B1.cell 1 _ rfl
      have be1 := B1.cell 2 _ rfl
      have be2 := B1.cell 3 _ rfl
      have cl := C1.cell 0 _ rfl
      clear B1 C1 K1 K2
      by_cases hsum : s.len + t.len ≤ 1048576
      · have hcp : compose s t = (s.join t, 0) := by simp [compose, HVS.out, HVT.out, hsum]
        have HCP := Lib.hid hcp
        have hsz := D1.lt
        have hsz0 : w.heap.size < w2.heap.size := by omega
        have hsz1 : w.heap.size + 1 < w2.heap.size := by omega
        clear hcp D1
        have hsum2 : decide (1048576 < s.len + t.len) = false := decide_eq_false (by omega)
        go_wp2_with fail
        clear hsum2 bl cl be0 be1 be2
        have HO := Lib.hid (Blk.new w2 #[.int .i64 (s.len + t.len), .int .i64 0, .int .i64 0, .int .i64 0, .slice none 0 0, .slice none 0 0, .slice none 0 0] 26)
        have KO := Lib.hid ((Keep.refl [] w2).alloc (.cells #[.int .i64 (s.len + t.len), .int .i64 0, .int .i64 0, .int .i64 0, .slice none 0 0, .slice none 0 0, .slice none 0 0] 26))
        obtain ⟨i3, hi3, hz0, hz1, hz2⟩ := info_parts Tryd.info3
        go_loopw [37] (fun i wr => ∃ (k : Nat) (L : Nat → Value), k ≤ 3 ∧ i = .int .i64 k ∧ Keep [] w2 wr ∧ Blk wr w2.heap.size 26 (oc s t k L) ∧ ∀ j, j < k → ∃ n, Row wr (L j) 3 1 n ((s.jl t j).map (Value.int .i64)) ∧ ∀ b, (L j).ownBlock = some b → w.heap.size ≤ b) (fun i _ => 3 - (intOf i).toNat)
        case atStart => exact ⟨0, fun _ => .slice none 0 0, by omega, rfl, KO.out, HO.out, fun j hj => by omega⟩
        case round =>
          obtain ⟨k, L, hk, rfl, hK, hO, hR⟩ := hrel
          obtain ⟨wk, rfl⟩ : ∃ wk, wk = wr := ⟨_, rfl⟩
          clear HO KO
          by_cases hk3 : k < 3
          · obtain ⟨x, hx⟩ : ∃ x : Nat, s.e k = (x : Int) := ⟨(s.e k).toNat, by have := s.valid_e HVS.out k hk3; omega⟩
            have hx3 : x < 3 := by have := s.valid_e HVS.out k hk3; omega
            have hje : s.je t k = t.e x := by simp [Su.je, hx]
            have hjl : s.jl t k = s.l k ++ (t.l x).map (s.len + ·) := by simp [Su.jl, hx]
            have hidx := fun W => (idx22 s k hk3 W)
            rw [hx] at hidx
            have B2 : SuBox wk w.heap.size s s0 s1 s2 := hK.blk HB1.out (by simp)
            have C2 : SuBox wk (w.heap.size + 1) t t0 t1 t2 := hK.blk HC1.out (by simp)
            have KK2 := KK.out.trans hK
            have hIa := (HI.out k hk3).keep KK.out
            have hJa := (HJ.out x hx3).keep KK.out
            have hla := s.valid_length HVS.out k hk3
            have hlb := t.valid_length HVT.out x hx3
            have hmem := t.valid_mem HVT.out x hx3
            obtain ⟨sk, hsk⟩ : ∃ sk, sk = slOf s0 s1 s2 k := ⟨_, rfl⟩
            obtain ⟨tk, htk⟩ : ∃ tk, tk = slOf t0 t1 t2 x := ⟨_, rfl⟩
            obtain ⟨xa, hxa⟩ : ∃ xa, xa = s.l k := ⟨_, rfl⟩
            obtain ⟨xb, hxb⟩ : ∃ xb, xb = t.l x := ⟨_, rfl⟩
            have ce := C2.exit x hx3
            have cl := C2.lines x hx3
            have bl := B2.lines k hk3
            rw [← hsk] at hIa bl
            rw [← htk] at hJa cl
            rw [← hxa] at hIa hla hjl
            rw [← hxb] at hJa hlb hmem hjl
            rw [← hje] at ce
            obtain ⟨je, hje'⟩ : ∃ je, je = s.je t k := ⟨_, rfl⟩
            rw [← hje'] at ce
            have HB2 := Lib.hid B2
            have HC2 := Lib.hid C2
            have HKK2 := Lib.hid KK2
            have HIa := Lib.hid hIa
            have HJa := Lib.hid hJa
            have HTK := Lib.hid htk.symm
            have HMEM := Lib.hid hmem
            have HJL := Lib.hid hjl
            have HJE := Lib.hid hje'
            have HO := Lib.hid hO
            have HR := Lib.hid hR
            have HK2 := Lib.hid hK
            have oe := hO.cell _ _ (oc_e s t k L hk3)
            have oef := hO.froz (1 + k)
            have osz := hO.lt
            have hszw : w.heap.size ≤ wk.heap.size := by omega
            have hk3' : (k : Int) < 3 := by omega
            have hx3' : (x : Int) < 3 := by omega
            clear hx hje hjl hK hO hR B2 C2 KK2 hIa hJa hsk htk hxa hxb hje' hmem
            have hnb : ¬ w2.heap.size = w.heap.size := by omega
            have hnc : ¬ w2.heap.size = w.heap.size + 1 := by omega
            have hown := World.ownsRow_nil (wk.setCell ⟨w2.heap.size, 1 + k, none⟩ (.int .i64 je)) wk.heap.size 3 1
            have hints : Ints (wk.setCell ⟨w2.heap.size, 1 + k, none⟩ (.int .i64 je)) sk xa := Ints.keep HIa.out (HK2.out.setCell (a := ⟨w2.heap.size, 1 + k, none⟩) (Or.inr (Nat.le_refl _)) _)
            go_upto_region 11 with (at_builtin; refine wpList_append_ints rfl (.const (.slice none 0 0)) (.tmp 52) 23 rfl wk.heap.size 3 i3 (.int .i64 0) 8 Tryd.underlying23 hi3 hz0 hz1 hz2 rfl (.slice none 0 0) 0 [] rfl hown sk xa rfl hints (by unfold maxLen; omega) (by omega) (by simp) ?_; intro v1 w3 hown3 hgrow; have K3 : Keep [w2.heap.size] wk w3 := ((Keep.refl [w2.heap.size] wk).setCell (a := ⟨w2.heap.size, 1 + k, none⟩) (Or.inl (by simp)) _).grown hgrow (by intro b hb; simp [Value.ownBlock] at hb); have O3 : Blk w3 w2.heap.size 26 ((oc s t k L).set (1 + k) (.int .i64 je)) := (Keep.of_grown hgrow).blk (HO.out.set _ _) (by simp [Value.ownBlock]); have ol := O3.cell _ _ (oc_l s t k L _ hk3); have olf := O3.froz (4 + k); simp only [Nat.zero_add, List.nil_append] at hown3; obtain ⟨A3, c3, rfl, _, _⟩ := Row.slice (Row.of_own hown3); have HG := Lib.hid hgrow; clear hown hints hgrow)
            obtain ⟨Y, hY⟩ : ∃ Y, Y = w3.setCell ⟨w2.heap.size, 4 + k, none⟩ (.slice A3 xa.length c3) := ⟨_, rfl⟩
            have KY : Keep [w2.heap.size] wk Y := by rw [hY]; exact K3.setCell (a := ⟨w2.heap.size, 4 + k, none⟩) (Or.inl (by simp)) _
            have OY : Blk Y w2.heap.size 26 (((oc s t k L).set (1 + k) (.int .i64 je)).set (4 + k) (.slice A3 xa.length c3)) := by rw [hY]; exact O3.set _ _
            have ownY : Y.ownsRow wk.heap.size 3 1 (.slice A3 xa.length c3) xa.length (xa.map (Value.int .i64)) := by rw [hY]; exact ownsRow_other hown3 _ _ osz
            rw [← hY]
            have KY2 : Keep [] w2 Y := HK2.out.fresh KY (by simp)
            have cl := KY2.cell (HC1.out.lines x hx3) (by simp)
            rw [HTK.out] at cl
            obtain ⟨A2, c2, rfl, hn2, hc2, _, hcell2⟩ := HJa.out
            have HCELL := Lib.hid hcell2
            have HKY := Lib.hid KY
            have HOY := Lib.hid OY
            have HOwnY := Lib.hid ownY
            clear hY KY OY ownY KY2 hcell2 K3 O3 ol olf hown3 bl ce oe oef HG hidx
            go_wp2_with fail
            clear cl
            go_loopw [61] (fun i wj => ∃ (j : Nat) (v : Value), j ≤ xb.length ∧ i = .int .i64 j ∧ Keep [w2.heap.size] wk wj ∧ Blk wj w2.heap.size 26 (((oc s t k L).set (1 + k) (.int .i64 je)).set (4 + k) v) ∧ wj.ownsRow wk.heap.size 3 1 v (xa.length + j) ((xa ++ (xb.take j).map (s.len + ·)).map (Value.int .i64))) (fun i _ => xb.length - (intOf i).toNat)
            case atStart => exact ⟨0, _, by omega, rfl, HKY.out, HOY.out, by simpa using HOwnY.out⟩
            case round =>
              obtain ⟨j, v, hj, rfl, hKj, hOj, hOwn⟩ := hrel
              obtain ⟨wj, rfl⟩ : ∃ wj, wj = wr := ⟨_, rfl⟩
              clear HKY HOY HOwnY
              have HKj := Lib.hid hKj
              have HOj := Lib.hid hOj
              have HOwn := Lib.hid hOwn
              have KJ2 : Keep [] w2 wj := HK2.out.fresh hKj (by simp)
              clear hKj hOj hOwn
              by_cases hjn : j < xb.length
              · obtain ⟨g2, off2, rfl, hcj⟩ := HCELL.out j xb[j] (by simp [hjn])
                have hcj := KJ2.cell hcj (by simp)
                have hy := HMEM.out xb[j] (List.getElem_mem hjn)
                have hlist := list_step xa xb s.len j hjn
                obtain ⟨y, hyy⟩ : ∃ y, y = xb[j] := ⟨_, rfl⟩
                rw [← hyy] at hcj hy hlist
                have HLIST := Lib.hid hlist
                have oj := HOj.out.cell _ _ (oc_v s t k L _ _ hk3)
                have nl := (KJ2.cell (HB1.out.cell 0 _ rfl) (by simp))
                obtain ⟨Av, cv, rfl, _, _⟩ := Row.slice (Row.of_own HOwn.out)
                clear hyy hlist KJ2
                have wy := IntWalk.i64_in (s.len + y) (by omega)
                go_wp2_with fail
                refine wp_region_last (N := 13) (l := [{ dst := some 65, op := Go.Op.move (Go.Operand.tmp 7), type := 3, pos := "automaton.go:100", after := #[], guard := none }, { dst := some 66, op := Go.Op.move (Go.Operand.tmp 7), type := 3, pos := "automaton.go:100", after := #[], guard := none }, { dst := some 67, op := Go.Op.fieldAddr 26 (Go.Operand.tmp 6) 2, type := 0, pos := "automaton.go:100", after := #[], guard := none }, { dst := some 68, op := Go.Op.indexAddr 24 (Go.Operand.tmp 67) (Go.Operand.tmp 66), type := 0, pos := "automaton.go:100", after := #[{ on := 2, ground := Go.Ground.data }, { on := 1, ground := Go.Ground.data }], guard := none }, { dst := some 69, op := Go.Op.load 23 (Go.Operand.tmp 68), type := 23, pos := "automaton.go:100", after := #[{ on := 3, ground := Go.Ground.data }], guard := none }, { dst := some 70, op := Go.Op.fieldAddr 26 (Go.Operand.tmp 2) 0, type := 0, pos := "automaton.go:100", after := #[], guard := none }, { dst := some 71, op := Go.Op.load 3 (Go.Operand.tmp 70), type := 3, pos := "automaton.go:100", after := #[{ on := 5, ground := Go.Ground.data }], guard := none }, { dst := some 72, op := Go.Op.move (Go.Operand.tmp 10), type := 3, pos := "automaton.go:100", after := #[], guard := none }, { dst := some 73, op := Go.Op.binOp Go.BinOp.add 3 (Go.Operand.tmp 71) (Go.Operand.tmp 72) 3, type := 3, pos := "automaton.go:100", after := #[{ on := 6, ground := Go.Ground.data }, { on := 7, ground := Go.Ground.data }], guard := none }, { dst := some 74, op := Go.Op.buildSlice 23 1 #[(0, Go.Operand.tmp 73)], type := 23, pos := "automaton.go:100", after := #[{ on := 8, ground := Go.Ground.data }], guard := none }, { dst := some 75, op := Go.Op.call { callee := Go.Callee.builtin Go.Builtin.append, args := #[Go.Operand.tmp 69, Go.Operand.tmp 74], argTypes := #[23, 23] }, type := 23, pos := "automaton.go:100", after := #[{ on := 4, ground := Go.Ground.data }, { on := 9, ground := Go.Ground.data }], guard := none }, { dst := some 76, op := Go.Op.fieldAddr 26 (Go.Operand.tmp 6) 2, type := 0, pos := "automaton.go:100", after := #[], guard := none }, { dst := some 77, op := Go.Op.indexAddr 24 (Go.Operand.tmp 76) (Go.Operand.tmp 65), type := 0, pos := "automaton.go:100", after := #[{ on := 11, ground := Go.Ground.data }, { on := 0, ground := Go.Ground.data }, { on := 0, ground := Go.Ground.phase }, { on := 1, ground := Go.Ground.phase }, { on := 2, ground := Go.Ground.phase }, { on := 3, ground := Go.Ground.phase }, { on := 4, ground := Go.Ground.phase }, { on := 5, ground := Go.Ground.phase }, { on := 6, ground := Go.Ground.phase }, { on := 7, ground := Go.Ground.phase }, { on := 8, ground := Go.Ground.phase }, { on := 9, ground := Go.Ground.phase }, { on := 10, ground := Go.Ground.phase }], guard := none }]) (o := { dst := none, op := Go.Op.store 23 (Go.Operand.tmp 77) (Go.Operand.tmp 75), type := 0, pos := "automaton.go:100", after := #[{ on := 12, ground := Go.Ground.data }, { on := 10, ground := Go.Ground.data }, { on := 10, ground := Go.Ground.chain }, { on := 0, ground := Go.Ground.phase }, { on := 1, ground := Go.Ground.phase }, { on := 2, ground := Go.Ground.phase }, { on := 3, ground := Go.Ground.phase }, { on := 4, ground := Go.Ground.phase }, { on := 5, ground := Go.Ground.phase }, { on := 6, ground := Go.Ground.phase }, { on := 7, ground := Go.Ground.phase }, { on := 8, ground := Go.Ground.phase }, { on := 9, ground := Go.Ground.phase }, { on := 10, ground := Go.Ground.phase }], guard := none }) (by kernel_rfl) (by kernel_rfl) rfl ?_
                have hHeld : (fun v : World => v.cell? ⟨w2.heap.size, 4 + k, none⟩ = some (.slice Av (xa.length + j) cv) ∧ v.cell? ⟨w.heap.size, 0, none⟩ = some (.int .i64 s.len)) wj.drew := ⟨oj, nl⟩
                refine wpAny_of_held (S := fun v : World => v.cell? ⟨w2.heap.size, 4 + k, none⟩ = some (.slice Av (xa.length + j) cv) ∧ v.cell? ⟨w.heap.size, 0, none⟩ = some (.int .i64 s.len)) _ _ _ _ ?_
                refine wpAnyH_take (i := 0) (oi := { dst := some 65, op := Go.Op.move (Go.Operand.tmp 7), type := 3, pos := "automaton.go:100", after := #[], guard := none }) (v := ?v14001) rfl (by kernel_rfl) (by kernel_rfl) (by kernel_rfl) (fun _ _ _ h => h) (Or.inl ⟨by rfl, ?y14001⟩) hHeld ?r14001
                case y14001 => (intro w' hSw; (try dsimp only at hSw); go_simp; (try with_reducible rfl))
                try simp only [Act.put, List.setIfInBounds_toArray, List.set_cons_zero, List.set_cons_succ]
                refine wpAnyH_take (i := 1) (oi := { dst := some 66, op := Go.Op.move (Go.Operand.tmp 7), type := 3, pos := "automaton.go:100", after := #[], guard := none }) (v := ?v14002) rfl (by kernel_rfl) (by kernel_rfl) (by kernel_rfl) (fun _ _ _ h => h) (Or.inl ⟨by rfl, ?y14002⟩) hHeld ?r14002
                case y14002 => (intro w' hSw; (try dsimp only at hSw); go_simp; (try with_reducible rfl))
                try simp only [Act.put, List.setIfInBounds_toArray, List.set_cons_zero, List.set_cons_succ]
                refine wpAnyH_take (i := 2) (oi := { dst := some 67, op := Go.Op.fieldAddr 26 (Go.Operand.tmp 6) 2, type := 0, pos := "automaton.go:100", after := #[], guard := none }) (v := ?v14003) rfl (by kernel_rfl) (by kernel_rfl) (by kernel_rfl) (fun _ _ _ h => h) (Or.inl ⟨by rfl, ?y14003⟩) hHeld ?r14003
                case y14003 => (intro w' hSw; (try dsimp only at hSw); go_simp; (try with_reducible rfl))
                try simp only [Act.put, List.setIfInBounds_toArray, List.set_cons_zero, List.set_cons_succ]
                refine wpAnyH_take (i := 3) (oi := { dst := some 68, op := Go.Op.indexAddr 24 (Go.Operand.tmp 67) (Go.Operand.tmp 66), type := 0, pos := "automaton.go:100", after := #[{ on := 2, ground := Go.Ground.data }, { on := 1, ground := Go.Ground.data }], guard := none }) (v := ?v14004) rfl (by kernel_rfl) (by kernel_rfl) (by kernel_rfl) (fun _ _ _ h => h) (Or.inl ⟨by rfl, ?y14004⟩) hHeld ?r14004
                case y14004 => (intro w' hSw; (try dsimp only at hSw); go_simp; (try with_reducible rfl))
                try simp only [Act.put, List.setIfInBounds_toArray, List.set_cons_zero, List.set_cons_succ]
                refine wpAnyH_take (i := 4) (oi := { dst := some 69, op := Go.Op.load 23 (Go.Operand.tmp 68), type := 23, pos := "automaton.go:100", after := #[{ on := 3, ground := Go.Ground.data }], guard := none }) (v := ?v14005) rfl (by kernel_rfl) (by kernel_rfl) (by kernel_rfl) (fun _ _ _ h => h) (Or.inl ⟨by rfl, ?y14005⟩) hHeld ?r14005
                case y14005 => (intro w' hSw; (try dsimp only at hSw); go_simp; (try with_reducible rfl))
                try simp only [Act.put, List.setIfInBounds_toArray, List.set_cons_zero, List.set_cons_succ]
                refine wpAnyH_take (i := 5) (oi := { dst := some 70, op := Go.Op.fieldAddr 26 (Go.Operand.tmp 2) 0, type := 0, pos := "automaton.go:100", after := #[], guard := none }) (v := ?v14006) rfl (by kernel_rfl) (by kernel_rfl) (by kernel_rfl) (fun _ _ _ h => h) (Or.inl ⟨by rfl, ?y14006⟩) hHeld ?r14006
                case y14006 => (intro w' hSw; (try dsimp only at hSw); go_simp; (try with_reducible rfl))
                try simp only [Act.put, List.setIfInBounds_toArray, List.set_cons_zero, List.set_cons_succ]
                refine wpAnyH_take (i := 6) (oi := { dst := some 71, op := Go.Op.load 3 (Go.Operand.tmp 70), type := 3, pos := "automaton.go:100", after := #[{ on := 5, ground := Go.Ground.data }], guard := none }) (v := ?v14007) rfl (by kernel_rfl) (by kernel_rfl) (by kernel_rfl) (fun _ _ _ h => h) (Or.inl ⟨by rfl, ?y14007⟩) hHeld ?r14007
                case y14007 => (intro w' hSw; (try dsimp only at hSw); go_simp; (try with_reducible rfl))
                try simp only [Act.put, List.setIfInBounds_toArray, List.set_cons_zero, List.set_cons_succ]
                refine wpAnyH_take (i := 7) (oi := { dst := some 72, op := Go.Op.move (Go.Operand.tmp 10), type := 3, pos := "automaton.go:100", after := #[], guard := none }) (v := ?v14008) rfl (by kernel_rfl) (by kernel_rfl) (by kernel_rfl) (fun _ _ _ h => h) (Or.inl ⟨by rfl, ?y14008⟩) hHeld ?r14008
                case y14008 => (intro w' hSw; (try dsimp only at hSw); go_simp; (try with_reducible rfl))
                try simp only [Act.put, List.setIfInBounds_toArray, List.set_cons_zero, List.set_cons_succ]
                refine wpAnyH_take (i := 8) (oi := { dst := some 73, op := Go.Op.binOp Go.BinOp.add 3 (Go.Operand.tmp 71) (Go.Operand.tmp 72) 3, type := 3, pos := "automaton.go:100", after := #[{ on := 6, ground := Go.Ground.data }, { on := 7, ground := Go.Ground.data }], guard := none }) (v := ?v14009) rfl (by kernel_rfl) (by kernel_rfl) (by kernel_rfl) (fun _ _ _ h => h) (Or.inl ⟨by rfl, ?y14009⟩) hHeld ?r14009
                case y14009 => (intro w' hSw; (try dsimp only at hSw); go_simp; (try with_reducible rfl))
                try simp only [Act.put, List.setIfInBounds_toArray, List.set_cons_zero, List.set_cons_succ]
                refine wpAnyH_take (i := 11) (oi := { dst := some 76, op := Go.Op.fieldAddr 26 (Go.Operand.tmp 6) 2, type := 0, pos := "automaton.go:100", after := #[], guard := none }) (v := ?v14010) rfl (by kernel_rfl) (by kernel_rfl) (by kernel_rfl) (fun _ _ _ h => h) (Or.inl ⟨by rfl, ?y14010⟩) hHeld ?r14010
                case y14010 => (intro w' hSw; (try dsimp only at hSw); go_simp; (try with_reducible rfl))
                try simp only [Act.put, List.setIfInBounds_toArray, List.set_cons_zero, List.set_cons_succ]
                refine wpAnyH_ready (rs := [9]) (by kernel_rfl) (by simp) ?_
                refine AllReadyH.cons (o := { dst := some 74, op := Go.Op.buildSlice 23 1 #[(0, Go.Operand.tmp 73)], type := 23, pos := "automaton.go:100", after := #[{ on := 8, ground := Go.Ground.data }], guard := none }) rfl (fun K hK => ?_) ?_
                · go_simp
                  have KA : Keep [w2.heap.size] wk ((wj.alloc (.cells #[.int .i64 (s.len + y)] 3)).drew) := (HKj.out.alloc _).drew
                  have rowA : Row ((wj.alloc (.cells #[.int .i64 (s.len + y)] 3)).drew) (.slice (some ⟨wj.heap.size, 0, none⟩) 1 1) 3 1 1 [.int .i64 (s.len + y)] := Row.of_own (World.ownsRow_lit (base := 0) (e := 3) (size := 1) wj #[.int .i64 (s.len + y)] 1 (Nat.zero_le _) (by decide) rfl)
                  have ownA : ((wj.alloc (.cells #[.int .i64 (s.len + y)] 3)).drew).ownsRow wk.heap.size 3 1 (.slice Av (xa.length + j) cv) (xa.length + j) ((xa ++ (xb.take j).map (s.len + ·)).map (Value.int .i64)) := World.ownsRow.alloc (w := wj) HOwn.out _
                  have sA : (((wj.alloc (.cells #[.int .i64 (s.len + y)] 3)).drew)).cell? ⟨w2.heap.size, 4 + k, none⟩ = some (.slice Av (xa.length + j) cv) ∧ (((wj.alloc (.cells #[.int .i64 (s.len + y)] 3)).drew)).cell? ⟨w.heap.size, 0, none⟩ = some (.int .i64 s.len) := ⟨(((Keep.refl [] wj).alloc _).drew).cell oj (by simp), (((Keep.refl [] wj).alloc _).drew).cell nl (by simp)⟩
                  refine hK.out _ _ ?_ (fun hHeld => ?_)
                  · exact sA
                  clear hK K
                  try simp only [Act.put, List.setIfInBounds_toArray, List.set_cons_zero, List.set_cons_succ]
                  refine wpAnyH_ready (rs := [10]) (by kernel_rfl) (by simp) ?_
                  refine AllReadyH.cons (o := { dst := some 75, op := Go.Op.call { callee := Go.Callee.builtin Go.Builtin.append, args := #[Go.Operand.tmp 69, Go.Operand.tmp 74], argTypes := #[23, 23] }, type := 23, pos := "automaton.go:100", after := #[{ on := 4, ground := Go.Ground.data }, { on := 9, ground := Go.Ground.data }], guard := none }) rfl (fun K hK => ?_) ?_
                  · refine step_append_row rfl (.tmp 69) (.tmp 74) 23 rfl wk.heap.size 3 i3 (.int .i64 0) 1 8 Tryd.underlying23 hi3 hz0 hz1 hz2 rfl (by decide) (.slice Av (xa.length + j) cv) (xa.length + j) ((xa ++ (xb.take j).map (s.len + ·)).map (Value.int .i64)) rfl ownA (.slice (some ⟨wj.heap.size, 0, none⟩) 1 1) 1 [.int .i64 (s.len + y)] rfl rowA (by simp [Value.oneCell']) (by unfold maxLen; omega) (by omega) KA.size ?_
                    intro v4 w4 own4 hg4
                    have s4 := And.intro ((Keep.of_grown hg4).cell sA.1 (not_own ownA _ osz)) ((Keep.of_grown hg4).cell (a := ⟨w.heap.size, 0, none⟩) sA.2 (not_own ownA _ (Nat.lt_trans hsz0 osz)))
                    have K4 : Keep [w2.heap.size] wk w4 := KA.grown hg4 (fun b hb => Or.inr (World.ownsRow.lt ownA b hb).1)
                    have O4 := (Keep.of_grown hg4).blk ((HOj.out.alloc (.cells #[.int .i64 (s.len + y)] 3)).drew) (not_own ownA _ osz)
                    refine hK.out _ _ ?_ (fun hHeld => ?_)
                    · exact s4
                    clear hK K
                    try simp only [Act.put, List.setIfInBounds_toArray, List.set_cons_zero, List.set_cons_succ]
                    refine wpAnyH_take (i := 12) (oi := { dst := some 77, op := Go.Op.indexAddr 24 (Go.Operand.tmp 76) (Go.Operand.tmp 65), type := 0, pos := "automaton.go:100", after := #[{ on := 11, ground := Go.Ground.data }, { on := 0, ground := Go.Ground.data }, { on := 0, ground := Go.Ground.phase }, { on := 1, ground := Go.Ground.phase }, { on := 2, ground := Go.Ground.phase }, { on := 3, ground := Go.Ground.phase }, { on := 4, ground := Go.Ground.phase }, { on := 5, ground := Go.Ground.phase }, { on := 6, ground := Go.Ground.phase }, { on := 7, ground := Go.Ground.phase }, { on := 8, ground := Go.Ground.phase }, { on := 9, ground := Go.Ground.phase }, { on := 10, ground := Go.Ground.phase }], guard := none }) (v := ?v14013) rfl (by kernel_rfl) (by kernel_rfl) (by kernel_rfl) (fun _ _ _ h => h) (Or.inl ⟨by rfl, ?y14013⟩) hHeld ?r14013
                    case y14013 => (intro w' hSw; (try dsimp only at hSw); go_simp; (try with_reducible rfl))
                    try simp only [Act.put, List.setIfInBounds_toArray, List.set_cons_zero, List.set_cons_succ]
                    refine wpAnyH_done (by kernel_rfl) ?_ _
                    have o4 := O4.cell _ _ (oc_v s t k L _ _ hk3)
                    have o4f := O4.froz (4 + k)
                    have HK4 := Lib.hid K4
                    have HO4 := Lib.hid O4
                    obtain ⟨A4, c4, rfl, _, _⟩ := Row.slice (Row.of_own own4)
                    have HOwn4 := Lib.hid own4
                    clear hHeld s4 sA own4 ownA rowA KA K4 O4 hg4
                    show wpList _ _ _ _ _ _
                    go_wp2_with fail
                    go_roundw
                    case rel => exact ⟨j + 1, _, by omega, by go_num, HK4.out.setCell (a := ⟨w2.heap.size, 4 + k, none⟩) (Or.inl (by simp)) _, by rw [← oc_set]; exact HO4.out.set _ _, by rw [HLIST.out]; exact ownsRow_other HOwn4.out ⟨w2.heap.size, 4 + k, none⟩ _ osz⟩
                    case measure => simp [intOf]; omega
                  exact AllReadyH.nil
                exact AllReadyH.nil
              · have hjl : j = xb.length := by omega
                subst hjl
                have HKJ2 := Lib.hid KJ2
                clear KJ2
                go_wp2_with fail
                go_roundw
                case rel =>
                  refine ⟨k + 1, upd L k v, by omega, by go_num, HKJ2.out, ?_, fun j hj => ?_⟩
                  · rw [← oc_step s t k L v hk3, ← HJE.out]; exact HOj.out
                  · by_cases h : j = k
                    · subst h
                      refine ⟨xa.length + xb.length, ?_, fun b hb => Nat.le_trans hszw (World.ownsRow.lt HOwn.out b (by simpa [upd] using hb)).1⟩
                      rw [HJL.out]
                      have := Row.of_own HOwn.out
                      rw [List.take_length] at this
                      simpa [upd] using this
                    · obtain ⟨n, hn, hfr⟩ := HR.out j (by omega)
                      refine ⟨n, ?_, by simpa [upd, h] using hfr⟩
                      have := Row.keep hn HKj.out (by
                        intro b hb cs hc
                        simp only [List.mem_singleton] at hb
                        subst hb
                        exact HO.out.neR hc (by decide) rfl)
                      simpa [upd, h] using this
                case measure => simp [intOf]; omega
          · have hk3' : k = 3 := by omega
            subst hk3'
            have hO : Blk wk w2.heap.size 26 [.int .i64 (s.len + t.len), .int .i64 (s.je t 0), .int .i64 (s.je t 1), .int .i64 (s.je t 2), L 0, L 1, L 2] := by simpa [oc] using hO
            have HR := Lib.hid (fun j hj => (hR j hj).imp (fun _ h => h.1) : ∀ j, j < 3 → ∃ n, Row wk (L j) 3 1 n ((s.jl t j).map (Value.int .i64)))
            obtain ⟨n0, r0, z0⟩ := hR 0 (by omega)
            obtain ⟨n1, r1, z1⟩ := hR 1 (by omega)
            obtain ⟨n2, r2, z2⟩ := hR 2 (by omega)
            obtain ⟨P0, q0, e0, _, _⟩ := Row.slice r0
            obtain ⟨P1, q1, e1, _, _⟩ := Row.slice r1
            obtain ⟨P2, q2, e2, _, _⟩ := Row.slice r2
            rw [e0, e1, e2] at hO
            rw [e0] at z0
            rw [e1] at z1
            rw [e2] at z2
            have Z0 := Lib.hid z0
            have Z1 := Lib.hid z1
            have Z2 := Lib.hid z2
            clear z0 z1 z2
            have E0 := Lib.hid e0
            have E1 := Lib.hid e1
            have E2 := Lib.hid e2
            clear e0 e1 e2 r0 r1 r2
            have o0 := hO.cell 0 _ rfl
            have o1 := hO.cell 1 _ rfl
            have o2 := hO.cell 2 _ rfl
            have o3 := hO.cell 3 _ rfl
            have o4 := hO.cell 4 _ rfl
            have o5 := hO.cell 5 _ rfl
            have o6 := hO.cell 6 _ rfl
            have D2 := hK.blk HD1.out (by simp)
            have HD2 := Lib.hid D2
            have d0 := D2.cell 0 _ rfl
            have d1 := D2.cell 1 _ rfl
            have d2 := D2.cell 2 _ rfl
            have d3 := D2.cell 3 _ rfl
            have d4 := D2.cell 4 _ rfl
            have d5 := D2.cell 5 _ rfl
            have d6 := D2.cell 6 _ rfl
            have f0 := D2.froz 0
            have f1 := D2.froz 1
            have f2 := D2.froz 2
            have f3 := D2.froz 3
            have f4 := D2.froz 4
            have f5 := D2.froz 5
            have f6 := D2.froz 6
            have KKK := Lib.hid (KK.out.trans hK)
            clear D2 hO hR hK
            go_wp2_with fail
            clear o0 o1 o2 o3 o4 o5 o6 d0 d1 d2 d3 d4 d5 d6 f0 f1 f2 f3 f4 f5 f6
            obtain ⟨V, hV⟩ : ∃ V, V = (((((((wk.setCell ⟨(w.heap.size + 1 + 1), 0, none⟩ (.int .i64 (s.len + t.len))).setCell ⟨(w.heap.size + 1 + 1), 1, none⟩ (.int .i64 (s.je t 0))).setCell ⟨(w.heap.size + 1 + 1), 2, none⟩ (.int .i64 (s.je t 1))).setCell ⟨(w.heap.size + 1 + 1), 3, none⟩ (.int .i64 (s.je t 2))).setCell ⟨(w.heap.size + 1 + 1), 4, none⟩ (.slice P0 n0 q0)).setCell ⟨(w.heap.size + 1 + 1), 5, none⟩ (.slice P1 n1 q1)).setCell ⟨(w.heap.size + 1 + 1), 6, none⟩ (.slice P2 n2 q2)) := ⟨_, rfl⟩
            have DF : Blk V (w.heap.size + 1 + 1) 26 [(.int .i64 (s.len + t.len)), (.int .i64 (s.je t 0)), (.int .i64 (s.je t 1)), (.int .i64 (s.je t 2)), (.slice P0 n0 q0), (.slice P1 n1 q1), (.slice P2 n2 q2)] := by rw [hV]; exact (((((((HD2.out.set 0 _).set 1 _).set 2 _).set 3 _).set 4 _).set 5 _).set 6 _)
            have KF : Keep [] w V := by rw [hV]; exact (((((((KKK.out.setCell (a := ⟨(w.heap.size + 1 + 1), 0, none⟩) (Or.inr (by simp only; omega)) _).setCell (a := ⟨(w.heap.size + 1 + 1), 1, none⟩) (Or.inr (by simp only; omega)) _).setCell (a := ⟨(w.heap.size + 1 + 1), 2, none⟩) (Or.inr (by simp only; omega)) _).setCell (a := ⟨(w.heap.size + 1 + 1), 3, none⟩) (Or.inr (by simp only; omega)) _).setCell (a := ⟨(w.heap.size + 1 + 1), 4, none⟩) (Or.inr (by simp only; omega)) _).setCell (a := ⟨(w.heap.size + 1 + 1), 5, none⟩) (Or.inr (by simp only; omega)) _).setCell (a := ⟨(w.heap.size + 1 + 1), 6, none⟩) (Or.inr (by simp only; omega)) _)
            have KV : Keep [w.heap.size + 1 + 1] wk V := by rw [hV]; exact ((((((((Keep.refl _ _).setCell (a := ⟨(w.heap.size + 1 + 1), 0, none⟩) (Or.inl (by simp)) _).setCell (a := ⟨(w.heap.size + 1 + 1), 1, none⟩) (Or.inl (by simp)) _).setCell (a := ⟨(w.heap.size + 1 + 1), 2, none⟩) (Or.inl (by simp)) _).setCell (a := ⟨(w.heap.size + 1 + 1), 3, none⟩) (Or.inl (by simp)) _).setCell (a := ⟨(w.heap.size + 1 + 1), 4, none⟩) (Or.inl (by simp)) _).setCell (a := ⟨(w.heap.size + 1 + 1), 5, none⟩) (Or.inl (by simp)) _).setCell (a := ⟨(w.heap.size + 1 + 1), 6, none⟩) (Or.inl (by simp)) _)
            rw [← hV]
            clear hV
            have x0 := DF.cell 0 _ rfl
            have x1 := DF.cell 1 _ rfl
            have x2 := DF.cell 2 _ rfl
            have x3 := DF.cell 3 _ rfl
            have x4 := DF.cell 4 _ rfl
            have x5 := DF.cell 5 _ rfl
            have x6 := DF.cell 6 _ rfl
            refine bodyPost_ret (v := .tuple #[(.agg #[.int .i64 (s.len + t.len), .int .i64 (s.je t 0), .int .i64 (s.je t 1), .int .i64 (s.je t 2), .slice P0 n0 q0, .slice P1 n1 q1, .slice P2 n2 q2]), .int .i64 0]) (by simp [results, Tryd.results13, go_sem, x0, x1, x2, x3, x4, x5, x6]) rfl ?_
            refine ⟨(.agg #[.int .i64 (s.len + t.len), .int .i64 (s.je t 0), .int .i64 (s.je t 1), .int .i64 (s.je t 2), .slice P0 n0 q0, .slice P1 n1 q1, .slice P2 n2 q2]), by rw [HCP.out], by rw [HCP.out]; exact (by have hh := rows_su HD2.out KV HR.out; rw [E0.out, E1.out, E2.out] at hh; exact hh), KF, FreshV.mk Z0.out Z1.out Z2.out⟩
      · have hcp : compose s t = (Su.zero, 2) := by simp [compose, HVS.out, HVT.out, hsum]
        have HCP := Lib.hid hcp
        clear hcp
        have d0 := D1.cell 0 _ rfl
        have d1 := D1.cell 1 _ rfl
        have d2 := D1.cell 2 _ rfl
        have d3 := D1.cell 3 _ rfl
        have d4 := D1.cell 4 _ rfl
        have d5 := D1.cell 5 _ rfl
        have d6 := D1.cell 6 _ rfl
        have f0 := D1.froz 0
        have f1 := D1.froz 1
        have f2 := D1.froz 2
        have f3 := D1.froz 3
        have f4 := D1.froz 4
        have f5 := D1.froz 5
        have f6 := D1.froz 6
        clear D1
        go_wp2_with fail
        clear d0 d1 d2 d3 d4 d5 d6 f0 f1 f2 f3 f4 f5 f6 bl cl
        obtain ⟨V, hV⟩ : ∃ V, V = (((((((w2.setCell ⟨(w.heap.size + 1 + 1), 0, none⟩ (.int .i64 0)).setCell ⟨(w.heap.size + 1 + 1), 1, none⟩ (.int .i64 0)).setCell ⟨(w.heap.size + 1 + 1), 2, none⟩ (.int .i64 0)).setCell ⟨(w.heap.size + 1 + 1), 3, none⟩ (.int .i64 0)).setCell ⟨(w.heap.size + 1 + 1), 4, none⟩ (.slice none 0 0)).setCell ⟨(w.heap.size + 1 + 1), 5, none⟩ (.slice none 0 0)).setCell ⟨(w.heap.size + 1 + 1), 6, none⟩ (.slice none 0 0)) := ⟨_, rfl⟩
        have DF : Blk V (w.heap.size + 1 + 1) 26 [(.int .i64 0), (.int .i64 0), (.int .i64 0), (.int .i64 0), (.slice none 0 0), (.slice none 0 0), (.slice none 0 0)] := by rw [hV]; exact (((((((HD1.out.set 0 _).set 1 _).set 2 _).set 3 _).set 4 _).set 5 _).set 6 _)
        have KF : Keep [] w V := by rw [hV]; exact (((((((KK.out.setCell (a := ⟨(w.heap.size + 1 + 1), 0, none⟩) (Or.inr (by simp only; omega)) _).setCell (a := ⟨(w.heap.size + 1 + 1), 1, none⟩) (Or.inr (by simp only; omega)) _).setCell (a := ⟨(w.heap.size + 1 + 1), 2, none⟩) (Or.inr (by simp only; omega)) _).setCell (a := ⟨(w.heap.size + 1 + 1), 3, none⟩) (Or.inr (by simp only; omega)) _).setCell (a := ⟨(w.heap.size + 1 + 1), 4, none⟩) (Or.inr (by simp only; omega)) _).setCell (a := ⟨(w.heap.size + 1 + 1), 5, none⟩) (Or.inr (by simp only; omega)) _).setCell (a := ⟨(w.heap.size + 1 + 1), 6, none⟩) (Or.inr (by simp only; omega)) _)
        rw [← hV]
        clear hV
        have x0 := DF.cell 0 _ rfl
        have x1 := DF.cell 1 _ rfl
        have x2 := DF.cell 2 _ rfl
        have x3 := DF.cell 3 _ rfl
        have x4 := DF.cell 4 _ rfl
        have x5 := DF.cell 5 _ rfl
        have x6 := DF.cell 6 _ rfl
        refine bodyPost_ret (v := .tuple #[zeroV, .int .i64 2]) (by simp [results, Tryd.results13, go_sem, zeroV, x0, x1, x2, x3, x4, x5, x6]) rfl ?_
        refine ⟨zeroV, by rw [HCP.out], by rw [HCP.out]; exact (zeroV_su V), KF, zeroV_fresh _⟩
end Go.Proofs.YtomhlmfekmnajaaDoor
