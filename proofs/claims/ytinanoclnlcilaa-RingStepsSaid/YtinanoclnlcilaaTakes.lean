/- keep.Results; both Takes and both Acquires side by side. -/
import Derived.Test.YtinanoclnlcilaaAwake
namespace Go.Proofs.Ytinanoclnlcilaa
open Go.RowKit
set_option linter.unusedVariables false

theorem results_same (v1 v2 : Value) (r : Res) (w : World) (h1 : ByteRow w v1 r.out) (h2 : ByteRow w v2 r.out) :
    Calls Try.prog 15 #[.agg #[v1, .int .i64 r.st, .int .i64 r.rec_], .agg #[v2, .int .i64 r.st, .int .i64 r.rec_]] w fun e w' => e = .returned (.bool true) ∧ Keep [] w w' := by
  have K := Lib.hid (((Keep.refl [] w).alloc (.cells #[v1, .int .i64 r.st, .int .i64 r.rec_] 33)).alloc (.cells #[v2, .int .i64 r.st, .int .i64 r.rec_] 33))
  have s1 := (show ByteRow _ v1 r.out from Row.keep0 h1 K.out).str
  have s2 := (show ByteRow _ v2 r.out from Row.keep0 h2 K.out).str
  obtain ⟨A1, c1, rfl, _, _⟩ := Row.slice h1
  obtain ⟨A2, c2, rfl, _, _⟩ := Row.slice h2
  clear h1 h2
  go_enter Try.func15, Try.ntmps15
  go_wp2
  go_ret
  exact ⟨rfl, K.out⟩

theorem Sim.head {w : World} {R S Q cap nx : Nat} {credits : Int} {sl : List (Option Nat)} {vN vR : Value} {st : List (Int × Res)} (h : Sim w R S Q cap nx credits sl vN vR st) (hm : (nx : Int) ∈ st.map (·.1)) : ∃ r st', st = ((nx : Int), r) :: st' := by
  cases st with
  | nil => simp at hm
  | cons x l =>
    obtain ⟨n, r⟩ := x
    have h0 := (h.win (n, r) (by simp)).1
    simp only at h0
    rcases List.mem_cons.1 hm with h1 | h1
    · simp only at h1
      exact ⟨r, l, by rw [h1]⟩
    · obtain ⟨y, hy, he⟩ := List.mem_map.1 h1
      have := List.rel_of_pairwise_cons h.asc hy
      simp only at this
      omega

/-- Both rings have given their first result. -/
theorem Sim.take {w w1 w2 : World} {R S Q cap nx : Nat} {credits : Int} {sl : List (Option Nat)} {vN vR v : Value} {r : Res} {st : List (Int × Res)} {e1 e2 : Ending} (h : Sim w R S Q cap nx credits sl vN vR (((nx : Int), r) :: st))
    (h1 : TakePost R S sl nx credits v r.st r.rec_ w e1 w1) {wm : World} (Km : Keep [] w1 wm) (h2 : RefTakePost Q cap nx credits (st.map (·.1)) r (st.map (·.2)) wm e2 w2) :
    ∃ sl' vN' vR', Sim w2 R S Q cap (nx + 1) (min (credits + 1) cap) sl' vN' vR' st := by
  obtain ⟨_, K1, hr1⟩ := h1
  obtain ⟨u, vN', vR', _, _, K2, href⟩ := h2
  have hlen := h.len
  have hSQ : S ≠ Q := h.ring.hs.ne h.ref.hq (by decide)
  have hRQ : R ≠ Q := h.ring.hr.ne h.ref.hq (by decide)
  have hcap := h.cap0
  have hQm : Blk wm Q 39 _ := Km.blk (K1.blk h.ref.hq (by simp only [List.mem_cons, List.not_mem_nil, or_false]; rintro (e | e); exact hRQ e.symm; exact hSQ e.symm)) (by simp)
  have e5Q : ∀ b ∈ [Q], ∀ cs, ¬ BlkR wm b 5 cs := by intro b hb cs hc; simp only [List.mem_singleton] at hb; subst hb; exact hQm.neR hc (by decide) rfl
  have hcr := h.cr0
  have hcr1 := h.cr1
  have hasc := h.asc
  rw [List.pairwise_cons] at hasc
  have hwin : ∀ x ∈ st, ((nx + 1 : Nat) : Int) ≤ x.1 ∧ x.1 < ((nx + 1 : Nat) : Int) + cap := fun x hx => by
    have a := hasc.1 x hx
    have b := (h.win x (List.mem_cons_of_mem _ hx)).2
    simp only at a
    omega
  have hslot : nx % sl.length = ((nx : Int) % (cap : Int)).toNat := by rw [hlen, ← Int.natCast_emod, Int.toNat_natCast]
  refine ⟨sl.set (nx % sl.length) none, vN', vR', { ring := ?_, ref := ?_, len := by simpa using hlen, cap0 := h.cap0, cap1 := h.cap1, nx0 := by omega, cr0 := by omega, cr1 := by omega, asc := hasc.2, win := hwin, full := ?_, free := ?_ }⟩
  · have := (hr1.k0 Km).keep K2 (by simpa using hRQ) (by simpa using hSQ)
    rw [hlen] at this
    rw [hlen]; exact this
  · exact_mod_cast href
  · intro x hx
    obtain ⟨p, hp, hres⟩ := h.full x (List.mem_cons_of_mem _ hx)
    have hwx := h.win x (List.mem_cons_of_mem _ hx)
    have hne : x.1 ≠ (nx : Int) := by have := hwin x hx; omega
    have hrem := rem_ne (cap := cap) (nx := nx) (by omega) hwx.1 hwx.2 (Int.le_refl _) (by omega) hne
    have hres1 := hres.keepRing h.ring K1
    have hresm := hres1.keep Km (by simp) (by simp)
    obtain ⟨v', hb, hx5⟩ := hresm
    have hpQ : p ≠ Q := hb.ne hQm (by decide)
    refine ⟨p, ?_, ResAt.keep ⟨v', hb, hx5⟩ K2 (by simpa using hpQ) e5Q⟩
    rw [hslot, List.getElem?_set_ne (Ne.symm hrem)]; exact hp
  · intro m hm1 hm2 hmem
    by_cases hlast : m = (nx : Int) + cap
    · have : (m % (cap : Int)).toNat = nx % sl.length := by rw [hslot, hlast, Int.add_emod_right]
      rw [this, List.getElem?_set_self (by rw [hlen]; exact Nat.mod_lt _ hcap)]
    · have hne : m ≠ (nx : Int) := by omega
      have hrem := rem_ne (cap := cap) (nx := nx) (by omega) (a := m) (b := nx) (by omega) (by omega) (Int.le_refl _) (by omega) hne
      rw [hslot, List.getElem?_set_ne (Ne.symm hrem)]
      refine h.free m (by omega) (by omega) ?_
      simp only [List.map_cons, List.mem_cons, not_or]
      exact ⟨hne, hmem⟩

/-- Both rings have given a credit. -/
theorem Sim.acquire {w : World} {R S Q cap nx : Nat} {credits : Int} {sl : List (Option Nat)} {vN vR : Value} {st : List (Int × Res)} (h : Sim w R S Q cap nx credits sl vN vR st) (h0 : 0 < credits) :
    Sim ((w.setCell ⟨R, 2, none⟩ (.int .i64 (credits - 1))).setCell ⟨Q, 2, none⟩ (.int .i64 (credits - 1))) R S Q cap nx (credits - 1) sl vN vR st ∧ Keep [R, Q] w ((w.setCell ⟨R, 2, none⟩ (.int .i64 (credits - 1))).setCell ⟨Q, 2, none⟩ (.int .i64 (credits - 1))) := by
  have hSQ : S ≠ Q := h.ring.hs.ne h.ref.hq (by decide)
  have hRQ : R ≠ Q := h.ring.hr.ne h.ref.hq (by decide)
  have hRS : R ≠ S := h.ring.hr.ne h.ring.hs (by decide)
  have K : Keep [R, Q] w ((w.setCell ⟨R, 2, none⟩ (.int .i64 (credits - 1))).setCell ⟨Q, 2, none⟩ (.int .i64 (credits - 1))) := ((Keep.refl [R, Q] w).setCell (a := ⟨R, 2, none⟩) (Or.inl (by simp)) _).setCell (a := ⟨Q, 2, none⟩) (Or.inl (by simp)) _
  have hno : ∀ (t : TypeId), (48 : TypeId) ≠ t → (39 : TypeId) ≠ t → ∀ b ∈ [R, Q], ∀ cs, ¬ BlkR w b t cs := by
    intro t h1 h2 b hb cs hc
    simp only [List.mem_cons, List.not_mem_nil, or_false] at hb
    rcases hb with rfl | rfl
    · exact h.ring.hr.neR hc h1 rfl
    · exact h.ref.hq.neR hc h2 rfl
  have c1 := h.cr1
  refine ⟨{ ring := ⟨?_, ?_⟩, ref := ⟨?_, h.ref.hN.keep K (hno 3 (by decide) (by decide)), h.ref.hR.keep K (hno 33 (by decide) (by decide)) (hno 5 (by decide) (by decide))⟩, len := h.len, cap0 := h.cap0, cap1 := h.cap1, nx0 := h.nx0, cr0 := by omega, cr1 := by omega, asc := h.asc, win := h.win, full := ?_, free := h.free }, K⟩
  · exact (h.ring.hr.set 2 (.int .i64 (credits - 1))).other (a := ⟨Q, 2, none⟩) (fun e => hRQ e.symm) _
  · exact (h.ring.hs.other (a := ⟨R, 2, none⟩) hRS _).other (a := ⟨Q, 2, none⟩) (fun e => hSQ e.symm) _
  · exact (h.ref.hq.other (a := ⟨R, 2, none⟩) hRQ _).set 2 _
  · intro x hx
    obtain ⟨p, hp, hres⟩ := h.full x hx
    have hres' := hres
    obtain ⟨v, hb, _⟩ := hres'
    exact ⟨p, hp, hres.keep K (fun hm => hno 33 (by decide) (by decide) p hm _ hb.r) (hno 5 (by decide) (by decide))⟩
end Go.Proofs.Ytinanoclnlcilaa
