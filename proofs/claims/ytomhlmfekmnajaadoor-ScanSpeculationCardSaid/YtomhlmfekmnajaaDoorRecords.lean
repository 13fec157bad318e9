/- Records out of the summaries of the chunks; the sanity check of the chapter on scan: the walks. -/
import Derived.Test.YtomhlmfekmnajaaDoorSums
import Derived.Test.YtomhlmfekmnajaaDoorResolve
import Derived.Test.YtomhlmfekmnajaaDoorSpans
import Derived.Test.YtomhlmfekmnajaaDoorSound
namespace Go.Proofs.YtomhlmfekmnajaaDoor
open Go.RowKit
set_option linter.unusedVariables false
set_option linter.unusedSimpArgs false

section
variable {P : Program} {w : World}
theorem run_append_sp (t ty : TypeId) (base : Nat) (i : TypeInfo) (z : Value) (bytes : Nat) (ht : P.underlying t = some (.slice 77)) (hi : P.info? 77 = some i) (hz : i.zero = some z)
    (hsize : i.size = 2) (hby : i.bytes = bytes) (hzs : z.cells.size = 2)
    (v : Value) (n : Nat) (xs : List Value) (hown : w.ownsRow base 77 2 v n xs) (xv : Value) (news : List (Int × Int)) (hx : SpRow w xv news)
    (h63 : n + news.length ≤ maxLen) (hbytes : (n + news.length) * bytes ≤ 140737488355328) (hbase : base ≤ w.heap.size) :
    ∃ v' w', (Builtin.append_ #[t, t] ty #[v, xv]).run P w = .ok v' w' ∧ w'.ownsRow base 77 2 v' (n + news.length) (xs ++ spCells news) ∧ w.grownBy w' v.ownBlock := by
  obtain ⟨A, c, rfl, hn, hc, h0, hcell⟩ := hx
  cases A with
  | none =>
    have hc0 := h0 rfl
    subst hc0
    have : news = [] := List.length_eq_zero_iff.1 (by omega)
    subst this
    exact ⟨v, w, run_append_owned_none (P := P) (w := w) base t ty 77 i 2 ht hi v n xs hown, by simpa [spCells] using hown, World.grownBy.refl _ _⟩
  | some a =>
    obtain ⟨v', w', hr, h2, h3, _⟩ := run_append_own (P := P) w base t ty 77 i z 2 bytes ht hi hz hsize hby hzs (by decide) v n xs hown a news.length c (spCells news) (spCells_length _)
      (fun j u hj => by
        have hjl : j < news.length * 2 := by rw [← spCells_length]; exact (List.getElem?_eq_some_iff.1 hj).1
        obtain ⟨q, hq⟩ : ∃ q, news[j / 2]? = some q := ⟨news[j / 2]'(by omega), by simp [show j / 2 < news.length by omega]⟩
        obtain ⟨g, off, hA, ha, hb⟩ := hcell (j / 2) q hq
        obtain ⟨ea, eb⟩ := spCells_at news (j / 2) q hq
        injection hA with hA
        subst hA
        rw [addr_add]
        rcases Nat.mod_two_eq_zero_or_one j with hm | hm
        · have e : j / 2 * 2 = j := by omega
          rw [e] at ha ea
          rw [ea] at hj; injection hj with hj
          rw [← hj]; exact ha
        · have e : j / 2 * 2 + 1 = j := by omega
          rw [Nat.add_assoc, e] at hb
          rw [e] at eb
          rw [eb] at hj; injection hj with hj
          rw [← hj]; exact hb) (spCells_one _) h63 hbytes hbase
    exact ⟨v', w', hr, h2, h3⟩
theorem wpList_append_sp {ops : Array Oper} {rest : List Oper} {o : Oper} {a : Act} {Q : Exit → Act → World → Prop} (hgd : o.guard = none) (s x : Operand) (t : TypeId)
    (ho : o.op = .call { callee := .builtin .append, args := #[s, x], argTypes := #[t, t] })
    (base : Nat) (i : TypeInfo) (z : Value) (bytes : Nat) (ht : P.underlying t = some (.slice 77)) (hi : P.info? 77 = some i) (hz : i.zero = some z)
    (hsize : i.size = 2) (hby : i.bytes = bytes) (hzs : z.cells.size = 2)
    (v : Value) (n : Nat) (xs : List Value) (hs : a.eval s = v) (hown : w.ownsRow base 77 2 v n xs)
    (xv : Value) (news : List (Int × Int)) (hx : a.eval x = xv) (hrow : SpRow w xv news)
    (h63 : n + news.length ≤ maxLen) (hbytes : (n + news.length) * bytes ≤ 140737488355328) (hbase : base ≤ w.heap.size)
    (h : ∀ v' w', w'.ownsRow base 77 2 v' (n + news.length) (xs ++ spCells news) → w.grownBy w' v.ownBlock → wpList P ops Q rest (a.put o.dst v') w') : wpList P ops Q (o :: rest) a w :=
  wpList_plain hgd fun _ hK => by
    obtain ⟨v', w', hr, h2, h3⟩ := run_append_sp (P := P) (w := w) t o.type base i z bytes ht hi hz hsize hby hzs v n xs hown xv news hrow h63 hbytes hbase
    unfold Oper.wp execOp
    simp only [ho, resolve, invoke, builtin, Sem.run_bind, Sem.run_pure, Result.andThen_ok, List.map_toArray, List.map_cons, List.map_nil, hs, hx, hr]
    exact hK _ _ (h v' w' h2 h3)
end

def recFold : Int → Nat → Int → List Su → List (Int × Int) × Int
  | _, _, b, [] => ([], b)
  | at_, st, b, s :: r => ((follow at_ b (s.l st)).1 ++ (recFold (at_ + s.len) (s.e st).toNat (follow at_ b (s.l st)).2 r).1, (recFold (at_ + s.len) (s.e st).toNat (follow at_ b (s.l st)).2 r).2)
def recordsOf (n : Int) (ss : List Su) : List (Int × Int) := (recFold 0 0 0 ss).1 ++ if (recFold 0 0 0 ss).2 < n then [((recFold 0 0 0 ss).2, n)] else []

theorem follow_end {at_ b : Int} {xs : List Int} {len last : Int} (h : okFrom len last xs = true) (hl : -1 ≤ last) (h0 : 0 ≤ b) (h1 : b ≤ at_ + last + 1) (hlen : last < len) : 0 ≤ (follow at_ b xs).2 ∧ (follow at_ b xs).2 ≤ at_ + len := by
  induction xs generalizing b last with
  | nil => simp only [follow]; omega
  | cons x xs ih =>
    simp only [okFrom, Bool.and_eq_true, decide_eq_true_eq] at h
    simp only [follow]
    exact ih h.2 (by omega) (by omega) (by omega) (by omega)
theorem follow_end0 {at_ b : Int} {xs : List Int} {len : Int} (h : okFrom len (-1) xs = true) (hlen : 0 ≤ len) (ha : 0 ≤ at_) (h0 : 0 ≤ b) (h1 : b ≤ at_) : 0 ≤ (follow at_ b xs).2 ∧ (follow at_ b xs).2 ≤ at_ + len :=
  follow_end h (by omega) h0 (by omega) (by omega)

set_option maxHeartbeats 2000000 in
set_option maxRecDepth 100000 in
theorem records_any (s : ByteArray) (c : Int) (w : World) (hM : Moves w) (hs : s.size ≤ 1048576) (hc1 : 1 ≤ c) (hc2 : c ≤ 65536) (hv : (sumsOf s c).all Su.valid = true) (hsum : lenSum (sumsOf s c) = s.size) :
    Calls Tryd.prog 55 #[.string s, .int .i64 c] w (SpPost (recordsOf s.size (sumsOf s c)) 0 w) := by
  obtain ⟨ss, hss⟩ : ∃ ss, ss = sumsOf s c := ⟨_, rfl⟩
  have hlen : ss.length ≤ 1048576 := by rw [hss, sumsOf, List.length_map]; exact pieces_length_le hc1 (by omega) (by omega)
  rw [← hss] at hv hsum ⊢
  obtain ⟨R, hR⟩ : ∃ R, R = recFold 0 0 0 ss := ⟨_, rfl⟩
  have hrec : recordsOf s.size ss = R.1 ++ if R.2 < s.size then [(R.2, (s.size : Int))] else [] := by rw [hR]; rfl
  obtain ⟨RR, hRR⟩ : ∃ RR, RR = recordsOf s.size ss := ⟨_, rfl⟩
  rw [← hRR]
  have HRR := Lib.hid (hRR.trans hrec)
  clear hRR
  have HM := Lib.hid hM
  have HV := Lib.hid hv
  have HSUM := Lib.hid hsum
  have HSS := Lib.hid hss.symm
  have HR := Lib.hid hR
  obtain ⟨i77, hi77, hz0, hz1, hz2⟩ := info_parts Tryd.info77
  clear hM hv hsum hss hR hrec
  go_enter Tryd.func55, Tryd.ntmps55
  go_wp2_with fail
  refine (summaries_any s c _ HM.out hs hc1 hc2).mono ?_
  rintro e w1 ⟨v, rfl, hv, K1⟩
  rw [HSS.out] at hv
  have HROW := Lib.hid hv
  have HK1 := Lib.hid K1
  obtain ⟨A, cp, rfl, hn, hcm, -, -⟩ := hv
  have hc9 : cp ≤ 9223372036854775807 := hcm
  clear K1 hcm
  go_wp2_with fail
  go_loopw [26, 8, 9, 10, 11] (fun i l a t p wr => ∃ (k st : Nat) (at_ b : Int) (pre : List (Int × Int)), k ≤ ss.length ∧ i = .int .i64 k ∧ a = .int .i64 at_ ∧ t = .int .i64 st ∧ p = .int .i64 b ∧ st < 3 ∧ 0 ≤ b ∧ b ≤ at_ ∧ at_ ≤ 1048576 ∧ Hid (at_ + lenSum (ss.drop k) = s.size) ∧ pre.length ≤ k * 1048576 ∧ Hid (pre ++ (recFold at_ st b (ss.drop k)).1 = R.1 ∧ (recFold at_ st b (ss.drop k)).2 = R.2) ∧ wr.ownsRow w1.heap.size 77 2 l pre.length (spCells pre) ∧ Keep [] w1 wr) (fun i _ _ _ _ _ => ss.length - (intOf i).toNat)
  case atStart => exact ⟨0, 0, 0, 0, [], by omega, rfl, rfl, rfl, rfl, by omega, by omega, by omega, by omega, Lib.hid (by simpa using HSUM.out), by simp, Lib.hid ⟨by rw [HR.out]; rfl, by rw [HR.out]; rfl⟩, World.ownsRow_nil _ _ _ _, Keep.refl _ _⟩
  case round =>
    obtain ⟨k, st, at_, b, pre, hk, rfl, rfl, rfl, rfl, hst, hb0, hb1, hat, hsumk, hpre, hrec, hO, hK⟩ := hrel
    obtain ⟨W, rfl⟩ : ∃ W, W = wr := ⟨_, rfl⟩
    obtain ⟨l, rfl⟩ : ∃ l, l = u8 := ⟨_, rfl⟩
    have HO := Lib.hid hO
    have HK := Lib.hid hK
    have hsz := hK.size
    clear hO hK
    by_cases hlt : k < ss.length
    · obtain ⟨x, hx⟩ : ∃ x, ss[k]? = some x := ⟨ss[k], by simp [hlt]⟩
      obtain ⟨g, off, cs, hidx, hrg, hsu⟩ := SuRow.idx (HROW.out.keep HK.out) k x hx
      have hxv : x.valid = true := List.all_eq_true.1 HV.out x (List.mem_of_getElem? hx)
      have hval := x.valid_len hxv
      have hdr : ss.drop k = x :: ss.drop (k + 1) := by
        obtain ⟨h1, h2⟩ := List.getElem?_eq_some_iff.1 hx
        rw [List.drop_eq_getElem_cons h1, h2]
      have hrest : 0 ≤ lenSum (ss.drop (k + 1)) := lenSum_nonneg (by
        rw [List.all_eq_true]
        exact fun y hy => List.all_eq_true.1 HV.out y (List.mem_of_mem_drop hy))
      have hls : lenSum (ss.drop k) = x.len + lenSum (ss.drop (k + 1)) := by rw [hdr]; simp [lenSum]
      have hsk := hsumk.out
      have hxl := x.valid_length hxv st hst
      have hfe := follow_end0 (x.valid_l hxv st hst) hval.1 (show 0 ≤ at_ by omega) hb0 hb1
      have hxe := x.valid_e hxv st hst
      have hfl : at_ + x.len ≤ 1048576 := by omega
      have hr2 := hrec.out
      rw [hdr] at hr2
      simp only [recFold] at hr2
      obtain ⟨F, hF⟩ : ∃ F, F = follow at_ b (x.l st) := ⟨_, rfl⟩
      have hFl : F.1.length = (x.l st).length := by rw [hF, follow_length]
      rw [← hF] at hr2 hfe
      obtain ⟨e', he'⟩ : ∃ e' : Nat, x.e st = (e' : Int) := ⟨(x.e st).toNat, by omega⟩
      have he3 : e' < 3 := by omega
      rw [he', Int.toNat_natCast] at hr2
      have HREC := Lib.hid hr2
      have HSK := Lib.hid (show at_ + x.len + lenSum (ss.drop (k + 1)) = s.size by omega)
      have HXV := Lib.hid hxv
      have HSU := Lib.hid hsu
      have HRG := Lib.hid hrg
      have HF := Lib.hid hF
      have HE := Lib.hid he'
      clear hrg hsu hx hxv hdr hrest hls hsk hr2 hF he' hrec hsumk
      go_wp2_with (first | (refine wpList_load_su rfl (.tmp 28) rfl g off cs x HRG.out HSU.out rfl ?_) | (refine wpList_su_new rfl (.tmp 13) (.tmp 29) rfl cs x HSU.out rfl rfl ?_; intro w4 B4 K4; have HB4 := Lib.hid B4; have HK4 := Lib.hid K4; clear B4 K4 hidx) | (refine wpList_load_sb rfl (.tmp 13) rfl W.heap.size cs x HB4.out rfl ?_))
      refine (resolve_any at_ b st _ x _ hst hb0 hb1 HB4.out.2 HXV.out hfl).mono ?_
      rintro e w5 ⟨v5, rfl, h5, K5, hf5⟩
      rw [← HF.out] at h5
      rw [← HF.out, HE.out]
      obtain ⟨_, _, _, _, _, _, -, xl, -⟩ := su_cells (HB4.out.keep K5).1.range (HB4.out.keep K5).2
      have HO5 := Lib.hid (own_keep HO.out (HK4.out.trans K5))
      have H5 := Lib.hid h5
      have HK5 := Lib.hid ((HK.out.trans HK4.out).trans K5)
      have hw5 := HK5.out.size
      have HB5 := Lib.hid (HB4.out.keep K5).1
      obtain ⟨f2, hf2⟩ : ∃ f2, f2 = F.2 := ⟨_, rfl⟩
      rw [← hf2] at hfe ⊢
      have HF2 := Lib.hid hf2
      clear h5 hf5 K5 hf2
      go_wp2_with (at_builtin; refine wpList_append_sp rfl (.tmp 40) (.tmp 41) 49 rfl w1.heap.size i77 (.agg #[.int .i64 0, .int .i64 0]) 16 Tryd.underlying49 hi77 hz0 hz1 hz2 rfl l pre.length (spCells pre) rfl HO5.out v5 F.1 rfl H5.out (by unfold maxLen; omega) (by omega) hw5 ?_; intro v6 w6 own6 hg6; have HO6 := Lib.hid own6; have hk6 := HK5.out.fresh (Keep.of_grown hg6) (fun b hb => (World.ownsRow.lt HO5.out b (by simpa using hb)).1); have HK6 := Lib.hid hk6; have xl6 := (Keep.of_grown hg6).cell xl (fun hm => by have := (World.ownsRow.lt HO.out W.heap.size (by simpa using hm)).2; omega); clear own6 hg6 hk6 xl)
      go_roundw
      case rel => exact ⟨k + 1, e', at_ + x.len, f2, pre ++ F.1, by omega, by go_num, rfl, rfl, rfl, by omega, by omega, by omega, by omega, HSK, by rw [List.length_append]; omega, Lib.hid (by rw [HF2.out, List.append_assoc]; exact HREC.out), by rw [spCells_append, List.length_append]; exact HO6.out, HK6.out⟩
      case measure => simp [intOf]; omega
    · have hkl : k = ss.length := by omega
      subst hkl
      have hr2 := hrec.out
      rw [List.drop_length] at hr2
      simp only [recFold, List.append_nil] at hr2
      obtain ⟨hr1, hr2⟩ := hr2
      have HR1 := Lib.hid hr1.symm
      have HR2 := Lib.hid hr2.symm
      have hw := hsz
      have hw1 := HK1.out.size
      clear hrec hr1 hr2 hsumk
      by_cases hlast : b < s.size
      · have hd : decide (b < (s.size : Int)) = true := decide_eq_true hlast
        go_wp2_with (at_builtin; refine wpList_append_row rfl (.tmp 52) (.tmp 57) 49 rfl w1.heap.size 77 i77 (.agg #[.int .i64 0, .int .i64 0]) 2 16 Tryd.underlying49 hi77 hz0 hz1 hz2 rfl (by decide) l pre.length (spCells pre) rfl (HO.out.alloc _) (.slice (some ⟨W.heap.size, 0, none⟩) 1 1) 1 [.int .i64 b, .int .i64 s.size] rfl (Row.of_own (World.ownsRow_lit (base := 0) (e := 77) (size := 2) W #[.int .i64 b, .int .i64 s.size] 1 (Nat.zero_le _) (by decide) rfl)) (by simp [Value.oneCell']) (by unfold maxLen; omega) (by omega) (by simp; omega) ?_; intro v4 w4 own4 hg4; have HO4 := Lib.hid own4; have HK4 := Lib.hid ((HK.out.alloc (.cells #[.int .i64 b, .int .i64 (s.size : Int)] 77)).grown hg4 (fun g hg => Or.inr (World.ownsRow.lt (HO.out.alloc (.cells #[.int .i64 b, .int .i64 (s.size : Int)] 77)) g hg).1)); clear own4 hg4)
        go_ret2
        refine ⟨v4, rfl, ?_, HK1.out.trans HK4.out, fun g hg => Nat.le_trans hw1 (World.ownsRow.lt HO4.out g hg).1⟩
        rw [HRR.out, HR1.out, HR2.out, if_pos hlast]
        refine SpRow.of_own (base := w1.heap.size) (n := pre.length + 1) ?_
        rw [spCells_append]
        exact HO4.out
      · have hd : decide (b < (s.size : Int)) = false := decide_eq_false hlast
        go_wp2_with fail
        go_ret2
        refine ⟨l, rfl, ?_, HK1.out.trans HK.out, fun g hg => Nat.le_trans hw1 (World.ownsRow.lt HO.out g hg).1⟩
        rw [HRR.out, HR1.out, HR2.out, if_neg (show ¬ b < (s.size : Int) by omega), List.append_nil]
        exact SpRow.of_own HO.out
end Go.Proofs.YtomhlmfekmnajaaDoor
