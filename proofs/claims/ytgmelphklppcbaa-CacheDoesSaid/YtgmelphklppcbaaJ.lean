/- The contract of Get. -/
import Derived.Test.YtgmelphklppcbaaI
namespace Go.Proofs.Ytgmelphklppcbaa
open Go.RowKit
open Go.Maps (Keyed Tidy IsMap has size)

/-- A key is counted once more. -/
def bumpC (s : Ca) (k : ByteArray) : Cs := if s.n + 1 = 10 * s.size then halve (count1 s.C k) else count1 s.C k
def bumpN (s : Ca) : Nat := if s.n + 1 = 10 * s.size then 0 else s.n + 1
/-- What Get leaves, and answers. -/
def getC (s : Ca) (k : ByteArray) : Ca :=
  if s.size = 0 then s else
  ⟨s.size, match s.T[pl s.T k]? with | some x => frontL s.T (pl s.T k) x.2 | none => s.T, bumpC s k, bumpN s⟩
def getV (s : Ca) (k : ByteArray) : ByteArray := match s.T[pl s.T k]? with | some x => x.2 | none => ⟨#[]⟩
def getB (s : Ca) (k : ByteArray) : Bool := decide (pl s.T k < s.T.length)

theorem IsCache.open {w : World} {B c : Nat} {s : Ca} (h : IsCache w B c s) : w.cell? ⟨c, 0, none⟩ = some (.int .i64 s.size) ∧ w.cell? ⟨c, 3, none⟩ = some (.int .i64 s.n) ∧ c < w.heap.size ∧ s.size ≤ 64 ∧ s.T.length ≤ s.size := by
  obtain ⟨bm, v, D, hb, h1, h2, hr, hm, ha, hg, h64, hTs, hk⟩ := h
  obtain ⟨c0, c1, c2, c3⟩ := cells4 hb
  exact ⟨c0, c3, lt_of_block hb, h64, hTs⟩

/-- The calls of a cache, stored. -/
theorem cache_calls {w : World} {B c : Nat} {s : Ca} (h : IsCache w B c s) (n : Nat) (x : Int) (hx : x = n) : IsCache (w.setCell ⟨c, 3, none⟩ (.int .i64 x)) B c { s with n := n } ∧ Fr B w (w.setCell ⟨c, 3, none⟩ (.int .i64 x)) := by
  subst hx
  obtain ⟨bm, v, D, hb, h1, h2, hr, hm, ha, hg, h64, hTs, hk⟩ := h
  have ho : Only w (w.setCell ⟨c, 3, none⟩ (.int .i64 n)) (fun k => k = c) := Only.setCell _ _ _ _ _ rfl
  refine ⟨⟨bm, v, D, heap_set hb 3 _, h1, h2, ho.own hr (fun g hg e => ?_), ho.map hm (fun e => map_ne hm hb e.symm), ha, hg, h64, hTs, hk⟩, Fr.of_only ho fun k _ e => ?_⟩
  · subst e
    rcases hr.2 with ⟨rfl, _⟩ | ⟨g', cap, cur, rfl, _, hgg, _⟩
    · cases hg
    · simp only [Value.ownBlock, Option.some.injEq] at hg
      subst hg
      rw [hb] at hgg
      simp at hgg
  · subst e
    exact ⟨h1, .inr (.inr ⟨_, _, hb⟩)⟩

theorem IsCache.free {w : World} {B c : Nat} {s : Ca} (h : IsCache w B c s) (j : Nat) : w.frozen? ⟨c, j, none⟩ = false := by
  obtain ⟨bm, v, D, hb, _⟩ := h
  exact free_arr hb j

/-- A thing's cells. -/
theorem IsCache.thing {w : World} {B c : Nat} {s : Ca} (h : IsCache w B c s) {i : Nat} (hi : i < s.T.length) :
    ∃ g cap, w.cell? ⟨c, 1, none⟩ = some (.slice (some ⟨g, 0, none⟩) s.T.length cap) ∧ g < w.heap.size ∧ w.cell? ⟨g, i * 2, none⟩ = some (.string s.T[i].1) ∧ w.cell? ⟨g, i * 2 + 1, none⟩ = some (.string s.T[i].2) := by
  obtain ⟨bm, v, D, hb, h1, h2, hr, hm, ha, hg, h64, hTs, hk⟩ := h
  obtain ⟨sp, cap, rfl⟩ := own_shape hr
  obtain ⟨g, cur, rfl, hBg, hgg, hnc, hcm, hcs, ht⟩ := own_open hr (by omega)
  obtain ⟨d0, d1⟩ := row_cells hgg ht rfl hi
  exact ⟨g, cap, (cells4 hb).2.1, lt_of_block hgg, d0, d1⟩

theorem bump_eq {s : Ca} {k : ByteArray} (h : s.n + 1 = 10 * s.size) : bumpC s k = halve (count1 s.C k) ∧ bumpN s = 0 := ⟨if_pos h, if_pos h⟩
theorem bump_ne {s : Ca} {k : ByteArray} (h : ¬ s.n + 1 = 10 * s.size) : bumpC s k = count1 s.C k ∧ bumpN s = s.n + 1 := ⟨if_neg h, if_neg h⟩
theorem plI_yes {T : Ts} {k : ByteArray} (h : pl T k < T.length) : plI T k = (pl T k : Int) := if_pos h
theorem plI_no {T : Ts} {k : ByteArray} (h : ¬ pl T k < T.length) : plI T k = -1 := if_neg h
theorem get_yes {s : Ca} {k : ByteArray} (hz : ¬ s.size = 0) (h : pl s.T k < s.T.length) : getC s k = ⟨s.size, frontL s.T (pl s.T k) s.T[pl s.T k].2, bumpC s k, bumpN s⟩ ∧ getV s k = s.T[pl s.T k].2 ∧ getB s k = true := by
  unfold getC getV getB
  rw [if_neg hz, List.getElem?_eq_getElem h]
  exact ⟨rfl, rfl, decide_eq_true h⟩
theorem get_no {s : Ca} {k : ByteArray} (hz : ¬ s.size = 0) (h : ¬ pl s.T k < s.T.length) : getC s k = ⟨s.size, s.T, bumpC s k, bumpN s⟩ ∧ getV s k = ⟨#[]⟩ ∧ getB s k = false := by
  unfold getC getV getB
  rw [if_neg hz, List.getElem?_eq_none (by omega)]
  exact ⟨rfl, rfl, decide_eq_false h⟩
theorem get_zero {s : Ca} {k : ByteArray} (hz : s.size = 0) (h : s.T.length ≤ s.size) : getC s k = s ∧ getV s k = ⟨#[]⟩ ∧ getB s k = false := by
  unfold getC getV getB
  rw [if_pos hz, List.getElem?_eq_none (by omega)]
  exact ⟨rfl, rfl, decide_eq_false (by omega)⟩

set_option maxHeartbeats 1600000 in
theorem get_any (c B : Nat) (s : Ca) (key : ByteArray) (w : World) (hc : IsCache w B c s) (hkey : key.size ≤ maxLen) (hC : s.C.length + 1 < maxLen) (hn : s.n < 1000) :
    Calls Try.prog 13 #[.pointer (some ⟨c, 0, none⟩), .string key] w fun e w' => e = .returned (.tuple #[.string (getV s key), .bool (getB s key)]) ∧ IsCache w' B c (getC s key) ∧ Fr B w w' := by
  have hc0 := hc
  obtain ⟨bm, v, D, hb, h1, h2, hr, hm, ha, hg, h64, hTs, hk⟩ := hc
  obtain ⟨c0, c1, c2, c3⟩ := cells4 hb
  have hlt := lt_of_block hb
  by_cases hz : s.size = 0
  · have hd : ((s.size : Int) == 0) = true := by simp; omega
    have HE := Lib.hid (get_zero (k := key) hz hTs)
    go_enter Try.func13, Try.ntmps13
    go_wp2
    go_ret2
    refine ⟨by rw [HE.out.2.1, HE.out.2.2]; rfl, by rw [HE.out.1]; exact hc0, Fr.refl _ _⟩
  · have hd : ((s.size : Int) == 0) = false := by simp; omega
    have h15 := often_le hg key
    have hk1 := key_kl hkey
    obtain ⟨x, hrun, hat, hwx⟩ := hm.drew.lookup_int law Try.underlying54 Try.underlying3 (zeroE _) hk1
    have hx := (ha.2.2 key).1
    rw [hat] at hx
    simp only [DataW.lit.injEq, Lit.int.injEq, true_and] at hx
    subst hx
    have i1 : IntKind.i64.wrap ((often s.C key : Int) + 1) = (often s.C key : Int) + 1 := IntWalk.i64_in _ (by omega)
    have he : (if 15 < (often s.C key : Int) + 1 then 15 else (often s.C key : Int) + 1) = ((min (often s.C key + 1) 15 : Nat) : Int) := by split <;> omega
    obtain ⟨w1, hup, hm1, hg1⟩ := hm.drew.update law Try.underlying54 (by omega) hk1 (plainElem_int (a := if 15 < (often s.C key : Int) + 1 then 15 else (often s.C key : Int) + 1) Try.underlying3 (by rw [he]; exact WalkArith.wf_i64 (by omega)))
    rw [he] at hm1
    clear he
    have hg1' : w.grownBy w1 (some bm) := ⟨hg1.os, hg1.tape, hg1.output, hg1.size, hg1.block⟩
    obtain ⟨k1, f1⟩ := cache_map hb h1 h2 hr hm h64 hTs hk hg1' hm1 (agr_count1 ha hg key (hm1.tidy law)) (count1_good hg key)
    have K1 := Lib.hid k1
    have F1 := Lib.hid f1
    clear hm1 hg1 hg1' ha hg hat hwx
    go_enter Try.func13, Try.ntmps13
    go_upto_region 3 with fail
    go_region
    clear hup hrun hm hr c0 c1 c2 c3 hb
    generalize (if 15 < (often s.C key : Int) + 1 then 15 else (often s.C key : Int) + 1) = qq
    obtain ⟨c0, c3, hlt1, _, _⟩ := k1.open
    simp only at c0 c3
    have fr3 := k1.free 3
    have i2 : IntKind.i64.wrap ((s.n : Int) + 1) = ((s.n + 1 : Nat) : Int) := by rw [IntWalk.i64_in _ (by omega)]; omega
    have i3 : IntKind.i64.wrap (10 * (s.size : Int)) = 10 * (s.size : Int) := IntWalk.i64_in _ (by omega)
    by_cases hb : s.n + 1 = 10 * s.size
    · have hbd : (((s.n : Int) + 1) == 10 * (s.size : Int)) = true := by simp; omega
      have hbd2 : (((s.n + 1 : Nat) : Int) == 10 * (s.size : Int)) = true := by simp; omega
      have HB := Lib.hid (bump_eq (k := key) hb)
      obtain ⟨k2, f2⟩ := cache_calls k1 (s.n + 1) (10 * (s.size : Int)) (by omega)
      have F2 := Lib.hid (f1.trans f2)
      have K2 := Lib.hid k2
      clear k1 f1 k2 f2
      go_upto_region 5 with fail
      go_quiet (fail)
      obtain ⟨w2, hw2⟩ : ∃ w2, w2 = (w1.setCell ⟨c, 3, none⟩ (.int .i64 (10 * (s.size : Int)))).drewN nq := ⟨_, rfl⟩
      have k2 : IsCache w2 B c ⟨s.size, s.T, count1 s.C key, s.n + 1⟩ := by rw [hw2]; exact K2.out.drewN _
      have f2 : Fr B w w2 := by rw [hw2]; exact F2.out.trans (Fr.of_none B ((Only.refl _ _).drewN _))
      rw [← hw2]
      clear hw2 c0 c3 fr3
      obtain ⟨c0, c3, hlt2, _, _⟩ := k2.open
      have fr3 := k2.free 3
      obtain ⟨k2a, f2a⟩ := cache_calls k2 0 0 rfl
      have hlc := length_count1_le s.C key
      have HH := Lib.hid (halve_any c B _ _ k2a (by show (count1 s.C key).length < _; omega))
      have F2a := Lib.hid (f2.trans f2a)
      clear k2a f2a f2
      go_wp2_with fail
      refine HH.out.mono ?_
      rintro e w3 ⟨rfl, k3, f3⟩
      have f3 := F2a.out.trans f3
      have k3 : IsCache w3 B c ⟨s.size, s.T, bumpC s key, bumpN s⟩ := by rw [HB.out.1, HB.out.2]; exact k3
      have HT := Lib.hid (show IsCache w3 B c ⟨s.size, s.T, bumpC s key, bumpN s⟩ ∧ Fr B w w3 from ⟨k3, f3⟩)
      clear k3 f3 HB
      have HPL := Lib.hid (place_any c B ⟨s.size, s.T, bumpC s key, bumpN s⟩ key w3 HT.out.1)
      by_cases hp : pl s.T key < s.T.length
      · have HE := Lib.hid (get_yes hz hp)
        have h := HPL.out
        rw [plI_yes hp] at h
        have HPL2 := Lib.hid h
        clear h HPL
        have hdn : decide ((pl s.T key : Int) < 0) = false := decide_eq_false (by omega)
        go_wp2_with fail
        refine HPL2.out.mono ?_
        rintro e w4 ⟨rfl, o4⟩
        have k4 := HT.out.1.keep o4
        obtain ⟨g, cap, x1, hgl, x2, x3⟩ := k4.thing hp
        simp only at x1 x2 x3
        have hl4 := k4.lt.1
        have j0 : (0 : Int) ≤ (pl s.T key : Int) := by omega
        have j1 : (pl s.T key : Int) < (s.T.length : Int) := by omega
        have HFR := Lib.hid (front_any c B (pl s.T key) _ s.T[pl s.T key].2 w4 k4 hp)
        have F4 := Lib.hid (HT.out.2.trans (Fr.of_none B o4))
        go_wp2_with fail
        refine HFR.out.mono ?_
        rintro e w5 ⟨rfl, k5, f5⟩
        go_wp2
        go_ret2
        exact ⟨by rw [HE.out.2.1, HE.out.2.2]; rfl, by rw [HE.out.1]; exact k5, F4.out.trans f5⟩
      · have HE := Lib.hid (get_no hz hp)
        have h := HPL.out
        rw [plI_no hp] at h
        have HPL2 := Lib.hid h
        clear h HPL
        go_wp2_with fail
        refine HPL2.out.mono ?_
        rintro e w4 ⟨rfl, o4⟩
        go_wp2
        go_ret2
        exact ⟨by rw [HE.out.2.1, HE.out.2.2]; rfl, by rw [HE.out.1]; exact HT.out.1.keep o4, HT.out.2.trans (Fr.of_none B o4)⟩
    · have hbd : (((s.n : Int) + 1) == 10 * (s.size : Int)) = false := by simp; omega
      have HB := Lib.hid (bump_ne (k := key) hb)
      obtain ⟨k2, f2⟩ := cache_calls k1 (s.n + 1) ((s.n : Int) + 1) (by omega)
      have F2 := Lib.hid (f1.trans f2)
      have K2 := Lib.hid k2
      clear k1 f1 k2 f2
      go_upto_region 5 with fail
      go_quiet (fail)
      obtain ⟨w3, hw3⟩ : ∃ w3, w3 = (w1.setCell ⟨c, 3, none⟩ (.int .i64 ((s.n : Int) + 1))).drewN nq := ⟨_, rfl⟩
      have k3 : IsCache w3 B c ⟨s.size, s.T, bumpC s key, bumpN s⟩ := by rw [hw3, HB.out.1, HB.out.2]; exact K2.out.drewN _
      have f3 : Fr B w w3 := by rw [hw3]; exact F2.out.trans (Fr.of_none B ((Only.refl _ _).drewN _))
      rw [← hw3]
      clear hw3 c0 c3 fr3
      have HT := Lib.hid (show IsCache w3 B c ⟨s.size, s.T, bumpC s key, bumpN s⟩ ∧ Fr B w w3 from ⟨k3, f3⟩)
      clear k3 f3 HB
      have HPL := Lib.hid (place_any c B ⟨s.size, s.T, bumpC s key, bumpN s⟩ key w3 HT.out.1)
      by_cases hp : pl s.T key < s.T.length
      · have HE := Lib.hid (get_yes hz hp)
        have h := HPL.out
        rw [plI_yes hp] at h
        have HPL2 := Lib.hid h
        clear h HPL
        have hdn : decide ((pl s.T key : Int) < 0) = false := decide_eq_false (by omega)
        go_wp2_with fail
        refine HPL2.out.mono ?_
        rintro e w4 ⟨rfl, o4⟩
        have k4 := HT.out.1.keep o4
        obtain ⟨g, cap, x1, hgl, x2, x3⟩ := k4.thing hp
        simp only at x1 x2 x3
        have hl4 := k4.lt.1
        have j0 : (0 : Int) ≤ (pl s.T key : Int) := by omega
        have j1 : (pl s.T key : Int) < (s.T.length : Int) := by omega
        have HFR := Lib.hid (front_any c B (pl s.T key) _ s.T[pl s.T key].2 w4 k4 hp)
        have F4 := Lib.hid (HT.out.2.trans (Fr.of_none B o4))
        go_wp2_with fail
        refine HFR.out.mono ?_
        rintro e w5 ⟨rfl, k5, f5⟩
        go_wp2
        go_ret2
        exact ⟨by rw [HE.out.2.1, HE.out.2.2]; rfl, by rw [HE.out.1]; exact k5, F4.out.trans f5⟩
      · have HE := Lib.hid (get_no hz hp)
        have h := HPL.out
        rw [plI_no hp] at h
        have HPL2 := Lib.hid h
        clear h HPL
        go_wp2_with fail
        refine HPL2.out.mono ?_
        rintro e w4 ⟨rfl, o4⟩
        go_wp2
        go_ret2
        exact ⟨by rw [HE.out.2.1, HE.out.2.2]; rfl, by rw [HE.out.1]; exact HT.out.1.keep o4, HT.out.2.trans (Fr.of_none B o4)⟩

end Go.Proofs.Ytgmelphklppcbaa
