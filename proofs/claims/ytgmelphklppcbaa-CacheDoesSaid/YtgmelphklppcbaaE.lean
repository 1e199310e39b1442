/- The contract of halve. -/
import Derived.Test.YtgmelphklppcbaaD
import Derived.Maps.RangeWalk
namespace Go.Proofs.Ytgmelphklppcbaa
open Go.RowKit
open Go.Maps (Keyed Tidy IsMap has size strike_twice)

theorem grown_keep {W w5 : World} {row : Option Nat} (hg : W.grownBy w5 row) {b : Nat} {o : Obj} (h : W.heap[b]? = some o) (hne : some b ≠ row) : w5.heap[b]? = some o := (hg.block b (lt_of_block h) hne).trans h

theorem map_ne {H : Type} {w : World} {k : TypeId} {R : Value → Option (DataW H × List MemPlace)} {b n c : Nat} {D : DataW H} {xs : Array Value} {t : TypeId} {f : Nat × Nat} (h : w.ownsMap Try.prog k R b n D) (hc : w.heap[c]? = some (.cells xs t f)) : c ≠ b := by
  rintro rfl
  obtain ⟨es, clock, hb, _⟩ := h
  rw [hb] at hc
  cases hc
theorem map_inner {H : Type} {w : World} {k : TypeId} {R : Value → Option (DataW H × List MemPlace)} {b n : Nat} {D : DataW H} (h : w.ownsMap Try.prog k R b n D) : Inner w.heap[b]? := by
  obtain ⟨es, clock, hb, _⟩ := h
  exact .inl ⟨es, clock, hb⟩
theorem own_map_ne {H : Type} {w : World} {k : TypeId} {R : Value → Option (DataW H × List MemPlace)} {b n base e size m : Nat} {D : DataW H} {v : Value} {xs : List Value} (h : w.ownsMap Try.prog k R b n D) (ho : w.ownsRow base e size v m xs) : v.ownBlock ≠ some b := by
  rcases ho.2 with ⟨rfl, _⟩ | ⟨g, cap, cur, rfl, _, hg, _⟩
  · simp [Value.ownBlock]
  · intro e0
    simp only [Value.ownBlock, Option.some.injEq] at e0
    exact map_ne h hg e0

/-- Another map's reading in the place of the cache's. -/
theorem cache_map {w w' : World} {B c bm n n' : Nat} {s : Ca} {v : Value} {D D' : DataW Unit} {C' : Cs} (hb : w.heap[c]? = some (.cells #[.int .i64 s.size, v, .map (some bm), .int .i64 s.n] 57 (0, 0))) (h1 : B ≤ c) (h2 : B ≤ bm)
    (hr : w.ownsRow B 59 2 v s.T.length (flat s.T)) (hm : w.ownsMap Try.prog 9 (plainElem Try.prog 3) bm n D) (h64 : s.size ≤ 64) (hTs : s.T.length ≤ s.size) (hk : ∀ x ∈ s.T, x.1.size ≤ maxLen)
    (hg : w.grownBy w' (some bm)) (hm' : w'.ownsMap Try.prog 9 (plainElem Try.prog 3) bm n' D') (ha : Agr D' C') (hC : Good C') : IsCache w' B c { s with C := C' } ∧ Fr B w w' := by
  have ho := Only.of_grown hg
  refine ⟨⟨bm, v, D', ho.keep hb (map_ne hm hb), h1, h2, ho.own hr (fun g hg e => own_map_ne hm hr (by rw [hg, e])), own_agr hm' ha, ha, hC, h64, hTs, hk⟩, Fr.of_only ho fun i _ e => ?_⟩
  subst e
  exact ⟨h2, map_inner hm⟩

set_option maxHeartbeats 1600000 in
theorem halve_any (c B : Nat) (s : Ca) (w : World) (hc : IsCache w B c s) (hC : s.C.length < maxLen) :
    Calls Try.prog 25 #[.pointer (some ⟨c, 0, none⟩)] w fun e w' => e = .returned (.tuple #[]) ∧ IsCache w' B c { s with C := halve s.C } ∧ Fr B w w' := by
  obtain ⟨bm, v, D, hb, h1, h2, hr, hm, ha, hg, h64, hTs, hk⟩ := hc
  obtain ⟨c0, c1, c2, c3⟩ := cells4 hb
  have hlt := lt_of_block hb
  have hne := map_ne hm hb
  have hms := mid_start ha hg
  have HF := Lib.hid (fun (w' : World) (D' : DataW Unit) (C' : Cs) => cache_map (w' := w') (n' := s.C.length) (D' := D') (C' := C') hb h1 h2 hr hm h64 hTs hk)
  go_enter Try.func25, Try.ntmps25
  go_wp2_with (first
    | (at_range; refine wpList_range_own _ rfl _ 54 rfl 9 3 law Try.underlying54 _ bm s.C.length D rfl hm ?_; intro w0 hrg0 hg0 hs0)
    | go_in)
  go_frame
  go_loopw [2] (fun _ wr => ∃ (D' : DataW Unit) (left : Lit → Bool) (cnt : Nat), wr.ranges Try.prog 9 (plainElem Try.prog 3) bm w.heap.size s.C.length D' left cnt ∧ Mid D' s.C left ∧ w.grownBy wr (some bm))
    (fun _ wr => wr.rangeLeft bm w.heap.size)
  case atStart => exact ⟨_, _, _, hrg0, hms, hg0.but _⟩
  case round =>
    obtain ⟨D', left, cnt, hrg, hmid, hgw⟩ := hrel
    go_wp2_with (first
      | (at_next; refine wpList_next_ranges_si _ rfl _ rfl 9 3 .i64 law Try.underlying9 Try.underlying3 bm w.heap.size s.C.length _ _ _ rfl hrg ?_ ?_)
      | go_in)
    · intro _ hl0
      have H := HF.out _ D' (halve s.C) hgw hrg.owns (mid_end hmid hg hl0) (halve_good hg)
      go_wp2
      go_end0
      exact ⟨rfl, H.1, H.2⟩
    · intro x cc w1 cnt1 hwx hwc hlx hat hrg1 hlt hg1 hs1 hen
      have hgw1 := hgw.andThen hg1 (fun j hj => by cases hj; exact Or.inl (Nat.le_refl _))
      obtain ⟨rfl, hhas⟩ := mid_val hmid hlx hat
      have hb1 := grown_keep hgw1 hb (by simp [hne])
      obtain ⟨d0, d1, d2, d3⟩ := cells4 hb1
      have hhas1 : has D' (kl x) = true := by
        refine Classical.byContradiction fun hn => ?_
        have hn : has D' (kl x) = false := by simpa using hn
        have e1 := Maps.atKey_of_not_has hn (.lit (.int .i64 7))
        have e2 := Maps.atKey_of_not_has hn (.lit (.int .i64 8))
        have e3 := hat (.lit (.int .i64 7))
        have e4 := hat (.lit (.int .i64 8))
        unfold kl at e1 e2
        rw [e1] at e3
        rw [e2] at e4
        rw [← e3] at e4
        cases e4
      have h15 := often_le hg x
      by_cases h2 : often s.C x < 2
      · have hd : decide ((often s.C x : Int) < 2) = true := decide_eq_true (by omega)
        go_wp2_with (first
          | (at_delete; refine wpList_delete_ranges _ rfl _ _ 54 9 rfl 3 law Try.underlying54 _ bm w.heap.size s.C.length _ _ _ rfl hrg1 _ _ rfl (key_kl hwx) ?_; intro w2 cnt2 hrg2 hle hturn; go_frame)
          | go_in)
        unfold kl at hrg2
        rw [strike_twice] at hrg2
        have hm2 := mid_drop hmid hg hlx hhas1 h2 (hrg2.owns.tidy law)
        go_roundw
        case rel => exact ⟨_, _, cnt2, hrg2, hm2, hgw1.andThen hturn.grown (fun j hj => by cases hj; exact Or.inr rfl)⟩
        case measure => rw [hrg2.left_eq, hrg.left_eq]; omega
      · have hd : decide ((often s.C x : Int) < 2) = false := decide_eq_false (by omega)
        have hq : Int.tdiv (often s.C x : Int) 2 = ((often s.C x / 2 : Nat) : Int) := by
          rw [Int.tdiv_eq_ediv_of_nonneg (by omega)]; omega
        go_wp2_with (first
          | (at_mapUpdate; refine wpList_mapUpdate_ranges _ rfl _ _ _ 54 rfl 9 3 law Try.underlying54 _ bm w.heap.size s.C.length _ _ _ rfl hrg1 hC _ _ _ rfl rfl (key_kl hwx) (.lit (.int .i64 ((often s.C x / 2 : Nat) : Int))) [] ?hval hhas1 ?_; rotate_left; intro w2 hrg2 hturn; go_frame)
          | go_in)
        case hval => exact plainElem_int Try.underlying3 (WalkArith.wf_i64 (by omega))
        have hm2 := mid_store (left := left) hmid hg hhas1 (by omega) (hrg2.owns.tidy law)
        go_roundw
        case rel => exact ⟨_, _, cnt1, hrg2, hm2, hgw1.andThen hturn.grown (fun j hj => by cases hj; exact Or.inr rfl)⟩
        case measure => rw [hrg2.left_eq, hrg.left_eq]; omega

end Go.Proofs.Ytgmelphklppcbaa
