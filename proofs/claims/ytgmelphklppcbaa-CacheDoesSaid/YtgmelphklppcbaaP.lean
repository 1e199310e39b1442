/- The walk of CacheHits. -/
import Derived.Test.YtgmelphklppcbaaO
import Derived.Deep.RegionWith
namespace Go.Proofs.Ytgmelphklppcbaa
open Go.RowKit

theorem offer_yes {s : Ca} {k : ByteArray} (v : ByteArray) (h : offerB s k = true) : s.size ≠ 0 ∧ ∃ R, offerT s k v = (k, v) :: R := by
  by_cases hz : s.size = 0
  · rw [(offer_zero (v := v) hz).2] at h; cases h
  refine ⟨hz, ?_⟩
  by_cases hp : pl s.T k < s.T.length
  · rw [(offer_there hz hp).1, frontL_eq hp, pl_lt hp]; exact ⟨_, rfl⟩
  by_cases hr : s.T.length < s.size
  · rw [(offer_room hz hp hr).1]; exact ⟨_, rfl⟩
  by_cases hg : lastN s < often s.C k
  · rw [(offer_in hz hp hr hg).1]; exact ⟨_, rfl⟩
  · rw [(offer_out (v := v) hz hp hr hg).2] at h; cases h
theorem offer_not {s : Ca} {k : ByteArray} (v : ByteArray) (h : offerB s k = false) (hT : s.T.length ≤ s.size) : offerC s k v = s ∧ ¬ pl s.T k < s.T.length := by
  unfold offerC
  by_cases hz : s.size = 0
  · rw [(offer_zero hz).1]; exact ⟨rfl, by omega⟩
  by_cases hp : pl s.T k < s.T.length
  · rw [(offer_there (v := v) hz hp).2] at h; cases h
  by_cases hr : s.T.length < s.size
  · rw [(offer_room (v := v) hz hp hr).2] at h; cases h
  by_cases hg : lastN s < often s.C k
  · rw [(offer_in (v := v) hz hp hr hg).2] at h; cases h
  · rw [(offer_out hz hp hr hg).1]; exact ⟨rfl, hp⟩

theorem pl_head (k v : ByteArray) (R : Ts) : pl ((k, v) :: R) k = 0 := by
  unfold pl
  rw [List.findIdx_cons]
  simp

/-- Get behind an Offer that took it. -/
theorem get_head {s : Ca} {k v : ByteArray} {R : Ts} (hz : s.size ≠ 0) (h : s.T = (k, v) :: R) : getV s k = v ∧ getB s k = true ∧ (getC s k).T = (k, v) :: R := by
  have hp : pl s.T k = 0 := by rw [h]; exact pl_head _ _ _
  have hl : pl s.T k < s.T.length := by rw [hp, h]; simp
  obtain ⟨e1, e2, e3⟩ := get_yes hz hl
  have e4 : s.T[pl s.T k] = (k, v) := by simp only [hp]; simp [h]
  rw [e4] at e1 e2
  refine ⟨e2, e3, ?_⟩
  rw [e1, hp]
  show frontL s.T 0 v = _
  rw [h, frontL_eq (by simp)]
  simp
theorem get_none {s : Ca} {k : ByteArray} (h : ¬ pl s.T k < s.T.length) : getV s k = ⟨#[]⟩ ∧ getB s k = false := by
  unfold getV getB
  rw [List.getElem?_eq_none (by omega)]
  exact ⟨rfl, decide_eq_false h⟩

theorem IsCache.good {w : World} {B c : Nat} {s : Ca} (h : IsCache w B c s) : Good s.C ∧ s.size ≤ 64 ∧ ∀ x ∈ s.T, x.1.size ≤ maxLen := by
  obtain ⟨bm, v, D, hb, h1, h2, hr, hm, ha, hg, h64, hTs, hk⟩ := h
  exact ⟨hg, h64, hk⟩

theorem newCa_zero {size : Int} : (newCa size).size = 0 ↔ size < 1 := by
  show (min (max size 0) 64).toNat = 0 ↔ _
  omega

/-- What a law's loop keeps: a cache behind k acts; what was there before the call. -/
def Lp (size : Int) (w : World) (B c k : Nat) (wr : World) : Prop := ∃ s, IsCache wr B c s ∧ Ok s k ∧ s.size = (newCa size).size ∧ Below w.heap.size w wr

theorem lp_step {size : Int} {w wr w' : World} {B c k : Nat} {s s' : Ca} (hB : w.heap.size ≤ B) (hb : Below w.heap.size w wr) (hs : s.size = (newCa size).size) (h1 : IsCache w' B c s') (h2 : Ok s' (k + 1)) (h3 : s'.size = s.size) (hf : Fr B wr w') : Lp size w B c (k + 1) w' :=
  ⟨s', h1, h2, h3.trans hs, hb.trans ⟨hf.os, hf.tape, hf.output, hf.size, fun j hj => hf.low j (by have := hb.size; omega) (by omega)⟩⟩

theorem below_fr {B : Nat} {w wr w' : World} (hB : w.heap.size ≤ B) (hb : Below w.heap.size w wr) (hf : Fr B wr w') : Below w.heap.size w w' :=
  hb.trans ⟨hf.os, hf.tape, hf.output, hf.size, fun j hj => hf.low j (by have := hb.size; omega) (by omega)⟩

set_option maxHeartbeats 3200000 in
set_option maxRecDepth 100000 in
theorem hits_any (size : Int) (key val : ByteArray) (sp : Option Addr) (cap : Nat) (l : List CAct) (w : World) (hl : ReadsA w sp l) (hmax : l.length ≤ maxLen) (hkey : key.size ≤ maxLen) :
    Calls Try.prog 7 #[.int .i64 size, .slice sp l.length cap, .string key, .string val] w fun e w' => e = .returned (.bool true) ∧ Below w.heap.size w w' := by
  have hmax0 := hmax
  unfold maxLen at hmax
  have hmax : l.length ≤ 9223372036854775807 := by omega
  go_enter Try.func7, Try.ntmps7
  go_wp2_with fail
  refine (works_any w).mono ?_
  rintro e w1 ⟨rfl, o1⟩
  have b1 : Below w.heap.size w w1 := o1.below (Nat.le_refl _) (fun _ h => h.elim)
  have hB := o1.size
  go_wp2_with fail
  refine (new_any size w1).mono ?_
  rintro e w2 ⟨c, rfl, hc, k2, f2⟩
  generalize w1.heap.size = B at hB hc k2 f2
  have b2 := below_fr hB b1 f2
  clear f2 b1 o1 hc
  go_wp2_with fail
  refine (few_any sp cap l w2 (hl.below b2) hmax0).mono ?_
  rintro e w3 ⟨fb, rfl, hfb, rfl⟩
  cases fb with
  | false =>
    clear hfb
    go_wp2
    go_ret
    exact ⟨rfl, b2⟩
  | true =>
    have hfew := hfb rfl
    clear hfb
    by_cases hk50 : 50 < key.size
    · have hd : decide ((50 : Int) < (key.size : Int)) = true := decide_eq_true (by omega)
      go_wp2
      go_ret
      exact ⟨rfl, b2⟩
    by_cases hv50 : 50 < val.size
    · have hd : decide ((50 : Int) < (key.size : Int)) = false := decide_eq_false (by omega)
      have hd2 : decide ((50 : Int) < (val.size : Int)) = true := decide_eq_true (by omega)
      go_wp2
      go_ret
      exact ⟨rfl, b2⟩
    have hd : decide ((50 : Int) < (key.size : Int)) = false := decide_eq_false (by omega)
    have hd2 : decide ((50 : Int) < (val.size : Int)) = false := decide_eq_false (by omega)
    have HL0 := Lib.hid (show Lp size w B c 0 w2 from ⟨_, k2, Ok.new size, rfl, b2⟩)
    clear k2 b2
    go_wp2_with fail
    go_loopw [12] (fun i wr => ∃ k : Nat, k ≤ l.length ∧ i = .int .i64 k ∧ Lp size w B c k wr) (fun i _ => l.length - (intOf i).toNat)
    case atStart => exact ⟨0, Nat.zero_le _, rfl, HL0.out⟩
    case round =>
      obtain ⟨k, hk, rfl, s, hs, hok, hsz, hb⟩ := hrel
      by_cases hlk : k < l.length
      · obtain ⟨b, off, rfl, hbl, hbl2, c0, c1, c2, hks⟩ := hl.at hb hlk
        have hC1 : s.C.length + 1 < maxLen := by have := hok.few; unfold maxLen; omega
        have hn1 : s.n < 1000 := by have := hok.calls; omega
        have j0 : (0 : Int) ≤ (k : Int) := by omega
        have j1 : (k : Int) < (l.length : Int) := by omega
        generalize l[k] = a at c0 c1 c2 hks
        clear hl
        by_cases h0 : a.k = 0
        · have t0 : (a.k == 0) = true := by simp [h0]
          have HG := Lib.hid (get_any c B s a.key wr hs hks hC1 hn1)
          go_wp2_with fail
          refine HG.out.mono ?_
          rintro e w4 ⟨rfl, k4, f4⟩
          go_wp2
          go_roundw
          case rel => exact ⟨k + 1, by omega, by go_num, lp_step hB hb hsz k4 (hok.get _) (size_getC _ _) f4⟩
          case measure => simp [intOf]; omega
        have t0 : (a.k == 0) = false := by simpa using h0
        by_cases h1 : a.k = 1
        · have t1 : (a.k == 1) = true := by simp [h1]
          go_upto_region 14 with fail
          go_region_with (go_at_call 15; refine (offer_any c B s a.key a.val _ (hs.keep (Only.refl _ _).drew) hks).mono ?_; rintro e w4 ⟨rfl, k4, f4⟩)
          all_goals
            have f4' : Fr B wr w4 := (Fr.of_none B (Only.refl _ _).drew).trans f4
            go_wp2
            go_roundw
            case rel => exact ⟨k + 1, by omega, by go_num, lp_step hB hb hsz k4 (hok.offer _ _) rfl f4'⟩
            case measure => simp [intOf]; omega
        have t1 : (a.k == 1) = false := by simpa using h1
        have HG := Lib.hid (forget_any c B s a.key wr hs)
        go_wp2_with fail
        refine HG.out.mono ?_
        rintro e w4 ⟨rfl, k4, f4⟩
        go_wp2
        go_roundw
        case rel => exact ⟨k + 1, by omega, by go_num, lp_step hB hb hsz k4 (hok.forget _) (size_forgetC _ _) f4⟩
        case measure => simp [intOf]; omega
      · have hC1 : s.C.length + 1 < maxLen := by have := hok.few; unfold maxLen; omega
        have hn1 : s.n < 1000 := by have := hok.calls; omega
        clear hl
        cases hoff : offerB s key with
        | false =>
          obtain ⟨e0, ep⟩ := offer_not val hoff hok.room
          obtain ⟨g1, g2⟩ := get_none ep
          have HO := Lib.hid (offer_any c B s key val wr hs hkey)
          have HH := Lib.hid (And.intro hoff (And.intro e0 (And.intro g1 g2)))
          clear hoff e0 ep g1 g2
          go_wp2_with fail
          refine HO.out.mono ?_
          rintro e w4 ⟨he, k4, f4⟩
          rw [HH.out.1] at he
          subst he
          have k4 : IsCache w4 B c s := by rw [← HH.out.2.1]; exact k4
          have b4 := below_fr hB hb f4
          clear f4
          go_wp2_with fail
          refine (often_any c B s key w4 k4 hkey).mono ?_
          rintro e w5 ⟨rfl, rfl⟩
          have HG := Lib.hid (get_any c B s key w5 k4 hkey hC1 hn1)
          go_wp2_with fail
          refine HG.out.mono ?_
          rintro e w6 ⟨he, k6, f6⟩
          rw [HH.out.2.2.1, HH.out.2.2.2] at he
          subst he
          have b6 := below_fr hB b4 f6
          clear f6 k4
          go_wp2_with fail
          refine (keys_any c B (getC s key) w6 k6).mono ?_
          rintro e w7 ⟨v, rfl, hv, o7⟩
          have b7 := b6.trans (o7.below (B := w.heap.size) b6.size (fun _ h => h.elim))
          have k7 := k6.keep o7
          obtain ⟨sv, cv, rfl, hvl, _⟩ := hv.shape
          by_cases hz : size < 1
          · have hz0 : s.size = 0 := by rw [hsz]; exact newCa_zero.2 hz
            have e2 : getC s key = s := getC_zero hz0
            have e3 : (keysOf s.T).length = 0 := by rw [keysOf_length]; have := hok.room; omega
            have e4 : s.C.length = 0 := by rw [hok.none hz0]; rfl
            rw [e2] at k7 ⊢
            rw [e3]
            have hd3 : decide (size < 1) = true := decide_eq_true hz
            have HCt := counted_any c B s w7 k7
            rw [e4] at HCt
            have HC := Lib.hid HCt
            clear HCt e3 e4 e2
            go_wp2_with fail
            refine HC.out.mono ?_
            rintro e w8 ⟨rfl, rfl⟩
            go_wp2
            go_ret
            exact ⟨rfl, b7⟩
          · have hd3 : decide (size < 1) = false := decide_eq_false hz
            go_wp2
            go_ret
            exact ⟨rfl, b7⟩
        | true =>
          obtain ⟨hz0, R, e0⟩ := offer_yes val hoff
          obtain ⟨g1, g2, g3⟩ := get_head (s := offerC s key val) hz0 e0
          have HO := Lib.hid (offer_any c B s key val wr hs hkey)
          have h15 := often_le hs.good.1 key
          have HH := Lib.hid (And.intro hoff (And.intro g1 (And.intro g2 g3)))
          have hz : ¬ size < 1 := fun h => hz0 (by rw [hsz]; exact newCa_zero.2 h)
          have hd3 : decide (size < 1) = false := decide_eq_false hz
          clear hoff e0 g1 g2 g3
          go_wp2_with fail
          refine HO.out.mono ?_
          rintro e w4 ⟨he, k4, f4⟩
          rw [HH.out.1] at he
          subst he
          have k4 : IsCache w4 B c (offerC s key val) := k4
          have b4 := below_fr hB hb f4
          clear f4
          go_wp2_with fail
          refine (often_any c B _ key w4 k4 hkey).mono ?_
          rintro e w5 ⟨rfl, rfl⟩
          have HG := Lib.hid (get_any c B _ key w5 k4 hkey hC1 hn1)
          go_wp2_with fail
          refine HG.out.mono ?_
          rintro e w6 ⟨he, k6, f6⟩
          rw [HH.out.2.1, HH.out.2.2.1] at he
          subst he
          have b6 := below_fr hB b4 f6
          clear f6 k4
          go_wp2_with fail
          refine (keys_any c B _ w6 k6).mono ?_
          rintro e w7 ⟨v, rfl, hv, o7⟩
          have b7 := b6.trans (o7.below (B := w.heap.size) b6.size (fun _ h => h.elim))
          have ek : keysOf (getC (offerC s key val) key).T = key :: keysOf R := by rw [HH.out.2.2.2]; rfl
          rw [ek] at hv
          obtain ⟨sv, cv, rfl, hvl, hc⟩ := hv.shape
          obtain ⟨g, rfl, hgl, _, hc⟩ := hc (by simp)
          have hc0 := hc 0 (by simp)
          simp only [List.getElem_cons_zero] at hc0
          have hlen : (key :: keysOf R).length = (keysOf R).length + 1 := by simp
          rw [hlen]
          have tv : (val.toList == val.toList) = true := text_eq.2 rfl
          have tk : (key.toList == key.toList) = true := text_eq.2 rfl
          have i1 : decide ((1 : Int) ≤ ((keysOf R).length : Int) + 1) = true := decide_eq_true (by omega)
          have i2 : decide ((often s.C key : Int) ≤ 15) = true := decide_eq_true (by omega)
          have i3 : (0 : Int) < ((keysOf R).length : Int) + 1 := by omega
          clear hc hv hlen ek
          have e5 : (offerC s key val).C = s.C := rfl
          rw [e5]
          go_wp2
          go_ret
          exact ⟨rfl, b7⟩

end Go.Proofs.Ytgmelphklppcbaa
