/- The contract of Offer. -/
import Derived.Test.YtgmelphklppcbaaK
namespace Go.Proofs.Ytgmelphklppcbaa
open Go.RowKit
open Go.Maps (Keyed Tidy IsMap has size)

/-- How high the last thing's key is counted. -/
def lastN (s : Ca) : Nat := match s.T[s.T.length - 1]? with | some x => often s.C x.1 | none => 0
/-- What Offer leaves, and answers. -/
def offerT (s : Ca) (k v : ByteArray) : Ts :=
  if s.size = 0 then s.T else if pl s.T k < s.T.length then frontL s.T (pl s.T k) v else if s.T.length < s.size then (k, v) :: s.T else if lastN s < often s.C k then (k, v) :: s.T.take (s.T.length - 1) else s.T
def offerB (s : Ca) (k : ByteArray) : Bool :=
  if s.size = 0 then false else if pl s.T k < s.T.length then true else if s.T.length < s.size then true else decide (lastN s < often s.C k)

theorem offer_zero {s : Ca} {k v : ByteArray} (h : s.size = 0) : offerT s k v = s.T ∧ offerB s k = false := by unfold offerT offerB; simp [h]
theorem offer_there {s : Ca} {k v : ByteArray} (h : ¬ s.size = 0) (h1 : pl s.T k < s.T.length) : offerT s k v = frontL s.T (pl s.T k) v ∧ offerB s k = true := by unfold offerT offerB; simp [h, h1]
theorem offer_room {s : Ca} {k v : ByteArray} (h : ¬ s.size = 0) (h1 : ¬ pl s.T k < s.T.length) (h2 : s.T.length < s.size) : offerT s k v = (k, v) :: s.T ∧ offerB s k = true := by unfold offerT offerB; simp [h, h1, h2]
theorem offer_in {s : Ca} {k v : ByteArray} (h : ¬ s.size = 0) (h1 : ¬ pl s.T k < s.T.length) (h2 : ¬ s.T.length < s.size) (h3 : lastN s < often s.C k) : offerT s k v = (k, v) :: s.T.take (s.T.length - 1) ∧ offerB s k = true := by unfold offerT offerB; simp [h, h1, h2, h3]
theorem offer_out {s : Ca} {k v : ByteArray} (h : ¬ s.size = 0) (h1 : ¬ pl s.T k < s.T.length) (h2 : ¬ s.T.length < s.size) (h3 : ¬ lastN s < often s.C k) : offerT s k v = s.T ∧ offerB s k = false := by unfold offerT offerB; simp [h, h1, h2, h3]

theorem front_last {T : Ts} {k u v : ByteArray} : frontL (T ++ [(k, u)]) T.length v = (k, v) :: T := by
  rw [frontL_eq (by simp)]
  simp
theorem front_set {T : Ts} {k u v : ByteArray} (h : 0 < T.length) : frontL (T.set (T.length - 1) (k, u)) (T.length - 1) v = (k, v) :: T.take (T.length - 1) := by
  rw [frontL_eq (by simp; omega)]
  simp only [List.getElem_set_self]
  congr 1
  rw [List.drop_eq_nil_of_le (by simp; omega), List.append_nil, List.take_set_of_le (Nat.le_refl _)]

theorem flat_set {T : Ts} {i : Nat} {k : ByteArray} (h : i < T.length) : (flat T).set (i * 2) (.string k) = flat (T.set i (k, T[i].2)) := by
  induction T generalizing i with
  | nil => cases h
  | cons x l ih =>
    cases i with
    | zero => rfl
    | succ i =>
      rw [show (i + 1) * 2 = i * 2 + 1 + 1 by omega]
      simp only [flat, List.set_cons_succ, List.getElem_cons_succ, ih (by simpa using h)]

theorem grown_unB {B : Nat} {w w1 : World} {v : Value} {n : Nat} {xs : List Value} (_ho : w.ownsRow B 59 2 v n xs) (o : Obj) (hg : (w.alloc o).grownBy w1 v.ownBlock) : Only w w1 (fun k => some k = v.ownBlock) :=
  ⟨hg.os, hg.tape, hg.output, by have := hg.size; simp at this; omega, fun k hk hs => (hg.block k (by simp; omega) hs).trans (Below.heap_alloc _ _ _ hk)⟩

theorem news2 (w : World) (x y : Value) : ∀ j u, [x, y][j]? = some u → (w.alloc (.cells #[x, y] 59)).cell? ((⟨w.heap.size, 0, none⟩ : Addr).add j) = some u := by
  intro j u hj
  rw [Addr.add_lit, Nat.zero_add]
  simp only [World.cell?, heap_alloc_new]
  simpa using hj

theorem own_ne {w : World} {m : Nat} {xs : Array Value} {t e : TypeId} {base size n : Nat} {v : Value} {ys : List Value} (h : w.heap[m]? = some (.cells xs t (0, 0))) (ho : w.ownsRow base e size v n ys) (ht : t ≠ e) : v.ownBlock ≠ some m := by
  rcases ho.2 with ⟨rfl, _⟩ | ⟨g, cap, cur, rfl, _, hg, _⟩
  · simp [Value.ownBlock]
  · intro e0
    simp only [Value.ownBlock, Option.some.injEq] at e0
    subst e0
    rw [hg] at h
    simp at h
    exact ht h.2.symm

def OfferEnd (s : Ca) (k v : ByteArray) (B c : Nat) (w : World) (e : Ending) (w' : World) : Prop :=
  e = .returned (.bool (offerB s k)) ∧ IsCache w' B c { s with T := offerT s k v } ∧ Fr B w w'

set_option maxHeartbeats 1600000 in
theorem offer_any (c B : Nat) (s : Ca) (key val : ByteArray) (w : World) (hc : IsCache w B c s) (hkey : key.size ≤ maxLen) :
    Calls Try.prog 15 #[.pointer (some ⟨c, 0, none⟩), .string key, .string val] w (OfferEnd s key val B c w) := by
  obtain ⟨c0, c3, hlt, h64, hTs⟩ := hc.open
  by_cases hz : s.size = 0
  · have hd : ((s.size : Int) == 0) = true := by simp; omega
    have HE := Lib.hid (offer_zero (k := key) (v := val) hz)
    go_enter Try.func15, Try.ntmps15
    go_wp2
    go_ret
    exact ⟨by rw [HE.out.2]; rfl, by rw [HE.out.1]; exact hc, Fr.refl _ _⟩
  have hd : ((s.size : Int) == 0) = false := by simp; omega
  have HPL := Lib.hid (place_any c B s key w hc)
  by_cases hp : pl s.T key < s.T.length
  · have HE := Lib.hid (offer_there (v := val) hz hp)
    have h := HPL.out
    rw [plI_yes hp] at h
    have HPL2 := Lib.hid h
    clear h HPL
    have hdn : decide ((pl s.T key : Int) ≥ 0) = true := decide_eq_true (by omega)
    have hdn2 : decide ((0 : Int) ≤ (pl s.T key : Int)) = true := decide_eq_true (by omega)
    have i1 : IntKind.i64.wrap ((s.T.length : Int) - 1) = (s.T.length : Int) - 1 := IntWalk.i64_in _ (by omega)
    go_enter Try.func15, Try.ntmps15
    go_wp2_with fail
    refine HPL2.out.mono ?_
    rintro e w4 ⟨rfl, o4⟩
    have k4 := hc.keep o4
    have F4 := Lib.hid (Fr.of_none B o4)
    obtain ⟨g, cap, x1, hgl, x2, x3⟩ := k4.thing hp
    have hl4 := k4.lt.1
    have HF := Lib.hid (front_any c B (pl s.T key) s val w4 k4 hp)
    go_wp2_with fail
    refine HF.out.mono ?_
    rintro e w5 ⟨rfl, k5, f5⟩
    go_wp2
    go_ret
    exact ⟨by rw [HE.out.2]; rfl, by rw [HE.out.1]; exact k5, F4.out.trans f5⟩
  have h := HPL.out
  rw [plI_no hp] at h
  have HPL2 := Lib.hid h
  clear h HPL
  by_cases hroom : s.T.length < s.size
  · have HE := Lib.hid (offer_room (v := val) hz hp hroom)
    have i1 : IntKind.i64.wrap ((s.T.length : Int) - 1) = (s.T.length : Int) - 1 := IntWalk.i64_in _ (by omega)
    have i2 : decide ((s.T.length : Int) < (s.size : Int)) = true := decide_eq_true (by omega)
    go_enter Try.func15, Try.ntmps15
    go_wp2_with fail
    refine HPL2.out.mono ?_
    rintro e w4 ⟨rfl, o4⟩
    have F4 := Lib.hid (Fr.of_none B o4)
    obtain ⟨i0, hi, hz0, hz1, hz2⟩ := info_parts info59
    have k4 := hc.keep o4
    obtain ⟨bm', v', _, hb', _, _, hr', _⟩ := k4
    have k4 := hc.keep o4
    obtain ⟨c0, c1, c2, c3⟩ := cells4 hb'
    obtain ⟨sp', cap', rfl⟩ := own_shape hr'
    have hlt4 := lt_of_block hb'
    go_upto_region 8 with fail
    go_quiet (fail)
    have k5 := k4.drewN nq
    have f5 : Fr B w (w4.drewN nq) := F4.out.trans (Fr.of_none B ((Only.refl _ _).drewN _))
    have c1 : (w4.drewN nq).cell? ⟨c, 1, none⟩ = some (.slice sp' s.T.length cap') := c1
    clear hb' hr' k4 c0 c2 c3 F4 o4 hlt4
    generalize w4.drewN nq = w5 at k5 f5 c1 ⊢
    obtain ⟨bm, v, D, hb, h1, h2, hr, hm, ha, hg, _, _, hk⟩ := k5
    obtain rfl : v = .slice sp' s.T.length cap' := by
      have := (cells4 hb).2.1
      rw [c1] at this
      exact (Option.some.inj this).symm
    have hlt5 := lt_of_block hb
    have hBs : B ≤ w5.heap.size := by omega
    go_wp2_with (at_builtin; refine wpList_append_own _ rfl _ _ _ rfl B 59 i0 _ 2 32 Try.underlying55 hi hz0 hz1 hz2 rfl (by omega) _ s.T.length _ rfl (hr.alloc _) ⟨w5.heap.size, 0, none⟩ 1 1 [.string key, .string ⟨#[]⟩] rfl rfl (news2 _ _ _) (by simp [Value.oneCell']) (by unfold maxLen; omega) (by omega) (by simp; omega) ?_)
    intro v' w6 hown6 hgrow6 _
    have ho6 := grown_unB hr _ hgrow6
    have hne := own_ne hb hr (by decide)
    have hb6 := ho6.keep hb (fun e => hne e.symm)
    have hlen : (s.T ++ [(key, (⟨#[]⟩ : ByteArray))]).length = s.T.length + 1 := by simp
    have hfl : flat (s.T ++ [(key, (⟨#[]⟩ : ByteArray))]) = flat s.T ++ [.string key, .string ⟨#[]⟩] := by rw [flat_append]; rfl
    rw [← hfl, ← hlen] at hown6
    obtain ⟨sp2, cap2, rfl⟩ := own_shape hown6
    have ho7 : Only w5 (w6.setCell ⟨c, 1, none⟩ (.slice sp2 (s.T ++ [(key, (⟨#[]⟩ : ByteArray))]).length cap2)) (fun k => k = c ∨ some k = (Value.slice sp' s.T.length cap').ownBlock) :=
      (ho6.mono (fun k e => .inr e)).trans (Only.setCell _ _ _ _ _ (.inl rfl))
    have hrow : (w6.setCell ⟨c, 1, none⟩ (.slice sp2 (s.T ++ [(key, (⟨#[]⟩ : ByteArray))]).length cap2)).ownsRow B 59 2 (.slice sp2 (s.T ++ [(key, (⟨#[]⟩ : ByteArray))]).length cap2) (s.T ++ [(key, (⟨#[]⟩ : ByteArray))]).length (flat (s.T ++ [(key, (⟨#[]⟩ : ByteArray))])) :=
      ownsRow_setCell_other hown6 (own_ne hb6 hown6 (by decide)) _
    have hk7 := cache_row hb h1 h2 hr hm ha hg h64 ho7 (heap_set hb6 1 _) hrow (by rw [hlen]; omega) (fun x hx => by
      rcases List.mem_append.1 hx with hx | hx
      · exact hk _ hx
      · obtain rfl := List.mem_singleton.1 hx
        exact hkey)
    rw [hlen] at hk7
    have hft := front_last (T := s.T) (k := key) (u := ⟨#[]⟩) (v := val)
    have HF := Lib.hid (front_any c B s.T.length _ val _ hk7.1 (by show _ < (s.T ++ [(key, (⟨#[]⟩ : ByteArray))]).length; rw [hlen]; omega))
    have HFT := Lib.hid hft
    have F7 := Lib.hid (f5.trans hk7.2)
    have fr := free_arr hb6 1
    have c1 := (cells4 hb6).2.1
    have hlt6 := lt_of_block hb6
    have i3 : IntKind.i64.wrap ((s.T.length : Int) + 1 - 1) = (s.T.length : Int) := by rw [IntWalk.i64_in _ (by omega)]; omega
    have i4 : IntKind.i64.wrap (s.T.length : Int) = (s.T.length : Int) := IntWalk.i64_in _ (by omega)
    rw [hlen]
    clear hown6 hgrow6 hr hm ha hk7 ho7 hrow hft hfl hb6 hb ho6 hne hk hlen
    go_wp2_with fail
    refine HF.out.mono ?_
    rintro e w8 ⟨rfl, k8, f8⟩
    go_wp2
    go_ret
    exact ⟨by rw [HE.out.2]; rfl, by rw [HE.out.1, ← HFT.out]; exact k8, F7.out.trans f8⟩
  · obtain ⟨m, hmE⟩ : ∃ m, m = s.T.length - 1 := ⟨_, rfl⟩
    have hml : m < s.T.length := by omega
    have hpos : 0 < s.T.length := by omega
    have i1 : IntKind.i64.wrap ((s.T.length : Int) - 1) = (m : Int) := by rw [IntWalk.i64_in _ (by omega)]; omega
    have i2 : decide ((s.T.length : Int) < (s.size : Int)) = false := decide_eq_false (by omega)
    have hlast : lastN s = often s.C s.T[m].1 := by
      unfold lastN
      rw [← hmE, List.getElem?_eq_getElem hml]
    have HM := Lib.hid hmE
    clear hmE
    go_enter Try.func15, Try.ntmps15
    go_wp2_with fail
    refine HPL2.out.mono ?_
    rintro e w4 ⟨rfl, o4⟩
    have F4 := Lib.hid (Fr.of_none B o4)
    have k4 := hc.keep o4
    obtain ⟨c0, c3, hlt4, _, _⟩ := k4.open
    obtain ⟨g, cap, c1, hgl, x2, x3⟩ := k4.thing hml
    go_upto_region 8 with fail
    go_quiet (fail)
    have k5 := k4.drewN nq
    have f5 : Fr B w (w4.drewN nq) := F4.out.trans (Fr.of_none B ((Only.refl _ _).drewN _))
    clear c0 c1 c3 x2 x3 hlt4 hgl F4 o4 k4
    generalize w4.drewN nq = w5 at k5 f5 ⊢
    have K5 := Lib.hid k5
    obtain ⟨bm, v, D, hb, h1, h2, hr, hm, ha, hg, _, _, hk⟩ := k5
    obtain ⟨sp, cap, rfl⟩ := own_shape hr
    obtain ⟨g, cur, rfl, hBg, hgg, hnc, hcm, hcs, ht⟩ := own_open hr hpos
    obtain ⟨c0, c1, c2, c3⟩ := cells4 hb
    have hlt5 := lt_of_block hb
    have hgl := lt_of_block hgg
    obtain ⟨x2, x3⟩ := row_cells hgg ht rfl hml
    have hk1 := key_kl hkey
    have hk2 := key_kl (hk _ (List.getElem_mem hml))
    obtain ⟨x, hrun, hat, hwx⟩ := hm.drew.lookup_int law Try.underlying54 Try.underlying3 (zeroE _) hk1
    have hx := (ha.2.2 key).1
    rw [hat] at hx
    simp only [DataW.lit.injEq, Lit.int.injEq, true_and] at hx
    subst hx
    obtain ⟨y, hrun2, hat2, hwx2⟩ := hm.drew.lookup_int law Try.underlying54 Try.underlying3 (zeroE _) hk2
    have hy := (ha.2.2 s.T[m].1).1
    rw [hat2] at hy
    simp only [DataW.lit.injEq, Lit.int.injEq, true_and] at hy
    subst hy
    have j0 : (0 : Int) ≤ (m : Int) := by omega
    have j1 : (m : Int) < (s.T.length : Int) := by omega
    clear hat hat2 hwx hwx2
    by_cases hgt : lastN s < often s.C key
    · have HE := Lib.hid (offer_in (v := val) hz hp hroom hgt)
      rw [hlast] at hgt
      have hd3 : decide ((often s.C s.T[m].1 : Int) < (often s.C key : Int)) = true := decide_eq_true (by omega)
      clear hlast
      go_upto_region 12 with fail
      go_region
      have hcg : c ≠ g := by rintro rfl; rw [hb] at hgg; simp at hgg
      have fr := free_arr hgg (m * 2)
      have hTl : (s.T.set m (key, s.T[m].2)).length = s.T.length := by simp
      have ho7 : Only w5 (w5.drew.setCell ⟨g, m * 2, none⟩ (.string key)) (fun k => k = c ∨ some k = (Value.slice (some ⟨g, 0, none⟩) s.T.length cap).ownBlock) :=
        ((Only.refl _ _).drew).trans (Only.setCell _ _ _ _ _ (.inr rfl))
      have hg7 : (w5.drew.setCell ⟨g, m * 2, none⟩ (.string key)).heap[g]? = _ := heap_set (w := w5.drew) hgg (m * 2) (.string key)
      have hb7 : (w5.drew.setCell ⟨g, m * 2, none⟩ (.string key)).heap[c]? = _ := (Below.heap_setCell w5.drew ⟨g, m * 2, none⟩ (.string key) c (by simpa using hcg)).trans hb
      have hrow : (w5.drew.setCell ⟨g, m * 2, none⟩ (.string key)).ownsRow B 59 2 (.slice (some ⟨g, 0, none⟩) s.T.length cap) (s.T.set m (key, s.T[m].2)).length (flat (s.T.set m (key, s.T[m].2))) := by
        rw [hTl]
        refine ⟨by rw [flat_length, hTl], .inr ⟨g, cap, _, rfl, hBg, hg7, hnc, hcm, by simpa using hcs, ?_⟩⟩
        rw [Array.toList_setIfInBounds, List.take_set, ht, flat_set hml]
      have hk7 := cache_row hb h1 h2 hr hm ha hg h64 ho7 hb7 hrow (by rw [hTl]; omega) (fun x hx => by
        rcases List.mem_or_eq_of_mem_set hx with hx | hx
        · exact hk _ hx
        · rw [hx]; exact hkey)
      have hft : frontL (s.T.set m (key, s.T[m].2)) m val = (key, val) :: s.T.take (s.T.length - 1) := by
        have := HM.out
        subst this
        exact front_set hpos
      have HF := Lib.hid (front_any c B m _ val _ hk7.1 (by show m < (s.T.set m (key, s.T[m].2)).length; rw [hTl]; exact hml))
      have HFT := Lib.hid hft
      have F7 := Lib.hid (f5.trans hk7.2)
      clear hk7 hft hrow hg7 hb7 ho7 hr hm ha hk hgg hrun hrun2
      go_wp2_with fail
      refine HF.out.mono ?_
      rintro e w8 ⟨rfl, k8, f8⟩
      go_wp2
      go_ret
      exact ⟨by rw [HE.out.2]; rfl, by rw [HE.out.1, ← HFT.out]; exact k8, F7.out.trans f8⟩
    · have HE := Lib.hid (offer_out (v := val) hz hp hroom hgt)
      rw [hlast] at hgt
      have hd3 : decide ((often s.C s.T[m].1 : Int) < (often s.C key : Int)) = false := decide_eq_false (by omega)
      clear hlast
      go_upto_region 12 with fail
      go_region
      go_wp2
      go_ret
      exact ⟨by rw [HE.out.2]; rfl, by rw [HE.out.1]; exact K5.out.drewN 1, f5.trans (Fr.of_none B (Only.refl _ _).drew)⟩

end Go.Proofs.Ytgmelphklppcbaa
