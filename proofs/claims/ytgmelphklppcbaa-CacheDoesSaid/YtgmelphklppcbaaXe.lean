/- The document's Get. -/
import Derived.Test.YtgmelphklppcbaaXd
namespace Go.Proofs.Ytgmelphklppcbaa
open Go.RowKit

/-- A cache stored into its variable. -/
theorem stage {w W : World} {b0 b1 : Nat} {p q r t : Value} {o : Obj} {va vc : Value} {s : Ca} (hne : b1 ≠ b0) (hb0 : w.heap.size ≤ b0) (k0 : W.heap[b0]? = some (.cells #[p, q, r, t] 30 (0, 0))) (k1 : W.heap[b1]? = some o) (hr : Ref W va vc s) (ho : Only w W (fun _ => False)) :
    ∃ W', W' = ((((W.setCell ⟨b0, 0, none⟩ (.int .i64 s.size)).setCell ⟨b0, 1, none⟩ va).setCell ⟨b0, 2, none⟩ vc).setCell ⟨b0, 3, none⟩ (.int .i64 s.n)) ∧
      W'.heap[b0]? = some (.cells #[.int .i64 s.size, va, vc, .int .i64 s.n] 30 (0, 0)) ∧ W'.heap[b1]? = some o ∧ Ref W' va vc s ∧ Only w W' (fun _ => False) := by
  refine ⟨_, rfl, store4 k0, ?_, hr.set4 ⟨_, k0⟩ _ _ _ _, only_set4 ho hb0⟩
  have h1 : ∀ (W : World) (j : Nat) (x : Value), W.heap[b1]? = some o → (W.setCell ⟨b0, j, none⟩ x).heap[b1]? = some o := fun W j x h => (Below.heap_setCell _ _ _ _ hne).trans h
  exact h1 _ _ _ (h1 _ _ _ (h1 _ _ _ (h1 _ _ _ k1)))

theorem frontL_dropK {T : Ts} {p : Nat} (hn : (keysOf T).Nodup) (hp : p < T.length) (v : ByteArray) : frontL T p v = (T[p].1, v) :: dropK T T[p].1 := by
  rw [frontL_eq hp]
  congr 1
  have e := keys_split hp
  rw [e] at hn
  have h' := (List.perm_middle.nodup_iff).1 hn
  have hk := (List.nodup_cons.1 h').1
  simp only [List.mem_append, not_or] at hk
  have key : ∀ U : Ts, T[p].1 ∉ keysOf U → dropK U T[p].1 = U := fun U hU => by
    refine List.filter_eq_self.2 fun x hx => ?_
    have : x.1 ≠ T[p].1 := fun q => hU (by rw [← q]; exact List.mem_map_of_mem (f := (·.1)) hx)
    simp [this]
  have e1 := key _ hk.1
  have e2 := key _ hk.2
  rw [show dropK T T[p].1 = dropK (T.take p ++ T[p] :: T.drop (p + 1)) T[p].1 from congrArg (fun U => dropK U T[p].1) (split_at hp)]
  unfold dropK at e1 e2 ⊢
  rw [List.filter_append, List.filter_cons_of_neg (by simp), e1, e2]

theorem dropK_short {T : Ts} {p : Nat} (hn : (keysOf T).Nodup) (hp : p < T.length) : (dropK T T[p].1).length + 1 = T.length := by
  have := congrArg List.length (frontL_dropK hn hp T[p].2)
  rw [frontL_length hp, List.length_cons] at this
  exact this.symm

/-- Behind counting, and behind moving to the front. -/
def movedC (s : Ca) (p : Nat) : Ca := match s.T[p]? with | some x => firstC s x | none => s
theorem movedC_eq {s : Ca} {p : Nat} (hp : p < s.T.length) : movedC s p = firstC s s.T[p] := by unfold movedC; rw [List.getElem?_eq_getElem hp]

theorem getC_there {s : Ca} {key : ByteArray} (hz : s.size ≠ 0) (hn : (keysOf s.T).Nodup) (hp : pl s.T key < s.T.length) :
    getC s key = if s.n + 1 = 10 * s.size then halvedC (firstC (countedC s key) s.T[pl s.T key]) else firstC (countedC s key) s.T[pl s.T key] := by
  rw [(get_yes hz hp).1, frontL_dropK hn hp]
  by_cases hb : s.n + 1 = 10 * s.size
  · rw [if_pos hb, (bump_eq hb).1, (bump_eq (k := key) hb).2]; rfl
  · rw [if_neg hb, (bump_ne hb).1, (bump_ne (k := key) hb).2]; rfl
theorem getC_absent {s : Ca} {key : ByteArray} (hz : s.size ≠ 0) (hp : ¬ pl s.T key < s.T.length) :
    getC s key = if s.n + 1 = 10 * s.size then halvedC (countedC s key) else countedC s key := by
  rw [(get_no hz hp).1]
  by_cases hb : s.n + 1 = 10 * s.size
  · rw [if_pos hb, (bump_eq hb).1, (bump_eq (k := key) hb).2]; rfl
  · rw [if_neg hb, (bump_ne hb).1, (bump_ne (k := key) hb).2]; rfl

def RGetEnd (s : Ca) (key : ByteArray) (w : World) (e : Ending) (w' : World) : Prop :=
  ∃ va vc, e = .returned (.tuple #[RV (getC s key) va vc, .string (getV s key), .bool (getB s key)]) ∧ Ref w' va vc (getC s key) ∧ Only w w' (fun _ => False)

set_option maxHeartbeats 3200000 in
theorem rget_zero (va vc : Value) (s : Ca) (key : ByteArray) (w : World) (h : Ref w va vc s) (hz : s.size = 0) (hT0 : s.T.length ≤ s.size) :
    Calls Try.prog 14 #[RV s va vc, .string key] w (RGetEnd s key w) := by
  have href := h
  obtain ⟨hT, hC, h64, hT64, hC64, hn⟩ := h
  obtain ⟨sp, cap, rfl, _⟩ := hT.shape
  obtain ⟨spc, capc, rfl, _⟩ := hC.shape
  obtain ⟨hg1, hg2, hg3⟩ := get_zero (k := key) hz hT0
  have HG := Lib.hid (And.intro hg1 (And.intro hg2 hg3))
  unfold RV
  obtain ⟨q0, k0, k1, q4⟩ := two w (.cells #[.int .i64 s.size, .slice sp s.T.length cap, .slice spc s.C.length capc, .int .i64 s.n] 30) (.cells #[.int .i64 0, .slice none 0 0, .slice none 0 0, .int .i64 0] 30)
  obtain ⟨w2, hw2⟩ : ∃ w2, w2 = ((w.alloc (.cells #[.int .i64 s.size, .slice sp s.T.length cap, .slice spc s.C.length capc, .int .i64 s.n] 30)).alloc (.cells #[.int .i64 0, .slice none 0 0, .slice none 0 0, .int .i64 0] 30)) := ⟨_, rfl⟩
  rw [← hw2] at q0 k0 k1 q4
  have HW2 := Lib.hid hw2
  have hd : decide ((0 : Int) < (s.size : Int)) = false := decide_eq_false (by omega)
  have hd' : decide (0 < s.size) = false := decide_eq_false (by omega)
  obtain ⟨x0, x1, x2, x3⟩ := cells4 k0
  have hlb := lt_of_block k0
  have HF := rfind_any _ _ s key w2 (href.only q0)
  rw [show plI s.T key = -1 from plI_no (by omega)] at HF
  have HF := Lib.hid HF
  clear hw2 hg1 hg2 hg3 hz q4
  unfold RV at HF
  go_enter Try.func14, Try.ntmps14
  go_wp2_with fail
  rw [← HW2.out]
  refine HF.out.mono ?_
  rintro e w3 ⟨rfl, o3⟩
  have k0 := o3.keep k0 (fun h => h)
  have k1 := o3.keep k1 (fun h => h)
  have hr := (href.only q0).only o3
  have ho := q0.trans o3
  clear o3 q0 href x0 x1 x2 x3 hlb
  obtain ⟨x0, x1, x2, x3⟩ := cells4 k0
  obtain ⟨z0, z1, z2, z3⟩ := cells4 k1
  have hlb := lt_of_block k0
  have hlb1 := lt_of_block k1
  have g0 := free_arr k1 0
  have g1 := free_arr k1 1
  have g2 := free_arr k1 2
  have g3 := free_arr k1 3
  obtain ⟨W9, hW9, m1, _, hr9, ho9⟩ := stage (b1 := w.heap.size) (b0 := w.heap.size + 1) (by omega) (by omega) k1 k0 hr ho
  obtain ⟨e0, e1, e2, e3⟩ := cells4 m1
  have HW9 := Lib.hid hW9
  have HE := Lib.hid (And.intro hr9 ho9)
  clear hr ho hr9 ho9 k0 k1 m1 hW9
  go_wp2
  rw [← HW9.out]
  refine bodyPost_ret (v := .tuple #[.agg #[.int .i64 s.size, (.slice sp s.T.length cap), (.slice spc s.C.length capc), .int .i64 s.n], .string ⟨#[]⟩, .bool false]) ?_ rfl ?_
  · simp [results, Try.results14, go_sem, e0, e1, e2, e3]
  · refine ⟨_, _, ?_, by rw [HG.out.1]; exact HE.out.1, HE.out.2⟩
    rw [HG.out.1, HG.out.2.1, HG.out.2.2]
    rfl

set_option maxHeartbeats 6400000 in
theorem rget_pos (va vc : Value) (s : Ca) (key : ByteArray) (w : World) (h : Ref w va vc s) (hz : s.size ≠ 0) (hg : Good s.C) (hnd : (keysOf s.T).Nodup) (hT0 : s.T.length ≤ s.size) (hCl : s.C.length < 1000) (hnl : s.n < 1000) :
    Calls Try.prog 14 #[RV s va vc, .string key] w (RGetEnd s key w) := by
  have href := h
  obtain ⟨hT, hC, h64, hT64, hC64, hn⟩ := h
  obtain ⟨sp, cap, rfl, hcT⟩ := hT.shape
  obtain ⟨spc, capc, rfl, _⟩ := hC.shape
  unfold RV
  obtain ⟨q0, k0, k1, q4⟩ := two w (.cells #[.int .i64 s.size, .slice sp s.T.length cap, .slice spc s.C.length capc, .int .i64 s.n] 30) (.cells #[.int .i64 0, .slice none 0 0, .slice none 0 0, .int .i64 0] 30)
  obtain ⟨w2, hw2⟩ : ∃ w2, w2 = ((w.alloc (.cells #[.int .i64 s.size, .slice sp s.T.length cap, .slice spc s.C.length capc, .int .i64 s.n] 30)).alloc (.cells #[.int .i64 0, .slice none 0 0, .slice none 0 0, .int .i64 0] 30)) := ⟨_, rfl⟩
  rw [← hw2] at q0 k0 k1 q4
  have HW2 := Lib.hid hw2
  have hpos : 0 < s.size := Nat.pos_of_ne_zero hz
  have hd : decide ((0 : Int) < (s.size : Int)) = true := decide_eq_true (Int.natCast_pos.2 hpos)
  have hd' : decide (0 < s.size) = true := decide_eq_true hpos
  obtain ⟨x0, x1, x2, x3⟩ := cells4 k0
  have hlb := lt_of_block k0
  have fr0 := free_arr k0 0
  have fr1 := free_arr k0 1
  have fr2 := free_arr k0 2
  have fr3 := free_arr k0 3
  have HCt := Lib.hid (rcounted_any _ _ s key w2 (href.only q0) hg hCl hnl)
  unfold RV at HCt
  clear hw2 q4
  go_enter Try.func14, Try.ntmps14
  go_wp2_with fail
  rw [← HW2.out]
  refine HCt.out.mono ?_
  rintro e w3 ⟨vc3, rfl, r3, o3⟩
  clear x0 x1 x2 x3 hlb fr0 fr1 fr2 fr3
  have k0 := o3.keep k0 (fun h => h)
  have k1 := o3.keep k1 (fun h => h)
  have ho := q0.trans o3
  obtain ⟨sp3, cap3, rfl, _⟩ := r3.2.1.shape
  obtain ⟨s1, hs1⟩ : ∃ s1, s1 = countedC s key := ⟨_, rfl⟩
  have hT1 : s1.T = s.T := by rw [hs1]; rfl
  have hz1 := Lib.hid (show s1.size = s.size by rw [hs1]; rfl)
  have hn1 := Lib.hid (show s1.n = s.n + 1 by rw [hs1]; rfl)
  have hg1 : Good s1.C := by rw [hs1]; exact count1_good hg key
  rw [← hs1] at r3 ⊢
  have HS1 := Lib.hid hs1
  clear hs1
  generalize s1.C.length = n3 at r3 ⊢
  obtain ⟨W4, hW4, m0, m1, hr, ho⟩ := stage (b0 := w.heap.size) (b1 := w.heap.size + 1) (by omega) (Nat.le_refl _) k0 k1 r3 ho
  have HW4 := Lib.hid hW4
  have HFi := rfind_any _ _ s1 key W4 hr
  rw [hT1] at HFi
  have HT1 := Lib.hid hT1
  clear hT1
  unfold RV at HFi
  obtain ⟨x0, x1, x2, x3⟩ := cells4 k0
  have hlb := lt_of_block k0
  have fr0 := free_arr k0 0
  have fr1 := free_arr k0 1
  have fr2 := free_arr k0 2
  have fr3 := free_arr k0 3
  clear r3 o3 q0
  by_cases hp : pl s.T key < s.T.length
  · rw [plI_yes hp] at HFi
    have HFi := Lib.hid HFi
    have hgt := getC_there hz hnd hp
    have hgyv := (get_yes hz hp).2
    have hds := dropK_short hnd hp
    go_wp2_with fail
    rw [← HW4.out]
    refine HFi.out.mono ?_
    rintro e w5 ⟨rfl, o5⟩
    clear x0 x1 x2 x3 hlb fr0 fr1 fr2 fr3
    clear k0 k1 hW4 HW4
    have k0 := o5.keep m0 (fun h => h)
    have k1 := o5.keep m1 (fun h => h)
    have hr := hr.only o5
    have ho := ho.trans o5
    clear m0 m1 o5
    obtain ⟨g, rfl, hgl, hc⟩ := hcT (by omega)
    obtain ⟨c0, c1⟩ := hc _ hp
    have c0 := (World.cell?_of_block (a := ⟨g, pl s.T key * 2, none⟩) (ho.block g hgl (fun h => h))).trans c0
    have c1 := (World.cell?_of_block (a := ⟨g, pl s.T key * 2 + 1, none⟩) (ho.block g hgl (fun h => h))).trans c1
    have hgl : g < w5.heap.size := Nat.lt_of_lt_of_le hgl ho.size
    have j0 : (0 : Int) ≤ (pl s.T key : Int) := by omega
    have j1 : (pl s.T key : Int) < (s.T.length : Int) := by omega
    have j2 : decide ((pl s.T key : Int) ≥ 0) = true := decide_eq_true (by omega)
    have j3 : decide ((0 : Int) ≤ (pl s.T key : Int)) = true := decide_eq_true (by omega)
    have HFst := Lib.hid (rfirst_any _ _ s1 s.T[pl s.T key] w5.drew (hr.only (Only.refl _ _).drew) (by rw [HT1.out]; omega))
    generalize s.T[pl s.T key] = x at c0 c1 HFst hgt hgyv hds
    rw [← HS1.out] at hgt
    obtain ⟨s2, hs2⟩ : ∃ s2, s2 = firstC s1 x := ⟨_, rfl⟩
    have hSz := Lib.hid (show s2.size = s.size by rw [hs2]; exact hz1.out)
    have hSn := Lib.hid (show s2.n = s.n + 1 by rw [hs2]; exact hn1.out)
    have hSC : Good s2.C := by rw [hs2]; exact hg1
    rw [← hs2] at hgt HFst
    have hget1 : s.n + 1 = 10 * s.size → getC s key = halvedC s2 ∧ getV s key = x.2 ∧ getB s key = true := fun hb => ⟨by rw [hgt, if_pos hb], hgyv⟩
    have hget2 : ¬ s.n + 1 = 10 * s.size → getC s key = s2 ∧ getV s key = x.2 ∧ getB s key = true := fun hb => ⟨by rw [hgt, if_neg hb], hgyv⟩
    unfold RV at HFst
    obtain ⟨x0, x1, x2, x3⟩ := cells4 k0
    have hlb := lt_of_block k0
    have fr0 := free_arr k0 0
    have fr1 := free_arr k0 1
    have fr2 := free_arr k0 2
    have fr3 := free_arr k0 3
    clear hc hcT hs2 hgt hgyv hds hT hC href HCt
    go_upto_region 7 with fail
    go_cut [] (fun wx => ∃ sp6 n6 cap6, wx.heap[w.heap.size]? = some (.cells #[.int .i64 s2.size, .slice sp6 n6 cap6, .slice sp3 n3 cap3, .int .i64 s2.n] 30 (0, 0)) ∧ wx.heap[w.heap.size + 1]? = some (.cells #[.int .i64 0, .slice none 0 0, .slice none 0 0, .int .i64 0] 30 (0, 0)) ∧ Ref wx (.slice sp6 n6 cap6) (.slice sp3 n3 cap3) s2 ∧ Only w wx (fun _ => False))
    case first =>
      go_region_with (go_at_call 30; refine HFst.out.mono ?_; rintro e w6 ⟨va6, rfl, r6, o6⟩; have k0' := o6.keep (show w5.drew.heap[w.heap.size]? = _ from k0) (fun h => h); have k1' := o6.keep (show w5.drew.heap[w.heap.size + 1]? = _ from k1) (fun h => h); have ho6 := (ho.drew).trans o6; obtain ⟨sp6, cap6, rfl, _⟩ := r6.1.shape; obtain ⟨x0', x1', x2', x3'⟩ := cells4 k0'; have hlb' := lt_of_block k0'; have fr0' := free_arr k0' 0; have fr1' := free_arr k0' 1; have fr2' := free_arr k0' 2; have fr3' := free_arr k0' 3)
      all_goals
        obtain ⟨W6, hW6, m0, m1, hr6, ho6'⟩ := stage (b0 := w.heap.size) (b1 := w.heap.size + 1) (by omega) (Nat.le_refl _) k0' k1' r6 ho6
        rw [← hW6]
        clear hW6 r6 ho6 k0' k1' x0' x1' x2' x3' fr0' fr1' fr2' fr3' hlb' c0 c1
        go_wp2_with fail
        go_meet
        exact ⟨sp6, _, cap6, m0, m1, hr6, ho6'⟩
    case rest =>
      clear x0 x1 x2 x3 hlb fr0 fr1 fr2 fr3 k0 k1 hr ho c0 c1 hgl HFst
      obtain ⟨sp6, n6, cap6, k0, k1, hr, ho⟩ := hcut
      have hps : 0 < s2.size := by rw [hSz.out]; exact hpos
      have d0 : decide ((0 : Int) < (s2.size : Int)) = true := decide_eq_true (Int.natCast_pos.2 hps)
      have d0' : decide (0 < s2.size) = true := decide_eq_true hps
      have i10 : IntKind.i64.wrap (10 * (s2.size : Int)) = 10 * (s2.size : Int) := IntWalk.i64_in _ (by have := hSz.out; omega)
      by_cases hb : s.n + 1 = 10 * s.size
      · have hbd : ((s2.n : Int) == 10 * (s2.size : Int)) = true := by rw [beq_iff_eq]; have := hSz.out; have := hSn.out; omega
        have HGE := Lib.hid (hget1 hb)
        obtain ⟨x0, x1, x2, x3⟩ := cells4 k0
        have hlb := lt_of_block k0
        have fr0 := free_arr k0 0
        have fr1 := free_arr k0 1
        have fr2 := free_arr k0 2
        have fr3 := free_arr k0 3
        have HH := Lib.hid (rhalved_any _ _ s2 wc hr hSC)
        unfold RV at HH
        go_wp2_with fail
        refine HH.out.mono ?_
        rintro e w7 ⟨vc7, rfl, r7, o7⟩
        clear x0 x1 x2 x3 hlb fr0 fr1 fr2 fr3
        have k0 := o7.keep k0 (fun h => h)
        have k1 := o7.keep k1 (fun h => h)
        have ho := ho.trans o7
        obtain ⟨sp7, cap7, rfl, _⟩ := r7.2.1.shape
        obtain ⟨s7, hs7⟩ : ∃ s7, s7 = halvedC s2 := ⟨_, rfl⟩
        rw [← hs7] at r7 HGE ⊢
        clear hs7
        generalize s7.C.length = n7 at r7 ⊢
        obtain ⟨W8, hW8, m0, m1, hr, ho⟩ := stage (b0 := w.heap.size) (b1 := w.heap.size + 1) (by omega) (Nat.le_refl _) k0 k1 r7 ho
        have HW8 := Lib.hid hW8
        have HK0 := Lib.hid k0
        obtain ⟨x0, x1, x2, x3⟩ := cells4 k0
        have hlb := lt_of_block k0
        have fr0 := free_arr k0 0
        have fr1 := free_arr k0 1
        have fr2 := free_arr k0 2
        have fr3 := free_arr k0 3
        go_upto_region 10 with fail
        rw [← HW8.out]
        clear x0 x1 x2 x3 hlb fr0 fr1 fr2 fr3
        clear k0 k1 hW8 HW8 HK0
        have k0 := m0
        have k1 := m1
        have HG := HGE
        obtain ⟨x0, x1, x2, x3⟩ := cells4 k0
        obtain ⟨z0, z1, z2, z3⟩ := cells4 k1
        have hlb := lt_of_block k0
        have hlb1 := lt_of_block k1
        have g0 := free_arr k1 0
        have g1 := free_arr k1 1
        have g2 := free_arr k1 2
        have g3 := free_arr k1 3
        obtain ⟨W9, hW9, m1, _, hr9, ho9⟩ := stage (b1 := w.heap.size) (b0 := w.heap.size + 1) (by omega) (by omega) k1 k0 hr ho
        obtain ⟨e0, e1, e2, e3⟩ := cells4 m1
        have HW9 := Lib.hid hW9
        have HE := Lib.hid (And.intro hr9 ho9)
        clear hr ho hr9 ho9 k0 k1 m1 hW9
        go_wp2
        rw [← HW9.out]
        refine bodyPost_ret (v := .tuple #[.agg #[.int .i64 s7.size, (.slice sp6 n6 cap6), (.slice sp7 n7 cap7), .int .i64 s7.n], .string x.2, .bool true]) ?_ rfl ?_
        · simp [results, Try.results14, go_sem, e0, e1, e2, e3]
        · refine ⟨_, _, ?_, by rw [HG.out.1]; exact HE.out.1, HE.out.2⟩
          rw [HG.out.1, HG.out.2.1, HG.out.2.2]
          rfl
      · have hbd : ((s2.n : Int) == 10 * (s2.size : Int)) = false := by rw [beq_eq_false_iff_ne]; have := hSz.out; have := hSn.out; omega
        have HG := Lib.hid (hget2 hb)
        obtain ⟨x0, x1, x2, x3⟩ := cells4 k0
        obtain ⟨z0, z1, z2, z3⟩ := cells4 k1
        have hlb := lt_of_block k0
        have hlb1 := lt_of_block k1
        have g0 := free_arr k1 0
        have g1 := free_arr k1 1
        have g2 := free_arr k1 2
        have g3 := free_arr k1 3
        obtain ⟨W9, hW9, m1, _, hr9, ho9⟩ := stage (b1 := w.heap.size) (b0 := w.heap.size + 1) (by omega) (by omega) k1 k0 hr ho
        obtain ⟨e0, e1, e2, e3⟩ := cells4 m1
        have HW9 := Lib.hid hW9
        have HE := Lib.hid (And.intro hr9 ho9)
        clear hr ho hr9 ho9 k0 k1 m1 hW9
        go_wp2
        rw [← HW9.out]
        refine bodyPost_ret (v := .tuple #[.agg #[.int .i64 s2.size, (.slice sp6 n6 cap6), (.slice sp3 n3 cap3), .int .i64 s2.n], .string x.2, .bool true]) ?_ rfl ?_
        · simp [results, Try.results14, go_sem, e0, e1, e2, e3]
        · refine ⟨_, _, ?_, by rw [HG.out.1]; exact HE.out.1, HE.out.2⟩
          rw [HG.out.1, HG.out.2.1, HG.out.2.2]
          rfl

  · rw [plI_no hp] at HFi
    have HFi := Lib.hid HFi
    have hgt := getC_absent (key := key) hz hp
    have hgyv := (get_no hz hp).2
    rw [← HS1.out] at hgt
    have hget1 : s.n + 1 = 10 * s.size → getC s key = halvedC s1 ∧ getV s key = ⟨#[]⟩ ∧ getB s key = false := fun hb => ⟨by rw [hgt, if_pos hb], hgyv⟩
    have hget2 : ¬ s.n + 1 = 10 * s.size → getC s key = s1 ∧ getV s key = ⟨#[]⟩ ∧ getB s key = false := fun hb => ⟨by rw [hgt, if_neg hb], hgyv⟩
    have hSC := hg1
    have hSz := hz1
    have hSn := hn1
    clear hgt hgyv
    go_wp2_with fail
    rw [← HW4.out]
    refine HFi.out.mono ?_
    rintro e w5 ⟨rfl, o5⟩
    clear x0 x1 x2 x3 hlb fr0 fr1 fr2 fr3
    clear k0 k1 hW4 HW4
    have k0 := o5.keep m0 (fun h => h)
    have k1 := o5.keep m1 (fun h => h)
    have hr := hr.only o5
    have ho := ho.trans o5
    clear m0 m1 o5 hcT hT hC href HCt
    have hps : 0 < s1.size := by rw [hSz.out]; exact hpos
    have d0 : decide ((0 : Int) < (s1.size : Int)) = true := decide_eq_true (Int.natCast_pos.2 hps)
    have d0' : decide (0 < s1.size) = true := decide_eq_true hps
    have i10 : IntKind.i64.wrap (10 * (s1.size : Int)) = 10 * (s1.size : Int) := IntWalk.i64_in _ (by have := hSz.out; omega)
    by_cases hb : s.n + 1 = 10 * s.size
    · have hbd : ((s1.n : Int) == 10 * (s1.size : Int)) = true := by rw [beq_iff_eq]; have := hSz.out; have := hSn.out; omega
      have HGE := Lib.hid (hget1 hb)
      obtain ⟨x0, x1, x2, x3⟩ := cells4 k0
      have hlb := lt_of_block k0
      have fr0 := free_arr k0 0
      have fr1 := free_arr k0 1
      have fr2 := free_arr k0 2
      have fr3 := free_arr k0 3
      have HH := Lib.hid (rhalved_any _ _ s1 w5 hr hSC)
      unfold RV at HH
      go_wp2_with fail
      refine HH.out.mono ?_
      rintro e w7 ⟨vc7, rfl, r7, o7⟩
      clear x0 x1 x2 x3 hlb fr0 fr1 fr2 fr3
      have k0 := o7.keep k0 (fun h => h)
      have k1 := o7.keep k1 (fun h => h)
      have ho := ho.trans o7
      obtain ⟨sp7, cap7, rfl, _⟩ := r7.2.1.shape
      obtain ⟨s7, hs7⟩ : ∃ s7, s7 = halvedC s1 := ⟨_, rfl⟩
      rw [← hs7] at r7 HGE ⊢
      clear hs7
      generalize s7.C.length = n7 at r7 ⊢
      obtain ⟨W8, hW8, m0, m1, hr, ho⟩ := stage (b0 := w.heap.size) (b1 := w.heap.size + 1) (by omega) (Nat.le_refl _) k0 k1 r7 ho
      have HW8 := Lib.hid hW8
      have HK0 := Lib.hid k0
      obtain ⟨x0, x1, x2, x3⟩ := cells4 k0
      have hlb := lt_of_block k0
      have fr0 := free_arr k0 0
      have fr1 := free_arr k0 1
      have fr2 := free_arr k0 2
      have fr3 := free_arr k0 3
      go_upto_region 10 with fail
      rw [← HW8.out]
      clear x0 x1 x2 x3 hlb fr0 fr1 fr2 fr3
      clear k0 k1 hW8 HW8 HK0
      have k0 := m0
      have k1 := m1
      have HG := HGE
      obtain ⟨x0, x1, x2, x3⟩ := cells4 k0
      obtain ⟨z0, z1, z2, z3⟩ := cells4 k1
      have hlb := lt_of_block k0
      have hlb1 := lt_of_block k1
      have g0 := free_arr k1 0
      have g1 := free_arr k1 1
      have g2 := free_arr k1 2
      have g3 := free_arr k1 3
      obtain ⟨W9, hW9, m1, _, hr9, ho9⟩ := stage (b1 := w.heap.size) (b0 := w.heap.size + 1) (by omega) (by omega) k1 k0 hr ho
      obtain ⟨e0, e1, e2, e3⟩ := cells4 m1
      have HW9 := Lib.hid hW9
      have HE := Lib.hid (And.intro hr9 ho9)
      clear hr ho hr9 ho9 k0 k1 m1 hW9
      go_wp2
      rw [← HW9.out]
      refine bodyPost_ret (v := .tuple #[.agg #[.int .i64 s7.size, (.slice sp s.T.length cap), (.slice sp7 n7 cap7), .int .i64 s7.n], .string ⟨#[]⟩, .bool false]) ?_ rfl ?_
      · simp [results, Try.results14, go_sem, e0, e1, e2, e3]
      · refine ⟨_, _, ?_, by rw [HG.out.1]; exact HE.out.1, HE.out.2⟩
        rw [HG.out.1, HG.out.2.1, HG.out.2.2]
        rfl
    · have hbd : ((s1.n : Int) == 10 * (s1.size : Int)) = false := by rw [beq_eq_false_iff_ne]; have := hSz.out; have := hSn.out; omega
      have HG := Lib.hid (hget2 hb)
      obtain ⟨x0, x1, x2, x3⟩ := cells4 k0
      obtain ⟨z0, z1, z2, z3⟩ := cells4 k1
      have hlb := lt_of_block k0
      have hlb1 := lt_of_block k1
      have g0 := free_arr k1 0
      have g1 := free_arr k1 1
      have g2 := free_arr k1 2
      have g3 := free_arr k1 3
      obtain ⟨W9, hW9, m1, _, hr9, ho9⟩ := stage (b1 := w.heap.size) (b0 := w.heap.size + 1) (by omega) (by omega) k1 k0 hr ho
      obtain ⟨e0, e1, e2, e3⟩ := cells4 m1
      have HW9 := Lib.hid hW9
      have HE := Lib.hid (And.intro hr9 ho9)
      clear hr ho hr9 ho9 k0 k1 m1 hW9
      go_wp2
      rw [← HW9.out]
      refine bodyPost_ret (v := .tuple #[.agg #[.int .i64 s1.size, (.slice sp s.T.length cap), (.slice sp3 n3 cap3), .int .i64 s1.n], .string ⟨#[]⟩, .bool false]) ?_ rfl ?_
      · simp [results, Try.results14, go_sem, e0, e1, e2, e3]
      · refine ⟨_, _, ?_, by rw [HG.out.1]; exact HE.out.1, HE.out.2⟩
        rw [HG.out.1, HG.out.2.1, HG.out.2.2]
        rfl

end Go.Proofs.Ytgmelphklppcbaa
