/- The document's Forget. -/
import Derived.Test.YtgmelphklppcbaaXe
namespace Go.Proofs.Ytgmelphklppcbaa
open Go.RowKit

theorem srcsT_front {w W : World} {g cap p : Nat} {T : Ts} (h : RT w 0 (.slice (some ⟨g, 0, none⟩) T.length cap) T) (ho : Only w W (fun _ => False)) (hp : p ≤ T.length) : Srcs W 2 (some ⟨g, 0, none⟩) p cap (flat (T.take p)) := by
  obtain ⟨h1, h2, h3⟩ := srcs_own (ho.own h (fun _ _ h => h))
  refine ⟨by rw [flat_length, List.length_take, Nat.min_eq_left hp], (fun h => by cases h), fun ad had j u hj => h3 ad had j u ?_⟩
  rw [← flat_take] at hj
  have hlt := (List.getElem?_eq_some_iff.1 hj).1
  rw [List.length_take] at hlt
  rwa [List.getElem?_take_of_lt (by omega)] at hj
theorem srcsT_end {w W : World} {g cap p : Nat} {T : Ts} (h : RT w 0 (.slice (some ⟨g, 0, none⟩) T.length cap) T) (ho : Only w W (fun _ => False)) (hp : p ≤ T.length) :
    Srcs W 2 (if cap = p then some ⟨g, 0, none⟩ else some ⟨g, p * 2, none⟩) (T.length - p) (cap - p) (flat (T.drop p)) := by
  obtain ⟨h1, h2, h3⟩ := srcs_own (ho.own h (fun _ _ h => h))
  refine ⟨by rw [flat_length, List.length_drop], (fun h => by split at h <;> cases h), fun ad had j u hj => ?_⟩
  by_cases hc : cap = p
  · have hcap : T.length ≤ cap := by
      rcases h.2 with ⟨h0, _⟩ | ⟨g', cap', cur, hv, _, _, hnc, _⟩
      · cases h0
      · simp only [Value.slice.injEq] at hv
        omega
    rw [List.drop_eq_nil_of_le (by omega)] at hj
    cases hj
  · rw [if_neg hc] at had
    obtain rfl := Option.some.inj had
    rw [← flat_drop, List.getElem?_drop] at hj
    have := h3 ⟨g, 0, none⟩ rfl (p * 2 + j) u hj
    rw [Addr.add_lit] at this ⊢
    rwa [Nat.zero_add] at this

theorem cap_ge {w : World} {g cap : Nat} {T : Ts} (h : RT w 0 (.slice (some ⟨g, 0, none⟩) T.length cap) T) : T.length ≤ cap ∧ cap ≤ maxLen := by
  rcases h.2 with ⟨h0, _⟩ | ⟨g', cap', cur, hv, _, _, hnc, hm, _⟩
  · cases h0
  · simp only [Value.slice.injEq] at hv
    omega

/-- Behind the first append, behind the second. -/
theorem app_first {w5 w2 : World} {b0 b1 : Nat} {o0 o1 : Obj} {e : TypeId} (k0 : w5.heap[b0]? = some o0) (k1 : w5.heap[b1]? = some o1) (hg : (w5.alloc (.cells #[] e)).drew.grownBy w2 (some w5.heap.size)) :
    Only w5 w2 (fun _ => False) ∧ w2.heap[b0]? = some o0 ∧ w2.heap[b1]? = some o1 := by
  have o2 : Only w5 w2 (fun _ => False) := new_below ((Only.alloc w5 (.cells #[] e) _).drew) hg (Nat.le_refl _) (fun k h => by simp only [Option.some.injEq] at h; omega)
  exact ⟨o2, o2.keep k0 (fun h => h), o2.keep k1 (fun h => h)⟩
theorem app_next {w5 w2 w3 : World} {b0 b1 n m e sz : Nat} {o0 o1 : Obj} {v1 v2 : Value} {xs ys : List Value} (k0 : w5.heap[b0]? = some o0) (k1 : w5.heap[b1]? = some o1) (o2 : Only w5 w2 (fun _ => False)) (h1 : w2.ownsRow w5.heap.size e sz v1 n xs) (h2 : w3.ownsRow w5.heap.size e sz v2 m ys) (hg : w2.grownBy w3 v1.ownBlock) :
    Only w5 w3 (fun _ => False) ∧ w3.heap[b0]? = some o0 ∧ w3.heap[b1]? = some o1 ∧ ∃ sp cap, v2 = .slice sp m cap := by
  have o3 : Only w5 w3 (fun _ => False) := new_below o2 hg (Nat.le_refl _) (fun k h => (h1.lt k h).1)
  exact ⟨o3, o3.keep k0 (fun h => h), o3.keep k1 (fun h => h), own_shape h2⟩

theorem rt_of_own {w : World} {base m : Nat} {v : Value} {T : Ts} (h : w.ownsRow base 63 2 v m (flat T)) : RT w 0 v T := by
  have e2 := h.1
  rw [flat_length] at e2
  have e3 : T.length = m := Nat.eq_of_mul_eq_mul_right (by decide : 0 < 2) e2
  unfold RT
  rw [e3]
  exact own_base h
theorem Ref.of {w : World} {va vc : Value} {s : Ca} (h1 : RT w 0 va s.T) (h2 : RC w 0 vc s.C) (h3 : s.size ≤ 64) (h4 : s.T.length ≤ 64) (h5 : s.C.length ≤ 1000) (h6 : s.n ≤ 1000) : Ref w va vc s := ⟨h1, h2, h3, h4, h5, h6⟩
/-- The things stored into their field. -/
theorem field1 {w W : World} {b0 b1 : Nat} {p q r t : Value} {o : Obj} {va vc : Value} {s : Ca} (hne : b1 ≠ b0) (k0 : W.heap[b0]? = some (.cells #[p, q, r, t] 30 (0, 0))) (k1 : W.heap[b1]? = some o) (hr : Ref W va vc s) (ho : Only w W (fun _ => False)) (hb : w.heap.size ≤ b0) :
    (W.setCell ⟨b0, 1, none⟩ va).heap[b0]? = some (.cells #[p, va, r, t] 30 (0, 0)) ∧ (W.setCell ⟨b0, 1, none⟩ va).heap[b1]? = some o ∧ Ref (W.setCell ⟨b0, 1, none⟩ va) va vc s ∧ Only w (W.setCell ⟨b0, 1, none⟩ va) (fun _ => False) :=
  ⟨heap_set k0 1 _, (Below.heap_setCell _ _ _ _ hne).trans k1, hr.set ⟨_, k0⟩ 1 _, only_set ho hb 1 _⟩

def RForgetEnd (s : Ca) (key : ByteArray) (w : World) (e : Ending) (w' : World) : Prop :=
  ∃ va vc, e = .returned (.tuple #[RV (forgetC s key) va vc, .bool (getB s key)]) ∧ Ref w' va vc (forgetC s key) ∧ Only w w' (fun _ => False)

set_option maxHeartbeats 3200000 in
theorem rforget_any (va vc : Value) (s : Ca) (key : ByteArray) (w : World) (h : Ref w va vc s) :
    Calls Try.prog 18 #[RV s va vc, .string key] w (RForgetEnd s key w) := by
  have href := h
  obtain ⟨hT, hC, h64, hT64, hC64, hn⟩ := h
  obtain ⟨sp, cap, rfl, hcT⟩ := hT.shape
  obtain ⟨spc, capc, rfl, _⟩ := hC.shape
  unfold RV
  obtain ⟨q0, k0, k1, q4⟩ := two w (.cells #[.int .i64 s.size, .slice sp s.T.length cap, .slice spc s.C.length capc, .int .i64 s.n] 30) (.cells #[.int .i64 0, .slice none 0 0, .slice none 0 0, .int .i64 0] 30)
  obtain ⟨w2, hw2⟩ : ∃ w2, w2 = ((w.alloc (.cells #[.int .i64 s.size, .slice sp s.T.length cap, .slice spc s.C.length capc, .int .i64 s.n] 30)).alloc (.cells #[.int .i64 0, .slice none 0 0, .slice none 0 0, .int .i64 0] 30)) := ⟨_, rfl⟩
  rw [← hw2] at q0 k0 k1 q4
  have HW2 := Lib.hid hw2
  obtain ⟨x0, x1, x2, x3⟩ := cells4 k0
  have hlb := lt_of_block k0
  have fr0 := free_arr k0 0
  have fr1 := free_arr k0 1
  have fr2 := free_arr k0 2
  have fr3 := free_arr k0 3
  have HFi := rfind_any _ _ s key w2 (href.only q0)
  unfold RV at HFi
  clear hw2 q4
  by_cases hp : pl s.T key < s.T.length
  · rw [plI_yes hp] at HFi
    have HFi := Lib.hid HFi
    have hfg := forget_yes hp
    obtain ⟨s2, hs2⟩ : ∃ s2, s2 = forgetC s key := ⟨_, rfl⟩
    have HG := Lib.hid (And.intro hs2.symm hfg.2)
    have hTs : s2.T = s.T.take (pl s.T key) ++ s.T.drop (pl s.T key + 1) := by rw [hs2, hfg.1]
    have HS := Lib.hid (show s2.size = s.size ∧ s2.C = s.C ∧ s2.n = s.n by rw [hs2, hfg.1]; exact ⟨rfl, rfl, rfl⟩)
    have HTS := Lib.hid hTs
    generalize pl s.T key = p at hp HFi HTS
    have hdn : decide ((p : Int) < 0) = false := decide_eq_false (by omega)
    clear hs2 hfg hTs
    go_enter Try.func18, Try.ntmps18
    go_wp2_with fail
    rw [← HW2.out]
    refine HFi.out.mono ?_
    rintro e w5 ⟨rfl, o5⟩
    clear x0 x1 x2 x3 hlb fr0 fr1 fr2 fr3
    have k0 := o5.keep k0 (fun h => h)
    have k1 := o5.keep k1 (fun h => h)
    have ho := q0.trans o5
    have hr := href.only ho
    obtain ⟨g, rfl, hgl, _⟩ := hcT (by omega)
    have hcap := cap_ge hr.1
    have hbs0 : w5.heap.size ≤ (w5.alloc (.cells #[] 63)).heap.size := by simp
    have hown0 : (w5.alloc (.cells #[] 63)).ownsRow w5.heap.size 63 2 (.slice (some ⟨w5.heap.size, 0, none⟩) 0 0) 0 [] := World.ownsRow_made w5 #[] 0 (Nat.le_refl _) (by unfold maxLen; omega) rfl
    have hsrc1 := srcsT_front (p := p) hr.1 (Only.alloc w5 (.cells #[] 63) _) (by omega)
    have HRT := Lib.hid hr.1
    obtain ⟨x0, x1, x2, x3⟩ := cells4 k0
    have hlb := lt_of_block k0
    have fr0 := free_arr k0 0
    have fr1 := free_arr k0 1
    have fr2 := free_arr k0 2
    have fr3 := free_arr k0 3
    have x1' : (w5.alloc (.cells #[] 63)).cell? ⟨w.heap.size, 1, none⟩ = some (.slice (some ⟨g, 0, none⟩) s.T.length cap) := by
      rw [World.cell?_alloc_past _ _ _ (by exact hlb)]; exact x1
    have i0 : (0 : Int) ≤ (p : Int) := by omega
    have i1 : (p : Int) ≤ (cap : Int) := by omega
    have i2 : IntKind.i64.wrap ((p : Int) + 1) = (p : Int) + 1 := IntWalk.i64_in _ (by omega)
    have i3 : (0 : Int) ≤ (p : Int) + 1 := by omega
    have i4 : (p : Int) + 1 ≤ (s.T.length : Int) := by omega
    have i5 : ((p : Int) + 1).toNat = p + 1 := by omega
    go_upto_region 4 with fail
    go_cut [] (fun wx => ∃ sp6 n6 cap6, wx.heap[w.heap.size]? = some (.cells #[.int .i64 s.size, .slice sp6 n6 cap6, .slice spc s.C.length capc, .int .i64 s.n] 30 (0, 0)) ∧ wx.heap[w.heap.size + 1]? = some (.cells #[.int .i64 0, .slice none 0 0, .slice none 0 0, .int .i64 0] 30 (0, 0)) ∧ Ref wx (.slice sp6 n6 cap6) (.slice spc s.C.length capc) s2 ∧ Only w wx (fun _ => False))
    case first =>
      clear hT hr
      go_region_law (first | (refine step_app elT w5.heap.size rfl (.tmp 13) (.tmp 17) rfl (.slice (some ⟨w5.heap.size, 0, none⟩) 0 0) 0 [] _ _ _ (flat (s.T.take p)) rfl rfl hown0.drew hbs0 hsrc1 (flat_one _) (by omega) ?_; intro v1 w6 hown1 hgrow1; obtain ⟨o6, k0', k1'⟩ := app_first k0 k1 hgrow1; have y1 := (cells4 k0').2.1) | (refine step_app elT w5.heap.size rfl (.tmp 18) (.tmp 23) rfl v1 _ _ _ _ _ (flat (s.T.drop (p + 1))) rfl rfl hown1 o6.size (srcsT_end HRT.out o6 (by omega)) (flat_one _) (by omega) ?_; intro v2 w7 hown2 hgrow2; obtain ⟨o7, k0'', k1'', ⟨sp7, cap7, rfl⟩⟩ := app_next k0 k1 o6 hown1 hown2 hgrow2; have y2 := (cells4 k0'').2.1; have f2 := free_arr k0'' 1))
      all_goals
        have e1 : [] ++ flat (s.T.take p) ++ flat (s.T.drop (p + 1)) = flat s2.T := by rw [HTS.out, flat_append]; rfl
        rw [e1] at hown2
        simp only [Nat.zero_add] at hown2
        have hr7 := Ref.of (s := s2) (rt_of_own hown2) (by rw [HS.out.2.1]; exact ((href.only ho).only o7).2.1) (by rw [HS.out.1]; exact h64) (by rw [HTS.out]; simp; omega) (by rw [HS.out.2.1]; exact hC64) (by rw [HS.out.2.2]; exact hn)
        have H := Lib.hid (field1 (b1 := w.heap.size + 1) (by simp) k0'' k1'' hr7 (ho.trans o7) (Nat.le_refl _))
        clear hown2 hown1 hgrow1 hgrow2 k0' k1' k0'' k1'' hr7 e1 y1 y2 f2
        generalize (if cap = p + 1 then (some (⟨g, 0, none⟩ : Addr)) else _) = qq
        go_wp2_with fail
        go_meet
        exact ⟨sp7, _, cap7, H.out.1, H.out.2.1, H.out.2.2.1, H.out.2.2.2⟩
    case rest =>
      clear x0 x1 x2 x3 hlb fr0 fr1 fr2 fr3 k0 k1 hr ho hown0 hsrc1 x1' hbs0
      obtain ⟨sp6, n6, cap6, k0, k1, hr, ho⟩ := hcut
      have HSz := Lib.hid HS.out.1
      have hsz2 : (s.size : Int) = (s2.size : Int) := by rw [HS.out.1]
      have hsn2 : (s.n : Int) = (s2.n : Int) := by rw [HS.out.2.2]
      rw [hsz2, hsn2] at k0
      clear hsz2 hsn2
      obtain ⟨x0, x1, x2, x3⟩ := cells4 k0
      obtain ⟨z0, z1, z2, z3⟩ := cells4 k1
      have hlb := lt_of_block k0
      have hlb1 := lt_of_block k1
      have g0 := free_arr k1 0
      have g1 := free_arr k1 1
      have g2 := free_arr k1 2
      have g3 := free_arr k1 3
      obtain ⟨W9, hW9, m1, _, hr9, ho9⟩ := stage (b1 := w.heap.size) (b0 := w.heap.size + 1) (by omega) (by omega) k1 k0 hr ho
      obtain ⟨e0, e1, e2, e3⟩ := cells4 m1
      have HW9 := Lib.hid hW9
      have HE := Lib.hid (And.intro hr9 ho9)
      clear hr ho hr9 ho9 k0 k1 m1 hW9
      go_wp2
      rw [← HW9.out]
      refine bodyPost_ret (v := .tuple #[.agg #[.int .i64 s2.size, (.slice sp6 n6 cap6), (.slice spc s.C.length capc), .int .i64 s2.n], .bool true]) ?_ rfl ?_
      · simp [results, Try.results18, go_sem, e0, e1, e2, e3]
      · refine ⟨_, _, ?_, by rw [HG.out.1]; exact HE.out.1, HE.out.2⟩
        rw [HG.out.1, HG.out.2]
        rfl

  · rw [plI_no hp] at HFi
    have HFi := Lib.hid HFi
    have HG := Lib.hid (forget_no hp)
    go_enter Try.func18, Try.ntmps18
    go_wp2_with fail
    rw [← HW2.out]
    refine HFi.out.mono ?_
    rintro e w5 ⟨rfl, o5⟩
    clear x0 x1 x2 x3 hlb fr0 fr1 fr2 fr3
    have k0 := o5.keep k0 (fun h => h)
    have k1 := o5.keep k1 (fun h => h)
    have ho := q0.trans o5
    have hr := href.only ho
    obtain ⟨x0, x1, x2, x3⟩ := cells4 k0
    obtain ⟨z0, z1, z2, z3⟩ := cells4 k1
    have hlb := lt_of_block k0
    have hlb1 := lt_of_block k1
    have g0 := free_arr k1 0
    have g1 := free_arr k1 1
    have g2 := free_arr k1 2
    have g3 := free_arr k1 3
    obtain ⟨W9, hW9, m1, _, hr9, ho9⟩ := stage (b1 := w.heap.size) (b0 := w.heap.size + 1) (by omega) (by omega) k1 k0 hr ho
    obtain ⟨e0, e1, e2, e3⟩ := cells4 m1
    have HW9 := Lib.hid hW9
    have HE := Lib.hid (And.intro hr9 ho9)
    clear hr ho hr9 ho9 k0 k1 m1 hW9
    go_wp2
    rw [← HW9.out]
    refine bodyPost_ret (v := .tuple #[.agg #[.int .i64 s.size, (.slice sp s.T.length cap), (.slice spc s.C.length capc), .int .i64 s.n], .bool false]) ?_ rfl ?_
    · simp [results, Try.results18, go_sem, e0, e1, e2, e3]
    · refine ⟨_, _, ?_, by rw [HG.out.1]; exact HE.out.1, HE.out.2⟩
      rw [HG.out.1, HG.out.2]
      rfl

end Go.Proofs.Ytgmelphklppcbaa
