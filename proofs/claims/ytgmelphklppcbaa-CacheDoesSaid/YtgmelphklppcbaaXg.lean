/- The document's Offer. -/
import Derived.Test.YtgmelphklppcbaaXf
namespace Go.Proofs.Ytgmelphklppcbaa
open Go.RowKit

def ROfferEnd (s : Ca) (key val : ByteArray) (w : World) (e : Ending) (w' : World) : Prop :=
  ∃ va vc, e = .returned (.tuple #[RV (offerC s key val) va vc, .bool (offerB s key)]) ∧ Ref w' va vc (offerC s key val) ∧ Only w w' (fun _ => False)

theorem dropK_self {T : Ts} {k : ByteArray} (h : k ∉ keysOf T) : dropK T k = T := by
  refine List.filter_eq_self.2 fun x hx => ?_
  have : x.1 ≠ k := fun q => h (by rw [← q]; exact List.mem_map_of_mem (f := (·.1)) hx)
  simp [this]

theorem offer_first {s : Ca} {key val : ByteArray} (hz : s.size ≠ 0) (hn : (keysOf s.T).Nodup) (h : pl s.T key < s.T.length ∨ s.T.length < s.size) :
    offerC s key val = firstC s (key, val) ∧ offerB s key = true ∧ (dropK s.T key).length < 64 ∨ ¬ (s.size ≤ 64 ∧ s.T.length ≤ 64) := by
  by_cases hb : s.size ≤ 64 ∧ s.T.length ≤ 64
  · refine .inl ?_
    by_cases hp : pl s.T key < s.T.length
    · have hd := dropK_short hn hp
      rw [pl_lt hp] at hd
      refine ⟨?_, (offer_there (v := val) hz hp).2, by omega⟩
      unfold offerC firstC
      rw [(offer_there hz hp).1, frontL_dropK hn hp, pl_lt hp]
    · have hr : s.T.length < s.size := h.resolve_left hp
      have hk : key ∉ keysOf s.T := fun e => hp (pl_mem.2 e)
      refine ⟨?_, (offer_room (v := val) hz hp hr).2, by rw [dropK_self hk]; omega⟩
      unfold offerC firstC
      rw [(offer_room hz hp hr).1, dropK_self hk]
  · exact .inr hb

set_option maxHeartbeats 3200000 in
theorem roffer_first (va vc : Value) (s : Ca) (key val : ByteArray) (w : World) (h : Ref w va vc s) (hz : s.size ≠ 0) (hnd : (keysOf s.T).Nodup) (hc : pl s.T key < s.T.length ∨ s.T.length < s.size) :
    Calls Try.prog 16 #[RV s va vc, .string key, .string val] w (ROfferEnd s key val w) := by
  have href := h
  obtain ⟨hT, hC, h64, hT64, hC64, hn⟩ := h
  obtain ⟨sp, cap, rfl, hcT⟩ := hT.shape
  obtain ⟨spc, capc, rfl, _⟩ := hC.shape
  unfold RV
  obtain ⟨q0, k0, k1, k2, q4⟩ := three w (.cells #[.int .i64 s.size, .slice sp s.T.length cap, .slice spc s.C.length capc, .int .i64 s.n] 30) (.cells #[.int .i64 0, .slice none 0 0, .slice none 0 0, .int .i64 0] 30) (.cells #[.string key, .string val] 63)
  obtain ⟨w2, hw2⟩ : ∃ w2, w2 = (((w.alloc (.cells #[.int .i64 s.size, .slice sp s.T.length cap, .slice spc s.C.length capc, .int .i64 s.n] 30)).alloc (.cells #[.int .i64 0, .slice none 0 0, .slice none 0 0, .int .i64 0] 30)).alloc (.cells #[.string key, .string val] 63)) := ⟨_, rfl⟩
  rw [← hw2] at q0 k0 k1 k2 q4
  have HW2 := Lib.hid hw2
  obtain ⟨x0, x1, x2, x3⟩ := cells4 k0
  have hlb := lt_of_block k0
  have fr0 := free_arr k0 0
  have fr1 := free_arr k0 1
  have fr2 := free_arr k0 2
  have fr3 := free_arr k0 3
  have HFi := rfind_any _ _ s key w2 (href.only q0)
  unfold RV at HFi
  clear hw2 q4
  obtain ⟨g1, g2, g3⟩ := (offer_first (key := key) (val := val) hz hnd hc).resolve_right (fun hn => hn ⟨h64, hT64⟩)
  obtain ⟨s2, hs2⟩ : ∃ s2, s2 = offerC s key val := ⟨_, rfl⟩
  have HG := Lib.hid (And.intro hs2.symm g2)
  rw [g1] at hs2
  have HSS := Lib.hid hs2
  have HRm := Lib.hid g3
  clear g1 g2 g3
  by_cases hp : pl s.T key < s.T.length
  · rw [plI_yes hp] at HFi
    have HFi := Lib.hid HFi
    have j2 : decide ((pl s.T key : Int) ≥ 0) = true := decide_eq_true (by omega)
    have j3 : decide ((0 : Int) ≤ (pl s.T key : Int)) = true := decide_eq_true (by omega)
    go_enter Try.func16, Try.ntmps16
    go_wp2_with fail
    rw [← HW2.out]
    refine HFi.out.mono ?_
    rintro e w5 ⟨rfl, o5⟩
    clear x0 x1 x2 x3 hlb fr0 fr1 fr2 fr3
    have k0 := o5.keep k0 (fun h => h)
    have k1 := o5.keep k1 (fun h => h)
    have k2 := o5.keep k2 (fun h => h)
    have ho := q0.trans o5
    have hr := href.only ho
    obtain ⟨x0, x1, x2, x3⟩ := cells4 k0
    obtain ⟨t0, t1⟩ := cells2 k2
    have hlb := lt_of_block k0
    have hlb2 := lt_of_block k2
    have HFst := rfirst_any _ _ s (key, val) w5 hr HRm.out
    rw [← hs2] at HFst
    unfold RV at HFst
    have HFst := Lib.hid HFst
    clear hs2 hcT hT hC href
    go_wp2_with fail
    refine HFst.out.mono ?_
    rintro e w6 ⟨va6, rfl, r6, o6⟩
    clear x0 x1 x2 x3 t0 t1 hlb hlb2
    have k0 := o6.keep k0 (fun h => h)
    have k1 := o6.keep k1 (fun h => h)
    have ho := ho.trans o6
    have hr := r6
    obtain ⟨sp6, cap6, rfl, _⟩ := r6.1.shape
    clear r6 o6
    generalize s2.T.length = n6 at hr ⊢
    obtain ⟨x0, x1, x2, x3⟩ := cells4 k0
    obtain ⟨z0, z1, z2, z3⟩ := cells4 k1
    have hlb := lt_of_block k0
    have hlb1 := lt_of_block k1
    have g0 := free_arr k1 0
    have g1 := free_arr k1 1
    have g2 := free_arr k1 2
    have g3 := free_arr k1 3
    obtain ⟨W9, hW9, m1, _, hr9, ho9⟩ := stage (b1 := w.heap.size) (b0 := w.heap.size + 1) (by omega) (by omega) k1 k0 hr ho
    obtain ⟨e0, e1, e2, e3⟩ := cells4 m1
    have HW9 := Lib.hid hW9
    have HE := Lib.hid (And.intro hr9 ho9)
    clear hr ho hr9 ho9 k0 k1 m1 hW9
    go_wp2
    rw [← HW9.out]
    refine bodyPost_ret (v := .tuple #[.agg #[.int .i64 s2.size, (.slice sp6 n6 cap6), (.slice spc s.C.length capc), .int .i64 s2.n], .bool true]) ?_ rfl ?_
    · simp [results, Try.results16, go_sem, e0, e1, e2, e3]
    · refine ⟨_, _, ?_, by rw [HG.out.1]; exact HE.out.1, HE.out.2⟩
      rw [HG.out.1, HG.out.2]
      rfl
  · rw [plI_no hp] at HFi
    have HFi := Lib.hid HFi
    have hlt := hc.resolve_left hp
    have j2 : decide ((s.T.length : Int) < (s.size : Int)) = true := decide_eq_true (by omega)
    have j3 : decide (s.T.length < s.size) = true := decide_eq_true hlt
    go_enter Try.func16, Try.ntmps16
    go_wp2_with fail
    rw [← HW2.out]
    refine HFi.out.mono ?_
    rintro e w5 ⟨rfl, o5⟩
    clear x0 x1 x2 x3 hlb fr0 fr1 fr2 fr3
    have k0 := o5.keep k0 (fun h => h)
    have k1 := o5.keep k1 (fun h => h)
    have k2 := o5.keep k2 (fun h => h)
    have ho := q0.trans o5
    have hr := href.only ho
    obtain ⟨x0, x1, x2, x3⟩ := cells4 k0
    obtain ⟨t0, t1⟩ := cells2 k2
    have hlb := lt_of_block k0
    have hlb2 := lt_of_block k2
    have HFst := rfirst_any _ _ s (key, val) w5 hr HRm.out
    rw [← hs2] at HFst
    unfold RV at HFst
    have HFst := Lib.hid HFst
    clear hs2 hcT hT hC href
    go_wp2_with fail
    refine HFst.out.mono ?_
    rintro e w6 ⟨va6, rfl, r6, o6⟩
    clear x0 x1 x2 x3 t0 t1 hlb hlb2
    have k0 := o6.keep k0 (fun h => h)
    have k1 := o6.keep k1 (fun h => h)
    have ho := ho.trans o6
    have hr := r6
    obtain ⟨sp6, cap6, rfl, _⟩ := r6.1.shape
    clear r6 o6
    generalize s2.T.length = n6 at hr ⊢
    obtain ⟨x0, x1, x2, x3⟩ := cells4 k0
    obtain ⟨z0, z1, z2, z3⟩ := cells4 k1
    have hlb := lt_of_block k0
    have hlb1 := lt_of_block k1
    have g0 := free_arr k1 0
    have g1 := free_arr k1 1
    have g2 := free_arr k1 2
    have g3 := free_arr k1 3
    obtain ⟨W9, hW9, m1, _, hr9, ho9⟩ := stage (b1 := w.heap.size) (b0 := w.heap.size + 1) (by omega) (by omega) k1 k0 hr ho
    obtain ⟨e0, e1, e2, e3⟩ := cells4 m1
    have HW9 := Lib.hid hW9
    have HE := Lib.hid (And.intro hr9 ho9)
    clear hr ho hr9 ho9 k0 k1 m1 hW9
    go_wp2
    rw [← HW9.out]
    refine bodyPost_ret (v := .tuple #[.agg #[.int .i64 s2.size, (.slice sp6 n6 cap6), (.slice spc s.C.length capc), .int .i64 s2.n], .bool true]) ?_ rfl ?_
    · simp [results, Try.results16, go_sem, e0, e1, e2, e3]
    · refine ⟨_, _, ?_, by rw [HG.out.1]; exact HE.out.1, HE.out.2⟩
      rw [HG.out.1, HG.out.2]
      rfl

theorem offer_stays {s : Ca} {key val : ByteArray} (h : s.size = 0 ∨ ¬ pl s.T key < s.T.length ∧ ¬ s.T.length < s.size ∧ ¬ lastN s < often s.C key) : offerC s key val = s ∧ offerB s key = false := by
  by_cases hz : s.size = 0
  · exact ⟨by unfold offerC; rw [(offer_zero hz).1], (offer_zero (v := val) hz).2⟩
  · obtain ⟨h1, h2, h3⟩ := h.resolve_left hz
    exact ⟨by unfold offerC; rw [(offer_out hz h1 h2 h3).1], (offer_out (v := val) hz h1 h2 h3).2⟩

set_option maxHeartbeats 3200000 in
theorem roffer_zero (va vc : Value) (s : Ca) (key val : ByteArray) (w : World) (h : Ref w va vc s) (hz : s.size = 0) (hT0 : s.T.length ≤ s.size) :
    Calls Try.prog 16 #[RV s va vc, .string key, .string val] w (ROfferEnd s key val w) := by
  have href := h
  obtain ⟨hT, hC, h64, hT64, hC64, hn⟩ := h
  obtain ⟨sp, cap, rfl, hcT⟩ := hT.shape
  obtain ⟨spc, capc, rfl, _⟩ := hC.shape
  unfold RV
  obtain ⟨q0, k0, k1, k2, q4⟩ := three w (.cells #[.int .i64 s.size, .slice sp s.T.length cap, .slice spc s.C.length capc, .int .i64 s.n] 30) (.cells #[.int .i64 0, .slice none 0 0, .slice none 0 0, .int .i64 0] 30) (.cells #[.string key, .string val] 63)
  obtain ⟨w2, hw2⟩ : ∃ w2, w2 = (((w.alloc (.cells #[.int .i64 s.size, .slice sp s.T.length cap, .slice spc s.C.length capc, .int .i64 s.n] 30)).alloc (.cells #[.int .i64 0, .slice none 0 0, .slice none 0 0, .int .i64 0] 30)).alloc (.cells #[.string key, .string val] 63)) := ⟨_, rfl⟩
  rw [← hw2] at q0 k0 k1 k2 q4
  have HW2 := Lib.hid hw2
  obtain ⟨x0, x1, x2, x3⟩ := cells4 k0
  have hlb := lt_of_block k0
  have fr0 := free_arr k0 0
  have fr1 := free_arr k0 1
  have fr2 := free_arr k0 2
  have fr3 := free_arr k0 3
  have HFi := rfind_any _ _ s key w2 (href.only q0)
  unfold RV at HFi
  clear hw2 q4
  have hp : ¬ pl s.T key < s.T.length := by omega
  have HG := Lib.hid (offer_stays (key := key) (val := val) (.inl hz))
  rw [plI_no hp] at HFi
  have HFi := Lib.hid HFi
  have j2 : decide ((s.T.length : Int) < (s.size : Int)) = false := decide_eq_false (by omega)
  have j3 : decide (s.T.length < s.size) = false := decide_eq_false (by omega)
  have j4 : ((s.size : Int) == 0) = true := by rw [hz]; rfl
  have HZ := Lib.hid hz
  clear hz hp
  go_enter Try.func16, Try.ntmps16
  go_wp2_with fail
  rw [← HW2.out]
  refine HFi.out.mono ?_
  rintro e w5 ⟨rfl, o5⟩
  clear x0 x1 x2 x3 hlb fr0 fr1 fr2 fr3
  have k0 := o5.keep k0 (fun h => h)
  have k1 := o5.keep k1 (fun h => h)
  have k2 := o5.keep k2 (fun h => h)
  have ho := q0.trans o5
  have hr := href.only ho
  obtain ⟨x0, x1, x2, x3⟩ := cells4 k0
  have hlb := lt_of_block k0
  have fr0 := free_arr k0 0
  have fr1 := free_arr k0 1
  have fr2 := free_arr k0 2
  have fr3 := free_arr k0 3
  go_upto_region 4 with fail
  go_quiet (fail)
  have k0 : (w5.drewN nq).heap[w.heap.size]? = _ := k0
  have k1 : (w5.drewN nq).heap[w.heap.size + 1]? = _ := k1
  have hr : Ref (w5.drewN nq) _ _ s := hr.only ((Only.refl _ _).drewN _)
  have ho : Only w (w5.drewN nq) (fun _ => False) := ho.drewN _
  clear x0 x1 x2 x3 hlb fr0 fr1 fr2 fr3
  clear k2 o5
  generalize w5.drewN nq = w6 at k0 k1 hr ho ⊢
  obtain ⟨x0, x1, x2, x3⟩ := cells4 k0
  obtain ⟨z0, z1, z2, z3⟩ := cells4 k1
  have hlb := lt_of_block k0
  have hlb1 := lt_of_block k1
  have g0 := free_arr k1 0
  have g1 := free_arr k1 1
  have g2 := free_arr k1 2
  have g3 := free_arr k1 3
  obtain ⟨W9, hW9, m1, _, hr9, ho9⟩ := stage (b1 := w.heap.size) (b0 := w.heap.size + 1) (by omega) (by omega) k1 k0 hr ho
  obtain ⟨e0, e1, e2, e3⟩ := cells4 m1
  have HW9 := Lib.hid hW9
  have HE := Lib.hid (And.intro hr9 ho9)
  clear hr ho hr9 ho9 k0 k1 m1 hW9
  go_wp2
  rw [← HW9.out]
  refine bodyPost_ret (v := .tuple #[.agg #[.int .i64 s.size, (.slice sp s.T.length cap), (.slice spc s.C.length capc), .int .i64 s.n], .bool false]) ?_ rfl ?_
  · simp [results, Try.results16, go_sem, e0, e1, e2, e3]
  · refine ⟨_, _, ?_, by rw [HG.out.1]; exact HE.out.1, HE.out.2⟩
    rw [HG.out.1, HG.out.2]
    rfl

end Go.Proofs.Ytgmelphklppcbaa
