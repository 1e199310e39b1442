/- The document's Offer, where there is no room. -/
import Derived.Test.YtgmelphklppcbaaXg
import Derived.Deep.RegionHeld3
namespace Go.Proofs.Ytgmelphklppcbaa
open Go.RowKit

def cutC (s : Ca) : Ca := { s with T := s.T.take (s.T.length - 1) }
theorem offer_comes {s : Ca} {key val : ByteArray} (hz : s.size ≠ 0) (h1 : ¬ pl s.T key < s.T.length) (h2 : ¬ s.T.length < s.size) (h3 : lastN s < often s.C key) : offerC s key val = firstC (cutC s) (key, val) ∧ offerB s key = true := by
  refine ⟨?_, (offer_in (v := val) hz h1 h2 h3).2⟩
  unfold offerC firstC cutC
  rw [(offer_in hz h1 h2 h3).1, dropK_self]
  intro e
  refine h1 (pl_mem.2 ?_)
  have e : key ∈ (s.T.take (s.T.length - 1)).map (·.1) := e
  rw [List.map_take] at e
  exact List.mem_of_mem_take e

set_option maxHeartbeats 6400000 in
theorem roffer_gate (va vc : Value) (s : Ca) (key val : ByteArray) (w : World) (h : Ref w va vc s) (hz : s.size ≠ 0) (hp : ¬ pl s.T key < s.T.length) (hroom : ¬ s.T.length < s.size) :
    Calls Try.prog 16 #[RV s va vc, .string key, .string val] w (ROfferEnd s key val w) := by
  have href := h
  obtain ⟨hT, hC, h64, hT64, hC64, hn⟩ := h
  obtain ⟨sp, cap, rfl, hcT⟩ := hT.shape
  obtain ⟨spc, capc, rfl, _⟩ := hC.shape
  unfold RV
  obtain ⟨q0, k0, k1, k2, q4⟩ := three w (.cells #[.int .i64 s.size, .slice sp s.T.length cap, .slice spc s.C.length capc, .int .i64 s.n] 30) (.cells #[.int .i64 0, .slice none 0 0, .slice none 0 0, .int .i64 0] 30) (.cells #[.string key, .string val] 63)
  obtain ⟨w2, hw2⟩ : ∃ w2, w2 = (((w.alloc (.cells #[.int .i64 s.size, .slice sp s.T.length cap, .slice spc s.C.length capc, .int .i64 s.n] 30)).alloc (.cells #[.int .i64 0, .slice none 0 0, .slice none 0 0, .int .i64 0] 30)).alloc (.cells #[.string key, .string val] 63)) := ⟨_, rfl⟩
  rw [← hw2] at q0 k0 k1 k2 q4
  have HW2 := Lib.hid hw2
  obtain ⟨x0, x1, x2, x3⟩ := cells4 k0
  have hlb := lt_of_block k0
  have fr0 := free_arr k0 0
  have fr1 := free_arr k0 1
  have fr2 := free_arr k0 2
  have fr3 := free_arr k0 3
  have HFi := rfind_any _ _ s key w2 (href.only q0)
  unfold RV at HFi
  clear hw2 q4
  obtain ⟨m, hmE⟩ : ∃ m, m = s.T.length - 1 := ⟨_, rfl⟩
  have hpos : 0 < s.T.length := by have := Nat.pos_of_ne_zero hz; omega
  have hml : m < s.T.length := by omega
  have HM := Lib.hid hmE
  have i1 : IntKind.i64.wrap ((s.T.length : Int) - 1) = (m : Int) := by rw [IntWalk.i64_in _ (by omega)]; omega
  have hlast : lastN s = often s.C s.T[m].1 := by
    unfold lastN
    rw [← hmE, List.getElem?_eq_getElem hml]
  have hstay := fun h => offer_stays (key := key) (val := val) (.inr ⟨hp, hroom, h⟩)
  have hcome := fun h => offer_comes (val := val) hz hp hroom h
  rw [hlast] at hstay hcome
  rw [plI_no hp] at HFi
  have HFi := Lib.hid HFi
  have j2 : decide ((s.T.length : Int) < (s.size : Int)) = false := decide_eq_false (by omega)
  have j3 : decide (s.T.length < s.size) = false := decide_eq_false hroom
  have hpz : 0 < s.size := Nat.pos_of_ne_zero hz
  clear hz
  have j4 : ((s.size : Int) == 0) = false := by rw [beq_eq_false_iff_ne]; omega
  have i2 : (0 : Int) ≤ (m : Int) := by omega
  have i3 : (m : Int) < (s.T.length : Int) := by omega
  clear hmE hlast
  go_enter Try.func16, Try.ntmps16
  go_wp2_with fail
  rw [← HW2.out]
  refine HFi.out.mono ?_
  rintro e w5 ⟨rfl, o5⟩
  clear x0 x1 x2 x3 hlb fr0 fr1 fr2 fr3
  have k0 := o5.keep k0 (fun h => h)
  have k1 := o5.keep k1 (fun h => h)
  have k2 := o5.keep k2 (fun h => h)
  have ho := q0.trans o5
  have hr := href.only ho
  obtain ⟨g, rfl, hgl, hc⟩ := hcT hpos
  have hcap := cap_ge hr.1
  have hcm := (hc m hml).1
  have HCM := Lib.hid hcm
  have c0 := (World.cell?_of_block (a := ⟨g, m * 2, none⟩) (ho.block g hgl (fun h => h))).trans hcm
  have hgl5 : g < w5.heap.size := Nat.lt_of_lt_of_le hgl ho.size
  have HR := Lib.hid (hr.only (Only.refl _ _).drew)
  have HHR := Lib.hid hr
  generalize s.T[m].1 = x at HCM hstay hcome c0 hcm
  obtain ⟨x0, x1, x2, x3⟩ := cells4 k0
  have hlb := lt_of_block k0
  have fr0 := free_arr k0 0
  have fr1 := free_arr k0 1
  have fr2 := free_arr k0 2
  have fr3 := free_arr k0 3
  clear hc hcT hcm
  go_upto_region 4 with fail
  by_cases hgt : often s.C x < often s.C key
  · have hcm := hcome hgt
    have hd : decide ((often s.C key : Int) ≤ (often s.C x : Int)) = false := decide_eq_false (by omega)
    have hd' : decide (often s.C key ≤ often s.C x) = false := decide_eq_false (by omega)
    have HGT := Lib.hid hgt
    obtain ⟨s2, hs2⟩ : ∃ s2, s2 = offerC s key val := ⟨_, rfl⟩
    have HG := Lib.hid (And.intro hs2.symm hcm.2)
    rw [hcm.1] at hs2
    have HS2 := Lib.hid hs2
    clear hgt hstay hcome hcm hs2
    go_region_held3 (fun w' => w'.cell? ⟨w.heap.size, 0, none⟩ = some (.int .i64 s.size) ∧ w'.cell? ⟨w.heap.size, 1, none⟩ = some (.slice (some ⟨g, 0, none⟩) s.T.length cap) ∧ w'.cell? ⟨w.heap.size, 2, none⟩ = some (.slice spc s.C.length capc) ∧ w'.cell? ⟨w.heap.size, 3, none⟩ = some (.int .i64 s.n) ∧ w'.cell? ⟨g, m * 2, none⟩ = some (.string x))
      (first | go_keep | exact hS6)
      (first | (go_at_call 23; refine (roften_any (.slice (some ⟨g, 0, none⟩) s.T.length cap) (.slice spc s.C.length capc) s _ _ (by first | exact hr6 | exact HR.out)).mono ?_; rintro e w6 ⟨rfl, o6⟩; have hr6 : Ref w6 (.slice (some ⟨g, 0, none⟩) s.T.length cap) (.slice spc s.C.length capc) s := (by first | exact hr6.only o6 | exact HR.out.only o6); have ho6 : Only w w6 (fun _ => False) := (by first | exact ho6.trans o6 | exact (ho.drew).trans o6); have k06 : w6.heap[w.heap.size]? = some (.cells #[.int .i64 s.size, .slice (some ⟨g, 0, none⟩) s.T.length cap, .slice spc s.C.length capc, .int .i64 s.n] 30 (0, 0)) := (by first | exact o6.keep k06 (fun h => h) | exact o6.keep (show w5.drew.heap[w.heap.size]? = _ from k0) (fun h => h)); have k16 : w6.heap[w.heap.size + 1]? = some (.cells #[.int .i64 0, .slice none 0 0, .slice none 0 0, .int .i64 0] 30 (0, 0)) := (by first | exact o6.keep k16 (fun h => h) | exact o6.keep (show w5.drew.heap[w.heap.size + 1]? = _ from k1) (fun h => h)); have k26 : w6.heap[w.heap.size + 1 + 1]? = some (.cells #[.string key, .string val] 63 (0, 0)) := (by first | exact o6.keep k26 (fun h => h) | exact o6.keep (show w5.drew.heap[w.heap.size + 1 + 1]? = _ from k2) (fun h => h)); have hS6 := (And.intro (cells4 k06).1 (And.intro (cells4 k06).2.1 (And.intro (cells4 k06).2.2.1 (And.intro (cells4 k06).2.2.2 ((World.cell?_of_block (a := ⟨g, m * 2, none⟩) (ho6.block g hgl (fun h => h))).trans HCM.out)))))))
    all_goals
      have k0 := k06
      have k1 := k16
      have k2 := k26
      have hr := hr6
      have ho := ho6
      clear x0 x1 x2 x3 hlb fr0 fr1 fr2 fr3
      clear k06 k16 k26 hr6 ho6 hS6 c0
      obtain ⟨x0, x1, x2, x3⟩ := cells4 k0
      have hlb := lt_of_block k0
      have fr0 := free_arr k0 0
      have fr1 := free_arr k0 1
      have fr2 := free_arr k0 2
      have fr3 := free_arr k0 3
      have hbs0 : w6.heap.size ≤ (w6.alloc (.cells #[] 63)).heap.size := by simp
      have hown0 : (w6.alloc (.cells #[] 63)).ownsRow w6.heap.size 63 2 (.slice (some ⟨w6.heap.size, 0, none⟩) 0 0) 0 [] := World.ownsRow_made w6 #[] 0 (Nat.le_refl _) (by unfold maxLen; omega) rfl
      have hsrc1 := srcsT_front (p := m) hr.1 (Only.alloc w6 (.cells #[] 63) _) (by omega)
      have x1' : (w6.alloc (.cells #[] 63)).cell? ⟨w.heap.size, 1, none⟩ = some (.slice (some ⟨g, 0, none⟩) s.T.length cap) := by
        rw [World.cell?_alloc_past _ _ _ (by exact hlb)]; exact x1
      have i4 : (m : Int) ≤ (cap : Int) := by omega
      go_wp2_with (at_builtin; refine wpList_app elT w6.heap.size rfl (.tmp 48) (.tmp 55) rfl (.slice (some ⟨w6.heap.size, 0, none⟩) 0 0) 0 [] _ _ _ (flat (s.T.take m)) rfl rfl hown0 hbs0 hsrc1 (flat_one _) (by omega) ?_)
      intro v1 w7 hown1 hgrow1
      have o7 : Only w6 w7 (fun _ => False) := new_below (Only.alloc w6 (.cells #[] 63) _) hgrow1 (Nat.le_refl _) (fun k h => by simp only [Value.ownBlock, Option.some.injEq] at h; omega)
      have k07 := o7.keep k0 (fun h => h)
      have k17 := o7.keep k1 (fun h => h)
      have k27 := o7.keep k2 (fun h => h)
      have ho7 := ho.trans o7
      obtain ⟨sp7, cap7, rfl⟩ := own_shape hown1
      obtain ⟨s1, hs1⟩ : ∃ s1, s1 = cutC s := ⟨_, rfl⟩
      have hT1 : s1.T = s.T.take m := by rw [hs1, HM.out]; rfl
      rw [← hT1] at hown1
      have HS1 := Lib.hid (show s1.size = s.size ∧ s1.C = s.C ∧ s1.n = s.n by rw [hs1]; exact ⟨rfl, rfl, rfl⟩)
      have hr7 := Ref.of (s := s1) (rt_of_own hown1) (by rw [HS1.out.2.1]; exact (hr.only o7).2.1) (by rw [HS1.out.1]; exact h64) (by rw [hT1]; simp; omega) (by rw [HS1.out.2.1]; exact hC64) (by rw [HS1.out.2.2]; exact hn)
      obtain ⟨k08, k18, hr8, ho8⟩ := field1 (b1 := w.heap.size + 1) (by simp) k07 k17 hr7 ho7 (Nat.le_refl _)
      have k28 : (w7.setCell ⟨w.heap.size, 1, none⟩ (.slice sp7 m cap7)).heap[w.heap.size + 1 + 1]? = _ := (Below.heap_setCell _ _ _ _ (by simp; omega)).trans k27
      obtain ⟨W8, hW8⟩ : ∃ W8, W8 = w7.setCell ⟨w.heap.size, 1, none⟩ (.slice sp7 m cap7) := ⟨_, rfl⟩
      rw [← hW8] at k08 k18 k28 hr8 ho8
      have HW8 := Lib.hid hW8
      have fr7 := free_arr k07 1
      have y1 := (cells4 k07).2.1
      have hlb7 := lt_of_block k07
      have HFst := rfirst_any _ _ s1 (key, val) W8 hr8 (by have h1 := dropK_length s1.T key; have h2 : s1.T.length < 64 := (by rw [hT1, List.length_take]; omega); show (dropK s1.T key).length < 64; omega)
      rw [show firstC s1 (key, val) = s2 by rw [hs1]; exact HS2.out.symm] at HFst
      unfold RV at HFst
      have hsz1 : (s1.size : Int) = (s.size : Int) := by rw [HS1.out.1]
      have hsn1 : (s1.n : Int) = (s.n : Int) := by rw [HS1.out.2.2]
      rw [hsz1, hsn1] at HFst
      have HFst := Lib.hid HFst
      clear x0 x1 x2 x3 hlb fr0 fr1 fr2 fr3
      clear k0 k1 k2 hr ho x1' hown0 hown1 hsrc1 hgrow1 hr7 k17 k27 ho7 hW8 hs1 hT1 hsz1 hsn1
      go_upto_region 7 with fail
      rw [← HW8.out]
      clear k07 fr7 y1 hlb7
      obtain ⟨x0, x1, x2, x3⟩ := cells4 k08
      obtain ⟨t0, t1⟩ := cells2 k28
      have hlb := lt_of_block k08
      have hlb2 := lt_of_block k28
      go_wp2_with fail
      refine HFst.out.mono ?_
      rintro e w9 ⟨va9, rfl, r9, o9⟩
      clear x0 x1 x2 x3 t0 t1 hlb hlb2
      have k0 := o9.keep k08 (fun h => h)
      have k1 := o9.keep k18 (fun h => h)
      have ho := ho8.trans o9
      have hr := r9
      obtain ⟨sp6, cap6, rfl, _⟩ := r9.1.shape
      clear r9 o9 k08 k18 k28 hr8 ho8
      generalize s2.T.length = n6 at hr ⊢
      obtain ⟨x0, x1, x2, x3⟩ := cells4 k0
      obtain ⟨z0, z1, z2, z3⟩ := cells4 k1
      have hlb := lt_of_block k0
      have hlb1 := lt_of_block k1
      have g0 := free_arr k1 0
      have g1 := free_arr k1 1
      have g2 := free_arr k1 2
      have g3 := free_arr k1 3
      obtain ⟨W9, hW9, m1, _, hr9, ho9⟩ := stage (b1 := w.heap.size) (b0 := w.heap.size + 1) (by omega) (by omega) k1 k0 hr ho
      obtain ⟨e0, e1, e2, e3⟩ := cells4 m1
      have HW9 := Lib.hid hW9
      have HE := Lib.hid (And.intro hr9 ho9)
      clear hr ho hr9 ho9 k0 k1 m1 hW9
      go_wp2
      rw [← HW9.out]
      refine bodyPost_ret (v := .tuple #[.agg #[.int .i64 s2.size, (.slice sp6 n6 cap6), (.slice spc s.C.length capc), .int .i64 s2.n], .bool true]) ?_ rfl ?_
      · simp [results, Try.results16, go_sem, e0, e1, e2, e3]
      · refine ⟨_, _, ?_, by rw [HG.out.1]; exact HE.out.1, HE.out.2⟩
        rw [HG.out.1, HG.out.2]
        rfl
  · have HG := Lib.hid (hstay hgt)
    have hd : decide ((often s.C key : Int) ≤ (often s.C x : Int)) = true := decide_eq_true (by omega)
    have hd' : decide (often s.C key ≤ often s.C x) = true := decide_eq_true (by omega)
    have HGT := Lib.hid hgt
    clear hgt hstay hcome
    go_region_held3 (fun w' => w'.cell? ⟨w.heap.size, 0, none⟩ = some (.int .i64 s.size) ∧ w'.cell? ⟨w.heap.size, 1, none⟩ = some (.slice (some ⟨g, 0, none⟩) s.T.length cap) ∧ w'.cell? ⟨w.heap.size, 2, none⟩ = some (.slice spc s.C.length capc) ∧ w'.cell? ⟨w.heap.size, 3, none⟩ = some (.int .i64 s.n) ∧ w'.cell? ⟨g, m * 2, none⟩ = some (.string x))
      (first | go_keep | exact hS6)
      (first | (go_at_call 23; refine (roften_any (.slice (some ⟨g, 0, none⟩) s.T.length cap) (.slice spc s.C.length capc) s _ _ (by first | exact hr6 | exact HR.out)).mono ?_; rintro e w6 ⟨rfl, o6⟩; have hr6 : Ref w6 (.slice (some ⟨g, 0, none⟩) s.T.length cap) (.slice spc s.C.length capc) s := (by first | exact hr6.only o6 | exact HR.out.only o6); have ho6 : Only w w6 (fun _ => False) := (by first | exact ho6.trans o6 | exact (ho.drew).trans o6); have k06 : w6.heap[w.heap.size]? = some (.cells #[.int .i64 s.size, .slice (some ⟨g, 0, none⟩) s.T.length cap, .slice spc s.C.length capc, .int .i64 s.n] 30 (0, 0)) := (by first | exact o6.keep k06 (fun h => h) | exact o6.keep (show w5.drew.heap[w.heap.size]? = _ from k0) (fun h => h)); have k16 : w6.heap[w.heap.size + 1]? = some (.cells #[.int .i64 0, .slice none 0 0, .slice none 0 0, .int .i64 0] 30 (0, 0)) := (by first | exact o6.keep k16 (fun h => h) | exact o6.keep (show w5.drew.heap[w.heap.size + 1]? = _ from k1) (fun h => h)); have k26 : w6.heap[w.heap.size + 1 + 1]? = some (.cells #[.string key, .string val] 63 (0, 0)) := (by first | exact o6.keep k26 (fun h => h) | exact o6.keep (show w5.drew.heap[w.heap.size + 1 + 1]? = _ from k2) (fun h => h)); have hS6 := (And.intro (cells4 k06).1 (And.intro (cells4 k06).2.1 (And.intro (cells4 k06).2.2.1 (And.intro (cells4 k06).2.2.2 ((World.cell?_of_block (a := ⟨g, m * 2, none⟩) (ho6.block g hgl (fun h => h))).trans HCM.out)))))))
    all_goals
      have k0 := k06
      have k1 := k16
      have hr := hr6
      have ho := ho6
      clear x0 x1 x2 x3 hlb fr0 fr1 fr2 fr3
      clear k06 k16 k26 hr6 ho6 hS6 c0
      obtain ⟨x0, x1, x2, x3⟩ := cells4 k0
      obtain ⟨z0, z1, z2, z3⟩ := cells4 k1
      have hlb := lt_of_block k0
      have hlb1 := lt_of_block k1
      have g0 := free_arr k1 0
      have g1 := free_arr k1 1
      have g2 := free_arr k1 2
      have g3 := free_arr k1 3
      obtain ⟨W9, hW9, m1, _, hr9, ho9⟩ := stage (b1 := w.heap.size) (b0 := w.heap.size + 1) (by omega) (by omega) k1 k0 hr ho
      obtain ⟨e0, e1, e2, e3⟩ := cells4 m1
      have HW9 := Lib.hid hW9
      have HE := Lib.hid (And.intro hr9 ho9)
      clear hr ho hr9 ho9 k0 k1 m1 hW9
      go_wp2
      rw [← HW9.out]
      refine bodyPost_ret (v := .tuple #[.agg #[.int .i64 s.size, (.slice (some ⟨g, 0, none⟩) s.T.length cap), (.slice spc s.C.length capc), .int .i64 s.n], .bool false]) ?_ rfl ?_
      · simp [results, Try.results16, go_sem, e0, e1, e2, e3]
      · refine ⟨_, _, ?_, by rw [HG.out.1]; exact HE.out.1, HE.out.2⟩
        rw [HG.out.1, HG.out.2]
        rfl
end Go.Proofs.Ytgmelphklppcbaa
