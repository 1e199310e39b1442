/- The contracts of place, New, Often, Counted. -/
import Derived.Test.YtgmelphklppcbaaC
namespace Go.Proofs.Ytgmelphklppcbaa
open Go.RowKit
open Go.Maps (Keyed Tidy IsMap has size)

/-- What place answers. -/
def plI (T : Ts) (k : ByteArray) : Int := if pl T k < T.length then (pl T k : Int) else -1

set_option maxHeartbeats 800000 in
theorem index_any (B cap : Nat) (sp : Option Addr) (T : Ts) (key : ByteArray) (b : Nat) (w : World) (hr : w.ownsRow B 59 2 (.slice sp T.length cap) T.length (flat T)) (hb : w.heap[b]? = some (.cells #[.string key] 9 (0, 0))) (hT : T.length ≤ 100) :
    Calls Try.prog 33 #[.slice sp T.length cap, .func (.func 34) #[] #[.pointer (some ⟨b, 0, none⟩)]] w fun e w' => e = .returned (.int .i64 (plI T key)) ∧ Only w w' (fun _ => False) := by
  have HR := Lib.hid hr
  clear hr
  go_enter Try.func33, Try.ntmps33
  go_wp2
  go_loopw [8] (fun i wr => ∃ k : Nat, k ≤ T.length ∧ k ≤ pl T key ∧ i = .int .i64 k ∧ Only w wr (fun _ => False)) (fun i _ => T.length - (intOf i).toNat)
  case atStart => exact ⟨0, Nat.zero_le _, Nat.zero_le _, rfl, Only.refl _ _⟩
  case round =>
    obtain ⟨k, hk, hkp, rfl, ho⟩ := hrel
    have hple := pl_le T key
    by_cases hlk : k < T.length
    · obtain ⟨g, cur, rfl, hBg, hg, hnc, hcm, hcs, ht⟩ := own_open HR.out (by omega)
      obtain ⟨c0, c1⟩ := row_cells (ho.keep hg (fun h => h)) ht rfl hlk
      have hbk := ho.keep hb (fun h => h)
      have hcb : wr.cell? ⟨b, 0, none⟩ = some (.string key) := by simp [World.cell?, hbk]
      have hlb := lt_of_block hbk
      by_cases he : T[k].1 = key
      · have hpk : pl T key = k := by
          refine Nat.le_antisymm ?_ hkp
          refine Nat.le_of_not_lt fun hlt => pl_before hlt hlk he
        have t1 : (T[k].1.toList == key.toList) = true := text_eq.2 he
        have h := is_any T[k] key b wr hcb hlb
        rw [t1] at h
        have H := Lib.hid h
        have HP : Hid (plI T key = (k : Int)) := by show plI T key = _; unfold plI; rw [hpk, if_pos hlk]
        clear h he t1 hpk
        go_wp2_with fail
        refine H.out.mono ?_
        rintro e w2 ⟨rfl, o2⟩
        go_wp2
        go_ret
        exact ⟨by rw [HP.out]; rfl, ho.trans o2⟩
      · have hpk : k + 1 ≤ pl T key := by
          rcases Nat.lt_or_ge k (pl T key) with h | h
          · exact h
          · have e : pl T key = k := by omega
            have := pl_lt (T := T) (k := key) (by omega)
            simp only [e] at this
            exact absurd this he
        have t1 : (T[k].1.toList == key.toList) = false := text_ne he
        have h := is_any T[k] key b wr hcb hlb
        rw [t1] at h
        have H := Lib.hid h
        clear h he t1
        go_wp2_with fail
        refine H.out.mono ?_
        rintro e w2 ⟨rfl, o2⟩
        go_wp2
        go_roundw
        case rel => exact ⟨k + 1, by omega, hpk, by go_num, ho.trans o2⟩
        case measure => simp [intOf]; omega
    · have HP : Hid (plI T key = -1) := if_neg (by omega)
      go_wp2
      go_ret
      exact ⟨by rw [HP.out]; rfl, ho⟩

set_option maxHeartbeats 800000 in
theorem place_any (c B : Nat) (s : Ca) (key : ByteArray) (w : World) (hc : IsCache w B c s) :
    Calls Try.prog 26 #[.pointer (some ⟨c, 0, none⟩), .string key] w fun e w' => e = .returned (.int .i64 (plI s.T key)) ∧ Only w w' (fun _ => False) := by
  obtain ⟨bm, v, D, hb, h1, h2, hr, hm, ha, hg, h64, hTs, hk⟩ := hc
  obtain ⟨c0, c1, c2, c3⟩ := cells4 hb
  obtain ⟨sp, cap, rfl⟩ := own_shape hr
  have hlt := lt_of_block hb
  have H := Lib.hid (index_any B cap sp s.T key w.heap.size (w.alloc (.cells #[.string key] 9)) (hr.alloc _) (heap_alloc_new _ _) (by omega))
  go_enter Try.func26, Try.ntmps26
  go_wp2_with fail
  refine H.out.mono ?_
  rintro e w2 ⟨rfl, o2⟩
  go_wp2
  go_ret
  exact ⟨rfl, (Only.alloc _ _ _).trans o2⟩

def newCa (size : Int) : Ca := ⟨(min (max size 0) 64).toNat, [], [], 0⟩

theorem new_cache {size x : Int} (w : World) (hx : ((newCa size).size : Int) = x) :
    IsCache ((w.alloc (.map #[] 0)).alloc (.cells #[.int .i64 x, .slice none 0 0, .map (some w.heap.size), .int .i64 0] 57)) w.heap.size (w.heap.size + 1) (newCa size) ∧
    Fr w.heap.size w ((w.alloc (.map #[] 0)).alloc (.cells #[.int .i64 x, .slice none 0 0, .map (some w.heap.size), .int .i64 0] 57)) := by
  subst hx
  refine ⟨⟨w.heap.size, .slice none 0 0, .map [], ?_, by omega, Nat.le_refl _, World.ownsRow_nil _ _ _ _, ?_, agr_made, ⟨List.nodup_nil, by simp [newCa]⟩, ?_, Nat.zero_le _, by simp [newCa]⟩, Fr.of_none _ ((Only.alloc _ _ _).trans (Only.alloc _ _ _))⟩
  · have := heap_alloc_new (w.alloc (.map #[] 0)) (.cells #[.int .i64 (newCa size).size, .slice none 0 0, .map (some w.heap.size), .int .i64 0] 57)
    simpa [newCa] using this
  · exact (World.ownsMap_made w Try.prog 9 (plainElem Try.prog 3)).alloc _
  · show (min (max size 0) 64).toNat ≤ 64
    omega

set_option maxHeartbeats 800000 in
theorem new_any (size : Int) (w : World) : Calls Try.prog 10 #[.int .i64 size] w fun e w' => ∃ c, e = .returned (.pointer (some ⟨c, 0, none⟩)) ∧ w.heap.size ≤ c ∧ IsCache w' w.heap.size c (newCa size) ∧ Fr w.heap.size w w' := by
  have hmm := @run_makeMap Try.prog
  have HK := Lib.hid (fun (x : Int) (h : ((newCa size).size : Int) = x) => new_cache (size := size) w h)
  go_enter Try.func10, Try.ntmps10
  go_wp2
  all_goals go_ret
  all_goals exact ⟨_, rfl, by omega, HK.out _ (by show ((min (max size 0) 64).toNat : Int) = _; omega)⟩

set_option maxHeartbeats 800000 in
theorem often_any (c B : Nat) (s : Ca) (key : ByteArray) (w : World) (hc : IsCache w B c s) (hkey : key.size ≤ maxLen) :
    Calls Try.prog 22 #[.pointer (some ⟨c, 0, none⟩), .string key] w fun e w' => e = .returned (.int .i64 (often s.C key)) ∧ w' = w := by
  obtain ⟨bm, v, D, hb, h1, h2, hr, hm, ha, hg, h64, hTs, hk⟩ := hc
  obtain ⟨c0, c1, c2, c3⟩ := cells4 hb
  have hlt := lt_of_block hb
  go_enter Try.func22, Try.ntmps22
  go_wp2_with (at_lookup; refine wpList_lookup_own_int _ rfl _ _ 54 rfl 9 3 .i64 law Try.underlying54 Try.underlying3 (zeroE _) bm _ D rfl hm _ _ rfl (key_kl hkey) ?_; intro x hat hwc)
  go_ret
  refine ⟨?_, rfl⟩
  have := (ha.2.2 key).1
  rw [hat] at this
  simp only [DataW.lit.injEq, Lit.int.injEq, true_and] at this
  rw [← this]
  rfl

set_option maxHeartbeats 800000 in
theorem counted_any (c B : Nat) (s : Ca) (w : World) (hc : IsCache w B c s) :
    Calls Try.prog 24 #[.pointer (some ⟨c, 0, none⟩)] w fun e w' => e = .returned (.int .i64 s.C.length) ∧ w' = w := by
  obtain ⟨bm, v, D, hb, h1, h2, hr, hm, ha, hg, h64, hTs, hk⟩ := hc
  obtain ⟨c0, c1, c2, c3⟩ := cells4 hb
  have hlt := lt_of_block hb
  have HS := Lib.hid ha.2.1
  go_enter Try.func24, Try.ntmps24
  go_wp2_with (at_len; refine wpList_len_own _ rfl _ 54 rfl 9 3 Try.underlying54 _ bm _ D rfl hm ?_)
  go_ret
  exact ⟨by rw [← HS.out]; rfl, rfl⟩

end Go.Proofs.Ytgmelphklppcbaa
