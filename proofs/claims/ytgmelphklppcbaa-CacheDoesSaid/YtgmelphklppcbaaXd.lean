/- The document's halved. -/
import Derived.Test.YtgmelphklppcbaaXc
import Derived.Deep.RegionHeld3
namespace Go.Proofs.Ytgmelphklppcbaa
open Go.RowKit

theorem halve_append (l m : Cs) : halve (l ++ m) = halve l ++ halve m := by
  induction l with
  | nil => simp [halve]
  | cons x l ih =>
    simp only [List.cons_append, halve]
    split
    · rw [ih]; rfl
    · exact ih
theorem halve_snoc {C : Cs} {k : Nat} (h : k < C.length) : halve (C.take (k + 1)) = halve (C.take k) ++ (if 1 < C[k].2 then [(C[k].1, C[k].2 / 2)] else []) := by
  rw [List.take_succ_eq_append_getElem h, halve_append]
  rfl

def halvedC (s : Ca) : Ca := { s with C := halve s.C, n := 0 }

set_option maxHeartbeats 3200000 in
theorem rhalved_any (va vc : Value) (s : Ca) (w : World) (h : Ref w va vc s) (hg : Good s.C) :
    Calls Try.prog 31 #[RV s va vc] w fun e w' => ∃ vc', e = .returned (RV (halvedC s) va vc') ∧ Ref w' va vc' (halvedC s) ∧ Only w w' (fun _ => False) := by
  have href := h
  obtain ⟨hT, hC, h64, hT64, hC64, hn⟩ := h
  obtain ⟨sp, cap, rfl, _⟩ := hT.shape
  obtain ⟨spc, capc, rfl, hc⟩ := hC.shape
  have hcl := halve_length_le s.C
  have HSM := Lib.hid (show (halvedC s).size ≤ 64 ∧ (halvedC s).T.length ≤ 64 ∧ (halvedC s).C.length ≤ 1000 ∧ (halvedC s).n ≤ 1000 from ⟨h64, hT64, (by show (halve s.C).length ≤ 1000; omega), Nat.zero_le _⟩)
  unfold RV
  obtain ⟨q0, q1, q2, q4⟩ := two w (.cells #[.int .i64 s.size, .slice sp s.T.length cap, .slice spc s.C.length capc, .int .i64 s.n] 30) (.cells #[.int .i64 0, .slice none 0 0, .slice none 0 0, .int .i64 0] 30)
  obtain ⟨w2, hw2⟩ : ∃ w2, w2 = ((w.alloc (.cells #[.int .i64 s.size, .slice sp s.T.length cap, .slice spc s.C.length capc, .int .i64 s.n] 30)).alloc (.cells #[.int .i64 0, .slice none 0 0, .slice none 0 0, .int .i64 0] 30)) := ⟨_, rfl⟩
  rw [← hw2] at q0 q1 q2 q4
  have HW2 := Lib.hid hw2
  clear hw2
  go_enter Try.func31, Try.ntmps31
  go_wp2
  rw [← HW2.out]
  have hle : w.heap.size ≤ w2.heap.size := by omega
  clear q4
  go_loopw [3, 4] (fun v i wr => ∃ (k : Nat), k ≤ s.C.length ∧ i = .int .i64 k ∧ RC wr w2.heap.size v (halve (s.C.take k)) ∧ Only w2 wr (fun _ => False)) (fun _ i _ => s.C.length - (intOf i).toNat)
  case atStart => exact ⟨0, Nat.zero_le _, rfl, World.ownsRow_nil _ _ _ _, Only.refl _ _⟩
  case round =>
    obtain ⟨k, hk, rfl, hst, hoA⟩ := hrel
    have k0 := hoA.keep q1 (fun h => h)
    have k1 := hoA.keep q2 (fun h => h)
    have ho := q0.trans hoA
    by_cases hlk : k < s.C.length
    · obtain ⟨g, rfl, hgl, hc⟩ := hc (by omega)
      obtain ⟨c0, c1⟩ := hc k hlk
      have c0 := (World.cell?_of_block (a := ⟨g, k * 2, none⟩) (ho.block g hgl (fun h => h))).trans c0
      have c1 := (World.cell?_of_block (a := ⟨g, k * 2 + 1, none⟩) (ho.block g hgl (fun h => h))).trans c1
      have hgl : g < wr.heap.size := Nat.lt_of_lt_of_le hgl ho.size
      obtain ⟨x0, x1, x2, x3⟩ := cells4 k0
      have hlb := lt_of_block k0
      have j0 : (0 : Int) ≤ (k : Int) := by omega
      have j1 : (k : Int) < (s.C.length : Int) := by omega
      have hsn := halve_snoc hlk
      have h15 := (hg.2 _ (List.getElem_mem hlk)).2
      have hll : (halve (s.C.take k)).length ≤ k := by have := halve_length_le (s.C.take k); rw [List.length_take] at this; omega
      have hgl4 := World.ownsRow.lt hst
      unfold RC at hst
      have hos := hoA.size
      generalize s.C[k] = x at c0 c1 hsn h15
      generalize halve (s.C.take k) = U at hsn hll hst
      clear hc q1 q2 k0 k1
      by_cases hx : 1 < x.2
      · have hd : decide ((1 : Int) < (x.2 : Int)) = true := decide_eq_true (by omega)
        have hd2 : decide (1 < x.2) = true := decide_eq_true hx
        have hq : Int.tdiv (x.2 : Int) 2 = ((x.2 / 2 : Nat) : Int) := by
          rw [Int.tdiv_eq_ediv_of_nonneg (by omega)]; omega
        rw [if_pos hx] at hsn
        have i9 : IntKind.i64.wrap ((x.2 / 2 : Nat) : Int) = ((x.2 / 2 : Nat) : Int) := IntWalk.i64_in _ (by omega)
        obtain ⟨m, hm⟩ : ∃ m, m = x.2 / 2 := ⟨_, rfl⟩
        rw [← hm] at hsn hq i9
        clear hx hm
        have hstd : wr.drew.ownsRow w2.heap.size 68 2 _ U.length (flatC U) := hst
        go_upto_region 6 with fail
        go_region_law (refine step_app elC w2.heap.size rfl _ _ rfl _ U.length _ _ 1 1 [.string x.1, .int .i64 m] rfl rfl (hstd.alloc (.cells #[.string x.1, .int .i64 m] 68)) (by simp; omega) ⟨rfl, (fun h => by cases h), (fun ad had j u hj => by obtain rfl := Option.some.inj had; exact news2C' wr.drew (.string x.1) (.int .i64 m) rfl j u hj)⟩ (by simp [Value.oneCell']) (by omega) ?_; intro v' w5 hown5 hgrow5)
        all_goals
          have hst5 : RC w5 w2.heap.size v' (halve (s.C.take (k + 1))) := by
            unfold RC
            rw [hsn, flatC_append, List.length_append]
            exact hown5
          have ho5 : Only w2 w5 (fun _ => False) := new_below ((hoA.drew).trans (Only.alloc _ _ _)) hgrow5 (Nat.le_refl _) (fun j hj => (hgl4 j hj).1)
          clear hown5 hst hstd hgrow5 hgl4
          go_wp2
          go_roundw
          case rel => exact ⟨k + 1, by omega, by go_num, hst5, ho5⟩
          case measure => simp [intOf]; omega
      · have hd : decide ((1 : Int) < (x.2 : Int)) = false := decide_eq_false (by omega)
        have hd2 : decide (1 < x.2) = false := decide_eq_false hx
        rw [if_neg hx, List.append_nil] at hsn
        rw [← hsn] at hst
        clear hx hgl4
        go_wp2
        go_roundw
        case rel => exact ⟨k + 1, by omega, by go_num, hst, hoA⟩
        case measure => simp [intOf]; omega
    · have e : k = s.C.length := by omega
      subst e
      rw [List.take_length] at hst
      clear q1 q2 hc hcl
      obtain ⟨sp2, cap2, rfl, _⟩ := hst.shape
      generalize hn1 : (halve s.C).length = n1 at hst ⊢
      obtain ⟨z0, z1, z2, z3⟩ := cells4 k0
      obtain ⟨y0, y1, y2, y3⟩ := cells4 k1
      have fr2 := free_arr k0 2
      have fr3 := free_arr k0 3
      have g0 := free_arr k1 0
      have g1 := free_arr k1 1
      have g2 := free_arr k1 2
      have g3 := free_arr k1 3
      have hlb := lt_of_block k0
      have hlb2 := lt_of_block k1
      have hr1 : Ref wr (.slice sp s.T.length cap) (.slice sp2 n1 cap2) (halvedC s) := ⟨(href.only ho).1, (by rw [← hn1] at hst; rw [← hn1]; exact own_base hst), HSM.out⟩
      have hr2 := hr1.set ⟨_, k0⟩ 2 (.slice sp2 n1 cap2)
      have hr3 := hr2.set (Box.set ⟨_, k0⟩ _ _ _) 3 (.int .i64 0)
      have k1' : (wr.setCell ⟨w.heap.size, 2, none⟩ (.slice sp2 n1 cap2)).heap[w.heap.size + 1]? = _ := (Below.heap_setCell _ _ _ _ (by simp)).trans k1
      have k1'' : ((wr.setCell ⟨w.heap.size, 2, none⟩ (.slice sp2 n1 cap2)).setCell ⟨w.heap.size, 3, none⟩ (.int .i64 0)).heap[w.heap.size + 1]? = _ := (Below.heap_setCell _ _ _ _ (by simp)).trans k1'
      have hr4 := hr3.set4 ⟨_, k1''⟩ (.int .i64 s.size) (.slice sp s.T.length cap) (.slice sp2 n1 cap2) (.int .i64 0)
      obtain ⟨e0, e1, e2, e3⟩ := cells4 (store4 (x := .int .i64 s.size) (y := (.slice sp s.T.length cap)) (z := .slice sp2 n1 cap2) (u := .int .i64 0) k1'')
      have hoE := only_set4 (x := .int .i64 s.size) (y := (.slice sp s.T.length cap)) (z := .slice sp2 n1 cap2) (u := .int .i64 0) (only_set (only_set ho (b := w.heap.size) (Nat.le_refl _) 2 (.slice sp2 n1 cap2)) (b := w.heap.size) (Nat.le_refl _) 3 (.int .i64 0)) (b := w.heap.size + 1) (by omega)
      obtain ⟨W5, hW5⟩ : ∃ W5, W5 = ((((((wr.setCell ⟨w.heap.size, 2, none⟩ (.slice sp2 n1 cap2)).setCell ⟨w.heap.size, 3, none⟩ (.int .i64 0)).setCell ⟨w.heap.size + 1, 0, none⟩ (.int .i64 s.size)).setCell ⟨w.heap.size + 1, 1, none⟩ (.slice sp s.T.length cap)).setCell ⟨w.heap.size + 1, 2, none⟩ (.slice sp2 n1 cap2)).setCell ⟨w.heap.size + 1, 3, none⟩ (.int .i64 0)) := ⟨_, rfl⟩
      rw [← hW5] at e0 e1 e2 e3 hr4 hoE
      have HW5 := Lib.hid hW5
      have HE := Lib.hid (And.intro hr4 hoE)
      clear hr1 hr2 hr3 hr4 hoE hst k0 k1 k1' k1'' ho hW5 hn1
      go_wp2
      rw [← HW5.out]
      refine bodyPost_ret (v := .agg #[.int .i64 s.size, (.slice sp s.T.length cap), .slice sp2 n1 cap2, .int .i64 0]) ?_ rfl ?_
      · simp [results, Try.results31, go_sem, e0, e1, e2, e3]
      · exact ⟨_, rfl, HE.out.1, HE.out.2⟩

end Go.Proofs.Ytgmelphklppcbaa
