/- The contract of front, walked. -/
import Derived.Test.YtgmelphklppcbaaF
import Derived.Deep.RegionHeld3
namespace Go.Proofs.Ytgmelphklppcbaa
open Go.RowKit

theorem cells2 {w : World} {b : Nat} {p q : Value} {t : TypeId} (h : w.heap[b]? = some (.cells #[p, q] t (0, 0))) : w.cell? ⟨b, 0, none⟩ = some p ∧ w.cell? ⟨b, 1, none⟩ = some q := by
  simp [World.cell?, h]

theorem heap_set {w : World} {g : Nat} {xs : Array Value} {e : TypeId} {f : Nat × Nat} (h : w.heap[g]? = some (.cells xs e f)) (j : Nat) (u : Value) : (w.setCell ⟨g, j, none⟩ u).heap[g]? = some (.cells (xs.setIfInBounds j u) e f) := by
  have hlt := lt_of_block h
  have h' : w.heap[g] = .cells xs e f := by simpa [Array.getElem?_eq_getElem hlt] using h
  show (w.heap.modify g _)[g]? = _
  rw [Array.getElem?_eq_getElem (by simpa using hlt), Array.getElem_modify_self, h']
  rfl

/-- Behind front. -/
def frontL (T : Ts) (i : Nat) (v : ByteArray) : Ts :=
  match T[i]? with
  | some x => (x.1, v) :: (T.take i ++ T.drop (i + 1))
  | none => T
theorem frontL_eq {T : Ts} {i : Nat} (h : i < T.length) (v : ByteArray) : frontL T i v = (T[i].1, v) :: (T.take i ++ T.drop (i + 1)) := by
  unfold frontL; rw [List.getElem?_eq_getElem h]
theorem frontL_length {T : Ts} {i : Nat} (h : i < T.length) (v : ByteArray) : (frontL T i v).length = T.length := by
  rw [frontL_eq h]; simp; omega

set_option maxHeartbeats 1600000 in
theorem front_any (c B i : Nat) (s : Ca) (val : ByteArray) (w : World) (hc : IsCache w B c s) (hi : i < s.T.length) :
    Calls Try.prog 27 #[.pointer (some ⟨c, 0, none⟩), .int .i64 i, .string val] w fun e w' => e = .returned (.tuple #[]) ∧ IsCache w' B c { s with T := frontL s.T i val } ∧ Fr B w w' := by
  obtain ⟨bm, v, D, hb, h1, h2, hr, hm, ha, hg, h64, hTs, hk⟩ := hc
  obtain ⟨c0, c1, c2, c3⟩ := cells4 hb
  obtain ⟨sp, cap, rfl⟩ := own_shape hr
  obtain ⟨g, cur, rfl, hBg, hgg, hnc, hcm, hcs, ht⟩ := own_open hr (by omega)
  have hlt := lt_of_block hb
  have hlg := lt_of_block hgg
  obtain ⟨d0, d1⟩ := row_cells hgg ht rfl hi
  have i0 : (0 : Int) ≤ (i : Int) := by omega
  have i1 : (i : Int) < (s.T.length : Int) := by omega
  have i2 : IntKind.i64.wrap ((i : Int) + 1) = (i : Int) + 1 := IntWalk.i64_in _ (by omega)
  have i3 : (1 : Int) ≤ (i : Int) + 1 := by omega
  have i4 : (i : Int) + 1 ≤ (cap : Int) := by omega
  have i5 : ((i : Int) + 1).toNat = i + 1 := by omega
  have i6 : (i : Int) ≤ (cap : Int) := by omega
  have i7 : (0 : Int) ≤ (i : Int) + 1 := by omega
  have i8 : (i : Int) + 1 ≤ (s.T.length : Int) := by omega
  go_enter Try.func27, Try.ntmps27
  go_upto_region 1 with fail
  have hA := Only.alloc w (.cells #[.string s.T[i].1, .string val] 59) (fun _ => False)
  have kt := heap_alloc_new w (.cells #[.string s.T[i].1, .string val] 59)
  obtain ⟨w0, hw0⟩ : ∃ w0, w0 = w.alloc (.cells #[.string s.T[i].1, .string val] 59) := ⟨_, rfl⟩
  rw [← hw0] at hA kt ⊢
  clear hw0
  have hltb := lt_of_block kt
  have kb := hA.keep hb (fun h => h)
  have kg := hA.keep hgg (fun h => h)
  have hlb0 := lt_of_block kb
  have hlg0 := lt_of_block kg
  have c1 := (cells4 kb).2.1
  have hc1 : c ≠ g := by rintro rfl; rw [hb] at hgg; simp at hgg
  have hc2 : g ≠ w.heap.size := by omega
  have hX : (flat (s.T.take i)).length = i * 2 := by rw [flat_length, List.length_take]; omega
  obtain ⟨X, hXe⟩ : ∃ X, X = flat (s.T.take i) := ⟨_, rfl⟩
  have hX1 := flat_one (s.T.take i)
  have hsrc : ∀ j u, X[j]? = some u → w0.cell? ((⟨g, 0, none⟩ : Addr).add j) = some u := fun j u hj => by
    rw [hXe, ← flat_take, ← ht, List.take_take, Nat.min_eq_left (by omega)] at hj
    have := List.getElem?_eq_some_iff.1 hj
    obtain ⟨hjl, hju⟩ := this
    rw [List.length_take] at hjl
    rw [Addr.add_lit, Nat.zero_add]
    simp only [World.cell?, kg]
    have e : cur[j]? = some u := by
      rw [List.getElem?_take_of_lt (by omega)] at hj
      simpa using hj
    simpa using e
  rw [← hXe] at hX hX1
  have HR := Lib.hid (show (((splice cur.toList 2 X).set 0 (.string s.T[i].1)).set 1 (.string val)).take (s.T.length * 2) = flat (frontL s.T i val) by
    rw [frontL_eq hi, hXe]; exact front_row ht rfl hi)
  have HP : Hid (0 < i → (if cap = 1 then some ⟨g, 0, none⟩ else some ⟨g, 2, none⟩ : Option Addr) = some ⟨g, 2, none⟩ ∧ ∃ ad, some (⟨g, 0, none⟩ : Addr) = some ad ∧ ∀ j v, X[j]? = some v → w0.drew.cell? (ad.add j) = some v) := fun h => ⟨if_neg (by omega), ⟨g, 0, none⟩, rfl, hsrc⟩
  have HQ : Hid (0 < i → 2 + X.length ≤ cur.size) := fun _ => by rw [hX, hcs]; omega
  clear hXe hsrc
  go_cut [] (fun wx => Hid (wx.heap[g]? = some (.cells (splice cur.toList 2 X).toArray 59 (0, 0))) ∧ w0.grownBy wx (some g))
  case first =>
    go_region_law (refine step_copy_sized rfl (.tmp 23) (.tmp 29) 55 55 rfl 59 2 Try.underlying55 size59 _ _ _ _ _ _ rfl rfl g 2 i cur 59 kg X (Nat.min_self i).symm hX HP.out HQ.out hX1 ?_; intro w2 HG2 hB2)
    all_goals
      go_wp2_with fail
      all_goals
        go_meet
        exact ⟨HG2, ⟨hB2.os, hB2.tape, hB2.output, hB2.size, hB2.block⟩⟩
  case rest =>
    obtain ⟨HG, hgr⟩ := hcut
    have hG := HG.out
    have kb2 := grown_keep hgr kb (by simp [hc1])
    have kt2 := grown_keep hgr kt (by simp; omega)
    have c1 := (cells4 kb2).2.1
    obtain ⟨t0, t1⟩ := cells2 kt2
    have f0 := free_arr hG 0
    have f1 := free_arr hG 1
    have hlg2 := lt_of_block hG
    have hlb2 := lt_of_block kb2
    have hlt2 := lt_of_block kt2
    have hsl : (splice cur.toList 2 X).length = cap * 2 := by rw [length_splice]; simpa using hcs; rw [hX]; simp [hcs]; omega
    have x0 : ∃ u, wc.cell? ⟨g, 0, none⟩ = some u := by
      refine ⟨(splice cur.toList 2 X)[0]'(by omega), ?_⟩
      simp [World.cell?, hG]
    have x1 : ∃ u, wc.cell? ⟨g, 1, none⟩ = some u := by
      refine ⟨(splice cur.toList 2 X)[1]'(by omega), ?_⟩
      simp [World.cell?, hG]
    obtain ⟨u0, x0⟩ := x0
    obtain ⟨u1, x1⟩ := x1
    have i9 : (0 : Int) < (s.T.length : Int) := by omega
    clear hG
    go_upto_region 2 with fail
    go_region
    go_wp2
    go_end0
    have kg2 : (((wc.setCell ⟨g, 0, none⟩ (.string s.T[i].1)).setCell ⟨g, 1, none⟩ (.string val)).drew).heap[g]? = _ := heap_set (heap_set HG.out 0 _) 1 _
    have ho : Only w (((wc.setCell ⟨g, 0, none⟩ (.string s.T[i].1)).setCell ⟨g, 1, none⟩ (.string val)).drew) (fun k => k = g) :=
      ((((hA.mono (fun _ h => h.elim)).trans (Only.of_grown hgr)).trans (Only.setCell _ _ _ _ _ rfl)).trans (Only.setCell _ _ _ _ _ rfl)).drew
    refine ⟨rfl, ⟨bm, .slice (some ⟨g, 0, none⟩) s.T.length cap, D, ho.keep hb hc1, h1, h2, ?_, ho.map hm (fun e => map_ne hm hgg e.symm), ha, hg, h64, ?_, ?_⟩, Fr.of_only ho fun k _ e => ?_⟩
    · show World.ownsRow _ B 59 2 _ (frontL s.T i val).length (flat (frontL s.T i val))
      rw [frontL_length hi]
      refine ⟨by rw [flat_length, frontL_length hi], .inr ⟨g, cap, _, rfl, hBg, kg2, hnc, hcm, ?_, ?_⟩⟩
      · simpa using hsl
      · rw [← HR.out]; simp
    · show (frontL s.T i val).length ≤ s.size
      rw [frontL_length hi]; exact hTs
    · intro x hx
      have hx : x ∈ frontL s.T i val := hx
      rw [frontL_eq hi] at hx
      rcases List.mem_cons.1 hx with rfl | hx
      · exact hk s.T[i] (List.getElem_mem hi)
      · rcases List.mem_append.1 hx with hx | hx
        · exact hk _ (List.mem_of_mem_take hx)
        · exact hk _ (List.mem_of_mem_drop hx)
    · subst e
      exact ⟨hBg, .inr (.inl ⟨_, _, hgg⟩)⟩

end Go.Proofs.Ytgmelphklppcbaa
