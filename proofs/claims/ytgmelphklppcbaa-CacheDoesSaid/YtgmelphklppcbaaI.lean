/- The contract of Keys. -/
import Derived.Test.YtgmelphklppcbaaH
namespace Go.Proofs.Ytgmelphklppcbaa
open Go.RowKit

theorem info9 : (Try.prog.info? 9).map (fun i => (i.zero, i.size, i.bytes)) = some (some (.string ByteArray.empty), 1, 16) := by kernel_rfl

/-- The keys, in order. -/
def keysOf (T : Ts) : List ByteArray := T.map (·.1)

/-- A slice of texts that is owned from base on. -/
def Strs (w : World) (base : Nat) (v : Value) (L : List ByteArray) : Prop := w.ownsRow base 9 1 v L.length (L.map Value.string)

theorem keysOf_snoc {T : Ts} {k : Nat} (h : k < T.length) : keysOf (T.take (k + 1)) = keysOf (T.take k) ++ [T[k].1] := by
  unfold keysOf
  rw [List.take_succ_eq_append_getElem h, List.map_append]
  rfl
theorem keysOf_length (T : Ts) : (keysOf T).length = T.length := by unfold keysOf; simp

theorem Strs.only {w w' : World} {base : Nat} {v : Value} {L : List ByteArray} (h : Strs w base v L) (ho : Only w w' (fun _ => False)) : Strs w' base v L := ho.own h (fun _ _ h => h)
theorem Strs.fr {w w' : World} {B base : Nat} {v : Value} {L : List ByteArray} (h : Strs w base v L) (ho : Fr B w w') : Strs w' base v L := ho.own h (by decide) (by decide)

theorem new_below {w w1 w2 : World} {row : Option Nat} {B : Nat} (h : Only w w1 (fun _ => False)) (hg : w1.grownBy w2 row) (hB : w.heap.size ≤ B) (hr : ∀ k, row = some k → B ≤ k) : Only w w2 (fun _ => False) :=
  ⟨hg.os.trans h.os, hg.tape.trans h.tape, hg.output.trans h.output, Nat.le_trans h.size hg.size, fun k hk hs => (hg.block k (Nat.lt_of_lt_of_le hk h.size) (fun e => by have := hr k e.symm; omega)).trans (h.block k hk hs)⟩

theorem news1 {n : Nat} (w : World) (x : Value) (hn : n = w.heap.size) : ∀ j u, [x][j]? = some u → (w.alloc (.cells #[x] 9)).cell? ((⟨n, 0, none⟩ : Addr).add j) = some u := by
  subst hn
  intro j u hj
  rw [Addr.add_lit, Nat.zero_add]
  simp only [World.cell?, heap_alloc_new]
  simpa using hj

set_option maxHeartbeats 1600000 in
theorem keys_any (c B : Nat) (s : Ca) (w : World) (hc : IsCache w B c s) :
    Calls Try.prog 20 #[.pointer (some ⟨c, 0, none⟩)] w fun e w' => ∃ v, e = .returned v ∧ Strs w' w.heap.size v (keysOf s.T) ∧ Only w w' (fun _ => False) := by
  obtain ⟨i0, hi, hz0, hz1, hz2⟩ := info_parts info9
  obtain ⟨bm, v, D, hb, h1, h2, hr, hm, ha, hg, h64, hTs, hk⟩ := hc
  obtain ⟨c0, c1, c2, c3⟩ := cells4 hb
  obtain ⟨sp, cap, rfl⟩ := own_shape hr
  have hlt := lt_of_block hb
  have HR := Lib.hid hr
  clear hr
  go_enter Try.func20, Try.ntmps20
  go_wp2_with (at_make; refine wpList_make_own _ rfl _ _ 44 rfl w.heap.size 9 i0 (.string ByteArray.empty) 1 Try.underlying44 hi hz0 hz1 .i64 .i64 _ s.T.length rfl rfl ?c1 ?c2 ?c3 ?c4 ?_)
  case c1 => rfl
  case c2 => rw [hz2]; omega
  case c3 => unfold maxLen; omega
  case c4 => omega
  intro w1 hown hgrow
  have ho1 : Only w w1 (fun _ => False) := new_below (Only.refl _ _) hgrow (Nat.le_refl _) (fun k h => by cases h)
  have c1 := (cells4 (ho1.keep hb (fun h => h))).2.1
  go_wp2_with fail
  go_loopw [3, 17] (fun v i wr => ∃ k : Nat, k ≤ s.T.length ∧ i = .int .i64 k ∧ Strs wr w.heap.size v (keysOf (s.T.take k)) ∧ Only w wr (fun _ => False)) (fun _ i _ => s.T.length - (intOf i).toNat)
  case atStart => exact ⟨0, Nat.zero_le _, rfl, hown, ho1⟩
  case round =>
    obtain ⟨k, hkl, rfl, hst, ho⟩ := hrel
    by_cases hlk : k < s.T.length
    · obtain ⟨g, cur, rfl, hBg, hgg, hnc, hcm, hcs, ht⟩ := own_open HR.out (by omega)
      obtain ⟨d0, d1⟩ := row_cells (ho.keep hgg (fun h => h)) ht rfl hlk
      have j0 : (0 : Int) ≤ (k : Int) := by omega
      have j1 : (k : Int) < (s.T.length : Int) := by omega
      have hlg := lt_of_block (ho.keep hgg (fun h => h))
      unfold Strs at hst
      have hgl := hst.lt
      have hl := keysOf_length (s.T.take k)
      rw [List.length_take, Nat.min_eq_left (by omega)] at hl
      rw [hl] at hst
      have hos := ho.size
      go_wp2_with (at_builtin; refine wpList_append_own _ rfl _ _ _ rfl w.heap.size 9 i0 _ 1 16 Try.underlying44 hi hz0 hz1 hz2 rfl (by omega) _ k _ rfl ((hst.alloc _).alloc _) ⟨wr.heap.size + 1, 0, none⟩ 1 1 [.string s.T[k].1] rfl rfl (news1 _ _ (by simp)) (by simp [Value.oneCell']) (by unfold maxLen; omega) (by omega) (by simp; omega) ?_)
      intro v' w2 hown2 hgrow2 _
      have hst2 : Strs w2 w.heap.size v' (keysOf (s.T.take (k + 1))) := by
        unfold Strs
        rw [keysOf_snoc hlk]
        simp only [List.length_append, hl, List.map_append, List.length_cons, List.length_nil]
        exact hown2
      have ho2 : Only w w2 (fun _ => False) := new_below ((ho.trans (Only.alloc _ _ _)).trans (Only.alloc _ _ _)) hgrow2 (Nat.le_refl _) (fun j hj => (hgl j hj).1)
      clear hown2 hgrow2 hst hgl
      go_wp2
      go_roundw
      case rel => exact ⟨k + 1, by omega, by go_num, hst2, ho2⟩
      case measure => simp [intOf]; omega
    · go_wp2
      go_ret
      have e : k = s.T.length := by omega
      subst e
      rw [List.take_length] at hst
      exact ⟨_, rfl, hst, ho⟩

end Go.Proofs.Ytgmelphklppcbaa
