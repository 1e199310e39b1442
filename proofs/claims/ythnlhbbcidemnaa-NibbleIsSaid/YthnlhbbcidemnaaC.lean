/- Nibbles: the contract of pairs. -/
import Derived.Test.YthnlhbbcidemnaaB
namespace Go.Proofs.Ythnlhbbcidemnaa
open Go.RowKit

theorem heap_set {w : World} {g : Nat} {xs : Array Value} {e : TypeId} {f : Nat × Nat} (h : w.heap[g]? = some (.cells xs e f)) (j : Nat) (u : Value) : (w.setCell ⟨g, j, none⟩ u).heap[g]? = some (.cells (xs.setIfInBounds j u) e f) := by
  have hlt := lt_of_block h
  have h' : w.heap[g] = .cells xs e f := by simpa [Array.getElem?_eq_getElem hlt] using h
  show (w.heap.modify g _)[g]? = _
  rw [Array.getElem?_eq_getElem (by simpa using hlt), Array.getElem_modify_self, h']
  rfl
theorem own_all {w : World} {base g n : Nat} {e : TypeId} {xs : List Value} (h : w.ownsRow base e 1 (.slice (some ⟨g, 0, none⟩) n n) n xs) : w.heap[g]? = some (.cells xs.toArray e (0, 0)) := by
  rcases h.2 with ⟨h, _⟩ | ⟨g', cap, cur, hv, _, hg, _, _, hs, ht⟩
  · cases h
  · simp only [Value.slice.injEq, Option.some.injEq, Addr.mk.injEq] at hv
    obtain ⟨⟨rfl, _⟩, _, rfl⟩ := hv
    rw [hg, ← ht, List.take_of_length_le (by simp; omega)]
theorem all_own {w : World} {g n : Nat} {e : TypeId} {xs : List Value} (h : w.heap[g]? = some (.cells xs.toArray e (0, 0))) (hn : xs.length = n) (hm : n ≤ maxLen) : w.ownsRow 0 e 1 (.slice (some ⟨g, 0, none⟩) n n) n xs :=
  ⟨by omega, .inr ⟨g, n, xs.toArray, rfl, Nat.zero_le _, h, Nat.le_refl _, hm, by simp [hn], by simp [List.take_of_length_le, hn]⟩⟩
theorem cell_arr {w : World} {g : Nat} {xs : List Value} {e : TypeId} (h : w.heap[g]? = some (.cells xs.toArray e (0, 0))) (j : Nat) : w.cell? ⟨g, j, none⟩ = xs[j]? := by
  simp [World.cell?, h]
theorem free_arr {w : World} {g : Nat} {xs : Array Value} {e : TypeId} (h : w.heap[g]? = some (.cells xs e (0, 0))) (j : Nat) : w.frozen? ⟨g, j, none⟩ = false := by
  simp [World.frozen?, h]

/-- Two nibbles a byte, the first one the higher. -/
def pairB (a b : UInt8) : UInt8 := a * 16 ||| b
def pairL : List UInt8 → List UInt8
  | a :: b :: r => pairB a b :: pairL r
  | _ => []
theorem pairL_snoc : ∀ (j : Nat) (l : List UInt8) (a b : UInt8), l.length = 2 * j → pairL (l ++ [a, b]) = pairL l ++ [pairB a b]
  | 0, [], _, _, _ => rfl
  | j + 1, x :: y :: r, a, b, h => by
    simp only [List.cons_append, pairL]
    rw [pairL_snoc j r a b (by simp at h; omega)]
  | j + 1, [], _, _, h => by simp at h
  | j + 1, [_], _, _, h => by simp at h; omega
  | 0, _ :: _, _, _, h => by simp at h
theorem length_pairL : ∀ (j : Nat) (l : List UInt8), l.length = 2 * j → (pairL l).length = j
  | 0, [], _ => rfl
  | j + 1, x :: y :: r, h => by
    simp only [pairL, List.length_cons]
    rw [length_pairL j r (by simp at h; omega)]
  | j + 1, [], h => by simp at h
  | j + 1, [_], h => by simp at h; omega
  | 0, _ :: _, h => by simp at h
theorem pair_val (a b : UInt8) : bits .or .u8 (((a.toNat : Nat) : Int) * 16 % 256) ((b.toNat : Nat) : Int) = (((pairB a b).toNat : Nat) : Int) := by
  have h : (((a.toNat : Nat) : Int) * 16 % 256) = ((a.toNat * 16 % 256 : Nat) : Int) := by omega
  rw [h, u8_or_nat _ _ (by omega) b.toNat_lt]
  unfold pairB
  rw [UInt8.toNat_or, UInt8.toNat_mul]
  rfl
theorem zeros_set (X : List Value) (m : Nat) (z v : Value) : (X ++ List.replicate (m + 1) z).set X.length v = (X ++ [v]) ++ List.replicate m z := by
  rw [List.set_append_right _ _ (Nat.le_refl _), Nat.sub_self, List.replicate_succ, List.set_cons_zero]
  simp

/-- What is laid: j bytes, then zeros. -/
def laidV (l : List UInt8) (m : Nat) : List Value := bytesV l ++ List.replicate m (.int .u8 0)
theorem laidV_set {l : List UInt8} {m j : Nat} (c : UInt8) (h : l.length = j) : (laidV l (m + 1)).set j (.int .u8 ((c.toNat : Nat) : Int)) = laidV (l ++ [c]) m := by
  subst h
  unfold laidV
  rw [← length_bytesV l, zeros_set, bytesV_append]
  rfl
theorem length_laidV (l : List UInt8) (m : Nat) : (laidV l m).length = l.length + m := by simp [laidV, length_bytesV]
theorem take_two {p : ByteArray} {j : Nat} (h : 2 * j + 1 < p.size) : p.data.toList.take (2 * (j + 1)) = p.data.toList.take (2 * j) ++ [p[2 * j], p[2 * j + 1]] := by
  rw [show 2 * (j + 1) = 2 * j + 1 + 1 by omega, take_snoc h, take_snoc (by omega : 2 * j < p.size)]
  simp
theorem pairL_take (p : ByteArray) {n : Nat} (h : n = p.size / 2) : pairL (p.data.toList.take (2 * n)) = pairL p.data.toList := by
  by_cases he : p.size = 2 * n
  · rw [take_all p (by omega)]
  · have ho : 2 * n < p.size := by omega
    have e : p.data.toList = p.data.toList.take (2 * n) ++ [p[2 * n]] := by
      rw [← take_snoc ho, take_all p (by omega)]
    rw [e]
    have hl : (p.data.toList.take (2 * n)).length = 2 * n := by
      have : p.data.toList.length = p.size := by simp
      simp only [List.length_take]; omega
    generalize p.data.toList.take (2 * n) = A at hl
    have : ∀ (k : Nat) (A : List UInt8) (c : UInt8), A.length = 2 * k → pairL (A ++ [c]) = pairL A := by
      intro k
      induction k with
      | zero => intro A c h; match A, h with | [], _ => rfl
      | succ k ih =>
        intro A c h
        match A, h with
        | x :: y :: r, h => simp only [List.cons_append, pairL]; rw [ih r c (by simp at h; omega)]
    rw [List.take_append_of_le_length (by omega), List.take_of_length_le (by omega), this n A _ hl]

set_option maxHeartbeats 1600000 in
theorem pairs_any (p : ByteArray) (w : World) (hs : p.size ≤ 1000) : Calls Try.prog 19 #[.string p] w fun e w' => e = .returned (.string (text (pairL p.data.toList))) ∧ Below w.heap.size w w' := by
  obtain ⟨i0, hi, hz0, hz1, hz2⟩ := info_parts info5
  obtain ⟨n, hn⟩ : ∃ n : Nat, n = p.size / 2 := ⟨_, rfl⟩
  have Hn := Lib.hid hn
  have hn2 : 2 * n ≤ p.size := by omega
  clear hn
  go_enter Try.func19, Try.ntmps19
  go_wp2_with (at_make; refine wpList_make_full _ rfl _ _ 31 rfl w.heap.size 5 i0 (.int .u8 0) 1 Try.underlying31 hi hz0 hz1 .i64 .i64 _ _ n rfl rfl ?c1 ?c2 ?c3 ?c4 ?c5 ?_)
  case c1 => have := Hn.out; omega
  case c2 => have := Hn.out; omega
  case c3 => rw [hz2]; omega
  case c4 => unfold maxLen; omega
  case c5 => omega
  intro w1 hown hgrow
  have hB1 : Below w.heap.size w w1 := (Below.refl _ w).grown hgrow (Nat.le_refl _) (fun k h => by cases h)
  have hg1 := own_all hown
  rw [toList_madeCells_one] at hg1
  have HG1 : Hid (w1.heap[w.heap.size]? = some (.cells (laidV [] n).toArray 5 (0, 0))) := by simpa [Hid, laidV, bytesV] using hg1
  clear hown hgrow hg1 hi hz0 hz1 hz2
  go_wp2_with fail
  go_loopw [4, 11] (fun _ i wr => ∃ j : Nat, j ≤ n ∧ i = .int .i64 j ∧ Hid (wr.heap[w.heap.size]? = some (.cells (laidV (pairL (p.data.toList.take (2 * j))) (n - j)).toArray 5 (0, 0))) ∧ Below w.heap.size w wr) (fun _ i _ => n - (intOf i).toNat)
  case atStart => exact ⟨0, Nat.zero_le _, rfl, HG1, hB1⟩
  case round =>
    obtain ⟨j, hj, rfl, hg, hb⟩ := hrel
    by_cases hlj : j < n
    · have ka : 2 * j + 1 < p.size := by omega
      have kb : 2 * j < p.size := by omega
      have hpz : p.data.toList.length = p.size := by simp
      have hpk : (p.data.toList.take (2 * j)).length = 2 * j := by rw [List.length_take]; omega
      have hpl : Hid ((pairL (p.data.toList.take (2 * j))).length = j) := length_pairL j _ hpk
      have hpn : Hid (pairL (p.data.toList.take (2 * (j + 1))) = pairL (p.data.toList.take (2 * j)) ++ [pairB p[2 * j] p[2 * j + 1]]) := by
        rw [Hid, take_two ka, pairL_snoc j _ _ _ hpk]
      clear hpk hpz
      have hpv := Lib.hid (pair_val p[2 * j] p[2 * j + 1])
      have i0 : (0 : Int) ≤ (j : Int) := by omega
      have i1 : (j : Int) < (n : Int) := by omega
      have i2 : IntKind.i64.wrap (2 * (j : Int)) = 2 * (j : Int) := IntWalk.i64_in _ (by omega)
      have i3 : (0 : Int) ≤ 2 * (j : Int) := by omega
      have i4 : 2 * (j : Int) < (p.size : Int) := by omega
      have i5 : IntKind.i64.wrap (2 * (j : Int) + 1) = 2 * (j : Int) + 1 := IntWalk.i64_in _ (by omega)
      have i6 : (0 : Int) ≤ 2 * (j : Int) + 1 := by omega
      have i7 : 2 * (j : Int) + 1 < (p.size : Int) := by omega
      have i8 : (2 * (j : Int)).toNat = 2 * j := by omega
      have i9 : (2 * (j : Int) + 1).toNat = 2 * j + 1 := by omega
      obtain ⟨v0, hc0⟩ : ∃ v, wr.cell? ⟨w.heap.size, j, none⟩ = some v := by
        rw [cell_arr hg.out]; exact ⟨_, List.getElem?_eq_getElem (by rw [length_laidV, hpl.out]; omega)⟩
      have hf0 := free_arr hg.out j
      go_wp2_with fail
      go_region
      have hb2 := hb.setCell (p := ⟨w.heap.size, j, none⟩) (Nat.le_refl _) (Value.int IntKind.u8 (bits BinOp.or IntKind.u8 (((p[2 * j].toNat : Nat) : Int) * 16 % 256) ((p[2 * j + 1].toNat : Nat) : Int)))
      have hg2 := heap_set hg.out j (Value.int IntKind.u8 (bits BinOp.or IntKind.u8 (((p[2 * j].toNat : Nat) : Int) * 16 % 256) ((p[2 * j + 1].toNat : Nat) : Int)))
      have HG2 : Hid ((wr.setCell ⟨w.heap.size, j, none⟩ (Value.int IntKind.u8 (bits BinOp.or IntKind.u8 (((p[2 * j].toNat : Nat) : Int) * 16 % 256) ((p[2 * j + 1].toNat : Nat) : Int)))).heap[w.heap.size]? = some (.cells (laidV (pairL (p.data.toList.take (2 * (j + 1)))) (n - (j + 1))).toArray 5 (0, 0))) := by
        rw [Hid, hg2, hpv.out, hpn.out, ← laidV_set _ hpl.out]
        rw [show n - j = n - (j + 1) + 1 by omega]
        simp
      have HB2 := Lib.hid hb2
      clear hb2 hg2 hc0 hf0
      go_wp2
      go_roundw
      case rel => exact ⟨j + 1, by omega, by go_num, HG2, HB2.out.drew⟩
      case measure => simp [intOf]; omega
    · have hle : Hid (pairL (p.data.toList.take (2 * j)) = pairL p.data.toList) := pairL_take p (by have := Hn.out; omega)
      have hown : wr.ownsRow 0 5 1 (.slice (some ⟨w.heap.size, 0, none⟩) n n) n (bytesV (pairL p.data.toList)) := by
        have h1 := hg.out
        rw [hle.out, show n - j = 0 by omega] at h1
        have h2 : laidV (pairL p.data.toList) 0 = bytesV (pairL p.data.toList) := by simp [laidV]
        rw [h2] at h1
        refine all_own h1 ?_ (by unfold maxLen; omega)
        rw [length_bytesV, ← hle.out]
        have hpz : p.data.toList.length = p.size := by simp
        rw [length_pairL j _ (by rw [List.length_take]; omega)]
        omega
      have hcv := conv_bytes hown
      clear hown
      go_wp2
      go_ret
      exact ⟨rfl, hb⟩

end Go.Proofs.Ythnlhbbcidemnaa
