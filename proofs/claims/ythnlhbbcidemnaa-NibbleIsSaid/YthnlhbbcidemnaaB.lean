/- Nibbles: the contract of Path. -/
import Derived.Test.YthnlhbbcidemnaaA
import Derived.Deep.RegionLaw
import Derived.Deep.AppendLies
import Derived.Laws.BytesArg
namespace Go.Proofs.Ythnlhbbcidemnaa
open Go.RowKit

theorem info5 : (Try.prog.info? 5).map (fun i => (i.zero, i.size, i.bytes)) = some (some (.int .u8 0), 1, 1) := by kernel_rfl

/-- Bytes as values. -/
def bytesV (l : List UInt8) : List Value := l.map (fun c => Value.int .u8 ((c.toNat : Nat) : Int))
theorem bytesV_append (a b : List UInt8) : bytesV (a ++ b) = bytesV a ++ bytesV b := List.map_append
theorem length_bytesV (a : List UInt8) : (bytesV a).length = a.length := List.length_map _

/-- Of each byte the higher four bits, and the lower four. -/
def pathL (l : List UInt8) : List UInt8 := l.flatMap (fun c => [c / 16, c % 16])
theorem pathL_append (a b : List UInt8) : pathL (a ++ b) = pathL a ++ pathL b := List.flatMap_append
theorem length_pathL (l : List UInt8) : (pathL l).length = 2 * l.length := by
  induction l with
  | nil => rfl
  | cons c r ih => simp only [pathL, List.flatMap_cons, List.length_append, List.length_cons, List.length_nil] at ih ⊢; omega
theorem two_nibbles (c : UInt8) : [Value.int .u8 (((c.toNat : Nat) : Int) / 16), Value.int .u8 (bits .and .u8 ((c.toNat : Nat) : Int) 15)] = bytesV [c / 16, c % 16] := by
  have h : c.toNat < 256 := c.toNat_lt
  have e : bits .and .u8 ((c.toNat : Nat) : Int) 15 = ((c.toNat % 16 : Nat) : Int) := by
    have := u8_and_nat c.toNat 15 h (by omega)
    rw [show ((15 : Nat) : Int) = 15 from rfl] at this
    rw [this, show (15 : Nat) = 2 ^ 4 - 1 from rfl, Nat.and_two_pow_sub_one_eq_mod]
  rw [e]
  simp [bytesV, UInt8.toNat_div, UInt8.toNat_mod]

theorem cells_bytes {w : World} {base g n cap : Nat} {l : List UInt8} (h : w.ownsRow base 5 1 (.slice (some ⟨g, 0, none⟩) n cap) n (bytesV l)) : l.length = n ∧
    ∀ i, i < n → w.cell? ⟨g, 0 + i, none⟩ = some (.int .u8 ((l.map (fun c => ((c.toNat : Nat) : Int))).getD i 0)) := by
  have hl : l.length = n := by have := h.1; rw [length_bytesV] at this; omega
  refine ⟨hl, fun i hi => ?_⟩
  rw [Nat.zero_add, h.cellAt i (by omega)]
  simp [bytesV, List.getD, show i < l.length by omega]

/-- A text of bytes. -/
def text (l : List UInt8) : ByteArray := ⟨l.toArray⟩
theorem text_data (l : List UInt8) : (text l).data.toList = l := rfl
theorem text_nums (l : List UInt8) : strOfNums (l.map (fun c => ((c.toNat : Nat) : Int))) = text l := by
  unfold strOfNums text
  congr 2
  rw [List.map_map]
  conv => rhs; rw [← List.map_id l]
  refine List.map_congr_left fun c _ => ?_
  simp

/-- A slice of bytes made a text. -/
theorem conv_bytes {w : World} {base g n cap : Nat} {l : List UInt8} (h : w.ownsRow base 5 1 (.slice (some ⟨g, 0, none⟩) n cap) n (bytesV l)) :
    (convert 31 9 (.slice (some ⟨g, 0, none⟩) n cap)).run Try.prog w = .ok (.string (text l)) w := by
  obtain ⟨hl, hc⟩ := cells_bytes h
  rw [← text_nums]
  exact run_convert_bytes_arg w 31 5 Try.underlying31 Try.underlying5 g 0 n cap _ (by simpa using hl) hc 9 Try.underlying9

set_option maxHeartbeats 1600000 in
theorem path_any (k : ByteArray) (w : World) (hs : k.size ≤ 1000) : Calls Try.prog 11 #[.string k] w fun e w' => e = .returned (.string (text (pathL k.data.toList))) ∧ Below w.heap.size w w' := by
  obtain ⟨i0, hi, hz0, hz1, hz2⟩ := info_parts info5
  go_enter Try.func11, Try.ntmps11
  go_wp2_with (at_make; refine wpList_make_own _ rfl _ _ 31 rfl w.heap.size 5 i0 (.int .u8 0) 1 Try.underlying31 hi hz0 hz1 .i64 .i64 _ (2 * k.size) rfl rfl ?c1 ?c2 ?c3 ?c4 ?_)
  case c1 => omega
  case c2 => rw [hz2]; omega
  case c3 => unfold maxLen; omega
  case c4 => omega
  intro w1 hown hgrow
  have hB1 : Below w.heap.size w w1 := (Below.refl _ w).grown hgrow (Nat.le_refl _) (fun k h => by cases h)
  go_wp2_with fail
  go_loopw [3, 4, 11] (fun v _ i wr => ∃ j : Nat, j ≤ k.size ∧ i = .int .i64 j ∧ (∃ g cap, v = .slice (some ⟨g, 0, none⟩) (2 * j) cap ∧ wr.ownsRow w.heap.size 5 1 (.slice (some ⟨g, 0, none⟩) (2 * j) cap) (2 * j) (bytesV (pathL (k.data.toList.take j)))) ∧ Below w.heap.size w wr) (fun _ _ i _ => k.size - (intOf i).toNat)
  case atStart => exact ⟨0, Nat.zero_le _, rfl, ⟨_, _, rfl, hown⟩, hB1⟩
  case round =>
    obtain ⟨j, hj, rfl, ⟨g, cap, rfl, hown⟩, hb⟩ := hrel
    by_cases hlk : j < k.size
    · have j0 : (0 : Int) ≤ (j : Int) := by omega
      have j1 : (j : Int) < (k.size : Int) := by omega
      have hbs := hb.size
      have HN : Hid (bytesV (pathL (k.data.toList.take j)) ++ [Value.int .u8 (((k[j].toNat : Nat) : Int) / 16), Value.int .u8 (bits .and .u8 ((k[j].toNat : Nat) : Int) 15)] = bytesV (pathL (k.data.toList.take (j + 1)))) := by
        rw [Hid, two_nibbles, ← bytesV_append, take_snoc hlk, pathL_append]; rfl
      have hgl := hown.lt g rfl
      go_wp2_with fail
      go_region_law (refine step_append_lies _ (by rfl) _ _ _ (by rfl) w.heap.size 5 i0 _ 1 1 Try.underlying31 hi hz0 hz1 hz2 rfl (by omega) _ (2 * j) _ (by rfl) ((hown.alloc _).drew) ⟨wr.heap.size, 0, none⟩ 2 2 [Value.int .u8 (((k[j].toNat : Nat) : Int) / 16), Value.int .u8 (bits .and .u8 ((k[j].toNat : Nat) : Int) 15)] (by rfl) (by rfl) (World.news_of_block (cs := #[Value.int .u8 (((k[j].toNat : Nat) : Int) / 16), Value.int .u8 (bits .and .u8 ((k[j].toNat : Nat) : Int) 15)]) (t := 5) (fr := (0, 0)) (heap_alloc_new wr _)) (by simp [Value.oneCell']) (by omega) (by unfold maxLen; omega) (by omega) (by simp; omega) (wr.heap.size + 1) (by simp) ?_; intro gg cap2 w2 hown2 hgrow2 hat hlt)
      all_goals
        rw [HN.out] at hown2
        have hb2 : Below w.heap.size w w2 := ((hb.alloc hbs _).drew).grown hgrow2 (by simp; omega) (fun i hi => by simp only [Value.ownBlock, Option.some.injEq] at hi; omega)
        clear hown hgrow2 hat hlt hi hz0 hz1 hz2
        go_wp2
        go_roundw
        case rel => exact ⟨j + 1, by omega, by go_num, ⟨gg, cap2, rfl, hown2⟩, hb2⟩
        case measure => simp [intOf]; omega
    · skip
      have hcv := conv_bytes hown
      rw [take_all k (by omega)] at hcv
      clear hown
      go_wp2
      go_ret
      exact ⟨rfl, hb⟩

end Go.Proofs.Ythnlhbbcidemnaa
