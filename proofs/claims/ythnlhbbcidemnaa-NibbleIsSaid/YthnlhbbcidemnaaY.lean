/- Nibbles: the document's functions, and the walk of NibbleIs. -/
import Derived.Test.YthnlhbbcidemnaaX
namespace Go.Proofs.Ythnlhbbcidemnaa
open Go.RowKit

set_option maxHeartbeats 800000 in
theorem rvalid_any (p : ByteArray) (w : World) (hs : p.size ≤ 1000) : Calls Try.prog 14 #[.string p] w fun e w' => e = .returned (.bool (validL p.data.toList)) ∧ w' = w := by
  go_enter Try.func14, Try.ntmps14
  go_wp2
  go_loop [3] (fun i => ∃ k : Nat, k ≤ p.size ∧ i = .int .i64 k ∧ Hid (validL (p.data.toList.take k) = true)) (fun i => p.size - (intOf i).toNat)
  case atStart => exact ⟨0, Nat.zero_le _, rfl, by rw [Hid]; rfl⟩
  case round =>
    obtain ⟨k, hk, rfl, hv⟩ := hrel
    by_cases hlk : k < p.size
    · by_cases hc : 15 < p[k].toNat
      · have hc' : (15 : Int) < ((p[k].toNat : Nat) : Int) := by omega
        have HN := Lib.hid (valid_no (l := p.data.toList) (k := k) (by simpa using hlk) (by rw [at_list hlk]; exact hc))
        clear hc
        go_wp2
        go_ret
        rw [HN.out]
        exact ⟨rfl, rfl⟩
      · have hc' : ((p[k].toNat : Nat) : Int) ≤ 15 := by omega
        have HN := Lib.hid (valid_snoc hv.out (c := p[k]) (by omega))
        go_wp2
        go_round
        case rel => exact ⟨k + 1, by omega, by go_num, by rw [Hid, take_snoc hlk]; exact HN.out⟩
        case measure => simp [intOf]; omega
    · have HN : Hid (validL p.data.toList = true) := by
        have := hv.out
        rw [take_all p (by omega)] at this
        exact this
      go_wp2
      go_ret
      rw [HN.out]
      exact ⟨rfl, rfl⟩

theorem rtwo_nibbles (c : UInt8) : [Value.int .u8 (((c.toNat : Nat) : Int) / 16 % 256), Value.int .u8 (((c.toNat : Nat) : Int) % 16)] = bytesV [c / 16, c % 16] := by
  have h := c.toNat_lt
  simp [bytesV, UInt8.toNat_div, UInt8.toNat_mod]
  omega

theorem conv_drew (W : World) (a : List UInt8) (b : List Value) (h : bytesV a = b) (hm : a.length ≤ 1000) (n : Nat) (hn : a.length = n) :
    (convert 31 9 (.slice (some ⟨W.heap.size, 0, none⟩) n n)).run Try.prog (W.alloc (.cells b.toArray 5)).drew = .ok (.string (text a)) (W.alloc (.cells b.toArray 5)).drew := by
  subst h; subst hn
  exact conv_block (w := (W.alloc (.cells (bytesV a).toArray 5)).drew) (heap_alloc_new W _) hm

set_option maxHeartbeats 1600000 in
theorem rpath_any (k : ByteArray) (w : World) (hs : k.size ≤ 1000) : Calls Try.prog 12 #[.string k] w fun e w' => e = .returned (.string (text (pathL k.data.toList))) ∧ Below w.heap.size w w' := by
  go_enter Try.func12, Try.ntmps12
  go_wp2_with fail
  go_loopw [3, 4] (fun v i wr => ∃ j : Nat, j ≤ k.size ∧ i = .int .i64 j ∧ v = .string (text (pathL (k.data.toList.take j))) ∧ Below w.heap.size w wr) (fun _ i _ => k.size - (intOf i).toNat)
  case atStart => exact ⟨0, Nat.zero_le _, rfl, rfl, Below.refl _ _⟩
  case round =>
    obtain ⟨j, hj, rfl, rfl, hb⟩ := hrel
    by_cases hlk : j < k.size
    · have j0 : (0 : Int) ≤ (j : Int) := by omega
      have j1 : (j : Int) < (k.size : Int) := by omega
      have HN : Hid (text (pathL (k.data.toList.take j)) ++ text [k[j] / 16, k[j] % 16] = text (pathL (k.data.toList.take (j + 1)))) := by
        rw [Hid, take_snoc hlk, pathL_append, text_append]; rfl
      have hz : (text (pathL (k.data.toList.take j))).size ≤ 2 * j := by rw [size_text, length_pathL, List.length_take]; omega
      have hz2 : (text [k[j] / 16, k[j] % 16]).size ≤ 2 := by rw [size_text]; simp
      have hcv : (convert 31 9 (.slice (some ⟨wr.heap.size, 0, none⟩) 2 2)).run Try.prog (wr.alloc (.cells #[.int .u8 (((k[j].toNat : Nat) : Int) / 16 % 256), .int .u8 (((k[j].toNat : Nat) : Int) % 16)] 5)).drew = .ok (.string (text [k[j] / 16, k[j] % 16])) (wr.alloc (.cells #[.int .u8 (((k[j].toNat : Nat) : Int) / 16 % 256), .int .u8 (((k[j].toNat : Nat) : Int) % 16)] 5)).drew :=
        conv_drew wr [k[j] / 16, k[j] % 16] _ (rtwo_nibbles k[j]).symm (by simp) 2 rfl
      have hb2 : Below w.heap.size w (wr.alloc (.cells #[.int .u8 (((k[j].toNat : Nat) : Int) / 16 % 256), .int .u8 (((k[j].toNat : Nat) : Int) % 16)] 5)).drew := (hb.alloc hb.size _).drew
      go_wp2_with fail
      go_region
      all_goals
        go_wp2
        rw [HN.out]
        go_roundw
        case rel => exact ⟨j + 1, by omega, by go_num, rfl, hb2⟩
        case measure => simp [intOf]; omega
    · go_wp2
      go_ret
      rw [take_all k (by omega)]
      exact ⟨rfl, hb⟩

theorem valid_at {l : List UInt8} (h : validL l = true) {k : Nat} (hk : k < l.length) : l[k].toNat ≤ 15 := by
  unfold validL at h
  have := List.all_eq_true.1 h l[k] (List.getElem_mem hk)
  simp [UInt8.le_iff_toNat_le] at this
  exact this
theorem pair_num (a b : UInt8) (ha : a.toNat ≤ 15) (hb : b.toNat ≤ 15) : [Value.int .u8 ((((a.toNat : Nat) : Int) * 16 + ((b.toNat : Nat) : Int)) % 256)] = bytesV [pairB a b] := by
  have h := pairB_val a b ha hb
  simp only [bytesV, List.map_cons, List.map_nil, h]
  congr 2
  omega

set_option maxHeartbeats 1600000 in
theorem rkey_any (p : ByteArray) (w : World) (hs : p.size ≤ 1000) : Calls Try.prog 10 #[.string p] w fun e w' => e = .returned (.tuple #[.string (text (keyL p.data.toList)), .bool (keyB p.data.toList)]) ∧ Below w.heap.size w w' := by
  have hpz : p.data.toList.length = p.size := by simp
  by_cases he : p.size % 2 = 0
  · have t1 : ((p.size : Int) % 2 == 1) = false := by simp; omega
    have kb : keyB p.data.toList = validL p.data.toList := by unfold keyB; rw [hpz, decide_eq_true he, Bool.true_and]
    have hv := rvalid_any p w hs
    cases hval : validL p.data.toList with
    | true =>
      rw [hval] at hv kb
      have HV := Lib.hid hv
      have KB := Lib.hid kb
      have HVA := Lib.hid hval
      obtain ⟨n, hn⟩ : ∃ n : Nat, p.size = 2 * n := ⟨p.size / 2, by omega⟩
      have Hn := Lib.hid hn
      clear hv kb hval he hpz hn
      go_enter Try.func10, Try.ntmps10
      go_wp2_with fail
      refine HV.out.mono ?_
      rintro e w1 ⟨rfl, rfl⟩
      go_wp2_with fail
      go_loopw [4, 5] (fun v i wr => ∃ j : Nat, j ≤ n ∧ i = .int .i64 (2 * (j : Int)) ∧ v = .string (text (pairL (p.data.toList.take (2 * j)))) ∧ Below w1.heap.size w1 wr) (fun _ i _ => p.size + 1 - (intOf i).toNat)
      case atStart => exact ⟨0, Nat.zero_le _, rfl, rfl, Below.refl _ _⟩
      case round =>
        obtain ⟨j, hj, rfl, rfl, hb⟩ := hrel
        by_cases hlj : j < n
        · have ka : 2 * j + 1 < p.size := by have := Hn.out; omega
          have kb : 2 * j < p.size := by omega
          have hpk : (p.data.toList.take (2 * j)).length = 2 * j := by rw [List.length_take]; simp; omega
          have g1 : p[2 * j].toNat ≤ 15 := by rw [← at_list kb]; exact valid_at HVA.out _
          have g2 : p[2 * j + 1].toNat ≤ 15 := by rw [← at_list ka]; exact valid_at HVA.out _
          have hpn : Hid (text (pairL (p.data.toList.take (2 * j))) ++ text [pairB p[2 * j] p[2 * j + 1]] = text (pairL (p.data.toList.take (2 * (j + 1))))) := by
            rw [Hid, take_two ka, pairL_snoc j _ _ _ hpk, text_append]
          have hz : (text (pairL (p.data.toList.take (2 * j)))).size ≤ j := by rw [size_text, length_pairL j _ hpk]; exact Nat.le_refl _
          have hz2 : (text [pairB p[2 * j] p[2 * j + 1]]).size ≤ 1 := by rw [size_text]; simp
          have hcv : (convert 31 9 (.slice (some ⟨wr.heap.size, 0, none⟩) 1 1)).run Try.prog (wr.alloc (.cells #[.int .u8 ((((p[2 * j].toNat : Nat) : Int) * 16 + ((p[2 * j + 1].toNat : Nat) : Int)) % 256)] 5)).drew = .ok (.string (text [pairB p[2 * j] p[2 * j + 1]])) (wr.alloc (.cells #[.int .u8 ((((p[2 * j].toNat : Nat) : Int) * 16 + ((p[2 * j + 1].toNat : Nat) : Int)) % 256)] 5)).drew :=
            conv_drew wr [pairB p[2 * j] p[2 * j + 1]] _ (pair_num _ _ g1 g2).symm (by simp) 1 rfl
          have hb2 : Below w1.heap.size w1 (wr.alloc (.cells #[.int .u8 ((((p[2 * j].toNat : Nat) : Int) * 16 + ((p[2 * j + 1].toNat : Nat) : Int)) % 256)] 5)).drew := (hb.alloc hb.size _).drew
          have i2 : IntKind.i64.wrap (2 * (j : Int) + 1) = 2 * (j : Int) + 1 := IntWalk.i64_in _ (by omega)
          have i3 : (0 : Int) ≤ 2 * (j : Int) := by omega
          have i4 : 2 * (j : Int) < (p.size : Int) := by omega
          have i6 : (0 : Int) ≤ 2 * (j : Int) + 1 := by omega
          have i7 : 2 * (j : Int) + 1 < (p.size : Int) := by omega
          have i8 : (2 * (j : Int)).toNat = 2 * j := by omega
          have i9 : (2 * (j : Int) + 1).toNat = 2 * j + 1 := by omega
          clear hpk g1 g2
          go_wp2_with fail
          go_region
          all_goals
            go_wp2
            rw [hpn.out]
            go_roundw
            case rel => exact ⟨j + 1, by omega, by go_num, rfl, hb2⟩
            case measure => simp [intOf]; omega
        · have hje : 2 * j = p.size := by have := Hn.out; omega
          have hq : Hid (text (pairL (p.data.toList.take (2 * j))) = text (keyL p.data.toList)) := by
            rw [Hid, take_all p (by omega), keyL_yes KB.out]
          have hge : (p.size : Int) ≤ 2 * (j : Int) := by omega
          have i2 : IntKind.i64.wrap (2 * (j : Int) + 1) = 2 * (j : Int) + 1 := IntWalk.i64_in _ (by omega)
          have HJ := Lib.hid hje
          clear hje
          go_wp2
          rw [hq.out]
          go_ret2
          rw [KB.out]
          exact ⟨rfl, hb⟩
    | false =>
      rw [hval] at hv kb
      have HV := Lib.hid hv
      have KB := Lib.hid kb
      clear hv kb hval he hpz
      go_enter Try.func10, Try.ntmps10
      go_wp2_with fail
      refine HV.out.mono ?_
      rintro e w1 ⟨rfl, rfl⟩
      go_wp2
      go_ret2
      rw [KB.out, keyL_no KB.out]
      exact ⟨rfl, Below.refl _ _⟩
  · have t1 : ((p.size : Int) % 2 == 1) = true := by simp; omega
    have kb : keyB p.data.toList = false := by unfold keyB; rw [hpz, decide_eq_false he, Bool.false_and]
    have KB := Lib.hid kb
    clear kb he hpz
    go_enter Try.func10, Try.ntmps10
    go_wp2
    go_ret2
    rw [KB.out, keyL_no KB.out]
    exact ⟨rfl, Below.refl _ _⟩

end Go.Proofs.Ythnlhbbcidemnaa
