/- Nibbles: the contracts of Valid and Common. -/
import Derived.Test.YthnlhbbcidemnaaProg
import Derived.WalkKit
import Derived.WalkSpells
import Derived.WalkLawsBesides
import Derived.KernelRfl
import Derived.Lib.Hide
import Derived.Lib.Strings
import Derived.Deep.QuietTactic
import Derived.BigQuiet
import Derived.Deep.LoopGhost
namespace Go.Proofs.Ythnlhbbcidemnaa
open Go.RowKit

/-- The world after some draws. -/
def Drawn (w w' : World) : Prop := ∃ n, w' = w.drewN n
theorem Drawn.refl (w : World) : Drawn w w := ⟨0, rfl⟩
theorem Drawn.drewN {w w' : World} (h : Drawn w w') (n : Nat) : Drawn w (w'.drewN n) := by
  obtain ⟨m, rfl⟩ := h
  exact ⟨m + n, World.drewN_drewN _ _ _⟩
theorem Drawn.trans {a b c : World} (h : Drawn a b) (k : Drawn b c) : Drawn a c := by
  obtain ⟨n, rfl⟩ := k
  exact h.drewN n
theorem Drawn.below {w w' : World} (h : Drawn w w') (B : Nat) : Below B w w' := by
  obtain ⟨m, rfl⟩ := h
  exact ⟨rfl, rfl, rfl, Nat.le_refl _, fun _ _ => rfl⟩

/-- Nibbles alone? -/
def validL (l : List UInt8) : Bool := l.all (fun c => c ≤ 15)
theorem at_list {p : ByteArray} {k : Nat} (h : k < p.size) : p.data.toList[k]'(by simpa using h) = p[k] := by
  rw [Array.getElem_toList]; rfl
theorem take_snoc {p : ByteArray} {k : Nat} (h : k < p.size) : p.data.toList.take (k + 1) = p.data.toList.take k ++ [p[k]] := by
  rw [List.take_succ_eq_append_getElem (by simpa using h), at_list h]
theorem take_all (p : ByteArray) {k : Nat} (h : p.size ≤ k) : p.data.toList.take k = p.data.toList := List.take_of_length_le (by simpa using h)
theorem valid_snoc {l : List UInt8} {c : UInt8} (h : validL l = true) (hc : c.toNat ≤ 15) : validL (l ++ [c]) = true := by
  unfold validL at h ⊢
  rw [List.all_append, h]
  simp [UInt8.le_iff_toNat_le]; omega
theorem valid_no {l : List UInt8} {k : Nat} (hk : k < l.length) (hc : 15 < l[k].toNat) : validL l = false := by
  unfold validL
  rw [List.all_eq_false]
  exact ⟨l[k], List.getElem_mem hk, by simp [UInt8.le_iff_toNat_le]; omega⟩

set_option maxHeartbeats 800000 in
theorem valid_any (p : ByteArray) (w : World) (hs : p.size ≤ 1000) : Calls Try.prog 13 #[.string p] w fun e w' => e = .returned (.bool (validL p.data.toList)) ∧ w' = w := by
  go_enter Try.func13, Try.ntmps13
  go_wp2
  go_loop [3, 6] (fun _ i => ∃ k : Nat, k ≤ p.size ∧ i = .int .i64 k ∧ Hid (validL (p.data.toList.take k) = true)) (fun _ i => p.size - (intOf i).toNat)
  case atStart => exact ⟨0, Nat.zero_le _, rfl, by rw [Hid]; rfl⟩
  case round =>
    obtain ⟨k, hk, rfl, hv⟩ := hrel
    by_cases hlk : k < p.size
    · by_cases hc : 15 < p[k].toNat
      · have hc' : (15 : Int) < ((p[k].toNat : Nat) : Int) := by omega
        have HN := Lib.hid (valid_no (l := p.data.toList) (k := k) (by simpa using hlk) (by rw [at_list hlk]; exact hc))
        clear hc
        go_wp2
        go_ret
        rw [HN.out]
        exact ⟨rfl, rfl⟩
      · have hc' : ((p[k].toNat : Nat) : Int) ≤ 15 := by omega
        have HN := Lib.hid (valid_snoc hv.out (c := p[k]) (by omega))
        go_wp2
        go_round
        case rel => exact ⟨k + 1, by omega, by go_num, by rw [Hid, take_snoc hlk]; exact HN.out⟩
        case measure => simp [intOf]; omega
    · have HN : Hid (validL p.data.toList = true) := by
        have := hv.out
        rw [take_all p (by omega)] at this
        exact this
      go_wp2
      go_ret
      rw [HN.out]
      exact ⟨rfl, rfl⟩

/-- How many both begin with alike. -/
def commonL : List UInt8 → List UInt8 → Nat
  | a :: r, b :: t => if a = b then commonL r t + 1 else 0
  | _, _ => 0
theorem common_eq : ∀ (k : Nat) (A B : List UInt8), k ≤ A.length → k ≤ B.length → A.take k = B.take k → (k = A.length ∨ k = B.length ∨ A[k]? ≠ B[k]?) → commonL A B = k
  | 0, A, B, _, _, _, he => by
    match A, B with
    | [], _ => simp [commonL]
    | _ :: _, [] => simp [commonL]
    | a :: r, b :: t =>
      have : a ≠ b := by rcases he with h | h | h <;> simp at h; exact h
      simp [commonL, this]
  | k + 1, a :: r, b :: t, hA, hB, h, he => by
    simp only [List.take_succ_cons, List.cons.injEq] at h
    obtain ⟨rfl, h⟩ := h
    have := common_eq k r t (by simpa using hA) (by simpa using hB) h (by simpa using he)
    simp [commonL, this]
  | k + 1, [], _, hA, _, _, _ => by simp at hA
  | k + 1, _ :: _, [], _, hB, _, _ => by simp at hB

set_option maxHeartbeats 800000 in
theorem common_any (a b : ByteArray) (w : World) (hs : a.size ≤ 1000) (ht : b.size ≤ 1000) : Calls Try.prog 15 #[.string a, .string b] w fun e w' => e = .returned (.int .i64 (commonL a.data.toList b.data.toList)) ∧ Drawn w w' := by
  obtain ⟨n, hn⟩ : ∃ n : Nat, n = min a.size b.size := ⟨_, rfl⟩
  have hna : n ≤ a.size := by omega
  have hnb : n ≤ b.size := by omega
  have fin : a.data.toList.take n = b.data.toList.take n → commonL a.data.toList b.data.toList = n := fun h =>
    common_eq n _ _ (by simpa using hna) (by simpa using hnb) h (by simp; omega)
  have Fin := Lib.hid fin
  clear fin
  rcases (show a.size ≤ b.size ∧ a.size = n ∨ b.size < a.size ∧ b.size = n by omega) with ⟨h1, h2⟩ | ⟨h1, h2⟩
  all_goals
    clear hn
    have H2 := Lib.hid h2
    clear h2
    go_enter Try.func15, Try.ntmps15
    go_wp2
    go_loopw [6, 13] (fun _ i wr => ∃ k : Nat, k ≤ n ∧ i = .int .i64 k ∧ Hid (a.data.toList.take k = b.data.toList.take k) ∧ Drawn w wr) (fun _ i _ => n - (intOf i).toNat)
    case atStart => exact ⟨0, Nat.zero_le _, rfl, by rw [Hid]; rfl, Drawn.refl _⟩
    case round =>
      obtain ⟨k, hk, rfl, hv, hd⟩ := hrel
      by_cases hkn : k < n
      · have ka : k < a.size := by omega
        have kb : k < b.size := by omega
        have i0 : (0 : Int) ≤ (k : Int) := by omega
        have i1 : (k : Int) < (a.size : Int) := by omega
        have i2 : (k : Int) < (b.size : Int) := by omega
        by_cases he : a[k] = b[k]
        · have t1 : (((a[k].toNat : Nat) : Int) != ((b[k].toNat : Nat) : Int)) = false := by rw [he]; simp
          have HN : Hid (a.data.toList.take (k + 1) = b.data.toList.take (k + 1)) := by
            rw [Hid, take_snoc ka, take_snoc kb, hv.out, he]
          clear he
          go_wp2_with fail
          go_quiet (fail)
          go_wp2
          go_roundw
          case rel => exact ⟨k + 1, by omega, by go_num, HN, hd.drewN _⟩
          case measure => simp [intOf]; omega
        · have t1 : (((a[k].toNat : Nat) : Int) != ((b[k].toNat : Nat) : Int)) = true := by
            rw [bne_iff_ne]
            intro h
            exact he (UInt8.toNat_inj.1 (by omega))
          have HN : Hid (commonL a.data.toList b.data.toList = k) :=
            common_eq k _ _ (by simp; omega) (by simp; omega) hv.out (.inr (.inr (by
              rw [List.getElem?_eq_getElem (by simpa using ka), List.getElem?_eq_getElem (by simpa using kb), at_list ka, at_list kb]
              exact fun h => he (Option.some.inj h))))
          clear he
          go_wp2_with fail
          go_quiet (fail)
          go_wp2
          go_ret
          exact ⟨by rw [HN.out]; rfl, hd.drewN _⟩
      · have hkn2 : k = n := by omega
        have HN : Hid (commonL a.data.toList b.data.toList = k) := by rw [Hid, Fin.out (by rw [← hkn2]; exact hv.out), hkn2]
        first
          | have hge : (a.size : Int) ≤ (k : Int) := by have := H2.out; omega
          | have hge : (b.size : Int) ≤ (k : Int) := by have := H2.out; omega
        have H3 := Lib.hid hkn2
        clear hkn2
        go_wp2
        go_ret
        refine ⟨?_, hd⟩
        rw [HN.out, H3.out, ← H2.out]
        rfl

end Go.Proofs.Ythnlhbbcidemnaa
