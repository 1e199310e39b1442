/- How texts and acts are read; the contracts of Same, few. -/
import Derived.Test.YtgmelphklppcbaaM
import Derived.Deep.LoopGhost
namespace Go.Proofs.Ytgmelphklppcbaa
open Go.RowKit

/-- What is at sp reads as the texts L. -/
def Reads (w : World) (sp : Option Addr) (L : List ByteArray) : Prop :=
  0 < L.length → ∃ b off, sp = some ⟨b, off, none⟩ ∧ b < w.heap.size ∧ ∀ j (h : j < L.length), w.cell? ⟨b, off + j, none⟩ = some (.string L[j]) ∧ L[j].size ≤ maxLen

/-- What is at sp reads as the acts l. -/
def ReadsA (w : World) (sp : Option Addr) (l : List CAct) : Prop :=
  0 < l.length → ∃ b off, sp = some ⟨b, off, none⟩ ∧ b < w.heap.size ∧ ∀ j (h : j < l.length), w.cell? ⟨b, off + j * 3, none⟩ = some (.int .i64 l[j].k) ∧ w.cell? ⟨b, off + j * 3 + 1, none⟩ = some (.string l[j].key) ∧
    w.cell? ⟨b, off + j * 3 + 2, none⟩ = some (.string l[j].val) ∧ l[j].key.size ≤ maxLen

theorem Reads.below {w w' : World} {sp : Option Addr} {L : List ByteArray} (h : Reads w sp L) (hb : Below w.heap.size w w') : Reads w' sp L := by
  intro h0
  obtain ⟨b, off, h1, h2, h3⟩ := h h0
  exact ⟨b, off, h1, Nat.lt_of_lt_of_le h2 hb.size, fun j hj => ⟨(hb.cell (p := ⟨b, off + j, none⟩) h2).trans (h3 j hj).1, (h3 j hj).2⟩⟩

theorem ReadsA.below {w w' : World} {sp : Option Addr} {l : List CAct} (h : ReadsA w sp l) (hb : Below w.heap.size w w') : ReadsA w' sp l := by
  intro h0
  obtain ⟨b, off, h1, h2, h3⟩ := h h0
  refine ⟨b, off, h1, Nat.lt_of_lt_of_le h2 hb.size, fun j hj => ?_⟩
  obtain ⟨c0, c1, c2, c3⟩ := h3 j hj
  exact ⟨(hb.cell (p := ⟨b, off + j * 3, none⟩) h2).trans c0, (hb.cell (p := ⟨b, off + j * 3 + 1, none⟩) h2).trans c1, (hb.cell (p := ⟨b, off + j * 3 + 2, none⟩) h2).trans c2, c3⟩

/-- One act, behind what has been done since. -/
theorem ReadsA.at {w wr : World} {sp : Option Addr} {l : List CAct} (h : ReadsA w sp l) (hb : Below w.heap.size w wr) {k : Nat} (hk : k < l.length) :
    ∃ b off, sp = some ⟨b, off, none⟩ ∧ b < w.heap.size ∧ b < wr.heap.size ∧ wr.cell? ⟨b, off + k * 3, none⟩ = some (.int .i64 l[k].k) ∧ wr.cell? ⟨b, off + k * 3 + 1, none⟩ = some (.string l[k].key) ∧
      wr.cell? ⟨b, off + k * 3 + 2, none⟩ = some (.string l[k].val) ∧ l[k].key.size ≤ maxLen := by
  obtain ⟨b, off, h1, h2, h3⟩ := h (by omega)
  obtain ⟨c0, c1, c2, c3⟩ := h3 k hk
  exact ⟨b, off, h1, h2, Nat.lt_of_lt_of_le h2 hb.size, (hb.cell (p := ⟨b, off + k * 3, none⟩) h2).trans c0, (hb.cell (p := ⟨b, off + k * 3 + 1, none⟩) h2).trans c1, (hb.cell (p := ⟨b, off + k * 3 + 2, none⟩) h2).trans c2, c3⟩

/-- few answers; if yes, the acts are few. -/
def FewEnd (l : List CAct) (w : World) (e : Ending) (w' : World) : Prop := ∃ b, e = .returned (.bool b) ∧ (b = true → l.length ≤ 200) ∧ w = w'

set_option maxHeartbeats 1600000 in
theorem few_any (sp : Option Addr) (cap : Nat) (l : List CAct) (w : World) (hl : ReadsA w sp l) (hmax : l.length ≤ maxLen) :
    Calls Try.prog 11 #[.slice sp l.length cap] w (FewEnd l w) := by
  unfold maxLen at hmax
  have hmax : l.length ≤ 9223372036854775807 := by omega
  go_enter Try.func11, Try.ntmps11
  go_wp2
  go_loop [3] (fun i => ∃ k : Nat, k ≤ l.length ∧ k ≤ 201 ∧ i = .int .i64 k) (fun i => l.length - (intOf i).toNat)
  case atStart => exact ⟨0, Nat.zero_le _, by omega, rfl⟩
  case round =>
    obtain ⟨k, hk, hk1, rfl⟩ := hrel
    by_cases hlk : k < l.length
    · by_cases hk2 : k ≤ 200
      · obtain ⟨b, off, rfl, hbl, hc⟩ := hl (by omega)
        obtain ⟨_, hck, hcv, _⟩ := hc k hlk
        clear hc hl
        by_cases hs : 50 < l[k].key.size
        · go_wp2
          go_ret
          exact ⟨false, rfl, (fun h => by cases h), rfl⟩
        · by_cases hs2 : 50 < l[k].val.size
          · go_wp2
            go_ret
            exact ⟨false, rfl, (fun h => by cases h), rfl⟩
          · go_wp2
            go_round
            case rel => exact ⟨k + 1, by omega, by omega, by go_num⟩
            case measure => simp [intOf]; omega
      · go_wp2
        go_ret
        exact ⟨_, rfl, (fun h => by have := of_decide_eq_true h; omega), rfl⟩
    · go_wp2
      go_ret
      exact ⟨_, rfl, (fun h => by have := of_decide_eq_true h; omega), rfl⟩

/-- Are two rows the same? -/
def alike (A B : List ByteArray) : Bool := decide (A = B)

theorem take_eq_succ {A B : List ByteArray} {k : Nat} (ha : k < A.length) (hb : k < B.length) (h : A.take k = B.take k) (e : A[k] = B[k]) : A.take (k + 1) = B.take (k + 1) := by
  rw [List.take_succ_eq_append_getElem ha, List.take_succ_eq_append_getElem hb, h, e]

/-- The world after some draws. -/
def Drawn (w w' : World) : Prop := ∃ n, w' = w.drewN n
theorem Drawn.refl (w : World) : Drawn w w := ⟨0, rfl⟩
theorem Drawn.drewN {w w' : World} (h : Drawn w w') (n : Nat) : Drawn w (w'.drewN n) := by
  obtain ⟨m, rfl⟩ := h
  exact ⟨m + n, World.drewN_drewN _ _ _⟩
theorem Drawn.cell {w w' : World} (h : Drawn w w') (a : Addr) : w'.cell? a = w.cell? a := by
  obtain ⟨m, rfl⟩ := h
  rfl
theorem Drawn.only {w w' : World} (h : Drawn w w') (S : Nat → Prop) : Only w w' S := by
  obtain ⟨m, rfl⟩ := h
  exact (Only.refl _ _).drewN _

set_option maxHeartbeats 800000 in
theorem same_q (sa sb : Option Addr) (ca cb : Nat) (A B : List ByteArray) (w : World) (hA : Reads w sa A) (hB : Reads w sb B) (ma : A.length ≤ maxLen) (mb : B.length ≤ maxLen) :
    Calls Try.prog 19 #[.slice sa A.length ca, .slice sb B.length cb] w fun e w' => e = .returned (.bool (alike A B)) ∧ Drawn w w' := by
  unfold maxLen at ma mb
  by_cases hlen : A.length = B.length
  · have h1 : ((A.length : Int) != (B.length : Int)) = false := by simp; omega
    have hm : A.length ≤ 9223372036854775807 := by omega
    have Hlen := Lib.hid hlen
    clear hlen
    go_enter Try.func19, Try.ntmps19
    go_wp2
    go_loopw [5] (fun i wr => ∃ k : Nat, k ≤ A.length ∧ i = .int .i64 k ∧ Hid (A.take k = B.take k) ∧ Drawn w wr) (fun i _ => A.length - (intOf i).toNat)
    case atStart => exact ⟨0, Nat.zero_le _, rfl, by rw [Hid]; simp, Drawn.refl _⟩
    case round =>
      obtain ⟨k, hk, rfl, heq, hb⟩ := hrel
      by_cases hlk : k < A.length
      · have hlk2 : k < B.length := by have := Hlen.out; omega
        obtain ⟨b, off, rfl, hbl, hc⟩ := hA (by omega)
        obtain ⟨b2, off2, rfl, hbl2, hc2⟩ := hB (by omega)
        have hck := (hb.cell _).trans (hc k hlk).1
        have hck2 := (hb.cell _).trans (hc2 k hlk2).1
        clear hc hc2 hA hB
        have i1 : (0 : Int) ≤ (k : Int) := by omega
        have i2 : (k : Int) < (A.length : Int) := by omega
        have i3 : (k : Int) < (B.length : Int) := by omega
        by_cases he : A[k] = B[k]
        · have t1 : (A[k].toList == B[k].toList) = true := text_eq.2 he
          have t2 : (A[k].toList != B[k].toList) = false := by rw [bne, t1]; rfl
          have HE := Lib.hid he
          clear he
          go_wp2_with fail
          go_quiet (fail)
          go_wp2
          go_roundw
          case rel => exact ⟨k + 1, by omega, by go_num, take_eq_succ hlk hlk2 heq.out HE.out, hb.drewN _⟩
          case measure => simp [intOf]; omega
        · have t1 : (A[k].toList == B[k].toList) = false := text_ne he
          have t2 : (A[k].toList != B[k].toList) = true := by rw [bne, t1]; rfl
          have HE : Hid (alike A B = false) := by
            refine decide_eq_false fun h => ?_
            subst h
            exact he rfl
          clear he
          go_wp2_with fail
          go_quiet (fail)
          go_wp2
          go_ret
          exact ⟨by rw [HE.out]; rfl, hb.drewN _⟩
      · have HE : Hid (alike A B = true) := by
          refine decide_eq_true ?_
          have := heq.out
          rw [List.take_of_length_le (by omega), List.take_of_length_le (by have := Hlen.out; omega)] at this
          exact this
        go_wp2
        go_ret
        exact ⟨by rw [HE.out]; rfl, hb⟩
  · have h1 : ((A.length : Int) != (B.length : Int)) = true := by simp; omega
    have HE : Hid (alike A B = false) := decide_eq_false fun h => hlen (by rw [h])
    clear hlen
    go_enter Try.func19, Try.ntmps19
    go_wp2
    go_ret
    exact ⟨by rw [HE.out]; rfl, Drawn.refl _⟩

/-- An owned slice of texts, laid open. -/
theorem Strs.shape {w : World} {base : Nat} {v : Value} {L : List ByteArray} (h : Strs w base v L) : ∃ sp cap, v = .slice sp L.length cap ∧ L.length ≤ maxLen ∧ (0 < L.length → ∃ g, sp = some ⟨g, 0, none⟩ ∧ g < w.heap.size ∧ base ≤ g ∧ ∀ j (hj : j < L.length), w.cell? ⟨g, j, none⟩ = some (.string L[j])) := by
  have h' := h
  unfold Strs at h
  rcases h.2 with ⟨rfl, h0⟩ | ⟨g, cap, cur, rfl, hbg, hg, hn, hm, hs, ht⟩
  · exact ⟨none, 0, by rw [h0], by rw [h0]; simp [maxLen], fun h => absurd h (by omega)⟩
  · refine ⟨_, _, rfl, by omega, fun _ => ⟨g, rfl, lt_of_block hg, hbg, fun j hj => ?_⟩⟩
    have := World.ownsRow.cells h' (g := g) rfl j (.string L[j]) (by simp [hj])
    rwa [Addr.add_lit, Nat.zero_add] at this

theorem Strs.reads {w : World} {base : Nat} {sp : Option Addr} {n cap : Nat} {L : List ByteArray} (h : Strs w base (.slice sp n cap) L) (hL : ∀ s ∈ L, s.size ≤ maxLen) : Reads w sp L := by
  obtain ⟨sp', cap', e, _, hc⟩ := h.shape
  simp only [Value.slice.injEq] at e
  obtain ⟨rfl, rfl, rfl⟩ := e
  intro h0
  obtain ⟨g, rfl, hg, _, hc⟩ := hc h0
  exact ⟨g, 0, rfl, hg, fun j hj => ⟨by rw [Nat.zero_add]; exact hc j hj, hL _ (List.getElem_mem hj)⟩⟩

/-- Same, at slices that are owned. -/
theorem same_own {b1 b2 : Nat} {va vb : Value} {A B : List ByteArray} {w : World} (hA : Strs w b1 va A) (hB : Strs w b2 vb B) (la : ∀ s ∈ A, s.size ≤ maxLen) (lb : ∀ s ∈ B, s.size ≤ maxLen) :
    Calls Try.prog 19 #[va, vb] w fun e w' => e = .returned (.bool (alike A B)) ∧ Only w w' (fun _ => False) := by
  obtain ⟨sa, ca, rfl, ma, _⟩ := hA.shape
  obtain ⟨sb, cb, rfl, mb, _⟩ := hB.shape
  exact (same_q sa sb ca cb A B w (hA.reads la) (hB.reads lb) ma mb).mono fun e w' ⟨h1, h2⟩ => ⟨h1, h2.only _⟩

end Go.Proofs.Ytgmelphklppcbaa
