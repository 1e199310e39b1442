/- Acts: how they are read, and the contracts of few and do. -/
import Derived.Test.YtkejbpkpdgnodaaS
import Derived.Deep.LoopGhost
namespace Go.Proofs.Ytkejbpkpdgnodaa
open Go.RowKit

/-- An act. -/
structure MAct where
  k : Int
  s : ByteArray
  n : Int
  to : Int

/-- What is at sp reads as the acts l. -/
def ReadsA (w : World) (sp : Option Addr) (l : List MAct) : Prop :=
  0 < l.length → ∃ b off, sp = some ⟨b, off, none⟩ ∧ b < w.heap.size ∧ ∀ j (h : j < l.length), w.cell? ⟨b, off + j * 4, none⟩ = some (.int .i64 l[j].k) ∧ w.cell? ⟨b, off + j * 4 + 1, none⟩ = some (.string l[j].s) ∧
    w.cell? ⟨b, off + j * 4 + 2, none⟩ = some (.int .i64 l[j].n) ∧ w.cell? ⟨b, off + j * 4 + 3, none⟩ = some (.int .i64 l[j].to)

theorem ReadsA.below {w w' : World} {sp : Option Addr} {l : List MAct} (h : ReadsA w sp l) (hb : Below w.heap.size w w') : ReadsA w' sp l := by
  intro h0
  obtain ⟨b, off, h1, h2, h3⟩ := h h0
  refine ⟨b, off, h1, Nat.lt_of_lt_of_le h2 hb.size, fun j hj => ?_⟩
  obtain ⟨c0, c1, c2, c3⟩ := h3 j hj
  exact ⟨(hb.cell (p := ⟨b, off + j * 4, none⟩) h2).trans c0, (hb.cell (p := ⟨b, off + j * 4 + 1, none⟩) h2).trans c1, (hb.cell (p := ⟨b, off + j * 4 + 2, none⟩) h2).trans c2, (hb.cell (p := ⟨b, off + j * 4 + 3, none⟩) h2).trans c3⟩

/-- few answers; if yes, the acts are few. -/
def FewEnd (l : List MAct) (w : World) (e : Ending) (w' : World) : Prop := ∃ b, e = .returned (.bool b) ∧ (b = true → l.length ≤ 100) ∧ w = w'

set_option maxHeartbeats 800000 in
theorem few_any (sp : Option Addr) (cap : Nat) (l : List MAct) (w : World) (hl : ReadsA w sp l) (hmax : l.length ≤ maxLen) :
    Calls Try.prog 10 #[.slice sp l.length cap] w (FewEnd l w) := by
  unfold maxLen at hmax
  have hmax : l.length ≤ 9223372036854775807 := by omega
  go_enter Try.func10, Try.ntmps10
  go_wp2
  go_loop [3] (fun i => ∃ k : Nat, k ≤ l.length ∧ k ≤ 101 ∧ i = .int .i64 k) (fun i => l.length - (intOf i).toNat)
  case atStart => exact ⟨0, Nat.zero_le _, by omega, rfl⟩
  case round =>
    obtain ⟨k, hk, hk1, rfl⟩ := hrel
    by_cases hlk : k < l.length
    · by_cases hk2 : k ≤ 100
      · obtain ⟨b, off, rfl, hbl, hc⟩ := hl (by omega)
        obtain ⟨_, hck, _, _⟩ := hc k hlk
        clear hc hl
        by_cases hs : 100 < l[k].s.size
        · go_wp2
          go_ret
          exact ⟨false, rfl, (fun h => by cases h), rfl⟩
        · go_wp2
          go_round
          case rel => exact ⟨k + 1, by omega, by omega, by go_num⟩
          case measure => simp [intOf]; omega
      · go_wp2
        go_ret
        exact ⟨_, rfl, (fun h => by have := of_decide_eq_true h; omega), rfl⟩
    · go_wp2
      go_ret
      exact ⟨_, rfl, (fun h => by have := of_decide_eq_true h; omega), rfl⟩

/-- What an act does, and answers. -/
def doL (room : Int) (a : MAct) (L : List ByteArray) : List ByteArray :=
  if a.k = 0 then sentL room L a.s else if a.k = 1 then takenL a.n L else if a.k = 2 then takenL a.n L else if a.k = 3 then doubledL room a.n L else movedL a.n a.to L
def doS (a : MAct) (L : List ByteArray) : ByteArray := if a.k = 1 then takenS a.n L else ByteArray.empty
def doB (room : Int) (a : MAct) (L : List ByteArray) : Bool :=
  if a.k = 0 then sentB room L else if a.k = 1 then there a.n L else if a.k = 2 then there a.n L else if a.k = 3 then doubledB room a.n L else movedB a.n a.to L

theorem do_at0 {room : Int} {a : MAct} {L : List ByteArray} (h : a.k = 0) : doL room a L = sentL room L a.s ∧ doS a L = ByteArray.empty ∧ doB room a L = sentB room L := by simp [doL, doS, doB, h]
theorem do_at1 {room : Int} {a : MAct} {L : List ByteArray} (h : a.k = 1) : doL room a L = takenL a.n L ∧ doS a L = takenS a.n L ∧ doB room a L = there a.n L := by simp [doL, doS, doB, h]
theorem do_at2 {room : Int} {a : MAct} {L : List ByteArray} (h : a.k = 2) : doL room a L = takenL a.n L ∧ doS a L = ByteArray.empty ∧ doB room a L = there a.n L := by simp [doL, doS, doB, h]
theorem do_at3 {room : Int} {a : MAct} {L : List ByteArray} (h : a.k = 3) : doL room a L = doubledL room a.n L ∧ doS a L = ByteArray.empty ∧ doB room a L = doubledB room a.n L := by simp [doL, doS, doB, h]
theorem do_at4 {room : Int} {a : MAct} {L : List ByteArray} (h0 : ¬ a.k = 0) (h1 : ¬ a.k = 1) (h2 : ¬ a.k = 2) (h3 : ¬ a.k = 3) : doL room a L = movedL a.n a.to L ∧ doS a L = ByteArray.empty ∧ doB room a L = movedB a.n a.to L := by simp [doL, doS, doB, h0, h1, h2, h3]

def DoEnd (m : Nat) (room : Int) (a : MAct) (L : List ByteArray) (w : World) (e : Ending) (w' : World) : Prop :=
  e = .returned (.tuple #[.string (doS a L), .bool (doB room a L)]) ∧ IsMesh w' m room (doL room a L) ∧ Only w w' (· = m)

set_option maxHeartbeats 1600000 in
theorem do_any (m : Nat) (room : Int) (a : MAct) (L : List ByteArray) (w : World) (hm : IsMesh w m room L) (hr : room ≤ 64) (hL : L.length ≤ 64) :
    Calls Try.prog 12 #[.pointer (some ⟨m, 0, none⟩), .agg #[.int .i64 a.k, .string a.s, .int .i64 a.n, .int .i64 a.to]] w (DoEnd m room a L w) := by
  obtain ⟨ak, av, an, ato⟩ := a
  have oA : Only w (w.alloc (.cells #[.int .i64 ak, .string av, .int .i64 an, .int .i64 ato] 34)) (fun _ => False) := Only.alloc _ _ _
  have mA := oA.mesh hm (fun _ h => h.elim)
  by_cases h0 : ak = 0
  · subst h0
    have HE := Lib.hid (do_at0 (room := room) (a := ⟨0, av, an, ato⟩) (L := L) rfl)
    go_enter Try.func12, Try.ntmps12
    go_wp2_with fail
    refine (send_any m room av L _ mA hr).mono ?_
    rintro e w' ⟨rfl, m1, o1⟩
    go_wp2
    go_ret2
    refine ⟨?_, ?_, (oA.mono (fun _ h => h.elim)).trans o1⟩
    · rw [HE.out.2.1, HE.out.2.2]; rfl
    · rw [HE.out.1]; exact m1
  have t0 : (ak == 0) = false := by simpa using h0
  by_cases h1 : ak = 1
  · subst h1
    have HE := Lib.hid (do_at1 (room := room) (a := ⟨1, av, an, ato⟩) (L := L) rfl)
    go_enter Try.func12, Try.ntmps12
    go_wp2_with fail
    refine (take_any m room an L _ mA hL).mono ?_
    rintro e w' ⟨rfl, m1, o1⟩
    go_wp2
    go_ret2
    refine ⟨?_, ?_, (oA.mono (fun _ h => h.elim)).trans o1⟩
    · rw [HE.out.2.1, HE.out.2.2]; rfl
    · rw [HE.out.1]; exact m1
  have t1 : (ak == 1) = false := by simpa using h1
  by_cases h2 : ak = 2
  · subst h2
    have HE := Lib.hid (do_at2 (room := room) (a := ⟨2, av, an, ato⟩) (L := L) rfl)
    go_enter Try.func12, Try.ntmps12
    go_wp2_with fail
    refine (drop_any m room an L _ mA hL).mono ?_
    rintro e w' ⟨rfl, m1, o1⟩
    go_wp2
    go_ret2
    refine ⟨?_, ?_, (oA.mono (fun _ h => h.elim)).trans o1⟩
    · rw [HE.out.2.1, HE.out.2.2]; rfl
    · rw [HE.out.1]; exact m1
  have t2 : (ak == 2) = false := by simpa using h2
  by_cases h3 : ak = 3
  · subst h3
    have HE := Lib.hid (do_at3 (room := room) (a := ⟨3, av, an, ato⟩) (L := L) rfl)
    go_enter Try.func12, Try.ntmps12
    go_wp2_with fail
    refine (double_any m room an L _ mA hr hL).mono ?_
    rintro e w' ⟨rfl, m1, o1⟩
    go_wp2
    go_ret2
    refine ⟨?_, ?_, (oA.mono (fun _ h => h.elim)).trans o1⟩
    · rw [HE.out.2.1, HE.out.2.2]; rfl
    · rw [HE.out.1]; exact m1
  have t3 : (ak == 3) = false := by simpa using h3
  have HN := Lib.hid (do_at4 (room := room) (a := ⟨ak, av, an, ato⟩) (L := L) h0 h1 h2 h3)
  clear h0 h1 h2 h3
  have HE := Lib.hid (HN.out)
  go_enter Try.func12, Try.ntmps12
  go_wp2_with fail
  refine (move_any m room an ato L _ mA hL).mono ?_
  rintro e w' ⟨rfl, m1, o1⟩
  go_wp2
  go_ret2
  refine ⟨?_, ?_, (oA.mono (fun _ h => h.elim)).trans o1⟩
  · rw [HE.out.2.1, HE.out.2.2]; rfl
  · rw [HE.out.1]; exact m1

end Go.Proofs.Ytkejbpkpdgnodaa
