/- SHA-256 in plain numbers: what the code computes; and the sums of three short texts, worked out by the kernel. -/
import Derived.KernelRfl
namespace Go.Proofs.YtmgpgjookiknkaaDoor
namespace Sh

/-- 'k n', with n worked out first. -/
def force {α : Type} (n : Nat) (k : Nat → α) : α := match n with | 0 => k 0 | m + 1 => k (m + 1)
theorem force_eq {α : Type} (n : Nat) (k : Nat → α) : force n k = k n := by cases n <;> rfl

def xo (a b : Nat) : Nat := (a ^^^ b) % 4294967296
def an (a b : Nat) : Nat := (a &&& b) % 4294967296
def oo (a b : Nat) : Nat := (a ||| b) % 4294967296
def ad (a b : Nat) : Nat := (a + b) % 4294967296
def nt (a : Nat) : Nat := xo 4294967295 a
def rot (x n : Nat) : Nat := oo (x * 2 ^ (32 - n) % 4294967296) (x / 2 ^ n)

/-- A word out of four bytes. -/
def wd (x0 x1 x2 x3 : Nat) : Nat := oo (oo (oo (x0 * 16777216 % 4294967296) (x1 * 65536 % 4294967296)) (x2 * 256 % 4294967296)) (x3 % 4294967296)
/-- The first words of a block. -/
def first (b : List Nat) : Nat → List Nat
  | 0 => []
  | k + 1 => first b k ++ [wd (b.getD (4 * k) 0) (b.getD (4 * k + 1) 0) (b.getD (4 * k + 2) 0) (b.getD (4 * k + 3) 0)]
def s0 (x : Nat) : Nat := xo (xo (rot x 7) (rot x 18)) (x / 8)
def s1 (y : Nat) : Nat := xo (xo (rot y 17) (rot y 19)) (y / 1024)
/-- The next word. -/
def nextw (ws : List Nat) (i : Nat) : Nat := ad (ad (ad (ws.getD (i - 16) 0) (s0 (ws.getD (i - 15) 0))) (ws.getD (i - 7) 0)) (s1 (ws.getD (i - 2) 0))
/-- The words of a block: 16 + n of them. -/
def more (b : List Nat) : Nat → List Nat
  | 0 => first b 16
  | n + 1 => more b n ++ [nextw (more b n) (16 + n)]
def spread (b : List Nat) : List Nat := more b 48

def t1 (e f g h k w : Nat) : Nat := ad (ad (ad (ad h (xo (xo (rot e 6) (rot e 11)) (rot e 25))) (xo (an e f) (an (nt e) g))) k) w
def t2 (a b c : Nat) : Nat := ad (xo (xo (rot a 2) (rot a 13)) (rot a 22)) (xo (xo (an a b) (an a c)) (an b c))
/-- One round on eight words. -/
def rnd (k w : Nat) (v : List Nat) : List Nat :=
  ad (t1 (v.getD 4 0) (v.getD 5 0) (v.getD 6 0) (v.getD 7 0) k w) (t2 (v.getD 0 0) (v.getD 1 0) (v.getD 2 0)) ::
    [v.getD 0 0, v.getD 1 0, v.getD 2 0, ad (v.getD 3 0) (t1 (v.getD 4 0) (v.getD 5 0) (v.getD 6 0) (v.getD 7 0) k w), v.getD 4 0, v.getD 5 0, v.getD 6 0]
def cubes : List Nat := [1116352408, 1899447441, 3049323471, 3921009573, 961987163, 1508970993, 2453635748, 2870763221, 3624381080, 310598401, 607225278, 1426881987, 1925078388, 2162078206, 2614888103, 3248222580, 3835390401, 4022224774, 264347078, 604807628, 770255983, 1249150122, 1555081692, 1996064986, 2554220882, 2821834349, 2952996808, 3210313671, 3336571891, 3584528711, 113926993, 338241895, 666307205, 773529912, 1294757372, 1396182291, 1695183700, 1986661051, 2177026350, 2456956037, 2730485921, 2820302411, 3259730800, 3345764771, 3516065817, 3600352804, 4094571909, 275423344, 430227734, 506948616, 659060556, 883997877, 958139571, 1322822218, 1537002063, 1747873779, 1955562222, 2024104815, 2227730452, 2361852424, 2428436474, 2756734187, 3204031479, 3329325298]
/-- The words v behind n rounds. -/
def rounds (ws v : List Nat) : Nat → List Nat
  | 0 => v
  | n + 1 => rnd (cubes.getD n 0) (ws.getD n 0) (rounds ws v n)
/-- A block is taken in. -/
def mix (H b : List Nat) : List Nat := List.zipWith ad H (rounds (spread b) H 64)

def H0 : List Nat := [1779033703, 3144134277, 1013904242, 2773480762, 1359893119, 2600822924, 528734635, 1541459225]

/-! ### a quick way -/
def pushw : Nat → List Nat → List Nat
  | 0, ws => ws
  | n + 1, ws => force (ad (ad (ad (ws.getD 15 0) (s0 (ws.getD 14 0))) (ws.getD 6 0)) (s1 (ws.getD 1 0))) fun x => pushw n (x :: ws)
def go : List (Nat × Nat) → (a b c d e f g h : Nat) → List Nat
  | [], a, b, c, d, e, f, g, h => [a, b, c, d, e, f, g, h]
  | (k, w) :: r, a, b, c, d, e, f, g, h =>
    force (t1 e f g h k w) fun x => force (ad x (t2 a b c)) fun y => force (ad d x) fun z => go r y a b c z e f g
def spreadq (b : List Nat) : List Nat := (pushw 48 (first b 16).reverse).reverse
def mixq (H b : List Nat) : List Nat := List.zipWith ad H (go (cubes.zip (spreadq b)) (H.getD 0 0) (H.getD 1 0) (H.getD 2 0) (H.getD 3 0) (H.getD 4 0) (H.getD 5 0) (H.getD 6 0) (H.getD 7 0))

theorem first_length (b : List Nat) (k : Nat) : (first b k).length = k := by
  induction k with
  | zero => rfl
  | succ k ih => simp [first, ih]
theorem more_length (b : List Nat) (n : Nat) : (more b n).length = 16 + n := by
  induction n with
  | zero => exact first_length b 16
  | succ n ih => simp [more, ih]; omega
theorem spread_length (b : List Nat) : (spread b).length = 64 := more_length b 48
theorem getD_rev (l : List Nat) (i j : Nat) (h : i + j + 1 = l.length) : l.reverse.getD i 0 = l.getD j 0 := by
  rw [List.getD_eq_getElem?_getD, List.getD_eq_getElem?_getD, List.getElem?_reverse (by omega), show l.length - 1 - i = j by omega]
theorem pushw_eq (b : List Nat) (n k : Nat) : (pushw n (more b k).reverse) = (more b (k + n)).reverse := by
  induction n generalizing k with
  | zero => rfl
  | succ n ih =>
    have hl := more_length b k
    unfold pushw
    rw [force_eq, getD_rev _ 15 (16 + k - 16) (by omega), getD_rev _ 14 (16 + k - 15) (by omega), getD_rev _ 6 (16 + k - 7) (by omega), getD_rev _ 1 (16 + k - 2) (by omega)]
    have e : nextw (more b k) (16 + k) :: (more b k).reverse = (more b (k + 1)).reverse := by simp [more]
    have h2 := ih (k + 1)
    rw [← e] at h2
    rw [show k + (n + 1) = k + 1 + n by omega]
    exact h2
theorem spreadq_eq (b : List Nat) : spreadq b = spread b := by
  unfold spreadq spread
  rw [show first b 16 = more b 0 from rfl, pushw_eq, List.reverse_reverse, Nat.zero_add]

theorem rounds_length (ws v : List Nat) (hv : v.length = 8) (n : Nat) : (rounds ws v n).length = 8 := by
  cases n with
  | zero => exact hv
  | succ n => rfl
theorem go_eq (l : List (Nat × Nat)) : ∀ a b c d e f g h : Nat, go l a b c d e f g h = l.foldl (fun v p => rnd p.1 p.2 v) [a, b, c, d, e, f, g, h] := by
  induction l with
  | nil => intros; rfl
  | cons p r ih =>
    intro a b c d e f g h
    obtain ⟨k, w⟩ := p
    unfold go
    rw [force_eq, force_eq, force_eq, ih]
    rfl
theorem cubes_length : cubes.length = 64 := rfl
theorem rounds_eq (ws v : List Nat) (hw : ws.length = 64) (n : Nat) (hn : n ≤ 64) : rounds ws v n = ((cubes.zip ws).take n).foldl (fun v p => rnd p.1 p.2 v) v := by
  induction n with
  | zero => rfl
  | succ n ih =>
    have hz : (cubes.zip ws).length = 64 := by rw [List.length_zip, cubes_length, hw]; rfl
    rw [List.take_succ_eq_append_getElem (by omega), List.foldl_append, ← ih (by omega)]
    have hc := cubes_length
    simp [rounds, List.getD_eq_getElem?_getD, show n < cubes.length by omega, show n < ws.length by omega]
theorem mix_eq (H b : List Nat) (hH : H.length = 8) : mix H b = mixq H b := by
  unfold mix mixq
  rw [rounds_eq _ _ (spread_length b) 64 (Nat.le_refl _), go_eq, spreadq_eq]
  rw [List.take_of_length_le (by rw [List.length_zip, cubes_length, spread_length]; exact Nat.le_refl _)]
  match H, hH with
  | [a, b, c, d, e, f, g, h], _ => rfl
theorem mix_length (H b : List Nat) (hH : H.length = 8) : (mix H b).length = 8 := by
  unfold mix; rw [List.length_zipWith, hH, rounds_length _ _ hH]; rfl

/-! ### what was written -/
/-- The words of H, and the bytes that wait. -/
structure St where
  H : List Nat
  pend : List Nat
def step (s : St) (x : Nat) : St := if s.pend.length = 63 then ⟨mix s.H (s.pend ++ [x]), []⟩ else ⟨s.H, s.pend ++ [x]⟩
def write (s : St) (l : List Nat) : St := l.foldl step s
def St.ok (s : St) : Prop := s.H.length = 8 ∧ s.pend.length < 64
theorem step_ok {s : St} (h : s.ok) (x : Nat) : (step s x).ok := by
  unfold step
  split
  · exact ⟨mix_length _ _ h.1, by simp⟩
  · exact ⟨h.1, by have := h.2; simp; omega⟩
theorem write_ok {s : St} (h : s.ok) (l : List Nat) : (write s l).ok := by
  induction l generalizing s with
  | nil => exact h
  | cons x r ih => exact ih (step_ok h x)
theorem write_append (s : St) (a b : List Nat) : write s (a ++ b) = write (write s a) b := List.foldl_append
/-- A part that leaves room. -/
theorem write_short (s : St) (l : List Nat) (h : s.pend.length + l.length < 64) : write s l = ⟨s.H, s.pend ++ l⟩ := by
  induction l generalizing s with
  | nil => simp [write]
  | cons x r ih =>
    simp only [List.length_cons] at h
    have e : write s (x :: r) = write (step s x) r := rfl
    rw [e]
    unfold step
    rw [if_neg (by omega), ih _ (by simp; omega)]
    simp
/-- A part that fills the block. -/
theorem write_full (s : St) (l : List Nat) (h : s.pend.length + l.length = 64) (h0 : s.pend.length < 64) : write s l = ⟨mix s.H (s.pend ++ l), []⟩ := by
  induction l generalizing s with
  | nil => simp at h; omega
  | cons x r ih =>
    simp only [List.length_cons] at h
    have e : write s (x :: r) = write (step s x) r := rfl
    rw [e]
    unfold step
    by_cases hr : s.pend.length = 63
    · obtain rfl : r = [] := List.eq_nil_of_length_eq_zero (by omega)
      rw [if_pos hr]; rfl
    · rw [if_neg hr, ih _ (by simp; omega) (by simp; omega)]
      simp
def st0 : St := ⟨H0, []⟩
theorem st0_ok : st0.ok := ⟨rfl, by decide⟩
def zeros (held : Nat) : Nat := (119 - held) % 64
/-- The eight bytes that tell the length. -/
def len8 (n : Nat) : List Nat := (List.range 8).map fun i => n * 8 % 18446744073709551616 / 2 ^ (56 - 8 * i) % 256
def tail (held n : Nat) : List Nat := 128 :: (List.replicate (zeros held) 0 ++ len8 n)
/-- The bytes of words. -/
def bytes (H : List Nat) : List Nat := H.flatMap fun w => [w / 16777216 % 256, w / 65536 % 256, w / 256 % 256, w % 256]
def sum (s : St) (n : Nat) : List Nat := bytes (write s (tail s.pend.length n)).H
/-- The hash. -/
def of (l : List Nat) : List Nat := sum (write st0 l) l.length
/-- Of a short text. -/
theorem of_short (l : List Nat) (h : l.length < 56) : of l = bytes (mixq H0 (l ++ tail l.length l.length)) := by
  unfold of
  have e0 : st0.pend.length = 0 := rfl
  rw [write_short st0 l (by rw [e0]; omega)]
  unfold sum
  have hz : zeros l.length = 55 - l.length := by unfold zeros; omega
  have ht : (tail l.length l.length).length = 64 - l.length := by simp [tail, hz, len8]; omega
  have ep : (st0.pend ++ l).length = l.length := by simp [st0]
  show bytes (write ⟨st0.H, st0.pend ++ l⟩ (tail (st0.pend ++ l).length l.length)).H = _
  rw [ep, write_full _ _ (by show (st0.pend ++ l).length + _ = _; rw [ep, ht]; omega) (by show (st0.pend ++ l).length < _; rw [ep]; omega)]
  rw [← mix_eq _ _ rfl]
  rfl
theorem bytes_length (H : List Nat) : (bytes H).length = 4 * H.length := by
  induction H with
  | nil => rfl
  | cons x r ih => simp [bytes] at ih ⊢; omega
theorem of_length (l : List Nat) : (of l).length = 32 := by
  unfold of sum
  rw [bytes_length, (write_ok (write_ok st0_ok l) _).1]
theorem of_abc : of [97, 98, 99] = [186, 120, 22, 191, 143, 1, 207, 234, 65, 65, 64, 222, 93, 174, 34, 35, 176, 3, 97, 163, 150, 23, 122, 156, 180, 16, 255, 97, 242, 0, 21, 173] := by
  rw [of_short _ (by decide)]
  kernel_rfl
theorem of_a_b : of [97] ≠ of [98] := by
  rw [of_short _ (by decide), of_short _ (by decide)]
  have h : (bytes (mixq H0 ([97] ++ tail 1 1)) == bytes (mixq H0 ([98] ++ tail 1 1))) = false := by kernel_rfl
  exact fun e => by rw [show [97].length = 1 from rfl, show [98].length = 1 from rfl] at e; rw [e] at h; simp at h
end Sh
end Go.Proofs.YtmgpgjookiknkaaDoor
