/- The cache in memory; the contracts of New, Often, Counted, place. -/
import Derived.Test.YtgmelphklppcbaaProg
import Derived.Test.YtgmelphklppcbaaB
import Derived.Maps.OwnOps
import Derived.WalkKit
import Derived.WalkSpells
import Derived.WalkLawsBesides
import Derived.Laws.CopyOwn
import Derived.StillTailTactics
import Derived.KernelRfl
import Derived.Lib.Hide
import Derived.Lib.Strings
import Derived.BigQuiet
import Derived.Deep.QuietTactic
namespace Go.Proofs.Ytgmelphklppcbaa
open Go.RowKit
open Go.Maps (Keyed Tidy IsMap has size)

theorem law : Keyed Try.prog 9 := Maps.string_keyed Try.underlying9
theorem zeroE (w : World) : (zeroValue 3).run Try.prog w = .ok (.int .i64 0) w := by kernel_rfl
theorem key_kl {s : ByteArray} (h : s.size ≤ maxLen) : keyOf Try.prog 9 (.string s) = some (kl s) := WideMaps.keyOf_string_mk Try.underlying9 h
theorem text_eq {a b : ByteArray} : (a.toList == b.toList) = true ↔ a = b := by
  rw [beq_iff_eq, Lib.toList_data, Lib.toList_data]
  exact ⟨WideShapes.bytes_inj, fun h => h ▸ rfl⟩
theorem text_ne {a b : ByteArray} (h : a ≠ b) : (a.toList == b.toList) = false := by
  rw [Bool.eq_false_iff]; exact fun e => h (text_eq.1 e)

/-- Only blocks in S, and new ones, have turned. -/
structure Only (w w' : World) (S : Nat → Prop) : Prop where
  os : w'.os = w.os
  tape : w'.tape = w.tape
  output : w'.output = w.output
  size : w.heap.size ≤ w'.heap.size
  block : ∀ k, k < w.heap.size → ¬ S k → w'.heap[k]? = w.heap[k]?

theorem Only.refl (w : World) (S : Nat → Prop) : Only w w S := ⟨rfl, rfl, rfl, Nat.le_refl _, fun _ _ _ => rfl⟩
theorem Only.trans {a b c : World} {S : Nat → Prop} (h : Only a b S) (k : Only b c S) : Only a c S :=
  ⟨k.os.trans h.os, k.tape.trans h.tape, k.output.trans h.output, Nat.le_trans h.size k.size, fun i hi hs => (k.block i (Nat.lt_of_lt_of_le hi h.size) hs).trans (h.block i hi hs)⟩
theorem Only.trans' {a b c : World} {S T : Nat → Prop} (h : Only a b S) (k : Only b c T) (hT : ∀ i, i < a.heap.size → T i → S i) : Only a c S :=
  ⟨k.os.trans h.os, k.tape.trans h.tape, k.output.trans h.output, Nat.le_trans h.size k.size, fun i hi hs => (k.block i (Nat.lt_of_lt_of_le hi h.size) (fun ht => hs (hT i hi ht))).trans (h.block i hi hs)⟩
theorem Only.mono {a b : World} {S T : Nat → Prop} (h : Only a b S) (hS : ∀ i, S i → T i) : Only a b T :=
  ⟨h.os, h.tape, h.output, h.size, fun i hi ht => h.block i hi (fun hs => ht (hS i hs))⟩
theorem Only.alloc (w : World) (o : Obj) (S : Nat → Prop) : Only w (w.alloc o) S := ⟨rfl, rfl, rfl, by simp, fun k hk _ => Below.heap_alloc _ _ _ hk⟩
theorem Only.setCell (w : World) (b j : Nat) (u : Value) (S : Nat → Prop) (hS : S b) : Only w (w.setCell ⟨b, j, none⟩ u) S :=
  ⟨rfl, rfl, rfl, by simp [World.setCell], fun k hk hs => Below.heap_setCell _ _ _ _ (fun e => hs (e ▸ hS))⟩
theorem Only.setRow (w : World) (b : Nat) (xs : Array Value) (S : Nat → Prop) (hS : S b) : Only w (w.setRow b xs) S :=
  ⟨rfl, rfl, rfl, by simp [World.setRow], fun k hk hs => setRow_other w b k xs (fun e => hs (e ▸ hS))⟩
theorem Only.drew {a b : World} {S : Nat → Prop} (h : Only a b S) : Only a b.drew S := ⟨h.os, h.tape, h.output, h.size, h.block⟩
theorem Only.drewN {a b : World} {S : Nat → Prop} (h : Only a b S) (k : Nat) : Only a (b.drewN k) S := ⟨h.os, h.tape, h.output, h.size, h.block⟩
theorem Only.of_drewN {a b : World} {S : Nat → Prop} {k : Nat} (h : Only (a.drewN k) b S) : Only a b S := ⟨h.os, h.tape, h.output, h.size, h.block⟩
theorem Only.of_grown {w w' : World} {m : Nat} (h : w.grownBy w' (some m)) : Only w w' (· = m) := ⟨h.os, h.tape, h.output, h.size, fun k hk hs => h.block k hk (fun e => hs (Option.some.inj e))⟩
theorem Only.of_row {w w' : World} {r : Option Nat} (h : w.grownBy w' r) : Only w w' (fun k => some k = r) := ⟨h.os, h.tape, h.output, h.size, fun k hk hs => h.block k hk hs⟩
theorem Only.of_below {w w' : World} (S : Nat → Prop) (h : Below w.heap.size w w') : Only w w' S := ⟨h.os, h.tape, h.output, h.size, fun k hk _ => h.block k hk⟩
theorem Only.below {w w' : World} {S : Nat → Prop} {B : Nat} (h : Only w w' S) (hB : B ≤ w.heap.size) (hS : ∀ i, S i → B ≤ i) : Below B w w' := ⟨h.os, h.tape, h.output, h.size, fun k hk => h.block k (by omega) (fun hs => by have := hS k hs; omega)⟩
theorem Only.keep {w w' : World} {S : Nat → Prop} {k : Nat} {o : Obj} (h : Only w w' S) (hk : w.heap[k]? = some o) (hs : ¬ S k) : w'.heap[k]? = some o := (h.block k (lt_of_block hk) hs).trans hk
theorem Only.own {w w' : World} {S : Nat → Prop} {base e size n : Nat} {v : Value} {xs : List Value} (h : Only w w' S) (ho : w.ownsRow base e size v n xs) (hs : ∀ g, v.ownBlock = some g → ¬ S g) : w'.ownsRow base e size v n xs := by
  refine ⟨ho.1, ?_⟩
  rcases ho.2 with hn | ⟨g, cap, cur, rfl, hbg, hgg, rest⟩
  · exact .inl hn
  · exact .inr ⟨g, cap, cur, rfl, hbg, h.keep hgg (hs g rfl), rest⟩
theorem Only.map {H : Type} {w w' : World} {S : Nat → Prop} {k : TypeId} {R : Value → Option (DataW H × List MemPlace)} {b n : Nat} {D : DataW H} (h : Only w w' S) (ho : w.ownsMap Try.prog k R b n D) (hs : ¬ S b) : w'.ownsMap Try.prog k R b n D := by
  obtain ⟨es, clock, hb, rest⟩ := ho
  exact ⟨es, clock, h.keep hb hs, rest⟩

/-- A block of the cache's own kinds. -/
def Inner (o : Option Obj) : Prop := (∃ es n, o = some (.map es n)) ∨ (∃ xs f, o = some (.cells xs 59 f)) ∨ ∃ xs f, o = some (.cells xs 57 f)

/-- What an act on a cache leaves: all below B, and all that is of other kinds. -/
structure Fr (B : Nat) (w w' : World) : Prop where
  os : w'.os = w.os
  tape : w'.tape = w.tape
  output : w'.output = w.output
  size : w.heap.size ≤ w'.heap.size
  low : ∀ k, k < w.heap.size → k < B → w'.heap[k]? = w.heap[k]?
  kind : ∀ k, k < w.heap.size → ¬ Inner w.heap[k]? → w'.heap[k]? = w.heap[k]?

theorem Fr.refl (B : Nat) (w : World) : Fr B w w := ⟨rfl, rfl, rfl, Nat.le_refl _, fun _ _ _ => rfl, fun _ _ _ => rfl⟩
theorem Fr.trans {B : Nat} {a b c : World} (h : Fr B a b) (k : Fr B b c) : Fr B a c :=
  ⟨k.os.trans h.os, k.tape.trans h.tape, k.output.trans h.output, Nat.le_trans h.size k.size, fun i hi hb => (k.low i (Nat.lt_of_lt_of_le hi h.size) hb).trans (h.low i hi hb),
    fun i hi hn => (k.kind i (Nat.lt_of_lt_of_le hi h.size) (by rw [h.kind i hi hn]; exact hn)).trans (h.kind i hi hn)⟩
theorem Fr.of_only {B : Nat} {w w' : World} {S : Nat → Prop} (h : Only w w' S) (hS : ∀ i, i < w.heap.size → S i → B ≤ i ∧ Inner w.heap[i]?) : Fr B w w' :=
  ⟨h.os, h.tape, h.output, h.size, fun k hk hb => h.block k hk (fun hs => by have := (hS k hk hs).1; omega), fun k hk hn => h.block k hk (fun hs => hn (hS k hk hs).2)⟩
theorem Fr.of_none {w w' : World} (B : Nat) (h : Only w w' (fun _ => False)) : Fr B w w' := Fr.of_only h (fun _ _ h => h.elim)
theorem Fr.below {B : Nat} {w w' : World} (h : Fr B w w') (hB : B ≤ w.heap.size) : Below B w w' := ⟨h.os, h.tape, h.output, h.size, fun k hk => h.low k (by omega) hk⟩
theorem Fr.keep {B : Nat} {w w' : World} (h : Fr B w w') {k : Nat} {xs : Array Value} {t : TypeId} {f : Nat × Nat} (hk : w.heap[k]? = some (.cells xs t f)) (h1 : t ≠ 59) (h2 : t ≠ 57) : w'.heap[k]? = some (.cells xs t f) := by
  rw [h.kind k (lt_of_block hk) (fun hi => ?_)]
  · exact hk
  · rw [hk] at hi
    rcases hi with ⟨_, _, e⟩ | ⟨_, _, e⟩ | ⟨_, _, e⟩
    · cases e
    · simp only [Option.some.injEq, Obj.cells.injEq] at e; exact h1 e.2.1
    · simp only [Option.some.injEq, Obj.cells.injEq] at e; exact h2 e.2.1
theorem Fr.own {B : Nat} {w w' : World} (h : Fr B w w') {base e size n : Nat} {v : Value} {xs : List Value} (ho : w.ownsRow base e size v n xs) (h1 : e ≠ 59) (h2 : e ≠ 57) : w'.ownsRow base e size v n xs := by
  refine ⟨ho.1, ?_⟩
  rcases ho.2 with hn | ⟨g, cap, cur, rfl, hbg, hgg, rest⟩
  · exact .inl hn
  · exact .inr ⟨g, cap, cur, rfl, hbg, h.keep hgg h1 h2, rest⟩

/-- Things, cell by cell. -/
def flat : Ts → List Value
  | [] => []
  | x :: l => .string x.1 :: .string x.2 :: flat l

theorem flat_length (T : Ts) : (flat T).length = T.length * 2 := by
  induction T with
  | nil => rfl
  | cons x l ih => simp only [flat, List.length_cons, ih]; omega
theorem flat_append (T U : Ts) : flat (T ++ U) = flat T ++ flat U := by
  induction T with
  | nil => rfl
  | cons x l ih => simp only [List.cons_append, flat, ih]
theorem flat_take (T : Ts) (i : Nat) : (flat T).take (i * 2) = flat (T.take i) := by
  induction T generalizing i with
  | nil => simp [flat]
  | cons x l ih =>
    cases i with
    | zero => rfl
    | succ i => rw [show (i + 1) * 2 = i * 2 + 1 + 1 by omega]; simp only [flat, List.take_succ_cons, ih]
theorem flat_drop (T : Ts) (i : Nat) : (flat T).drop (i * 2) = flat (T.drop i) := by
  induction T generalizing i with
  | nil => simp [flat]
  | cons x l ih =>
    cases i with
    | zero => rfl
    | succ i => rw [show (i + 1) * 2 = i * 2 + 1 + 1 by omega]; simp only [flat, List.drop_succ_cons, ih]
theorem flat_one (T : Ts) : ∀ u ∈ flat T, u.oneCell' = true := by
  induction T with
  | nil => intro u hu; cases hu
  | cons x l ih =>
    intro u hu
    simp only [flat, List.mem_cons] at hu
    rcases hu with rfl | rfl | hu
    · rfl
    · rfl
    · exact ih u hu
theorem flat_at (T : Ts) {i : Nat} (h : i < T.length) : (flat T)[i * 2]? = some (.string T[i].1) ∧ (flat T)[i * 2 + 1]? = some (.string T[i].2) := by
  induction T generalizing i with
  | nil => cases h
  | cons x l ih =>
    cases i with
    | zero => exact ⟨rfl, rfl⟩
    | succ i =>
      rw [show (i + 1) * 2 = i * 2 + 1 + 1 by omega]
      simp only [flat, List.getElem?_cons_succ, List.getElem_cons_succ]
      exact ih (by simpa using h)

/-- A cache. -/
structure Ca where
  size : Nat
  T : Ts
  C : Cs
  n : Nat

/-- The cache at block c reads as s; its blocks lie from B on. -/
def IsCache (w : World) (B c : Nat) (s : Ca) : Prop :=
  ∃ bm v, ∃ D : DataW Unit, w.heap[c]? = some (.cells #[.int .i64 s.size, v, .map (some bm), .int .i64 s.n] 57 (0, 0)) ∧ B ≤ c ∧ B ≤ bm ∧
    w.ownsRow B 59 2 v s.T.length (flat s.T) ∧ w.ownsMap Try.prog 9 (plainElem Try.prog 3) bm s.C.length D ∧ Agr D s.C ∧ Good s.C ∧ s.size ≤ 64 ∧ s.T.length ≤ s.size ∧ ∀ x ∈ s.T, x.1.size ≤ maxLen

theorem own_tight {H : Type} {w : World} {P : Program} {k : TypeId} {R : Value → Option (DataW H × List MemPlace)} {b n : Nat} {D : DataW H} (h : w.ownsMap P k R b n D) : w.ownsMap P k R b (size D) D := by
  obtain ⟨es, clock, hb, F, hs, rfl⟩ := h
  refine ⟨es, clock, hb, F, ?_, rfl⟩
  simp [Maps.size, length_sorted]

theorem own_agr {w : World} {b n : Nat} {D : DataW Unit} {C : Cs} (h : w.ownsMap Try.prog 9 (plainElem Try.prog 3) b n D) (ha : Agr D C) : w.ownsMap Try.prog 9 (plainElem Try.prog 3) b C.length D := by
  rw [← ha.2.1]; exact own_tight h

theorem IsCache.lt {w : World} {B c : Nat} {s : Ca} (h : IsCache w B c s) : c < w.heap.size ∧ B ≤ c := by
  obtain ⟨bm, v, D, hb, h1, _⟩ := h
  exact ⟨lt_of_block hb, h1⟩

theorem IsCache.keep {w w' : World} {B c : Nat} {s : Ca} (h : IsCache w B c s) (ho : Only w w' (fun _ => False)) : IsCache w' B c s := by
  obtain ⟨bm, v, D, hb, h1, h2, hr, hm, rest⟩ := h
  exact ⟨bm, v, D, ho.keep hb (fun h => h), h1, h2, ho.own hr (fun _ _ h => h), ho.map hm (fun h => h), rest⟩
theorem IsCache.drewN {w : World} {B c : Nat} {s : Ca} (h : IsCache w B c s) (k : Nat) : IsCache (w.drewN k) B c s := h.keep ((Only.refl _ _).drewN k)

/-- The receiver's cells. -/
theorem cells4 {w : World} {b : Nat} {p q r s : Value} {t : TypeId} (h : w.heap[b]? = some (.cells #[p, q, r, s] t (0, 0))) : w.cell? ⟨b, 0, none⟩ = some p ∧ w.cell? ⟨b, 1, none⟩ = some q ∧ w.cell? ⟨b, 2, none⟩ = some r ∧ w.cell? ⟨b, 3, none⟩ = some s := by
  simp [World.cell?, h]
theorem free_arr {w : World} {g : Nat} {xs : Array Value} {e : TypeId} (h : w.heap[g]? = some (.cells xs e (0, 0))) (j : Nat) : w.frozen? ⟨g, j, none⟩ = false := by
  simp [World.frozen?, h]
theorem own_shape {w : World} {base e size n : Nat} {v : Value} {xs : List Value} (h : w.ownsRow base e size v n xs) : ∃ sp cap, v = .slice sp n cap := by
  rcases h.2 with ⟨rfl, h0⟩ | ⟨g, cap, cur, rfl, _⟩
  · exact ⟨none, 0, by rw [h0]⟩
  · exact ⟨_, _, rfl⟩

/-- A row of things that is not empty, laid open. -/
theorem own_open {w : World} {base n cap : Nat} {sp : Option Addr} {xs : List Value} (h : w.ownsRow base 59 2 (.slice sp n cap) n xs) (hn : 0 < n) :
    ∃ g cur, sp = some ⟨g, 0, none⟩ ∧ base ≤ g ∧ w.heap[g]? = some (.cells cur 59 (0, 0)) ∧ n ≤ cap ∧ cap ≤ maxLen ∧ cur.size = cap * 2 ∧ cur.toList.take (n * 2) = xs := by
  rcases h.2 with ⟨h0, h1⟩ | ⟨g, cap', cur, hv, h1, h2, h3, h4, h5, h6⟩
  · omega
  · simp only [Value.slice.injEq] at hv
    obtain ⟨rfl, _, rfl⟩ := hv
    exact ⟨g, cur, rfl, h1, h2, h3, h4, h5, h6⟩

theorem row_cells {w : World} {g n : Nat} {cur : Array Value} {t : TypeId} {T : Ts} (h : w.heap[g]? = some (.cells cur t (0, 0))) (ht : cur.toList.take (n * 2) = flat T) (hn : T.length = n) {i : Nat} (hi : i < T.length) :
    w.cell? ⟨g, i * 2, none⟩ = some (.string T[i].1) ∧ w.cell? ⟨g, i * 2 + 1, none⟩ = some (.string T[i].2) := by
  obtain ⟨h1, h2⟩ := flat_at T hi
  rw [← ht, List.getElem?_take_of_lt (by omega)] at h1 h2
  simp only [Array.getElem?_toList] at h1 h2
  simp [World.cell?, h, h1, h2]

/-- The key's place; how many there are, if it is not there. -/
def pl (T : Ts) (k : ByteArray) : Nat := T.findIdx (fun x => decide (x.1 = k))

theorem pl_lt {T : Ts} {k : ByteArray} (h : pl T k < T.length) : T[pl T k].1 = k := by
  have := List.findIdx_getElem (w := h)
  exact of_decide_eq_true this
theorem pl_before {T : Ts} {k : ByteArray} {j : Nat} (h : j < pl T k) (hj : j < T.length) : T[j].1 ≠ k := by
  have := List.not_of_lt_findIdx h
  exact fun e => by simp [e] at this
theorem pl_le (T : Ts) (k : ByteArray) : pl T k ≤ T.length := List.findIdx_le_length

set_option maxHeartbeats 800000 in
/-- The closure: is it this key? -/
theorem is_any (x : ByteArray × ByteArray) (key : ByteArray) (b : Nat) (w : World) (hb : w.cell? ⟨b, 0, none⟩ = some (.string key)) (hlt : b < w.heap.size) :
    Calls Try.prog 34 #[.agg #[.string x.1, .string x.2], .pointer (some ⟨b, 0, none⟩)] w fun e w' => e = .returned (.bool (x.1.toList == key.toList)) ∧ Only w w' (fun _ => False) := by
  go_enter Try.func34, Try.ntmps34
  go_wp2
  go_ret
  exact ⟨rfl, Only.alloc _ _ _⟩

end Go.Proofs.Ytgmelphklppcbaa
