/- A block is taken in: the contract of mix, for every state and every block of 64 bytes that waits. -/
import Derived.Test.YtmgpgjookiknkaaDoorB
import Derived.Deep.RegionLaw
namespace Go.Proofs.YtmgpgjookiknkaaDoor
open Go.RowKit

/-- Below block B the world w' is as w was, but for block g. -/
structure OnlyB (B g : Nat) (w w' : World) : Prop where
  os : w'.os = w.os
  tape : w'.tape = w.tape
  output : w'.output = w.output
  size : w.heap.size ≤ w'.heap.size
  block : ∀ k, k < B → k ≠ g → w'.heap[k]? = w.heap[k]?
theorem OnlyB.refl (B g : Nat) (w : World) : OnlyB B g w w := ⟨rfl, rfl, rfl, Nat.le_refl _, fun _ _ _ => rfl⟩
theorem OnlyB.trans {B g : Nat} {a b c : World} (h : OnlyB B g a b) (k : OnlyB B g b c) : OnlyB B g a c :=
  ⟨k.os.trans h.os, k.tape.trans h.tape, k.output.trans h.output, Nat.le_trans h.size k.size, fun i hi hg => (k.block i hi hg).trans (h.block i hi hg)⟩
theorem OnlyB.mono {B B' g : Nat} {a b : World} (h : OnlyB B g a b) (hb : B' ≤ B) : OnlyB B' g a b := ⟨h.os, h.tape, h.output, h.size, fun k hk hg => h.block k (by omega) hg⟩
theorem OnlyB.of_below {B g : Nat} {a b : World} (h : Below B a b) : OnlyB B g a b := ⟨h.os, h.tape, h.output, h.size, fun k hk _ => h.block k hk⟩
theorem OnlyB.below {B B' g : Nat} {a b : World} (h : OnlyB B g a b) (hg : B' ≤ g) (hB : B' ≤ B) : Below B' a b := ⟨h.os, h.tape, h.output, h.size, fun k hk => h.block k (by omega) (by omega)⟩
theorem OnlyB.alloc {B g : Nat} {a w : World} (h : OnlyB B g a w) (hB : B ≤ w.heap.size) (o : Obj) : OnlyB B g a (w.alloc o) :=
  h.trans (.of_below ((Below.refl _ _).alloc hB o))
theorem OnlyB.set {B g : Nat} {a w : World} (h : OnlyB B g a w) (j : Nat) (u : Value) : OnlyB B g a (w.setCell ⟨g, j, none⟩ u) :=
  h.trans ⟨rfl, rfl, rfl, by simp [World.setCell], fun k _ hg => Below.heap_setCell _ _ _ _ hg⟩
theorem OnlyB.setNew {B g : Nat} {a w : World} (h : OnlyB B g a w) {p : Addr} (hp : B ≤ p.block) (u : Value) : OnlyB B g a (w.setCell p u) :=
  h.trans (.of_below ((Below.refl _ _).setCell hp u))
theorem OnlyB.drewN {B g : Nat} {a w : World} (h : OnlyB B g a w) (n : Nat) : OnlyB B g a (w.drewN n) := ⟨h.os, h.tape, h.output, h.size, h.block⟩
theorem OnlyB.setRow {B g : Nat} {a w : World} (h : OnlyB B g a w) (cs : Array Value) : OnlyB B g a (w.setRow g cs) :=
  h.trans ⟨rfl, rfl, rfl, by simp [World.setRow], fun k _ hg => setRow_other w g k cs hg⟩

/-- Bytes as cells. -/
def w8 (l : List Nat) : List Value := l.map fun x : Nat => Value.int .u8 (x : Int)
theorem w8_length (l : List Nat) : (w8 l).length = l.length := by simp [w8]
theorem w8_get {l : List Nat} {j : Nat} (h : j < l.length) : (w8 l)[j]? = some (.int .u8 ((l.getD j 0 : Nat) : Int)) := by simp [w8, h]
/-- The cells of a Hash. -/
def hcells (H wait : List Nat) (held size : Nat) : List Value := w32 H ++ (w8 wait ++ [.int .i64 (held : Int), .int .u64 (size : Int)])
theorem hcells_length {H wait : List Nat} (hH : H.length = 8) (hw : wait.length = 64) (held size : Nat) : (hcells H wait held size).length = 74 := by
  simp [hcells, w32_length, w8_length, hH, hw]
theorem hcells_word {H wait : List Nat} (held size : Nat) {j : Nat} (h : j < H.length) : (hcells H wait held size)[j]? = some (.int .u32 ((H.getD j 0 : Nat) : Int)) := by
  unfold hcells
  rw [List.getElem?_append_left (by rw [w32_length]; exact h), w32_get h]
theorem hcells_wait {H wait : List Nat} (hH : H.length = 8) (held size : Nat) {j : Nat} (h : j < wait.length) : (hcells H wait held size)[8 + j]? = some (.int .u8 ((wait.getD j 0 : Nat) : Int)) := by
  unfold hcells
  rw [List.getElem?_append_right (by rw [w32_length]; omega), w32_length, hH, show 8 + j - 8 = j by omega, List.getElem?_append_left (by rw [w8_length]; exact h), w8_get h]
theorem hcells_held {H wait : List Nat} (hH : H.length = 8) (hw : wait.length = 64) (held size : Nat) : (hcells H wait held size)[72]? = some (.int .i64 (held : Int)) := by
  unfold hcells
  rw [List.getElem?_append_right (by rw [w32_length]; omega), w32_length, hH, List.getElem?_append_right (by rw [w8_length]; omega), w8_length, hw]
  rfl
theorem hcells_size {H wait : List Nat} (hH : H.length = 8) (hw : wait.length = 64) (held size : Nat) : (hcells H wait held size)[73]? = some (.int .u64 (size : Int)) := by
  unfold hcells
  rw [List.getElem?_append_right (by rw [w32_length]; omega), w32_length, hH, List.getElem?_append_right (by rw [w8_length]; omega), w8_length, hw]
  rfl
theorem hcells_setWord {H wait : List Nat} (held size : Nat) {j : Nat} (h : j < H.length) (x : Nat) : (hcells H wait held size).set j (.int .u32 (x : Int)) = hcells (H.set j x) wait held size := by
  unfold hcells
  rw [List.set_append_left _ _ (by rw [w32_length]; exact h)]
  congr 1
  simp [w32, List.map_set]

/-- The table. -/
def Laid (w : World) : Prop := 0 < w.heap.size ∧ ∀ j, j < 64 → w.cell? ⟨0, j, none⟩ = some (.int .u32 ((Sh.cubes.getD j 0 : Nat) : Int))
theorem Laid.only {B g : Nat} {w w' : World} (h : Laid w) (ho : OnlyB B g w w') (hg : 0 < g) (hB : 0 < B) : Laid w' :=
  ⟨Nat.lt_of_lt_of_le h.1 ho.size, fun j hj => (World.cell?_of_block (w := w) (ho.block 0 hB (by omega))).trans (h.2 j hj)⟩
theorem Laid.below {B : Nat} {w w' : World} (h : Laid w) (ho : Below B w w') (hB : 0 < B) : Laid w' :=
  ⟨Nat.lt_of_lt_of_le h.1 ho.size, fun j hj => (World.cell?_of_block (w := w) (ho.block 0 hB)).trans (h.2 j hj)⟩

theorem after1 {w w1 : World} {g : Nat} {H wait : List Nat} {held size : Nat} (hg : w.heap[g]? = some (.cells (hcells H wait held size).toArray 45 (0, 0))) (hL : Laid w) (hb : Below w.heap.size w w1) :
    w1.rangeAt g 0 (w32 H) ∧ w1.heap[g]? = some (.cells (hcells H wait held size).toArray 45 (0, 0)) ∧ Laid w1 ∧ Below w.heap.size w w1 := by
  have hgl := lt_of_block hg
  have h1 := (hb.block g hgl).trans hg
  refine ⟨fun j v hv => ?_, h1, hL.below hb hL.1, hb⟩
  have hj : j < H.length := by have := (List.getElem?_eq_some_iff.1 hv).1; rwa [w32_length] at this
  rw [w32_get hj] at hv
  rw [Nat.zero_add, cell_arr h1, hcells_word held size hj]
  exact hv

theorem after2 {w w1 w2 : World} {g : Nat} {H wait : List Nat} {held size : Nat} {S : Array Value}
    (h : w1.rangeAt g 0 (w32 H) ∧ w1.heap[g]? = some (.cells (hcells H wait held size).toArray 45 (0, 0)) ∧ Laid w1 ∧ Below w.heap.size w w1) (e : w2 = w1.alloc (.cells S 48)) :
    w2.rangeAt g 0 (w32 H) ∧ w2.heap[g]? = some (.cells (hcells H wait held size).toArray 45 (0, 0)) ∧ Laid w2 ∧ Below w.heap.size w w2 ∧ w2.heap[w1.heap.size]? = some (.cells S 48 (0, 0)) ∧ w.heap.size ≤ w1.heap.size := by
  subst e
  exact ⟨World.rangeAt_alloc h.1 _, by rw [Below.heap_alloc _ _ _ (lt_of_block h.2.1)]; exact h.2.1, h.2.2.1.below ((Below.refl _ _).alloc (Nat.le_refl _) _) h.2.2.1.1, h.2.2.2.alloc h.2.2.2.size _, heap_alloc_last _ _, h.2.2.2.size⟩
theorem after3 {w w2 w3 : World} {g b : Nat} {H wait : List Nat} {held size : Nat} {S V : Array Value}
    (h : w2.rangeAt g 0 (w32 H) ∧ w2.heap[g]? = some (.cells (hcells H wait held size).toArray 45 (0, 0)) ∧ Laid w2 ∧ Below w.heap.size w w2 ∧ w2.heap[b]? = some (.cells S 48 (0, 0)) ∧ w.heap.size ≤ b) (e : w3 = w2.alloc (.cells V 41)) :
    w3.heap[g]? = some (.cells (hcells H wait held size).toArray 45 (0, 0)) ∧ Laid w3 ∧ Below w.heap.size w w3 ∧ w3.heap[b]? = some (.cells S 48 (0, 0)) ∧ w3.heap[w2.heap.size]? = some (.cells V 41 (0, 0)) ∧ w.heap.size ≤ b ∧ b < w2.heap.size := by
  subst e
  exact ⟨by rw [Below.heap_alloc _ _ _ (lt_of_block h.2.1)]; exact h.2.1, h.2.2.1.below ((Below.refl _ _).alloc (Nat.le_refl _) _) h.2.2.1.1, h.2.2.2.1.alloc h.2.2.2.1.size _, by rw [Below.heap_alloc _ _ _ (lt_of_block h.2.2.2.2.1)]; exact h.2.2.2.2.1, heap_alloc_last _ _, h.2.2.2.2.2, lt_of_block h.2.2.2.2.1⟩

theorem size40 : (Tryd.prog.info? 40).map (·.size) = some 1 := by kernel_rfl
/-- Between two rounds: the words v are V. -/
def Rnd (w : World) (g bw bv : Nat) (H wait : List Nat) (held size : Nat) (V : List Nat) (w3 : World) : Prop :=
  w3.heap[g]? = some (.cells (hcells H wait held size).toArray 45 (0, 0)) ∧ Laid w3 ∧ Below w.heap.size w w3 ∧ w3.heap[bw]? = some (.cells (w32 (Sh.spread wait)).toArray 48 (0, 0)) ∧ w3.heap[bv]? = some (.cells (w32 V).toArray 41 (0, 0)) ∧ w.heap.size ≤ bw ∧ bw < bv
theorem Rnd.drewN {w : World} {g bw bv : Nat} {H wait V : List Nat} {held size : Nat} {wr : World} (h : Rnd w g bw bv H wait held size V wr) (n : Nat) : Rnd w g bw bv H wait held size V (wr.drewN n) :=
  ⟨h.1, h.2.1, below_drewN h.2.2.1 n, h.2.2.2⟩
theorem Rnd.row {w : World} {g bw bv : Nat} {H wait V : List Nat} {held size : Nat} {wr : World} (h : Rnd w g bw bv H wait held size V wr) (hgl : g < w.heap.size) (V' : List Nat) : Rnd w g bw bv H wait held size V' (wr.setRow bv (w32 V').toArray) := by
  obtain ⟨h1, h2, h3, h4, h5, h6, h7⟩ := h
  have hb := below_setRow (B := w.heap.size) (g := bv) (Below.refl _ wr) (by omega) (w32 V').toArray
  exact ⟨by rw [setRow_other _ _ _ _ (by omega)]; exact h1, h2.below hb (by omega), h3.trans hb, by rw [setRow_other _ _ _ _ (by omega)]; exact h4, setRow_heap _ _ _ _ _ _ h5, h6, h7⟩
theorem w32_set (V : List Nat) (j x : Nat) : (w32 V).toArray.setIfInBounds j (.int .u32 (x : Int)) = (w32 (V.set j x)).toArray := by
  rw [w32, w32, List.map_set]; simp
theorem Rnd.set {w : World} {g bw bv : Nat} {H wait V : List Nat} {held size : Nat} {wr : World} (h : Rnd w g bw bv H wait held size V wr) (hgl : g < w.heap.size) (j x : Nat) : Rnd w g bw bv H wait held size (V.set j x) (wr.setCell ⟨bv, j, none⟩ (.int .u32 (x : Int))) := by
  obtain ⟨h1, h2, h3, h4, h5, h6, h7⟩ := h
  have hb : Below w.heap.size wr (wr.setCell ⟨bv, j, none⟩ (.int .u32 (x : Int))) := (Below.refl _ wr).setCell (p := ⟨bv, j, none⟩) (by show w.heap.size ≤ bv; omega) _
  refine ⟨by rw [Below.heap_setCell _ _ _ _ (by show g ≠ bv; omega)]; exact h1, h2.below hb (by omega), h3.trans hb, by rw [Below.heap_setCell _ _ _ _ (by show bw ≠ bv; omega)]; exact h4, ?_, h6, h7⟩
  rw [heap_set h5, w32_set]
theorem Rnd.cell {w : World} {g bw bv : Nat} {H wait V : List Nat} {held size : Nat} {wr : World} (h : Rnd w g bw bv H wait held size V wr) (j : Nat) (hj : j < V.length) : wr.cell? ⟨bv, j, none⟩ = some (.int .u32 ((V.getD j 0 : Nat) : Int)) ∧ wr.frozen? ⟨bv, j, none⟩ = false := by
  obtain ⟨h1, h2, h3, h4, h5, h6, h7⟩ := h
  exact ⟨by rw [cell_arr h5, w32_get hj], free_arr h5 j⟩
/-- 'copy(dst, src)' within rows known whole, in a region that draws. -/
theorem step_copy_to {P : Program} {ops : Array Oper} {o : Oper} {a : Act} {w : World} {K : Act → World → Prop} {Q : Exit → Act → World → Prop} {E : Prop} (hgd : o.guard = none) (d s : Operand) (dT sT : TypeId)
    (ho : o.op = .call { callee := .builtin .copy, args := #[d, s], argTypes := #[dT, sT] }) (elem : TypeId) (hu : P.underlying dT = some (.slice elem)) (hsz : (P.info? elem).map (·.size) = some 1)
    (g off dLen dCap : Nat) (ad : Addr) (sLen sCap : Nat) (hd : a.eval d = .slice (some ⟨g, off, none⟩) dLen dCap) (hs : a.eval s = .slice (some ad) sLen sCap)
    (cur : Array Value) (t : TypeId) (hg : w.heap[g]? = some (.cells cur t (0, 0))) (cs : List Value) (hn : cs.length = Nat.min sLen dLen)
    (hsrc : ∀ j v, cs[j]? = some v → w.cell? (ad.add j) = some v) (hfit : off + cs.length ≤ cur.size) (h1 : ∀ v ∈ cs, v.oneCell' = true) (new : Array Value) (hnew : (cur.toList.take off ++ cs ++ cur.toList.drop (off + cs.length)).toArray = new)
    (h : K (a.put o.dst (goInt cs.length)) (w.setRow g new)) : if Region.wanted o (yielded ops a.tmps) = true then Oper.wp P o a w K Q else E := by
  have hw : Region.wanted o (yielded ops a.tmps) = true := by simp [Region.wanted, hgd]
  rw [if_pos hw]
  have hrun := run_copy_row (P := P) w dT sT o.type elem g off dLen dCap ad sLen sCap cur t cs hu hsz hg hn hsrc hfit h1
  rw [hnew] at hrun
  unfold Oper.wp
  simp only [execOp, ho, resolve, invoke, builtin, hd, hs, Result.andThen, List.map_toArray, List.map_cons, List.map_nil]
  simp [hd, hs, hrun, Result.andThen]
  exact h
theorem eight (l : List Nat) (h : l.length = 8) : ∃ a b c d e f g i, l = [a, b, c, d, e, f, g, i] := by
  match l, h with
  | [a, b, c, d, e, f, g, i], _ => exact ⟨_, _, _, _, _, _, _, _, rfl⟩
theorem Rnd.facts {w : World} {g bw bv : Nat} {H wait V : List Nat} {held size k : Nat} {wr : World} (h : Rnd w g bw bv H wait held size V wr) (hk : k < 64) {v0 v1 v2 v3 v4 v5 v6 v7 : Nat}
    (hv : V = [v0, v1, v2, v3, v4, v5, v6, v7]) :
    wr.cell? ⟨bv, 0, none⟩ = some (.int .u32 v0) ∧ wr.cell? ⟨bv, 1, none⟩ = some (.int .u32 v1) ∧ wr.cell? ⟨bv, 2, none⟩ = some (.int .u32 v2) ∧ wr.cell? ⟨bv, 3, none⟩ = some (.int .u32 v3) ∧
    wr.cell? ⟨bv, 4, none⟩ = some (.int .u32 v4) ∧ wr.cell? ⟨bv, 5, none⟩ = some (.int .u32 v5) ∧ wr.cell? ⟨bv, 6, none⟩ = some (.int .u32 v6) ∧ wr.cell? ⟨bv, 7, none⟩ = some (.int .u32 v7) ∧
    wr.cell? ⟨0, k, none⟩ = some (.int .u32 ((Sh.cubes.getD k 0 : Nat) : Int)) ∧ wr.cell? ⟨bw, k, none⟩ = some (.int .u32 (((Sh.spread wait).getD k 0 : Nat) : Int)) := by
  obtain ⟨_, hL, _, hw, hvb, _⟩ := h
  rw [hv] at hvb
  refine ⟨?_, ?_, ?_, ?_, ?_, ?_, ?_, ?_, hL.2 k hk, ?_⟩
  all_goals first | (rw [cell_arr hw, w32_get (by rw [Sh.spread_length]; exact hk)]) | (rw [cell_arr hvb]; rfl)

/-- The words of H in the last loop: k are done. -/
def part (H R : List Nat) (k : Nat) : List Nat := (List.zipWith Sh.ad H R).take k ++ H.drop k
theorem part_zero (H R : List Nat) : part H R 0 = H := by simp [part]
theorem part_full {H R : List Nat} (hH : H.length = 8) (hR : R.length = 8) : part H R 8 = List.zipWith Sh.ad H R := by
  unfold part; rw [List.take_of_length_le (by simp [hH, hR]), List.drop_of_length_le (by omega), List.append_nil]
theorem part_length {H R : List Nat} (hH : H.length = 8) (hR : R.length = 8) {k : Nat} (hk : k ≤ 8) : (part H R k).length = 8 := by
  simp [part, hH, hR]; omega
theorem part_get {H R : List Nat} (hH : H.length = 8) (hR : R.length = 8) {k : Nat} (hk : k < 8) : (part H R k).getD k 0 = H.getD k 0 := by
  have hl : ((List.zipWith Sh.ad H R).take k).length = k := by simp [hH, hR]; omega
  unfold part
  rw [List.getD_eq_getElem?_getD, List.getElem?_append_right (by omega), hl, Nat.sub_self, List.getElem?_drop]
  simp
theorem part_set {H R : List Nat} (hH : H.length = 8) (hR : R.length = 8) {k : Nat} (hk : k < 8) : (part H R k).set k (Sh.ad (H.getD k 0) (R.getD k 0)) = part H R (k + 1) := by
  have hl : ((List.zipWith Sh.ad H R).take k).length = k := by simp [hH, hR]; omega
  unfold part
  rw [List.set_append_right _ _ (by omega), hl, Nat.sub_self, List.take_succ_eq_append_getElem (by simp [hH, hR]; omega), List.append_assoc]
  congr 1
  rw [List.drop_eq_getElem_cons (by omega), List.set_cons_zero]
  simp [List.getD_eq_getElem?_getD, show k < H.length by omega, show k < R.length by omega]
def Fin2 (w : World) (g bv : Nat) (H R wait : List Nat) (held size k : Nat) (wr : World) : Prop :=
  wr.heap[g]? = some (.cells (hcells (part H R k) wait held size).toArray 45 (0, 0)) ∧ wr.heap[bv]? = some (.cells (w32 R).toArray 41 (0, 0)) ∧ OnlyB w.heap.size g w wr ∧ g < bv
theorem Rnd.fin2 {w : World} {g bw bv : Nat} {H wait V : List Nat} {held size : Nat} {wr : World} (h : Rnd w g bw bv H wait held size V wr) (hH : H.length = 8) (hgl : g < w.heap.size) : Fin2 w g bv H V wait held size 0 wr := by
  obtain ⟨h1, h2, h3, h4, h5, h6, h7⟩ := h
  exact ⟨by rw [part_zero]; exact h1, h5, .of_below h3, by omega⟩
theorem Fin2.facts {w : World} {g bv : Nat} {H R wait : List Nat} {held size k : Nat} {wr : World} (h : Fin2 w g bv H R wait held size k wr) (hk : k < 8) (hH : H.length = 8) (hR : R.length = 8) :
    wr.cell? ⟨g, k, none⟩ = some (.int .u32 ((H.getD k 0 : Nat) : Int)) ∧ wr.frozen? ⟨g, k, none⟩ = false ∧ wr.cell? ⟨bv, k, none⟩ = some (.int .u32 ((R.getD k 0 : Nat) : Int)) := by
  obtain ⟨h1, h2, h3, h4⟩ := h
  exact ⟨by rw [cell_arr h1, hcells_word held size (by rw [part_length hH hR (by omega)]; exact hk), part_get hH hR hk], free_arr h1 k, by rw [cell_arr h2, w32_get (by omega)]⟩
theorem Fin2.set {w : World} {g bv : Nat} {H R wait : List Nat} {held size k : Nat} {wr : World} (h : Fin2 w g bv H R wait held size k wr) (hk : k < 8) (hH : H.length = 8) (hR : R.length = 8) :
    Fin2 w g bv H R wait held size (k + 1) (wr.setCell ⟨g, k, none⟩ (.int .u32 ((Sh.ad (H.getD k 0) (R.getD k 0) : Nat) : Int))) := by
  obtain ⟨h1, h2, h3, h4⟩ := h
  refine ⟨?_, by rw [Below.heap_setCell _ _ _ _ (by show bv ≠ g; omega)]; exact h2, h3.set k _, h4⟩
  rw [heap_set h1, ← part_set hH hR hk, ← hcells_setWord held size (by rw [part_length hH hR (by omega)]; exact hk)]
  simp
theorem Fin2.drewN {w : World} {g bv : Nat} {H R wait : List Nat} {held size k : Nat} {wr : World} (h : Fin2 w g bv H R wait held size k wr) (n : Nat) : Fin2 w g bv H R wait held size k (wr.drewN n) :=
  ⟨h.1, h.2.1, h.2.2.1.drewN n, h.2.2.2⟩

set_option maxRecDepth 100000 in
set_option maxHeartbeats 1600000 in
theorem mix_any (g : Nat) (w : World) (H wait : List Nat) (held size : Nat) (hH : H.length = 8) (hw : wait.length = 64) (hL : Laid w) (h0 : 0 < g)
    (hg : w.heap[g]? = some (.cells (hcells H wait held size).toArray 45 (0, 0))) :
    Calls Tryd.prog 16 #[.pointer (some ⟨g, 0, none⟩), .slice (some ⟨g, 8, none⟩) 64 64] w fun e w' =>
      e = .returned (.tuple #[]) ∧ w'.heap[g]? = some (.cells (hcells (Sh.mix H wait) wait held size).toArray 45 (0, 0)) ∧ OnlyB w.heap.size g w w' := by
  have hgl := lt_of_block hg
  have hcw : ∀ j, j < 64 → w.cell? ⟨g, 8 + j, none⟩ = some (.int .u8 ((wait.getD j 0 : Nat) : Int)) := fun j hj => by
    rw [cell_arr hg, hcells_wait hH held size (by omega)]
  have hsp := Lib.hid (spread_any g 8 w wait hcw hgl)
  have hI48 : (Tryd.prog.info? 48).map (·.size) = some (w32 (Sh.spread wait)).toArray.size := by
    rw [List.size_toArray, w32_length, Sh.spread_length]; kernel_rfl
  have hI41 : (Tryd.prog.info? 41).map (·.size) = some (w32 H).length := by
    rw [w32_length, hH]; kernel_rfl
  have hI41' : (Tryd.prog.info? 41).map (·.size) = some (w32 H).toArray.size := by rw [List.size_toArray]; exact hI41
  have HG := Lib.hid (And.intro hg hL)
  have HI := Lib.hid (And.intro hI48 (And.intro hI41 hI41'))
  clear hcw hg hL hI48 hI41 hI41'
  have H64 : (lay []).toArray.size = (w32 (Sh.spread wait)).toArray.size := by
    rw [List.size_toArray, List.size_toArray, lay_length (by simp), w32_length, Sh.spread_length]
  have H8 : ((List.replicate 8 (Value.int .u32 0)).toArray).size = (w32 H).toArray.size := by
    rw [List.size_toArray, List.size_toArray, w32_length, hH]; rfl
  have HS := Lib.hid (And.intro H64 H8)
  clear H64 H8
  go_enter Tryd.func16, Tryd.ntmps16
  go_wp2_with (first | ((refine (hsp.out).mono ?_); rintro e w1 ⟨rfl, hb1⟩; have HA := Lib.hid (after1 HG.out.1 HG.out.2 hb1); clear hb1) | (refine wpList_store_row rfl 48 (.tmp 4) (.tmp 13) rfl _ _ rfl rfl 48 (lay []).toArray (heap_alloc_last _ _) HI.out.1 HS.out.1 (all_oneCell_toArray (w32_one _)) ?_; rw [World.setRow_alloc_new]; generalize hW2 : World.alloc w1 _ = w2; have HB := Lib.hid (after2 HA.out hW2.symm); clear hW2) | (refine wpList_load_mid rfl 41 (.tmp 16) rfl g 0 rfl (w32 H) (.array 8 40) HB.out.1 Tryd.underlying41 rfl HI.out.2.1 ?_) | (refine wpList_store_row rfl 41 (.tmp 5) (.tmp 17) rfl _ _ rfl rfl 41 (List.replicate 8 (Value.int .u32 0)).toArray (heap_alloc_last _ _) HI.out.2.2 HS.out.2 (all_oneCell_toArray (w32_one _)) ?_; rw [World.setRow_alloc_new]; generalize hW3 : World.alloc w2 _ = w3; have HC := Lib.hid (after3 HB.out hW3.symm); clear hW3))
  have HR0 : Rnd w g w1.heap.size w2.heap.size H wait held size (Sh.rounds (Sh.spread wait) H 0) w3 := HC.out
  have HR := Lib.hid HR0
  clear HR0 HC HB HA
  generalize w1.heap.size = bw at HR ⊢
  generalize w2.heap.size = bv at HR ⊢
  go_loopw [18] (fun i wr => ∃ (k : Nat), k ≤ 64 ∧ i = .int .i64 k ∧ Hid (Rnd w g bw bv H wait held size (Sh.rounds (Sh.spread wait) H k) wr)) (fun i _ => 64 - (intOf i).toNat)
  case atStart => exact ⟨0, by omega, rfl, HR⟩
  case round =>
    obtain ⟨k, hk, rfl, hr⟩ := hrel
    by_cases hlk : k < 64
    · have hR := hr.out
      obtain ⟨v0, v1, v2, v3, v4, v5, v6, v7, hv⟩ := eight _ (Sh.rounds_length (Sh.spread wait) H hH k)
      have F := hR.facts hlk hv
      obtain ⟨c0, c1, c2, c3, c4, c5, c6, c7, ck, cw⟩ := F
      generalize hx : Sh.cubes.getD k 0 = x at ck
      generalize hy : (Sh.spread wait).getD k 0 = y at cw
      have HXY := Lib.hid (And.intro hx.symm hy.symm)
      have HV := Lib.hid hv
      clear hR hx hy hv
      have j5 : (0 : Int) ≤ (k : Int) := by omega
      have j6 : (k : Int) < 64 := by omega
      have hadd := w_add
      have hand := w_and
      have hxor := w_xor
      have hnot := w_not
      go_upto_region 5 with fail
      go_quiet (fail)
      have hr2 := hr.out.drewN nq
      clear c0 c1 c2 c3 c4 c5 c6 c7 ck cw hr
      generalize wr.drewN nq = wq at hr2 ⊢
      obtain ⟨c0, c1, c2, c3, c4, c5, c6, c7, ck, cw⟩ := hr2.facts hlk HV.out
      rw [← HXY.out.1] at ck
      rw [← HXY.out.2] at cw
      have HR2 := Lib.hid hr2
      clear hr2
      go_upto_region 6 with fail
      go_quiet ((go_at_call 19; exact Calls.quiet_of_same (rotq_any _ _ (by decide) _)))
      have hr3 := HR2.out.drewN nq
      clear c0 c1 c2 c3 c4 c5 c6 c7 ck cw HR2
      generalize wq.drewN nq = wp at hr3 ⊢
      obtain ⟨c0, c1, c2, c3, c4, c5, c6, c7, ck, cw⟩ := hr3.facts hlk HV.out
      rw [← HXY.out.1] at ck
      rw [← HXY.out.2] at cw
      have HR3 := Lib.hid hr3
      clear hr3
      go_upto_region 7 with fail
      go_quiet ((go_at_call 19; exact Calls.quiet_of_same (rotq_any _ _ (by decide) _)))
      have hr4 := HR3.out.drewN nq
      clear c0 c1 c2 c3 c4 c5 c6 c7 ck cw HR3
      generalize wp.drewN nq = wo at hr4 ⊢
      generalize hT1 : Sh.ad (Sh.ad (Sh.ad (Sh.ad v7 (Sh.xo (Sh.xo (Sh.rot v4 6) (Sh.rot v4 11)) (Sh.rot v4 25))) (Sh.xo (Sh.an v4 v5) (Sh.an (Sh.nt v4) v6))) x) y = T1
      generalize hT2 : Sh.ad (Sh.xo (Sh.xo (Sh.rot v0 2) (Sh.rot v0 13)) (Sh.rot v0 22)) (Sh.xo (Sh.xo (Sh.an v0 v1) (Sh.an v0 v2)) (Sh.an v1 v2)) = T2
      have HT := Lib.hid (And.intro hT1 hT2)
      clear hT1 hT2
      rw [HV.out] at hr4
      have hvb := hr4.2.2.2.2.1
      have HR4 := Lib.hid hr4
      clear hr4
      have hsrc : ∀ j v, (w32 [v0, v1, v2, v3, v4, v5, v6])[j]? = some v → wo.cell? ((⟨bv, 0, none⟩ : Addr).add j) = some v := fun j v hj => by
        have hl : j < 7 := by have := (List.getElem?_eq_some_iff.1 hj).1; rwa [w32_length] at this
        rw [Addr.add_mid, Nat.zero_add, cell_arr hvb, ← hj]
        match j, hl with
        | 0, _ => rfl
        | 1, _ => rfl
        | 2, _ => rfl
        | 3, _ => rfl
        | 4, _ => rfl
        | 5, _ => rfl
        | 6, _ => rfl
      have HSRC := Lib.hid (And.intro hsrc hvb)
      clear hsrc hvb
      go_upto_region 8 with fail
      go_region_law (refine step_copy_to rfl (.tmp 79) (.tmp 80) 51 51 rfl 40 Tryd.underlying51 size40 bv 1 7 7 ⟨bv, 0, none⟩ 7 8 rfl rfl (w32 [v0, v1, v2, v3, v4, v5, v6, v7]).toArray 41 HSRC.out.2 (w32 [v0, v1, v2, v3, v4, v5, v6]) rfl HSRC.out.1 (Nat.le_refl 8) (w32_one _) (w32 [v0, v0, v1, v2, v3, v4, v5, v6]).toArray rfl ?_)
      have hr5 := (HR4.out.drewN 1).row hgl [v0, v0, v1, v2, v3, v4, v5, v6]
      rw [show wo.drewN 1 = wo.drew from rfl] at hr5
      clear HR4 HSRC
      generalize wo.drew.setRow bv _ = w5 at hr5 ⊢
      obtain ⟨d4, f4⟩ := hr5.cell 4 (show 4 < 8 by decide)
      obtain ⟨d0, f0⟩ := hr5.cell 0 (show 0 < 8 by decide)
      have hr6 := (hr5.set hgl 4 (Sh.ad v3 T1)).set hgl 0 (Sh.ad T1 T2)
      have e : ([v0, v0, v1, v2, v3, v4, v5, v6].set 4 (Sh.ad v3 T1)).set 0 (Sh.ad T1 T2) = Sh.rounds (Sh.spread wait) H (k + 1) := by
        rw [show Sh.rounds (Sh.spread wait) H (k + 1) = Sh.rnd (Sh.cubes.getD k 0) ((Sh.spread wait).getD k 0) (Sh.rounds (Sh.spread wait) H k) from rfl, HV.out, ← HXY.out.1, ← HXY.out.2, ← HT.out.1, ← HT.out.2]
        rfl
      rw [e] at hr6
      have HR6 := Lib.hid hr6
      clear hr6 hr5 e
      simp only [List.getD_cons_zero, List.getD_cons_succ] at d4 d0
      clear hxor hand hnot
      go_wp2
      go_roundw
      case rel => exact ⟨k + 1, by omega, by go_num, HR6.out⟩
      case measure => simp [intOf]; omega
    · have hk64 : k = 64 := by omega
      subst hk64
      go_wp2_with fail
      have hf0 := (hr.out).fin2 hH hgl
      have HF0 := Lib.hid hf0
      clear hf0 hr
      have hcast : ((64 : Nat) : Int) = (64 : Int) := rfl
      rw [hcast]
      clear hcast
      generalize hR : Sh.rounds (Sh.spread wait) H 64 = R at HF0
      have hRl : R.length = 8 := by rw [← hR]; exact Sh.rounds_length _ _ hH _
      have HR := Lib.hid hR
      clear hR
      obtain ⟨wo, hwo⟩ : ∃ wo : World, wo = wr := ⟨_, rfl⟩
      clear hwo wo
      go_loopw [92] (fun i wr => ∃ (k : Nat), k ≤ 8 ∧ i = .int .i64 k ∧ Hid (Fin2 w g bv H R wait held size k wr)) (fun i _ => 8 - (intOf i).toNat)
      case atStart => exact ⟨0, by omega, rfl, HF0⟩
      case round =>
        obtain ⟨k, hk, rfl, hr⟩ := hrel
        by_cases hlk2 : k < 8
        · obtain ⟨cg, fg, cv⟩ := hr.out.facts hlk2 hH hRl
          have hne : g ≠ bv := by have := hr.out.2.2.2; omega
          generalize hx : H.getD k 0 = x at cg
          generalize hy : R.getD k 0 = y at cv
          have HXY := Lib.hid (And.intro hx.symm hy.symm)
          clear hx hy
          have j5 : (0 : Int) ≤ (k : Int) := by omega
          have j6 : (k : Int) < 8 := by omega
          have hadd := w_add
          go_upto_region 15 with fail
          go_region
          have hr2 := (hr.out.set hlk2 hH hRl).drewN 1
          rw [← HXY.out.1, ← HXY.out.2] at hr2
          have HE := Lib.hid hr2
          clear hr2 hr hadd
          go_wp2
          go_roundw
          case rel => exact ⟨k + 1, by omega, by go_num, HE.out⟩
          case measure => simp [intOf]; omega
        · have hk8 : k = 8 := by omega
          subst hk8
          go_wp2_with fail
          go_end0
          have hf := hr.out
          have he : Sh.mix H wait = List.zipWith Sh.ad H R := by rw [← HR.out]; rfl
          rw [he, ← part_full hH hRl]
          exact ⟨rfl, hf.1, hf.2.2.1⟩
end Go.Proofs.YtmgpgjookiknkaaDoor
