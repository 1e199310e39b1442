/- The sum of what was written: the contract of Sum, for every state. -/
import Derived.Test.YtmgpgjookiknkaaDoorD
import Derived.Laws.BytesArg
import Derived.OwnWalk
import Derived.Deep.AppendLies
namespace Go.Proofs.YtmgpgjookiknkaaDoor
open Go.RowKit

theorem info5 : (Tryd.prog.info? 5).map (fun i => (i.zero, i.size, i.bytes)) = some (some (.int .u8 0), 1, 1) := by kernel_rfl
theorem size45 : (Tryd.prog.info? 45).map (·.size) = some 74 := by kernel_rfl
theorem size41 : (Tryd.prog.info? 41).map (·.size) = some 8 := by kernel_rfl

theorem zero45 (w : World) : (zeroValue 45).run Tryd.prog w = .ok (.agg (hcells (List.replicate 8 0) (List.replicate 64 0) 0 0).toArray) w :=
  (zero_of_info (P := Tryd.prog) (t := 45) (n := 74) (by kernel_rfl)).1 w
/-- A text of bytes. -/
def tx (l : List Nat) : ByteArray := strOfNums (l.map fun x : Nat => (x : Int))
theorem bl_tx {l : List Nat} (h : ∀ x ∈ l, x < 256) : bl (tx l) = l := by
  unfold bl tx
  rw [strOfNums_data, List.map_map, List.map_map]
  conv => rhs; rw [← List.map_id l]
  refine List.map_congr_left fun x hx => ?_
  have := h x hx
  simp [UInt8.toNat_ofNat]
  omega
theorem tx_size (l : List Nat) : (tx l).size = l.length := by simp [tx, strOfNums_size]
/-- A slice of bytes made a text. -/
theorem conv8 {w : World} {g n cap : Nat} {l : List Nat} (hl : l.length = n) (hc : ∀ i, i < n → w.cell? ⟨g, i, none⟩ = (w8 l)[i]?) :
    (convert 33 9 (.slice (some ⟨g, 0, none⟩) n cap)).run Tryd.prog w = .ok (.string (tx l)) w := by
  refine run_convert_bytes_arg w 33 5 Tryd.underlying33 Tryd.underlying5 g 0 n cap _ (by simpa using hl) (fun i hi => ?_) 9 Tryd.underlying9
  rw [Nat.zero_add, hc i hi, w8_get (by omega)]
  simp [show i < l.length by omega]
theorem own_full {w : World} {base g n : Nat} {xs : List Value} (h : w.ownsRow base 5 1 (.slice (some ⟨g, 0, none⟩) n n) n xs) : w.heap[g]? = some (.cells xs.toArray 5 (0, 0)) := by
  obtain ⟨_, h | ⟨g', cap, cur, he, _, hg, _, _, hs, ht⟩⟩ := h
  · cases h.1
  · simp only [Value.slice.injEq, Option.some.injEq, Addr.mk.injEq] at he
    obtain ⟨⟨rfl, _⟩, _, rfl⟩ := he
    rw [List.take_of_length_le (by simp [hs])] at ht
    rw [hg, ← ht]
theorem run_index_words (ws : List Nat) (h : ws.length = 8) (k : Nat) (hk : k < 8) (w : World) : (Instr.index 41 (.agg (w32 ws).toArray) (.int .i64 (k : Int))).run Tryd.prog w = .ok (.int .u32 ((ws.getD k 0 : Nat) : Int)) w := by
  obtain ⟨a, b, c, d, e, f, g, i, rfl⟩ := eight ws h
  have hk8 : k = 0 ∨ k = 1 ∨ k = 2 ∨ k = 3 ∨ k = 4 ∨ k = 5 ∨ k = 6 ∨ k = 7 := by omega
  rcases hk8 with rfl | rfl | rfl | rfl | rfl | rfl | rfl | rfl <;> (show _ = _; kernel_rfl)

theorem wrap8_nat (a : Nat) : IntKind.u8.wrap (a : Int) = ((a % 256 : Nat) : Int) := by
  unfold IntKind.wrap
  simp [IntKind.bits, IntKind.signed]
theorem wrap64_nat (a : Nat) : IntKind.u64.wrap (a : Int) = ((a % 18446744073709551616 : Nat) : Int) := by
  unfold IntKind.wrap
  simp [IntKind.bits, IntKind.signed]

/-- The bytes behind the message, of the last eight k. -/
def tl (held n k : Nat) : List Nat := 128 :: (List.replicate (Sh.zeros held) 0 ++ ((Sh.len8 n).take k ++ List.replicate (8 - k) 0))
theorem len8_length (n : Nat) : (Sh.len8 n).length = 8 := by simp [Sh.len8]
theorem tl_length (held n k : Nat) (hk : k ≤ 8) : (tl held n k).length = Sh.zeros held + 9 := by
  simp [tl, len8_length]; omega
theorem tl_full (held n : Nat) : tl held n 8 = Sh.tail held n := by
  unfold tl Sh.tail
  rw [List.take_of_length_le (by rw [len8_length]; omega)]
  simp
theorem tl_set (held n k : Nat) (hk : k < 8) : (tl held n k).set (Sh.zeros held + 1 + k) (n * 8 % 18446744073709551616 / 2 ^ (56 - 8 * k) % 256) = tl held n (k + 1) := by
  unfold tl
  rw [show Sh.zeros held + 1 + k = (Sh.zeros held + k) + 1 by omega, List.set_cons_succ, List.set_append_right _ _ (by simp), List.length_replicate, show Sh.zeros held + k - Sh.zeros held = k by omega]
  rw [List.set_append_right _ _ (by rw [List.length_take, len8_length]; omega), List.take_succ_eq_append_getElem (by rw [len8_length]; exact hk)]
  have e : ((Sh.len8 n).take k).length = k := by rw [List.length_take, len8_length]; omega
  obtain ⟨m, hm⟩ : ∃ m, 8 - k = m + 1 := ⟨7 - k, by omega⟩
  rw [e, Nat.sub_self, hm, List.replicate_succ, List.set_cons_zero, show 8 - (k + 1) = m by omega, List.append_assoc]
  congr 4
  simp [Sh.len8]
theorem tl_zero (held n : Nat) : w8 (tl held n 0) = (madeCells #[Value.int .u8 0] ((Sh.zeros held + 9) * 1)).toList.set 0 (.int .u8 128) := by
  rw [Nat.mul_one, toList_madeCells_one, show Sh.zeros held + 9 = (Sh.zeros held + 8) + 1 by omega, List.replicate_succ, List.set_cons_zero]
  unfold tl w8
  rw [List.take_zero, List.nil_append, List.replicate_append_replicate, List.map_cons, List.map_replicate]
  rfl
theorem tail_lt (held n : Nat) : ∀ x ∈ Sh.tail held n, x < 256 := by
  intro x hx
  simp only [Sh.tail, Sh.len8, List.mem_cons, List.mem_append, List.mem_replicate, List.mem_map, List.mem_range] at hx
  rcases hx with rfl | ⟨_, rfl⟩ | ⟨i, _, rfl⟩ <;> omega
theorem bytes_lt (H : List Nat) : ∀ x ∈ Sh.bytes H, x < 256 := by
  intro x hx
  simp only [Sh.bytes, List.mem_flatMap, List.mem_cons, List.not_mem_nil, or_false] at hx
  obtain ⟨y, _, rfl | rfl | rfl | rfl⟩ := hx <;> omega
theorem IsHash.mk0 {w : World} {g : Nat} {s : Sh.St} {n : Nat} (hok : s.ok) {wait : List Nat} (hw : wait.length = 64) (ht : wait.take s.pend.length = s.pend) (h : w.heap[g]? = some (.cells (hcells s.H wait s.pend.length n).toArray 45 (0, 0))) : IsHash w g s n :=
  ⟨hok, wait, hw, ht, h⟩

/-- While the last bytes are laid: k are done. -/
def SumR (w : World) (eb tb : Nat) (H wait : List Nat) (q n k : Nat) (wr : World) : Prop :=
  HashAt wr eb H wait q n ∧ wr.heap[tb]? = some (.cells (w8 (tl q n k)).toArray 5 (0, 0)) ∧ Below w.heap.size w wr ∧ w.heap.size ≤ eb ∧ eb < tb
theorem madeTail {w w2 : World} {g : Nat} {H wait : List Nat} {q n : Nat} (ha : HashAt w g H wait q n)
    (hown : w2.ownsRow w.heap.size 5 1 (.slice (some ⟨(w.alloc (.cells (hcells H wait q n).toArray 45)).heap.size, 0, none⟩) (Sh.zeros q + 9) (Sh.zeros q + 9)) (Sh.zeros q + 9) (madeCells #[Value.int .u8 0] ((Sh.zeros q + 9) * 1)).toList)
    (hgrow : (w.alloc (.cells (hcells H wait q n).toArray 45)).grownBy w2 none) :
    w2.cell? ⟨w.heap.size + 1, 0, none⟩ = some (.int .u8 0) ∧ w2.frozen? ⟨w.heap.size + 1, 0, none⟩ = false ∧ SumR w w.heap.size (w.heap.size + 1) H wait q n 0 (w2.setCell ⟨w.heap.size + 1, 0, none⟩ (.int .u8 128)) := by
  have es : (w.alloc (.cells (hcells H wait q n).toArray 45)).heap.size = w.heap.size + 1 := by simp
  rw [es] at hown
  have hg := own_full hown
  have hb : Below w.heap.size w w2 := ((Below.refl _ w).alloc (Nat.le_refl _) _).grown hgrow (by rw [es]; omega) (fun k h => by cases h)
  have he : w2.heap[w.heap.size]? = some (.cells (hcells H wait q n).toArray 45 (0, 0)) := by
    rw [hgrow.block _ (by rw [es]; omega) (by intro h; cases h)]; exact heap_alloc_last _ _
  have hl : (madeCells #[Value.int .u8 0] ((Sh.zeros q + 9) * 1)).toList = Value.int .u8 0 :: List.replicate (Sh.zeros q + 8) (.int .u8 0) := by
    rw [Nat.mul_one, toList_madeCells_one, show Sh.zeros q + 9 = (Sh.zeros q + 8) + 1 by omega, List.replicate_succ]
  refine ⟨?_, free_arr hg 0, ⟨ha.1, ha.2.1, ?_⟩, ?_, ?_, Nat.le_refl _, Nat.lt_succ_self _⟩
  · rw [cell_arr hg, hl]; rfl
  · rw [Below.heap_setCell _ _ _ _ (by show w.heap.size ≠ w.heap.size + 1; omega)]; exact he
  · rw [heap_set hg, tl_zero, List.setIfInBounds_toArray]
  · exact hb.setCell (p := ⟨w.heap.size + 1, 0, none⟩) (by show w.heap.size ≤ w.heap.size + 1; omega) _

theorem SumR.step {w wr : World} {eb tb : Nat} {H wait : List Nat} {q n k : Nat} (h : SumR w eb tb H wait q n k wr) (hk : k < 8) :
    SumR w eb tb H wait q n (k + 1) (wr.setCell ⟨tb, 1 + Sh.zeros q + k, none⟩ (.int .u8 ((n : Int) * 8 % 18446744073709551616 / 2 ^ (56 - 8 * k) % 256))) := by
  obtain ⟨h1, h2, h3, h4, h5⟩ := h
  refine ⟨⟨h1.1, h1.2.1, ?_⟩, ?_, h3.setCell (p := ⟨tb, _, none⟩) (by show w.heap.size ≤ tb; omega) _, h4, h5⟩
  · rw [Below.heap_setCell _ _ _ _ (by show eb ≠ tb; omega)]; exact h1.2.2
  · have e : (n : Int) * 8 % 18446744073709551616 / 2 ^ (56 - 8 * k) % 256 = ((n * 8 % 18446744073709551616 / 2 ^ (56 - 8 * k) % 256 : Nat) : Int) := by
      rw [Int.natCast_emod, Int.natCast_ediv, Int.natCast_emod, Int.natCast_mul, Int.natCast_pow]; rfl
    rw [heap_set h2, e, ← tl_set q n k hk, List.setIfInBounds_toArray, show 1 + Sh.zeros q + k = Sh.zeros q + 1 + k by omega]
    congr 3
    unfold w8
    rw [List.map_set]
theorem afterWrite {w wr w5 : World} {eb : Nat} {st s2 : Sh.St} {n m : Nat} (he : eb = w.heap.size) (hh : IsHash wr eb st n) (hb : Below w.heap.size w wr) (h5 : IsHash w5 eb s2 m) (ho : OnlyB wr.heap.size eb wr w5) :
    w5.rangeAt eb 0 (w32 s2.H) ∧ s2.H.length = 8 ∧ Below w.heap.size w w5 ∧ w.heap.size ≤ w5.heap.size := by
  obtain ⟨hok, wait, hw, ht, hg⟩ := h5
  have hbb : Below w.heap.size w w5 := hb.trans (ho.below (by omega) hb.size)
  refine ⟨fun j v hv => ?_, hok.1, hbb, hbb.size⟩
  have hj : j < s2.H.length := by have := (List.getElem?_eq_some_iff.1 hv).1; rwa [w32_length] at this
  rw [w32_get hj] at hv
  rw [Nat.zero_add, cell_arr hg, hcells_word _ _ hj]
  exact hv
theorem afterMake {w w5 w6 : World} {eb : Nat} {H : List Nat} (h : w5.rangeAt eb 0 (w32 H) ∧ H.length = 8 ∧ Below w.heap.size w w5 ∧ w.heap.size ≤ w5.heap.size) (hg : w5.grownBy w6 none) :
    w6.rangeAt eb 0 (w32 H) ∧ (Tryd.prog.info? 41).map (·.size) = some (w32 H).length ∧ Below w.heap.size w w6 :=
  ⟨fun j v hv => hg.cell (h.1 j v hv) (by intro e; cases e), by rw [w32_length, h.2.1]; exact size41, h.2.2.1.grown hg h.2.2.2 (fun k e => by cases e)⟩

theorem wpList_bytes4 {w : World} {ops : Array Oper} {rest : List Oper} {o : Oper} {a : Act} {Q : Exit → Act → World → Prop} (hg : o.guard = none) (p q r s : Operand)
    (hop : o.op = Op.buildSlice 33 4 #[(0, p), (1, q), (2, r), (3, s)]) (a0 a1 a2 a3 : Int) (h0 : a.eval p = .int .u8 a0) (h1 : a.eval q = .int .u8 a1) (h2 : a.eval r = .int .u8 a2) (h3 : a.eval s = .int .u8 a3)
    (h : wpList Tryd.prog ops Q rest (a.put o.dst (.slice (some ⟨w.heap.size, 0, none⟩) 4 4)) (w.alloc (.cells #[.int .u8 a0, .int .u8 a1, .int .u8 a2, .int .u8 a3] 5))) : wpList Tryd.prog ops Q (o :: rest) a w := by
  refine wpList_plain hg fun K hK => ?_
  have hrun : (Instr.buildSlice 33 4 #[(0, .int .u8 a0), (1, .int .u8 a1), (2, .int .u8 a2), (3, .int .u8 a3)]).run Tryd.prog w = .ok (.slice (some ⟨w.heap.size, 0, none⟩) 4 4) (w.alloc (.cells #[.int .u8 a0, .int .u8 a1, .int .u8 a2, .int .u8 a3] 5)) := by kernel_rfl
  unfold Oper.wp
  simp only [execOp, hop, List.map_toArray, List.map_cons, List.map_nil, h0, h1, h2, h3, hrun, Result.andThen, Sem.run_bind, Sem.run_pure]
  exact hK _ _ h

set_option maxRecDepth 100000 in
set_option maxHeartbeats 1600000 in
theorem sum_any (g : Nat) (w : World) (st : Sh.St) (n : Nat) (hh : IsHash w g st n) (hL : Laid w) (hn : n ≤ 1152921504606846976) :
    Calls Tryd.prog 13 #[.pointer (some ⟨g, 0, none⟩)] w fun e w' =>
      e = .returned (.string (tx (Sh.sum st n))) ∧ Below w.heap.size w w' := by
  obtain ⟨wait, ht, ha⟩ := hh.open
  have hok := hh.1
  obtain ⟨c72, f72, c73, f73⟩ := ha.facts
  obtain ⟨i0, hi, hz0, hz1, hz2⟩ := info_parts info5
  have hgl := lt_of_block ha.2.2
  obtain ⟨q, hq⟩ : ∃ q, q = st.pend.length := ⟨_, rfl⟩
  rw [← hq] at c72 ha ht
  have hq64 : q < 64 := by rw [hq]; exact hok.2
  have hI : (Tryd.prog.info? 45).map (·.size) = some (hcells st.H wait q n).toArray.size := by
    rw [List.size_toArray, hcells_length ha.1 ha.2.1]; exact size45
  have hO : (hcells (List.replicate 8 0) (List.replicate 64 0) 0 0).toArray.size = (hcells st.H wait q n).toArray.size := by
    rw [List.size_toArray, List.size_toArray, hcells_length ha.1 ha.2.1]; rfl
  have h1 : (hcells st.H wait q n).toArray.all (·.oneCell') = true := all_oneCell_toArray (fun v hv => by
    simp only [hcells, List.mem_append, List.mem_cons, List.not_mem_nil, or_false] at hv
    rcases hv with hv | hv | rfl | rfl
    · exact w32_one _ v hv
    · exact w8_one _ v hv
    · rfl
    · rfl)
  have HA := Lib.hid (And.intro ha (And.intro hok (And.intro ht (And.intro hL (And.intro hq (And.intro hI (And.intro hO h1)))))))
  have HN := Lib.hid hn
  have hz45 := zero45
  have hzq : (119 - (q : Int)) % 64 = ((Sh.zeros q : Nat) : Int) := by unfold Sh.zeros; omega
  have hzl : Sh.zeros q < 64 := Nat.mod_lt _ (by decide)
  have HZ : Hid ((1 + ((Sh.zeros q : Nat) : Int) + 8 = ((Sh.zeros q + 9 : Nat) : Int)) ∧ 1 * (Sh.zeros q + 9) ≤ 281474976710656 ∧ Sh.zeros q + 9 ≤ maxLen) := ⟨by omega, by omega, by unfold maxLen; omega⟩
  clear ha hok ht hL hq hI hO h1 hh hn
  go_enter Tryd.func13, Tryd.ntmps13
  go_wp2_with (first | (refine wpList_load_row rfl 45 (.tmp 11) rfl g rfl 45 (hcells st.H wait q n).toArray (0, 0) _ HA.out.1.2.2 Tryd.underlying45 rfl HA.out.2.2.2.2.2.1 ?_) | (refine wpList_store_row rfl 45 (.tmp 3) (.tmp 12) rfl _ _ rfl rfl 45 (hcells (List.replicate 8 0) (List.replicate 64 0) 0 0).toArray (heap_alloc_last _ _) HA.out.2.2.2.2.2.1 HA.out.2.2.2.2.2.2.1 HA.out.2.2.2.2.2.2.2 ?_; rw [World.setRow_alloc_new]) | (refine wpList_make_full _ rfl (.tmp 21) (.tmp 21) 33 rfl w.heap.size 5 i0 (.int .u8 0) 1 Tryd.underlying33 hi hz0 hz1 .i64 .i64 _ _ (Sh.zeros q + 9) rfl rfl HZ.out.1 HZ.out.1 (by rw [hz2]; exact HZ.out.2.1) HZ.out.2.2 (by simp) ?_; intro w2 hown2 hgrow2; obtain ⟨x0, y0, h2⟩ := madeTail HA.out.1 hown2 hgrow2; have H2 := Lib.hid h2; clear h2 hown2 hgrow2))
  clear HZ
  generalize w.heap.size + 1 = tb at H2 x0 y0 ⊢
  have hwb : ∃ eb, eb = w.heap.size := ⟨_, rfl⟩
  obtain ⟨eb, heb⟩ := hwb
  have HEB := Lib.hid heb
  rw [← heb] at H2 ⊢
  clear heb
  generalize w2.setCell ⟨tb, 0, none⟩ (.int .u8 128) = w3 at H2 ⊢
  clear x0 y0
  go_loopw [25] (fun i wr => ∃ (k : Nat), k ≤ 8 ∧ i = .int .i64 k ∧ Hid (SumR w eb tb st.H wait q n k wr)) (fun i _ => 8 - (intOf i).toNat)
  case atStart => exact ⟨0, by omega, rfl, H2⟩
  case round =>
    obtain ⟨k, hk, rfl, hr⟩ := hrel
    by_cases hlk : k < 8
    · have hr0 := hr.out
      have c73' : wr.cell? ⟨g, 73, none⟩ = some (.int .u64 (n : Int)) := (hr0.2.2.1.cell (p := ⟨g, 73, none⟩) hgl).trans c73
      have cx : ∃ u, wr.cell? ⟨tb, 1 + Sh.zeros q + k, none⟩ = some u := ⟨(w8 (tl q n k))[1 + Sh.zeros q + k]'(by rw [w8_length, tl_length _ _ _ (by omega)]; omega), by rw [cell_arr hr0.2.1]; simp⟩
      obtain ⟨u, cx⟩ := cx
      have fx := free_arr hr0.2.1 (1 + Sh.zeros q + k)
      clear hr0
      have hmul : IntKind.u64.wrap ((n : Int) * 8) = ((n * 8 % 18446744073709551616 : Nat) : Int) := by
        have := wrap64_nat (n * 8)
        rw [Int.natCast_mul] at this
        exact this
      have j5 : (0 : Int) ≤ (k : Int) := by omega
      have j6 : (k : Int) < 8 := by omega
      have j7 : 1 + ((Sh.zeros q : Nat) : Int) + (k : Int) < ((Sh.zeros q + 9 : Nat) : Int) := by omega
      have j8 : (0 : Int) ≤ 56 - 8 * (k : Int) := by omega
      have j9 : 56 - 8 * (k : Int) ≤ 64 := by omega
      go_wp2
      go_roundw
      case rel => exact ⟨k + 1, by omega, by go_num, hr.out.step hlk⟩
      case measure => simp [intOf]; omega
    · have hk8 : k = 8 := by omega
      subst hk8
      have hr0 := hr.out
      have hcv := conv8 (w := wr) (g := tb) (n := Sh.zeros q + 9) (cap := Sh.zeros q + 9) (l := tl q n 8) (tl_length _ _ _ (Nat.le_refl _)) (fun i hi => cell_arr hr0.2.1 i)
      rw [tl_full] at hcv
      have hLw : Laid wr := HA.out.2.2.2.1.below hr0.2.2.1 HA.out.2.2.2.1.1
      have he0 : 0 < eb := by rw [HEB.out]; exact HA.out.2.2.2.1.1
      have hih : IsHash wr eb st n := IsHash.mk0 HA.out.2.1 hr0.1.2.1 (by rw [← HA.out.2.2.2.2.1]; exact HA.out.2.2.1) (by rw [← HA.out.2.2.2.2.1]; exact hr0.1.2.2)
      have hbd : n + (tx (Sh.tail q n)).size ≤ 4611686018427387904 := by
        have h1 := tl_length q n 8 (Nat.le_refl _)
        have h2 := HN.out
        rw [tl_full] at h1
        rw [tx_size]; omega
      have HW := Lib.hid (And.intro hih (And.intro hLw (And.intro hbd hr0.2.2.1)))
      clear hr0 hLw hih hbd
      go_wp2_with (first | ((refine (write_any eb _ st n (tx (Sh.tail q n)) HW.out.1 HW.out.2.1 he0 HW.out.2.2.1).mono ?_); rintro e w5 ⟨rfl, hh5, ho5⟩; have H5 := Lib.hid (afterWrite HEB.out HW.out.1 HW.out.2.2.2 hh5 ho5); clear hh5 ho5) | (refine wpList_make_own _ rfl _ _ 33 rfl w.heap.size 5 i0 (.int .u8 0) 1 Tryd.underlying33 hi hz0 hz1 .i64 .i64 _ 32 rfl rfl rfl (by rw [hz2]; decide) (by unfold maxLen; decide) H5.out.2.2.2 ?_; intro w6 hown6 hgrow6; have H6 := Lib.hid (afterMake H5.out hgrow6); clear hgrow6) | (refine wpList_load_mid rfl 41 (.tmp 49) rfl eb 0 rfl (w32 (Sh.write st (bl (tx (Sh.tail q n)))).H) (.array 8 40) H6.out.1 Tryd.underlying41 rfl H6.out.2.1 ?_))
      have hob := hown6.lt w5.heap.size rfl
      generalize w5.heap.size = ob at hown6 hob ⊢
      have hown60 := Lib.hid hown6
      clear hown6
      generalize hW : (Sh.write st (bl (tx (Sh.tail q n)))).H = W5 at H6 ⊢
      have hWl : W5.length = 8 := by rw [← hW]; exact (Sh.write_ok HA.out.2.1 _).1
      have HWE := Lib.hid hW
      clear hW
      go_loopw [51, 7] (fun i v wr => ∃ (k : Nat), k ≤ 8 ∧ i = .int .i64 k ∧ v = .slice (some ⟨ob, 0, none⟩) (4 * k) 32 ∧ Hid (wr.ownsRow w.heap.size 5 1 (.slice (some ⟨ob, 0, none⟩) (4 * k) 32) (4 * k) (w8 (Sh.bytes (W5.take k)))) ∧ Hid (Below w.heap.size w wr)) (fun i _ _ => 8 - (intOf i).toNat)
      case atStart => exact ⟨0, by omega, rfl, rfl, hown60, H6.out.2.2⟩
      case round =>
        obtain ⟨k, hk, rfl, rfl, hown, hb⟩ := hrel
        by_cases hlk2 : k < 8
        · have hidx := run_index_words W5 hWl k hlk2
          generalize hx : W5.getD k 0 = x at hidx
          have HX := Lib.hid hx
          clear hx
          have d1 : (x : Int) / 16777216 % 256 = ((x / 16777216 % 256 : Nat) : Int) := by omega
          have d2 : (x : Int) / 65536 % 256 = ((x / 65536 % 256 : Nat) : Int) := by omega
          have d3 : (x : Int) / 256 % 256 = ((x / 256 % 256 : Nat) : Int) := by omega
          have d4 : (x : Int) % 256 = ((x % 256 : Nat) : Int) := by omega
          have hbs : w8 (Sh.bytes (W5.take k)) ++ [Value.int .u8 ((x : Int) / 16777216 % 256), Value.int .u8 ((x : Int) / 65536 % 256), Value.int .u8 ((x : Int) / 256 % 256), Value.int .u8 ((x : Int) % 256)] = w8 (Sh.bytes (W5.take (k + 1))) := by
            have e := List.take_succ_eq_append_getElem (l := W5) (i := k) (by omega)
            have e2 : W5[k]'(by omega) = x := by rw [← HX.out]; simp [List.getD_eq_getElem?_getD, show k < W5.length by omega]
            rw [e, e2, d1, d2, d3, d4]
            unfold w8 Sh.bytes
            rw [List.flatMap_append, List.map_append]
            rfl
          have HBS := Lib.hid hbs
          clear hbs d1 d2 d3 d4
          go_wp2_with (first | (refine wpList_bytes4 rfl (.tmp 57) (.tmp 60) (.tmp 63) (.tmp 65) rfl _ _ _ _ rfl rfl rfl rfl ?_) | (at_builtin; refine wpList_append_fits _ rfl (.tmp 54) (.tmp 66) 33 rfl w.heap.size 5 i0 1 Tryd.underlying33 hi hz1 ob (4 * k) 32 (w8 (Sh.bytes (W5.take k))) rfl ?c1 ⟨wr.heap.size, 0, none⟩ 4 4 [Value.int .u8 ((x : Int) / 16777216 % 256), Value.int .u8 ((x : Int) / 65536 % 256), Value.int .u8 ((x : Int) / 256 % 256), Value.int .u8 ((x : Int) % 256)] rfl rfl ?c2 ?c3 ?c4 ?c5))
          case c1 => exact hown.out.alloc _
          case c2 => exact World.news_of_block (cs := #[Value.int .u8 ((x : Int) / 16777216 % 256), Value.int .u8 ((x : Int) / 65536 % 256), Value.int .u8 ((x : Int) / 256 % 256), Value.int .u8 ((x : Int) % 256)]) (t := 5) (fr := (0, 0)) (heap_alloc_new wr _)
          case c3 => simp [Value.oneCell']
          case c4 => omega
          case c5 =>
            intro w7 hown7 hgrow7
            rw [HBS.out] at hown7
            have hb7 := hb.out.alloc hb.out.size (.cells #[Value.int .u8 ((x : Int) / 16777216 % 256), Value.int .u8 ((x : Int) / 65536 % 256), Value.int .u8 ((x : Int) / 256 % 256), Value.int .u8 ((x : Int) % 256)] 5)
            have hb8 := hb7.grown hgrow7 (by have := hb.out.size; simp; omega) (fun i hi => by have := hob.1; cases hi; exact this)
            have H7 := Lib.hid (And.intro hown7 hb8)
            clear hown7 hgrow7 hb7 hb8
            go_wp2
            go_roundw
            case rel => exact ⟨k + 1, by omega, by go_num, rfl, H7.out.1, H7.out.2⟩
            case measure => simp [intOf]; omega
        · have hk8 : k = 8 := by omega
          subst hk8
          have hcv2 := conv8 (w := wr) (g := ob) (n := 32) (cap := 32) (l := Sh.bytes W5) (by rw [Sh.bytes_length, hWl]) (fun i hi => by
            have := hown.out.cellAt i (by omega)
            rw [List.take_of_length_le (by omega)] at this
            exact this)
          go_wp2_with fail
          go_ret
          refine ⟨?_, hb.out⟩
          unfold Sh.sum
          rw [← HWE.out, bl_tx (tail_lt _ _), HA.out.2.2.2.2.1]
          rfl
end Go.Proofs.YtmgpgjookiknkaaDoor
