/- Text is written: the contract of Write, for every state and every text. -/
import Derived.Test.YtmgpgjookiknkaaDoorC
import Derived.Lib.BufferWrite
namespace Go.Proofs.YtmgpgjookiknkaaDoor
open Go.RowKit

/-- The bytes of a text. -/
def bl (s : ByteArray) : List Nat := s.data.toList.map UInt8.toNat
theorem bl_length (s : ByteArray) : (bl s).length = s.size := by unfold bl; rw [List.length_map, Array.length_toList]; rfl
theorem bl_extract (s : ByteArray) (n : Nat) : bl (s.extract n s.size) = (bl s).drop n := by
  unfold bl
  rw [ByteArray.data_extract, Array.toList_extract, List.extract_eq_take_drop, List.map_take, List.map_drop]
  rw [List.take_of_length_le]
  simp [← ByteArray.size_data]
theorem w8_one (l : List Nat) : ∀ v ∈ w8 l, v.oneCell' = true := by
  intro v hv
  simp only [w8, List.mem_map] at hv
  obtain ⟨x, _, rfl⟩ := hv
  rfl
/-- 'copy(dst, s)', s a text: as many bytes as there is room for. -/
theorem run_copy_text {P : Program} (w : World) (dT sT ty elem : TypeId) (g o dLen dCap : Nat) (s : ByteArray) (cur : Array Value) (t : TypeId)
    (hu : P.underlying dT = some (.slice elem)) (hs : (P.info? elem).map (·.size) = some 1) (hg : w.heap[g]? = some (.cells cur t (0, 0))) (n : Nat) (hn : n = Nat.min s.size dLen) (hfit : o + n ≤ cur.size) :
    (Builtin.copy_ #[dT, sT] ty #[.slice (some ⟨g, o, none⟩) dLen dCap, .string s]).run P w =
      .ok (goInt n) (w.setRow g (cur.toList.take o ++ w8 ((bl s).take n) ++ cur.toList.drop (o + n)).toArray) := by
  have hns : n ≤ s.size := by rw [hn]; exact Nat.min_le_left _ _
  have hlen : (w8 ((bl s).take n)).length = n := by rw [w8_length, List.length_take, bl_length]; omega
  have hst := run_storeCells_at P g o t (w8 ((bl s).take n)) 0 cur w hg (by rw [hlen]; simpa using hfit) (w8_one _)
  have htk : List.take n (List.map (fun b : UInt8 => Value.int IntKind.u8 (b.toNat : Int)) s.data.toList) = w8 ((bl s).take n) := by
    unfold w8 bl
    rw [List.map_take, List.map_map]
    rfl
  rw [hlen] at hst
  simp only [Nat.add_zero] at hst
  cases hq : P.info? elem with
  | none => simp [hq] at hs
  | some i =>
    simp [Builtin.copy_, run_underlying hu, Builtin.lenOf, Builtin.firstCells, sizeOf, typeInfo, hq, ← hn]
    rw [htk, hst]
    simp [Result.andThen]
theorem step_copy_text {P : Program} {ops : Array Oper} {o : Oper} {a : Act} {w : World} {K : Act → World → Prop} {Q : Exit → Act → World → Prop} {E : Prop} (hgd : o.guard = none) (d s : Operand) (dT sT : TypeId)
    (ho : o.op = .call { callee := .builtin .copy, args := #[d, s], argTypes := #[dT, sT] }) (elem : TypeId) (hu : P.underlying dT = some (.slice elem)) (hsz : (P.info? elem).map (·.size) = some 1)
    (g off dLen dCap : Nat) (x : ByteArray) (hd : a.eval d = .slice (some ⟨g, off, none⟩) dLen dCap) (hs : a.eval s = .string x)
    (cur : Array Value) (t : TypeId) (hg : w.heap[g]? = some (.cells cur t (0, 0))) (n : Nat) (hn : n = Nat.min x.size dLen) (hfit : off + n ≤ cur.size) (new : Array Value) (hnew : (cur.toList.take off ++ w8 ((bl x).take n) ++ cur.toList.drop (off + n)).toArray = new)
    (h : K (a.put o.dst (goInt n)) (w.setRow g new)) : if Region.wanted o (yielded ops a.tmps) = true then Oper.wp P o a w K Q else E := by
  have hw : Region.wanted o (yielded ops a.tmps) = true := by simp [Region.wanted, hgd]
  rw [if_pos hw]
  have hrun := run_copy_text (P := P) w dT sT o.type elem g off dLen dCap x cur t hu hsz hg n hn hfit
  rw [hnew] at hrun
  unfold Oper.wp
  simp [execOp, ho, resolve, invoke, builtin, hd, hs, hrun, Result.andThen]
  exact h

/-- The bytes that wait, with a part laid over them. -/
def over (wait : List Nat) (held : Nat) (part : List Nat) : List Nat := wait.take held ++ part ++ wait.drop (held + part.length)
theorem over_length {wait : List Nat} {held : Nat} {part : List Nat} (h : held + part.length ≤ wait.length) : (over wait held part).length = wait.length := by
  simp [over]; omega
theorem over_take {wait : List Nat} {held : Nat} {part : List Nat} (h : held + part.length ≤ wait.length) : (over wait held part).take (held + part.length) = wait.take held ++ part := by
  unfold over
  rw [List.take_append_of_le_length (by simp; omega)]
  exact List.take_of_length_le (by simp; omega)
theorem hcells_over {H wait : List Nat} (hH : H.length = 8) (hw : wait.length = 64) (held size : Nat) {part : List Nat} (h : held + part.length ≤ 64) (m : Nat) :
    ((hcells H wait m size).take (8 + held) ++ w8 part ++ (hcells H wait m size).drop (8 + held + part.length)) = hcells H (over wait held part) m size := by
  have h1 : (w32 H).length = 8 := by rw [w32_length, hH]
  have h2 : (w8 wait).length = 64 := by rw [w8_length, hw]
  unfold hcells over
  rw [List.take_append, List.take_of_length_le (show (w32 H).length ≤ 8 + held by omega), h1, show 8 + held - 8 = held by omega, List.take_append_of_le_length (show held ≤ (w8 wait).length by omega)]
  rw [List.drop_append, List.drop_of_length_le (show (w32 H).length ≤ 8 + held + part.length by omega), h1, show 8 + held + part.length - 8 = held + part.length by omega, List.drop_append_of_le_length (show held + part.length ≤ (w8 wait).length by omega)]
  simp [w8, List.map_take, List.map_drop]
theorem hcells_setHeld {H wait : List Nat} (hH : H.length = 8) (hw : wait.length = 64) (held size x : Nat) : (hcells H wait held size).set 72 (.int .i64 (x : Int)) = hcells H wait x size := by
  unfold hcells
  rw [List.set_append_right _ _ (by rw [w32_length]; omega), w32_length, hH, List.set_append_right _ _ (by rw [w8_length]; omega), w8_length, hw]
  rfl
theorem hcells_setSize {H wait : List Nat} (hH : H.length = 8) (hw : wait.length = 64) (held size x : Nat) : (hcells H wait held size).set 73 (.int .u64 (x : Int)) = hcells H wait held x := by
  unfold hcells
  rw [List.set_append_right _ _ (by rw [w32_length]; omega), w32_length, hH, List.set_append_right _ _ (by rw [w8_length]; omega), w8_length, hw]
  rfl

/-- A Hash at g that holds the state s, and counts n bytes. -/
def IsHash (w : World) (g : Nat) (s : Sh.St) (n : Nat) : Prop :=
  s.ok ∧ ∃ wait : List Nat, wait.length = 64 ∧ wait.take s.pend.length = s.pend ∧ w.heap[g]? = some (.cells (hcells s.H wait s.pend.length n).toArray 45 (0, 0))
/-- .. laid open. -/
def HashAt (w : World) (g : Nat) (H wait : List Nat) (held n : Nat) : Prop := H.length = 8 ∧ wait.length = 64 ∧ w.heap[g]? = some (.cells (hcells H wait held n).toArray 45 (0, 0))
theorem HashAt.facts {w : World} {g : Nat} {H wait : List Nat} {held n : Nat} (h : HashAt w g H wait held n) :
    w.cell? ⟨g, 72, none⟩ = some (.int .i64 (held : Int)) ∧ w.frozen? ⟨g, 72, none⟩ = false ∧ w.cell? ⟨g, 73, none⟩ = some (.int .u64 (n : Int)) ∧ w.frozen? ⟨g, 73, none⟩ = false := by
  obtain ⟨hH, hw, hg⟩ := h
  exact ⟨by rw [cell_arr hg, hcells_held hH hw], free_arr hg _, by rw [cell_arr hg, hcells_size hH hw], free_arr hg _⟩
theorem HashAt.held {w : World} {g : Nat} {H wait : List Nat} {held n : Nat} (h : HashAt w g H wait held n) (x : Nat) : HashAt (w.setCell ⟨g, 72, none⟩ (.int .i64 (x : Int))) g H wait x n := by
  obtain ⟨hH, hw, hg⟩ := h
  refine ⟨hH, hw, ?_⟩
  rw [heap_set hg, ← hcells_setHeld hH hw held n x]
  simp
theorem HashAt.sized {w : World} {g : Nat} {H wait : List Nat} {held n : Nat} (h : HashAt w g H wait held n) (x : Nat) : HashAt (w.setCell ⟨g, 73, none⟩ (.int .u64 (x : Int))) g H wait held x := by
  obtain ⟨hH, hw, hg⟩ := h
  refine ⟨hH, hw, ?_⟩
  rw [heap_set hg, ← hcells_setSize hH hw held n x]
  simp
theorem HashAt.over {w : World} {g : Nat} {H wait : List Nat} {held n : Nat} (h : HashAt w g H wait held n) {m : Nat} {part : List Nat} (hp : m + part.length ≤ 64) :
    HashAt (w.setRow g (hcells H (over wait m part) held n).toArray) g H (over wait m part) held n := by
  obtain ⟨hH, hw, hg⟩ := h
  exact ⟨hH, by rw [over_length (by omega)]; exact hw, setRow_heap _ _ _ _ _ _ hg⟩
theorem IsHash.open {w : World} {g : Nat} {s : Sh.St} {n : Nat} (h : IsHash w g s n) : ∃ wait : List Nat, wait.take s.pend.length = s.pend ∧ HashAt w g s.H wait s.pend.length n := by
  obtain ⟨hok, wait, hw, ht, hg⟩ := h
  exact ⟨wait, ht, hok.1, hw, hg⟩
theorem IsHash.mk {w : World} {g : Nat} {s : Sh.St} {n : Nat} (hok : s.ok) {wait : List Nat} (ht : wait.take s.pend.length = s.pend) (h : HashAt w g s.H wait s.pend.length n) : IsHash w g s n :=
  ⟨hok, wait, h.2.1, ht, h.2.2⟩
theorem IsHash.keep {w w' : World} {g : Nat} {s : Sh.St} {n : Nat} (h : IsHash w g s n) (e : w'.heap[g]? = w.heap[g]?) : IsHash w' g s n := by
  obtain ⟨hok, wait, hw, ht, hg⟩ := h
  exact ⟨hok, wait, hw, ht, e.trans hg⟩

theorem size5 : (Tryd.prog.info? 5).map (·.size) = some 1 := by kernel_rfl
theorem toList_nil {x : ByteArray} (h : x.size = 0) : x.toList = [] := by
  have : x = ByteArray.empty := by
    apply ByteArray.ext; apply Array.eq_empty_of_size_eq_zero; exact h
  rw [this, Lib.toList_data]; rfl
/-- How long a text in a slot is. -/
def lenOf : Value → Nat | .string s => s.size | _ => 0

theorem part_less_write {t : Sh.St} {x : ByteArray} {q m : Nat} (hq : q = t.pend.length) (hf : q + m < 64) (hm : m ≤ x.size) :
    Sh.write t (bl x) = Sh.write ⟨t.H, t.pend ++ (bl x).take m⟩ (bl (x.extract m x.size)) := by
  rw [bl_extract]
  conv => lhs; rw [← List.take_append_drop m (bl x), Sh.write_append]
  rw [Sh.write_short t _ (by rw [List.length_take, bl_length]; omega)]
theorem part_full_write {t : Sh.St} {x : ByteArray} {wt : List Nat} {q m : Nat} (hok : t.ok) (hq : q = t.pend.length) (hf : q + m = 64) (hm : m ≤ x.size) (ht : wt.take q = t.pend) (hw : wt.length = 64) :
    Sh.write t (bl x) = Sh.write ⟨Sh.mix t.H (over wt q ((bl x).take m)), []⟩ (bl (x.extract m x.size)) := by
  have hl : ((bl x).take m).length = m := by rw [List.length_take, bl_length]; omega
  rw [bl_extract]
  conv => lhs; rw [← List.take_append_drop m (bl x), Sh.write_append]
  rw [Sh.write_full t _ (by rw [hl]; omega) hok.2]
  have e : over wt q ((bl x).take m) = t.pend ++ (bl x).take m := by
    unfold over
    rw [ht, hl, List.drop_of_length_le (by omega), List.append_nil]
  rw [e]

set_option maxRecDepth 100000 in
set_option maxHeartbeats 1600000 in
theorem write_any (g : Nat) (w : World) (st : Sh.St) (n : Nat) (s : ByteArray) (hh : IsHash w g st n) (hL : Laid w) (h0 : 0 < g) (hn : n + s.size ≤ 4611686018427387904) :
    Calls Tryd.prog 12 #[.pointer (some ⟨g, 0, none⟩), .string s] w fun e w' =>
      e = .returned (.pointer (some ⟨g, 0, none⟩)) ∧ IsHash w' g (Sh.write st (bl s)) (n + s.size) ∧ OnlyB w.heap.size g w w' := by
  obtain ⟨wait, ht, ha⟩ := hh.open
  obtain ⟨c72, f72, c73, f73⟩ := ha.facts
  have hs : s.size ≤ 4611686018427387904 := by omega
  have hw64 : IntKind.u64.wrap ((n : Int) + (s.size : Int)) = ((n + s.size : Nat) : Int) := by
    unfold IntKind.wrap; simp [IntKind.bits, IntKind.signed]; omega
  have hw64' : IntKind.u64.wrap (s.size : Int) = (s.size : Int) := by
    unfold IntKind.wrap; simp [IntKind.bits, IntKind.signed]; omega
  have HN := Lib.hid hn
  have HS := Lib.hid hs
  have HA := Lib.hid (And.intro ht (And.intro ha (And.intro hh.1 hL)))
  clear hn hs ha hh hL ht
  go_enter Tryd.func12, Tryd.ntmps12
  go_wp2_with fail
  have HB := Lib.hid (And.intro (HA.out.2.1.sized (n + s.size)) ((OnlyB.refl w.heap.size g w).set 73 (.int .u64 ((n + s.size : Nat) : Int))))
  rw [show ((n + s.size : Nat) : Int) = (n : Int) + (s.size : Int) from rfl] at HB
  generalize w.setCell ⟨g, 73, none⟩ (.int .u64 ((n : Int) + (s.size : Int))) = w1 at HB ⊢
  clear hw64 hw64' c72 f72 c73 f73
  go_loopw [1] (fun v wr => ∃ (x : ByteArray) (t : Sh.St), v = .string x ∧ Hid (Sh.write t (bl x) = Sh.write st (bl s)) ∧ Hid (x.size ≤ 4611686018427387904) ∧ Hid (IsHash wr g t (n + s.size)) ∧ Hid (OnlyB w.heap.size g w wr)) (fun v _ => lenOf v)
  case atStart => exact ⟨s, st, rfl, rfl, HS, IsHash.mk HA.out.2.2.1 HA.out.1 HB.out.1, HB.out.2⟩
  case round =>
    obtain ⟨x, t, rfl, hwx, hxs, hh, ho⟩ := hrel
    by_cases hx : x.toList = []
    · go_wp2_with fail
      go_ret
      have hb : bl x = [] := by unfold bl; rw [← Lib.toList_data, hx]; rfl
      have e := hwx.out
      rw [hb] at e
      exact ⟨rfl, by rw [← e]; exact hh.out, ho.out⟩
    · have hx' : (!x.toList.isEmpty) = true := by simpa using hx
      have hx0 : x.size ≠ 0 := fun e => hx (toList_nil e)
      obtain ⟨wt, htk, ha⟩ := hh.out.open
      obtain ⟨c72, f72, _, _⟩ := ha.facts
      obtain ⟨q, hq⟩ : ∃ q, q = t.pend.length := ⟨_, rfl⟩
      rw [← hq] at c72 ha htk
      have hq64 : q < 64 := by rw [hq]; exact hh.out.1.2
      obtain ⟨m, hm⟩ : ∃ m, m = min x.size (64 - q) := ⟨_, rfl⟩
      have hm1 : m ≤ x.size := by omega
      have hm2 : q + m ≤ 64 := by omega
      have hm0 : 0 < m := by omega
      have hpl : ((bl x).take m).length = m := by rw [List.length_take, bl_length]; omega
      have hnew : ((hcells t.H wt q (n + s.size)).toArray.toList.take (8 + q) ++ w8 ((bl x).take m) ++ (hcells t.H wt q (n + s.size)).toArray.toList.drop (8 + q + m)).toArray = (hcells t.H (over wt q ((bl x).take m)) q (n + s.size)).toArray := by
        have e := hcells_over (H := t.H) (wait := wt) hh.out.1.1 ha.2.1 q (n + s.size) (part := (bl x).take m) (by omega) q
        rw [hpl] at e
        rw [List.toList_toArray, e]
      have hfit : 8 + q + m ≤ (hcells t.H wt q (n + s.size)).toArray.size := by
        rw [List.size_toArray, hcells_length ha.1 ha.2.1]; omega
      have g1 : (0 : Int) ≤ (q : Int) := by omega
      have g2 : (q : Int) ≤ 64 := by omega
      have g3 : (q : Int) < 64 := by omega
      have g4 : q ≠ 64 := by omega
      have g5 : 64 ≠ q := by omega
      have HQ := Lib.hid (And.intro hq (And.intro hm (And.intro hnew (And.intro hfit (And.intro htk ha)))))
      clear hq hm hnew hfit htk ha hpl
      go_upto_region 3 with fail
      go_region_law (refine step_copy_text rfl (.tmp 25) (.tmp 26) 33 9 rfl 5 Tryd.underlying33 size5 g (8 + q) (64 - q) (64 - q) x rfl rfl _ 45 HQ.out.2.2.2.2.2.2.2 m HQ.out.2.1 HQ.out.2.2.2.1 _ HQ.out.2.2.1 ?_)
      have ha2 : HashAt (wr.drew.setRow g (hcells t.H (over wt q ((bl x).take m)) q (n + s.size)).toArray) g t.H (over wt q ((bl x).take m)) q (n + s.size) := by
        have h := HashAt.over (w := wr.drew) (m := q) (part := (bl x).take m) HQ.out.2.2.2.2.2 (by rw [List.length_take, bl_length]; omega)
        exact h
      have ho2 : OnlyB w.heap.size g w (wr.drew.setRow g (hcells t.H (over wt q ((bl x).take m)) q (n + s.size)).toArray) := (ho.out.drewN 1).setRow _
      generalize wr.drew.setRow g _ = w2 at ha2 ho2 ⊢
      clear c72 f72
      obtain ⟨c72, f72, _, _⟩ := ha2.facts
      have ha3 := ha2.held (q + m)
      have ho3 := ho2.set 72 (.int .i64 ((q + m : Nat) : Int))
      rw [show ((q + m : Nat) : Int) = (q : Int) + (m : Int) from rfl] at ha3 ho3
      have hL3 : Laid (w2.setCell ⟨g, 72, none⟩ (.int .i64 ((q : Int) + (m : Int)))) := HA.out.2.2.2.only ho3 h0 (by have := HA.out.2.2.2.1; exact this)
      have hxe : (x.extract m x.size).size ≤ 4611686018427387904 := by have := hxs.out; simp [ByteArray.size_extract]; omega
      have H3 := Lib.hid (And.intro ha3 (And.intro ho3 (And.intro hL3 hxe)))
      clear ha2 ho2 ha3 ho3 hL3 hxe
      have g6 : (m : Int) ≤ (x.size : Int) := by omega
      have g7 : (0 : Int) ≤ (m : Int) := by omega
      have g8 : (q : Int) + (m : Int) ≤ 64 := by omega
      have hxs2 := hxs.out
      have g9 : (x.size : Int) ≤ 4611686018427387904 := by omega
      clear hxs2
      by_cases hf : q + m = 64
      · have hfe : ((q : Int) + (m : Int) == 64) = true := by simp; omega
        have HF := Lib.hid hf
        clear hf
        go_wp2_with (first | ((refine (mix_any g _ t.H _ _ _ H3.out.1.1 H3.out.1.2.1 H3.out.2.2.1 h0 H3.out.1.2.2).mono ?_); rintro e w4 ⟨rfl, hg4, ho4⟩; have ha4 : HashAt w4 g _ _ _ _ := ⟨Sh.mix_length _ _ H3.out.1.1, H3.out.1.2.1, hg4⟩; obtain ⟨c4, f4, _, _⟩ := ha4.facts; have H4 := Lib.hid (And.intro ha4 ho4); clear ha4 ho4 hg4))
        go_roundw
        case rel =>
          have e := part_full_write (t := t) (x := x) hh.out.1 HQ.out.1 HF.out hm1 HQ.out.2.2.2.2.1 HQ.out.2.2.2.2.2.2.1
          exact ⟨x.extract m x.size, ⟨Sh.mix t.H (over wt q ((bl x).take m)), []⟩, rfl, e.symm.trans hwx.out, H3.out.2.2.2, IsHash.mk ⟨Sh.mix_length _ _ H3.out.1.1, by simp⟩ rfl (H4.out.1.held 0), (H3.out.2.1.trans (H4.out.2.mono (by have := H3.out.2.1.size; exact this))).set 72 _⟩
        case measure => show (x.extract m x.size).size < x.size; simp [ByteArray.size_extract]; omega
      · have hfe : ((q : Int) + (m : Int) == 64) = false := by simp; omega
        have HF := Lib.hid hf
        clear hf
        go_wp2_with fail
        go_roundw
        case rel =>
          have hpm : q + m < 64 := by have := HF.out; omega
          have e := part_less_write (t := t) (x := x) HQ.out.1 hpm hm1
          have hlen : (t.pend ++ (bl x).take m).length = q + m := by rw [List.length_append, List.length_take, bl_length, ← HQ.out.1]; omega
          refine ⟨x.extract m x.size, ⟨t.H, t.pend ++ (bl x).take m⟩, rfl, e.symm.trans hwx.out, H3.out.2.2.2, IsHash.mk ⟨hh.out.1.1, by rw [hlen]; exact hpm⟩ (wait := over wt q ((bl x).take m)) ?_ ?_, H3.out.2.1⟩
          · have e2 := over_take (wait := wt) (held := q) (part := (bl x).take m) (by have := HQ.out.2.2.2.2.2.2.1; rw [List.length_take, bl_length]; omega)
            rw [show ((bl x).take m).length = m by rw [List.length_take, bl_length]; omega, HQ.out.2.2.2.2.1] at e2
            show (over wt q ((bl x).take m)).take (t.pend ++ (bl x).take m).length = _
            rw [hlen, e2]
          · show HashAt _ g t.H _ (t.pend ++ (bl x).take m).length _
            rw [hlen]
            exact H3.out.1
        case measure => show (x.extract m x.size).size < x.size; simp [ByteArray.size_extract]; omega
end Go.Proofs.YtmgpgjookiknkaaDoor
