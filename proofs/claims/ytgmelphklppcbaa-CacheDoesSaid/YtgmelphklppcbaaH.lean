/- The contract of slices.Delete at things: one thing goes. -/
import Derived.Test.YtgmelphklppcbaaG
import Derived.OwnWalk
namespace Go.Proofs.Ytgmelphklppcbaa
open Go.RowKit

/-- append with room, as one step of a region. -/
theorem step_append_row {P : Program} {ops : Array Oper} {o : Oper} {a : Act} {w : World} {K : Act → World → Prop} {Q : Exit → Act → World → Prop} {E : Prop} (hgd : o.guard = none) (s x : Operand) (t : TypeId)
    (hop : o.op = Op.call { callee := Callee.builtin Builtin.append, args := #[s, x], argTypes := #[t, t] })
    (e : TypeId) (i : TypeInfo) (h1 : P.underlying t = some (.slice e)) (h2 : P.info? e = some i) (sz : Nat) (h3 : i.size = sz)
    (g n cap : Nat) (cur : Array Value) (hg : w.heap[g]? = some (.cells cur e (0, 0))) (hs : a.eval s = .slice (some ⟨g, 0, none⟩) n cap)
    (ad : Addr) (m c : Nat) (news : List Value) (hx : a.eval x = .slice (some ad) m c) (hn : news.length = m * sz) (hc : ∀ j u, news[j]? = some u → w.cell? (ad.add j) = some u) (h1c : ∀ u ∈ news, u.oneCell' = true)
    (nm : Nat) (hnm : n + m = nm) (hroom : n + m ≤ cap) (hfit : n * sz + news.length ≤ cur.size)
    (hK : ∀ w', Hid (w'.heap[g]? = some (.cells (splice cur.toList (n * sz) news).toArray e (0, 0))) → w.grownBy w' (some g) → K (a.put o.dst (.slice (some ⟨g, 0, none⟩) nm cap)) w') :
    if Region.wanted o (yielded ops a.tmps) = true then Oper.wp P o a w K Q else E := by
  have hw : Region.wanted o (yielded ops a.tmps) = true := by simp [Region.wanted, hgd]
  rw [if_pos hw]
  subst h3
  subst hnm
  have hrun := run_append_room (P := P) w t o.type e i h1 h2 g n cap cur hg ad m c news hn hc h1c hroom hfit
  unfold Oper.wp
  simp [execOp, hop, resolve, invoke, builtin, hs, hx, hrun, Result.andThen]
  exact hK _ (show _ = _ by simpa [splice] using setRow_heap w g _ _ e _ hg) (setRow_grown _ _ _)

theorem zero59 (w : World) : (zeroValue 59).run Try.prog w = .ok (.agg #[.string ⟨#[]⟩, .string ⟨#[]⟩]) w := by kernel_rfl

theorem run_clear_one (w : World) (ty : TypeId) (g o c : Nat) (cur : Array Value) (hg : w.heap[g]? = some (.cells cur 59 (0, 0))) (hfit : o + 2 ≤ cur.size) :
    (Builtin.clear_ #[55] ty #[.slice (some ⟨g, o, none⟩) 1 c]).run Try.prog w = .ok (.tuple #[]) (w.setRow g (splice cur.toList o [.string ⟨#[]⟩, .string ⟨#[]⟩]).toArray) := by
  have hst := run_storeCells_at Try.prog g o 59 [.string ⟨#[]⟩, .string ⟨#[]⟩] 0 cur w hg (by simpa using hfit) (by simp [Value.oneCell'])
  have hzc : (Builtin.zeroCells (Value.cells (.agg #[.string ⟨#[]⟩, .string ⟨#[]⟩])) 1).toList = [.string ⟨#[]⟩, .string ⟨#[]⟩] := by
    simp [Builtin.zeroCells, Value.cells]
    rfl
  simp [Builtin.clear_, run_underlying Try.underlying55, zero59, hzc, hst, splice]

theorem clear_one (w : World) (g o c : Nat) (cur : Array Value) (hg : w.heap[g]? = some (.cells cur 59 (0, 0))) (hfit : o + 2 ≤ cur.size) :
    ∃ w', (∀ ty, (Builtin.clear_ #[55] ty #[.slice (some ⟨g, o, none⟩) 1 c]).run Try.prog w = .ok (.tuple #[]) w') ∧ Hid (w'.heap[g]? = some (.cells (splice cur.toList o [.string ⟨#[]⟩, .string ⟨#[]⟩]).toArray 59 (0, 0))) ∧ w.grownBy w' (some g) :=
  ⟨_, fun ty => run_clear_one w ty g o c cur hg hfit, setRow_heap w g _ _ 59 _ hg, setRow_grown _ _ _⟩

/-- The row behind Delete. -/
theorem del_row {cur : List Value} {T : Ts} {n i : Nat} {p q : Value} (ht : cur.take (n * 2) = flat T) (hn : T.length = n) (hi : i < n) :
    (splice (splice cur (i * 2) (flat (T.drop (i + 1)))) ((n - 1) * 2) [p, q]).take ((n - 1) * 2) = flat (T.take i ++ T.drop (i + 1)) := by
  have hcl : n * 2 ≤ cur.length := by
    have := congrArg List.length ht
    rw [flat_length, List.length_take] at this
    omega
  have hl : (flat (T.drop (i + 1))).length = (n - 1 - i) * 2 := by rw [flat_length, List.length_drop]; omega
  have e1 : (splice cur (i * 2) (flat (T.drop (i + 1)))).take ((n - 1) * 2) = flat (T.take i ++ T.drop (i + 1)) := by
    unfold splice
    rw [flat_append, ← flat_take T i, ← ht, List.take_take, Nat.min_eq_left (by omega), ← List.append_assoc, List.take_append_of_le_length (by rw [List.length_append, hl, List.length_take]; omega), List.take_of_length_le (by rw [List.length_append, hl, List.length_take]; omega)]
  have hsl : (splice cur (i * 2) (flat (T.drop (i + 1)))).length = cur.length := length_splice _ _ _ (by rw [hl]; omega)
  rw [← e1]
  unfold splice
  rw [List.take_append_of_le_length (by rw [List.length_take]; unfold splice at hsl; omega), List.take_take, Nat.min_self]

set_option maxHeartbeats 1600000 in
theorem delete_any (g cap i : Nat) (cur : Array Value) (T : Ts) (w : World) (hgg : w.heap[g]? = some (.cells cur 59 (0, 0))) (hnc : T.length ≤ cap) (hcm : cap ≤ maxLen) (hcs : cur.size = cap * 2) (ht : cur.toList.take (T.length * 2) = flat T) (hi : i < T.length) (hT : T.length ≤ 100) :
    Calls Try.prog 32 #[.slice (some ⟨g, 0, none⟩) T.length cap, .int .i64 i, .int .i64 ((i : Int) + 1)] w fun e w' => e = .returned (.slice (some ⟨g, 0, none⟩) (T.length - 1) cap) ∧
      w.grownBy w' (some g) ∧ ∃ cur', w'.heap[g]? = some (.cells cur' 59 (0, 0)) ∧ cur'.size = cap * 2 ∧ cur'.toList.take ((T.length - 1) * 2) = flat (T.take i ++ T.drop (i + 1)) := by
  obtain ⟨i0, hi0, hz0, hz1, hz2⟩ := info_parts info59
  have hlg := lt_of_block hgg
  have j0 : (0 : Int) ≤ (i : Int) := by omega
  have j1 : (i : Int) ≤ (i : Int) + 1 := by omega
  have j2 : (i : Int) + 1 ≤ (T.length : Int) := by omega
  have j3 : (T.length : Int) ≤ (cap : Int) := by omega
  have j4 : ((i : Int) == (i : Int) + 1) = false := by simp; omega
  have j5 : ((i : Int) + 1).toNat = i + 1 := by omega
  have j6 : (i : Int) ≤ (cap : Int) := by omega
  have j7 : (0 : Int) ≤ (i : Int) + 1 := by omega
  have j8 : (i : Int) + 1 ≤ (cap : Int) := by omega
  obtain ⟨X, hXe⟩ : ∃ X, X = flat (T.drop (i + 1)) := ⟨_, rfl⟩
  have hX : X.length = (T.length - (i + 1)) * 2 := by rw [hXe, flat_length, List.length_drop]
  have hX1 : ∀ u ∈ X, u.oneCell' = true := by rw [hXe]; exact flat_one _
  have HP : Hid (∃ A : Addr, (if cap = i + 1 then (some ⟨g, 0, none⟩ : Option Addr) else some ⟨g, (i + 1) * 2, none⟩) = some A ∧ ∀ j u, X[j]? = some u → w.drew.cell? (A.add j) = some u) := by
    by_cases h : cap = i + 1
    · refine ⟨⟨g, 0, none⟩, if_pos h, fun j u hj => ?_⟩
      have : X = [] := List.eq_nil_of_length_eq_zero (by rw [hX]; omega)
      rw [this] at hj
      cases hj
    · refine ⟨⟨g, (i + 1) * 2, none⟩, if_neg h, fun j u hj => ?_⟩
      rw [hXe, ← flat_drop, ← ht, List.getElem?_drop] at hj
      rw [Addr.add_lit]
      show w.cell? _ = _
      simp only [World.cell?, hgg]
      have hlt := (List.getElem?_eq_some_iff.1 hj).1
      rw [List.length_take] at hlt
      rw [List.getElem?_take_of_lt (by omega)] at hj
      simpa using hj
  have HD := Lib.hid (show ((splice (splice cur.toList (i * 2) X) ((T.length - 1) * 2) [.string ⟨#[]⟩, .string ⟨#[]⟩]).take ((T.length - 1) * 2)) = flat (T.take i ++ T.drop (i + 1)) by rw [hXe]; exact del_row ht rfl hi)
  have HF : Hid (i * 2 + X.length ≤ cur.size) := by rw [Hid, hX, hcs]; omega
  clear hXe
  go_enter Try.func32, Try.ntmps32
  go_upto_region 5 with fail
  obtain ⟨A, hA, hsrc⟩ := HP.out
  have HS := Lib.hid hsrc
  clear hsrc
  go_region_law (refine step_append_row rfl (.tmp 22) (.tmp 25) 55 rfl 59 i0 Try.underlying55 hi0 2 hz1 g i cap cur hgg rfl A (T.length - (i + 1)) (cap - (i + 1)) X (by simp [Act.eval, Act.put]) hX HS.out hX1 (T.length - 1) (by omega) (by omega) HF.out ?_; intro w2 HG2 hB2)
  all_goals
    have k0 : ¬ cap = T.length - 1 := by omega
    have k1 : ((T.length - 1 : Nat) : Int) ≤ (T.length : Int) := by omega
    have k2 : T.length - (T.length - 1) = 1 := by omega
    have hlg2 := lt_of_block HG2.out
    have hsz2 : ((splice cur.toList (i * 2) X).toArray).size = cap * 2 := by
      rw [List.size_toArray, length_splice _ _ _ (by have := HF.out; simpa using this)]
      simpa using hcs
    obtain ⟨w3, hcl, HG3, hB3⟩ := clear_one w2 g ((T.length - 1) * 2) (cap - (T.length - 1)) _ HG2.out (by rw [hsz2]; omega)
    clear hA
    go_wp2
    go_ret
    refine ⟨rfl, ⟨hB3.os.trans hB2.os, hB3.tape.trans hB2.tape, hB3.output.trans hB2.output, Nat.le_trans hB2.size hB3.size, fun k hk hne => (hB3.block k (Nat.lt_of_lt_of_le hk hB2.size) hne).trans (hB2.block k hk hne)⟩, _, HG3.out, ?_, ?_⟩
    · rw [List.size_toArray, length_splice _ _ _ (by simp at hsz2 ⊢; omega)]
      simpa using hsz2
    · rw [← HD.out]

end Go.Proofs.Ytgmelphklppcbaa
