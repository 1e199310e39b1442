/- append onto a row that is owned, from any source. -/
import Derived.Test.YtgmelphklppcbaaS
import Derived.Laws.AppendOwnNone
namespace Go.Proofs.Ytgmelphklppcbaa
open Go.RowKit

/-- A kind of slices: their type, their elements' type, its cells. -/
structure El (t e : TypeId) (z : Value) (sz by' : Nat) : Prop where
  under : Try.prog.underlying t = some (.slice e)
  info : (Try.prog.info? e).map (fun i => (i.zero, i.size, i.bytes)) = some (some z, sz, by')
  cells : z.cells.size = sz
  pos : 0 < sz
  small : by' ≤ 64

theorem elS : El 44 9 (.string ByteArray.empty) 1 16 := ⟨Try.underlying44, info9, rfl, by omega, by omega⟩

/-- A source: m elements of sz cells each. -/
def Srcs (w : World) (sz : Nat) (sp : Option Addr) (m c : Nat) (news : List Value) : Prop :=
  news.length = m * sz ∧ (sp = none → m = 0 ∧ c = 0) ∧ ∀ ad, sp = some ad → ∀ j u, news[j]? = some u → w.cell? (ad.add j) = some u

theorem run_app {t e : TypeId} {z : Value} {sz by' : Nat} (E : El t e z sz by') {base : Nat} {w : World} {v : Value} {n : Nat} {xs : List Value} (hown : w.ownsRow base e sz v n xs) (hbase : base ≤ w.heap.size) {sp : Option Addr} {m c : Nat} {news : List Value} (hs : Srcs w sz sp m c news) (h1 : ∀ u ∈ news, u.oneCell' = true) (hb : n + m ≤ 10000) (ty : TypeId) :
    ∃ v' w', (Builtin.append_ #[t, t] ty #[v, .slice sp m c]).run Try.prog w = .ok v' w' ∧ w'.ownsRow base e sz v' (n + m) (xs ++ news) ∧ w.grownBy w' v.ownBlock := by
  obtain ⟨i0, hi, hz0, hz1, hz2⟩ := info_parts E.info
  obtain ⟨hl, hn, hc⟩ := hs
  cases sp with
  | none =>
    obtain ⟨rfl, rfl⟩ := hn rfl
    obtain rfl : news = [] := List.eq_nil_of_length_eq_zero (by omega)
    exact ⟨v, w, run_append_owned_none (P := Try.prog) (w := w) base t ty e i0 sz E.under hi v n xs hown, by simpa using hown, World.grownBy.refl _ _⟩
  | some ad =>
    have hbb : (n + m) * by' ≤ 140737488355328 := Nat.le_trans (Nat.mul_le_mul hb E.small) (by decide)
    obtain ⟨v', w', h, h2, h3, _⟩ := run_append_own (P := Try.prog) w base t ty e i0 z sz by' E.under hi hz0 hz1 hz2 E.cells E.pos v n xs hown ad m c news hl (hc ad rfl) h1 (by unfold maxLen; omega) hbb hbase
    exact ⟨v', w', h, h2, h3⟩

theorem wpList_app {t e : TypeId} {z : Value} {sz by' : Nat} (E : El t e z sz by') (base : Nat) {w : World} {ops : Array Oper} {rest : List Oper} {o : Oper} {a : Act} {Q : Exit → Act → World → Prop} (hgd : o.guard = none) (s x : Operand)
    (ho : o.op = .call { callee := .builtin .append, args := #[s, x], argTypes := #[t, t] }) (v : Value) (n : Nat) (xs : List Value) (sp : Option Addr) (m c : Nat) (news : List Value)
    (hv : a.eval s = v) (hx : a.eval x = .slice sp m c) (hown : w.ownsRow base e sz v n xs) (hbase : base ≤ w.heap.size) (hs : Srcs w sz sp m c news) (h1 : ∀ u ∈ news, u.oneCell' = true) (hb : n + m ≤ 10000)
    (h : ∀ v' w', w'.ownsRow base e sz v' (n + m) (xs ++ news) → w.grownBy w' v.ownBlock → wpList Try.prog ops Q rest (a.put o.dst v') w') : wpList Try.prog ops Q (o :: rest) a w := by
  refine wpList_plain hgd fun K hK => ?_
  obtain ⟨v', w', hrun, h2, h3⟩ := run_app E hown hbase hs h1 hb o.type
  unfold Oper.wp
  simp [execOp, ho, resolve, invoke, builtin, hv, hx, hrun, Result.andThen]
  exact hK _ _ (h v' w' h2 h3)

theorem step_app {t e : TypeId} {z : Value} {sz by' : Nat} (E : El t e z sz by') (base : Nat) {w : World} {ops : Array Oper} {o : Oper} {a : Act} {K : Act → World → Prop} {Q : Exit → Act → World → Prop} {E0 : Prop} (hgd : o.guard = none) (s x : Operand)
    (ho : o.op = .call { callee := .builtin .append, args := #[s, x], argTypes := #[t, t] }) (v : Value) (n : Nat) (xs : List Value) (sp : Option Addr) (m c : Nat) (news : List Value)
    (hv : a.eval s = v) (hx : a.eval x = .slice sp m c) (hown : w.ownsRow base e sz v n xs) (hbase : base ≤ w.heap.size) (hs : Srcs w sz sp m c news) (h1 : ∀ u ∈ news, u.oneCell' = true) (hb : n + m ≤ 10000)
    (h : ∀ v' w', w'.ownsRow base e sz v' (n + m) (xs ++ news) → w.grownBy w' v.ownBlock → K (a.put o.dst v') w') :
    if Region.wanted o (yielded ops a.tmps) = true then Oper.wp Try.prog o a w K Q else E0 := by
  have hw : Region.wanted o (yielded ops a.tmps) = true := by simp [Region.wanted, hgd]
  rw [if_pos hw]
  obtain ⟨v', w', hrun, h2, h3⟩ := run_app E hown hbase hs h1 hb o.type
  unfold Oper.wp
  simp [execOp, ho, resolve, invoke, builtin, hv, hx, hrun, Result.andThen]
  exact h v' w' h2 h3

/-- A row that is owned, as a source. -/
theorem srcs_own {w : World} {base e sz : Nat} {sp : Option Addr} {n cap : Nat} {xs : List Value} (h : w.ownsRow base e sz (.slice sp n cap) n xs) : Srcs w sz sp n cap xs := by
  refine ⟨h.1, fun e0 => ?_, fun ad had j u hj => ?_⟩
  · subst e0
    rcases h.2 with ⟨h0, h1⟩ | ⟨g, cap', cur, hv, _⟩
    · simp only [Value.slice.injEq, true_and] at h0
      exact h0
    · simp at hv
  · subst had
    rcases h.2 with ⟨h0, h1⟩ | ⟨g, cap', cur, hv, _⟩
    · simp at h0
    · simp only [Value.slice.injEq, Option.some.injEq] at hv
      obtain ⟨rfl, _⟩ := hv
      exact World.ownsRow.cells h (g := g) rfl j u hj

/-- A new block that holds one element, as a row that is owned, and as a source. -/
theorem own_one {w : World} {base : Nat} {e : TypeId} {xs : List Value} (hb : base ≤ w.heap.size) : (w.alloc (.cells xs.toArray e)).ownsRow base e xs.length (.slice (some ⟨w.heap.size, 0, none⟩) 1 1) 1 xs :=
  ⟨by simp, .inr ⟨w.heap.size, 1, xs.toArray, rfl, hb, heap_alloc_new w _, Nat.le_refl _, by unfold maxLen; omega, by simp, by simp⟩⟩

theorem strs_one (L : List ByteArray) : ∀ v ∈ L.map Value.string, v.oneCell' = true := by
  intro v hv
  obtain ⟨x, _, rfl⟩ := List.mem_map.1 hv
  rfl

end Go.Proofs.Ytgmelphklppcbaa
