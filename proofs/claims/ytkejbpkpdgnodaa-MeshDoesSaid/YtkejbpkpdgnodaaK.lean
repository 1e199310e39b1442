/- append of a row of texts, whatever lies behind it: nil, empty, or not. -/
import Derived.Test.YtkejbpkpdgnodaaMoves
import Derived.Deep.RegionLaw
namespace Go.Proofs.Ytkejbpkpdgnodaa
open Go.RowKit

/-- What is at sp, m texts long, reads as the values news. -/
def Srcs (w : World) (sp : Option Addr) (m c : Nat) (news : List Value) : Prop :=
  news.length = m ∧ (sp = none → m = 0 ∧ c = 0) ∧ ∀ ad, sp = some ad → ∀ j u, news[j]? = some u → w.cell? (ad.add j) = some u

theorem run_app {base : Nat} {w : World} {v : Value} {n : Nat} {xs : List Value} (hown : w.ownsRow base 9 1 v n xs) (hbase : base ≤ w.heap.size) {sp : Option Addr} {m c : Nat} {news : List Value} (hs : Srcs w sp m c news) (h1 : ∀ u ∈ news, u.oneCell' = true) (hb : n + m ≤ 1000) (ty : TypeId) :
    ∃ v' w', (Builtin.append_ #[27, 27] ty #[v, .slice sp m c]).run Try.prog w = .ok v' w' ∧ w'.ownsRow base 9 1 v' (n + m) (xs ++ news) ∧ w.grownBy w' v.ownBlock := by
  obtain ⟨i0, hi, hz0, hz1, hz2⟩ := info_parts info9
  obtain ⟨hl, hn, hc⟩ := hs
  cases sp with
  | none =>
    obtain ⟨rfl, rfl⟩ := hn rfl
    obtain rfl : news = [] := List.eq_nil_of_length_eq_zero hl
    exact ⟨v, w, run_append_owned_none (P := Try.prog) (w := w) base 27 ty 9 i0 1 Try.underlying27 hi v n xs hown, by simpa using hown, World.grownBy.refl _ _⟩
  | some ad =>
    obtain ⟨v', w', h, h2, h3, _⟩ := run_append_own (P := Try.prog) w base 27 ty 9 i0 (.string ByteArray.empty) 1 16 Try.underlying27 hi hz0 hz1 hz2 rfl (by decide) v n xs hown ad m c news (by omega) (hc ad rfl) h1 (by unfold maxLen; omega) (by omega) hbase
    exact ⟨v', w', h, h2, h3⟩

theorem wpList_app (base : Nat) {w : World} {ops : Array Oper} {rest : List Oper} {o : Oper} {a : Act} {Q : Exit → Act → World → Prop} (hgd : o.guard = none) (s x : Operand)
    (ho : o.op = .call { callee := .builtin .append, args := #[s, x], argTypes := #[27, 27] }) (v : Value) (n : Nat) (xs : List Value) (sp : Option Addr) (m c : Nat) (news : List Value)
    (hv : a.eval s = v) (hx : a.eval x = .slice sp m c) (hown : w.ownsRow base 9 1 v n xs) (hbase : base ≤ w.heap.size) (hs : Srcs w sp m c news) (h1 : ∀ u ∈ news, u.oneCell' = true) (hb : n + m ≤ 1000)
    (h : ∀ v' w', w'.ownsRow base 9 1 v' (n + m) (xs ++ news) → w.grownBy w' v.ownBlock → wpList Try.prog ops Q rest (a.put o.dst v') w') : wpList Try.prog ops Q (o :: rest) a w := by
  refine wpList_plain hgd fun K hK => ?_
  obtain ⟨v', w', hrun, h2, h3⟩ := run_app hown hbase hs h1 hb o.type
  unfold Oper.wp
  simp [execOp, ho, resolve, invoke, builtin, hv, hx, hrun, Result.andThen]
  exact hK _ _ (h v' w' h2 h3)

theorem step_app (base : Nat) {w : World} {ops : Array Oper} {o : Oper} {a : Act} {K : Act → World → Prop} {Q : Exit → Act → World → Prop} {E : Prop} (hgd : o.guard = none) (s x : Operand)
    (ho : o.op = .call { callee := .builtin .append, args := #[s, x], argTypes := #[27, 27] }) (v : Value) (n : Nat) (xs : List Value) (sp : Option Addr) (m c : Nat) (news : List Value)
    (hv : a.eval s = v) (hx : a.eval x = .slice sp m c) (hown : w.ownsRow base 9 1 v n xs) (hbase : base ≤ w.heap.size) (hs : Srcs w sp m c news) (h1 : ∀ u ∈ news, u.oneCell' = true) (hb : n + m ≤ 1000)
    (h : ∀ v' w', w'.ownsRow base 9 1 v' (n + m) (xs ++ news) → w.grownBy w' v.ownBlock → K (a.put o.dst v') w') :
    if Region.wanted o (yielded ops a.tmps) = true then Oper.wp Try.prog o a w K Q else E := by
  have hw : Region.wanted o (yielded ops a.tmps) = true := by simp [Region.wanted, hgd]
  rw [if_pos hw]
  obtain ⟨v', w', hrun, h2, h3⟩ := run_app hown hbase hs h1 hb o.type
  unfold Oper.wp
  simp [execOp, ho, resolve, invoke, builtin, hv, hx, hrun, Result.andThen]
  exact h v' w' h2 h3

/-- A row that is owned, as a source: whole, its front, its end. -/
theorem own_none {w : World} {base e n cap : Nat} {xs : List Value} (h : w.ownsRow base e 1 (.slice none n cap) n xs) : n = 0 ∧ cap = 0 := by
  rcases h.2 with ⟨h0, h1⟩ | ⟨g, cap', cur, hv, _⟩
  · simp at h0; omega
  · simp at hv
theorem srcs_all {w w' : World} {sp : Option Addr} {n cap : Nat} {xs : List Value} (h : w.ownsRow 0 9 1 (.slice sp n cap) n xs) (hb : Below w.heap.size w w') : Srcs w' sp n cap xs := by
  refine ⟨by have := h.1; omega, fun hs => ?_, fun ad had j u hu => ?_⟩
  · subst hs; exact own_none h
  · have hj : j < n := by have := h.1; have := (List.getElem?_eq_some_iff.1 hu).1; omega
    obtain ⟨g, hg, hgl, hc⟩ := own_src h (by omega)
    obtain rfl : ad = ⟨g, 0, none⟩ := by rw [had] at hg; exact Option.some.inj hg
    rw [Addr.add_lit, Nat.zero_add, hb.cell (by exact hgl)]
    exact hc j u hu
theorem srcs_front {w w' : World} {sp : Option Addr} {n cap k : Nat} {xs : List Value} (h : w.ownsRow 0 9 1 (.slice sp n cap) n xs) (hb : Below w.heap.size w w') (hk : k ≤ n) : Srcs w' sp k cap (xs.take k) := by
  obtain ⟨h1, h2, h3⟩ := srcs_all h hb
  refine ⟨by rw [List.length_take]; omega, fun hs => by have := h2 hs; omega, fun ad had j u hu => h3 ad had j u ?_⟩
  rw [List.getElem?_take] at hu
  split at hu
  · exact hu
  · cases hu
theorem srcs_end {w w' : World} {sp : Option Addr} {n cap k : Nat} {xs : List Value} (h : w.ownsRow 0 9 1 (.slice sp n cap) n xs) (hb : Below w.heap.size w w') (hk : k ≤ n) :
    Srcs w' (if cap = k then sp else Option.map (fun x => x.add k) sp) (n - k) (cap - k) (xs.drop k) := by
  have hcap := (own_cap h).1
  refine ⟨by rw [List.length_drop]; have := h.1; omega, fun hs => ?_, fun ad had j u hu => ?_⟩
  · cases sp with
    | none => have := own_none h; omega
    | some a => split at hs <;> simp at hs
  · have hj : k + j < n := by have := h.1; have := (List.getElem?_eq_some_iff.1 hu).1; rw [List.length_drop] at this; omega
    obtain ⟨ad', h1, h2, h3⟩ := own_from h (n := k) (by omega)
    obtain rfl : ad = ad' := by rw [had] at h1; exact Option.some.inj h1
    rw [hb.cell (by rw [add_block]; exact h2)]
    exact h3 j u hu
theorem srcs_end_at {w w' : World} {g : Nat} {n cap k : Nat} {xs : List Value} (h : w.ownsRow 0 9 1 (.slice (some ⟨g, 0, none⟩) n cap) n xs) (hb : Below w.heap.size w w') (hk : k ≤ n) :
    Srcs w' (if cap = k then some ⟨g, 0, none⟩ else some ⟨g, k, none⟩) (n - k) (cap - k) (xs.drop k) := by
  have := srcs_end h hb hk
  simpa [Addr.add_lit] using this

end Go.Proofs.Ytkejbpkpdgnodaa
