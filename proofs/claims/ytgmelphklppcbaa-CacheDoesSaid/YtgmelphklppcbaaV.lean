/- What CacheRoom counts: how many keys are counted; what is there was offered. -/
import Derived.Test.YtgmelphklppcbaaU
namespace Go.Proofs.Ytgmelphklppcbaa
open Go.RowKit

def total (C : Cs) : Nat := (C.map (·.2)).sum

theorem total_count1 (C : Cs) (k : ByteArray) : total (count1 C k) ≤ total C + 1 := by
  induction C with
  | nil => simp [count1, total]
  | cons x l ih =>
    unfold count1
    unfold total at ih ⊢
    split
    · simp only [List.map_cons, List.sum_cons]; omega
    · simp only [List.map_cons, List.sum_cons]; omega

theorem total_halve (C : Cs) : 2 * total (halve C) ≤ total C := by
  induction C with
  | nil => simp [halve, total]
  | cons x l ih =>
    unfold halve
    unfold total at ih ⊢
    split
    · simp only [List.map_cons, List.sum_cons]; omega
    · simp only [List.map_cons, List.sum_cons]; omega

theorem length_total {C : Cs} (hg : Good C) : C.length ≤ total C := by
  have h := hg.2
  clear hg
  induction C with
  | nil => simp
  | cons x l ih =>
    have h1 := (h x (by simp)).1
    have h2 := ih (fun y hy => h y (List.mem_cons_of_mem _ hy))
    unfold total at h2 ⊢
    simp only [List.map_cons, List.sum_cons, List.length_cons]; omega

/-- Calls, and counts, of a cache. -/
structure Sum (s : Ca) : Prop where
  most : total s.C ≤ 10 * s.size + s.n
  calls : s.size ≠ 0 → s.n < 10 * s.size

theorem Sum.new (size : Int) : Sum (newCa size) := ⟨Nat.zero_le _, fun h => by show 0 < _; omega⟩

theorem Sum.get {s : Ca} (h : Sum s) (k : ByteArray) : Sum (getC s k) := by
  by_cases hz : s.size = 0
  · rw [getC_zero hz]; exact h
  have h1 := h.most
  have h2 := h.calls hz
  have h3 := total_count1 s.C k
  have h4 := total_halve (count1 s.C k)
  have e : (getC s k).C = bumpC s k ∧ (getC s k).n = bumpN s ∧ (getC s k).size = s.size := by unfold getC; rw [if_neg hz]; exact ⟨rfl, rfl, rfl⟩
  by_cases hb : s.n + 1 = 10 * s.size
  · obtain ⟨b1, b2⟩ := bump_eq (k := k) hb
    refine ⟨?_, fun _ => ?_⟩
    · rw [e.1, e.2.1, e.2.2, b1, b2]; omega
    · rw [e.2.1, e.2.2, b2]; omega
  · obtain ⟨b1, b2⟩ := bump_ne (k := k) hb
    refine ⟨?_, fun _ => ?_⟩
    · rw [e.1, e.2.1, e.2.2, b1, b2]; omega
    · rw [e.2.1, e.2.2, b2]; omega

theorem Sum.forget {s : Ca} (h : Sum s) (k : ByteArray) : Sum (forgetC s k) := by unfold forgetC; split <;> exact ⟨h.most, h.calls⟩

theorem Sum.few {s : Ca} (h : Sum s) {k : Nat} (ho : Ok s k) (hg : Good s.C) : s.C.length ≤ 20 * s.size := by
  by_cases hz : s.size = 0
  · rw [ho.none hz]; exact Nat.zero_le _
  · have h1 := h.most
    have h2 := h.calls hz
    have h3 := length_total hg
    omega

/-- Of things: each was offered by one of the acts. -/
def Off (l : List CAct) (T : Ts) : Prop := ∀ x ∈ T, ∃ a ∈ l, a.k = 1 ∧ a.key = x.1 ∧ a.val = x.2

theorem Off.snoc {l : List CAct} {T : Ts} (h : Off l T) (a : CAct) : Off (l ++ [a]) T := fun x hx => by
  obtain ⟨b, hb, r⟩ := h x hx
  exact ⟨b, List.mem_append_left _ hb, r⟩

theorem Off.get {l : List CAct} {s : Ca} (h : Off l s.T) (k : ByteArray) : Off l (getC s k).T := by
  by_cases hz : s.size = 0
  · rw [getC_zero hz]; exact h
  by_cases hp : pl s.T k < s.T.length
  · rw [(get_yes hz hp).1]
    show Off l (frontL s.T (pl s.T k) s.T[pl s.T k].2)
    rw [frontL_eq hp]
    intro x hx
    rcases List.mem_cons.1 hx with rfl | hx
    · exact h s.T[pl s.T k] (List.getElem_mem hp)
    · rcases List.mem_append.1 hx with hx | hx
      · exact h x (List.mem_of_mem_take hx)
      · exact h x (List.mem_of_mem_drop hx)
  · rw [(get_no hz hp).1]; exact h

theorem Off.forget {l : List CAct} {s : Ca} (h : Off l s.T) (k : ByteArray) : Off l (forgetC s k).T := by
  by_cases hp : pl s.T k < s.T.length
  · rw [(forget_yes hp).1]
    intro x hx
    rcases List.mem_append.1 hx with hx | hx
    · exact h x (List.mem_of_mem_take hx)
    · exact h x (List.mem_of_mem_drop hx)
  · rw [(forget_no hp).1]; exact h

theorem Off.offer {l : List CAct} {s : Ca} {k v : ByteArray} (h : Off l s.T) (ho : ∃ a ∈ l, a.k = 1 ∧ a.key = k ∧ a.val = v) : Off l (offerT s k v) := by
  by_cases hz : s.size = 0
  · rw [(offer_zero hz).1]; exact h
  by_cases hp : pl s.T k < s.T.length
  · rw [(offer_there hz hp).1, frontL_eq hp, pl_lt hp]
    intro x hx
    rcases List.mem_cons.1 hx with rfl | hx
    · exact ho
    · rcases List.mem_append.1 hx with hx | hx
      · exact h x (List.mem_of_mem_take hx)
      · exact h x (List.mem_of_mem_drop hx)
  by_cases hr : s.T.length < s.size
  · rw [(offer_room hz hp hr).1]
    intro x hx
    rcases List.mem_cons.1 hx with rfl | hx
    · exact ho
    · exact h x hx
  by_cases hg : lastN s < often s.C k
  · rw [(offer_in hz hp hr hg).1]
    intro x hx
    rcases List.mem_cons.1 hx with rfl | hx
    · exact ho
    · exact h x (List.mem_of_mem_take hx)
  · rw [(offer_out hz hp hr hg).1]; exact h

/-- What Get tells was offered. -/
theorem Off.told {l : List CAct} {s : Ca} {k : ByteArray} (h : Off l s.T) (hg : getB s k = true) : ∃ a ∈ l, a.k = 1 ∧ a.key = k ∧ a.val = getV s k := by
  have hp : pl s.T k < s.T.length := of_decide_eq_true hg
  obtain ⟨a, ha, h1, h2, h3⟩ := h _ (List.getElem_mem hp)
  refine ⟨a, ha, h1, by rw [h2, pl_lt hp], ?_⟩
  rw [h3]
  unfold getV
  rw [List.getElem?_eq_getElem hp]
theorem getV_not {s : Ca} {k : ByteArray} (hg : getB s k = false) : getV s k = ⟨#[]⟩ := (get_none (of_decide_eq_false hg)).1

end Go.Proofs.Ytgmelphklppcbaa
