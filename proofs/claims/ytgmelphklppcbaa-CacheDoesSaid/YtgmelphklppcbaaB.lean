/- The cache as plain data: things, counts; and the map in memory that agrees with the counts. -/
import Derived.Test.YtgmelphklppcbaaA
import Derived.PlainAid
namespace Go.Proofs.Ytgmelphklppcbaa
open Go.Maps (Keyed Tidy IsMap has size)

abbrev Ts := List (ByteArray × ByteArray)
abbrev Cs := List (ByteArray × Nat)

/-- A text as a map's key. -/
def kl (s : ByteArray) : Lit := .string s.data.toList

theorem kl_inj {a b : ByteArray} : kl a = kl b ↔ a = b := by
  constructor
  · intro h
    unfold kl at h
    simp only [Lit.string.injEq] at h
    cases a; cases b
    simp only [ByteArray.mk.injEq] at *
    exact Array.toList_inj.1 h
  · rintro rfl; rfl

theorem kl_key (s : ByteArray) : WideAt.IsKeyLit (kl s) := by unfold kl; trivial

theorem kl_same (a b : ByteArray) : (kl a).sameKey (kl b) = decide (a = b) := by
  by_cases h : a = b
  · subst h; simp [WideAt.sameKey_self (kl_key a)]
  · rw [decide_eq_false h, Bool.eq_false_iff]
    exact fun e => h (kl_inj.1 (WideAt.sameKey_eq e))

/-- How high a key is counted. -/
def often : Cs → ByteArray → Nat
  | [], _ => 0
  | x :: l, k => if x.1 = k then x.2 else often l k

/-- Once more. -/
def count1 : Cs → ByteArray → Cs
  | [], k => [(k, 1)]
  | x :: l, k => if x.1 = k then (x.1, min (x.2 + 1) 15) :: l else x :: count1 l k

/-- All counts, halved. -/
def halve : Cs → Cs
  | [] => []
  | x :: l => if 1 < x.2 then (x.1, x.2 / 2) :: halve l else halve l

/-- Of counts: each key once, each count from 1 to 15. -/
def Good (C : Cs) : Prop := (C.map (·.1)).Nodup ∧ ∀ x ∈ C, 1 ≤ x.2 ∧ x.2 ≤ 15

theorem often_not {C : Cs} {k : ByteArray} (h : k ∉ C.map (·.1)) : often C k = 0 := by
  induction C with
  | nil => rfl
  | cons x l ih =>
    simp only [List.map_cons, List.mem_cons, not_or] at h
    unfold often
    rw [if_neg (fun e => h.1 e.symm)]
    exact ih h.2

theorem often_mem {C : Cs} (hn : (C.map (·.1)).Nodup) {x : ByteArray × Nat} (hx : x ∈ C) : often C x.1 = x.2 := by
  induction C with
  | nil => cases hx
  | cons y l ih =>
    simp only [List.map_cons, List.nodup_cons] at hn
    unfold often
    rcases List.mem_cons.1 hx with rfl | hx
    · rw [if_pos rfl]
    · rw [if_neg (fun e => hn.1 (by rw [e]; exact List.mem_map_of_mem (f := (·.1)) hx))]
      exact ih hn.2 hx

theorem often_le {C : Cs} (h : Good C) (k : ByteArray) : often C k ≤ 15 := by
  by_cases hk : k ∈ C.map (·.1)
  · obtain ⟨x, hx, rfl⟩ := List.mem_map.1 hk
    rw [often_mem h.1 hx]
    exact (h.2 x hx).2
  · rw [often_not hk]; omega

theorem often_pos {C : Cs} (h : Good C) (k : ByteArray) : k ∈ C.map (·.1) ↔ often C k ≠ 0 := by
  constructor
  · intro hk
    obtain ⟨x, hx, rfl⟩ := List.mem_map.1 hk
    rw [often_mem h.1 hx]
    have := (h.2 x hx).1
    omega
  · intro h0
    refine Classical.byContradiction fun hk => h0 (often_not hk)

theorem count1_keys (C : Cs) (k : ByteArray) : ∀ j, j ∈ (count1 C k).map (·.1) ↔ j ∈ C.map (·.1) ∨ j = k := by
  induction C with
  | nil => intro j; simp [count1]
  | cons x l ih =>
    intro j
    unfold count1
    split
    · rename_i e; subst e
      simp only [List.map_cons, List.mem_cons]
      constructor
      · rintro (h | h)
        · exact .inr h
        · exact .inl (.inr h)
      · rintro ((h | h) | h)
        · exact .inl h
        · exact .inr h
        · exact .inl h
    · simp only [List.map_cons, List.mem_cons, ih j]
      constructor
      · rintro (h | h | h)
        · exact .inl (.inl h)
        · exact .inl (.inr h)
        · exact .inr h
      · rintro ((h | h) | h)
        · exact .inl h
        · exact .inr (.inl h)
        · exact .inr (.inr h)

theorem count1_good {C : Cs} (h : Good C) (k : ByteArray) : Good (count1 C k) := by
  obtain ⟨hn, hv⟩ := h
  induction C with
  | nil => exact ⟨by simp [count1], by simp [count1]⟩
  | cons x l ih =>
    simp only [List.map_cons, List.nodup_cons] at hn
    unfold count1
    split
    · rename_i e
      refine ⟨by simpa using hn, fun y hy => ?_⟩
      rcases List.mem_cons.1 hy with rfl | hy
      · have := hv x (by simp)
        simp only
        omega
      · exact hv y (List.mem_cons_of_mem _ hy)
    · rename_i e
      obtain ⟨i1, i2⟩ := ih hn.2 (fun y hy => hv y (List.mem_cons_of_mem _ hy))
      refine ⟨?_, fun y hy => ?_⟩
      · simp only [List.map_cons, List.nodup_cons]
        refine ⟨fun hm => ?_, i1⟩
        rcases (count1_keys l k _).1 hm with h | h
        · exact hn.1 h
        · exact e h
      · rcases List.mem_cons.1 hy with rfl | hy
        · exact hv y (by simp)
        · exact i2 y hy

theorem often_count1 (C : Cs) (k j : ByteArray) : often (count1 C k) j = if j = k then min (often C k + 1) 15 else often C j := by
  induction C with
  | nil =>
    unfold count1 often
    by_cases h : j = k
    · subst h; simp [often]
    · rw [if_neg (fun e => h e.symm), if_neg h]; rfl
  | cons x l ih =>
    unfold count1
    by_cases e : x.1 = k
    · rw [if_pos e]
      unfold often
      simp only
      by_cases h : j = k
      · subst h; rw [if_pos e, if_pos rfl, if_pos e]
      · rw [if_neg (by rw [e]; exact fun q => h q.symm), if_neg h, if_neg (by rw [e]; exact fun q => h q.symm)]
    · rw [if_neg e]
      unfold often
      rw [ih]
      by_cases h : j = k
      · subst h; rw [if_neg e, if_pos rfl, if_pos rfl, if_neg e]
      · rw [if_neg h, if_neg h]

theorem length_count1 {C : Cs} (h : Good C) (k : ByteArray) : (count1 C k).length = if often C k ≠ 0 then C.length else C.length + 1 := by
  induction C with
  | nil => simp [count1, often]
  | cons x l ih =>
    have hx := h.2 x (by simp)
    have hl : Good l := ⟨(List.nodup_cons.1 h.1).2, fun y hy => h.2 y (List.mem_cons_of_mem _ hy)⟩
    unfold count1 often
    by_cases e : x.1 = k
    · rw [if_pos e, if_pos e, if_pos (by omega)]; rfl
    · rw [if_neg e, if_neg e, List.length_cons, ih hl, List.length_cons]
      split <;> rfl

theorem length_count1_le (C : Cs) (k : ByteArray) : (count1 C k).length ≤ C.length + 1 := by
  induction C with
  | nil => simp [count1]
  | cons x l ih =>
    unfold count1
    split
    · simp
    · simp only [List.length_cons]; omega

theorem halve_keys {C : Cs} {j : ByteArray} (h : j ∈ (halve C).map (·.1)) : j ∈ C.map (·.1) := by
  induction C with
  | nil => exact h
  | cons x l ih =>
    unfold halve at h
    split at h
    · simp only [List.map_cons, List.mem_cons] at h ⊢
      exact h.imp id ih
    · simp only [List.map_cons, List.mem_cons]
      exact .inr (ih h)

theorem halve_good {C : Cs} (h : Good C) : Good (halve C) := by
  obtain ⟨hn, hv⟩ := h
  induction C with
  | nil => exact ⟨hn, hv⟩
  | cons x l ih =>
    simp only [List.map_cons, List.nodup_cons] at hn
    have i := ih hn.2 (fun y hy => hv y (List.mem_cons_of_mem _ hy))
    unfold halve
    split
    · refine ⟨?_, fun y hy => ?_⟩
      · simp only [List.map_cons, List.nodup_cons]
        exact ⟨fun hm => hn.1 (halve_keys hm), i.1⟩
      · rcases List.mem_cons.1 hy with rfl | hy
        · have := hv x (by simp)
          simp only
          omega
        · exact i.2 y hy
    · exact i

theorem often_halve {C : Cs} (h : (C.map (·.1)).Nodup) (j : ByteArray) : often (halve C) j = often C j / 2 := by
  induction C with
  | nil => simp [halve, often]
  | cons x l ih =>
    simp only [List.map_cons, List.nodup_cons] at h
    unfold halve
    by_cases h2 : 1 < x.2
    · rw [if_pos h2]
      unfold often
      simp only
      split
      · rfl
      · exact ih h.2
    · rw [if_neg h2, ih h.2]
      show _ = (if x.1 = j then x.2 else often l j) / 2
      by_cases e : x.1 = j
      · rw [if_pos e, often_not (by rw [← e]; exact h.1)]; omega
      · rw [if_neg e]

theorem halve_length (C : Cs) : (halve C).length = (C.filter (fun x => decide (2 ≤ x.2))).length := by
  induction C with
  | nil => rfl
  | cons x l ih =>
    unfold halve
    by_cases h : 1 < x.2
    · rw [if_pos h, List.filter_cons_of_pos (by simp; omega), List.length_cons, List.length_cons, ih]
    · rw [if_neg h, List.filter_cons_of_neg (by simp; omega), ih]

theorem halve_length_le (C : Cs) : (halve C).length ≤ C.length := by rw [halve_length]; exact List.length_filter_le _ _

/-- The map reads as the counts; those whose 'left' is false are halved already. -/
def Mid {H : Type} (D : DataW H) (C : Cs) (left : Lit → Bool) : Prop :=
  Tidy D ∧ size D = (C.filter (fun x => left (kl x.1) || decide (2 ≤ x.2))).length ∧
  ∀ s, D.atKey (kl s) (.lit (.int .i64 0)) = .lit (.int .i64 ((if left (kl s) then often C s else often C s / 2 : Nat) : Int)) ∧
    has D (kl s) = decide ((if left (kl s) then often C s else often C s / 2) ≠ 0)

def Agr {H : Type} (D : DataW H) (C : Cs) : Prop :=
  Tidy D ∧ size D = C.length ∧ ∀ s, D.atKey (kl s) (.lit (.int .i64 0)) = .lit (.int .i64 (often C s : Int)) ∧ has D (kl s) = decide (often C s ≠ 0)

theorem Tidy.isMap {H : Type} {D : DataW H} (h : Tidy D) : IsMap D := by
  obtain ⟨es, e, _⟩ := h
  exact ⟨es, e⟩

theorem agr_made {H : Type} : Agr (DataW.map [] : DataW H) [] := ⟨⟨[], rfl, List.Pairwise.nil⟩, rfl, fun s => ⟨rfl, rfl⟩⟩

theorem agr_count1 {H : Type} {D : DataW H} {C : Cs} (h : Agr D C) (hg : Good C) (k : ByteArray) (ht : Tidy (D.put (kl k) (.lit (.int .i64 ((min (often C k + 1) 15 : Nat) : Int))))) :
    Agr (D.put (kl k) (.lit (.int .i64 ((min (often C k + 1) 15 : Nat) : Int)))) (count1 C k) := by
  obtain ⟨h0, h1, h2⟩ := h
  refine ⟨ht, ?_, fun s => ?_⟩
  · rw [Maps.size_put h0, length_count1 hg, h1, (h2 k).2]
    by_cases e : often C k = 0 <;> simp [e]
  · rw [often_count1]
    by_cases e : s = k
    · subst e
      rw [if_pos rfl, Maps.atKey_put_same (Tidy.isMap h0) (kl_key s), Maps.has_put_same (Tidy.isMap h0) (kl_key s)]
      exact ⟨rfl, (decide_eq_true (by omega)).symm⟩
    · have hne : kl s ≠ kl k := fun q => e (kl_inj.1 q)
      rw [if_neg e, Maps.atKey_put_other hne, Maps.has_put_other hne]
      exact h2 s

theorem mid_start {H : Type} {D : DataW H} {C : Cs} (h : Agr D C) (hg : Good C) : Mid D C (has D) := by
  obtain ⟨h0, h1, h2⟩ := h
  refine ⟨h0, ?_, fun s => ?_⟩
  · rw [List.filter_eq_self.2 fun x hx => by
      have hx2 : has D (kl x.1) = true := by rw [(h2 x.1).2, often_mem hg.1 hx]; have := (hg.2 x hx).1; simp; omega
      simp [hx2]]
    exact h1
  · obtain ⟨a1, a2⟩ := h2 s
    rw [a1, a2]
    by_cases e : often C s = 0 <;> simp [e]

theorem mid_end {H : Type} {D : DataW H} {C : Cs} {left : Lit → Bool} (h : Mid D C left) (hg : Good C) (hl : ∀ k, left k = false) : Agr D (halve C) := by
  obtain ⟨h0, h1, h2⟩ := h
  refine ⟨h0, ?_, fun s => ?_⟩
  · rw [h1, halve_length]
    simp [hl]
  · have := h2 s
    rw [hl, if_neg (by simp)] at this
    rw [often_halve hg.1]
    exact this

theorem filter_strike {C : Cs} (hn : (C.map (·.1)).Nodup) {left : Lit → Bool} {x : ByteArray} {n : Nat} (hx : (x, n) ∈ C) (hl : left (kl x) = true) (h1 : n < 2) :
    (C.filter (fun y => (left (kl y.1) && !(kl y.1).sameKey (kl x)) || decide (2 ≤ y.2))).length + 1 = (C.filter (fun y => left (kl y.1) || decide (2 ≤ y.2))).length := by
  induction C with
  | nil => cases hx
  | cons y l ih =>
    simp only [List.map_cons, List.nodup_cons] at hn
    rcases List.mem_cons.1 hx with rfl | hx
    · rw [List.filter_cons_of_neg (by simp [kl_same]; omega), List.filter_cons_of_pos (by simp [hl]), List.length_cons]
      congr 2
      refine List.filter_congr fun z hz => ?_
      have : z.1 ≠ x := fun e => hn.1 (by show x ∈ _; rw [← e]; exact List.mem_map_of_mem (f := (·.1)) hz)
      simp [kl_same, this]
    · have hne : y.1 ≠ x := fun e => hn.1 (by rw [e]; exact List.mem_map_of_mem (f := (·.1)) hx)
      have ih' := ih hn.2 hx
      have e : ((left (kl y.1) && !(kl y.1).sameKey (kl x)) || decide (2 ≤ y.2)) = (left (kl y.1) || decide (2 ≤ y.2)) := by simp [kl_same, hne]
      by_cases hp : (left (kl y.1) || decide (2 ≤ y.2)) = true
      · rw [List.filter_cons, List.filter_cons]
        simp only [e, hp, if_true, List.length_cons]
        omega
      · rw [List.filter_cons, List.filter_cons]
        simp only [e, hp]
        exact ih'

theorem filter_strike_keep {C : Cs} (hn : (C.map (·.1)).Nodup) {left : Lit → Bool} {x : ByteArray} {n : Nat} (hx : (x, n) ∈ C) (h1 : 2 ≤ n) :
    (C.filter (fun y => (left (kl y.1) && !(kl y.1).sameKey (kl x)) || decide (2 ≤ y.2))) = (C.filter (fun y => left (kl y.1) || decide (2 ≤ y.2))) := by
  refine List.filter_congr fun z hz => ?_
  by_cases e : z.1 = x
  · have h2 := often_mem hn hz
    have h3 := often_mem hn hx
    rw [e, h3] at h2
    simp only at h2
    have : decide (2 ≤ z.2) = true := decide_eq_true (by omega)
    simp [this]
  · simp [kl_same, e]

theorem mid_val {H : Type} {D : DataW H} {C : Cs} {left : Lit → Bool} (h : Mid D C left) {x : ByteArray} {c : Int} (hl : left (kl x) = true) (hat : ∀ zd, D.atKey (kl x) zd = .lit (.int .i64 c)) : c = (often C x : Int) ∧ has D (kl x) = decide (often C x ≠ 0) := by
  obtain ⟨_, _, h2⟩ := h
  obtain ⟨a1, a2⟩ := h2 x
  rw [hl, if_pos rfl] at a1 a2
  rw [hat] at a1
  simp only [DataW.lit.injEq, Lit.int.injEq, true_and] at a1
  exact ⟨a1, a2⟩

/-- The step has come to x; its count is 1 or less: it goes. -/
theorem mid_drop {H : Type} {D : DataW H} {C : Cs} {left : Lit → Bool} (h : Mid D C left) (hg : Good C) {x : ByteArray} (hl : left (kl x) = true) (hhas : has D (kl x) = true) (h1 : often C x < 2) (ht : Tidy (D.del (kl x))) :
    Mid (D.del (kl x)) C (fun z => left z && !z.sameKey (kl x)) := by
  obtain ⟨h0, h2, h3⟩ := h
  have hpos : often C x ≠ 0 := by have := (h3 x).2; rw [hhas, hl, if_pos rfl] at this; simpa using this.symm
  obtain ⟨y, hy, rfl⟩ := List.mem_map.1 ((often_pos hg x).2 hpos)
  have hyv := often_mem hg.1 hy
  refine ⟨ht, ?_, fun s => ?_⟩
  · have e1 := Maps.size_del (D := D) (k := kl y.1) h0
    rw [hhas, if_pos rfl] at e1
    have e2 := filter_strike hg.1 (left := left) (x := y.1) (n := y.2) hy hl (by omega)
    show _ = (C.filter (fun z => (left (kl z.1) && !(kl z.1).sameKey (kl y.1)) || decide (2 ≤ z.2))).length
    omega
  · by_cases e : s = y.1
    · subst e
      rw [Maps.atKey_del_same, Maps.has_del_same]
      have : (left (kl y.1) && !(kl y.1).sameKey (kl y.1)) = false := by simp [kl_same]
      simp only [this, Bool.false_eq_true, if_false]
      have : often C y.1 / 2 = 0 := by omega
      rw [this]
      exact ⟨rfl, rfl⟩
    · have hne : kl s ≠ kl y.1 := fun q => e (kl_inj.1 q)
      rw [Maps.atKey_del_other hne, Maps.has_del_other hne]
      have : (left (kl s) && !(kl s).sameKey (kl y.1)) = left (kl s) := by simp [kl_same, e]
      simp only [this]
      exact h3 s

/-- The step has come to x; its count is 2 or more: it is halved. -/
theorem mid_store {H : Type} {D : DataW H} {C : Cs} {left : Lit → Bool} (h : Mid D C left) (hg : Good C) {x : ByteArray} (hhas : has D (kl x) = true) (h1 : 2 ≤ often C x) (ht : Tidy (D.put (kl x) (.lit (.int .i64 ((often C x / 2 : Nat) : Int))))) :
    Mid (D.put (kl x) (.lit (.int .i64 ((often C x / 2 : Nat) : Int)))) C (fun z => left z && !z.sameKey (kl x)) := by
  obtain ⟨h0, h2, h3⟩ := h
  obtain ⟨y, hy, rfl⟩ := List.mem_map.1 ((often_pos hg x).2 (by omega))
  have hyv := often_mem hg.1 hy
  refine ⟨ht, ?_, fun s => ?_⟩
  · rw [Maps.size_put h0, hhas, if_pos rfl, h2, filter_strike_keep hg.1 (n := y.2) hy (by omega)]
  · by_cases e : s = y.1
    · subst e
      rw [Maps.atKey_put_same (Tidy.isMap h0) (kl_key _), Maps.has_put_same (Tidy.isMap h0) (kl_key _)]
      have : (left (kl y.1) && !(kl y.1).sameKey (kl y.1)) = false := by simp [kl_same]
      simp only [this, Bool.false_eq_true, if_false]
      exact ⟨trivial, (decide_eq_true (by omega)).symm⟩
    · have hne : kl s ≠ kl y.1 := fun q => e (kl_inj.1 q)
      rw [Maps.atKey_put_other hne, Maps.has_put_other hne]
      have : (left (kl s) && !(kl s).sameKey (kl y.1)) = left (kl s) := by simp [kl_same, e]
      simp only [this]
      exact h3 s

end Go.Proofs.Ytgmelphklppcbaa
