/- The document's cache in memory; the contracts of its New, Find, Often, and of keys. -/
import Derived.Test.YtgmelphklppcbaaT
import Derived.Deep.DeepCutAuto
namespace Go.Proofs.Ytgmelphklppcbaa
open Go.RowKit

/-- Counts, cell by cell. -/
def flatC : Cs → List Value
  | [] => []
  | x :: l => .string x.1 :: .int .i64 x.2 :: flatC l

theorem flatC_length (C : Cs) : (flatC C).length = C.length * 2 := by
  induction C with
  | nil => rfl
  | cons x l ih => simp only [flatC, List.length_cons, ih]; omega
theorem flatC_append (T U : Cs) : flatC (T ++ U) = flatC T ++ flatC U := by
  induction T with
  | nil => rfl
  | cons x l ih => simp only [List.cons_append, flatC, ih]
theorem flatC_at (T : Cs) {i : Nat} (h : i < T.length) : (flatC T)[i * 2]? = some (.string T[i].1) ∧ (flatC T)[i * 2 + 1]? = some (.int .i64 T[i].2) := by
  induction T generalizing i with
  | nil => cases h
  | cons x l ih =>
    cases i with
    | zero => exact ⟨rfl, rfl⟩
    | succ i =>
      rw [show (i + 1) * 2 = i * 2 + 1 + 1 by omega]
      simp only [flatC, List.getElem?_cons_succ, List.getElem_cons_succ]
      exact ih (by simpa using h)
theorem flatC_one (T : Cs) : ∀ u ∈ flatC T, u.oneCell' = true := by
  induction T with
  | nil => intro u hu; cases hu
  | cons x l ih =>
    intro u hu
    simp only [flatC, List.mem_cons] at hu
    rcases hu with rfl | rfl | hu
    · rfl
    · rfl
    · exact ih u hu

theorem infoT : (Try.prog.info? 63).map (fun i => (i.zero, i.size, i.bytes)) = some (some (.agg #[.string ByteArray.empty, .string ByteArray.empty]), 2, 32) := by kernel_rfl
theorem infoC : (Try.prog.info? 68).map (fun i => (i.zero, i.size, i.bytes)) = some (some (.agg #[.string ByteArray.empty, .int .i64 0]), 2, 24) := by kernel_rfl
theorem elT : El 27 63 (.agg #[.string ByteArray.empty, .string ByteArray.empty]) 2 32 := ⟨Try.underlying27, infoT, rfl, by omega, by omega⟩
theorem elC : El 28 68 (.agg #[.string ByteArray.empty, .int .i64 0]) 2 24 := ⟨Try.underlying28, infoC, rfl, by omega, by omega⟩

/-- Rows of things, of counts, of the document. -/
def RT (w : World) (base : Nat) (v : Value) (T : Ts) : Prop := w.ownsRow base 63 2 v T.length (flat T)
def RC (w : World) (base : Nat) (v : Value) (C : Cs) : Prop := w.ownsRow base 68 2 v C.length (flatC C)

theorem own_base {w : World} {base e size n : Nat} {v : Value} {xs : List Value} (h : w.ownsRow base e size v n xs) : w.ownsRow 0 e size v n xs := by
  refine ⟨h.1, ?_⟩
  rcases h.2 with hn | ⟨g, cap, cur, rfl, _, rest⟩
  · exact .inl hn
  · exact .inr ⟨g, cap, cur, rfl, Nat.zero_le _, rest⟩

theorem own_low {w : World} {base b e size n : Nat} {v : Value} {xs : List Value} (h : w.ownsRow base e size v n xs) (hb : b ≤ base) : w.ownsRow b e size v n xs := by
  refine ⟨h.1, ?_⟩
  rcases h.2 with hn | ⟨g, cap, cur, rfl, hg, rest⟩
  · exact .inl hn
  · exact .inr ⟨g, cap, cur, rfl, Nat.le_trans hb hg, rest⟩

/-- The document's cache, as a value. -/
def RV (s : Ca) (va vc : Value) : Value := .agg #[.int .i64 s.size, va, vc, .int .i64 s.n]
def Ref (w : World) (va vc : Value) (s : Ca) : Prop := RT w 0 va s.T ∧ RC w 0 vc s.C ∧ s.size ≤ 64 ∧ s.T.length ≤ 64 ∧ s.C.length ≤ 1000 ∧ s.n ≤ 1000

theorem Ref.only {w w' : World} {va vc : Value} {s : Ca} (h : Ref w va vc s) (ho : Only w w' (fun _ => False)) : Ref w' va vc s :=
  ⟨ho.own h.1 (fun _ _ h => h), ho.own h.2.1 (fun _ _ h => h), h.2.2⟩
theorem Ref.fr {w w' : World} {B : Nat} {va vc : Value} {s : Ca} (h : Ref w va vc s) (ho : Fr B w w') : Ref w' va vc s :=
  ⟨ho.own h.1 (by decide) (by decide), ho.own h.2.1 (by decide) (by decide), h.2.2⟩

theorem RT.shape {w : World} {base : Nat} {v : Value} {T : Ts} (h : RT w base v T) : ∃ sp cap, v = .slice sp T.length cap ∧ (0 < T.length → ∃ g, sp = some ⟨g, 0, none⟩ ∧ g < w.heap.size ∧ ∀ j (hj : j < T.length), w.cell? ⟨g, j * 2, none⟩ = some (.string T[j].1) ∧ w.cell? ⟨g, j * 2 + 1, none⟩ = some (.string T[j].2)) := by
  have h' := h
  unfold RT at h
  rcases h.2 with ⟨rfl, h0⟩ | ⟨g, cap, cur, rfl, hbg, hg, hn, hm, hs, ht⟩
  · exact ⟨none, 0, by rw [h0], fun h => absurd h (by omega)⟩
  · exact ⟨_, _, rfl, fun _ => ⟨g, rfl, lt_of_block hg, fun j hj => row_cells hg ht rfl hj⟩⟩
theorem RC.shape {w : World} {base : Nat} {v : Value} {C : Cs} (h : RC w base v C) : ∃ sp cap, v = .slice sp C.length cap ∧ (0 < C.length → ∃ g, sp = some ⟨g, 0, none⟩ ∧ g < w.heap.size ∧ ∀ j (hj : j < C.length), w.cell? ⟨g, j * 2, none⟩ = some (.string C[j].1) ∧ w.cell? ⟨g, j * 2 + 1, none⟩ = some (.int .i64 C[j].2)) := by
  have h' := h
  unfold RC at h
  rcases h.2 with ⟨rfl, h0⟩ | ⟨g, cap, cur, rfl, hbg, hg, hn, hm, hs, ht⟩
  · exact ⟨none, 0, by rw [h0], fun h => absurd h (by omega)⟩
  · refine ⟨_, _, rfl, fun _ => ⟨g, rfl, lt_of_block hg, fun j hj => ?_⟩⟩
    obtain ⟨h1, h2⟩ := flatC_at C hj
    rw [← ht, List.getElem?_take_of_lt (by omega)] at h1 h2
    simp only [Array.getElem?_toList] at h1 h2
    simp [World.cell?, hg, h1, h2]

/-- Four cells stored. -/
theorem store4 {w : World} {b : Nat} {p q r s x y z u : Value} {t : TypeId} (h : w.heap[b]? = some (.cells #[p, q, r, s] t (0, 0))) :
    ((((w.setCell ⟨b, 0, none⟩ x).setCell ⟨b, 1, none⟩ y).setCell ⟨b, 2, none⟩ z).setCell ⟨b, 3, none⟩ u).heap[b]? = some (.cells #[x, y, z, u] t (0, 0)) := by
  rw [heap_set (heap_set (heap_set (heap_set h 0 x) 1 y) 2 z) 3 u]; rfl

theorem only_set4 {w : World} {b : Nat} {x y z u : Value} {w0 : World} (h : Only w0 w (fun _ => False)) (hb : w0.heap.size ≤ b) : Only w0 ((((w.setCell ⟨b, 0, none⟩ x).setCell ⟨b, 1, none⟩ y).setCell ⟨b, 2, none⟩ z).setCell ⟨b, 3, none⟩ u) (fun _ => False) := by
  have h1 : ∀ (w : World) (j : Nat) (x : Value), Only w0 w (fun _ => False) → Only w0 (w.setCell ⟨b, j, none⟩ x) (fun _ => False) := fun w j x h =>
    h.trans' (Only.setCell w b j x (fun k => k = b) rfl) (fun i hi e => by omega)
  exact h1 _ _ _ (h1 _ _ _ (h1 _ _ _ (h1 _ _ _ h)))

theorem rnew_ref (size : Int) (w : World) : Ref w (.slice none 0 0) (.slice none 0 0) (newCa size) :=
  ⟨World.ownsRow_nil _ _ _ _, World.ownsRow_nil _ _ _ _, by show (min (max size 0) 64).toNat ≤ 64; omega, Nat.zero_le _, Nat.zero_le _, Nat.zero_le _⟩

set_option maxHeartbeats 800000 in
theorem rnew_any (size : Int) (w : World) : Calls Try.prog 12 #[.int .i64 size] w fun e w' => ∃ va vc, e = .returned (RV (newCa size) va vc) ∧ Ref w' va vc (newCa size) ∧ Only w w' (fun _ => False) := by
  have HK : Hid (((newCa size).size : Int) = min (max size 0) 64) := by
    rw [Hid]
    have : (newCa size).size = (min (max size 0) 64).toNat := rfl
    omega
  go_enter Try.func12, Try.ntmps12
  go_wp2
  · obtain ⟨e0, e1, e2, e3⟩ := cells4 (heap_alloc_new w (.cells #[.int .i64 0, .slice none 0 0, .slice none 0 0, .int .i64 0] 30))
    refine bodyPost_ret (v := .agg #[.int .i64 0, .slice none 0 0, .slice none 0 0, .int .i64 0]) ?_ rfl ?_
    · simp [results, Try.results12, go_sem, e0, e1, e2, e3]
    · exact ⟨_, _, by unfold RV; rw [show ((newCa size).size : Int) = 0 by have := HK.out; omega]; rfl, rnew_ref _ _, Only.alloc _ _ _⟩
  · obtain ⟨e0, e1, e2, e3⟩ := cells4 (heap_alloc_new w (.cells #[.int .i64 64, .slice none 0 0, .slice none 0 0, .int .i64 0] 30))
    refine bodyPost_ret (v := .agg #[.int .i64 64, .slice none 0 0, .slice none 0 0, .int .i64 0]) ?_ rfl ?_
    · simp [results, Try.results12, go_sem, e0, e1, e2, e3]
    · exact ⟨_, _, by unfold RV; rw [show ((newCa size).size : Int) = 64 by have := HK.out; omega]; rfl, rnew_ref _ _, Only.alloc _ _ _⟩
  · obtain ⟨e0, e1, e2, e3⟩ := cells4 (heap_alloc_new w (.cells #[.int .i64 size, .slice none 0 0, .slice none 0 0, .int .i64 0] 30))
    refine bodyPost_ret (v := .agg #[.int .i64 size, .slice none 0 0, .slice none 0 0, .int .i64 0]) ?_ rfl ?_
    · simp [results, Try.results12, go_sem, e0, e1, e2, e3]
    · exact ⟨_, _, by unfold RV; rw [show ((newCa size).size : Int) = size by have := HK.out; omega]; rfl, rnew_ref _ _, Only.alloc _ _ _⟩

set_option maxHeartbeats 800000 in
theorem rfind_any (va vc : Value) (s : Ca) (key : ByteArray) (w : World) (h : Ref w va vc s) :
    Calls Try.prog 29 #[RV s va vc, .string key] w fun e w' => e = .returned (.int .i64 (plI s.T key)) ∧ Only w w' (fun _ => False) := by
  obtain ⟨hT, hC, h64, hT64, hC64, hn⟩ := h
  obtain ⟨sp, cap, rfl, hc⟩ := hT.shape
  unfold RV
  have oA := Only.alloc w (.cells #[.int .i64 s.size, .slice sp s.T.length cap, vc, .int .i64 s.n] 30) (fun _ => False)
  have O := Lib.hid oA
  go_enter Try.func29, Try.ntmps29
  go_wp2
  have kA := heap_alloc_new w (.cells #[.int .i64 s.size, .slice sp s.T.length cap, vc, .int .i64 s.n] 30)
  go_loopw [5] (fun i wr => ∃ k : Nat, k ≤ s.T.length ∧ k ≤ pl s.T key ∧ i = .int .i64 k ∧ wr = w.alloc (.cells #[.int .i64 s.size, .slice sp s.T.length cap, vc, .int .i64 s.n] 30)) (fun i _ => s.T.length - (intOf i).toNat)
  case atStart => exact ⟨0, Nat.zero_le _, Nat.zero_le _, rfl, rfl⟩
  case round =>
    obtain ⟨k, hk, hkp, rfl, hwr⟩ := hrel
    rw [← hwr] at kA oA
    have HW := Lib.hid hwr
    clear hwr
    obtain ⟨x0, x1, x2, x3⟩ := cells4 kA
    have hlb := lt_of_block kA
    have hple := pl_le s.T key
    by_cases hlk : k < s.T.length
    · obtain ⟨g, rfl, hg, hc⟩ := hc (by omega)
      obtain ⟨c0, c1⟩ := hc k hlk
      have c0 := (World.cell?_of_block (a := ⟨g, k * 2, none⟩) (oA.block g hg (fun h => h))).trans c0
      have hgl : g < wr.heap.size := Nat.lt_of_lt_of_le hg oA.size
      have j0 : (0 : Int) ≤ (k : Int) := by omega
      have j1 : (k : Int) < (s.T.length : Int) := by omega
      clear hc c1
      by_cases he : s.T[k].1 = key
      · have hpk : pl s.T key = k := by
          refine Nat.le_antisymm ?_ hkp
          exact Nat.le_of_not_lt fun hlt => pl_before hlt hlk he
        have t1 : (s.T[k].1.toList == key.toList) = true := text_eq.2 he
        have HP : Hid (plI s.T key = (k : Int)) := by show plI s.T key = _; unfold plI; rw [hpk, if_pos hlk]
        clear he hpk
        go_wp2
        go_ret
        exact ⟨by rw [HP.out]; rfl, oA⟩
      · have hpk : k + 1 ≤ pl s.T key := by
          rcases Nat.lt_or_ge k (pl s.T key) with h | h
          · exact h
          · have e : pl s.T key = k := by omega
            have := pl_lt (T := s.T) (k := key) (by omega)
            simp only [e] at this
            exact absurd this he
        have t1 : (s.T[k].1.toList == key.toList) = false := text_ne he
        clear he
        go_wp2
        go_roundw
        case rel => exact ⟨k + 1, by omega, hpk, by go_num, HW.out⟩
        case measure => simp [intOf]; omega
    · have HP : Hid (plI s.T key = -1) := if_neg (by omega)
      go_wp2
      go_ret
      exact ⟨by rw [HP.out]; rfl, oA⟩

theorem often_drop {C : Cs} {key : ByteArray} {k : Nat} (hk : k < C.length) : often (C.drop k) key = if C[k].1 = key then C[k].2 else often (C.drop (k + 1)) key := by
  rw [List.drop_eq_getElem_cons hk]
  rfl

set_option maxHeartbeats 800000 in
theorem roften_any (va vc : Value) (s : Ca) (key : ByteArray) (w : World) (h : Ref w va vc s) :
    Calls Try.prog 23 #[RV s va vc, .string key] w fun e w' => e = .returned (.int .i64 (often s.C key)) ∧ Only w w' (fun _ => False) := by
  obtain ⟨hT, hC, h64, hT64, hC64, hn⟩ := h
  obtain ⟨sp, cap, rfl, hc⟩ := hC.shape
  unfold RV
  have oA := Only.alloc w (.cells #[.int .i64 s.size, va, .slice sp s.C.length cap, .int .i64 s.n] 30) (fun _ => False)
  go_enter Try.func23, Try.ntmps23
  go_wp2
  have kA := heap_alloc_new w (.cells #[.int .i64 s.size, va, .slice sp s.C.length cap, .int .i64 s.n] 30)
  go_loopw [5] (fun i wr => ∃ k : Nat, k ≤ s.C.length ∧ Hid (often (s.C.drop k) key = often s.C key) ∧ i = .int .i64 k ∧ wr = w.alloc (.cells #[.int .i64 s.size, va, .slice sp s.C.length cap, .int .i64 s.n] 30)) (fun i _ => s.C.length - (intOf i).toNat)
  case atStart => exact ⟨0, Nat.zero_le _, rfl, rfl, rfl⟩
  case round =>
    obtain ⟨k, hk, hkp, rfl, hwr⟩ := hrel
    rw [← hwr] at kA oA
    have HW := Lib.hid hwr
    clear hwr
    obtain ⟨x0, x1, x2, x3⟩ := cells4 kA
    have hlb := lt_of_block kA
    by_cases hlk : k < s.C.length
    · obtain ⟨g, rfl, hg, hc⟩ := hc (by omega)
      obtain ⟨c0, c1⟩ := hc k hlk
      have c0 := (World.cell?_of_block (a := ⟨g, k * 2, none⟩) (oA.block g hg (fun h => h))).trans c0
      have c1 := (World.cell?_of_block (a := ⟨g, k * 2 + 1, none⟩) (oA.block g hg (fun h => h))).trans c1
      have hgl : g < wr.heap.size := Nat.lt_of_lt_of_le hg oA.size
      have j0 : (0 : Int) ≤ (k : Int) := by omega
      have j1 : (k : Int) < (s.C.length : Int) := by omega
      have hod := often_drop (key := key) hlk
      clear hc
      by_cases he : s.C[k].1 = key
      · have t1 : (s.C[k].1.toList == key.toList) = true := text_eq.2 he
        have HP : Hid (often s.C key = s.C[k].2) := by rw [Hid, ← hkp.out, hod, if_pos he]
        clear he hod
        go_wp2
        go_ret
        exact ⟨by rw [HP.out]; rfl, oA⟩
      · have t1 : (s.C[k].1.toList == key.toList) = false := text_ne he
        have HP : Hid (often (s.C.drop (k + 1)) key = often s.C key) := by rw [Hid, ← hkp.out, hod, if_neg he]
        clear he hod
        go_wp2
        go_roundw
        case rel => exact ⟨k + 1, by omega, HP, by go_num, HW.out⟩
        case measure => simp [intOf]; omega
    · have HP : Hid (often s.C key = 0) := by rw [Hid, ← hkp.out, List.drop_eq_nil_of_le (by omega)]; rfl
      go_wp2
      go_ret
      exact ⟨by rw [HP.out]; rfl, oA⟩

set_option maxHeartbeats 1600000 in
theorem rkeys_any (va vc : Value) (s : Ca) (w : World) (h : Ref w va vc s) :
    Calls Try.prog 21 #[RV s va vc] w fun e w' => ∃ v, e = .returned v ∧ Strs w' w.heap.size v (keysOf s.T) ∧ Only w w' (fun _ => False) := by
  obtain ⟨hT, hC, h64, hT64, hC64, hn⟩ := h
  obtain ⟨sp, cap, rfl, hc⟩ := hT.shape
  unfold RV
  have oA := Only.alloc w (.cells #[.int .i64 s.size, .slice sp s.T.length cap, vc, .int .i64 s.n] 30) (fun _ => False)
  have kA := heap_alloc_new w (.cells #[.int .i64 s.size, .slice sp s.T.length cap, vc, .int .i64 s.n] 30)
  obtain ⟨wA, hwA⟩ : ∃ wA, wA = w.alloc (.cells #[.int .i64 s.size, .slice sp s.T.length cap, vc, .int .i64 s.n] 30) := ⟨_, rfl⟩
  rw [← hwA] at oA kA
  have HWA := Lib.hid hwA
  clear hwA
  go_enter Try.func21, Try.ntmps21
  go_wp2
  rw [← HWA.out]
  go_loopw [3, 4] (fun v i wr => ∃ k : Nat, k ≤ s.T.length ∧ i = .int .i64 k ∧ Strs wr wA.heap.size v (keysOf (s.T.take k)) ∧ Only wA wr (fun _ => False)) (fun _ i _ => s.T.length - (intOf i).toNat)
  case atStart => exact ⟨0, Nat.zero_le _, rfl, World.ownsRow_nil _ _ _ _, Only.refl _ _⟩
  case round =>
    obtain ⟨k, hk, rfl, hst, hoA⟩ := hrel
    have kA := hoA.keep kA (fun h => h)
    have ho := oA.trans hoA
    obtain ⟨x0, x1, x2, x3⟩ := cells4 kA
    have hlb := lt_of_block kA
    by_cases hlk : k < s.T.length
    · obtain ⟨g, rfl, hg, hc⟩ := hc (by omega)
      obtain ⟨c0, c1⟩ := hc k hlk
      have c0 := (World.cell?_of_block (a := ⟨g, k * 2, none⟩) (ho.block g hg (fun h => h))).trans c0
      have hgl : g < wr.heap.size := Nat.lt_of_lt_of_le hg ho.size
      have j0 : (0 : Int) ≤ (k : Int) := by omega
      have j1 : (k : Int) < (s.T.length : Int) := by omega
      have hl := keysOf_length (s.T.take k)
      rw [List.length_take, Nat.min_eq_left (by omega)] at hl
      have hgl4 := World.ownsRow.lt hst
      unfold Strs at hst
      rw [hl] at hst
      have hos := hoA.size
      clear hc c1
      go_wp2_with (at_builtin; refine wpList_app elS wA.heap.size rfl _ _ rfl _ k _ _ _ _ [.string s.T[k].1] rfl rfl (hst.alloc _) (by simp; omega) ⟨rfl, (fun h => by cases h), (fun ad had j u hj => by obtain rfl := Option.some.inj had; exact news1 _ _ rfl j u hj)⟩ (by simp [Value.oneCell']) (by omega) ?_)
      intro v' w2 hown2 hgrow2
      have hst2 : Strs w2 wA.heap.size v' (keysOf (s.T.take (k + 1))) := by
        unfold Strs
        rw [keysOf_snoc hlk]
        simp only [List.length_append, hl, List.map_append, List.length_cons, List.length_nil]
        exact hown2
      have ho2 : Only wA w2 (fun _ => False) := new_below (hoA.trans (Only.alloc _ _ _)) hgrow2 (Nat.le_refl _) (fun j hj => (hgl4 j hj).1)
      clear hown2 hst hgrow2 hgl4
      go_wp2
      go_roundw
      case rel => exact ⟨k + 1, by omega, by go_num, hst2, ho2⟩
      case measure => simp [intOf]; omega
    · have e : k = s.T.length := by omega
      subst e
      rw [List.take_length] at hst
      go_wp2
      go_ret
      exact ⟨_, rfl, own_low hst oA.size, ho⟩

end Go.Proofs.Ytgmelphklppcbaa
