/- The document's counted, halved. -/
import Derived.Test.YtgmelphklppcbaaXb
import Derived.Deep.RegionWith
namespace Go.Proofs.Ytgmelphklppcbaa
open Go.RowKit

/-- One count, where a key is counted once more. -/
def up (key : ByteArray) (x : ByteArray × Nat) : ByteArray × Nat := if x.1 = key then (x.1, min (x.2 + 1) 15) else x

theorem count1_there {C : Cs} {key : ByteArray} (hn : (C.map (·.1)).Nodup) (h : key ∈ C.map (·.1)) : count1 C key = C.map (up key) := by
  induction C with
  | nil => cases h
  | cons x l ih =>
    simp only [List.map_cons, List.nodup_cons] at hn
    unfold count1
    by_cases e : x.1 = key
    · rw [if_pos e, List.map_cons]
      have : l.map (up key) = l := by
        conv => rhs; rw [← List.map_id l]
        refine List.map_congr_left fun y hy => ?_
        unfold up
        rw [if_neg (fun q => hn.1 (by rw [e, ← q]; exact List.mem_map_of_mem (f := (·.1)) hy))]
        rfl
      rw [this]
      unfold up
      rw [if_pos e]
    · rw [if_neg e, List.map_cons]
      have hm : key ∈ l.map (·.1) := by
        rcases List.mem_cons.1 h with h | h
        · exact absurd h.symm e
        · exact h
      rw [ih hn.2 hm]
      unfold up
      rw [if_neg e]
theorem count1_new {C : Cs} {key : ByteArray} (h : key ∉ C.map (·.1)) : count1 C key = C.map (up key) ++ [(key, 1)] := by
  induction C with
  | nil => rfl
  | cons x l ih =>
    simp only [List.map_cons, List.mem_cons, not_or] at h
    unfold count1
    rw [if_neg (fun e => h.1 e.symm), ih h.2, List.map_cons, List.cons_append]
    unfold up
    rw [if_neg (fun e => h.1 e.symm)]
theorem up_snoc {C : Cs} {key : ByteArray} {k : Nat} (h : k < C.length) : (C.take (k + 1)).map (up key) = (C.take k).map (up key) ++ [up key C[k]] := by
  rw [List.take_succ_eq_append_getElem h, List.map_append]; rfl
theorem keys_snoc {C : Cs} {key : ByteArray} {k : Nat} (h : k < C.length) : key ∈ (C.take (k + 1)).map (·.1) ↔ key ∈ (C.take k).map (·.1) ∨ C[k].1 = key := by
  rw [List.take_succ_eq_append_getElem h, List.map_append, List.mem_append, List.map_cons, List.map_nil, List.mem_singleton]
  exact ⟨fun h => h.imp id Eq.symm, fun h => h.imp id Eq.symm⟩

theorem news2C (w : World) (x y : Value) : ∀ j u, [x, y][j]? = some u → (w.alloc (.cells #[x, y] 68)).cell? ((⟨w.heap.size, 0, none⟩ : Addr).add j) = some u := by
  intro j u hj
  rw [Addr.add_lit, Nat.zero_add]
  simp only [World.cell?, heap_alloc_new]
  simpa using hj

theorem news2C' {n : Nat} (w : World) (x y : Value) (hn : n = w.heap.size) : ∀ j u, [x, y][j]? = some u → (w.alloc (.cells #[x, y] 68)).cell? ((⟨n, 0, none⟩ : Addr).add j) = some u := by subst hn; exact news2C w x y

def countedC (s : Ca) (key : ByteArray) : Ca := { s with C := count1 s.C key, n := s.n + 1 }

set_option maxHeartbeats 3200000 in
theorem rcounted_any (va vc : Value) (s : Ca) (key : ByteArray) (w : World) (h : Ref w va vc s) (hg : Good s.C) (hCl : s.C.length < 1000) (hnl : s.n < 1000) :
    Calls Try.prog 28 #[RV s va vc, .string key] w fun e w' => ∃ vc', e = .returned (RV (countedC s key) va vc') ∧ Ref w' va vc' (countedC s key) ∧ Only w w' (fun _ => False) := by
  have href := h
  obtain ⟨hT, hC, h64, hT64, hC64, hn⟩ := h
  obtain ⟨sp, cap, rfl, _⟩ := hT.shape
  obtain ⟨spc, capc, rfl, hc⟩ := hC.shape
  have hcl := length_count1_le s.C key
  have HSM := Lib.hid (show (countedC s key).size ≤ 64 ∧ (countedC s key).T.length ≤ 64 ∧ (countedC s key).C.length ≤ 1000 ∧ (countedC s key).n ≤ 1000 from ⟨h64, hT64, (by show (count1 s.C key).length ≤ 1000; omega), (by show s.n + 1 ≤ 1000; omega)⟩)
  unfold RV
  obtain ⟨q0, q1, q2, q4⟩ := two w (.cells #[.int .i64 s.size, .slice sp s.T.length cap, .slice spc s.C.length capc, .int .i64 s.n] 30) (.cells #[.int .i64 0, .slice none 0 0, .slice none 0 0, .int .i64 0] 30)
  obtain ⟨w2, hw2⟩ : ∃ w2, w2 = ((w.alloc (.cells #[.int .i64 s.size, .slice sp s.T.length cap, .slice spc s.C.length capc, .int .i64 s.n] 30)).alloc (.cells #[.int .i64 0, .slice none 0 0, .slice none 0 0, .int .i64 0] 30)) := ⟨_, rfl⟩
  rw [← hw2] at q0 q1 q2 q4
  have HW2 := Lib.hid hw2
  clear hw2
  go_enter Try.func28, Try.ntmps28
  go_wp2
  rw [← HW2.out]
  have Q4 := Lib.hid q4
  have hle : w.heap.size ≤ w2.heap.size := by omega
  clear q4
  go_loopw [5, 6, 7] (fun v t i wr => ∃ (k : Nat) (q : Bool), k ≤ s.C.length ∧ i = .int .i64 k ∧ t = .bool q ∧ Hid (q = true ↔ key ∈ (s.C.take k).map (·.1)) ∧ RC wr w2.heap.size v ((s.C.take k).map (up key)) ∧ Only w2 wr (fun _ => False)) (fun _ _ i _ => s.C.length - (intOf i).toNat)
  case atStart => exact ⟨0, false, Nat.zero_le _, rfl, rfl, (by rw [Hid]; simp), World.ownsRow_nil _ _ _ _, Only.refl _ _⟩
  case round =>
    obtain ⟨k, q, hk, rfl, rfl, hq, hst, hoA⟩ := hrel
    have k0 := hoA.keep q1 (fun h => h)
    have k1 := hoA.keep q2 (fun h => h)
    have ho := q0.trans hoA
    by_cases hlk : k < s.C.length
    · obtain ⟨g, rfl, hgl, hc⟩ := hc (by omega)
      obtain ⟨c0, c1⟩ := hc k hlk
      have c0 := (World.cell?_of_block (a := ⟨g, k * 2, none⟩) (ho.block g hgl (fun h => h))).trans c0
      have c1 := (World.cell?_of_block (a := ⟨g, k * 2 + 1, none⟩) (ho.block g hgl (fun h => h))).trans c1
      have hgl : g < wr.heap.size := Nat.lt_of_lt_of_le hgl ho.size
      obtain ⟨x0, x1, x2, x3⟩ := cells4 k0
      have hlb := lt_of_block k0
      have j0 : (0 : Int) ≤ (k : Int) := by omega
      have j1 : (k : Int) < (s.C.length : Int) := by omega
      have hsn := up_snoc (key := key) hlk
      have hks := keys_snoc (key := key) hlk
      have h15 := (hg.2 _ (List.getElem_mem hlk)).2
      have hll : ((s.C.take k).map (up key)).length = k := by simp; omega
      have hgl4 := World.ownsRow.lt hst
      unfold RC at hst
      rw [hll] at hst
      have hos := hoA.size
      generalize s.C[k] = x at c0 c1 hsn hks h15
      generalize (s.C.take k).map (up key) = U at hsn hll hst
      have HKS := Lib.hid hks
      clear hc q1 q2 k0 k1 hks
      by_cases he : x.1 = key
      · have t1 : (x.1.toList == key.toList) = true := text_eq.2 he
        have i1 : IntKind.i64.wrap ((x.2 : Int) + 1) = (x.2 : Int) + 1 := IntWalk.i64_in _ (by omega)
        have HU : Hid (up key x = (x.1, min (x.2 + 1) 15)) := if_pos he
        have HE := Lib.hid he
        clear he
        by_cases hm : (15 : Int) < (x.2 : Int) + 1
        · go_wp2_with (at_builtin; refine wpList_app elC w2.heap.size rfl _ _ rfl _ k _ _ 1 1 [.string x.1, .int .i64 15] rfl rfl ((hst.alloc _).alloc _) (by simp; omega) ⟨rfl, (fun h => by cases h), (fun ad had j u hj => by obtain rfl := Option.some.inj had; exact news2C' _ _ _ (by simp) j u hj)⟩ (by simp [Value.oneCell']) (by omega) ?_)
          intro v' w5 hown5 hgrow5
          have hst5 : RC w5 w2.heap.size v' ((s.C.take (k + 1)).map (up key)) := by
            unfold RC
            rw [hsn, HU.out, flatC_append, List.length_append, hll]
            have e : ((min (x.2 + 1) 15 : Nat) : Int) = 15 := by omega
            show w5.ownsRow w2.heap.size 68 2 v' (k + 1) (flatC U ++ [.string x.1, .int .i64 ((min (x.2 + 1) 15 : Nat) : Int)])
            rw [e]
            exact hown5
          have ho5 : Only w2 w5 (fun _ => False) := new_below ((hoA.trans (Only.alloc _ _ _)).trans (Only.alloc _ _ _)) hgrow5 (Nat.le_refl _) (fun j hj => (hgl4 j hj).1)
          clear hown5 hst hgrow5 hgl4
          go_wp2
          go_roundw
          case rel => exact ⟨k + 1, true, by omega, by go_num, rfl, (by rw [Hid, HKS.out]; exact ⟨fun _ => .inr HE.out, fun _ => rfl⟩), hst5, ho5⟩
          case measure => simp [intOf]; omega
        · go_wp2_with (at_builtin; refine wpList_app elC w2.heap.size rfl _ _ rfl _ k _ _ 1 1 [.string x.1, .int .i64 ((x.2 : Int) + 1)] rfl rfl ((hst.alloc _).alloc _) (by simp; omega) ⟨rfl, (fun h => by cases h), (fun ad had j u hj => by obtain rfl := Option.some.inj had; exact news2C' _ _ _ (by simp) j u hj)⟩ (by simp [Value.oneCell']) (by omega) ?_)
          intro v' w5 hown5 hgrow5
          have hst5 : RC w5 w2.heap.size v' ((s.C.take (k + 1)).map (up key)) := by
            unfold RC
            rw [hsn, HU.out, flatC_append, List.length_append, hll]
            have e : ((min (x.2 + 1) 15 : Nat) : Int) = ((x.2 : Int) + 1) := by omega
            show w5.ownsRow w2.heap.size 68 2 v' (k + 1) (flatC U ++ [.string x.1, .int .i64 ((min (x.2 + 1) 15 : Nat) : Int)])
            rw [e]
            exact hown5
          have ho5 : Only w2 w5 (fun _ => False) := new_below ((hoA.trans (Only.alloc _ _ _)).trans (Only.alloc _ _ _)) hgrow5 (Nat.le_refl _) (fun j hj => (hgl4 j hj).1)
          clear hown5 hst hgrow5 hgl4
          go_wp2
          go_roundw
          case rel => exact ⟨k + 1, true, by omega, by go_num, rfl, (by rw [Hid, HKS.out]; exact ⟨fun _ => .inr HE.out, fun _ => rfl⟩), hst5, ho5⟩
          case measure => simp [intOf]; omega
      · have t1 : (x.1.toList == key.toList) = false := text_ne he
        have HU : up key x = x := if_neg he
        rw [HU] at hsn
        have HE := Lib.hid he
        clear he
        go_wp2_with (at_builtin; refine wpList_app elC w2.heap.size rfl _ _ rfl _ k _ _ 1 1 [.string x.1, .int .i64 x.2] rfl rfl ((hst.alloc _).alloc _) (by simp; omega) ⟨rfl, (fun h => by cases h), (fun ad had j u hj => by obtain rfl := Option.some.inj had; exact news2C' _ _ _ (by simp) j u hj)⟩ (by simp [Value.oneCell']) (by omega) ?_)
        intro v' w5 hown5 hgrow5
        have hst5 : RC w5 w2.heap.size v' ((s.C.take (k + 1)).map (up key)) := by
          unfold RC
          rw [hsn, flatC_append, List.length_append, hll]
          exact hown5
        have ho5 : Only w2 w5 (fun _ => False) := new_below ((hoA.trans (Only.alloc _ _ _)).trans (Only.alloc _ _ _)) hgrow5 (Nat.le_refl _) (fun j hj => (hgl4 j hj).1)
        clear hown5 hst hgrow5 hgl4
        go_wp2
        go_roundw
        case rel => exact ⟨k + 1, q, by omega, by go_num, rfl, (by rw [Hid, HKS.out]; exact ⟨fun h => .inl (hq.out.1 h), fun h => h.elim (fun h => hq.out.2 h) (fun h => absurd h HE.out)⟩), hst5, ho5⟩
        case measure => simp [intOf]; omega
    · have e : k = s.C.length := by omega
      subst e
      rw [List.take_length] at hst hq
      have iN : IntKind.i64.wrap ((s.n : Int) + 1) = (s.n : Int) + 1 := IntWalk.i64_in _ (by omega)
      cases q with
      | true =>
        rw [← count1_there hg.1 (hq.out.1 rfl)] at hst
        clear q1 q2 hc hcl
        obtain ⟨sp2, cap2, rfl, _⟩ := hst.shape
        generalize hn1 : (count1 s.C key).length = n1 at hst ⊢
        obtain ⟨z0, z1, z2, z3⟩ := cells4 k0
        obtain ⟨y0, y1, y2, y3⟩ := cells4 k1
        have fr2 := free_arr k0 2
        have fr3 := free_arr k0 3
        have g0 := free_arr k1 0
        have g1 := free_arr k1 1
        have g2 := free_arr k1 2
        have g3 := free_arr k1 3
        have hlb := lt_of_block k0
        have hlb2 := lt_of_block k1
        have hr1 : Ref wr (.slice sp s.T.length cap) (.slice sp2 n1 cap2) (countedC s key) := ⟨(href.only ho).1, (by rw [← hn1] at hst; rw [← hn1]; exact own_base hst), HSM.out⟩
        have hr2 := hr1.set ⟨_, k0⟩ 2 (.slice sp2 n1 cap2)
        have hr3 := hr2.set (Box.set ⟨_, k0⟩ _ _ _) 3 (.int .i64 ((s.n : Int) + 1))
        have k1' : (wr.setCell ⟨w.heap.size, 2, none⟩ (.slice sp2 n1 cap2)).heap[w.heap.size + 1]? = _ := (Below.heap_setCell _ _ _ _ (by simp)).trans k1
        have k1'' : ((wr.setCell ⟨w.heap.size, 2, none⟩ (.slice sp2 n1 cap2)).setCell ⟨w.heap.size, 3, none⟩ (.int .i64 ((s.n : Int) + 1))).heap[w.heap.size + 1]? = _ := (Below.heap_setCell _ _ _ _ (by simp)).trans k1'
        have hr4 := hr3.set4 ⟨_, k1''⟩ (.int .i64 s.size) (.slice sp s.T.length cap) (.slice sp2 n1 cap2) (.int .i64 ((s.n : Int) + 1))
        obtain ⟨e0, e1, e2, e3⟩ := cells4 (store4 (x := .int .i64 s.size) (y := (.slice sp s.T.length cap)) (z := .slice sp2 n1 cap2) (u := .int .i64 ((s.n : Int) + 1)) k1'')
        have hoE := only_set4 (x := .int .i64 s.size) (y := (.slice sp s.T.length cap)) (z := .slice sp2 n1 cap2) (u := .int .i64 ((s.n : Int) + 1)) (only_set (only_set ho (b := w.heap.size) (Nat.le_refl _) 2 (.slice sp2 n1 cap2)) (b := w.heap.size) (Nat.le_refl _) 3 (.int .i64 ((s.n : Int) + 1))) (b := w.heap.size + 1) (by omega)
        obtain ⟨W5, hW5⟩ : ∃ W5, W5 = ((((((wr.setCell ⟨w.heap.size, 2, none⟩ (.slice sp2 n1 cap2)).setCell ⟨w.heap.size, 3, none⟩ (.int .i64 ((s.n : Int) + 1))).setCell ⟨w.heap.size + 1, 0, none⟩ (.int .i64 s.size)).setCell ⟨w.heap.size + 1, 1, none⟩ (.slice sp s.T.length cap)).setCell ⟨w.heap.size + 1, 2, none⟩ (.slice sp2 n1 cap2)).setCell ⟨w.heap.size + 1, 3, none⟩ (.int .i64 ((s.n : Int) + 1))) := ⟨_, rfl⟩
        rw [← hW5] at e0 e1 e2 e3 hr4 hoE
        have HW5 := Lib.hid hW5
        have HE := Lib.hid (And.intro hr4 hoE)
        clear hr1 hr2 hr3 hr4 hoE hst k0 k1 k1' k1'' ho hW5 hn1
        go_wp2
        rw [← HW5.out]
        refine bodyPost_ret (v := .agg #[.int .i64 s.size, (.slice sp s.T.length cap), .slice sp2 n1 cap2, .int .i64 ((s.n : Int) + 1)]) ?_ rfl ?_
        · simp [results, Try.results28, go_sem, e0, e1, e2, e3]
        · exact ⟨_, rfl, HE.out.1, HE.out.2⟩
      | false =>
        have hnk : key ∉ s.C.map (·.1) := fun e => by have := hq.out.2 e; cases this
        have hcn := count1_new hnk
        have hgl4 := World.ownsRow.lt hst
        have hos := hoA.size
        have hml : (s.C.map (up key)).length = s.C.length := by simp
        unfold RC at hst
        rw [hml] at hst
        obtain ⟨x0, x1, x2, x3⟩ := cells4 k0
        have hlb := lt_of_block k0
        have hUl := Lib.hid hml
        generalize s.C.map (up key) = U at hst hcn hUl hml
        clear hml
        clear k0 k1
        go_wp2_with (at_builtin; refine wpList_app elC w2.heap.size rfl _ _ rfl _ s.C.length _ _ 1 1 [.string key, .int .i64 1] rfl rfl (hst.alloc _) (by simp; omega) ⟨rfl, (fun h => by cases h), (fun ad had j u hj => by obtain rfl := Option.some.inj had; exact news2C _ _ _ j u hj)⟩ (by simp [Value.oneCell']) (by omega) ?_)
        intro v' w5 hown5 hgrow5
        have hst : RC w5 w2.heap.size v' (count1 s.C key) := by
          unfold RC
          rw [hcn, flatC_append, List.length_append]
          rw [show U.length = s.C.length from hUl.out]
          exact hown5
        have hoA : Only w2 w5 (fun _ => False) := new_below (hoA.trans (Only.alloc _ _ _)) hgrow5 (Nat.le_refl _) (fun j hj => (hgl4 j hj).1)
        have ho := q0.trans hoA
        have k0 := hoA.keep q1 (fun h => h)
        have k1 := hoA.keep q2 (fun h => h)
        clear hown5 hgrow5 hgl4 q1 q2 hc hcl hcn x0 x1 x2 x3 hlb
        obtain ⟨sp2, cap2, rfl, _⟩ := hst.shape
        generalize hn1 : (count1 s.C key).length = n1 at hst ⊢
        obtain ⟨z0, z1, z2, z3⟩ := cells4 k0
        obtain ⟨y0, y1, y2, y3⟩ := cells4 k1
        have fr2 := free_arr k0 2
        have fr3 := free_arr k0 3
        have g0 := free_arr k1 0
        have g1 := free_arr k1 1
        have g2 := free_arr k1 2
        have g3 := free_arr k1 3
        have hlb := lt_of_block k0
        have hlb2 := lt_of_block k1
        have hr1 : Ref w5 (.slice sp s.T.length cap) (.slice sp2 n1 cap2) (countedC s key) := ⟨(href.only ho).1, (by rw [← hn1] at hst; rw [← hn1]; exact own_base hst), HSM.out⟩
        have hr2 := hr1.set ⟨_, k0⟩ 2 (.slice sp2 n1 cap2)
        have hr3 := hr2.set (Box.set ⟨_, k0⟩ _ _ _) 3 (.int .i64 ((s.n : Int) + 1))
        have k1' : (w5.setCell ⟨w.heap.size, 2, none⟩ (.slice sp2 n1 cap2)).heap[w.heap.size + 1]? = _ := (Below.heap_setCell _ _ _ _ (by simp)).trans k1
        have k1'' : ((w5.setCell ⟨w.heap.size, 2, none⟩ (.slice sp2 n1 cap2)).setCell ⟨w.heap.size, 3, none⟩ (.int .i64 ((s.n : Int) + 1))).heap[w.heap.size + 1]? = _ := (Below.heap_setCell _ _ _ _ (by simp)).trans k1'
        have hr4 := hr3.set4 ⟨_, k1''⟩ (.int .i64 s.size) (.slice sp s.T.length cap) (.slice sp2 n1 cap2) (.int .i64 ((s.n : Int) + 1))
        obtain ⟨e0, e1, e2, e3⟩ := cells4 (store4 (x := .int .i64 s.size) (y := (.slice sp s.T.length cap)) (z := .slice sp2 n1 cap2) (u := .int .i64 ((s.n : Int) + 1)) k1'')
        have hoE := only_set4 (x := .int .i64 s.size) (y := (.slice sp s.T.length cap)) (z := .slice sp2 n1 cap2) (u := .int .i64 ((s.n : Int) + 1)) (only_set (only_set ho (b := w.heap.size) (Nat.le_refl _) 2 (.slice sp2 n1 cap2)) (b := w.heap.size) (Nat.le_refl _) 3 (.int .i64 ((s.n : Int) + 1))) (b := w.heap.size + 1) (by omega)
        obtain ⟨W5, hW5⟩ : ∃ W5, W5 = ((((((w5.setCell ⟨w.heap.size, 2, none⟩ (.slice sp2 n1 cap2)).setCell ⟨w.heap.size, 3, none⟩ (.int .i64 ((s.n : Int) + 1))).setCell ⟨w.heap.size + 1, 0, none⟩ (.int .i64 s.size)).setCell ⟨w.heap.size + 1, 1, none⟩ (.slice sp s.T.length cap)).setCell ⟨w.heap.size + 1, 2, none⟩ (.slice sp2 n1 cap2)).setCell ⟨w.heap.size + 1, 3, none⟩ (.int .i64 ((s.n : Int) + 1))) := ⟨_, rfl⟩
        rw [← hW5] at e0 e1 e2 e3 hr4 hoE
        have HW5 := Lib.hid hW5
        have HE := Lib.hid (And.intro hr4 hoE)
        clear hr1 hr2 hr3 hr4 hoE hst k0 k1 k1' k1'' ho hW5 hn1
        go_wp2
        rw [← HW5.out]
        refine bodyPost_ret (v := .agg #[.int .i64 s.size, (.slice sp s.T.length cap), .slice sp2 n1 cap2, .int .i64 ((s.n : Int) + 1)]) ?_ rfl ?_
        · simp [results, Try.results28, go_sem, e0, e1, e2, e3]
        · exact ⟨_, rfl, HE.out.1, HE.out.2⟩

end Go.Proofs.Ytgmelphklppcbaa
