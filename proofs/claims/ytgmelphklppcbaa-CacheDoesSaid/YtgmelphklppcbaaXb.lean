/- The document's first. -/
import Derived.Test.YtgmelphklppcbaaXa
namespace Go.Proofs.Ytgmelphklppcbaa
open Go.RowKit

/-- A block that holds a cache of the document. -/
def Box (w : World) (b : Nat) : Prop := ∃ xs, w.heap[b]? = some (.cells xs 30 (0, 0))
theorem Box.set {w : World} {b : Nat} (h : Box w b) (b' j : Nat) (u : Value) : Box (w.setCell ⟨b', j, none⟩ u) b := by
  obtain ⟨xs, hb⟩ := h
  by_cases e : b = b'
  · subst e; exact ⟨_, heap_set hb j u⟩
  · exact ⟨xs, (Below.heap_setCell _ _ _ _ e).trans hb⟩
theorem Box.only {w w' : World} {b : Nat} (h : Box w b) (ho : Only w w' (fun _ => False)) : Box w' b := by
  obtain ⟨xs, hb⟩ := h
  exact ⟨xs, ho.keep hb (fun h => h)⟩
theorem Ref.set {w : World} {va vc : Value} {s : Ca} (h : Ref w va vc s) {b : Nat} (hb : Box w b) (j : Nat) (u : Value) : Ref (w.setCell ⟨b, j, none⟩ u) va vc s := by
  obtain ⟨xs, hb⟩ := hb
  exact ⟨ownsRow_setCell_other h.1 (own_ne hb h.1 (by decide)) u, ownsRow_setCell_other h.2.1 (own_ne hb h.2.1 (by decide)) u, h.2.2⟩
theorem Ref.set4 {w : World} {va vc : Value} {s : Ca} (h : Ref w va vc s) {b : Nat} (hb : Box w b) (x y z u : Value) :
    Ref ((((w.setCell ⟨b, 0, none⟩ x).setCell ⟨b, 1, none⟩ y).setCell ⟨b, 2, none⟩ z).setCell ⟨b, 3, none⟩ u) va vc s :=
  (((h.set hb 0 x).set (hb.set _ _ _) 1 y).set ((hb.set _ _ _).set _ _ _) 2 z).set (((hb.set _ _ _).set _ _ _).set _ _ _) 3 u
theorem only_set {w0 w : World} (h : Only w0 w (fun _ => False)) {b : Nat} (hb : w0.heap.size ≤ b) (j : Nat) (u : Value) : Only w0 (w.setCell ⟨b, j, none⟩ u) (fun _ => False) :=
  h.trans' (Only.setCell w b j u (fun k => k = b) rfl) (fun i hi e => by omega)

theorem two (w : World) (o1 o2 : Obj) : Only w ((w.alloc o1).alloc o2) (fun _ => False) ∧ ((w.alloc o1).alloc o2).heap[w.heap.size]? = some o1 ∧ ((w.alloc o1).alloc o2).heap[w.heap.size + 1]? = some o2 ∧ ((w.alloc o1).alloc o2).heap.size = w.heap.size + 2 := by
  refine ⟨(Only.alloc _ _ _).trans (Only.alloc _ _ _), ?_, ?_, by simp⟩
  · rw [Below.heap_alloc _ _ _ (by simp)]; exact heap_alloc_new _ _
  · have := heap_alloc_new (w.alloc o1) o2
    simpa using this
theorem three (w : World) (o1 o2 o3 : Obj) : Only w (((w.alloc o1).alloc o2).alloc o3) (fun _ => False) ∧ (((w.alloc o1).alloc o2).alloc o3).heap[w.heap.size]? = some o1 ∧ (((w.alloc o1).alloc o2).alloc o3).heap[w.heap.size + 1]? = some o2 ∧
    (((w.alloc o1).alloc o2).alloc o3).heap[w.heap.size + 1 + 1]? = some o3 ∧ (((w.alloc o1).alloc o2).alloc o3).heap.size = w.heap.size + 1 + 1 + 1 := by
  obtain ⟨h1, h2, h3, h4⟩ := two w o1 o2
  refine ⟨h1.trans (Only.alloc _ _ _), ?_, ?_, ?_, by simp⟩
  · rw [Below.heap_alloc _ _ _ (by omega)]; exact h2
  · rw [Below.heap_alloc _ _ _ (by omega)]; exact h3
  · have := heap_alloc_new ((w.alloc o1).alloc o2) o3
    rw [h4] at this
    exact this

/-- Without a key's things. -/
def dropK (T : Ts) (k : ByteArray) : Ts := T.filter (fun x => !decide (x.1 = k))
theorem dropK_snoc {T : Ts} {key : ByteArray} {k : Nat} (h : k < T.length) : dropK (T.take (k + 1)) key = dropK (T.take k) key ++ (if T[k].1 = key then [] else [T[k]]) := by
  rw [List.take_succ_eq_append_getElem h]
  unfold dropK
  rw [List.filter_append]
  congr 1
  by_cases e : T[k].1 = key
  · rw [if_pos e, List.filter_cons_of_neg (by simp [e])]; rfl
  · rw [if_neg e, List.filter_cons_of_pos (by simp [e])]; rfl
theorem dropK_length (T : Ts) (key : ByteArray) : (dropK T key).length ≤ T.length := List.length_filter_le _ _

theorem news2T (w : World) (x y : Value) : ∀ j u, [x, y][j]? = some u → (w.alloc (.cells #[x, y] 63)).cell? ((⟨w.heap.size, 0, none⟩ : Addr).add j) = some u := by
  intro j u hj
  rw [Addr.add_lit, Nat.zero_add]
  simp only [World.cell?, heap_alloc_new]
  simpa using hj

def firstC (s : Ca) (x : ByteArray × ByteArray) : Ca := { s with T := x :: dropK s.T x.1 }

set_option maxHeartbeats 1600000 in
theorem rfirst_any (va vc : Value) (s : Ca) (x : ByteArray × ByteArray) (w : World) (h : Ref w va vc s) (hroom : (dropK s.T x.1).length < 64) :
    Calls Try.prog 30 #[RV s va vc, .agg #[.string x.1, .string x.2]] w fun e w' => ∃ va', e = .returned (RV (firstC s x) va' vc) ∧ Ref w' va' vc (firstC s x) ∧ Only w w' (fun _ => False) := by
  have href := h
  obtain ⟨hT, hC, h64, hT64, hC64, hn⟩ := h
  obtain ⟨sp, cap, rfl, hc⟩ := hT.shape
  obtain ⟨spc, capc, rfl, _⟩ := hC.shape
  unfold RV
  obtain ⟨q0, q1, q2, q3, q4⟩ := three w (.cells #[.int .i64 s.size, .slice sp s.T.length cap, (.slice spc s.C.length capc), .int .i64 s.n] 30) (.cells #[.string x.1, .string x.2] 63) (.cells #[.int .i64 0, .slice none 0 0, .slice none 0 0, .int .i64 0] 30)
  obtain ⟨w3, hw3⟩ : ∃ w3, w3 = (((w.alloc (.cells #[.int .i64 s.size, .slice sp s.T.length cap, (.slice spc s.C.length capc), .int .i64 s.n] 30)).alloc (.cells #[.string x.1, .string x.2] 63)).alloc (.cells #[.int .i64 0, .slice none 0 0, .slice none 0 0, .int .i64 0] 30)) := ⟨_, rfl⟩
  rw [← hw3] at q0 q1 q2 q3 q4
  have HW3 := Lib.hid hw3
  clear hw3
  go_enter Try.func30, Try.ntmps30
  go_wp2
  rw [← HW3.out]
  have hone := own_one (w := w3) (base := w3.heap.size) (e := 63) (xs := [.string x.1, .string x.2]) (Nat.le_refl _)
  have oB := Only.alloc w3 (.cells [.string x.1, .string x.2].toArray 63) (fun k => w3.heap.size ≤ k)
  have oB' : Only w3 (w3.alloc (.cells #[.string x.1, .string x.2] 63)) (fun _ => False) := Only.alloc _ _ _
  have hst0 : RT (w3.alloc (.cells #[.string x.1, .string x.2] 63)) w3.heap.size (.slice (some ⟨w.heap.size + 1 + 1 + 1, 0, none⟩) 1 1) (x :: dropK (s.T.take 0) x.1) := by rw [← q4]; exact hone
  have Q0 := Lib.hid q0
  clear hone oB
  go_loopw [5, 6] (fun v i wr => ∃ k : Nat, k ≤ s.T.length ∧ i = .int .i64 k ∧ RT wr w3.heap.size v (x :: dropK (s.T.take k) x.1) ∧ Only w3 wr (fun _ => False)) (fun _ i _ => s.T.length - (intOf i).toNat)
  case atStart => exact ⟨0, Nat.zero_le _, rfl, hst0, oB'⟩
  case round =>
    obtain ⟨k, hk, rfl, hst, hoA⟩ := hrel
    have k0 := hoA.keep q1 (fun h => h)
    have k1 := hoA.keep q2 (fun h => h)
    have k2 := hoA.keep q3 (fun h => h)
    obtain ⟨x0, x1, x2, x3⟩ := cells4 k0
    obtain ⟨y0, y1⟩ := cells2 k1
    have hlb := lt_of_block k0
    have hlb1 := lt_of_block k1
    have ho := Q0.out.trans hoA
    have hlast : (x :: dropK (s.T.take k) x.1).length = (dropK (s.T.take k) x.1).length + 1 := rfl
    by_cases hlk : k < s.T.length
    · obtain ⟨g, rfl, hg, hc⟩ := hc (by omega)
      obtain ⟨c0, c1⟩ := hc k hlk
      have c0 := (World.cell?_of_block (a := ⟨g, k * 2, none⟩) (ho.block g hg (fun h => h))).trans c0
      have c1 := (World.cell?_of_block (a := ⟨g, k * 2 + 1, none⟩) (ho.block g hg (fun h => h))).trans c1
      have hgl : g < wr.heap.size := Nat.lt_of_lt_of_le hg ho.size
      have j0 : (0 : Int) ≤ (k : Int) := by omega
      have j1 : (k : Int) < (s.T.length : Int) := by omega
      have hsn := dropK_snoc (key := x.1) hlk
      have hdl := dropK_length (s.T.take k) x.1
      rw [List.length_take, Nat.min_eq_left (by omega)] at hdl
      clear hc hst0 q1 q2 q3 oB' k0 k1 k2
      by_cases he : s.T[k].1 = x.1
      · have t1 : (s.T[k].1.toList == x.1.toList) = true := text_eq.2 he
        have t2 : (s.T[k].1.toList != x.1.toList) = false := by rw [bne, t1]; rfl
        rw [if_pos he, List.append_nil] at hsn
        rw [← hsn] at hst
        clear he hsn
        go_upto_region 5 with fail
        go_quiet (fail)
        go_wp2
        go_roundw
        case rel => exact ⟨k + 1, by omega, by go_num, hst, hoA.drewN _⟩
        case measure => simp [intOf]; omega
      · have t1 : (s.T[k].1.toList == x.1.toList) = false := text_ne he
        have t2 : (s.T[k].1.toList != x.1.toList) = true := by rw [bne, t1]; rfl
        rw [if_neg he] at hsn
        clear he
        go_upto_region 5 with fail
        go_quiet (fail)
        have hgl4 := World.ownsRow.lt hst
        have hst : (wr.drewN nq).ownsRow w3.heap.size 63 2 _ ((dropK (s.T.take k) x.1).length + 1) (flat (x :: dropK (s.T.take k) x.1)) := hst
        have hoA : Only w3 (wr.drewN nq) (fun _ => False) := hoA.drewN _
        have c0 : (wr.drewN nq).cell? ⟨g, k * 2, none⟩ = some (.string s.T[k].1) := c0
        have c1 : (wr.drewN nq).cell? ⟨g, k * 2 + 1, none⟩ = some (.string s.T[k].2) := c1
        have x1 : (wr.drewN nq).cell? ⟨w.heap.size, 1, none⟩ = some (.slice (some ⟨g, 0, none⟩) s.T.length cap) := x1
        have hgl : g < (wr.drewN nq).heap.size := hgl
        have hlb : w.heap.size < (wr.drewN nq).heap.size := hlb
        clear x0 x2 x3 y0 y1 hlb1
        generalize wr.drewN nq = wd at hst hoA c0 c1 x1 hgl hlb ⊢
        have hos := hoA.size
        go_wp2_with (at_builtin; refine wpList_app elT w3.heap.size rfl _ _ rfl _ _ _ _ 1 1 [.string s.T[k].1, .string s.T[k].2] rfl rfl (hst.alloc _) (by simp; omega) ⟨rfl, (fun h => by cases h), (fun ad had j u hj => by obtain rfl := Option.some.inj had; exact news2T _ _ _ j u hj)⟩ (by simp [Value.oneCell']) (by omega) ?_)
        intro v' w5 hown5 hgrow5
        have hst5 : RT w5 w3.heap.size v' (x :: dropK (s.T.take (k + 1)) x.1) := by
          unfold RT
          rw [hsn, ← List.cons_append, flat_append, List.length_append, q4]
          exact hown5
        have ho5 : Only w3 w5 (fun _ => False) := new_below (hoA.trans (Only.alloc _ _ _)) hgrow5 (Nat.le_refl _) (fun j hj => (hgl4 j hj).1)
        clear hown5 hst hgrow5 hgl4
        go_wp2
        go_roundw
        case rel => exact ⟨k + 1, by omega, by go_num, hst5, ho5⟩
        case measure => simp [intOf]; omega
    · have e : k = s.T.length := by omega
      subst e
      rw [List.take_length] at hst
      obtain ⟨sp2, cap2, rfl, _⟩ := hst.shape
      generalize hn1 : (x :: dropK s.T x.1).length = n1 at hst ⊢
      have fr0 := free_arr k0 1
      have g0 := free_arr k2 0
      have g1 := free_arr k2 1
      have g2 := free_arr k2 2
      have g3 := free_arr k2 3
      obtain ⟨z0, z1, z2, z3⟩ := cells4 k2
      have hlb2 := lt_of_block k2
      have hr1 : Ref wr (.slice sp2 n1 cap2) (.slice spc s.C.length capc) (firstC s x) := ⟨own_base hst, (href.only ho).2.1, h64, (by show (x :: dropK s.T x.1).length ≤ 64; simp; omega), hC64, hn⟩
      have hr2 := hr1.set ⟨_, k0⟩ 1 (.slice sp2 n1 cap2)
      have k2' : (wr.setCell ⟨w.heap.size, 1, none⟩ (.slice sp2 n1 cap2)).heap[w.heap.size + 1 + 1]? = _ := (Below.heap_setCell _ _ _ _ (by simp; omega)).trans k2
      have hr3 := hr2.set4 ⟨_, k2'⟩ (.int .i64 s.size) (.slice sp2 n1 cap2) (.slice spc s.C.length capc) (.int .i64 s.n)
      obtain ⟨e0, e1, e2, e3⟩ := cells4 (store4 (x := .int .i64 s.size) (y := .slice sp2 n1 cap2) (z := .slice spc s.C.length capc) (u := .int .i64 s.n) k2')
      have hoE := only_set4 (x := .int .i64 s.size) (y := .slice sp2 n1 cap2) (z := .slice spc s.C.length capc) (u := .int .i64 s.n) (only_set ho (b := w.heap.size) (by omega) 1 (.slice sp2 n1 cap2)) (b := w.heap.size + 1 + 1) (by omega)
      obtain ⟨W5, hW5⟩ : ∃ W5, W5 = (((((wr.setCell ⟨w.heap.size, 1, none⟩ (.slice sp2 n1 cap2)).setCell ⟨w.heap.size + 1 + 1, 0, none⟩ (.int .i64 s.size)).setCell ⟨w.heap.size + 1 + 1, 1, none⟩ (.slice sp2 n1 cap2)).setCell ⟨w.heap.size + 1 + 1, 2, none⟩ (.slice spc s.C.length capc)).setCell ⟨w.heap.size + 1 + 1, 3, none⟩ (.int .i64 s.n)) := ⟨_, rfl⟩
      rw [← hW5] at e0 e1 e2 e3 hr3 hoE
      have HW5 := Lib.hid hW5
      have HE := Lib.hid (And.intro hr3 hoE)
      clear hr1 hr2 hr3 hoE hst hst0 q1 q2 q3 oB' k0 k1 k2 hc k2' hoA ho hW5 hn1
      go_wp2
      rw [← HW5.out]
      refine bodyPost_ret (v := .agg #[.int .i64 s.size, .slice sp2 n1 cap2, (.slice spc s.C.length capc), .int .i64 s.n]) ?_ rfl ?_
      · simp [results, Try.results30, go_sem, e0, e1, e2, e3]
      · exact ⟨_, rfl, HE.out.1, HE.out.2⟩

end Go.Proofs.Ytgmelphklppcbaa
