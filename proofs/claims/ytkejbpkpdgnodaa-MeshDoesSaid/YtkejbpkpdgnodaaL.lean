/- The document's Send, Take, Double, Move, Count. -/
import Derived.Test.YtkejbpkpdgnodaaK
import Derived.Deep.DeepCutAuto
namespace Go.Proofs.Ytkejbpkpdgnodaa
open Go.RowKit

/-- A row of the call's own reads as L. -/
def Rw (w : World) (v : Value) (L : List ByteArray) : Prop := w.ownsRow 0 9 1 v L.length (L.map Value.string)
theorem Rw.below {w w' : World} {v : Value} {L : List ByteArray} (h : Rw w v L) (hb : Below w.heap.size w w') : Rw w' v L := own_below h hb

theorem srcs_one (w : World) (s : ByteArray) : Srcs (w.alloc (.cells #[.string s] 9)) (some ⟨w.heap.size, 0, none⟩) 1 1 [.string s] := by
  refine ⟨rfl, (fun h => by cases h), ?_⟩
  intro ad had j u hu
  obtain rfl := Option.some.inj had
  rw [Addr.add_lit, Nat.zero_add, cell_arr (xs := [.string s]) (heap_alloc_new _ _)]
  exact hu

/-- Both cells of a block of two, stored. -/
theorem store2 {w : World} {b : Nat} {p q x y : Value} {t : TypeId} (h : w.heap[b]? = some (.cells #[p, q] t (0, 0))) : ((w.setCell ⟨b, 0, none⟩ x).setCell ⟨b, 1, none⟩ y).heap[b]? = some (.cells #[x, y] t (0, 0)) := by
  rw [heap_set (heap_set h 0 x) 1 y]; rfl
theorem cells2 {w : World} {b : Nat} {p q : Value} {t : TypeId} (h : w.heap[b]? = some (.cells #[p, q] t (0, 0))) : w.cell? ⟨b, 0, none⟩ = some p ∧ w.cell? ⟨b, 1, none⟩ = some q := by
  simp [World.cell?, h]
/-- What lies below B is left by stores from B on; a row that is owned stays so. -/
theorem Rw.set {w : World} {v : Value} {L : List ByteArray} (h : Rw w v L) {b j : Nat} {u : Value} {xs : Array Value} {t : TypeId} (hb : w.heap[b]? = some (.cells xs t (0, 0))) (ht : t ≠ 9) : Rw (w.setCell ⟨b, j, none⟩ u) v L :=
  ownsRow_setCell_other h (own_ne hb h ht) u

theorem own_base {w : World} {base e size n : Nat} {v : Value} {xs : List Value} (h : w.ownsRow base e size v n xs) : w.ownsRow 0 e size v n xs := by
  refine ⟨h.1, ?_⟩
  rcases h.2 with hn | ⟨g, cap, cur, rfl, _, rest⟩
  · exact .inl hn
  · exact .inr ⟨g, cap, cur, rfl, Nat.zero_le _, rest⟩

def RSendEnd (room : Int) (L : List ByteArray) (s : ByteArray) (w : World) (e : Ending) (w' : World) : Prop :=
  ∃ rv, e = .returned (.tuple #[.agg #[.int .i64 room, rv], .bool (sentB room L)]) ∧ Rw w' rv (sentL room L s) ∧ Below w.heap.size w w'

set_option maxHeartbeats 1600000 in
theorem rsend_any (room : Int) (rv : Value) (L : List ByteArray) (s : ByteArray) (w : World) (hr : Rw w rv L) (hL : L.length ≤ 100) :
    Calls Try.prog 23 #[.agg #[.int .i64 room, rv], .string s] w (RSendEnd room L s w) := by
  obtain ⟨sp, cap, rfl⟩ := own_shape hr
  by_cases hlt : (L.length : Int) < room
  · have HY := Lib.hid (And.intro (sentB_yes hlt) (sentL_yes (s := s) hlt))
    go_enter Try.func23, Try.ntmps23
    go_upto_region 3 with fail
    obtain ⟨q1, q2, q3, q4⟩ := two w (Obj.cells #[Value.int IntKind.i64 room, Value.slice sp L.length cap] 29) (Obj.cells #[Value.int IntKind.i64 0, Value.slice none 0 0] 29)
    generalize ((w.alloc (Obj.cells #[Value.int IntKind.i64 room, Value.slice sp L.length cap] 29)).alloc (Obj.cells #[Value.int IntKind.i64 0, Value.slice none 0 0] 29)) = w0 at q1 q2 q3 q4 ⊢
    have c1 : w0.cell? ⟨w.heap.size, 1, none⟩ = some (.slice sp L.length cap) := by simp [World.cell?, q2]
    have c1' : (w0.alloc (.cells #[] 9)).cell? ⟨w.heap.size, 1, none⟩ = some (.slice sp L.length cap) := by
      rw [World.cell?_alloc_past _ _ _ (by show w.heap.size < _; omega)]; exact c1
    have b0 : Below w.heap.size w w0 := q1.below (Nat.le_refl _) (fun _ h => h.elim)
    have q5 : w.heap.size + 1 < w0.heap.size := by omega
    clear q4
    have hown0 : (w0.alloc (.cells #[] 9)).ownsRow w.heap.size 9 1 (.slice (some ⟨w0.heap.size, 0, none⟩) 0 0) 0 [] := World.ownsRow_made w0 #[] 0 (by omega) (by unfold maxLen; omega) rfl
    have hsrc := srcs_all hr (b0.alloc (by omega) (.cells #[] 9))
    have hbs0 : w.heap.size ≤ (w0.alloc (.cells #[] 9)).heap.size := by simp; omega
    go_wp2_with (at_builtin; refine wpList_app w.heap.size rfl (.tmp 13) (.tmp 15) rfl (.slice (some ⟨w0.heap.size, 0, none⟩) 0 0) 0 [] _ _ _ (L.map Value.string) rfl rfl hown0 hbs0 hsrc (strs_one L) (by omega) ?_)
    intro v1 w1 hown1 hgrow1
    have o1 : Only w0 w1 (fun k => k = w0.heap.size) := (Only.alloc w0 (.cells #[] 9) _).trans (Only.of_grown hgrow1)
    have k2 := o1.keep q2 (by omega)
    have k3 := o1.keep q3 (by omega)
    have b1 : Below w.heap.size w w1 := b0.trans (o1.below (by omega) (fun i hi => by omega))
    have hsz1 := o1.size
    clear hown0 hsrc hgrow1 o1 q2 q3 c1 c1'
    have hown1a := hown1.alloc (.cells #[.string s] 9)
    have hsrc2 := srcs_one w1 s
    have hbs1 : w.heap.size ≤ (w1.alloc (.cells #[.string s] 9)).heap.size := by simp; omega
    go_wp2_with (at_builtin; refine wpList_app w.heap.size rfl (.tmp 16) (.tmp 18) rfl v1 L.length (L.map Value.string) _ _ _ [.string s] rfl rfl hown1a hbs1 hsrc2 (by simp [Value.oneCell']) (by omega) ?_)
    intro v2 w2 hown2 hgrow2
    have hsz2 := hgrow2.size
    have n2 := own_ne k2 hown1 (by decide)
    have n3 := own_ne k3 hown1 (by decide)
    have b2 : Below w.heap.size w w2 := (b1.alloc b1.size _).grown hgrow2 hbs1 (fun g hg => (hown1.lt g hg).1)
    have k4 := (hgrow2.block w.heap.size (by simp; omega) (Ne.symm n2)).trans ((Below.heap_alloc _ _ _ (by omega)).trans k2)
    have k5 := (hgrow2.block (w.heap.size + 1) (by simp; omega) (Ne.symm n3)).trans ((Below.heap_alloc _ _ _ (by omega)).trans k3)
    obtain ⟨sp2, cap2, rfl⟩ := own_shape hown2
    have f0 := free_arr k4 1
    have c0 : w2.cell? ⟨w.heap.size, 0, none⟩ = some (.int .i64 room) := by simp [World.cell?, k4]
    have c1 : w2.cell? ⟨w.heap.size, 1, none⟩ = some (.slice sp L.length cap) := by simp [World.cell?, k4]
    have c2 : w2.cell? ⟨w.heap.size + 1, 0, none⟩ = some (.int .i64 0) := by simp [World.cell?, k5]
    have c3 : w2.cell? ⟨w.heap.size + 1, 1, none⟩ = some (.slice none 0 0) := by simp [World.cell?, k5]
    have f2 := free_arr k5 0
    have f3 := free_arr k5 1
    clear hown1 hown1a hsrc2 hgrow2 k2 k3 n2 n3 b1 hr
    go_wp2
    have hw2 : Rw w2 (.slice sp2 (L.length + 1) cap2) (L ++ [s]) := by
      have e : (L ++ [s]).length = L.length + 1 := by simp
      have e2 : (L ++ [s]).map Value.string = L.map Value.string ++ [.string s] := by simp
      unfold Rw
      rw [e, e2]
      exact own_base hown2
    have p1 := hw2.set (j := 1) (u := .slice sp2 (L.length + 1) cap2) k4 (by decide)
    have k6 : (w2.setCell ⟨w.heap.size, 1, none⟩ (.slice sp2 (L.length + 1) cap2)).heap[w.heap.size + 1]? = _ := (Below.heap_setCell _ _ _ _ (by simp)).trans k5
    have p2 := p1.set (j := 0) (u := .int .i64 room) k6 (by decide)
    have p3 := p2.set (j := 1) (u := .slice sp2 (L.length + 1) cap2) (heap_set k6 0 _) (by decide)
    obtain ⟨e0, e1⟩ := cells2 (store2 (x := .int .i64 room) (y := .slice sp2 (L.length + 1) cap2) k6)
    refine bodyPost_ret (v := .tuple #[.agg #[.int .i64 room, .slice sp2 (L.length + 1) cap2], .bool true]) ?_ rfl ?_
    · simp [results, Try.results23, go_sem, e0, e1]
    · refine ⟨.slice sp2 (L.length + 1) cap2, by rw [HY.out.1], by rw [HY.out.2]; exact p3, ((b2.setCell (by show w.heap.size ≤ w.heap.size; omega) _).setCell (by show w.heap.size ≤ w.heap.size + 1; omega) _).setCell (by show w.heap.size ≤ w.heap.size + 1; omega) _⟩
  · have HN := Lib.hid (And.intro (sentB_no hlt) (sentL_no (s := s) hlt))
    have hge : room ≤ (L.length : Int) := by omega
    go_enter Try.func23, Try.ntmps23
    have o2 := two w (Obj.cells #[Value.int IntKind.i64 room, Value.slice sp L.length cap] 29) (Obj.cells #[Value.int IntKind.i64 room, Value.slice sp L.length cap] 29)
    have O2 := Lib.hid o2
    obtain ⟨e0, e1⟩ := cells2 o2.2.2.1
    clear o2
    go_wp2
    refine bodyPost_ret (v := .tuple #[.agg #[.int .i64 room, .slice sp L.length cap], .bool false]) ?_ rfl ?_
    · simp [results, Try.results23, go_sem, e0, e1]
    · exact ⟨.slice sp L.length cap, by rw [HN.out.1], by rw [HN.out.2]; exact hr.below (O2.out.1.below (Nat.le_refl _) (fun _ h => h.elim)), O2.out.1.below (Nat.le_refl _) (fun _ h => h.elim)⟩

end Go.Proofs.Ytkejbpkpdgnodaa
