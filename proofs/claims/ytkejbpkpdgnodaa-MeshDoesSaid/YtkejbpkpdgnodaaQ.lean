/- The walk of MeshDoes. -/
import Derived.Test.YtkejbpkpdgnodaaP
import Derived.Test.YtkejbpkpdgnodaaDoubles
namespace Go.Proofs.Ytkejbpkpdgnodaa
open Go.RowKit

theorem Rw.reads {w : World} {sp : Option Addr} {cap : Nat} {L : List ByteArray} (h : Rw w (.slice sp L.length cap) L) : Reads w sp L := by
  intro h0
  obtain ⟨g, rfl, hg, hc⟩ := own_src h h0
  exact ⟨g, 0, rfl, hg, fun j hj => by rw [Nat.zero_add]; exact hc j _ (by simp [hj])⟩

/-- Mesh and row hold the same texts. -/
structure St (w0 w : World) (m rb : Nat) (room : Int) (sp : Option Addr) (cap : Nat) (L : List ByteArray) : Prop where
  row : w.heap[rb]? = some (.cells #[.int .i64 room, .slice sp L.length cap] 29 (0, 0))
  own : Rw w (.slice sp L.length cap) L
  mesh : IsMesh w m room L
  below : Below w0.heap.size w0 w
  m0 : w0.heap.size ≤ m
  r0 : w0.heap.size ≤ rb
  ne : rb ≠ m

theorem IsMesh.of_below {w w' : World} {m : Nat} {room : Int} {L : List ByteArray} (h : IsMesh w m room L) (hb : Below w.heap.size w w') : IsMesh w' m room L :=
  (Only.of_below (fun _ => False) hb).mesh h (fun _ h => h.elim)
theorem IsMesh.set {w : World} {m b j : Nat} {u : Value} {room : Int} {L : List ByteArray} {xs : Array Value} {t : TypeId} (h : IsMesh w m room L) (hb : w.heap[b]? = some (.cells xs t (0, 0))) (h9 : t ≠ 9) (hne : b ≠ m) : IsMesh (w.setCell ⟨b, j, none⟩ u) m room L :=
  (Only.setCell w b j u (· = b) rfl).mesh1 h hb h9 hne

theorem St.of_do {w0 w w' : World} {m rb : Nat} {room : Int} {sp : Option Addr} {cap : Nat} {L : List ByteArray} (h : St w0 w m rb room sp cap L) (o : Only w w' (· = m)) : w'.heap[rb]? = some (.cells #[.int .i64 room, .slice sp L.length cap] 29 (0, 0)) ∧ Rw w' (.slice sp L.length cap) L ∧ Below w0.heap.size w0 w' := by
  obtain ⟨v, hb, ho⟩ := h.mesh
  exact ⟨o.keep h.row h.ne, o.own h.own (fun g hg e => own_ne hb h.own (by decide) (e ▸ hg)), below_only h.below o h.below.size h.m0⟩

set_option maxHeartbeats 3200000 in
set_option maxRecDepth 100000 in
theorem does_any (room : Int) (s : ByteArray) (sp : Option Addr) (cap : Nat) (l : List MAct) (w : World) (hl : ReadsA w sp l) (hmax : l.length ≤ maxLen) :
    Calls Try.prog 3 #[.int .i64 room, .slice sp l.length cap, .string s] w fun e w' => e = .returned (.bool true) ∧ Below w.heap.size w w' := by
  have hmax0 := hmax
  obtain ⟨r, hrr⟩ : ∃ r : Nat, min (max room 1) 64 = (r : Int) := ⟨(min (max room 1) 64).toNat, by omega⟩
  have hr1 : (r : Int) ≤ 64 := by omega
  unfold maxLen at hmax
  have hmax : l.length ≤ 9223372036854775807 := by omega
  have HRN := Lib.hid (fun W => rnew_any room W)
  go_enter Try.func3, Try.ntmps3
  go_wp2_with fail
  refine (works_any w).mono ?_
  rintro e w1 ⟨rfl, o1⟩
  go_wp2_with fail
  refine (new_any _ w1).mono ?_
  rintro e w2 ⟨rfl, m2, o2⟩
  have b2 : Below w.heap.size w w2 := (o1.below (Nat.le_refl _) (fun _ h => h.elim)).trans (o2.below o1.size (fun _ h => h.elim))
  have hs1 := o1.size
  rw [hrr] at m2
  generalize w1.heap.size = m at m2 o2 hs1 ⊢
  have hmw := m2.lt
  clear o1 o2
  go_wp2_with fail
  refine (few_any sp cap l w2 (hl.below b2) hmax0).mono ?_
  rintro e w3 ⟨fb, rfl, hfb, rfl⟩
  cases fb with
  | false =>
    clear hfb
    go_wp2
    go_ret
    exact ⟨rfl, b2⟩
  | true =>
    have hfew := hfb rfl
    clear hfb
    by_cases hs : 100 < s.size
    · go_wp2
      go_ret
      exact ⟨rfl, b2⟩
    · go_wp2_with fail
      refine (HRN.out w2).mono ?_
      rintro e w3 ⟨rfl, b3⟩
      rw [hrr]
      have m3 := m2.of_below b3
      have hb3 := b2.trans (b3.mono b2.size)
      go_wp2_with fail
      have hst : St w (w3.alloc (.cells #[.int .i64 r, .slice none 0 0] 29)) m w3.heap.size r none 0 [] :=
        ⟨heap_alloc_new _ _, rw_nil _, m3.of_below ((Below.refl _ _).alloc (Nat.le_refl _) _), hb3.alloc hb3.size _, hs1, hb3.size, by have := m3.lt; omega⟩
      generalize w3.heap.size = rb at hst ⊢
      clear b2 b3 hb3 m2 m3 hmw hrr HRN
      go_loopw [11] (fun i wr => ∃ (k : Nat) (sr : Option Addr) (cr : Nat) (L : List ByteArray), k ≤ l.length ∧ i = .int .i64 k ∧ (L.length : Int) ≤ r ∧ St w wr m rb r sr cr L) (fun i _ => l.length - (intOf i).toNat)
      case atStart => exact ⟨0, none, 0, [], Nat.zero_le _, rfl, by simp, hst⟩
      case round =>
        obtain ⟨k, sr, cr, L, hk, rfl, hL, hq⟩ := hrel
        by_cases hlk : k < l.length
        · obtain ⟨b, off, rfl, hbl, hc⟩ := hl (by omega)
          obtain ⟨c0, c1, c2, c3⟩ := hc k hlk
          have c0 := (hq.below.cell (p := ⟨b, off + k * 4, none⟩) hbl).trans c0
          have c1 := (hq.below.cell (p := ⟨b, off + k * 4 + 1, none⟩) hbl).trans c1
          have c2 := (hq.below.cell (p := ⟨b, off + k * 4 + 2, none⟩) hbl).trans c2
          have c3 := (hq.below.cell (p := ⟨b, off + k * 4 + 3, none⟩) hbl).trans c3
          have hwb := hq.below.size
          clear hst
          go_wp2_with fail
          refine (do_any m r l[k] L wr hq.mesh (by omega) (by omega)).mono ?_
          rintro e w4 ⟨rfl, m4, o4⟩
          have d0 := (cell_only (a := ⟨b, off + k * 4, none⟩) o4 (by show b < _; omega) (by show b ≠ m; have := hq.m0; omega)).trans c0
          have d1 := (cell_only (a := ⟨b, off + k * 4 + 1, none⟩) o4 (by show b < _; omega) (by show b ≠ m; have := hq.m0; omega)).trans c1
          have d2 := (cell_only (a := ⟨b, off + k * 4 + 2, none⟩) o4 (by show b < _; omega) (by show b ≠ m; have := hq.m0; omega)).trans c2
          have d3 := (cell_only (a := ⟨b, off + k * 4 + 3, none⟩) o4 (by show b < _; omega) (by show b ≠ m; have := hq.m0; omega)).trans c3
          obtain ⟨k4, r4, b4⟩ := hq.of_do o4
          obtain ⟨y0, y1⟩ := cells2 k4
          have hr0 := hq.r0
          have hm0 := hq.m0
          have hne := hq.ne
          have hb4 := b4.size
          have hlm := m4.lt
          have hlr := lt_of_block k4
          have hbb : b < w4.heap.size := by omega
          have i0 : (0 : Int) ≤ (k : Int) := by omega
          have i1 : (k : Int) < (l.length : Int) := by omega
          clear c0 c1 c2 c3 hc hq o4
          have BA := Lib.hid ((Below.refl w4.heap.size w4).drew)
          have BB := Lib.hid (((Below.refl w4.heap.size w4).alloc (Nat.le_refl _) (.cells #[.int .i64 0, .slice none 0 0] 29)).drew)
          have HB := Lib.hid (fun (W : World) (hB : Below w4.heap.size w4 W) => by_any r (.slice sr L.length cr) l[k] L W (r4.below hB) (by omega))
          have HLL := Lib.hid (length_doL (room := (r : Int)) (a := l[k]) (L := L) hL)
          obtain ⟨n5, hn5⟩ : ∃ n5, n5 = (doL r l[k] L).length := ⟨_, rfl⟩
          have HN5 := Lib.hid hn5
          clear hn5
          have HNB := Lib.hid (heap_alloc_new w4 (.cells #[.int .i64 0, .slice none 0 0] 29))
          have HLT : w4.heap.size < (w4.alloc (.cells #[.int .i64 0, .slice none 0 0] 29)).heap.size := by simp
          go_upto_region 13 with fail
          go_cut [14, 15, 16] from 57 to 66 (fun v14 v15 v16 wx => ∃ (b14 : Nat) (s5 : Option Addr) (c5 : Nat), v14 = .pointer (some ⟨b14, 0, none⟩) ∧ v15 = .string (doS l[k] L) ∧ v16 = .bool (doB r l[k] L) ∧
            wx.heap[b14]? = some (.cells #[.int .i64 r, .slice s5 n5 c5] 29 (0, 0)) ∧ Rw wx (.slice s5 n5 c5) (doL r l[k] L) ∧ Below w4.heap.size w4 wx ∧ w4.heap.size ≤ b14)
          case first =>
            go_region_with (first
              | (go_at_call 13; refine (HB.out _ BA.out).mono ?_; rintro e w5 ⟨rv5, rfl, r5, b5⟩; have B5 := BA.out.trans (Below.mono b5 (Nat.le_refl _)); obtain ⟨s5, c5, rfl⟩ := own_shape r5; rw [← HN5.out] at r5; rw [← HN5.out]; have f0 := free_arr (heap_alloc_new w5 (.cells #[.int .i64 0, .slice none 0 0] 29)) 0; have f1 := free_arr (heap_alloc_new w5 (.cells #[.int .i64 0, .slice none 0 0] 29)) 1)
              | (go_at_call 13; refine (HB.out _ BB.out).mono ?_; rintro e w5 ⟨rv5, rfl, r5, b5⟩; have K5 := (b5.block w4.heap.size HLT).trans HNB.out; have B5 := BB.out.trans (Below.mono b5 (Nat.le_of_lt HLT)); obtain ⟨s5, c5, rfl⟩ := own_shape r5; rw [← HN5.out] at r5; rw [← HN5.out]; have f0 := free_arr K5 0; have f1 := free_arr K5 1; obtain ⟨x0, x1⟩ := cells2 K5))
            all_goals
              go_wp2_with fail
              go_meet
              first
                | exact ⟨_, s5, c5, rfl, rfl, rfl, heap_alloc_new _ _, r5.below ((Below.refl _ _).alloc (Nat.le_refl _) _), B5.alloc B5.size _, B5.size⟩
                | exact ⟨_, s5, c5, rfl, rfl, rfl, store2 K5, (byd_last K5 (Nat.le_refl _) r5 B5).2.1, (byd_last K5 (Nat.le_refl _) r5 B5).2.2, Nat.le_refl _⟩
          case rest =>
            obtain ⟨b14, s5, c5, rfl, rfl, rfl, g1, g2, g3, g4⟩ := hcut
            obtain ⟨x0, x1⟩ := cells2 g1
            have k5 := (g3.block rb hlr).trans k4
            obtain ⟨z0, z1⟩ := cells2 k5
            have f0 := free_arr k5 0
            have f1 := free_arr k5 1
            have K7 := store2 (x := .int .i64 r) (y := .slice s5 n5 c5) k5
            have R7 := (g2.set (j := 0) (u := .int .i64 r) k5 (by decide)).set (j := 1) (u := .slice s5 n5 c5) (heap_set k5 0 _) (by decide)
            have M7 := ((m4.of_below g3).set (j := 0) (u := .int .i64 r) k5 (by decide) hne).set (j := 1) (u := .slice s5 n5 c5) (heap_set k5 0 _) (by decide) hne
            have B7 := ((b4.trans (g3.mono b4.size)).setCell (p := ⟨rb, 0, none⟩) hr0 (.int .i64 r)).setCell (p := ⟨rb, 1, none⟩) hr0 (.slice s5 n5 c5)
            clear y0 y1 k4 m4 r4 b4 d0 d1 d2 d3 BA BB HB HNB HLT
            go_upto_region 15 with fail
            clear x0 x1 z0 z1 f0 f1 g1 g2 g3 g4 k5 hlm hlr hb4 hbb
            generalize ((wc.setCell ⟨rb, 0, none⟩ (.int .i64 r)).setCell ⟨rb, 1, none⟩ (.slice s5 n5 c5)) = w7 at K7 R7 M7 B7 ⊢
            obtain ⟨y0, y1⟩ := cells2 K7
            have hle := HLL.out
            rw [HN5.out] at K7 R7 y1
            rw [HN5.out]
            generalize doL r l[k] L = L7 at K7 R7 M7 y1 hle ⊢
            generalize doS l[k] L = S7
            generalize doB r l[k] L = T7
            have HM := Lib.hid (all_any m r L7 w7.drew M7 (by omega))
            have e1 : (S7.toList != S7.toList) = false := by simp
            have e2 : (T7 != T7) = false := by simp
            have e3 : ((cnt s L7 : Int) != (cnt s L7 : Int)) = false := by simp
            have hmx : L7.length ≤ maxLen := by unfold maxLen; omega
            go_region_held3 (fun w' => w'.cell? ⟨rb, 1, none⟩ = some (.slice s5 L7.length c5)) (first | go_keep | exact y8 | exact y9) (first
              | (go_at_call 15; refine HM.out.mono ?_; rintro e w8 ⟨gA, rfl, gA0, gA1, o8⟩; have K8 := o8.keep K7 (fun h => h); have y8 := (cells2 K8).2; have M8 := o8.mesh M7 (fun _ h => h.elim); have R8 : Rw w8 (.slice s5 L7.length c5) L7 := o8.own R7 (fun _ _ h => h); have B8 := B7.drew.trans (o8.below (B := w.heap.size) B7.size (fun _ h => h.elim)))
              | (go_at_call 14; refine (same_self _ _ _ _ L7 _ (reads_row gA1) R8.reads hmx).mono ?_; rintro e w9 ⟨rfl, d9⟩; have K9 := ((d9.below w8.heap.size).block rb (lt_of_block K8)).trans K8; have y9 := (cells2 K9).2; have M9 := M8.of_below (d9.below _); have R9 : Rw w9 (.slice s5 L7.length c5) L7 := R8.below (d9.below _); have B9 := B8.trans (d9.below _))
              | (go_at_call 16; refine (count_any m r s L7 _ M9 (by omega)).mono ?_; rintro e w10 ⟨rfl, rfl⟩)
              | (go_at_call 17; refine (rcount_any _ s L7 _ R9 (by omega)).mono ?_; rintro e w11 ⟨rfl, rfl⟩))
            go_wp2
            go_roundw
            case rel => exact ⟨k + 1, s5, c5, L7, by omega, by go_num, hle, ⟨K9, R9, M9, B9, hm0, hr0, hne⟩⟩
            case measure => simp [intOf]; omega
        · go_wp2
          go_ret
          exact ⟨rfl, hq.below⟩

end Go.Proofs.Ytkejbpkpdgnodaa
