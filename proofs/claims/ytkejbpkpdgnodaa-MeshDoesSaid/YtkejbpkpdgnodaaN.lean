/- The document's Move. -/
import Derived.Test.YtkejbpkpdgnodaaM
import Derived.Deep.RegionHeld3
namespace Go.Proofs.Ytkejbpkpdgnodaa
open Go.RowKit

/-- A block without cells, as a row that is owned. -/
theorem own_new {W : World} {base b : Nat} (h : W.heap[b]? = some (.cells #[] 9 (0, 0))) (hb : base ≤ b) : W.ownsRow base 9 1 (.slice (some ⟨b, 0, none⟩) 0 0) 0 [] :=
  ⟨rfl, .inr ⟨b, 0, #[], rfl, hb, h, Nat.le_refl _, Nat.zero_le _, rfl, rfl⟩⟩
theorem srcs_at {W : World} {b : Nat} {s : ByteArray} (h : W.heap[b]? = some (.cells #[.string s] 9 (0, 0))) : Srcs W (some ⟨b, 0, none⟩) 1 1 [.string s] := by
  refine ⟨rfl, (fun h => by cases h), ?_⟩
  intro ad had j u hu
  obtain rfl := Option.some.inj had
  rw [Addr.add_lit, Nat.zero_add, cell_arr (xs := [.string s]) h]
  exact hu

theorem grown_keep {W w5 : World} {row : Option Nat} (hg : W.grownBy w5 row) {b : Nat} {o : Obj} (h : W.heap[b]? = some o) (hne : some b ≠ row) : w5.heap[b]? = some o := (hg.block b (lt_of_block h) hne).trans h
theorem alloc_keep {W : World} (o' : Obj) {b : Nat} {o : Obj} (h : W.heap[b]? = some o) : (W.alloc o').heap[b]? = some o := (Below.heap_alloc _ _ _ (lt_of_block h)).trans h

theorem own_low {w : World} {base b e size n : Nat} {v : Value} {xs : List Value} (h : w.ownsRow base e size v n xs) (hb : b ≤ base) : w.ownsRow b e size v n xs := by
  refine ⟨h.1, ?_⟩
  rcases h.2 with hn | ⟨g, cap, cur, rfl, hg, rest⟩
  · exact .inl hn
  · exact .inr ⟨g, cap, cur, rfl, Nat.le_trans hb hg, rest⟩

def RMoveEnd (room : Int) (n t : Int) (L : List ByteArray) (w : World) (e : Ending) (w' : World) : Prop :=
  ∃ rv, e = .returned (.tuple #[.agg #[.int .i64 room, rv], .bool (movedB n t L)]) ∧ Rw w' rv (movedL n t L) ∧ Below w.heap.size w w'

set_option maxHeartbeats 1600000 in
theorem rmove_yes (room : Int) (rv : Value) (x y : Nat) (L : List ByteArray) (w : World) (hr : Rw w rv L) (hL : L.length ≤ 100) (hx : x < L.length) (hy : y < L.length) :
    Calls Try.prog 26 #[.agg #[.int .i64 room, rv], .int .i64 x, .int .i64 y] w (RMoveEnd room x y L w) := by
  obtain ⟨sp, cap, rfl⟩ := own_shape hr
  obtain ⟨q1, q2, q3, q4⟩ := two w (Obj.cells #[Value.int IntKind.i64 room, Value.slice sp L.length cap] 29) (Obj.cells #[Value.int IntKind.i64 0, Value.slice none 0 0] 29)
  obtain ⟨w0, hw0⟩ : ∃ w0, w0 = ((w.alloc (Obj.cells #[Value.int IntKind.i64 room, Value.slice sp L.length cap] 29)).alloc (Obj.cells #[Value.int IntKind.i64 0, Value.slice none 0 0] 29)) := ⟨_, rfl⟩
  rw [← hw0] at q1 q2 q3 q4
  have HW0 := Lib.hid hw0
  clear hw0
  have b0 : Below w.heap.size w w0 := q1.below (Nat.le_refl _) (fun _ h => h.elim)
  have ht := rthere_any room _ x L w0 (hr.below b0) hL
  rw [there_true (by omega) (by omega)] at ht
  have HT := Lib.hid ht
  have HE := Lib.hid (And.intro (movedB_yes hx hy) (movedL_yes hx hy))
  clear ht q4
  go_enter Try.func26, Try.ntmps26
  go_wp2_with fail
  rw [← HW0.out]
  refine HT.out.mono ?_
  rintro e w1 ⟨rfl, o1⟩
  have k2 := o1.keep q2 (fun h => h)
  have k3 := o1.keep q3 (fun h => h)
  have b1 := b0.trans (o1.below b0.size (fun _ h => h.elim))
  obtain ⟨y0, y1⟩ := cells2 k2
  have ht2 := rthere_any room _ y L w1 (hr.below b1) hL
  rw [there_true (by omega) (by omega)] at ht2
  have HT2 := Lib.hid ht2
  clear ht2 o1 q1 q2 q3
  go_wp2_with fail
  refine HT2.out.mono ?_
  rintro e w2 ⟨rfl, o2⟩
  have k4 := o2.keep k2 (fun h => h)
  have k5 := o2.keep k3 (fun h => h)
  have b2 := b1.trans (o2.below b1.size (fun _ h => h.elim))
  clear y0 y1 k2 k3 o2
  obtain ⟨y0, y1⟩ := cells2 k4
  have HTK := Lib.hid (rtake_any room _ x L w2 (hr.below b2) hL)
  go_wp2_with fail
  refine HTK.out.mono ?_
  rintro e w3 ⟨rv3, rfl, r3, b3⟩
  have hl36 : w.heap.size + 1 < w3.heap.size := by have := b3.size; have := lt_of_block k5; omega
  have k6 := (b3.block w.heap.size (lt_of_block k4)).trans k4
  have k7 := (b3.block (w.heap.size + 1) (lt_of_block k5)).trans k5
  have b4 := b2.trans (b3.mono b2.size)
  obtain ⟨sp3, cap3, rfl⟩ := own_shape r3
  obtain ⟨K, hK⟩ : ∃ K, K = takenL x L := ⟨_, rfl⟩
  have hKl : K.length = L.length - 1 := by rw [hK, takenL_yes hx]; simp; omega
  have hmv : (K.take y ++ L[x] :: K.drop y) = movedAt x y L := by rw [hK, takenL_yes hx]; unfold movedAt; simp [hx]
  rw [← hK] at r3 ⊢
  have htk : takenS x L = L[x] := takenS_yes hx
  rw [htk, there_true (n := (x : Int)) (L := L) (by omega) (by omega)]
  have HK := Lib.hid hK
  have HKL := Lib.hid hKl
  have HMV := Lib.hid hmv
  have hKle : y ≤ K.length := by omega
  have hKle2 : K.length ≤ 100 := by omega
  have HLe := Lib.hid (show L.length = K.length + 1 by omega)
  clear hK hKl hmv htk k4 k5 y0 y1
  obtain ⟨s, hs⟩ : ∃ s, s = L[x] := ⟨_, rfl⟩
  rw [← hs]
  have HS := Lib.hid hs
  clear hs
  have hcap3 := (own_cap r3).1
  have i0 : (0 : Int) ≤ (y : Int) := by omega
  have i1 : (y : Int) ≤ (cap3 : Int) := by omega
  have i2 : (y : Int) ≤ (K.length : Int) := by omega
  obtain ⟨w4, hw4⟩ : ∃ w4, w4 = w3.alloc (.cells #[.int .i64 room, .slice sp3 K.length cap3] 29) := ⟨_, rfl⟩
  have k8 : w4.heap[w3.heap.size]? = some (.cells #[.int .i64 room, .slice sp3 K.length cap3] 29 (0, 0)) := by rw [hw4]; exact heap_alloc_new _ _
  have k6' := alloc_keep (.cells #[.int .i64 room, .slice sp3 K.length cap3] 29) k6
  have k7' := alloc_keep (.cells #[.int .i64 room, .slice sp3 K.length cap3] 29) k7
  rw [← hw4] at k6' k7'
  have b4' : Below w.heap.size w w4 := by rw [hw4]; exact b4.alloc b4.size _
  have hb34 : Below w3.heap.size w3 w4 := by rw [hw4]; exact (Below.refl _ _).alloc (Nat.le_refl _) _
  go_upto_region 4 with fail
  rw [← hw4]
  clear hw4 k6 k7 b4
  have c8 := (cells2 k8).2
  have hl8 := lt_of_block k8
  have hl7 := lt_of_block k7'
  go_cut [] (fun wx => ∃ sp2 m cap2, m = L.length ∧ wx.heap[w.heap.size]? = some (.cells #[.int .i64 room, .slice sp2 m cap2] 29 (0, 0)) ∧ wx.heap[w.heap.size + 1]? = some (.cells #[.int .i64 0, .slice none 0 0] 29 (0, 0)) ∧
    wx.ownsRow w.heap.size 9 1 (.slice sp2 m cap2) m ((movedAt x y L).map Value.string) ∧ Below w.heap.size w wx)
  case first =>
    have hl6 := lt_of_block k6'
    have hl6 := lt_of_block k6'
    have hl6 := lt_of_block k6'
    have hne : (⟨w.heap.size, 1, none⟩ : Addr) ≠ ⟨w3.heap.size, 1, none⟩ := by
      intro h
      have := congrArg Addr.block h
      simp only at this
      omega
    have hl6 := lt_of_block k6'
    have hne : (⟨w.heap.size, 1, none⟩ : Addr) ≠ ⟨w3.heap.size, 1, none⟩ := by
      intro h
      have := congrArg Addr.block h
      simp only at this
      omega
    have E1 : (w4.alloc (.cells #[] 9)).heap[w4.heap.size]? = some (.cells #[] 9 (0, 0)) := heap_alloc_new _ _
    have E2 := alloc_keep (.cells #[.string s] 9) E1
    have S2 : ((w4.alloc (.cells #[] 9)).alloc (.cells #[.string s] 9)).heap[w4.heap.size + 1]? = some (.cells #[.string s] 9 (0, 0)) := (two w4 _ _).2.2.1
    have S3 := alloc_keep (.cells #[] 9) (heap_alloc_new w4 (.cells #[.string s] 9))
    have E3 : ((w4.alloc (.cells #[.string s] 9)).alloc (.cells #[] 9)).heap[w4.heap.size + 1]? = some (.cells #[] 9 (0, 0)) := (two w4 _ _).2.2.1
    have B1 := (Below.refl w4.heap.size w4).alloc (Nat.le_refl _) (.cells #[] 9)
    have B2 := B1.alloc B1.size (.cells #[.string s] 9)
    have B0 := (Below.refl w4.heap.size w4).alloc (Nat.le_refl _) (.cells #[.string s] 9)
    have B3 := B0.alloc B0.size (.cells #[] 9)
    have r3' : Rw w4 (.slice sp3 K.length cap3) K := r3.below hb34
    go_region_held3 (fun w' => w'.cell? ⟨w3.heap.size, 1, none⟩ = some (.slice sp3 K.length cap3)) (first | go_keep | exact c9 | exact c10 | exact c12 | (rw [World.cell?_setCell_other _ _ _ _ hne]; exact c12)) (first | (refine step_app w4.heap.size rfl (.tmp 29) (.tmp 33) rfl (.slice (some ⟨w4.heap.size, 0, none⟩) 0 0) 0 [] _ _ _ ((K.map Value.string).take y) rfl rfl (own_new E1 (by omega)).drew B1.size (srcs_front r3' B1.drew hKle) (fun u hu => strs_one K u (List.mem_of_mem_take hu)) (by omega) ?_; intro v1 w5 hown1 hgrow1; have v5 : Below w4.heap.size w4 w5 := (B1.drew).grown hgrow1 B1.size (fun k hk => by simp only [Value.ownBlock, Option.some.injEq] at hk; omega); have c9 := (v5.cell (p := ⟨w3.heap.size, 1, none⟩) hl8).trans c8) | (refine step_app w4.heap.size rfl (.tmp 29) (.tmp 33) rfl (.slice (some ⟨w4.heap.size, 0, none⟩) 0 0) 0 [] _ _ _ ((K.map Value.string).take y) rfl rfl (own_new E2 (by omega)).drew B2.size (srcs_front r3' B2.drew hKle) (fun u hu => strs_one K u (List.mem_of_mem_take hu)) (by omega) ?_; intro v1 w5 hown1 hgrow1; have v5 : Below w4.heap.size w4 w5 := (B2.drew).grown hgrow1 B2.size (fun k hk => by simp only [Value.ownBlock, Option.some.injEq] at hk; omega); have c9 := (v5.cell (p := ⟨w3.heap.size, 1, none⟩) hl8).trans c8; have zs := grown_keep hgrow1 S2 (by simp [Value.ownBlock])) | (refine step_app w4.heap.size rfl (.tmp 29) (.tmp 33) rfl (.slice (some ⟨w4.heap.size + 1, 0, none⟩) 0 0) 0 [] _ _ _ ((K.map Value.string).take y) rfl rfl (own_new E3 (by omega)).drew B3.size (srcs_front r3' B3.drew hKle) (fun u hu => strs_one K u (List.mem_of_mem_take hu)) (by omega) ?_; intro v1 w5 hown1 hgrow1; have v5 : Below w4.heap.size w4 w5 := (B3.drew).grown hgrow1 B3.size (fun k hk => by simp only [Value.ownBlock, Option.some.injEq] at hk; omega); have c9 := (v5.cell (p := ⟨w3.heap.size, 1, none⟩) hl8).trans c8; have zs := grown_keep hgrow1 S3 (by simp [Value.ownBlock])) | (refine step_app w4.heap.size rfl (.tmp 34) (.tmp 36) rfl v1 _ _ _ _ _ [.string s] rfl rfl hown1 v5.size (srcs_at zs) (by simp [Value.oneCell']) (by omega) ?_; intro v2 w6 hown2 hgrow2; have v6 : Below w4.heap.size w4 w6 := (v5).grown hgrow2 v5.size (fun g hg => (hown1.lt g hg).1); have c10 := (v6.cell (p := ⟨w3.heap.size, 1, none⟩) hl8).trans c8) | (refine step_app w4.heap.size rfl (.tmp 34) (.tmp 36) rfl v1 _ _ _ _ _ [.string s] rfl rfl (hown1.alloc _) (v5.alloc v5.size (.cells #[.string s] 9)).size (srcs_one w5 s) (by simp [Value.oneCell']) (by omega) ?_; intro v2 w6 hown2 hgrow2; have v6 : Below w4.heap.size w4 w6 := ((v5.alloc v5.size (.cells #[.string s] 9))).grown hgrow2 (v5.alloc v5.size (.cells #[.string s] 9)).size (fun g hg => (hown1.lt g hg).1); have c10 := (v6.cell (p := ⟨w3.heap.size, 1, none⟩) hl8).trans c8) | (refine step_app w4.heap.size rfl (.tmp 37) (.tmp 41) rfl v2 _ _ _ _ _ ((K.map Value.string).drop y) rfl rfl hown2 v6.size (srcs_end r3' v6 hKle) (fun u hu => strs_one K u (List.mem_of_mem_drop hu)) (by omega) ?_; intro v3 w7 hown3 hgrow3; have v7 : Below w4.heap.size w4 w7 := v6.grown hgrow3 v6.size (fun g hg => (hown2.lt g hg).1); have z6 := (v7.block w.heap.size hl6).trans k6'; have f6 := free_arr z6 1; have c11 := (cells2 z6).2; have c12 := (v7.cell (p := ⟨w3.heap.size, 1, none⟩) hl8).trans c8; obtain ⟨sp4, cap4, rfl⟩ := own_shape hown3))
    all_goals
      have e1 : [] ++ (K.map Value.string).take y ++ [Value.string s] ++ (K.map Value.string).drop y = (movedAt x y L).map Value.string := by
        rw [← HMV.out, ← HS.out]; simp [List.map_take, List.map_drop]
      rw [e1] at hown3
      simp only [Nat.zero_add] at hown3
      have z7 := (v7.block (w.heap.size + 1) hl7).trans k7'
      have H := Lib.hid (app_last z6 z7 (own_low hown3 b4'.size) (b4'.trans (v7.mono b4'.size)))
      have hmm : y + 1 + (K.length - y) = L.length := by have := HLe.out; omega
      have HM := Lib.hid hmm
      clear e1 hown1 hown2 hown3 hgrow1 hgrow2 hgrow3 z6 z7 c11 c12 f6 hmm
      generalize (if cap3 = y then sp3 else _) = qq
      go_wp2_with fail
      go_meet
      exact ⟨sp4, _, cap4, HM.out, H.out.1, H.out.2.1, H.out.2.2.1, H.out.2.2.2⟩
  case rest =>
    obtain ⟨sp2, mm, cap2, hmm, g1, g2, g3, g4⟩ := hcut
    subst hmm
    obtain ⟨y0, y1⟩ := cells2 g1
    obtain ⟨y2, y3⟩ := cells2 g2
    have f2 := free_arr g2 0
    have f3 := free_arr g2 1
    have hrw : Rw wc (.slice sp2 L.length cap2) (movedAt x y L) := by
      unfold Rw
      rw [length_movedAt hx hy]
      exact own_base g3
    have p2 := hrw.set (j := 0) (u := .int .i64 room) g2 (by decide)
    have p3 := p2.set (j := 1) (u := .slice sp2 L.length cap2) (heap_set g2 0 _) (by decide)
    have P3 := Lib.hid p3
    obtain ⟨e0, e1⟩ := cells2 (store2 (x := .int .i64 room) (y := .slice sp2 L.length cap2) g2)
    clear p2 p3 hrw g3 c8 k8 k6' k7'
    go_wp2
    refine bodyPost_ret (v := .tuple #[.agg #[.int .i64 room, .slice sp2 L.length cap2], .bool true]) ?_ rfl ?_
    · simp [results, Try.results26, go_sem, e0, e1]
    · exact ⟨.slice sp2 L.length cap2, by rw [HE.out.1], by rw [HE.out.2]; exact P3.out, (g4.setCell (by show w.heap.size ≤ w.heap.size + 1; omega) _).setCell (by show w.heap.size ≤ w.heap.size + 1; omega) _⟩

set_option maxHeartbeats 1600000 in
theorem rmove_no (room : Int) (rv : Value) (n t : Int) (L : List ByteArray) (w : World) (hr : Rw w rv L) (hL : L.length ≤ 100) (h : ¬ (0 ≤ n ∧ n < (L.length : Int)) ∨ ((0 ≤ n ∧ n < (L.length : Int)) ∧ ¬ (0 ≤ t ∧ t < (L.length : Int)))) :
    Calls Try.prog 26 #[.agg #[.int .i64 room, rv], .int .i64 n, .int .i64 t] w (RMoveEnd room n t L w) := by
  obtain ⟨sp, cap, rfl⟩ := own_shape hr
  obtain ⟨q1, q2, q3, q4⟩ := two w (Obj.cells #[Value.int IntKind.i64 room, Value.slice sp L.length cap] 29) (Obj.cells #[Value.int IntKind.i64 0, Value.slice none 0 0] 29)
  obtain ⟨w0, hw0⟩ : ∃ w0, w0 = ((w.alloc (Obj.cells #[Value.int IntKind.i64 room, Value.slice sp L.length cap] 29)).alloc (Obj.cells #[Value.int IntKind.i64 0, Value.slice none 0 0] 29)) := ⟨_, rfl⟩
  rw [← hw0] at q1 q2 q3 q4
  have HW0 := Lib.hid hw0
  clear hw0
  have b0 : Below w.heap.size w w0 := q1.below (Nat.le_refl _) (fun _ h => h.elim)
  have HTn := Lib.hid (rthere_any room _ n L w0 (hr.below b0) hL)
  rcases h with h | ⟨h, h'⟩
  · have HE := Lib.hid (And.intro (@movedB_no n t L h) (@movedL_no n t L h))
    have ht := HTn.out
    rw [there_false h] at ht
    have HT := Lib.hid ht
    clear ht h q4 HTn
    go_enter Try.func26, Try.ntmps26
    go_wp2_with fail
    rw [← HW0.out]
    refine HT.out.mono ?_
    rintro e w1 ⟨rfl, o1⟩
    have k2 := o1.keep q2 (fun h => h)
    have k3 := o1.keep q3 (fun h => h)
    have b1 := b0.trans (o1.below b0.size (fun _ h => h.elim))
    obtain ⟨y0, y1⟩ := cells2 k2
    obtain ⟨y2, y3⟩ := cells2 k3
    have f2 := free_arr k3 0
    have f3 := free_arr k3 1
    have p2 := (hr.below b1).set (j := 0) (u := .int .i64 room) k3 (by decide)
    have p3 := p2.set (j := 1) (u := .slice sp L.length cap) (heap_set k3 0 _) (by decide)
    have P3 := Lib.hid p3
    obtain ⟨e0, e1⟩ := cells2 (store2 (x := .int .i64 room) (y := .slice sp L.length cap) k3)
    clear p2 p3 q1 q2 q3 o1
    go_wp2
    refine bodyPost_ret (v := .tuple #[.agg #[.int .i64 room, .slice sp L.length cap], .bool false]) ?_ rfl ?_
    · simp [results, Try.results26, go_sem, e0, e1]
    · exact ⟨.slice sp L.length cap, by rw [HE.out.1], by rw [HE.out.2]; exact P3.out, (b1.setCell (by show w.heap.size ≤ w.heap.size + 1; omega) _).setCell (by show w.heap.size ≤ w.heap.size + 1; omega) _⟩
  · have HE := Lib.hid (And.intro (movedB_no' (n := n) h') (movedL_no' (n := n) h'))
    have ht := HTn.out
    rw [there_true h.1 h.2] at ht
    have HT := Lib.hid ht
    have HF := Lib.hid (there_false h')
    clear ht h h' q4 HTn
    go_enter Try.func26, Try.ntmps26
    go_wp2_with fail
    rw [← HW0.out]
    refine HT.out.mono ?_
    rintro e w0b ⟨rfl, o0⟩
    have k0 := o0.keep q2 (fun h => h)
    have k1 := o0.keep q3 (fun h => h)
    have b0b := b0.trans (o0.below b0.size (fun _ h => h.elim))
    obtain ⟨y0, y1⟩ := cells2 k0
    have ht2 := rthere_any room _ t L w0b (hr.below b0b) hL
    rw [HF.out] at ht2
    have HT2 := Lib.hid ht2
    clear ht2 q1 q2 q3 o0
    go_wp2_with fail
    refine HT2.out.mono ?_
    rintro e w1 ⟨rfl, o1⟩
    have k2 := o1.keep k0 (fun h => h)
    have k3 := o1.keep k1 (fun h => h)
    have b1 := b0b.trans (o1.below b0b.size (fun _ h => h.elim))
    clear y0 y1
    obtain ⟨y0, y1⟩ := cells2 k2
    obtain ⟨y2, y3⟩ := cells2 k3
    have f2 := free_arr k3 0
    have f3 := free_arr k3 1
    have p2 := (hr.below b1).set (j := 0) (u := .int .i64 room) k3 (by decide)
    have p3 := p2.set (j := 1) (u := .slice sp L.length cap) (heap_set k3 0 _) (by decide)
    have P3 := Lib.hid p3
    obtain ⟨e0, e1⟩ := cells2 (store2 (x := .int .i64 room) (y := .slice sp L.length cap) k3)
    clear p2 p3 o1 k0 k1
    go_wp2
    refine bodyPost_ret (v := .tuple #[.agg #[.int .i64 room, .slice sp L.length cap], .bool false]) ?_ rfl ?_
    · simp [results, Try.results26, go_sem, e0, e1]
    · exact ⟨.slice sp L.length cap, by rw [HE.out.1], by rw [HE.out.2]; exact P3.out, (b1.setCell (by show w.heap.size ≤ w.heap.size + 1; omega) _).setCell (by show w.heap.size ≤ w.heap.size + 1; omega) _⟩

theorem rmove_any (room : Int) (rv : Value) (n t : Int) (L : List ByteArray) (w : World) (hr : Rw w rv L) (hL : L.length ≤ 100) :
    Calls Try.prog 26 #[.agg #[.int .i64 room, rv], .int .i64 n, .int .i64 t] w (RMoveEnd room n t L w) := by
  by_cases h : 0 ≤ n ∧ n < (L.length : Int)
  · by_cases h' : 0 ≤ t ∧ t < (L.length : Int)
    · obtain ⟨x, rfl⟩ := Int.eq_ofNat_of_zero_le h.1
      obtain ⟨y, rfl⟩ := Int.eq_ofNat_of_zero_le h'.1
      exact rmove_yes room rv x y L w hr hL (by omega) (by omega)
    · exact rmove_no room rv n t L w hr hL (.inr ⟨h, h'⟩)
  · exact rmove_no room rv n t L w hr hL (.inl h)

end Go.Proofs.Ytkejbpkpdgnodaa
