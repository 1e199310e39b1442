/- The walk of MeshCounts. -/
import Derived.Test.YtkejbpkpdgnodaaCount
import Derived.Deep.DeepCutAuto
namespace Go.Proofs.Ytkejbpkpdgnodaa
open Go.RowKit

theorem box4 {w : World} {b : Nat} {v0 v1 v2 v3 : Value} {t : TypeId} (h : w.heap[b]? = some (.cells #[v0, v1, v2, v3] t (0, 0))) :
    w.cell? ⟨b, 0, none⟩ = some v0 ∧ w.cell? ⟨b, 1, none⟩ = some v1 ∧ w.cell? ⟨b, 2, none⟩ = some v2 ∧ w.cell? ⟨b, 3, none⟩ = some v3 := by
  simp [World.cell?, h]

theorem at_cases (a : MAct) (s : ByteArray) (L : List ByteArray) :
    (a.n < 0 ∧ atB a s L = false) ∨ ((L.length : Int) ≤ a.n ∧ atB a s L = false) ∨ (∃ y : Nat, a.n = y ∧ ∃ h : y < L.length, isS s L[y] = false ∧ atB a s L = false) ∨ (∃ y : Nat, a.n = y ∧ ∃ h : y < L.length, isS s L[y] = true ∧ atB a s L = true) := by
  by_cases h0 : a.n < 0
  · exact .inl ⟨h0, by unfold atB; rw [there_false (by omega)]; rfl⟩
  · by_cases h1 : (L.length : Int) ≤ a.n
    · exact .inr (.inl ⟨h1, by unfold atB; rw [there_false (by omega)]; rfl⟩)
    · obtain ⟨y, hy⟩ := Int.eq_ofNat_of_zero_le (show 0 ≤ a.n by omega)
      have hyl : y < L.length := by omega
      have e : atB a s L = isS s L[y] := by unfold atB; rw [hy, there_true (by omega) (by omega)]; simp [hyl]
      cases hs : isS s L[y] with
      | false => exact .inr (.inr (.inl ⟨y, hy, hyl, hs, by rw [e, hs]⟩))
      | true => exact .inr (.inr (.inr ⟨y, hy, hyl, hs, by rw [e, hs]⟩))

set_option maxHeartbeats 3200000 in
set_option maxRecDepth 100000 in
theorem counts_any (room : Int) (s : ByteArray) (sp : Option Addr) (cap : Nat) (l : List MAct) (w : World) (hl : ReadsA w sp l) (hmax : l.length ≤ maxLen) :
    Calls Try.prog 4 #[.int .i64 room, .slice sp l.length cap, .string s] w fun e w' => e = .returned (.bool true) ∧ Below w.heap.size w w' := by
  have hmax0 := hmax
  unfold maxLen at hmax
  have hmax : l.length ≤ 9223372036854775807 := by omega
  obtain ⟨R, hR⟩ : ∃ R : Int, R = min (max room 1) 64 := ⟨_, rfl⟩
  have hR1 : R ≤ 64 := by omega
  have hR0 : 0 ≤ R := by omega
  have hR0 : 0 ≤ R := by omega
  have hR0 : 0 ≤ R := by omega
  go_enter Try.func4, Try.ntmps4
  have HR := Lib.hid hR
  clear hR
  go_wp2_with fail
  refine (works_any w).mono ?_
  rintro e w1 ⟨rfl, o1⟩
  go_wp2_with fail
  refine (new_any _ w1).mono ?_
  rintro e w2 ⟨rfl, m2, o2⟩
  have b2 : Below w.heap.size w w2 := (o1.below (Nat.le_refl _) (fun _ h => h.elim)).trans (o2.below o1.size (fun _ h => h.elim))
  have hs1 := o1.size
  rw [← HR.out] at m2
  generalize w1.heap.size = m at m2 o2 hs1 ⊢
  have hmw := m2.lt
  clear o1 o2
  go_wp2_with fail
  refine (few_any sp cap l w2 (hl.below b2) hmax0).mono ?_
  rintro e w3 ⟨fb, rfl, hfb, rfl⟩
  cases fb with
  | false =>
    clear hfb
    go_wp2
    go_ret
    exact ⟨rfl, b2⟩
  | true =>
    have hfew := hfb rfl
    clear hfb
    by_cases hs : 100 < s.size
    · go_wp2
      go_ret
      exact ⟨rfl, b2⟩
    · go_wp2_with fail
      go_loopg [10, 11] l.length (fun g n i wr => ∃ k : Nat, k ≤ l.length ∧ g = l.length - k ∧ i = .int .i64 k ∧ (∃ L : List ByteArray, (L.length : Int) ≤ R ∧ n = .int .i64 (cnt s L) ∧ IsMesh wr m R L) ∧ Below w.heap.size w wr)
      case atStart => exact ⟨0, Nat.zero_le _, rfl, rfl, ⟨[], by simp; omega, rfl, m2⟩, b2⟩
      case round =>
        obtain ⟨k, hk, rfl, rfl, ⟨L, hL, rfl, hm⟩, hb⟩ := hrel
        by_cases hlk : k < l.length
        · obtain ⟨b, off, rfl, hbl, hc⟩ := hl (by omega)
          obtain ⟨c0, c1, c2, c3⟩ := hc k hlk
          have c0 := (hb.cell (p := ⟨b, off + k * 4, none⟩) hbl).trans c0
          have c1 := (hb.cell (p := ⟨b, off + k * 4 + 1, none⟩) hbl).trans c1
          have c2 := (hb.cell (p := ⟨b, off + k * 4 + 2, none⟩) hbl).trans c2
          have c3 := (hb.cell (p := ⟨b, off + k * 4 + 3, none⟩) hbl).trans c3
          clear hc hl
          generalize l[k] = a at c0 c1 c2 c3
          obtain ⟨aK, aS, aN, aT⟩ := a
          simp only at c0 c1 c2 c3
          have hml := hm.lt
          go_wp2_with fail
          have ob : Only wr (wr.alloc (.cells #[.int .i64 aK, .string aS, .int .i64 aN, .int .i64 aT] 34)) (fun _ => False) := Only.alloc _ _ _
          have hbx : (wr.alloc (.cells #[.int .i64 aK, .string aS, .int .i64 aN, .int .i64 aT] 34)).heap[wr.heap.size]? = some (.cells #[.int .i64 aK, .string aS, .int .i64 aN, .int .i64 aT] 34 (0, 0)) := heap_alloc_new _ _
          refine (all_any m R L _ (ob.mesh hm (fun _ h => h.elim)) (by omega)).mono ?_
          rintro e w4 ⟨gA, rfl, hgA0, hgA, o4⟩
          have hbx4 := o4.keep hbx (fun h => h)
          have m4 := o4.mesh (ob.mesh hm (fun _ h => h.elim)) (fun _ h => h.elim)
          have hb4 := hb.trans ((ob.trans o4).below (B := w.heap.size) hb.size (fun _ h => h.elim))
          have hgm : gA ≠ m := by simp at hgA0; omega
          obtain ⟨bx, hbxd⟩ : ∃ bx, bx = wr.heap.size := ⟨_, rfl⟩
          rw [← hbxd] at hbx4 ⊢
          have hbm : bx ≠ m := by omega
          clear ob hbx o4 c0 c1 c2 c3 hbxd
          obtain ⟨x0, x1, x2, x3⟩ := box4 hbx4
          have hcb := cnt_le s L
          have Hdo := Lib.hid (cnt_do (room := R) (a := ⟨aK, aS, aN, aT⟩) (L := L) s)
          have HL' := Lib.hid (length_doL (room := R) (a := ⟨aK, aS, aN, aT⟩) hL)
          have Hds := Lib.hid (fun h1 h2 => doS_at (room := R) (a := ⟨aK, aS, aN, aT⟩) (L := L) (s := s) h1 h2)
          have hdo := do_any m R ⟨aK, aS, aN, aT⟩ L w4 m4 hR1 (by omega)
          have Hd := Lib.hid hdo
          clear hdo
          go_upto_region 14 with fail
          go_cut [14] (fun s14 wx => w4 = wx ∧ s14 = .bool (atB ⟨aK, aS, aN, aT⟩ s L))
          case first =>
            rcases at_cases ⟨aK, aS, aN, aT⟩ s L with ⟨ht, h0⟩ | ⟨ht, h0⟩ | ⟨y, ht, hy, tn, h0⟩ | ⟨y, ht, hy, tn, h0⟩
            · simp only at ht
              have Hat := Lib.hid h0
              clear h0 hgA
              go_wp2_with fail
              go_meet
              exact ⟨rfl, by rw [Hat.out]⟩
            · simp only at ht
              have Hat := Lib.hid h0
              clear h0 hgA
              go_wp2_with fail
              go_meet
              exact ⟨rfl, by rw [Hat.out]⟩
            all_goals
              simp only at ht
              subst ht
              have Hat := Lib.hid h0
              clear h0
              have hck := cell_row hgA hy
              unfold isS at tn
              have i1 : (0 : Int) ≤ (y : Int) := by omega
              have i2 : (y : Int) < (L.length : Int) := by omega
              clear hgA
              go_wp2_with fail
              go_meet
              exact ⟨rfl, by rw [Hat.out]⟩
          case rest =>
          obtain ⟨rfl, rfl⟩ := hcut
          go_wp2_with fail
          clear x0 x1 x2 x3 hgA
          refine Hd.out.mono ?_
          rintro e w5 ⟨rfl, m5, o5⟩
          have hbx5 := o5.keep hbx4 hbm
          have hb5 := below_only hb4 o5 (by have := hb4.size; omega) hs1
          clear Hd hbx4 o5 m4
          obtain ⟨x0, x1, x2, x3⟩ := box4 hbx5
          have hdo := Hdo.out
          have hds := Hds.out
          have hln := HL'.out
          unfold adds lessens at hdo
          generalize atB ⟨aK, aS, aN, aT⟩ s L = bt at hdo hds ⊢
          generalize doS ⟨aK, aS, aN, aT⟩ L = t at hds ⊢
          generalize doB R ⟨aK, aS, aN, aT⟩ L = ok at hdo hds ⊢
          generalize doL R ⟨aK, aS, aN, aT⟩ L = L' at hdo m5 hln
          simp only at hdo hds
          have Hd2 := Lib.hid hdo
          have Hs2 := Lib.hid hds
          clear Hdo Hds HL' hdo hds
          go_upto_region 16 with fail
          go_cut [96] (fun s96 wx => w5 = wx ∧ s96 = .bool (ok && (decide (aK = 0) && isS s aS || decide (aK = 3) && bt)))
          case first =>
            cases ok with
            | false =>
              go_wp2_with fail
              go_meet
              exact ⟨rfl, rfl⟩
            | true =>
              by_cases k0 : aK = 0
              · subst k0
                cases hS : isS s aS with
                | true =>
                  have tS : (aS.toList == s.toList) = true := hS
                  have HS := Lib.hid hS
                  clear hS
                  go_wp2_with fail
                  go_meet
                  exact ⟨rfl, by simp [HS.out]⟩
                | false =>
                  have tS : (aS.toList == s.toList) = false := hS
                  have HS := Lib.hid hS
                  clear hS
                  go_wp2_with fail
                  go_meet
                  exact ⟨rfl, by simp [HS.out]⟩
              · have t0 : (aK == 0) = false := by simpa using k0
                have K0 := Lib.hid k0
                clear k0
                by_cases k3 : aK = 3
                · subst k3
                  go_wp2_with fail
                  go_meet
                  exact ⟨rfl, by simp⟩
                · have t3 : (aK == 3) = false := by simpa using k3
                  have K3 := Lib.hid k3
                  clear k3
                  go_wp2_with fail
                  go_meet
                  exact ⟨rfl, by simp [K0.out, K3.out]⟩
          case rest =>
          obtain ⟨rfl, rfl⟩ := hcut
          have hd2 := Hd2.out
          generalize (ok && (decide (aK = 0) && isS s aS || decide (aK = 3) && bt)) = bA at hd2 ⊢
          have Hd3 := Lib.hid hd2
          clear Hd2 hd2
          go_upto_if 96 with fail
          go_cut [10] (fun s10 wx => w5 = wx ∧ s10 = .int .i64 ((cnt s L : Int) + (one bA : Int)))
          case first =>
            cases bA with
            | false =>
              go_wp2_with fail
              go_meet
              exact ⟨rfl, by simp [one]⟩
            | true =>
              go_wp2_with fail
              go_meet
              exact ⟨rfl, by simp [one]⟩
          case rest =>
          obtain ⟨rfl, rfl⟩ := hcut
          go_upto_region 18 with fail
          go_cut [112] (fun s112 wx => w5 = wx ∧ s112 = .bool (ok && bt && (decide (aK = 1) || decide (aK = 2))))
          case first =>
            cases ok with
            | false =>
              go_wp2_with fail
              go_meet
              exact ⟨rfl, rfl⟩
            | true =>
              cases bt with
              | false =>
                go_wp2_with fail
                go_meet
                exact ⟨rfl, rfl⟩
              | true =>
                by_cases k1 : aK = 1
                · subst k1
                  go_wp2_with fail
                  go_meet
                  exact ⟨rfl, by simp⟩
                · have t1 : (aK == 1) = false := by simpa using k1
                  have K1 := Lib.hid k1
                  clear k1
                  by_cases k2 : aK = 2
                  · subst k2
                    go_wp2_with fail
                    go_meet
                    exact ⟨rfl, by simp⟩
                  · have t2 : (aK == 2) = false := by simpa using k2
                    have K2 := Lib.hid k2
                    clear k2
                    go_wp2_with fail
                    go_meet
                    exact ⟨rfl, by simp [K1.out, K2.out]⟩
          case rest =>
          obtain ⟨rfl, rfl⟩ := hcut
          have hd3 := Hd3.out
          generalize (ok && bt && (decide (aK = 1) || decide (aK = 2))) = bB at hd3 ⊢
          have hle2 := cnt_le s L'
          have oA : one bA ≤ 1 := by unfold one; split <;> omega
          have Hd4 := Lib.hid hd3
          clear Hd3 hd3
          go_upto_if 112 with fail
          go_cut [10] (fun s10 wx => w5 = wx ∧ s10 = .int .i64 (cnt s L'))
          case first =>
            cases bB with
            | false =>
              go_wp2_with fail
              go_meet
              exact ⟨rfl, by have := Hd4.out; simp [one] at this ⊢; omega⟩
            | true =>
              have h1 : (1 : Int) ≤ (cnt s L : Int) + (one bA : Int) := by have := Hd4.out; simp [one] at this ⊢; omega
              go_wp2_with fail
              go_meet
              exact ⟨rfl, by have := Hd4.out; simp [one] at this ⊢; omega⟩
          case rest =>
          obtain ⟨rfl, rfl⟩ := hcut
          have Hc := Lib.hid (count_any m R s L' w5 m5 (by omega))
          have Ha := Lib.hid (all_any m R L' w5 m5 (by omega))
          have hmn : (L'.length : Int) ≤ min (max room 1) 64 := by rw [← HR.out]; exact hln
          go_upto_region 20 with fail
          go_cut [147] (fun s147 wx => s147 = .bool false ∧ IsMesh wx m R L' ∧ Below w.heap.size w wx)
          case first =>
            by_cases k1 : aK = 1
            · subst k1
              cases ok with
              | false =>
                go_wp2_with fail
                refine Hc.out.mono ?_
                rintro e w6 ⟨rfl, rfl⟩
                go_wp2_with fail
                refine Ha.out.mono ?_
                rintro e w7 ⟨gB, rfl, _, _, o7⟩
                have m7 := o7.mesh m5 (fun _ h => h.elim)
                have hb7 := hb5.trans (o7.below (B := w.heap.size) hb5.size (fun _ h => h.elim))
                clear Hc Ha o7
                go_wp2_with fail
                all_goals
                  go_meet
                  exact ⟨congrArg Value.bool (decide_eq_false (by omega)), m7, hb7⟩
              | true =>
                have tt := Hs2.out rfl rfl
                unfold isS at tt
                go_wp2_with fail
                refine Hc.out.mono ?_
                rintro e w6 ⟨rfl, rfl⟩
                go_wp2_with fail
                refine Ha.out.mono ?_
                rintro e w7 ⟨gB, rfl, _, _, o7⟩
                have m7 := o7.mesh m5 (fun _ h => h.elim)
                have hb7 := hb5.trans (o7.below (B := w.heap.size) hb5.size (fun _ h => h.elim))
                clear Hc Ha o7
                go_wp2_with fail
                all_goals
                  go_meet
                  exact ⟨congrArg Value.bool (decide_eq_false (by omega)), m7, hb7⟩
            · have t1 : (aK == 1) = false := by simpa using k1
              clear k1
              go_wp2_with fail
              refine Hc.out.mono ?_
              rintro e w6 ⟨rfl, rfl⟩
              go_wp2_with fail
              refine Ha.out.mono ?_
              rintro e w7 ⟨gB, rfl, _, _, o7⟩
              have m7 := o7.mesh m5 (fun _ h => h.elim)
              have hb7 := hb5.trans (o7.below (B := w.heap.size) hb5.size (fun _ h => h.elim))
              clear Hc Ha o7
              go_wp2_with fail
              all_goals
                go_meet
                exact ⟨congrArg Value.bool (decide_eq_false (by omega)), m7, hb7⟩
          case rest =>
          obtain ⟨rfl, m7, hb7⟩ := hcut
          go_wp2
          go_roundg (l.length - (k + 1))
          case measure => omega
          case rel => exact ⟨k + 1, by omega, by omega, by go_num, ⟨L', hln, rfl, m7⟩, hb7⟩
        · go_wp2
          go_ret
          exact ⟨rfl, hb⟩

end Go.Proofs.Ytkejbpkpdgnodaa
