/- The walk of CacheGate. -/
import Derived.Test.YtgmelphklppcbaaQ
namespace Go.Proofs.Ytgmelphklppcbaa
open Go.RowKit

theorem gate_out {s : Ca} {key : ByteArray} (h : offerB s key = false) (hr : s.T.length ≤ s.size) (h0 : 0 < (keysOf s.T).length) : often s.C key ≤ lastN s := by
  rw [keysOf_length] at h0
  have hz : ¬ s.size = 0 := by omega
  by_cases hp : pl s.T key < s.T.length
  · rw [(offer_there (v := key) hz hp).2] at h; cases h
  by_cases hroom : s.T.length < s.size
  · rw [(offer_room (v := key) hz hp hroom).2] at h; cases h
  by_cases hg : lastN s < often s.C key
  · rw [(offer_in (v := key) hz hp hroom hg).2] at h; cases h
  · omega

theorem gate_in {s : Ca} {key val : ByteArray} (h : offerB s key = true) {i : Nat} (hi : i < (keysOf s.T).length) (hn : (keysOf s.T)[i] ∉ keysOf (offerT s key val)) :
    i = (keysOf s.T).length - 1 ∧ often s.C (keysOf s.T)[i] < often s.C key := by
  have hm : (keysOf s.T)[i] ∈ keysOf s.T := List.getElem_mem hi
  have hl := keysOf_length s.T
  have hz := (offer_yes val h).1
  by_cases hp : pl s.T key < s.T.length
  · rw [(offer_there hz hp).1] at hn
    exact absurd ((perm_front hp val).mem_iff.2 hm) hn
  by_cases hroom : s.T.length < s.size
  · rw [(offer_room hz hp hroom).1] at hn
    exact absurd (List.mem_cons_of_mem _ hm) hn
  by_cases hg : lastN s < often s.C key
  · rw [(offer_in hz hp hroom hg).1] at hn
    have e : i = (keysOf s.T).length - 1 := by
      refine Classical.byContradiction fun hne => hn (List.mem_cons_of_mem _ ?_)
      have e1 : keysOf (s.T.take (s.T.length - 1)) = (keysOf s.T).take (s.T.length - 1) := List.map_take
      show (keysOf s.T)[i] ∈ keysOf (s.T.take (s.T.length - 1))
      rw [e1]
      exact List.mem_take_iff_getElem.2 ⟨i, by omega, rfl⟩
    refine ⟨e, ?_⟩
    unfold lastN at hg
    have hi' : i < s.T.length := by omega
    have e3 : s.T.length - 1 = i := by omega
    rw [e3, List.getElem?_eq_getElem hi'] at hg
    simpa [keysOf] using hg
  · rw [(offer_out (v := val) hz hp hroom hg).2] at h; cases h

theorem same_self (sa sb : Option Addr) (ca cb : Nat) (A : List ByteArray) (w : World) (hA : Reads w sa A) (hB : Reads w sb A) (ma : A.length ≤ maxLen) :
    Calls Try.prog 19 #[.slice sa A.length ca, .slice sb A.length cb] w fun e w' => e = .returned (.bool true) ∧ Drawn w w' := by
  have h := same_q sa sb ca cb A A w hA hB ma ma
  rw [show alike A A = true from decide_eq_true rfl] at h
  exact h

theorem _root_.Go.RowKit.Below.drewN {B : Nat} {a w : World} (h : Below B a w) (n : Nat) : Below B a (w.drewN n) := ⟨h.os, h.tape, h.output, h.size, h.block⟩

set_option maxHeartbeats 3200000 in
set_option maxRecDepth 100000 in
theorem gate_any (size : Int) (key val : ByteArray) (sp : Option Addr) (cap : Nat) (l : List CAct) (w : World) (hl : ReadsA w sp l) (hmax : l.length ≤ maxLen) (hkey : key.size ≤ maxLen) :
    Calls Try.prog 5 #[.int .i64 size, .slice sp l.length cap, .string key, .string val] w fun e w' => e = .returned (.bool true) ∧ Below w.heap.size w w' := by
  have hmax0 := hmax
  unfold maxLen at hmax
  have hmax : l.length ≤ 9223372036854775807 := by omega
  go_enter Try.func5, Try.ntmps5
  go_wp2_with fail
  refine (works_any w).mono ?_
  rintro e w1 ⟨rfl, o1⟩
  have b1 : Below w.heap.size w w1 := o1.below (Nat.le_refl _) (fun _ h => h.elim)
  have hB := o1.size
  go_wp2_with fail
  refine (new_any size w1).mono ?_
  rintro e w2 ⟨c, rfl, hc, k2, f2⟩
  generalize w1.heap.size = B at hB hc k2 f2
  have b2 := below_fr hB b1 f2
  clear f2 b1 o1 hc
  go_wp2_with fail
  refine (few_any sp cap l w2 (hl.below b2) hmax0).mono ?_
  rintro e w3 ⟨fb, rfl, hfb, rfl⟩
  cases fb with
  | false =>
    clear hfb
    go_wp2
    go_ret
    exact ⟨rfl, b2⟩
  | true =>
    have hfew := hfb rfl
    clear hfb
    have HL0 := Lib.hid (show Lp size w B c 0 w2 from ⟨_, k2, Ok.new size, rfl, b2⟩)
    clear k2 b2
    go_wp2_with fail
    go_loopw [12] (fun i wr => ∃ k : Nat, k ≤ l.length ∧ i = .int .i64 k ∧ Lp size w B c k wr) (fun i _ => l.length - (intOf i).toNat)
    case atStart => exact ⟨0, Nat.zero_le _, rfl, HL0.out⟩
    case round =>
      obtain ⟨k, hk, rfl, s, hs, hok, hsz, hb⟩ := hrel
      by_cases hlk : k < l.length
      · obtain ⟨b, off, rfl, hbl, hbl2, c0, c1, c2, hks⟩ := hl.at hb hlk
        have hC1 : s.C.length + 1 < maxLen := by have := hok.few; unfold maxLen; omega
        have hn1 : s.n < 1000 := by have := hok.calls; omega
        have j0 : (0 : Int) ≤ (k : Int) := by omega
        have j1 : (k : Int) < (l.length : Int) := by omega
        generalize l[k] = a at c0 c1 c2 hks
        clear hl
        by_cases h0 : a.k = 0
        · have t0 : (a.k == 0) = true := by simp [h0]
          have HG := Lib.hid (get_any c B s a.key wr hs hks hC1 hn1)
          go_wp2_with fail
          refine HG.out.mono ?_
          rintro e w4 ⟨rfl, k4, f4⟩
          go_wp2
          go_roundw
          case rel => exact ⟨k + 1, by omega, by go_num, lp_step hB hb hsz k4 (hok.get _) (size_getC _ _) f4⟩
          case measure => simp [intOf]; omega
        have t0 : (a.k == 0) = false := by simpa using h0
        go_upto_region 13 with fail
        go_region_with (go_at_call 15; refine (offer_any c B s a.key a.val _ (hs.keep (Only.refl _ _).drew) hks).mono ?_; rintro e w4 ⟨rfl, k4, f4⟩)
        all_goals
          have f4' : Fr B wr w4 := (Fr.of_none B (Only.refl _ _).drew).trans f4
          go_wp2
          go_roundw
          case rel => exact ⟨k + 1, by omega, by go_num, lp_step hB hb hsz k4 (hok.offer _ _) rfl f4'⟩
          case measure => simp [intOf]; omega
      · clear hl
        go_wp2_with fail
        refine (keys_any c B s wr hs).mono ?_
        rintro e w5 ⟨v, rfl, hv, o5⟩
        have b5 := hb.trans (o5.below (B := w.heap.size) hb.size (fun _ h => h.elim))
        have k5 := hs.keep o5
        obtain ⟨sv, cv, rfl, hvl, _⟩ := hv.shape
        have hKs := keys_size k5
        have hKl : (keysOf s.T).length ≤ 64 := by rw [keysOf_length]; have := hok.room; have := hs.good.2.1; omega
        have HO := Lib.hid (offer_any c B s key val w5 k5 hkey)
        cases hoff : offerB s key with
        | false =>
          obtain ⟨e0, ep⟩ := offer_not val hoff hok.room
          have hgo := gate_out hoff hok.room
          have HH := Lib.hid (And.intro hoff e0)
          clear hoff e0 ep
          go_wp2_with fail
          refine HO.out.mono ?_
          rintro e w6 ⟨he, k6, f6⟩
          rw [HH.out.1] at he
          subst he
          have k6 : IsCache w6 B c s := by rw [← HH.out.2]; exact k6
          have b6 := below_fr hB b5 f6
          have hv6 := hv.fr f6
          clear f6 hv k5 b5
          go_wp2_with fail
          refine (keys_any c B s w6 k6).mono ?_
          rintro e w7 ⟨v7, rfl, hv7, o7⟩
          have k7 := k6.keep o7
          have b7 := b6.trans (o7.below (B := w.heap.size) b6.size (fun _ h => h.elim))
          have hv67 := hv6.only o7
          obtain ⟨K, hK⟩ : ∃ K, K = keysOf s.T := ⟨_, rfl⟩
          rw [← hK] at hv7 hv67 hvl hKs hKl hgo ⊢
          have HKK := Lib.hid hK
          clear hK o7 hv6 k6 b6
          obtain ⟨sn, cn, rfl, hnl, _⟩ := hv7.shape
          obtain ⟨_, _, hve, _, hvc⟩ := hv67.shape
          simp only [Value.slice.injEq, true_and] at hve
          obtain ⟨rfl, rfl⟩ := hve
          have HA := Lib.hid (hv67.reads hKs)
          have HB2 := Lib.hid (hv7.reads hKs)
          have HK7 := Lib.hid k7
          rcases Nat.eq_zero_or_pos K.length with h0 | h0
          · have hd : ((K.length : Int) == 0) = true := by rw [h0]; rfl
            have H0 := Lib.hid h0
            clear hv7 hv67 hvc hnl hvl k7 hgo h0
            go_upto_region 18 with fail
            go_quiet ((go_at_call 19; exact Calls.quiet_of (same_self _ _ _ _ K _ HA.out HB2.out (by unfold maxLen; omega))))
            go_wp2
            go_ret
            exact ⟨rfl, b7.drewN _⟩
          · obtain ⟨g, rfl, hgl, _, hc⟩ := hvc h0
            obtain ⟨m, hmE⟩ : ∃ m, m = K.length - 1 := ⟨_, rfl⟩
            have hml : m < K.length := by omega
            have hd : ((K.length : Int) == 0) = false := beq_false_of_ne (by omega)
            have hck := hc m hml
            have i1 : IntKind.i64.wrap ((K.length : Int) - 1) = (m : Int) := by rw [IntWalk.i64_in _ (by omega)]; omega
            have i2 : (0 : Int) ≤ (m : Int) := by omega
            have i3 : (m : Int) < (K.length : Int) := by omega
            have hle : often s.C key ≤ often s.C K[m] := by
              have e1 := HKK.out
              subst e1
              have hml' : m < s.T.length := by rw [keysOf_length] at hml; exact hml
              have e3 := hgo (by omega)
              unfold lastN at e3
              rw [keysOf_length] at hmE
              rw [← hmE, List.getElem?_eq_getElem hml'] at e3
              simpa [keysOf] using e3
            have hd2 : decide ((often s.C key : Int) ≤ (often s.C K[m] : Int)) = true := decide_eq_true (by omega)
            have hd3 : decide (often s.C key ≤ often s.C K[m]) = true := decide_eq_true hle
            clear hle
            have hKm := hKs _ (List.getElem_mem hml)
            obtain ⟨x, hx⟩ : ∃ x, x = K[m] := ⟨_, rfl⟩
            rw [← hx] at hKm hck hd2 hd3
            clear hx
            clear hv7 hv67 hc hnl hvl k7 hgo hmE hvc
            go_upto_region 18 with fail
            go_quiet ((first | (go_at_call 19; exact Calls.quiet_of (same_self _ _ _ _ K _ HA.out HB2.out (by unfold maxLen; omega))) | (go_at_call 22; exact Calls.quiet_of_same (often_any c B s _ _ (HK7.out.drewN _) (by assumption)))))
            go_wp2
            go_ret
            exact ⟨rfl, b7.drewN _⟩
        | true =>
          obtain ⟨hz0, R, e0⟩ := offer_yes val hoff
          have hgi : ∀ i (hi : i < (keysOf s.T).length), (keysOf s.T)[i] ∉ keysOf (offerT s key val) → i = (keysOf s.T).length - 1 ∧ often s.C (keysOf s.T)[i] < often s.C key := fun i hi hn => gate_in hoff hi hn
          have hN : keysOf (offerT s key val) = key :: keysOf R := by rw [e0]; rfl
          have HH := Lib.hid hoff
          clear hoff e0
          go_wp2_with fail
          refine HO.out.mono ?_
          rintro e w6 ⟨he, k6, f6⟩
          rw [HH.out] at he
          subst he
          have b6 := below_fr hB b5 f6
          have hv6 := hv.fr f6
          clear f6 hv k5 b5
          go_wp2_with fail
          refine (keys_any c B _ w6 k6).mono ?_
          rintro e w7 ⟨v7, rfl, hv7, o7⟩
          have k7 := k6.keep o7
          have b7 := b6.trans (o7.below (B := w.heap.size) b6.size (fun _ h => h.elim))
          have hv67 := hv6.only o7
          have hv7 : Strs w7 w6.heap.size v7 (keysOf (offerT s key val)) := hv7
          obtain ⟨K, hK⟩ : ∃ K, K = keysOf s.T := ⟨_, rfl⟩
          obtain ⟨N, hNe⟩ : ∃ N, N = keysOf (offerT s key val) := ⟨_, rfl⟩
          rw [← hNe] at hv7 hN
          rw [← hK] at hv67 hvl hKs hKl ⊢
          have hgi : ∀ i (hi : i < K.length), K[i] ∉ N → i = K.length - 1 ∧ often s.C K[i] < often s.C key := by rw [hK, hNe]; exact hgi
          clear hK hNe o7 hv6 b6
          have hN0 : 0 < N.length := by rw [hN]; simp
          have hNk : N[0] = key := by simp [hN]
          clear hN
          obtain ⟨sn, cn, rfl, hnl, hnc⟩ := hv7.shape
          obtain ⟨_, _, hve, _, hvc⟩ := hv67.shape
          simp only [Value.slice.injEq, true_and] at hve
          obtain ⟨rfl, rfl⟩ := hve
          obtain ⟨gn, rfl, hgn, _, hnc⟩ := hnc hN0
          have hd : ((N.length : Int) == 0) = false := beq_false_of_ne (by omega)
          have c0 := hnc 0 hN0
          have t3 : (N[0].toList == key.toList) = true := text_eq.2 hNk
          have i1 : (0 : Int) < (N.length : Int) := by omega
          have t1 : (key.toList == key.toList) = true := text_eq.2 rfl
          have t2 : (key.toList != key.toList) = false := by rw [bne, t1]; rfl
          have HGI := Lib.hid hgi
          unfold maxLen at hnl
          clear hgi hNk hv7 hv67
          go_wp2_with fail
          go_loopw [16] (fun i wr2 => ∃ k2 : Nat, k2 ≤ K.length ∧ i = .int .i64 k2 ∧ Drawn w7 wr2) (fun i _ => K.length - (intOf i).toNat)
          case atStart => exact ⟨0, Nat.zero_le _, rfl, Drawn.refl _⟩
          case round =>
            obtain ⟨k2, hk2, rfl, hdr⟩ := hrel
            by_cases hlk2 : k2 < K.length
            · obtain ⟨g, rfl, hgl, _, hc⟩ := hvc (by omega)
              have hck := (hc k2 hlk2)
              have hKx := hKs _ (List.getElem_mem hlk2)
              have HG := Lib.hid (HGI.out k2 hlk2)
              obtain ⟨x, hx⟩ : ∃ x, x = K[k2] := ⟨_, rfl⟩
              rw [← hx] at hck hKx HG
              clear hx hc hvc
              have j0 : (0 : Int) ≤ (k2 : Int) := by omega
              have j1 : (k2 : Int) < (K.length : Int) := by omega
              go_wp2_with fail
              go_loopw [17, 18] (fun t j wr3 => ∃ (j2 : Nat) (b : Bool), j2 ≤ N.length ∧ j = .int .i64 j2 ∧ t = .bool b ∧ Hid (b = true ↔ x ∈ N.take j2) ∧ Drawn w7 wr3) (fun _ j _ => N.length - (intOf j).toNat)
              case atStart => exact ⟨0, false, Nat.zero_le _, rfl, rfl, (by rw [Hid]; simp), hdr⟩
              case round =>
                obtain ⟨j2, b, hj2, rfl, rfl, hbm, hdr3⟩ := hrel
                by_cases hlj : j2 < N.length
                · have q0 : (0 : Int) ≤ (j2 : Int) := by omega
                  have q1 : (j2 : Int) < (N.length : Int) := by omega
                  have hcj := (hdr3.cell _).trans (hnc j2 hlj)
                  have hck3 := (hdr3.cell _).trans hck
                  have hms : x ∈ N.take (j2 + 1) ↔ x ∈ N.take j2 ∨ x = N[j2] := by
                    rw [List.take_succ_eq_append_getElem hlj, List.mem_append, List.mem_singleton]
                  have HMS := Lib.hid hms
                  have hgn3 : gn < wr.heap.size := by obtain ⟨_, rfl⟩ := hdr3; exact hgn
                  have hgl3 : g < wr.heap.size := by obtain ⟨_, rfl⟩ := hdr3; exact hgl
                  clear hms hck
                  cases b with
                  | true =>
                    go_upto_region 28 with fail
                    go_quiet (fail)
                    go_wp2
                    go_roundw
                    case rel => exact ⟨j2 + 1, true, by omega, by go_num, rfl, (by rw [Hid, HMS.out]; exact ⟨fun _ => .inl (hbm.out.1 rfl), fun _ => rfl⟩), hdr3.drewN _⟩
                    case measure => simp [intOf]; omega
                  | false =>
                    by_cases he : N[j2] = x
                    · have t3 : (N[j2].toList == x.toList) = true := text_eq.2 he
                      have HE := Lib.hid he
                      clear he
                      go_upto_region 28 with fail
                      go_quiet (fail)
                      go_wp2
                      go_roundw
                      case rel => exact ⟨j2 + 1, true, by omega, by go_num, rfl, (by rw [Hid, HMS.out]; exact ⟨fun _ => .inr HE.out.symm, fun _ => rfl⟩), hdr3.drewN _⟩
                      case measure => simp [intOf]; omega
                    · have t3 : (N[j2].toList == x.toList) = false := text_ne he
                      have HE := Lib.hid he
                      clear he
                      go_upto_region 28 with fail
                      go_quiet (fail)
                      go_wp2
                      go_roundw
                      case rel => exact ⟨j2 + 1, false, by omega, by go_num, rfl, (by rw [Hid, HMS.out]; exact ⟨(fun h => by cases h), (fun h => h.elim (fun h => hbm.out.2 h) (fun h => absurd h.symm HE.out))⟩), hdr3.drewN _⟩
                      case measure => simp [intOf]; omega
                · have hbm' : b = true ↔ x ∈ N := by have := hbm.out; rwa [List.take_of_length_le (by omega)] at this
                  have HBM := Lib.hid hbm'
                  clear hbm hbm'
                  have hck3 := (hdr3.cell _).trans hck
                  have hgl3 : g < wr.heap.size := by obtain ⟨_, rfl⟩ := hdr3; exact hgl
                  have k3 : IsCache wr B c (offerC s key val) := by obtain ⟨_, rfl⟩ := hdr3; exact k7.drewN _
                  clear hck
                  cases b with
                  | true =>
                    go_wp2
                    go_roundw
                    case rel => exact ⟨k2 + 1, by omega, by go_num, hdr3⟩
                    case measure => simp [intOf]; omega
                  | false =>
                    obtain ⟨hk2e, hlt⟩ := HG.out (fun h => by have := HBM.out.2 h; cases this)
                    have i2 : IntKind.i64.wrap ((K.length : Int) - 1) = (k2 : Int) := by rw [IntWalk.i64_in _ (by omega)]; omega
                    have HO1 : Calls Try.prog 22 #[.pointer (some ⟨c, 0, none⟩), .string x] wr fun e w' => e = .returned (.int .i64 (often s.C x)) ∧ w' = wr := often_any c B (offerC s key val) x wr k3 hKx
                    have HO2 : Calls Try.prog 22 #[.pointer (some ⟨c, 0, none⟩), .string key] wr fun e w' => e = .returned (.int .i64 (often s.C key)) ∧ w' = wr := often_any c B (offerC s key val) key wr k3 hkey
                    have HO1 := Lib.hid HO1
                    have HO2 := Lib.hid HO2
                    have hd5 : decide ((often s.C key : Int) ≤ (often s.C x : Int)) = false := decide_eq_false (by omega)
                    have hd6 : decide (often s.C key ≤ often s.C x) = false := decide_eq_false (by omega)
                    have HLT := Lib.hid hlt
                    have HK2 := Lib.hid hk2e
                    clear hlt hk2e
                    go_wp2_with fail
                    refine HO1.out.mono ?_
                    rintro e w8 ⟨rfl, rfl⟩
                    go_wp2_with fail
                    refine HO2.out.mono ?_
                    rintro e w9 ⟨rfl, rfl⟩
                    go_wp2
                    go_roundw
                    case rel => exact ⟨k2 + 1, by omega, by go_num, hdr3⟩
                    case measure => simp [intOf]; omega
            · go_wp2
              go_ret
              obtain ⟨n, rfl⟩ := hdr
              exact ⟨rfl, b7.drewN _⟩

end Go.Proofs.Ytgmelphklppcbaa
