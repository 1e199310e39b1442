/- The walk of CacheRoom. -/
import Derived.Test.YtgmelphklppcbaaV
namespace Go.Proofs.Ytgmelphklppcbaa
open Go.RowKit

theorem trio {w : World} {b : Nat} {p q r : Value} {t : TypeId} (h : w.heap[b]? = some (.cells #[p, q, r] t (0, 0))) : w.cell? ⟨b, 0, none⟩ = some p ∧ w.cell? ⟨b, 1, none⟩ = some q ∧ w.cell? ⟨b, 2, none⟩ = some r := by
  simp [World.cell?, h]

/-- What the law's loop keeps. -/
def Lr (r : Nat) (l : List CAct) (w : World) (B c k : Nat) (wr : World) : Prop :=
  ∃ s, IsCache wr B c s ∧ Ok s k ∧ s.size = r ∧ Sum s ∧ Off (l.take k) s.T ∧ Below w.heap.size w wr

set_option maxHeartbeats 6400000 in
set_option maxRecDepth 100000 in
theorem room_any (size : Int) (sp : Option Addr) (cap : Nat) (l : List CAct) (w : World) (hl : ReadsA w sp l) (hmax : l.length ≤ maxLen) :
    Calls Try.prog 4 #[.int .i64 size, .slice sp l.length cap] w fun e w' => e = .returned (.bool true) ∧ Below w.heap.size w w' := by
  have hmax0 := hmax
  unfold maxLen at hmax
  have hmax : l.length ≤ 9223372036854775807 := by omega
  go_enter Try.func4, Try.ntmps4
  go_wp2_with fail
  refine (works_any w).mono ?_
  rintro e w1 ⟨rfl, o1⟩
  have b1 : Below w.heap.size w w1 := o1.below (Nat.le_refl _) (fun _ h => h.elim)
  have hB := o1.size
  go_wp2_with fail
  refine (new_any size w1).mono ?_
  rintro e w2 ⟨c, rfl, hc, k2, f2⟩
  generalize w1.heap.size = B at hB hc k2 f2
  have b2 := below_fr hB b1 f2
  clear f2 b1 o1 hc
  go_wp2_with fail
  refine (few_any sp cap l w2 (hl.below b2) hmax0).mono ?_
  rintro e w3 ⟨fb, rfl, hfb, rfl⟩
  cases fb with
  | false =>
    clear hfb
    go_wp2
    go_ret
    exact ⟨rfl, b2⟩
  | true =>
    have hfew := hfb rfl
    clear hfb
    obtain ⟨r, hr⟩ : ∃ r, r = (newCa size).size := ⟨_, rfl⟩
    have hri : (r : Int) = min (max size 0) 64 := by
      have : (newCa size).size = (min (max size 0) 64).toNat := rfl
      omega
    have hr64 : r ≤ 64 := by omega
    have HL0 := Lib.hid (show Lr r l w B c 0 w2 from ⟨_, k2, Ok.new size, hr.symm, Sum.new size, (fun x hx => by cases hx), b2⟩)
    have HRI := Lib.hid hri
    clear k2 b2 hr hri
    go_upto_region 8 with fail
    go_cut [8] (fun v wx => v = .int .i64 r ∧ wx = w2)
    case first =>
      go_wp2_with fail
      all_goals
        go_meet
        have := HRI.out
        refine ⟨?_, rfl⟩
        congr 1
        omega
    case rest =>
      obtain ⟨rfl, rfl⟩ := hcut
      clear HRI
      go_wp2_with fail
      go_loopw [9] (fun i wr => ∃ k : Nat, k ≤ l.length ∧ i = .int .i64 k ∧ Lr r l w B c k wr) (fun i _ => l.length - (intOf i).toNat)
      case atStart => exact ⟨0, Nat.zero_le _, rfl, HL0.out⟩
      case round =>
        obtain ⟨k, hk, rfl, s, hs, hok, hsr, hsum, hoff, hb⟩ := hrel
        by_cases hlk : k < l.length
        · have HL := Lib.hid hl
          obtain ⟨b, off, rfl, hbl, hbl2, c0, c1, c2, hks⟩ := hl.at hb hlk
          have htk : l.take (k + 1) = l.take k ++ [l[k]] := List.take_succ_eq_append_getElem hlk
          have hC1 : s.C.length + 1 < maxLen := by have := hok.few; unfold maxLen; omega
          have hn1 : s.n < 1000 := by have := hok.calls; omega
          have j0 : (0 : Int) ≤ (k : Int) := by omega
          have j1 : (k : Int) < (l.length : Int) := by omega
          generalize l[k] = a at c0 c1 c2 hks htk
          have oA := Only.alloc wr (.cells #[.int .i64 a.k, .string a.key, .string a.val] 33) (fun _ => False)
          have ka := heap_alloc_new wr (.cells #[.int .i64 a.k, .string a.key, .string a.val] 33)
          obtain ⟨wa, hwa⟩ : ∃ wa, wa = wr.alloc (.cells #[.int .i64 a.k, .string a.key, .string a.val] 33) := ⟨_, rfl⟩
          rw [← hwa] at oA ka
          have HWA := Lib.hid hwa
          have hsa := hs.keep oA
          have hba := hb.trans (oA.below (B := w.heap.size) hb.size (fun _ h => h.elim))
          clear hwa hl oA hs hb
          by_cases h0 : a.k = 0
          · have t0 : (a.k == 0) = true := by simp [h0]
            have HG := Lib.hid (get_any c B s a.key wa hsa hks hC1 hn1)
            have hok1 := hok.get a.key
            have hsum1 := hsum.get a.key
            have hoff1 : Off (l.take (k + 1)) (getC s a.key).T := by rw [htk]; exact (hoff.get a.key).snoc a
            have HSZ := Lib.hid ((size_getC s a.key).trans hsr)
            have hsz1 : (getC s a.key).size = r := HSZ.out
            have HT : Hid ((getB s a.key = true → ∃ x ∈ l.take k, x.k = 1 ∧ x.key = a.key ∧ x.val = getV s a.key) ∧ (getB s a.key = false → getV s a.key = ⟨#[]⟩)) := ⟨hoff.told, getV_not⟩
            obtain ⟨v, hv⟩ : ∃ v, v = getV s a.key := ⟨_, rfl⟩
            obtain ⟨gb, hgb⟩ : ∃ gb, gb = getB s a.key := ⟨_, rfl⟩
            rw [← hv, ← hgb] at HG HT
            clear hv hgb htk hok hsum hoff h0
            go_wp2_with fail
            rw [← HWA.out]
            clear c0 c1 c2 hbl2
            generalize wr.heap.size = nA at ka ⊢
            refine HG.out.mono ?_
            rintro e w5 ⟨rfl, k5, f5⟩
            have ba5 := f5.keep ka (by decide) (by decide)
            have b5 := below_fr hB hba f5
            have hlb5 := lt_of_block ba5
            have hlw5 : b < w5.heap.size := Nat.lt_of_lt_of_le hbl b5.size
            have hat : ∀ j (hj : j < l.length), w5.cell? ⟨b, off + j * 3, none⟩ = some (.int .i64 l[j].k) ∧ w5.cell? ⟨b, off + j * 3 + 1, none⟩ = some (.string l[j].key) ∧ w5.cell? ⟨b, off + j * 3 + 2, none⟩ = some (.string l[j].val) := fun j hj => by
              obtain ⟨b', off', e0, _, _, e1, e2, e3, _⟩ := HL.out.at b5 hj
              simp only [Option.some.injEq, Addr.mk.injEq, and_true] at e0
              obtain ⟨rfl, rfl⟩ := e0
              exact ⟨e1, e2, e3⟩
            have HAT := Lib.hid hat
            clear hat f5 hsa hba
            go_wp2_with fail
            go_loopw [13, 14] (fun q j wr2 => ∃ (j2 : Nat) (qb : ByteArray), j2 ≤ k ∧ j = .int .i64 j2 ∧ q = .string qb ∧ Hid ((∃ x ∈ l.take j2, x.k = 1 ∧ x.key = a.key ∧ x.val = v) → qb = v) ∧ Drawn w5 wr2) (fun _ j _ => k - (intOf j).toNat)
            case atStart => exact ⟨0, ⟨#[]⟩, Nat.zero_le _, rfl, rfl, (by rw [Hid]; simp), Drawn.refl _⟩
            case round =>
              obtain ⟨j2, qb, hj2, rfl, rfl, hq, hdr⟩ := hrel
              have x5 := (hdr.cell _).trans (trio ba5).2.1
              have hlb6 : nA < wr.heap.size := by obtain ⟨_, rfl⟩ := hdr; exact hlb5
              have hlw6 : b < wr.heap.size := by obtain ⟨_, rfl⟩ := hdr; exact hlw5
              by_cases hlj : j2 < k
              · have hjl : j2 < l.length := by omega
                obtain ⟨y0, y1, y2⟩ := HAT.out j2 hjl
                have y0 := (hdr.cell _).trans y0
                have y1 := (hdr.cell _).trans y1
                have y2 := (hdr.cell _).trans y2
                have q0 : (0 : Int) ≤ (j2 : Int) := by omega
                have q1 : (j2 : Int) < (l.length : Int) := by omega
                have hms : (∃ x ∈ l.take (j2 + 1), x.k = 1 ∧ x.key = a.key ∧ x.val = v) ↔ (∃ x ∈ l.take j2, x.k = 1 ∧ x.key = a.key ∧ x.val = v) ∨ (l[j2].k = 1 ∧ l[j2].key = a.key ∧ l[j2].val = v) := by
                  rw [List.take_succ_eq_append_getElem hjl]
                  constructor
                  · rintro ⟨x, hx, hp⟩
                    rcases List.mem_append.1 hx with hx | hx
                    · exact .inl ⟨x, hx, hp⟩
                    · obtain rfl := List.mem_singleton.1 hx; exact .inr hp
                  · rintro (⟨x, hx, hp⟩ | hp)
                    · exact ⟨x, List.mem_append_left _ hx, hp⟩
                    · exact ⟨_, List.mem_append_right _ (List.mem_singleton.2 rfl), hp⟩
                have HMS := Lib.hid hms
                generalize l[j2] = y at y0 y1 y2 HMS
                clear hms
                by_cases p0 : y.k = 1
                · have u0 : (y.k == 1) = true := by simp [p0]
                  by_cases p1 : y.key = a.key
                  · have u1 : (y.key.toList == a.key.toList) = true := text_eq.2 p1
                    by_cases p2 : y.val = v
                    · have u2 : (y.val.toList == v.toList) = true := text_eq.2 p2
                      clear p0 p1 p2
                      go_upto_region 19 with fail
                      go_quiet (fail)
                      go_wp2
                      go_roundw
                      case rel => exact ⟨j2 + 1, v, by omega, by go_num, rfl, (fun _ => rfl), hdr.drewN _⟩
                      case measure => simp [intOf]; omega
                    · have u2 : (y.val.toList == v.toList) = false := text_ne p2
                      have P := Lib.hid p2
                      clear p0 p1 p2
                      go_upto_region 19 with fail
                      go_quiet (fail)
                      go_wp2
                      go_roundw
                      case rel => exact ⟨j2 + 1, qb, by omega, by go_num, rfl, (fun h => (HMS.out.1 h).elim hq.out (fun h => absurd h.2.2 P.out)), hdr.drewN _⟩
                      case measure => simp [intOf]; omega
                  · have u1 : (y.key.toList == a.key.toList) = false := text_ne p1
                    have P := Lib.hid p1
                    clear p0 p1
                    go_upto_region 19 with fail
                    go_quiet (fail)
                    go_wp2
                    go_roundw
                    case rel => exact ⟨j2 + 1, qb, by omega, by go_num, rfl, (fun h => (HMS.out.1 h).elim hq.out (fun h => absurd h.2.1 P.out)), hdr.drewN _⟩
                    case measure => simp [intOf]; omega
                · have u0 : (y.k == 1) = false := by simpa using p0
                  have P := Lib.hid p0
                  clear p0
                  go_upto_region 19 with fail
                  go_quiet (fail)
                  go_wp2
                  go_roundw
                  case rel => exact ⟨j2 + 1, qb, by omega, by go_num, rfl, (fun h => (HMS.out.1 h).elim hq.out (fun h => absurd h.1 P.out)), hdr.drewN _⟩
                  case measure => simp [intOf]; omega
              · have hjk : k = j2 := by omega
                subst hjk
                have k6 : IsCache wr B c (getC s a.key) := by obtain ⟨_, rfl⟩ := hdr; exact k5.drewN _
                have ba6 : wr.heap[nA]? = some (.cells #[.int .i64 a.k, .string a.key, .string a.val] 33 (0, 0)) := by obtain ⟨_, rfl⟩ := hdr; exact ba5
                have b6 : Below w.heap.size w wr := by obtain ⟨_, rfl⟩ := hdr; exact b5.drewN _
                clear hdr k5 ba5 b5 hlb5 hlw5 HAT
                cases gb with
                | true =>
                  obtain rfl := hq.out (HT.out.1 rfl)
                  have u : (qb.toList == qb.toList) = true := text_eq.2 rfl
                  have u' : (qb.toList != qb.toList) = false := by rw [bne, u]; rfl
                  have HKY := Lib.hid (keys_any c B _ wr k6)
                  have hlen : (keysOf (getC s a.key).T).length ≤ r := by rw [keysOf_length]; have := hok1.room; omega
                  have hfewC : (getC s a.key).C.length ≤ 20 * r := by have := hsum1.few hok1 k6.good.1; omega
                  have h15 := often_le k6.good.1 a.key
                  have d1 : decide ((r : Int) < ((keysOf (getC s a.key).T).length : Int)) = false := decide_eq_false (by omega)
                  have d2 : decide (20 * (r : Int) < ((getC s a.key).C.length : Int)) = false := decide_eq_false (by omega)
                  have d3 : decide ((15 : Int) < (often (getC s a.key).C a.key : Int)) = false := decide_eq_false (by omega)
                  have n1 : ¬ r < (keysOf (getC s a.key).T).length := by omega
                  have n2 : ¬ 20 * (r : Int) < ((getC s a.key).C.length : Int) := by omega
                  have n3 : ¬ 15 < often (getC s a.key).C a.key := by omega
                  have i20 : IntKind.i64.wrap (20 * (r : Int)) = 20 * (r : Int) := IntWalk.i64_in _ (by omega)
                  have HX := Lib.hid (And.intro hok1 (And.intro hsum1 hoff1))
                  clear hok1 hsum1 hoff1 hlen hfewC h15
                  go_wp2_with fail
                  refine HKY.out.mono ?_
                  rintro e w9 ⟨v9, rfl, hv9, o9⟩
                  have k9 := k6.keep o9
                  have b9 := b6.trans (o9.below (B := w.heap.size) b6.size (fun _ h => h.elim))
                  have ba9 := o9.keep ba6 (fun h => h)
                  obtain ⟨sv, cv, rfl, _, _⟩ := hv9.shape
                  have hlb9 := lt_of_block ba9
                  have x9 := (trio ba9).2.1
                  have HC := Lib.hid (counted_any c B _ w9 k9)
                  have HN := Lib.hid (often_any c B _ a.key w9 k9 hks)
                  clear hv9 o9
                  go_wp2_with fail
                  refine HC.out.mono ?_
                  rintro e w10 ⟨rfl, rfl⟩
                  go_wp2_with fail
                  refine HN.out.mono ?_
                  rintro e w11 ⟨rfl, rfl⟩
                  go_wp2
                  go_roundw
                  case rel => exact ⟨k + 1, by omega, by go_num, (getC s a.key), k9, HX.out.1, HSZ.out, HX.out.2.1, HX.out.2.2, b9⟩
                  case measure => simp [intOf]; omega
                | false =>
                  obtain rfl := HT.out.2 rfl
                  have HKY := Lib.hid (keys_any c B _ wr k6)
                  have hlen : (keysOf (getC s a.key).T).length ≤ r := by rw [keysOf_length]; have := hok1.room; omega
                  have hfewC : (getC s a.key).C.length ≤ 20 * r := by have := hsum1.few hok1 k6.good.1; omega
                  have h15 := often_le k6.good.1 a.key
                  have d1 : decide ((r : Int) < ((keysOf (getC s a.key).T).length : Int)) = false := decide_eq_false (by omega)
                  have d2 : decide (20 * (r : Int) < ((getC s a.key).C.length : Int)) = false := decide_eq_false (by omega)
                  have d3 : decide ((15 : Int) < (often (getC s a.key).C a.key : Int)) = false := decide_eq_false (by omega)
                  have n1 : ¬ r < (keysOf (getC s a.key).T).length := by omega
                  have n2 : ¬ 20 * (r : Int) < ((getC s a.key).C.length : Int) := by omega
                  have n3 : ¬ 15 < often (getC s a.key).C a.key := by omega
                  have i20 : IntKind.i64.wrap (20 * (r : Int)) = 20 * (r : Int) := IntWalk.i64_in _ (by omega)
                  have HX := Lib.hid (And.intro hok1 (And.intro hsum1 hoff1))
                  clear hok1 hsum1 hoff1 hlen hfewC h15
                  go_wp2_with fail
                  refine HKY.out.mono ?_
                  rintro e w9 ⟨v9, rfl, hv9, o9⟩
                  have k9 := k6.keep o9
                  have b9 := b6.trans (o9.below (B := w.heap.size) b6.size (fun _ h => h.elim))
                  have ba9 := o9.keep ba6 (fun h => h)
                  obtain ⟨sv, cv, rfl, _, _⟩ := hv9.shape
                  have hlb9 := lt_of_block ba9
                  have x9 := (trio ba9).2.1
                  have HC := Lib.hid (counted_any c B _ w9 k9)
                  have HN := Lib.hid (often_any c B _ a.key w9 k9 hks)
                  clear hv9 o9
                  go_wp2_with fail
                  refine HC.out.mono ?_
                  rintro e w10 ⟨rfl, rfl⟩
                  go_wp2_with fail
                  refine HN.out.mono ?_
                  rintro e w11 ⟨rfl, rfl⟩
                  go_wp2
                  go_roundw
                  case rel => exact ⟨k + 1, by omega, by go_num, (getC s a.key), k9, HX.out.1, HSZ.out, HX.out.2.1, HX.out.2.2, b9⟩
                  case measure => simp [intOf]; omega
          have t0 : (a.k == 0) = false := by simpa using h0
          by_cases h1 : a.k = 1
          · have t1 : (a.k == 1) = true := by simp [h1]
            have HG := Lib.hid (offer_any c B s a.key a.val wa hsa hks)
            have hok1 := hok.offer a.key a.val
            have hsum1 : Sum (offerC s a.key a.val) := ⟨hsum.most, hsum.calls⟩
            have hoff1 : Off (l.take (k + 1)) (offerC s a.key a.val).T := by rw [htk]; exact (hoff.snoc a).offer ⟨a, List.mem_append_right _ (List.mem_singleton.2 rfl), h1, rfl, rfl⟩
            have HSZ : Hid ((offerC s a.key a.val).size = r) := hsr
            have hsz1 : (offerC s a.key a.val).size = r := hsr
            have xa := trio ka
            have hlba := lt_of_block ka
            clear htk hok hsum hoff h1
            go_wp2_with fail
            rw [← HWA.out]
            clear c0 c1 c2 hbl2 xa hlba
            generalize wr.heap.size = nA at ka ⊢
            refine HG.out.mono ?_
            rintro e w5 ⟨rfl, k5, f5⟩
            have k5 : IsCache w5 B c (offerC s a.key a.val) := k5
            have ba5 := f5.keep ka (by decide) (by decide)
            have b5 := below_fr hB hba f5
            clear f5 hsa hba
            have HKY := Lib.hid (keys_any c B _ w5 k5)
            have hlen : (keysOf (offerC s a.key a.val).T).length ≤ r := by rw [keysOf_length]; have := hok1.room; omega
            have hfewC : (offerC s a.key a.val).C.length ≤ 20 * r := by have := hsum1.few hok1 k5.good.1; omega
            have h15 := often_le k5.good.1 a.key
            have d1 : decide ((r : Int) < ((keysOf (offerC s a.key a.val).T).length : Int)) = false := decide_eq_false (by omega)
            have d2 : decide (20 * (r : Int) < ((offerC s a.key a.val).C.length : Int)) = false := decide_eq_false (by omega)
            have d3 : decide ((15 : Int) < (often (offerC s a.key a.val).C a.key : Int)) = false := decide_eq_false (by omega)
            have n1 : ¬ r < (keysOf (offerC s a.key a.val).T).length := by omega
            have n2 : ¬ 20 * (r : Int) < ((offerC s a.key a.val).C.length : Int) := by omega
            have n3 : ¬ 15 < often (offerC s a.key a.val).C a.key := by omega
            have i20 : IntKind.i64.wrap (20 * (r : Int)) = 20 * (r : Int) := IntWalk.i64_in _ (by omega)
            have HX := Lib.hid (And.intro hok1 (And.intro hsum1 hoff1))
            clear hok1 hsum1 hoff1 hlen hfewC h15
            go_wp2_with fail
            refine HKY.out.mono ?_
            rintro e w9 ⟨v9, rfl, hv9, o9⟩
            have k9 := k5.keep o9
            have b9 := b5.trans (o9.below (B := w.heap.size) b5.size (fun _ h => h.elim))
            have ba9 := o9.keep ba5 (fun h => h)
            obtain ⟨sv, cv, rfl, _, _⟩ := hv9.shape
            have hlb9 := lt_of_block ba9
            have x9 := (trio ba9).2.1
            have HC := Lib.hid (counted_any c B _ w9 k9)
            have HN := Lib.hid (often_any c B _ a.key w9 k9 hks)
            clear hv9 o9
            go_wp2_with fail
            refine HC.out.mono ?_
            rintro e w10 ⟨rfl, rfl⟩
            go_wp2_with fail
            refine HN.out.mono ?_
            rintro e w11 ⟨rfl, rfl⟩
            go_wp2
            go_roundw
            case rel => exact ⟨k + 1, by omega, by go_num, (offerC s a.key a.val), k9, HX.out.1, HSZ.out, HX.out.2.1, HX.out.2.2, b9⟩
            case measure => simp [intOf]; omega
          have t1 : (a.k == 1) = false := by simpa using h1
          have HG := Lib.hid (forget_any c B s a.key wa hsa)
          have hok1 := hok.forget a.key
          have hsum1 := hsum.forget a.key
          have hoff1 : Off (l.take (k + 1)) (forgetC s a.key).T := by rw [htk]; exact (hoff.snoc a).forget a.key
          have HSZ : Hid ((forgetC s a.key).size = r) := (size_forgetC s a.key).trans hsr
          have hsz1 : (forgetC s a.key).size = r := HSZ.out
          clear htk hok hsum hoff h0 h1
          go_wp2_with fail
          rw [← HWA.out]
          clear c0 c1 c2 hbl2
          generalize wr.heap.size = nA at ka ⊢
          refine HG.out.mono ?_
          rintro e w5 ⟨rfl, k5, f5⟩
          have ba5 := f5.keep ka (by decide) (by decide)
          have b5 := below_fr hB hba f5
          clear f5 hsa hba
          have HKY := Lib.hid (keys_any c B _ w5 k5)
          have hlen : (keysOf (forgetC s a.key).T).length ≤ r := by rw [keysOf_length]; have := hok1.room; omega
          have hfewC : (forgetC s a.key).C.length ≤ 20 * r := by have := hsum1.few hok1 k5.good.1; omega
          have h15 := often_le k5.good.1 a.key
          have d1 : decide ((r : Int) < ((keysOf (forgetC s a.key).T).length : Int)) = false := decide_eq_false (by omega)
          have d2 : decide (20 * (r : Int) < ((forgetC s a.key).C.length : Int)) = false := decide_eq_false (by omega)
          have d3 : decide ((15 : Int) < (often (forgetC s a.key).C a.key : Int)) = false := decide_eq_false (by omega)
          have n1 : ¬ r < (keysOf (forgetC s a.key).T).length := by omega
          have n2 : ¬ 20 * (r : Int) < ((forgetC s a.key).C.length : Int) := by omega
          have n3 : ¬ 15 < often (forgetC s a.key).C a.key := by omega
          have i20 : IntKind.i64.wrap (20 * (r : Int)) = 20 * (r : Int) := IntWalk.i64_in _ (by omega)
          have HX := Lib.hid (And.intro hok1 (And.intro hsum1 hoff1))
          clear hok1 hsum1 hoff1 hlen hfewC h15
          go_wp2_with fail
          refine HKY.out.mono ?_
          rintro e w9 ⟨v9, rfl, hv9, o9⟩
          have k9 := k5.keep o9
          have b9 := b5.trans (o9.below (B := w.heap.size) b5.size (fun _ h => h.elim))
          have ba9 := o9.keep ba5 (fun h => h)
          obtain ⟨sv, cv, rfl, _, _⟩ := hv9.shape
          have hlb9 := lt_of_block ba9
          have x9 := (trio ba9).2.1
          have HC := Lib.hid (counted_any c B _ w9 k9)
          have HN := Lib.hid (often_any c B _ a.key w9 k9 hks)
          clear hv9 o9
          go_wp2_with fail
          refine HC.out.mono ?_
          rintro e w10 ⟨rfl, rfl⟩
          go_wp2_with fail
          refine HN.out.mono ?_
          rintro e w11 ⟨rfl, rfl⟩
          go_wp2
          go_roundw
          case rel => exact ⟨k + 1, by omega, by go_num, (forgetC s a.key), k9, HX.out.1, HSZ.out, HX.out.2.1, HX.out.2.2, b9⟩
          case measure => simp [intOf]; omega
        · go_wp2
          go_ret
          exact ⟨rfl, hb⟩

end Go.Proofs.Ytgmelphklppcbaa
