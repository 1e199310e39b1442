/- The walk of CacheLast. -/
import Derived.Test.YtgmelphklppcbaaT
namespace Go.Proofs.Ytgmelphklppcbaa
open Go.RowKit

theorem lastN_nil {s : Ca} (h : s.C = []) : lastN s = 0 := by
  unfold lastN
  rw [h]
  split <;> rfl

theorem others_front {s : Ca} {key : ByteArray} (hn : (keysOf s.T).Nodup) (hp : pl s.T key < s.T.length) (v : ByteArray) : keysOf (frontL s.T (pl s.T key) v) = key :: others (keysOf s.T) key := by
  rw [keys_front hp, pl_lt hp, ← keys_forget hn, (forget_yes hp).1]
  simp [keysOf]

theorem last_keys {s : Ca} {key : ByteArray} (v : ByteArray) (hC : s.C = []) (hn : (keysOf s.T).Nodup) (hr : s.T.length ≤ s.size) :
    offerB s key = (getB s key || decide ((keysOf s.T).length < s.size)) ∧ keysOf (offerT s key v) = if offerB s key = true then key :: others (keysOf s.T) key else keysOf s.T := by
  have hl := keysOf_length s.T
  have h0 := lastN_nil hC
  have ho : often s.C key = 0 := by rw [hC]; rfl
  by_cases hz : s.size = 0
  · have hnp : ¬ pl s.T key < s.T.length := by omega
    rw [(offer_zero (v := v) hz).1, (offer_zero (v := v) hz).2, (get_none hnp).2, decide_eq_false (by omega)]
    exact ⟨rfl, rfl⟩
  by_cases hp : pl s.T key < s.T.length
  · rw [(offer_there (v := v) hz hp).1, (offer_there (v := v) hz hp).2, (get_yes hz hp).2.2]
    exact ⟨rfl, others_front hn hp v⟩
  have hnk : key ∉ keysOf s.T := fun e => hp (pl_mem.2 e)
  by_cases hroom : s.T.length < s.size
  · rw [(offer_room (v := v) hz hp hroom).1, (offer_room (v := v) hz hp hroom).2, (get_none hp).2, decide_eq_true (by omega), others_self hnk]
    exact ⟨rfl, rfl⟩
  · rw [(offer_out (v := v) hz hp hroom (by omega)).1, (offer_out (v := v) hz hp hroom (by omega)).2, (get_none hp).2, decide_eq_false (by omega)]
    exact ⟨rfl, rfl⟩

theorem getB_iff {s : Ca} {key : ByteArray} {b : Bool} (h : b = true ↔ key ∈ keysOf s.T) : getB s key = b := by
  unfold getB
  cases b with
  | true => exact decide_eq_true (pl_mem.2 (h.1 rfl))
  | false => exact decide_eq_false (fun e => by have := h.2 (pl_mem.1 e); cases this)

theorem Reads.at {w wr : World} {sp : Option Addr} {L : List ByteArray} (h : Reads w sp L) (hb : Below w.heap.size w wr) {k : Nat} (hk : k < L.length) :
    ∃ b off, sp = some ⟨b, off, none⟩ ∧ b < w.heap.size ∧ b < wr.heap.size ∧ wr.cell? ⟨b, off + k, none⟩ = some (.string L[k]) ∧ L[k].size ≤ maxLen := by
  obtain ⟨b, off, h1, h2, h3⟩ := h (by omega)
  obtain ⟨c0, c1⟩ := h3 k hk
  exact ⟨b, off, h1, h2, Nat.lt_of_lt_of_le h2 hb.size, (hb.cell (p := ⟨b, off + k, none⟩) h2).trans c0, c1⟩

/-- What the law's loop keeps. -/
def Ls (r : Nat) (w : World) (B c k : Nat) (wr : World) (v : Value) : Prop :=
  ∃ s, IsCache wr B c s ∧ Ok s k ∧ s.C = [] ∧ s.size = r ∧ Strs wr w.heap.size v (keysOf s.T) ∧ Below w.heap.size w wr

def vText : ByteArray := ⟨#[118]⟩

set_option maxHeartbeats 6400000 in
set_option maxRecDepth 100000 in
theorem last_any (size : Int) (sp : Option Addr) (cap : Nat) (l : List ByteArray) (w : World) (hl : Reads w sp l) (hmax : l.length ≤ maxLen) :
    Calls Try.prog 8 #[.int .i64 size, .slice sp l.length cap] w fun e w' => e = .returned (.bool true) ∧ Below w.heap.size w w' := by
  unfold maxLen at hmax
  have hmax : l.length ≤ 9223372036854775807 := by omega
  go_enter Try.func8, Try.ntmps8
  go_wp2_with fail
  refine (works_any w).mono ?_
  rintro e w1 ⟨rfl, o1⟩
  have b1 : Below w.heap.size w w1 := o1.below (Nat.le_refl _) (fun _ h => h.elim)
  have hB := o1.size
  go_wp2_with fail
  refine (new_any size w1).mono ?_
  rintro e w2 ⟨c, rfl, hc, k2, f2⟩
  generalize w1.heap.size = B at hB hc k2 f2
  have b2 := below_fr hB b1 f2
  clear f2 b1 o1 hc
  by_cases hlen : 200 < l.length
  · have hd : decide ((200 : Int) < (l.length : Int)) = true := decide_eq_true (by omega)
    go_wp2
    go_ret
    exact ⟨rfl, b2⟩
  have hd : decide ((200 : Int) < (l.length : Int)) = false := decide_eq_false (by omega)
  obtain ⟨r, hr⟩ : ∃ r, r = (newCa size).size := ⟨_, rfl⟩
  have hri : (r : Int) = min (max size 0) 64 := by
    have : (newCa size).size = (min (max size 0) 64).toNat := rfl
    omega
  have hr64 : r ≤ 64 := by omega
  have HL0 := Lib.hid (show Ls r w B c 0 w2 (.slice none 0 0) from ⟨_, k2, Ok.new size, rfl, hr.symm, World.ownsRow_nil _ _ _ _, b2⟩)
  have HRI := Lib.hid hri
  clear k2 b2 hr hri
  go_upto_region 8 with fail
  go_cut [8] (fun v wx => v = .int .i64 r ∧ wx = w2)
  case first =>
    go_wp2_with fail
    all_goals
      go_meet
      have := HRI.out
      refine ⟨?_, rfl⟩
      congr 1
      omega
  case rest =>
    obtain ⟨rfl, rfl⟩ := hcut
    clear HRI
    go_wp2_with fail
    go_loopw [7, 9] (fun v i wr => ∃ k : Nat, k ≤ l.length ∧ i = .int .i64 k ∧ Ls r w B c k wr v) (fun _ i _ => l.length - (intOf i).toNat)
    case atStart => exact ⟨0, Nat.zero_le _, rfl, HL0.out⟩
    case round =>
      obtain ⟨k, hk, rfl, s, hs, hok, hsC, hsr, hst, hb⟩ := hrel
      by_cases hlk : k < l.length
      · obtain ⟨b, off, rfl, hbl, hbl2, c0, hxs⟩ := hl.at hb hlk
        have HL := Lib.hid (fun (wr' : World) (hb' : Below w.heap.size w wr') => hl.at hb' hlk)
        have j0 : (0 : Int) ≤ (k : Int) := by omega
        have j1 : (k : Int) < (l.length : Int) := by omega
        generalize l[k] = x at c0 hxs HL
        clear hl
        by_cases h50 : 50 < x.size
        · have hd5 : decide ((50 : Int) < (x.size : Int)) = true := decide_eq_true (by omega)
          go_wp2
          go_ret
          exact ⟨rfl, hb⟩
        have hd5 : decide ((50 : Int) < (x.size : Int)) = false := decide_eq_false (by omega)
        have HK := Lib.hid (last_keys (key := x) vText hsC hok.nodup hok.room)
        have HO := Lib.hid (offer_any c B s x vText wr hs hxs)
        have HKs := Lib.hid (keys_size hs)
        have hKl : (keysOf s.T).length ≤ 64 := by rw [keysOf_length]; have := hok.room; omega
        unfold vText at HO HK
        go_wp2_with fail
        refine HO.out.mono ?_
        rintro e w6 ⟨rfl, k6, f6⟩
        have b6 := below_fr hB hb f6
        have st6 := hst.fr f6
        have hof : Ok (offerC s x ⟨#[118]⟩) (k + 1) := hok.offer _ _
        have k6 : IsCache w6 B c (offerC s x ⟨#[118]⟩) := k6
        have HOF := Lib.hid hof
        have c0 : w6.cell? ⟨b, off + k, none⟩ = some (.string x) := by
          obtain ⟨b', off', e0, _, _, e1, _⟩ := HL.out w6 b6
          simp only [Option.some.injEq, Addr.mk.injEq, and_true] at e0
          obtain ⟨rfl, rfl⟩ := e0
          exact e1
        have hbl6 : b < w6.heap.size := Nat.lt_of_lt_of_le hbl b6.size
        obtain ⟨K, hK⟩ : ∃ K, K = keysOf s.T := ⟨_, rfl⟩
        rw [← hK] at hKl st6 HK HKs
        have HKK := Lib.hid hK
        have hn0 : Strs w6 w6.heap.size (.slice none 0 0) (others (K.take 0) x) := World.ownsRow_nil _ _ _ _
        obtain ⟨sv, cv, rfl, hvl, hvc⟩ := st6.shape
        clear hK hof hb hst hs f6 hvl hbl2
        go_wp2_with fail
        go_loopw [11, 12, 13] (fun vl t j wr3 => ∃ (j2 : Nat) (q : Bool), j2 ≤ K.length ∧ j = .int .i64 j2 ∧ t = .bool q ∧ Hid (q = true ↔ x ∈ K.take j2) ∧ Strs wr3 w6.heap.size vl (others (K.take j2) x) ∧ Only w6 wr3 (fun _ => False)) (fun _ _ j _ => K.length - (intOf j).toNat)
        case atStart => exact ⟨0, false, Nat.zero_le _, rfl, rfl, (by rw [Hid]; simp), hn0, Only.refl _ _⟩
        case round =>
          obtain ⟨j2, q, hj2, rfl, rfl, hbm, hlf, ho⟩ := hrel
          have hos := ho.size
          have c0 : wr.cell? ⟨b, off + k, none⟩ = some (.string x) := (World.cell?_of_block (ho.block b hbl6 (fun h => h))).trans c0
          have hbl3 : b < wr.heap.size := by omega
          by_cases hlj : j2 < K.length
          · obtain ⟨g, rfl, hgl, _, hc⟩ := hvc (by omega)
            have q0 : (0 : Int) ≤ (j2 : Int) := by omega
            have q1 : (j2 : Int) < (K.length : Int) := by omega
            have hcj : wr.cell? ⟨g, j2, none⟩ = some (.string K[j2]) := (World.cell?_of_block (ho.block g hgl (fun h => h))).trans (hc j2 hlj)
            have hgl3 : g < wr.heap.size := by omega
            have hms : x ∈ K.take (j2 + 1) ↔ x ∈ K.take j2 ∨ x = K[j2] := by
              rw [List.take_succ_eq_append_getElem hlj, List.mem_append, List.mem_singleton]
            have HMS := Lib.hid hms
            have hsn := others_snoc (key := x) hlj
            clear hms hc hvc hn0
            by_cases he : K[j2] = x
            · have t1 : (K[j2].toList == x.toList) = true := text_eq.2 he
              rw [if_pos he, List.append_nil] at hsn
              rw [← hsn] at hlf
              have HE := Lib.hid he
              clear hsn he
              go_upto_region 20 with fail
              go_quiet (fail)
              go_wp2
              go_roundw
              case rel => exact ⟨j2 + 1, true, by omega, by go_num, rfl, (by rw [Hid, HMS.out]; exact ⟨fun _ => .inr HE.out.symm, fun _ => rfl⟩), hlf, ho.drewN _⟩
              case measure => simp [intOf]; omega
            · have t1 : (K[j2].toList == x.toList) = false := text_ne he
              rw [if_neg he] at hsn
              have HE := Lib.hid he
              have hll := others_length_le (K.take j2) x
              rw [List.length_take, Nat.min_eq_left (by omega)] at hll
              have hgl4 := World.ownsRow.lt hlf
              unfold Strs at hlf
              clear he
              go_upto_region 20 with fail
              go_quiet (fail)
              have hlf : (wr.drewN nq).ownsRow w6.heap.size 9 1 _ (others (K.take j2) x).length ((others (K.take j2) x).map Value.string) := hlf
              have ho : Only w6 (wr.drewN nq) (fun _ => False) := ho.drewN _
              have hcj : (wr.drewN nq).cell? ⟨g, j2, none⟩ = some (.string K[j2]) := hcj
              have hgl3 : g < (wr.drewN nq).heap.size := hgl3
              have hos : w6.heap.size ≤ (wr.drewN nq).heap.size := hos
              generalize wr.drewN nq = wd at hlf ho hcj hgl3 hos ⊢
              obtain ⟨i0, hi, hz0, hz1, hz2⟩ := info_parts info9
              go_wp2_with (at_builtin; refine wpList_append_own _ rfl _ _ _ rfl w6.heap.size 9 i0 _ 1 16 Try.underlying44 hi hz0 hz1 hz2 rfl (by omega) _ (others (K.take j2) x).length _ rfl (hlf.alloc _) ⟨wd.heap.size, 0, none⟩ 1 1 [.string K[j2]] rfl rfl (news1 _ _ rfl) (by simp [Value.oneCell']) (by unfold maxLen; omega) (by omega) (by simp; omega) ?_)
              intro v' w7 hown7 hgrow7 _
              have hst7 : Strs w7 w6.heap.size v' (others (K.take (j2 + 1)) x) := by
                unfold Strs
                rw [hsn]
                simp only [List.length_append, List.map_append, List.length_cons, List.length_nil]
                exact hown7
              have ho7 : Only w6 w7 (fun _ => False) := new_below (ho.trans (Only.alloc _ _ _)) hgrow7 (Nat.le_refl _) (fun j hj => (hgl4 j hj).1)
              clear hown7 hgrow7 hlf hgl4 hsn
              go_wp2
              go_roundw
              case rel => exact ⟨j2 + 1, q, by omega, by go_num, rfl, (by rw [Hid, HMS.out]; exact ⟨fun h => .inl (hbm.out.1 h), fun h => h.elim (fun h => hbm.out.2 h) (fun h => absurd h.symm HE.out)⟩), hst7, ho7⟩
              case measure => simp [intOf]; omega
          · have hjl : j2 = K.length := by omega
            subst hjl
            rw [List.take_length] at hlf
            have hq : getB s x = q := getB_iff (by rw [← HKK.out]; have := hbm.out; rwa [List.take_length] at this)
            have hke := HK.out
            rw [hq] at hke
            have k7 := k6.keep ho
            have b7 := b6.trans (ho.below (B := w.heap.size) b6.size (fun _ h => h.elim))
            have st7 := st6.only ho
            have HQ := Lib.hid hq
            clear hq hbm hn0 hvc
            obtain ⟨h1, h2⟩ := hke
            rw [hsr] at h1
            cases q with
            | true =>
              rw [Bool.true_or] at h1
              rw [h1] at h2 ⊢
              rw [if_pos rfl] at h2
              have H1 := Lib.hid h1
              clear h1
              have H2 := Lib.hid h2
              clear h2
              obtain ⟨sl, cl, rfl, hll, _⟩ := hlf.shape
              have hlo := others_length_le K x
              have hone := own_one (w := wr) (base := w.heap.size) (e := 9) (xs := [.string x]) b7.size
              have hsrc := srcs_own (World.ownsRow.alloc hlf (.cells #[.string x] 9))
              have hbs : w.heap.size ≤ (wr.alloc (.cells #[.string x] 9)).heap.size := by have := b7.size; simp; omega
              go_wp2_with (at_builtin; refine wpList_app elS w.heap.size rfl _ _ rfl _ 1 [.string x] _ _ _ ((others K x).map Value.string) rfl rfl hone hbs hsrc (strs_one _) (by omega) ?_)
              intro v' w8 hown8 hgrow8
              have st8 : Strs w8 w.heap.size v' (x :: others K x) := by
                unfold Strs
                rw [List.length_cons, Nat.add_comm, List.map_cons]
                exact hown8
              have ho8 : Only wr w8 (fun _ => False) := new_below (Only.alloc _ _ _) hgrow8 (Nat.le_refl _) (fun j hj => by simp only [Value.ownBlock, Option.some.injEq] at hj; omega)
              have k8 := k7.keep ho8
              have b8 := b7.trans (ho8.below (B := w.heap.size) b7.size (fun _ h => h.elim))
              clear hown8 hgrow8 hone hsrc hbs hlf st7 ho8 k7
              have HKY := Lib.hid (keys_any c B _ w8 k8)
              go_wp2_with fail
              refine HKY.out.mono ?_
              rintro e w9 ⟨v9, rfl, hv9, o9⟩
              have k9 := k8.keep o9
              have st9 := st8.only o9
              have b9 := b8.trans (o9.below (B := w.heap.size) b8.size (fun _ h => h.elim))
              have hsz9 := keys_size k9
              rw [show keysOf (offerC s x ⟨#[118]⟩).T = x :: others K x from H2.out] at hv9 hsz9
              have hsame := same_own hv9 st9 hsz9 hsz9
              rw [show alike (x :: others K x) (x :: others K x) = true from decide_eq_true rfl] at hsame
              have HS := Lib.hid hsame
              clear hsame hv9 hsz9
              go_wp2_with fail
              refine HS.out.mono ?_
              rintro e w10 ⟨rfl, o10⟩
              have k10 := k9.keep o10
              have st10 := st9.only o10
              have b10 := b9.trans (o10.below (B := w.heap.size) b9.size (fun _ h => h.elim))
              go_wp2
              go_roundw
              case rel => exact ⟨k + 1, by omega, by go_num, offerC s x ⟨#[118]⟩, k10, HOF.out, hsC, hsr, (by rw [show keysOf (offerC s x ⟨#[118]⟩).T = x :: others K x from H2.out]; exact st10), b10⟩
              case measure => simp [intOf]; omega
            | false =>
              rw [Bool.false_or] at h1
              by_cases hlt : K.length < r
              · rw [decide_eq_true hlt] at h1
                rw [h1] at h2 ⊢
                rw [if_pos rfl] at h2
                have H1 := Lib.hid h1
                have hd7 : decide ((K.length : Int) < (r : Int)) = true := decide_eq_true (by omega)
                clear h1
                have H2 := Lib.hid h2
                clear h2
                obtain ⟨sl, cl, rfl, hll, _⟩ := hlf.shape
                have hlo := others_length_le K x
                have hone := own_one (w := wr) (base := w.heap.size) (e := 9) (xs := [.string x]) b7.size
                have hsrc := srcs_own (World.ownsRow.alloc hlf (.cells #[.string x] 9))
                have hbs : w.heap.size ≤ (wr.alloc (.cells #[.string x] 9)).heap.size := by have := b7.size; simp; omega
                go_wp2_with (at_builtin; refine wpList_app elS w.heap.size rfl _ _ rfl _ 1 [.string x] _ _ _ ((others K x).map Value.string) rfl rfl hone hbs hsrc (strs_one _) (by omega) ?_)
                intro v' w8 hown8 hgrow8
                have st8 : Strs w8 w.heap.size v' (x :: others K x) := by
                  unfold Strs
                  rw [List.length_cons, Nat.add_comm, List.map_cons]
                  exact hown8
                have ho8 : Only wr w8 (fun _ => False) := new_below (Only.alloc _ _ _) hgrow8 (Nat.le_refl _) (fun j hj => by simp only [Value.ownBlock, Option.some.injEq] at hj; omega)
                have k8 := k7.keep ho8
                have b8 := b7.trans (ho8.below (B := w.heap.size) b7.size (fun _ h => h.elim))
                clear hown8 hgrow8 hone hsrc hbs hlf st7 ho8 k7
                have HKY := Lib.hid (keys_any c B _ w8 k8)
                go_wp2_with fail
                refine HKY.out.mono ?_
                rintro e w9 ⟨v9, rfl, hv9, o9⟩
                have k9 := k8.keep o9
                have st9 := st8.only o9
                have b9 := b8.trans (o9.below (B := w.heap.size) b8.size (fun _ h => h.elim))
                have hsz9 := keys_size k9
                rw [show keysOf (offerC s x ⟨#[118]⟩).T = x :: others K x from H2.out] at hv9 hsz9
                have hsame := same_own hv9 st9 hsz9 hsz9
                rw [show alike (x :: others K x) (x :: others K x) = true from decide_eq_true rfl] at hsame
                have HS := Lib.hid hsame
                clear hsame hv9 hsz9
                go_wp2_with fail
                refine HS.out.mono ?_
                rintro e w10 ⟨rfl, o10⟩
                have k10 := k9.keep o10
                have st10 := st9.only o10
                have b10 := b9.trans (o10.below (B := w.heap.size) b9.size (fun _ h => h.elim))
                go_wp2
                go_roundw
                case rel => exact ⟨k + 1, by omega, by go_num, offerC s x ⟨#[118]⟩, k10, HOF.out, hsC, hsr, (by rw [show keysOf (offerC s x ⟨#[118]⟩).T = x :: others K x from H2.out]; exact st10), b10⟩
                case measure => simp [intOf]; omega
              · rw [decide_eq_false hlt] at h1
                rw [h1] at h2 ⊢
                rw [if_neg (by decide)] at h2
                have H1 := Lib.hid h1
                have hd7 : decide ((K.length : Int) < (r : Int)) = false := decide_eq_false (by omega)
                clear h1
                have H2 := Lib.hid h2
                clear h2 hlf
                have HKY := Lib.hid (keys_any c B _ wr k7)
                go_wp2_with fail
                refine HKY.out.mono ?_
                rintro e w9 ⟨v9, rfl, hv9, o9⟩
                have k9 := k7.keep o9
                have st9 := st7.only o9
                have b9 := b7.trans (o9.below (B := w.heap.size) b7.size (fun _ h => h.elim))
                have hsz9 := keys_size k9
                rw [show keysOf (offerC s x ⟨#[118]⟩).T = K from H2.out] at hv9 hsz9
                have hsame := same_own hv9 st9 hsz9 hsz9
                rw [show alike (K) (K) = true from decide_eq_true rfl] at hsame
                have HS := Lib.hid hsame
                clear hsame hv9 hsz9
                go_wp2_with fail
                refine HS.out.mono ?_
                rintro e w10 ⟨rfl, o10⟩
                have k10 := k9.keep o10
                have st10 := st9.only o10
                have b10 := b9.trans (o10.below (B := w.heap.size) b9.size (fun _ h => h.elim))
                go_wp2
                go_roundw
                case rel => exact ⟨k + 1, by omega, by go_num, offerC s x ⟨#[118]⟩, k10, HOF.out, hsC, hsr, (by rw [show keysOf (offerC s x ⟨#[118]⟩).T = K from H2.out]; exact st10), b10⟩
                case measure => simp [intOf]; omega
      · go_wp2
        go_ret
        exact ⟨rfl, hb⟩

end Go.Proofs.Ytgmelphklppcbaa
