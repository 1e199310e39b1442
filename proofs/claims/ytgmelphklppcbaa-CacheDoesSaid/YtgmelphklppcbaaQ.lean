/- The walk of CacheForgets. -/
import Derived.Test.YtgmelphklppcbaaP
namespace Go.Proofs.Ytgmelphklppcbaa
open Go.RowKit

theorem others_snoc {K : List ByteArray} {key : ByteArray} {k : Nat} (h : k < K.length) : others (K.take (k + 1)) key = others (K.take k) key ++ (if K[k] = key then [] else [K[k]]) := by
  rw [List.take_succ_eq_append_getElem h]
  unfold others
  rw [List.filter_append]
  congr 1
  by_cases e : K[k] = key
  · rw [if_pos e, List.filter_cons_of_neg (by simp [e])]; rfl
  · rw [if_neg e, List.filter_cons_of_pos (by simp [e])]; rfl

theorem others_length_le (K : List ByteArray) (key : ByteArray) : (others K key).length ≤ K.length := List.length_filter_le _ _

theorem others_length (s : Ca) (key : ByteArray) : decide ((others (keysOf s.T) key).length < (keysOf s.T).length) = getB s key := by
  unfold getB
  by_cases hp : pl s.T key < s.T.length
  · rw [decide_eq_true hp, decide_eq_true]
    have hm := pl_mem.1 hp
    rcases Nat.lt_or_ge (others (keysOf s.T) key).length (keysOf s.T).length with h | h
    · exact h
    · exfalso
      have := (List.length_filter_eq_length_iff (l := keysOf s.T) (p := fun x => !decide (x = key))).1 (Nat.le_antisymm (others_length_le _ _) h) key hm
      simp at this
  · rw [decide_eq_false hp, decide_eq_false]
    rw [others_self (fun h => hp (pl_mem.2 h))]
    omega

theorem getB_forget {s : Ca} {key : ByteArray} (h : (keysOf s.T).Nodup) : getB (forgetC s key) key = false := by
  refine decide_eq_false fun hp => ?_
  have := pl_mem.1 hp
  rw [keys_forget h] at this
  have := (List.mem_filter.1 this).2
  simp at this
theorem forget_C (s : Ca) (key : ByteArray) : (forgetC s key).C = s.C := by unfold forgetC; split <;> rfl

theorem keys_size {w : World} {B c : Nat} {s : Ca} (h : IsCache w B c s) : ∀ x ∈ keysOf s.T, x.size ≤ maxLen := fun x hx => by
  obtain ⟨y, hy, rfl⟩ := List.mem_map.1 hx
  exact h.good.2.2 y hy

set_option maxHeartbeats 3200000 in
set_option maxRecDepth 100000 in
theorem forgets_any (size : Int) (key : ByteArray) (sp : Option Addr) (cap : Nat) (l : List CAct) (w : World) (hl : ReadsA w sp l) (hmax : l.length ≤ maxLen) (hkey : key.size ≤ maxLen) :
    Calls Try.prog 6 #[.int .i64 size, .slice sp l.length cap, .string key] w fun e w' => e = .returned (.bool true) ∧ Below w.heap.size w w' := by
  have hmax0 := hmax
  unfold maxLen at hmax
  have hmax : l.length ≤ 9223372036854775807 := by omega
  obtain ⟨i0, hi, hz0, hz1, hz2⟩ := info_parts info9
  go_enter Try.func6, Try.ntmps6
  go_wp2_with fail
  refine (works_any w).mono ?_
  rintro e w1 ⟨rfl, o1⟩
  have b1 : Below w.heap.size w w1 := o1.below (Nat.le_refl _) (fun _ h => h.elim)
  have hB := o1.size
  go_wp2_with fail
  refine (new_any size w1).mono ?_
  rintro e w2 ⟨c, rfl, hc, k2, f2⟩
  generalize w1.heap.size = B at hB hc k2 f2
  have b2 := below_fr hB b1 f2
  clear f2 b1 o1 hc
  go_wp2_with fail
  refine (few_any sp cap l w2 (hl.below b2) hmax0).mono ?_
  rintro e w3 ⟨fb, rfl, hfb, rfl⟩
  cases fb with
  | false =>
    clear hfb
    go_wp2
    go_ret
    exact ⟨rfl, b2⟩
  | true =>
    have hfew := hfb rfl
    clear hfb
    have HL0 := Lib.hid (show Lp size w B c 0 w2 from ⟨_, k2, Ok.new size, rfl, b2⟩)
    clear k2 b2
    go_wp2_with fail
    go_loopw [10] (fun i wr => ∃ k : Nat, k ≤ l.length ∧ i = .int .i64 k ∧ Lp size w B c k wr) (fun i _ => l.length - (intOf i).toNat)
    case atStart => exact ⟨0, Nat.zero_le _, rfl, HL0.out⟩
    case round =>
      obtain ⟨k, hk, rfl, s, hs, hok, hsz, hb⟩ := hrel
      by_cases hlk : k < l.length
      · obtain ⟨b, off, rfl, hbl, hbl2, c0, c1, c2, hks⟩ := hl.at hb hlk
        have hC1 : s.C.length + 1 < maxLen := by have := hok.few; unfold maxLen; omega
        have hn1 : s.n < 1000 := by have := hok.calls; omega
        have j0 : (0 : Int) ≤ (k : Int) := by omega
        have j1 : (k : Int) < (l.length : Int) := by omega
        generalize l[k] = a at c0 c1 c2 hks
        clear hl hi hz0 hz1 hz2
        by_cases h0 : a.k = 0
        · have t0 : (a.k == 0) = true := by simp [h0]
          have HG := Lib.hid (get_any c B s a.key wr hs hks hC1 hn1)
          go_wp2_with fail
          refine HG.out.mono ?_
          rintro e w4 ⟨rfl, k4, f4⟩
          go_wp2
          go_roundw
          case rel => exact ⟨k + 1, by omega, by go_num, lp_step hB hb hsz k4 (hok.get _) (size_getC _ _) f4⟩
          case measure => simp [intOf]; omega
        have t0 : (a.k == 0) = false := by simpa using h0
        go_upto_region 13 with fail
        go_region_with (go_at_call 15; refine (offer_any c B s a.key a.val _ (hs.keep (Only.refl _ _).drew) hks).mono ?_; rintro e w4 ⟨rfl, k4, f4⟩)
        all_goals
          have f4' : Fr B wr w4 := (Fr.of_none B (Only.refl _ _).drew).trans f4
          go_wp2
          go_roundw
          case rel => exact ⟨k + 1, by omega, by go_num, lp_step hB hb hsz k4 (hok.offer _ _) rfl f4'⟩
          case measure => simp [intOf]; omega
      · clear hl
        go_wp2_with fail
        refine (keys_any c B s wr hs).mono ?_
        rintro e w5 ⟨v, rfl, hv, o5⟩
        have b5 := hb.trans (o5.below (B := w.heap.size) hb.size (fun _ h => h.elim))
        have k5 := hs.keep o5
        obtain ⟨sv, cv, rfl, hvl, hvc⟩ := hv.shape
        have hKs := keys_size k5
        have hKl : (keysOf s.T).length ≤ 64 := by rw [keysOf_length]; have := hok.room; have := hs.good.2.1; omega
        have HO := Lib.hid (And.intro (others_length s key) (And.intro (keys_forget (k := key) hok.nodup) (getB_forget (key := key) hok.nodup)))
        have hn0 : Strs w5 w5.heap.size (.slice none 0 0) (others ((keysOf s.T).take 0) key) := World.ownsRow_nil _ _ _ _
        obtain ⟨K, hK⟩ : ∃ K, K = keysOf s.T := ⟨_, rfl⟩
        rw [← hK] at hv hvl hvc hKs hKl hn0 HO ⊢
        have HK := Lib.hid hK
        clear hK hvl
        go_wp2_with fail
        go_loopw [11, 13] (fun v i wr => ∃ k : Nat, k ≤ K.length ∧ i = .int .i64 k ∧ Strs wr w5.heap.size v (others (K.take k) key) ∧ Only w5 wr (fun _ => False)) (fun _ i _ => K.length - (intOf i).toNat)
        case atStart => exact ⟨0, Nat.zero_le _, rfl, hn0, Only.refl _ _⟩
        case round =>
          obtain ⟨k2, hk2, rfl, hst, ho⟩ := hrel
          by_cases hlk2 : k2 < K.length
          · obtain ⟨g, rfl, hgl, _, hc⟩ := hvc (by omega)
            have hck := hc k2 hlk2
            have hck : wr.cell? ⟨g, k2, none⟩ = some (.string K[k2]) := (World.cell?_of_block (ho.block g hgl (fun h => h))).trans hck
            have hgl2 : g < wr.heap.size := Nat.lt_of_lt_of_le hgl ho.size
            clear hc hvc
            have j0 : (0 : Int) ≤ (k2 : Int) := by omega
            have j1 : (k2 : Int) < (K.length : Int) := by omega
            have hsn := others_snoc (key := key) hlk2
            by_cases he : K[k2] = key
            · have t1 : (K[k2].toList == key.toList) = true := text_eq.2 he
              have t2 : (K[k2].toList != key.toList) = false := by rw [bne, t1]; rfl
              rw [if_pos he, List.append_nil] at hsn
              rw [← hsn] at hst
              clear hsn he hi hz0 hz1 hz2
              go_wp2
              go_roundw
              case rel => exact ⟨k2 + 1, by omega, by go_num, hst, ho⟩
              case measure => simp [intOf]; omega
            · have t1 : (K[k2].toList == key.toList) = false := text_ne he
              have t2 : (K[k2].toList != key.toList) = true := by rw [bne, t1]; rfl
              rw [if_neg he] at hsn
              have hll := others_length_le (K.take k2) key
              rw [List.length_take, Nat.min_eq_left (by omega)] at hll
              have hgl3 := World.ownsRow.lt hst
              unfold Strs at hst
              have hos := ho.size
              clear he
              go_wp2_with (at_builtin; refine wpList_append_own _ rfl _ _ _ rfl w5.heap.size 9 i0 _ 1 16 Try.underlying44 hi hz0 hz1 hz2 rfl (by omega) _ (others (K.take k2) key).length _ rfl (hst.alloc _) ⟨wr.heap.size, 0, none⟩ 1 1 [.string K[k2]] rfl rfl (news1 _ _ rfl) (by simp [Value.oneCell']) (by unfold maxLen; omega) (by omega) (by simp; omega) ?_)
              intro v' w6 hown6 hgrow6 _
              have hst6 : Strs w6 w5.heap.size v' (others (K.take (k2 + 1)) key) := by
                unfold Strs
                rw [hsn]
                simp only [List.length_append, List.map_append, List.length_cons, List.length_nil]
                exact hown6
              have ho6 : Only w5 w6 (fun _ => False) := new_below (ho.trans (Only.alloc _ _ _)) hgrow6 (Nat.le_refl _) (fun j hj => (hgl3 j hj).1)
              clear hown6 hgrow6 hst hgl3 hsn
              go_wp2
              go_roundw
              case rel => exact ⟨k2 + 1, by omega, by go_num, hst6, ho6⟩
              case measure => simp [intOf]; omega
          · have e : k2 = K.length := by omega
            subst e
            rw [List.take_length] at hst
            have k6 := k5.keep ho
            have b6 := b5.trans (ho.below (B := w.heap.size) b5.size (fun _ h => h.elim))
            clear hvc hn0 hi hz0 hz1 hz2
            obtain ⟨sw, cw, rfl, _, _⟩ := hst.shape
            go_wp2_with fail
            refine (often_any c B s key wr k6 hkey).mono ?_
            rintro e w7 ⟨rfl, rfl⟩
            go_wp2_with fail
            refine (forget_any c B s key w7 k6).mono ?_
            rintro e w8 ⟨rfl, k8, f8⟩
            have st8 := hst.fr f8
            have b8 := below_fr hB b6 f8
            have t1 : (getB s key == decide ((others K key).length < K.length)) = true := by rw [HO.out.1]; simp
            have t2 : (getB s key == decide (((others K key).length : Int) < (K.length : Int))) = true := by
              have : decide (((others K key).length : Int) < (K.length : Int)) = decide ((others K key).length < K.length) := by congr 1; simp
              rw [this]; exact t1
            have HKY := Lib.hid (keys_any c B _ w8 k8)
            clear hst k6 b6 f8
            go_wp2_with fail
            refine HKY.out.mono ?_
            rintro e w9 ⟨v9, rfl, hv9, o9⟩
            have k9 := k8.keep o9
            have st9 := st8.only o9
            have b9 := b8.trans (o9.below (B := w.heap.size) b8.size (fun _ h => h.elim))
            rw [HO.out.2.1] at hv9
            have hoth : ∀ x ∈ others K key, x.size ≤ maxLen := fun x hx => hKs x (List.mem_filter.1 hx).1
            have hsame := same_own hv9 st9 hoth hoth
            rw [show alike (others K key) (others K key) = true from decide_eq_true rfl] at hsame
            have HS := Lib.hid hsame
            clear hsame hv9 st9 st8 hoth
            go_wp2_with fail
            refine HS.out.mono ?_
            rintro e w10 ⟨rfl, o10⟩
            have k10 := k9.keep o10
            have b10 := b9.trans (o10.below (B := w.heap.size) b9.size (fun _ h => h.elim))
            have HN := often_any c B _ key w10 k10 hkey
            rw [forget_C] at HN
            have HN := Lib.hid HN
            have HF := forget_any c B _ key w10 k10
            rw [HO.out.2.2] at HF
            have HF := Lib.hid HF
            clear o9 o10 b8 b9 k8 k9
            go_wp2_with fail
            refine HN.out.mono ?_
            rintro e w11 ⟨rfl, rfl⟩
            go_wp2_with fail
            refine HF.out.mono ?_
            rintro e w12 ⟨rfl, k12, f12⟩
            have b12 := below_fr hB b10 f12
            go_wp2
            go_ret
            exact ⟨rfl, b12⟩

end Go.Proofs.Ytgmelphklppcbaa
