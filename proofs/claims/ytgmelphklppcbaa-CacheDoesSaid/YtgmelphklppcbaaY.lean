/- The walk of CacheDoes. -/
import Derived.Test.YtgmelphklppcbaaXh
import Derived.Test.YtgmelphklppcbaaV
namespace Go.Proofs.Ytgmelphklppcbaa
open Go.RowKit

theorem trio {w : World} {b : Nat} {p q r : Value} {t : TypeId} (h : w.heap[b]? = some (.cells #[p, q, r] t (0, 0))) : w.cell? ⟨b, 0, none⟩ = some p ∧ w.cell? ⟨b, 1, none⟩ = some q ∧ w.cell? ⟨b, 2, none⟩ = some r := by
  simp [World.cell?, h]

theorem rget_any (va vc : Value) (s : Ca) (key : ByteArray) (w : World) (h : Ref w va vc s) (hg : Good s.C) (hnd : (keysOf s.T).Nodup) (hT0 : s.T.length ≤ s.size) (hCl : s.C.length < 1000) (hnl : s.n < 1000) :
    Calls Try.prog 14 #[RV s va vc, .string key] w (RGetEnd s key w) := by
  by_cases hz : s.size = 0
  · exact rget_zero va vc s key w h hz hT0
  · exact rget_pos va vc s key w h hz hg hnd hT0 hCl hnl

theorem roffer_any (va vc : Value) (s : Ca) (key val : ByteArray) (w : World) (h : Ref w va vc s) (hnd : (keysOf s.T).Nodup) (hT0 : s.T.length ≤ s.size) :
    Calls Try.prog 16 #[RV s va vc, .string key, .string val] w (ROfferEnd s key val w) := by
  by_cases hz : s.size = 0
  · exact roffer_zero va vc s key val w h hz hT0
  by_cases hp : pl s.T key < s.T.length
  · exact roffer_first va vc s key val w h hz hnd (.inl hp)
  by_cases hr : s.T.length < s.size
  · exact roffer_first va vc s key val w h hz hnd (.inr hr)
  · exact roffer_gate va vc s key val w h hz hp hr

/-- Behind an act: both caches, and the act. -/
structure St (w : World) (B c rb ab : Nat) (a : CAct) (va vc : Value) (s : Ca) (W : World) : Prop where
  cache : IsCache W B c s
  ref : Ref W va vc s
  k0 : W.heap[rb]? = some (.cells #[.int .i64 s.size, va, vc, .int .i64 s.n] 30 (0, 0))
  ka : W.heap[ab]? = some (.cells #[.int .i64 a.k, .string a.key, .string a.val] 33 (0, 0))
  below : Below w.heap.size w W

theorem St.only {w : World} {B c rb ab : Nat} {a : CAct} {va vc : Value} {s : Ca} {W W' : World} (h : St w B c rb ab a va vc s W) (o : Only W W' (fun _ => False)) : St w B c rb ab a va vc s W' :=
  ⟨h.cache.keep o, h.ref.only o, o.keep h.k0 (fun h => h), o.keep h.ka (fun h => h), h.below.trans (o.below (B := w.heap.size) h.below.size (fun _ h => h.elim))⟩
theorem St.cells {w : World} {B c rb ab : Nat} {a : CAct} {va vc : Value} {s : Ca} {W : World} (h : St w B c rb ab a va vc s W) :
    W.cell? ⟨rb, 0, none⟩ = some (.int .i64 s.size) ∧ W.cell? ⟨rb, 1, none⟩ = some va ∧ W.cell? ⟨rb, 2, none⟩ = some vc ∧ W.cell? ⟨rb, 3, none⟩ = some (.int .i64 s.n) ∧ W.cell? ⟨ab, 1, none⟩ = some (.string a.key) := by
  obtain ⟨h1, h2, h3, h4⟩ := cells4 h.k0
  exact ⟨h1, h2, h3, h4, (trio h.ka).2.1⟩

theorem same_self_own {b1 b2 : Nat} {va vb : Value} {A : List ByteArray} {w : World} (hA : Strs w b1 va A) (hB : Strs w b2 vb A) (la : ∀ s ∈ A, s.size ≤ maxLen) :
    Calls Try.prog 19 #[va, vb] w fun e w' => e = .returned (.bool true) ∧ Only w w' (fun _ => False) := by
  have h := same_own hA hB la la
  rw [show alike A A = true from decide_eq_true rfl] at h
  exact h

/-- What the law's loop keeps. -/
def Ld (w : World) (B c rb k : Nat) (wr : World) : Prop :=
  ∃ s va vc, IsCache wr B c s ∧ Ok s k ∧ wr.heap[rb]? = some (.cells #[.int .i64 s.size, va, vc, .int .i64 s.n] 30 (0, 0)) ∧ Ref wr va vc s ∧ Below w.heap.size w wr

theorem IsCache.set30 {w : World} {B c b : Nat} {s : Ca} (h : IsCache w B c s) (hb : Box w b) (j : Nat) (u : Value) : IsCache (w.setCell ⟨b, j, none⟩ u) B c s := by
  obtain ⟨bm, v, D, k, h1, h2, hr, hm, rest⟩ := h
  obtain ⟨xs, hb⟩ := hb
  have ho : Only w (w.setCell ⟨b, j, none⟩ u) (fun k => k = b) := Only.setCell _ _ _ _ _ rfl
  have hcb : c ≠ b := by rintro rfl; rw [k] at hb; simp at hb
  exact ⟨bm, v, D, ho.keep k hcb, h1, h2, ho.own hr (fun g hg e => own_ne hb hr (by decide) (by rw [hg, e])), ho.map hm (fun e => map_ne hm hb e.symm), rest⟩

theorem stage2 {w W : World} {B c rb ab : Nat} {p q r t : Value} {o : Obj} {va vc : Value} {s : Ca} (hne : ab ≠ rb) (hrb : w.heap.size ≤ rb) (hc : IsCache W B c s) (k0 : W.heap[rb]? = some (.cells #[p, q, r, t] 30 (0, 0))) (ka : W.heap[ab]? = some o) (hr : Ref W va vc s) (hb : Below w.heap.size w W) :
    ∃ W', W' = ((((W.setCell ⟨rb, 0, none⟩ (.int .i64 s.size)).setCell ⟨rb, 1, none⟩ va).setCell ⟨rb, 2, none⟩ vc).setCell ⟨rb, 3, none⟩ (.int .i64 s.n)) ∧
      IsCache W' B c s ∧ W'.heap[rb]? = some (.cells #[.int .i64 s.size, va, vc, .int .i64 s.n] 30 (0, 0)) ∧ W'.heap[ab]? = some o ∧ Ref W' va vc s ∧ Below w.heap.size w W' := by
  have b0 : Box W rb := ⟨_, k0⟩
  have h1 : ∀ (W : World) (j : Nat) (x : Value), W.heap[ab]? = some o → (W.setCell ⟨rb, j, none⟩ x).heap[ab]? = some o := fun W j x h => (Below.heap_setCell _ _ _ _ hne).trans h
  refine ⟨_, rfl, (((hc.set30 b0 0 _).set30 (b0.set _ _ _) 1 _).set30 ((b0.set _ _ _).set _ _ _) 2 _).set30 (((b0.set _ _ _).set _ _ _).set _ _ _) 3 _, store4 k0, h1 _ _ _ (h1 _ _ _ (h1 _ _ _ (h1 _ _ _ ka))), hr.set4 b0 _ _ _ _, (((hb.setCell (p := ⟨rb, 0, none⟩) hrb _).setCell (p := ⟨rb, 1, none⟩) hrb _).setCell (p := ⟨rb, 2, none⟩) hrb _).setCell (p := ⟨rb, 3, none⟩) hrb _⟩

set_option maxHeartbeats 12800000 in
set_option maxRecDepth 100000 in
theorem does_any (size : Int) (key : ByteArray) (sp : Option Addr) (cap : Nat) (l : List CAct) (w : World) (hl : ReadsA w sp l) (hmax : l.length ≤ maxLen) (hkey : key.size ≤ maxLen) :
    Calls Try.prog 3 #[.int .i64 size, .slice sp l.length cap, .string key] w fun e w' => e = .returned (.bool true) ∧ Below w.heap.size w w' := by
  have hmax0 := hmax
  unfold maxLen at hmax
  have hmax : l.length ≤ 9223372036854775807 := by omega
  go_enter Try.func3, Try.ntmps3
  go_wp2_with fail
  refine (works_any w).mono ?_
  rintro e w1 ⟨rfl, o1⟩
  have b1 : Below w.heap.size w w1 := o1.below (Nat.le_refl _) (fun _ h => h.elim)
  have hB := o1.size
  go_wp2_with fail
  refine (new_any size w1).mono ?_
  rintro e w2 ⟨c, rfl, hc, k2, f2⟩
  generalize w1.heap.size = B at hB hc k2 f2
  have b2 := below_fr hB b1 f2
  clear f2 b1 o1 hc
  go_wp2_with fail
  refine (few_any sp cap l w2 (hl.below b2) hmax0).mono ?_
  rintro e w3 ⟨fb, rfl, hfb, rfl⟩
  cases fb with
  | false =>
    clear hfb
    go_wp2
    go_ret
    exact ⟨rfl, b2⟩
  | true =>
    have hfew := hfb rfl
    clear hfb
    by_cases hk50 : 50 < key.size
    · have hd : decide ((50 : Int) < (key.size : Int)) = true := decide_eq_true (by omega)
      go_wp2
      go_ret
      exact ⟨rfl, b2⟩
    have hd : decide ((50 : Int) < (key.size : Int)) = false := decide_eq_false (by omega)
    have HRN := rnew_any size w2
    unfold RV at HRN
    obtain ⟨S0, hS0⟩ : ∃ S0, S0 = newCa size := ⟨_, rfl⟩
    rw [← hS0] at HRN k2
    have hok0 : Ok S0 0 := by rw [hS0]; exact Ok.new size
    have HRN := Lib.hid HRN
    clear hS0
    go_wp2_with fail
    refine HRN.out.mono ?_
    rintro e w3 ⟨va, vc, rfl, r3, o3⟩
    have k3 := k2.keep o3
    have b3 := b2.trans (o3.below (B := w.heap.size) b2.size (fun _ h => h.elim))
    obtain ⟨spa, capa, rfl, _⟩ := r3.1.shape
    obtain ⟨spc, capc, rfl, _⟩ := r3.2.1.shape
    have oN := Only.alloc w3 (.cells #[.int .i64 S0.size, .slice spa S0.T.length capa, .slice spc S0.C.length capc, .int .i64 S0.n] 30) (fun _ => False)
    have HL0 := Lib.hid (show Ld w B c w3.heap.size 0 (w3.alloc (.cells #[.int .i64 S0.size, .slice spa S0.T.length capa, .slice spc S0.C.length capc, .int .i64 S0.n] 30)) from ⟨S0, _, _, k3.keep oN, hok0, heap_alloc_new _ _, r3.only oN, b3.alloc b3.size _⟩)
    have hrb : w.heap.size ≤ w3.heap.size := b3.size
    clear k2 b2 k3 r3 b3 o3 oN hok0
    go_wp2_with fail
    generalize hRB : w3.heap.size = rb at HL0 hrb ⊢
    go_loopw [11] (fun i wr => ∃ k : Nat, k ≤ l.length ∧ i = .int .i64 k ∧ Ld w B c rb k wr) (fun i _ => l.length - (intOf i).toNat)
    case atStart => exact ⟨0, Nat.zero_le _, rfl, HL0.out⟩
    case round =>
      obtain ⟨k, hk, rfl, s, va, vc, hs, hok, k0, hr, hb⟩ := hrel
      by_cases hlk : k < l.length
      · obtain ⟨b, off, rfl, hbl, hbl2, c0, c1, c2, hks⟩ := hl.at hb hlk
        have htk := hk
        have hC1 : s.C.length + 1 < maxLen := by have := hok.few; unfold maxLen; omega
        have hn1 : s.n < 1000 := by have := hok.calls; omega
        have j0 : (0 : Int) ≤ (k : Int) := by omega
        have j1 : (k : Int) < (l.length : Int) := by omega
        have hlrb := lt_of_block k0
        generalize l[k] = a at c0 c1 c2 hks
        have oAx := Only.alloc wr (.cells #[.int .i64 a.k, .string a.key, .string a.val] 33) (fun _ => False)
        have ka := heap_alloc_new wr (.cells #[.int .i64 a.k, .string a.key, .string a.val] 33)
        obtain ⟨wa, hwa⟩ : ∃ wa, wa = wr.alloc (.cells #[.int .i64 a.k, .string a.key, .string a.val] 33) := ⟨_, rfl⟩
        rw [← hwa] at oAx ka
        have HWA := Lib.hid hwa
        have hsa := hs.keep oAx
        have hra := hr.only oAx
        have k0a := oAx.keep k0 (fun h => h)
        have hba := hb.trans (oAx.below (B := w.heap.size) hb.size (fun _ h => h.elim))
        clear hwa hl hb k0 hr
        by_cases h0 : a.k = 0
        · have t0 : (a.k == 0) = true := by simp [h0]
          have H0 := Lib.hid h0
          clear h0
          have HGa := get_any c B s a.key wa hsa hks hC1 hn1
          have hok1 := hok.get a.key
          obtain ⟨s1, hs1⟩ : ∃ s1, s1 = getC s a.key := ⟨_, rfl⟩
          obtain ⟨G, hG⟩ : ∃ G, G = getB s a.key := ⟨_, rfl⟩
          obtain ⟨V, hV⟩ : ∃ V, V = getV s a.key := ⟨_, rfl⟩
          have tV : (V.toList == V.toList) = true := text_eq.2 rfl
          have HG := HGa
          skip
          rw [← hG] at HG
          rw [← hV] at HG
          have HG := Lib.hid HG
          have HS1 := Lib.hid hs1
          have HGb := Lib.hid hG
          have HVb := Lib.hid hV
          rw [← hs1] at hok1
          clear htk hs1 hG HGa hV H0
          go_wp2_with fail
          rw [← HWA.out]
          clear c0 c1 c2 hbl2
          generalize hab : wr.heap.size = ab at ka ⊢
          have hne : ab ≠ rb := by omega
          clear hab
          refine HG.out.mono ?_
          rintro e w5 ⟨rfl, k5, f5⟩
          have k05 := f5.keep k0a (by decide) (by decide)
          have ka5 := f5.keep ka (by decide) (by decide)
          have r5 := hra.fr f5
          have b5 := below_fr hB hba f5
          have k5 : IsCache w5 B c s1 := by rw [HS1.out]; exact k5
          have HR0 := rget_any va vc s a.key w5 r5 hs.good.1 hok.nodup hok.room (by have := hok.few; omega) (by have := hok.calls; omega)
          unfold RGetEnd at HR0
          rw [← HS1.out, ← HGb.out, ← HVb.out] at HR0
          unfold RV at HR0
          have HR := Lib.hid HR0
          obtain ⟨spa0, capa0, hva0, _⟩ := r5.1.shape
          obtain ⟨spc0, capc0, hvc0, _⟩ := r5.2.1.shape
          subst hva0 hvc0
          obtain ⟨x0, x1, x2, x3⟩ := cells4 k05
          obtain ⟨t0', t1', t2'⟩ := trio ka5
          have hl0 := lt_of_block k05
          have hl1 := lt_of_block ka5
          clear HR0 f5 hsa hra hba r5 hok hs
          go_wp2_with fail
          refine HR.out.mono ?_
          rintro e w6 ⟨va6, vc6, rfl, r6, o6⟩
          clear x0 x1 x2 x3 t0' t1' t2' hl0 hl1
          have k06 := o6.keep k05 (fun h => h)
          have ka6 := o6.keep ka5 (fun h => h)
          have b6 := b5.trans (o6.below (B := w.heap.size) b5.size (fun _ h => h.elim))
          obtain ⟨W7, hW7, c7, k07, ka7, r7, b7⟩ := stage2 hne hrb (k5.keep o6) k06 ka6 r6 b6
          have hst : St w B c rb ab a va6 vc6 s1 W7 := ⟨c7, r7, k07, ka7, b7⟩
          have HW7 := Lib.hid hW7
          obtain ⟨spa6, capa6, hva6, _⟩ := r6.1.shape
          obtain ⟨spc6, capc6, hvc6, _⟩ := r6.2.1.shape
          subst hva6 hvc6
          obtain ⟨x0, x1, x2, x3⟩ := cells4 k06
          have fr0 := free_arr k06 0
          have fr1 := free_arr k06 1
          have fr2 := free_arr k06 2
          have fr3 := free_arr k06 3
          have hl0 := lt_of_block k06
          clear k05 ka5 b5 k5 o6 r6 b6 c7 k07 ka7 r7 b7 hW7 ka6 k0a ka oAx
          go_upto_region 25 with fail
          rw [← HW7.out]
          clear x0 x1 x2 x3 fr0 fr1 fr2 fr3 hl0 k06
          have HKS := Lib.hid (keys_size hst.cache)
          have HOK := Lib.hid hok1
          have hS := hst.cells
          have hlr := lt_of_block hst.k0
          have hla := lt_of_block hst.ka
          clear hok1
          have hstd : St w B c rb ab a (.slice spa6 s1.T.length capa6) (.slice spc6 s1.C.length capc6) s1 W7.drew := hst.only (Only.refl _ _).drew
          clear hst
          have hst := hstd
          clear hstd
          go_region_held3 (fun w' => w'.cell? ⟨rb, 0, none⟩ = some (.int .i64 s1.size) ∧ w'.cell? ⟨rb, 1, none⟩ = some (.slice spa6 s1.T.length capa6) ∧ w'.cell? ⟨rb, 2, none⟩ = some (.slice spc6 s1.C.length capc6) ∧ w'.cell? ⟨rb, 3, none⟩ = some (.int .i64 s1.n) ∧ w'.cell? ⟨ab, 1, none⟩ = some (.string a.key))
            (first | exact hS | go_keep)
            (first
              | (go_at_call 20; refine (keys_any c B s1 _ hst.cache).mono ?_; rintro e w6 ⟨v20, rfl, hv20, o6⟩; have hst := hst.only o6; have hS := hst.cells)
              | (go_at_call 21; refine (rkeys_any (.slice spa6 s1.T.length capa6) (.slice spc6 s1.C.length capc6) s1 _ hst.ref).mono ?_; rintro e w6 ⟨v21, rfl, hv21, o6⟩; have hv20 := hv20.only o6; have hst := hst.only o6; have hS := hst.cells)
              | (go_at_call 19; refine (same_self_own hv20 hv21 HKS.out).mono ?_; rintro e w6 ⟨rfl, o6⟩; have hst := hst.only o6; have hS := hst.cells)
              | (go_at_call 22; refine (often_any c B s1 _ _ hst.cache (by assumption)).mono ?_; rintro e w6 ⟨rfl, rfl⟩)
              | (go_at_call 23; refine (roften_any (.slice spa6 s1.T.length capa6) (.slice spc6 s1.C.length capc6) s1 _ _ hst.ref).mono ?_; rintro e w6 ⟨rfl, o6⟩; have hst := hst.only o6; have hS := hst.cells)
              | (go_at_call 24; refine (counted_any c B s1 _ hst.cache).mono ?_; rintro e w6 ⟨rfl, rfl⟩))
          all_goals
            go_wp2
            go_roundw
            case rel => exact ⟨k + 1, by omega, by go_num, s1, _, _, hst.cache, HOK.out, hst.k0, hst.ref, hst.below⟩
            case measure => simp [intOf]; omega
        have t0 : (a.k == 0) = false := by simpa using h0
        by_cases h1 : a.k = 1
        · have t1 : (a.k == 1) = true := by simp [h1]
          have H0 := Lib.hid h1
          clear h1 h0
          have HGa := offer_any c B s a.key a.val wa hsa hks
          have hok1 := hok.offer a.key a.val
          obtain ⟨s1, hs1⟩ : ∃ s1, s1 = offerC s a.key a.val := ⟨_, rfl⟩
          obtain ⟨G, hG⟩ : ∃ G, G = offerB s a.key := ⟨_, rfl⟩
          have HG := HGa
          unfold OfferEnd at HG
          rw [← hG] at HG
          skip
          have HG := Lib.hid HG
          have HS1 := Lib.hid hs1
          have HGb := Lib.hid hG
          skip
          rw [← hs1] at hok1
          clear htk hs1 hG HGa  H0
          go_wp2_with fail
          rw [← HWA.out]
          clear c0 c1 c2 hbl2
          generalize hab : wr.heap.size = ab at ka ⊢
          have hne : ab ≠ rb := by omega
          clear hab
          refine HG.out.mono ?_
          rintro e w5 ⟨rfl, k5, f5⟩
          have k5 : IsCache w5 B c (offerC s a.key a.val) := k5
          have k05 := f5.keep k0a (by decide) (by decide)
          have ka5 := f5.keep ka (by decide) (by decide)
          have r5 := hra.fr f5
          have b5 := below_fr hB hba f5
          have k5 : IsCache w5 B c s1 := by rw [HS1.out]; exact k5
          have HR0 := roffer_any va vc s a.key a.val w5 r5 hok.nodup hok.room
          unfold ROfferEnd at HR0
          rw [← HS1.out, ← HGb.out] at HR0
          unfold RV at HR0
          have HR := Lib.hid HR0
          obtain ⟨spa0, capa0, hva0, _⟩ := r5.1.shape
          obtain ⟨spc0, capc0, hvc0, _⟩ := r5.2.1.shape
          subst hva0 hvc0
          obtain ⟨x0, x1, x2, x3⟩ := cells4 k05
          obtain ⟨t0', t1', t2'⟩ := trio ka5
          have hl0 := lt_of_block k05
          have hl1 := lt_of_block ka5
          clear HR0 f5 hsa hra hba r5 hok hs
          go_wp2_with fail
          refine HR.out.mono ?_
          rintro e w6 ⟨va6, vc6, rfl, r6, o6⟩
          clear x0 x1 x2 x3 t0' t1' t2' hl0 hl1
          have k06 := o6.keep k05 (fun h => h)
          have ka6 := o6.keep ka5 (fun h => h)
          have b6 := b5.trans (o6.below (B := w.heap.size) b5.size (fun _ h => h.elim))
          obtain ⟨W7, hW7, c7, k07, ka7, r7, b7⟩ := stage2 hne hrb (k5.keep o6) k06 ka6 r6 b6
          have hst : St w B c rb ab a va6 vc6 s1 W7 := ⟨c7, r7, k07, ka7, b7⟩
          have HW7 := Lib.hid hW7
          obtain ⟨spa6, capa6, hva6, _⟩ := r6.1.shape
          obtain ⟨spc6, capc6, hvc6, _⟩ := r6.2.1.shape
          subst hva6 hvc6
          obtain ⟨x0, x1, x2, x3⟩ := cells4 k06
          have fr0 := free_arr k06 0
          have fr1 := free_arr k06 1
          have fr2 := free_arr k06 2
          have fr3 := free_arr k06 3
          have hl0 := lt_of_block k06
          clear k05 ka5 b5 k5 o6 r6 b6 c7 k07 ka7 r7 b7 hW7 ka6 k0a ka oAx
          go_upto_region 25 with fail
          rw [← HW7.out]
          clear x0 x1 x2 x3 fr0 fr1 fr2 fr3 hl0 k06
          have HKS := Lib.hid (keys_size hst.cache)
          have HOK := Lib.hid hok1
          have hS := hst.cells
          have hlr := lt_of_block hst.k0
          have hla := lt_of_block hst.ka
          clear hok1
          have hstd : St w B c rb ab a (.slice spa6 s1.T.length capa6) (.slice spc6 s1.C.length capc6) s1 W7.drew := hst.only (Only.refl _ _).drew
          clear hst
          have hst := hstd
          clear hstd
          go_region_held3 (fun w' => w'.cell? ⟨rb, 0, none⟩ = some (.int .i64 s1.size) ∧ w'.cell? ⟨rb, 1, none⟩ = some (.slice spa6 s1.T.length capa6) ∧ w'.cell? ⟨rb, 2, none⟩ = some (.slice spc6 s1.C.length capc6) ∧ w'.cell? ⟨rb, 3, none⟩ = some (.int .i64 s1.n) ∧ w'.cell? ⟨ab, 1, none⟩ = some (.string a.key))
            (first | exact hS | go_keep)
            (first
              | (go_at_call 20; refine (keys_any c B s1 _ hst.cache).mono ?_; rintro e w6 ⟨v20, rfl, hv20, o6⟩; have hst := hst.only o6; have hS := hst.cells)
              | (go_at_call 21; refine (rkeys_any (.slice spa6 s1.T.length capa6) (.slice spc6 s1.C.length capc6) s1 _ hst.ref).mono ?_; rintro e w6 ⟨v21, rfl, hv21, o6⟩; have hv20 := hv20.only o6; have hst := hst.only o6; have hS := hst.cells)
              | (go_at_call 19; refine (same_self_own hv20 hv21 HKS.out).mono ?_; rintro e w6 ⟨rfl, o6⟩; have hst := hst.only o6; have hS := hst.cells)
              | (go_at_call 22; refine (often_any c B s1 _ _ hst.cache (by assumption)).mono ?_; rintro e w6 ⟨rfl, rfl⟩)
              | (go_at_call 23; refine (roften_any (.slice spa6 s1.T.length capa6) (.slice spc6 s1.C.length capc6) s1 _ _ hst.ref).mono ?_; rintro e w6 ⟨rfl, o6⟩; have hst := hst.only o6; have hS := hst.cells)
              | (go_at_call 24; refine (counted_any c B s1 _ hst.cache).mono ?_; rintro e w6 ⟨rfl, rfl⟩))
          all_goals
            go_wp2
            go_roundw
            case rel => exact ⟨k + 1, by omega, by go_num, s1, _, _, hst.cache, HOK.out, hst.k0, hst.ref, hst.below⟩
            case measure => simp [intOf]; omega
        have t1 : (a.k == 1) = false := by simpa using h1
        have H0 := Lib.hid h1
        clear h1 h0
        have HGa := forget_any c B s a.key wa hsa
        have hok1 := hok.forget a.key
        obtain ⟨s1, hs1⟩ : ∃ s1, s1 = forgetC s a.key := ⟨_, rfl⟩
        obtain ⟨G, hG⟩ : ∃ G, G = getB s a.key := ⟨_, rfl⟩
        have HG := HGa
        skip
        rw [← hG] at HG
        skip
        have HG := Lib.hid HG
        have HS1 := Lib.hid hs1
        have HGb := Lib.hid hG
        skip
        rw [← hs1] at hok1
        clear htk hs1 hG HGa  H0
        go_wp2_with fail
        rw [← HWA.out]
        clear c0 c1 c2 hbl2
        generalize hab : wr.heap.size = ab at ka ⊢
        have hne : ab ≠ rb := by omega
        clear hab
        refine HG.out.mono ?_
        rintro e w5 ⟨rfl, k5, f5⟩
        have k05 := f5.keep k0a (by decide) (by decide)
        have ka5 := f5.keep ka (by decide) (by decide)
        have r5 := hra.fr f5
        have b5 := below_fr hB hba f5
        have k5 : IsCache w5 B c s1 := by rw [HS1.out]; exact k5
        have HR0 := rforget_any va vc s a.key w5 r5
        unfold RForgetEnd at HR0
        rw [← HS1.out, ← HGb.out] at HR0
        unfold RV at HR0
        have HR := Lib.hid HR0
        obtain ⟨spa0, capa0, hva0, _⟩ := r5.1.shape
        obtain ⟨spc0, capc0, hvc0, _⟩ := r5.2.1.shape
        subst hva0 hvc0
        obtain ⟨x0, x1, x2, x3⟩ := cells4 k05
        obtain ⟨t0', t1', t2'⟩ := trio ka5
        have hl0 := lt_of_block k05
        have hl1 := lt_of_block ka5
        clear HR0 f5 hsa hra hba r5 hok hs
        go_wp2_with fail
        refine HR.out.mono ?_
        rintro e w6 ⟨va6, vc6, rfl, r6, o6⟩
        clear x0 x1 x2 x3 t0' t1' t2' hl0 hl1
        have k06 := o6.keep k05 (fun h => h)
        have ka6 := o6.keep ka5 (fun h => h)
        have b6 := b5.trans (o6.below (B := w.heap.size) b5.size (fun _ h => h.elim))
        obtain ⟨W7, hW7, c7, k07, ka7, r7, b7⟩ := stage2 hne hrb (k5.keep o6) k06 ka6 r6 b6
        have hst : St w B c rb ab a va6 vc6 s1 W7 := ⟨c7, r7, k07, ka7, b7⟩
        have HW7 := Lib.hid hW7
        obtain ⟨spa6, capa6, hva6, _⟩ := r6.1.shape
        obtain ⟨spc6, capc6, hvc6, _⟩ := r6.2.1.shape
        subst hva6 hvc6
        obtain ⟨x0, x1, x2, x3⟩ := cells4 k06
        have fr0 := free_arr k06 0
        have fr1 := free_arr k06 1
        have fr2 := free_arr k06 2
        have fr3 := free_arr k06 3
        have hl0 := lt_of_block k06
        clear k05 ka5 b5 k5 o6 r6 b6 c7 k07 ka7 r7 b7 hW7 ka6 k0a ka oAx
        go_upto_region 25 with fail
        rw [← HW7.out]
        clear x0 x1 x2 x3 fr0 fr1 fr2 fr3 hl0 k06
        have HKS := Lib.hid (keys_size hst.cache)
        have HOK := Lib.hid hok1
        have hS := hst.cells
        have hlr := lt_of_block hst.k0
        have hla := lt_of_block hst.ka
        clear hok1
        have hstd : St w B c rb ab a (.slice spa6 s1.T.length capa6) (.slice spc6 s1.C.length capc6) s1 W7.drew := hst.only (Only.refl _ _).drew
        clear hst
        have hst := hstd
        clear hstd
        go_region_held3 (fun w' => w'.cell? ⟨rb, 0, none⟩ = some (.int .i64 s1.size) ∧ w'.cell? ⟨rb, 1, none⟩ = some (.slice spa6 s1.T.length capa6) ∧ w'.cell? ⟨rb, 2, none⟩ = some (.slice spc6 s1.C.length capc6) ∧ w'.cell? ⟨rb, 3, none⟩ = some (.int .i64 s1.n) ∧ w'.cell? ⟨ab, 1, none⟩ = some (.string a.key))
          (first | exact hS | go_keep)
          (first
            | (go_at_call 20; refine (keys_any c B s1 _ hst.cache).mono ?_; rintro e w6 ⟨v20, rfl, hv20, o6⟩; have hst := hst.only o6; have hS := hst.cells)
            | (go_at_call 21; refine (rkeys_any (.slice spa6 s1.T.length capa6) (.slice spc6 s1.C.length capc6) s1 _ hst.ref).mono ?_; rintro e w6 ⟨v21, rfl, hv21, o6⟩; have hv20 := hv20.only o6; have hst := hst.only o6; have hS := hst.cells)
            | (go_at_call 19; refine (same_self_own hv20 hv21 HKS.out).mono ?_; rintro e w6 ⟨rfl, o6⟩; have hst := hst.only o6; have hS := hst.cells)
            | (go_at_call 22; refine (often_any c B s1 _ _ hst.cache (by assumption)).mono ?_; rintro e w6 ⟨rfl, rfl⟩)
            | (go_at_call 23; refine (roften_any (.slice spa6 s1.T.length capa6) (.slice spc6 s1.C.length capc6) s1 _ _ hst.ref).mono ?_; rintro e w6 ⟨rfl, o6⟩; have hst := hst.only o6; have hS := hst.cells)
            | (go_at_call 24; refine (counted_any c B s1 _ hst.cache).mono ?_; rintro e w6 ⟨rfl, rfl⟩))
        all_goals
          go_wp2
          go_roundw
          case rel => exact ⟨k + 1, by omega, by go_num, s1, _, _, hst.cache, HOK.out, hst.k0, hst.ref, hst.below⟩
          case measure => simp [intOf]; omega
      · go_wp2
        go_ret
        exact ⟨rfl, hb⟩

end Go.Proofs.Ytgmelphklppcbaa
