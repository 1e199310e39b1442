/- The contracts of Forget and Offer. -/
import Derived.Test.YtgmelphklppcbaaJ
namespace Go.Proofs.Ytgmelphklppcbaa
open Go.RowKit
open Go.Maps (Keyed Tidy IsMap has size)

/-- Another row in the place of the cache's. -/
theorem cache_row {w w' : World} {B c bm : Nat} {s : Ca} {v v' : Value} {D : DataW Unit} {T' : Ts} (hb : w.heap[c]? = some (.cells #[.int .i64 s.size, v, .map (some bm), .int .i64 s.n] 57 (0, 0))) (h1 : B ≤ c) (h2 : B ≤ bm)
    (hr : w.ownsRow B 59 2 v s.T.length (flat s.T)) (hm : w.ownsMap Try.prog 9 (plainElem Try.prog 3) bm s.C.length D) (ha : Agr D s.C) (hg : Good s.C) (h64 : s.size ≤ 64)
    (ho : Only w w' (fun k => k = c ∨ some k = v.ownBlock)) (hb' : w'.heap[c]? = some (.cells #[.int .i64 s.size, v', .map (some bm), .int .i64 s.n] 57 (0, 0))) (hr' : w'.ownsRow B 59 2 v' T'.length (flat T'))
    (hl : T'.length ≤ s.size) (hk : ∀ x ∈ T', x.1.size ≤ maxLen) : IsCache w' B c { s with T := T' } ∧ Fr B w w' := by
  refine ⟨⟨bm, v', D, hb', h1, h2, hr', ho.map hm (fun e => ?_), ha, hg, h64, hl, hk⟩, Fr.of_only ho fun k _ e => ?_⟩
  · rcases e with e | e
    · exact map_ne hm hb e.symm
    · exact own_map_ne hm hr e.symm
  · rcases e with rfl | e
    · exact ⟨h1, .inr (.inr ⟨_, _, hb⟩)⟩
    · rcases hr.2 with ⟨rfl, _⟩ | ⟨g', cap, cur, rfl, hBg, hgg, _⟩
      · cases e
      · simp only [Value.ownBlock, Option.some.injEq] at e
        subst e
        exact ⟨hBg, .inr (.inl ⟨_, _, hgg⟩)⟩

def forgetC (s : Ca) (k : ByteArray) : Ca := if pl s.T k < s.T.length then { s with T := s.T.take (pl s.T k) ++ s.T.drop (pl s.T k + 1) } else s
theorem forget_yes {s : Ca} {k : ByteArray} (h : pl s.T k < s.T.length) : forgetC s k = { s with T := s.T.take (pl s.T k) ++ s.T.drop (pl s.T k + 1) } ∧ getB s k = true := ⟨if_pos h, decide_eq_true h⟩
theorem forget_no {s : Ca} {k : ByteArray} (h : ¬ pl s.T k < s.T.length) : forgetC s k = s ∧ getB s k = false := ⟨if_neg h, decide_eq_false h⟩

set_option maxHeartbeats 1600000 in
theorem forget_any (c B : Nat) (s : Ca) (key : ByteArray) (w : World) (hc : IsCache w B c s) :
    Calls Try.prog 17 #[.pointer (some ⟨c, 0, none⟩), .string key] w fun e w' => e = .returned (.bool (getB s key)) ∧ IsCache w' B c (forgetC s key) ∧ Fr B w w' := by
  have HPL := Lib.hid (place_any c B s key w hc)
  by_cases hp : pl s.T key < s.T.length
  · have HE := Lib.hid (forget_yes hp)
    have h := HPL.out
    rw [plI_yes hp] at h
    have HPL2 := Lib.hid h
    clear h HPL
    have hdn : decide ((pl s.T key : Int) < 0) = false := decide_eq_false (by omega)
    go_enter Try.func17, Try.ntmps17
    go_wp2_with fail
    refine HPL2.out.mono ?_
    rintro e w4 ⟨rfl, o4⟩
    have F4 := Lib.hid (Fr.of_none B o4)
    obtain ⟨bm, v, D, hb, h1, h2, hr, hm, ha, hg, h64, hTs, hk⟩ := hc.keep o4
    obtain ⟨c0, c1, c2, c3⟩ := cells4 hb
    obtain ⟨sp, cap, rfl⟩ := own_shape hr
    obtain ⟨g, cur, rfl, hBg, hgg, hnc, hcm, hcs, ht⟩ := own_open hr (by omega)
    have hlt := lt_of_block hb
    have i1 : IntKind.i64.wrap ((pl s.T key : Int) + 1) = (pl s.T key : Int) + 1 := IntWalk.i64_in _ (by omega)
    have HD := Lib.hid (delete_any g cap (pl s.T key) cur s.T w4 hgg hnc hcm hcs ht hp (by omega))
    go_wp2_with fail
    refine HD.out.mono ?_
    rintro e w5 ⟨rfl, g5, cur', hg5, hcs5, ht5⟩
    have hcg : c ≠ g := by rintro rfl; rw [hb] at hgg; simp at hgg
    have hb5 := grown_keep g5 hb (by simp [hcg])
    have fr := free_arr hb5 1
    have c1 := (cells4 hb5).2.1
    have hlt5 := lt_of_block hb5
    have ho : Only w4 (w5.setCell ⟨c, 1, none⟩ (.slice (some ⟨g, 0, none⟩) (s.T.length - 1) cap)) (fun k => k = c ∨ some k = (Value.slice (some ⟨g, 0, none⟩) s.T.length cap).ownBlock) :=
      ((Only.of_grown g5).mono (fun k e => .inr (by simp [Value.ownBlock, e]))).trans (Only.setCell _ _ _ _ _ (.inl rfl))
    have hTl : (s.T.take (pl s.T key) ++ s.T.drop (pl s.T key + 1)).length = s.T.length - 1 := by simp; omega
    have hrow : (w5.setCell ⟨c, 1, none⟩ (.slice (some ⟨g, 0, none⟩) (s.T.length - 1) cap)).ownsRow B 59 2 (.slice (some ⟨g, 0, none⟩) (s.T.length - 1) cap) (s.T.take (pl s.T key) ++ s.T.drop (pl s.T key + 1)).length (flat (s.T.take (pl s.T key) ++ s.T.drop (pl s.T key + 1))) := by
      rw [hTl]
      refine ⟨by rw [flat_length, hTl], .inr ⟨g, cap, cur', rfl, hBg, (Below.heap_setCell _ _ _ _ (by simpa using hcg.symm)).trans hg5, by omega, hcm, hcs5, ht5⟩⟩
    have HK := Lib.hid (cache_row hb h1 h2 hr hm ha hg h64 ho (heap_set hb5 1 _) hrow (by rw [hTl]; omega) (fun x hx => by
      rcases List.mem_append.1 hx with hx | hx
      · exact hk _ (List.mem_of_mem_take hx)
      · exact hk _ (List.mem_of_mem_drop hx)))
    clear ho hrow
    go_wp2
    go_ret
    refine ⟨by rw [HE.out.2]; rfl, by rw [HE.out.1]; exact HK.out.1, F4.out.trans HK.out.2⟩
  · have HE := Lib.hid (forget_no hp)
    have h := HPL.out
    rw [plI_no hp] at h
    have HPL2 := Lib.hid h
    clear h HPL
    go_enter Try.func17, Try.ntmps17
    go_wp2_with fail
    refine HPL2.out.mono ?_
    rintro e w4 ⟨rfl, o4⟩
    go_wp2
    go_ret
    exact ⟨by rw [HE.out.2]; rfl, by rw [HE.out.1]; exact hc.keep o4, Fr.of_none B o4⟩

end Go.Proofs.Ytgmelphklppcbaa
