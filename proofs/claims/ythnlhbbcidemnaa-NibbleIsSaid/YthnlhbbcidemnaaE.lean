/- Nibbles: Get at the document's example, and works. -/
import Derived.Test.YthnlhbbcidemnaaD
namespace Go.Proofs.Ythnlhbbcidemnaa
open Go.RowKit

set_option maxHeartbeats 1600000 in
theorem get_ex (w : World) : Calls Try.prog 18 #[.string (text [49, 35])] w fun e w' => e = .returned (.tuple #[.string (text [1, 2, 3]), .bool true, .bool true]) ∧ Below w.heap.size w w' := by
  have h1 : Calls Try.prog 11 #[.string (text [49, 35])] w fun e w' => e = .returned (.string (text [3, 1, 2, 3])) ∧ Below w.heap.size w w' := by
    have := path_any (text [49, 35]) w (by rw [size_text]; decide)
    rw [text_data, show pathL [49, 35] = [3, 1, 2, 3] by decide] at this
    exact this
  have H1 := Lib.hid h1
  clear h1
  go_enter Try.func18, Try.ntmps18
  go_wp2_with fail
  refine H1.out.mono ?_
  rintro e w1 ⟨rfl, hb⟩
  have f1 : (text [3, 1, 2, 3]).toList.isEmpty = false := by rw [Lib.toList_data]; rfl
  have f2 : (((((text [3, 1, 2, 3])[0]'(by decide)).toNat : Nat) : Int) == 3) = true := by decide
  have f3 : Hid ((text [3, 1, 2, 3]).extract 1 (text [3, 1, 2, 3]).size = text [1, 2, 3]) := by rw [Hid]; rfl
  go_wp2
  go_ret3
  refine ⟨?_, hb⟩
  rw [← f3.out]
  rfl

theorem conv_new (W : World) (a : List UInt8) (b : List Value) (h : bytesV a = b) (hm : a.length ≤ 1000) (n : Nat) (hn : a.length = n) :
    (convert 31 9 (.slice (some ⟨W.heap.size, 0, none⟩) n n)).run Try.prog (W.alloc (.cells b.toArray 5)) = .ok (.string (text a)) (W.alloc (.cells b.toArray 5)) := by
  subst h; subst hn
  exact conv_block (heap_alloc_new W _) hm

theorem conv_at (W : World) (g : Nat) (a : List UInt8) (b : List Value) (h : bytesV a = b) (hm : a.length ≤ 1000) (n : Nat) (hn : a.length = n) (hg : g = W.heap.size) :
    (convert 31 9 (.slice (some ⟨g, 0, none⟩) n n)).run Try.prog (W.alloc (.cells b.toArray 5)) = .ok (.string (text a)) (W.alloc (.cells b.toArray 5)) := by
  subst hg
  exact conv_new W a b h hm n hn

set_option maxHeartbeats 1600000 in
set_option maxRecDepth 100000 in
theorem works_any (w : World) : Calls Try.prog 8 #[] w fun e w' => e = .returned (.bool true) ∧ Below w.heap.size w w' := by
  have c1 : ∀ W : World, (convert 31 9 (.slice (some ⟨W.heap.size, 0, none⟩) 3 3)).run Try.prog (W.alloc (.cells #[.int .u8 1, .int .u8 2, .int .u8 3] 5)) = .ok (.string (text [1, 2, 3])) (W.alloc (.cells #[.int .u8 1, .int .u8 2, .int .u8 3] 5)) := fun W => conv_new W [1, 2, 3] _ rfl (by decide) 3 rfl
  go_enter Try.func8, Try.ntmps8
  go_wp2_with fail
  have s1 : ∀ W, Calls Try.prog 17 #[.string (text [1, 2, 3]), .bool true] W fun e w' => e = .returned (.tuple #[.string (text [49, 35]), .bool true]) ∧ Below W.heap.size W w' := by
    intro W
    have := put_any (text [1, 2, 3]) true W (by rw [size_text]; decide)
    rw [text_data, show putL [1, 2, 3] true = [49, 35] by decide, show validL [1, 2, 3] = true by decide] at this
    exact this
  refine (s1 _).mono ?_
  clear s1 c1
  rintro e w1 ⟨rfl, b1⟩
  have b1 := ((Below.refl _ w).alloc (Nat.le_refl _) _).trans (b1.mono (by simp))
  go_wp2_with fail
  have s1 : ∀ W, Calls Try.prog 17 #[.string ⟨#[]⟩, .bool false] W fun e w' => e = .returned (.tuple #[.string (text [0]), .bool true]) ∧ Below W.heap.size W w' := by
    intro W
    have := put_any ⟨#[]⟩ false W (by decide)
    rw [show putL (⟨#[]⟩ : ByteArray).data.toList false = [0] by decide, show validL (⟨#[]⟩ : ByteArray).data.toList = true by decide] at this
    exact this
  refine (s1 _).mono ?_
  clear s1
  rintro e w2 ⟨rfl, b2⟩
  have b2 := b1.trans (b2.mono b1.size)
  go_wp2_with fail
  refine (get_ex _).mono ?_
  rintro e w3 ⟨rfl, b3⟩
  have b3 := b2.trans (b3.mono b2.size)
  go_wp2_with fail
  have s1 : ∀ W, Calls Try.prog 11 #[.string ⟨#[97, 122]⟩] W fun e w' => e = .returned (.string (text [6, 1, 7, 10])) ∧ Below W.heap.size W w' := by
    intro W
    have := path_any ⟨#[97, 122]⟩ W (by decide)
    rw [show pathL (⟨#[97, 122]⟩ : ByteArray).data.toList = [6, 1, 7, 10] by decide] at this
    exact this
  refine (s1 _).mono ?_
  clear s1
  rintro e w4 ⟨rfl, b4⟩
  have b4 := b3.trans (b4.mono b3.size)
  go_wp2_with fail
  have s1 : ∀ W, Calls Try.prog 9 #[.string (text [6, 1, 7, 10])] W fun e w' => e = .returned (.tuple #[.string ⟨#[97, 122]⟩, .bool true]) ∧ Below W.heap.size W w' := by
    intro W
    have := key_any (text [6, 1, 7, 10]) W (by rw [size_text]; decide)
    rw [text_data, show keyL [6, 1, 7, 10] = [97, 122] by decide, show keyB [6, 1, 7, 10] = true by decide] at this
    exact this
  refine (s1 _).mono ?_
  clear s1
  rintro e w5 ⟨rfl, b5⟩
  have b5 := b4.trans (b5.mono b4.size)
  go_wp2_with fail
  have s1 : ∀ W, Calls Try.prog 9 #[.string ⟨#[97]⟩] W fun e w' => e = .returned (.tuple #[.string ⟨#[]⟩, .bool false]) ∧ Below W.heap.size W w' := by
    intro W
    have := key_any ⟨#[97]⟩ W (by decide)
    rw [show keyL (⟨#[97]⟩ : ByteArray).data.toList = [] by decide, show keyB (⟨#[97]⟩ : ByteArray).data.toList = false by decide] at this
    exact this
  refine (s1 _).mono ?_
  clear s1
  rintro e w6 ⟨rfl, b6⟩
  have b6 := b5.trans (b6.mono b5.size)
  clear b1 b2 b3 b4 b5
  have c2 : (convert 31 9 (.slice (some ⟨w6.heap.size, 0, none⟩) 2 2)).run Try.prog (w6.alloc (.cells #[.int .u8 49, .int .u8 35] 5)) = .ok (.string (text [49, 35])) (w6.alloc (.cells #[.int .u8 49, .int .u8 35] 5)) := conv_new w6 [49, 35] _ rfl (by decide) 2 rfl
  have c3 : (convert 31 9 (.slice (some ⟨w6.heap.size + 1, 0, none⟩) 1 1)).run Try.prog ((w6.alloc (.cells #[.int .u8 49, .int .u8 35] 5)).alloc (.cells #[.int .u8 0] 5)) = .ok (.string (text [0])) ((w6.alloc (.cells #[.int .u8 49, .int .u8 35] 5)).alloc (.cells #[.int .u8 0] 5)) :=
    conv_at _ _ [0] _ rfl (by decide) 1 rfl (by simp)
  have c4 : (convert 31 9 (.slice (some ⟨w6.heap.size + 1 + 1, 0, none⟩) 3 3)).run Try.prog (((w6.alloc (.cells #[.int .u8 49, .int .u8 35] 5)).alloc (.cells #[.int .u8 0] 5)).alloc (.cells #[.int .u8 1, .int .u8 2, .int .u8 3] 5)) = .ok (.string (text [1, 2, 3])) (((w6.alloc (.cells #[.int .u8 49, .int .u8 35] 5)).alloc (.cells #[.int .u8 0] 5)).alloc (.cells #[.int .u8 1, .int .u8 2, .int .u8 3] 5)) :=
    conv_at _ _ [1, 2, 3] _ rfl (by decide) 3 rfl (by simp)
  have b7 : Below w.heap.size w (((w6.alloc (.cells #[.int .u8 49, .int .u8 35] 5)).alloc (.cells #[.int .u8 0] 5)).alloc (.cells #[.int .u8 1, .int .u8 2, .int .u8 3] 5)) :=
    ((b6.alloc b6.size _).alloc (by have := b6.size; simp; omega) _).alloc (by have := b6.size; simp; omega) _
  go_wp2_with fail
  clear c2 c3 c4
  have s1 : ∀ W, Calls Try.prog 13 #[.string (text [1, 2, 3])] W fun e w' => e = .returned (.bool true) ∧ w' = W := fun W => valid_any (text [1, 2, 3]) W (by rw [size_text]; decide)
  refine (s1 _).mono ?_
  clear s1
  rintro e w8 ⟨rfl, rfl⟩
  go_wp2_with fail
  have s1 : ∀ W, Calls Try.prog 13 #[.string ⟨#[97]⟩] W fun e w' => e = .returned (.bool false) ∧ w' = W := fun W => valid_any ⟨#[97]⟩ W (by decide)
  refine (s1 _).mono ?_
  clear s1
  rintro e w8 ⟨rfl, rfl⟩
  go_wp2_with fail
  have s1 : ∀ W, Calls Try.prog 15 #[.string ⟨#[97, 98, 99]⟩, .string ⟨#[97, 98, 100]⟩] W fun e w' => e = .returned (.int .i64 2) ∧ Drawn W w' := fun W => common_any ⟨#[97, 98, 99]⟩ ⟨#[97, 98, 100]⟩ W (by decide) (by decide)
  refine (s1 _).mono ?_
  clear s1
  rintro e w8 ⟨rfl, d8⟩
  go_wp2
  go_ret
  exact ⟨rfl, b7.trans (d8.below _)⟩

end Go.Proofs.Ythnlhbbcidemnaa
