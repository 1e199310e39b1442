/- The contract of front. -/
import Derived.Test.YtgmelphklppcbaaE
import Derived.Deep.RegionLaw
import Derived.Deep.DeepCutAuto
namespace Go.Proofs.Ytgmelphklppcbaa
open Go.RowKit

theorem info59 : (Try.prog.info? 59).map (fun i => (i.zero, i.size, i.bytes)) = some (some (.agg #[.string ByteArray.empty, .string ByteArray.empty]), 2, 32) := by kernel_rfl
theorem size59 : (Try.prog.info? 59).map (·.size) = some 2 := by kernel_rfl

theorem run_copy_sized {P : Program} (w : World) (dT sT ty elem : TypeId) (g o dLen dCap : Nat) (a : Addr) (sLen sCap sz n : Nat) (cur : Array Value) (t : TypeId) (cs : List Value)
    (hu : P.underlying dT = some (.slice elem)) (hs : (P.info? elem).map (·.size) = some sz)
    (hg : w.heap[g]? = some (.cells cur t (0, 0))) (hn : n = Nat.min sLen dLen) (hl0 : cs.length = n * sz)
    (hsrc : ∀ j v, cs[j]? = some v → w.cell? (a.add j) = some v) (hfit : o + cs.length ≤ cur.size) (h1 : ∀ v ∈ cs, v.oneCell' = true) :
    (Builtin.copy_ #[dT, sT] ty #[.slice (some ⟨g, o, none⟩) dLen dCap, .slice (some a) sLen sCap]).run P w =
      .ok (goInt n) (w.setRow g (cur.toList.take o ++ cs ++ cur.toList.drop (o + cs.length)).toArray) := by
  have hl := run_loadCells_list (P := P) w a cs hsrc
  have hst := run_storeCells_at P g o t cs 0 cur w hg (by simpa using hfit) h1
  cases hq : P.info? elem with
  | none => simp [hq] at hs
  | some i =>
    have hi : i.size = sz := by simpa [hq] using hs
    simp [Builtin.copy_, run_underlying hu, Builtin.lenOf, Builtin.firstCells, sizeOf, typeInfo, hq, hi, ← hn, ← hl0, hl, hst]

theorem run_copy_zero {P : Program} (w : World) (dT sT ty elem : TypeId) (d a : Option Addr) (dLen dCap sLen sCap sz : Nat) (hu : P.underlying dT = some (.slice elem)) (hs : (P.info? elem).map (·.size) = some sz) (hn : Nat.min sLen dLen = 0) :
    (Builtin.copy_ #[dT, sT] ty #[.slice d dLen dCap, .slice a sLen sCap]).run P w = .ok (goInt 0) w := by
  cases hq : P.info? elem with
  | none => simp [hq] at hs
  | some i =>
    have hl : ∀ (x : Addr), (loadCells x 0).run P w = .ok #[] w := fun x => by simpa using run_loadCells_list (P := P) w x [] (by simp)
    cases d <;> cases a <;> simp [Builtin.copy_, run_underlying hu, Builtin.lenOf, Builtin.firstCells, sizeOf, typeInfo, hq, hn, storeCells, hl]

theorem setRow_grown (w : World) (g : Nat) (xs : Array Value) : w.grownBy (w.setRow g xs) (some g) :=
  ⟨rfl, rfl, rfl, by simp [World.setRow], fun k _ hk => setRow_other w g k xs (fun e => hk (by rw [e]))⟩

theorem grown_refl (w : World) (r : Option Nat) : w.grownBy w r := ⟨rfl, rfl, rfl, Nat.le_refl _, fun _ _ _ => rfl⟩

/-- copy between rows of elements of sz cells, as one step of a region. -/
theorem step_copy_sized {P : Program} {ops : Array Oper} {o : Oper} {a : Act} {w : World} {K : Act → World → Prop} {Q : Exit → Act → World → Prop} {E : Prop} (hgd : o.guard = none) (d s : Operand) (dT sT : TypeId)
    (ho : o.op = .call { callee := .builtin .copy, args := #[d, s], argTypes := #[dT, sT] }) (elem : TypeId) (sz : Nat) (hu : P.underlying dT = some (.slice elem)) (hsz : (P.info? elem).map (·.size) = some sz)
    (dp sp : Option Addr) (dLen dCap sLen sCap : Nat) (hd : a.eval d = .slice dp dLen dCap) (hs : a.eval s = .slice sp sLen sCap)
    (g off n : Nat) (cur : Array Value) (t : TypeId) (hg : w.heap[g]? = some (.cells cur t (0, 0))) (cs : List Value) (hn : n = Nat.min sLen dLen) (hl0 : cs.length = n * sz)
    (hpos : 0 < n → dp = some ⟨g, off, none⟩ ∧ ∃ ad, sp = some ad ∧ ∀ j v, cs[j]? = some v → w.cell? (ad.add j) = some v)
    (hfit : 0 < n → off + cs.length ≤ cur.size) (h1 : ∀ v ∈ cs, v.oneCell' = true)
    (h : ∀ w', RowKit.Hid (w'.heap[g]? = some (.cells (splice cur.toList off cs).toArray t (0, 0))) → w.grownBy w' (some g) → K (a.put o.dst (goInt n)) w') :
    if Region.wanted o (yielded ops a.tmps) = true then Oper.wp P o a w K Q else E := by
  have hw : Region.wanted o (yielded ops a.tmps) = true := by simp [Region.wanted, hgd]
  rw [if_pos hw]
  by_cases h0 : n = 0
  · subst h0
    obtain rfl : cs = [] := List.eq_nil_of_length_eq_zero (by omega)
    have hrun := run_copy_zero (P := P) w dT sT o.type elem dp sp dLen dCap sLen sCap sz hu hsz hn.symm
    unfold Oper.wp
    simp [execOp, ho, resolve, invoke, builtin, hd, hs, hrun, Result.andThen]
    exact h w (show _ = _ by simpa [splice] using hg) (grown_refl _ _)
  · obtain ⟨rfl, ad, rfl, hsrc⟩ := hpos (by omega)
    have hrun := run_copy_sized (P := P) w dT sT o.type elem g off dLen dCap ad sLen sCap sz n cur t cs hu hsz hg hn hl0 hsrc (hfit (by omega)) h1
    unfold Oper.wp
    simp [execOp, ho, resolve, invoke, builtin, hd, hs, hrun, Result.andThen]
    exact h _ (show _ = _ by simpa [splice] using setRow_heap w g _ _ t _ hg) (setRow_grown _ _ _)

/-- The row behind front. -/
theorem front_row {cur : List Value} {T : Ts} {n i : Nat} {a b : ByteArray} (ht : cur.take (n * 2) = flat T) (hn : T.length = n) (hi : i < n) :
    (((splice cur 2 (flat (T.take i))).set 0 (.string a)).set 1 (.string b)).take (n * 2) = flat ((a, b) :: (T.take i ++ T.drop (i + 1))) := by
  obtain ⟨R, hR⟩ : ∃ R, cur = flat T ++ R := ⟨cur.drop (n * 2), by rw [← ht, List.take_append_drop]⟩
  subst hR
  clear ht
  cases T with
  | nil => simp at hn; omega
  | cons x T' =>
    have hl : (flat ((x :: T').take i)).length = i * 2 := by rw [flat_length, List.length_take]; simp only [List.length_cons] at hn ⊢; omega
    have e1 : splice (flat (x :: T') ++ R) 2 (flat ((x :: T').take i)) = .string x.1 :: .string x.2 :: (flat ((x :: T').take i) ++ (flat (T'.drop i) ++ R)) := by
      unfold splice
      rw [hl, show 2 + i * 2 = i * 2 + 1 + 1 by omega]
      simp only [flat, List.cons_append, List.take_succ_cons, List.take_zero, List.drop_succ_cons, List.nil_append]
      rw [List.drop_append_of_le_length (by rw [flat_length]; simp only [List.length_cons] at hn; omega), flat_drop]
    rw [e1]
    simp only [List.set_cons_zero, List.set_cons_succ]
    rw [show (x :: T').drop (i + 1) = T'.drop i by rfl]
    simp only [flat, flat_append]
    rw [← List.append_assoc]
    have hl2 : (flat ((x :: T').take i) ++ flat (T'.drop i)).length = n * 2 - 2 := by
      rw [List.length_append, hl, flat_length, List.length_drop]
      simp only [List.length_cons] at hn
      omega
    obtain ⟨m, rfl⟩ : ∃ m, n = m + 1 := ⟨n - 1, by omega⟩
    rw [show (m + 1) * 2 = m * 2 + 1 + 1 by omega]
    simp only [List.take_succ_cons]
    rw [List.take_append_of_le_length (by omega), List.take_of_length_le (by omega)]

end Go.Proofs.Ytgmelphklppcbaa
