/- How the arguments of the laws are read. -/
import Derived.Test.YtgmelphklppcbaaRows
import Derived.Test.YtgmelphklppcbaaN
import Derived.ProofKit
import Derived.OpenShut
import Derived.ShutString
import Derived.ChangeOld
import Derived.SliceStrings
import Derived.Deep.Slices
import Derived.Deep.Fields
namespace Go.Proofs.Ytgmelphklppcbaa
open Go.ChangeShapes Go.WideShapes Go.ChangeAt Go.RowKit Go.Deep
open Go.ChangeMaps (open_string shut_string)

theorem own_knob : ownKnob Try.prog.godebug = none := by kernel_rfl
theorem laid_out : laidOutB Try.prog = true := by kernel_rfl
theorem cells9 : Try.prog.cellsOf 9 = 1 := by kernel_rfl
theorem cells33 : Try.prog.cellsOf 33 = 3 := by kernel_rfl
theorem cells3 : Try.prog.cellsOf 3 = 1 := by kernel_rfl

theorem view_strs {H : Type} {enc : TypeId × Value → H} {W : World} {fuel : Nat} {a0 : Option Addr} {len cap : Nat} {x : DataW H × List MemPlace}
    (hf : DataW.trod enc Try.prog W 0 (fun _ => true) true fuel 44 [.slice a0 len cap] = some x) : ∃ L : List ByteArray, L.length = len ∧ len ≤ maxLen ∧ Reads W a0 L := by
  rcases open_strings Try.underlying44 Try.underlying9 cells9 hf with ⟨hcs, _⟩ | ⟨a, l, c, ss, hcs, _, hl, hm, hz, _, hcell, hsz⟩
  · simp at hcs
    obtain ⟨rfl, rfl, rfl⟩ := hcs
    exact ⟨[], rfl, by simp [maxLen], fun h => absurd h (by simp)⟩
  · simp at hcs
    obtain ⟨rfl, rfl, rfl⟩ := hcs
    simp only [if_true] at hz
    refine ⟨ss.take len, by simp; omega, by omega, fun h0 => ?_⟩
    simp only [List.length_take] at h0
    obtain ⟨b, off, spot⟩ := a
    have hspot : spot = none := by simpa [Addr.add] using World.cell?_spot (hcell 0 (by omega))
    subst hspot
    refine ⟨b, off, rfl, ?_, fun j hj => ?_⟩
    · have := World.block_lt_of_cell? W _ (hcell 0 (by omega))
      simpa [Addr.add] using this
    · simp only [List.length_take] at hj
      have := hcell j (by omega)
      rw [Addr.add_lit] at this
      refine ⟨?_, hsz _ (List.mem_of_mem_take (List.getElem_mem _))⟩
      rw [this, List.getElem_take]
      simp [List.getD, show j < ss.length by omega]

/-- One act, read as data. -/
theorem view_act {H : Type} {enc : TypeId × Value → H} {W : World} {base n : Nat} {sp : Nat → Bool} {held : Bool} {ad : Addr} {cs : List Value} {x : DataW H × List MemPlace} (hc : W.cells? base ad 3 = some cs)
    (h : DataW.trod enc Try.prog W base sp held n 33 cs = some x) :
    ∃ a : CAct, W.cell? ad = some (.int .i64 a.k) ∧ W.cell? (ad.add 1) = some (.string a.key) ∧ W.cell? (ad.add 2) = some (.string a.val) ∧ a.key.size ≤ maxLen := by
  obtain ⟨ys, n', _, _, hlen, hyl, hf⟩ := DataW.trod_struct Try.underlying33 h
  obtain ⟨_, hcl, hat⟩ := World.cells?_some hc
  match cs, hcl with
  | [v0, v1, v2], _ =>
    match ys, hyl with
    | [y0, y1, y2], _ =>
      have f0 : DataW.trod enc Try.prog W base sp held n' 3 (List.take (Try.prog.cellsOf 3) [v0, v1, v2]) = some y0 := hf 0 _ rfl
      have f1 : DataW.trod enc Try.prog W base sp held n' 9 (List.take (Try.prog.cellsOf 9) [v1, v2]) = some y1 := hf 1 _ rfl
      have f2 : DataW.trod enc Try.prog W base sp held n' 9 (List.take (Try.prog.cellsOf 9) [v2]) = some y2 := hf 2 _ rfl
      rw [cells3] at f0
      rw [cells9] at f1 f2
      obtain ⟨k, e0, _, _⟩ := DataW.trod_int Try.underlying3 f0
      obtain ⟨s, e1, _, hs⟩ := DataW.trod_string Try.underlying9 f1
      obtain ⟨t, e2, _, _⟩ := DataW.trod_string Try.underlying9 f2
      simp only [List.take_succ_cons, List.take_zero, List.cons.injEq, and_true] at e0 e1 e2
      subst e0 e1 e2
      have c0 := hat 0 (by omega)
      have c1 := hat 1 (by omega)
      have c2 := hat 2 (by omega)
      exact ⟨⟨k, s, t⟩, by rw [Addr.add_zero'] at c0; exact c0, by simpa using c1, by simpa using c2, hs⟩

theorem view_acts {H : Type} {enc : TypeId × Value → H} {W : World} {fuel : Nat} {a0 : Option Addr} {len cap : Nat} {x : DataW H × List MemPlace}
    (hf : DataW.trod enc Try.prog W 0 (fun _ => true) true fuel 22 [.slice a0 len cap] = some x) : ∃ L : List CAct, L.length = len ∧ len ≤ maxLen ∧ ReadsA W a0 L := by
  rcases open_slice Try.underlying22 hf with ⟨hcs, _⟩ | ⟨a, l, c, m, n, D, Pl, hcs, _, hl, hm, hmm, _, hi⟩
  · simp at hcs
    obtain ⟨rfl, rfl, rfl⟩ := hcs
    exact ⟨[], rfl, by simp [maxLen], fun h => absurd h (by simp)⟩
  · simp at hcs
    obtain ⟨rfl, rfl, rfl⟩ := hcs
    simp only [if_true] at hmm
    rw [cells33] at hi
    have each : ∀ i, i < len → ∃ ac : CAct, W.cell? (a.add (i * 3)) = some (.int .i64 ac.k) ∧ W.cell? ((a.add (i * 3)).add 1) = some (.string ac.key) ∧ W.cell? ((a.add (i * 3)).add 2) = some (.string ac.val) ∧ ac.key.size ≤ maxLen := by
      intro i h
      obtain ⟨cs', h1, h2⟩ := hi i (by omega)
      exact view_act h1 h2
    let f : Nat → CAct := fun i => if h : i < len then (each i h).choose else ⟨0, ByteArray.empty, ByteArray.empty⟩
    have hfs : ∀ i, i < len → W.cell? (a.add (i * 3)) = some (.int .i64 (f i).k) ∧ W.cell? ((a.add (i * 3)).add 1) = some (.string (f i).key) ∧ W.cell? ((a.add (i * 3)).add 2) = some (.string (f i).val) ∧ (f i).key.size ≤ maxLen := by
      intro i h
      have := (each i h).choose_spec
      simp only [f, h, dif_pos]
      exact this
    refine ⟨(List.range len).map f, by simp, by omega, fun h0 => ?_⟩
    simp only [List.length_map, List.length_range] at h0
    obtain ⟨b, off, spot⟩ := a
    have hc0 := (hfs 0 h0).1
    have hspot : spot = none := by simpa [Addr.add] using World.cell?_spot hc0
    subst hspot
    refine ⟨b, off, rfl, ?_, fun j hj => ?_⟩
    · have := World.block_lt_of_cell? W _ hc0
      simpa [Addr.add] using this
    · simp only [List.length_map, List.length_range] at hj
      have := hfs j hj
      simp only [Addr.add_lit] at this
      simpa using this

end Go.Proofs.Ytgmelphklppcbaa
