/- How a slice of acts is read. -/
import Derived.Test.YtkejbpkpdgnodaaV
import Derived.Test.YtkejbpkpdgnodaaT
import Derived.Deep.Slices
import Derived.Deep.Fields
namespace Go.Proofs.Ytkejbpkpdgnodaa
open Go.ChangeShapes Go.WideShapes Go.ChangeAt Go.RowKit Go.Deep

theorem room_case (room : Int) : ∃ r : Nat, (room < 1 ∧ r ≤ 1 ∨ 1 ≤ room ∧ room ≤ 64 ∧ room = r ∨ 64 < room ∧ 64 ≤ r) ∧ 1 ≤ r ∧ r ≤ 64 :=
  ⟨(min (max room 1) 64).toNat, by omega⟩

theorem cells34 : Try.prog.cellsOf 34 = 4 := by kernel_rfl
theorem cells3 : Try.prog.cellsOf 3 = 1 := by kernel_rfl

/-- One act, read as data. -/
theorem view_act {H : Type} {enc : TypeId × Value → H} {W : World} {base n : Nat} {sp : Nat → Bool} {held : Bool} {ad : Addr} {cs : List Value} {x : DataW H × List MemPlace} (hc : W.cells? base ad 4 = some cs)
    (h : DataW.trod enc Try.prog W base sp held n 34 cs = some x) :
    ∃ a : MAct, W.cell? ad = some (.int .i64 a.k) ∧ W.cell? (ad.add 1) = some (.string a.s) ∧ W.cell? (ad.add 2) = some (.int .i64 a.n) ∧ W.cell? (ad.add 3) = some (.int .i64 a.to) := by
  obtain ⟨ys, n', _, _, hlen, hyl, hf⟩ := DataW.trod_struct Try.underlying34 h
  obtain ⟨_, hcl, hat⟩ := World.cells?_some hc
  match cs, hcl with
  | [v0, v1, v2, v3], _ =>
    match ys, hyl with
    | [y0, y1, y2, y3], _ =>
      have f0 : DataW.trod enc Try.prog W base sp held n' 3 (List.take (Try.prog.cellsOf 3) [v0, v1, v2, v3]) = some y0 := hf 0 _ rfl
      have f1 : DataW.trod enc Try.prog W base sp held n' 9 (List.take (Try.prog.cellsOf 9) [v1, v2, v3]) = some y1 := hf 1 _ rfl
      have f2 : DataW.trod enc Try.prog W base sp held n' 3 (List.take (Try.prog.cellsOf 3) [v2, v3]) = some y2 := hf 2 _ rfl
      have f3 : DataW.trod enc Try.prog W base sp held n' 3 (List.take (Try.prog.cellsOf 3) [v3]) = some y3 := hf 3 _ rfl
      rw [cells3] at f0 f2 f3
      rw [cells9] at f1
      obtain ⟨k, e0, _, _⟩ := DataW.trod_int Try.underlying3 f0
      obtain ⟨s, e1, _, _⟩ := DataW.trod_string Try.underlying9 f1
      obtain ⟨n, e2, _, _⟩ := DataW.trod_int Try.underlying3 f2
      obtain ⟨to, e3, _, _⟩ := DataW.trod_int Try.underlying3 f3
      simp only [List.take_succ_cons, List.take_zero, List.cons.injEq, and_true] at e0 e1 e2 e3
      subst e0 e1 e2 e3
      have c0 := hat 0 (by omega)
      have c1 := hat 1 (by omega)
      have c2 := hat 2 (by omega)
      have c3 := hat 3 (by omega)
      exact ⟨⟨k, s, n, to⟩, by rw [Addr.add_zero'] at c0; exact c0, by simpa using c1, by simpa using c2, by simpa using c3⟩

theorem view_acts {H : Type} {enc : TypeId × Value → H} {W : World} {fuel : Nat} {a0 : Option Addr} {len cap : Nat} {x : DataW H × List MemPlace}
    (hf : DataW.trod enc Try.prog W 0 (fun _ => true) true fuel 22 [.slice a0 len cap] = some x) : ∃ L : List MAct, L.length = len ∧ len ≤ maxLen ∧ ReadsA W a0 L := by
  rcases open_slice Try.underlying22 hf with ⟨hcs, _⟩ | ⟨a, l, c, m, n, D, Pl, hcs, _, hl, hm, hmm, _, hi⟩
  · simp at hcs
    obtain ⟨rfl, rfl, rfl⟩ := hcs
    exact ⟨[], rfl, by simp [maxLen], fun h => absurd h (by simp)⟩
  · simp at hcs
    obtain ⟨rfl, rfl, rfl⟩ := hcs
    simp only [if_true] at hmm
    rw [cells34] at hi
    have each : ∀ i, i < len → ∃ ac : MAct, W.cell? (a.add (i * 4)) = some (.int .i64 ac.k) ∧ W.cell? ((a.add (i * 4)).add 1) = some (.string ac.s) ∧ W.cell? ((a.add (i * 4)).add 2) = some (.int .i64 ac.n) ∧ W.cell? ((a.add (i * 4)).add 3) = some (.int .i64 ac.to) := by
      intro i h
      obtain ⟨cs', h1, h2⟩ := hi i (by omega)
      exact view_act h1 h2
    let f : Nat → MAct := fun i => if h : i < len then (each i h).choose else ⟨0, ByteArray.empty, 0, 0⟩
    have hfs : ∀ i, i < len → W.cell? (a.add (i * 4)) = some (.int .i64 (f i).k) ∧ W.cell? ((a.add (i * 4)).add 1) = some (.string (f i).s) ∧ W.cell? ((a.add (i * 4)).add 2) = some (.int .i64 (f i).n) ∧ W.cell? ((a.add (i * 4)).add 3) = some (.int .i64 (f i).to) := by
      intro i h
      have := (each i h).choose_spec
      simp only [f, h, dif_pos]
      exact this
    refine ⟨(List.range len).map f, by simp, by omega, fun h0 => ?_⟩
    simp only [List.length_map, List.length_range] at h0
    obtain ⟨b, off, spot⟩ := a
    have hc0 := (hfs 0 h0).1
    have hspot : spot = none := by simpa [Addr.add] using World.cell?_spot hc0
    subst hspot
    refine ⟨b, off, rfl, ?_, fun j hj => ?_⟩
    · have := World.block_lt_of_cell? W _ hc0
      simpa [Addr.add] using this
    · simp only [List.length_map, List.length_range] at hj
      have := hfs j hj
      simp only [Addr.add_lit] at this
      simpa using this

end Go.Proofs.Ytkejbpkpdgnodaa
