/- The words of a block: the contract of spread, for every block of 64 bytes. -/
import Derived.Test.YtmgpgjookiknkaaDoorR
import Derived.Deep.RegionHeld3
import Derived.Deep.DeepCutAuto
import Derived.Deep.WholeRow
import Derived.Deep.MidRow
import Derived.WalkSmall
import Derived.Laws.CopyOwn
namespace Go.Proofs.YtmgpgjookiknkaaDoor
open Go.RowKit

theorem free_arr {w : World} {g : Nat} {xs : Array Value} {e : TypeId} (h : w.heap[g]? = some (.cells xs e (0, 0))) (j : Nat) : w.frozen? ⟨g, j, none⟩ = false := by
  simp [World.frozen?, h]
theorem cell_arr {w : World} {g : Nat} {xs : List Value} {e : TypeId} (h : w.heap[g]? = some (.cells xs.toArray e (0, 0))) (j : Nat) : w.cell? ⟨g, j, none⟩ = xs[j]? := by
  simp [World.cell?, h]
theorem heap_set {w : World} {g : Nat} {xs : Array Value} {e : TypeId} {f : Nat × Nat} (h : w.heap[g]? = some (.cells xs e f)) (j : Nat) (u : Value) : (w.setCell ⟨g, j, none⟩ u).heap[g]? = some (.cells (xs.setIfInBounds j u) e f) := by
  have hlt := lt_of_block h
  have h' : w.heap[g] = .cells xs e f := by simpa [Array.getElem?_eq_getElem hlt] using h
  show (w.heap.modify g _)[g]? = _
  rw [Array.getElem?_eq_getElem (by simpa using hlt), Array.getElem_modify_self, h']
  rfl
theorem two (w : World) (o1 o2 : Obj) : Below w.heap.size w ((w.alloc o1).alloc o2) ∧ ((w.alloc o1).alloc o2).heap[w.heap.size]? = some o1 ∧ ((w.alloc o1).alloc o2).heap[w.heap.size + 1]? = some o2 ∧ ((w.alloc o1).alloc o2).heap.size = w.heap.size + 2 := by
  refine ⟨((Below.refl _ _).alloc (Nat.le_refl _) _).alloc (by simp) _, ?_, ?_, by simp⟩
  · rw [Below.heap_alloc _ _ _ (by simp)]; exact heap_alloc_new _ _
  · have := heap_alloc_new (w.alloc o1) o2
    simpa using this

/-- A word out of four bytes, as the walk spells it. -/
def wdI (x0 x1 x2 x3 : Nat) : Int :=
  bits .or .u32 (bits .or .u32 (bits .or .u32 (IntKind.u32.wrap (IntKind.u32.wrap (x0 : Int) * 16777216)) (IntKind.u32.wrap (IntKind.u32.wrap (x1 : Int) * 65536))) (IntKind.u32.wrap (IntKind.u32.wrap (x2 : Int) * 256))) (IntKind.u32.wrap (x3 : Int))
theorem wdI_eq (x0 x1 x2 x3 : Nat) : wdI x0 x1 x2 x3 = ((Sh.wd x0 x1 x2 x3 : Nat) : Int) := by
  unfold wdI Sh.wd
  have h (x m : Nat) : IntKind.u32.wrap (IntKind.u32.wrap (x : Int) * (m : Int)) = ((x * m % 4294967296 : Nat) : Int) := by
    rw [wrap_nat, w_mul, Nat.mod_mul_mod]
  rw [show (16777216 : Int) = ((16777216 : Nat) : Int) from rfl, show (65536 : Int) = ((65536 : Nat) : Int) from rfl, show (256 : Int) = ((256 : Nat) : Int) from rfl]
  rw [h, h, h, wrap_nat, w_or, w_or, w_or]

/-- Words as cells. -/
def w32 (ws : List Nat) : List Value := ws.map fun x : Nat => Value.int .u32 (x : Int)
theorem w32_length (ws : List Nat) : (w32 ws).length = ws.length := by simp [w32]
theorem w32_get {ws : List Nat} {j : Nat} (h : j < ws.length) : (w32 ws)[j]? = some (.int .u32 ((ws.getD j 0 : Nat) : Int)) := by
  simp [w32, h]
theorem w32_one (ws : List Nat) : ∀ v ∈ w32 ws, v.oneCell' = true := by
  intro v hv
  simp only [w32, List.mem_map] at hv
  obtain ⟨x, _, rfl⟩ := hv
  rfl
/-- Words, laid into an array of 64. -/
def lay (ws : List Nat) : List Value := w32 (ws ++ List.replicate (64 - ws.length) 0)
theorem lay_length {ws : List Nat} (h : ws.length ≤ 64) : (lay ws).length = 64 := by simp [lay, w32]; omega
theorem lay_set {ws : List Nat} (x : Nat) (h : ws.length < 64) : (lay ws).set ws.length (.int .u32 (x : Int)) = lay (ws ++ [x]) := by
  unfold lay w32
  have e : (Value.int .u32 (x : Int)) = (fun y : Nat => Value.int .u32 (y : Int)) x := rfl
  rw [e, ← List.map_set]
  congr 1
  rw [List.set_append_right _ _ (Nat.le_refl _), Nat.sub_self, List.length_append, List.length_cons, List.length_nil]
  obtain ⟨m, hm⟩ : ∃ m, 64 - ws.length = m + 1 := ⟨63 - ws.length, by omega⟩
  rw [hm, List.replicate_succ, List.set_cons_zero, show 64 - (ws.length + (0 + 1)) = m by omega, List.append_assoc]
  rfl
theorem lay_get {ws : List Nat} {j : Nat} (h : j < ws.length) : (lay ws)[j]? = some (.int .u32 ((ws.getD j 0 : Nat) : Int)) := by
  unfold lay
  rw [w32_get (by simp; omega)]
  simp [List.getElem?_append_left h]
theorem lay_full {ws : List Nat} (h : ws.length = 64) : lay ws = w32 ws := by simp [lay, h]

set_option maxHeartbeats 1600000 in
theorem spread_any (g off : Nat) (w : World) (b : List Nat) (hc : ∀ j, j < 64 → w.cell? ⟨g, off + j, none⟩ = some (.int .u8 ((b.getD j 0 : Nat) : Int))) (hg : g < w.heap.size) :
    Calls Tryd.prog 18 #[.slice (some ⟨g, off, none⟩) 64 64] w fun e w' => e = .returned (.agg (w32 (Sh.spread b)).toArray) ∧ Below w.heap.size w w' := by
  go_enter Tryd.func18, Tryd.ntmps18
  go_wp2_with fail
  go_loopw [11] (fun i wr => ∃ (k : Nat), k ≤ 16 ∧ i = .int .i64 k ∧ Hid (wr.heap[w.heap.size + 1]? = some (.cells (lay (Sh.first b k)).toArray 48 (0, 0))) ∧ Hid (wr.heap[w.heap.size]? = some (.cells (lay []).toArray 48 (0, 0))) ∧ Below w.heap.size w wr) (fun i _ => 16 - (intOf i).toNat)
  case atStart =>
    obtain ⟨t1, t2, t3, t4⟩ := two w (.cells (lay []).toArray 48) (.cells (lay []).toArray 48)
    exact ⟨0, by omega, rfl, t3, t2, t1⟩
  case round =>
    obtain ⟨k, hk, rfl, hkxh, hk0h, hb2⟩ := hrel
    have hxs := lay_length (ws := Sh.first b k) (by rw [Sh.first_length]; omega)
    have hkx := hkxh.out
    obtain ⟨xs, hxse⟩ : ∃ xs, xs = lay (Sh.first b k) := ⟨_, rfl⟩
    rw [← hxse] at hkx hxs
    have HX := Lib.hid hxse
    clear hxse
    by_cases hlk : k < 16
    · have i0 : IntKind.i64.wrap (4 * (k : Int)) = 4 * (k : Int) := IntWalk.i64_in _ (by omega)
      have i1 : IntKind.i64.wrap (4 * (k : Int) + 4) = 4 * (k : Int) + 4 := IntWalk.i64_in _ (by omega)
      have c0 : wr.cell? ⟨g, off + 4 * k, none⟩ = some (.int .u8 ((b.getD (4 * k) 0 : Nat) : Int)) := (hb2.cell (p := ⟨g, off + 4 * k, none⟩) hg).trans (hc (4 * k) (by omega))
      have c1 : wr.cell? ⟨g, off + 4 * k + 1, none⟩ = some (.int .u8 ((b.getD (4 * k + 1) 0 : Nat) : Int)) := (hb2.cell (p := ⟨g, off + 4 * k + 1, none⟩) hg).trans (hc (4 * k + 1) (by omega))
      have c2 : wr.cell? ⟨g, off + 4 * k + 2, none⟩ = some (.int .u8 ((b.getD (4 * k + 2) 0 : Nat) : Int)) := (hb2.cell (p := ⟨g, off + 4 * k + 2, none⟩) hg).trans (hc (4 * k + 2) (by omega))
      have c3 : wr.cell? ⟨g, off + 4 * k + 3, none⟩ = some (.int .u8 ((b.getD (4 * k + 3) 0 : Nat) : Int)) := (hb2.cell (p := ⟨g, off + 4 * k + 3, none⟩) hg).trans (hc (4 * k + 3) (by omega))
      have j0 : (0 : Int) ≤ 4 * (k : Int) := by omega
      have j1 : 4 * (k : Int) ≤ 4 * (k : Int) + 4 := by omega
      have j2 : 4 * (k : Int) + 4 ≤ 64 := by omega
      have j3 : (4 * (k : Int)).toNat = 4 * k := by omega
      have j4 : (4 * (k : Int) + 4).toNat = 4 * k + 4 := by omega
      have hgl : g < wr.heap.size := Nat.lt_of_lt_of_le hg hb2.size
      have hlx := lt_of_block hkx
      have cx : ∃ u, wr.cell? ⟨w.heap.size + 1, k, none⟩ = some u := ⟨xs[k]'(by omega), by rw [cell_arr hkx]; simp [hxs]⟩
      obtain ⟨u, cx⟩ := cx
      have fx := free_arr hkx k
      generalize hx0 : b.getD (4 * k) 0 = x0 at c0
      generalize hx1 : b.getD (4 * k + 1) 0 = x1 at c1
      generalize hx2 : b.getD (4 * k + 2) 0 = x2 at c2
      generalize hx3 : b.getD (4 * k + 3) 0 = x3 at c3
      have j5 : (0 : Int) ≤ (k : Int) := by omega
      have j6 : (k : Int) < 64 := by omega
      clear hc
      have hne : ∀ i i' : Nat, (⟨g, i, none⟩ : Addr) ≠ ⟨w.heap.size + 1, i', none⟩ := fun i i' h => by have := congrArg Addr.block h; simp only at this; omega
      have hS : ∀ v, (((wr.setCell ⟨w.heap.size + 1, k, none⟩ v).drew).cell? ⟨g, off + 4 * k, none⟩ = some (.int .u8 x0) ∧ ((wr.setCell ⟨w.heap.size + 1, k, none⟩ v).drew).cell? ⟨g, off + 4 * k + 1, none⟩ = some (.int .u8 x1) ∧ ((wr.setCell ⟨w.heap.size + 1, k, none⟩ v).drew).cell? ⟨g, off + 4 * k + 2, none⟩ = some (.int .u8 x2) ∧ ((wr.setCell ⟨w.heap.size + 1, k, none⟩ v).drew).cell? ⟨g, off + 4 * k + 3, none⟩ = some (.int .u8 x3)) := fun v => by
        refine ⟨?_, ?_, ?_, ?_⟩
        · exact (World.cell?_setCell_other wr _ _ _ (fun h => hne _ _ h.symm)).trans c0
        · exact (World.cell?_setCell_other wr _ _ _ (fun h => hne _ _ h.symm)).trans c1
        · exact (World.cell?_setCell_other wr _ _ _ (fun h => hne _ _ h.symm)).trans c2
        · exact (World.cell?_setCell_other wr _ _ _ (fun h => hne _ _ h.symm)).trans c3
      have HSS := Lib.hid hS
      have HXS := Lib.hid (And.intro hx0.symm (And.intro hx1.symm (And.intro hx2.symm hx3.symm)))
      clear hS hx0 hx1 hx2 hx3
      go_upto_region 6 with fail
      go_region_held3 (fun w' => w'.cell? ⟨g, off + 4 * k, none⟩ = some (.int .u8 x0) ∧ w'.cell? ⟨g, off + 4 * k + 1, none⟩ = some (.int .u8 x1) ∧ w'.cell? ⟨g, off + 4 * k + 2, none⟩ = some (.int .u8 x2) ∧ w'.cell? ⟨g, off + 4 * k + 3, none⟩ = some (.int .u8 x3)) (first | exact HSS.out _ | go_keep) (fail)
      all_goals
        have hset := heap_set hkx k (.int .u32 (wdI x0 x1 x2 x3))
        have e : (xs.toArray.setIfInBounds k (.int .u32 (wdI x0 x1 x2 x3))) = (lay (Sh.first b (k + 1))).toArray := by
          rw [show Sh.first b (k + 1) = Sh.first b k ++ [Sh.wd (b.getD (4 * k) 0) (b.getD (4 * k + 1) 0) (b.getD (4 * k + 2) 0) (b.getD (4 * k + 3) 0)] from rfl, ← HXS.out.1, ← HXS.out.2.1, ← HXS.out.2.2.1, ← HXS.out.2.2.2, ← lay_set _ (by rw [Sh.first_length]; omega), Sh.first_length, HX.out, wdI_eq]
          simp
        rw [e] at hset
        have hk0' : (wr.setCell ⟨w.heap.size + 1, k, none⟩ (.int .u32 (wdI x0 x1 x2 x3))).heap[w.heap.size]? = _ := (Below.heap_setCell _ _ _ _ (by simp)).trans hk0h.out
        have hb3 : Below w.heap.size w (wr.setCell ⟨w.heap.size + 1, k, none⟩ (.int .u32 (wdI x0 x1 x2 x3))) := hb2.setCell (p := ⟨w.heap.size + 1, k, none⟩) (by show w.heap.size ≤ w.heap.size + 1; omega) _
        have HE := Lib.hid (And.intro hset (And.intro hk0' hb3))
        clear hset hk0' hb3 e
        go_wp2
        go_roundw
        case rel => exact ⟨k + 1, by omega, by go_num, HE.out.1, HE.out.2.1, HE.out.2.2.drew⟩
        case measure => simp [intOf]; omega
    · have hk16 : k = 16 := by omega
      subst hk16
      clear hkx hxs HX
      have hc2 := Lib.hid hc
      clear hc
      go_wp2_with fail
      obtain ⟨wo, hwo⟩ : ∃ wo : World, wo = wr := ⟨_, rfl⟩
      have HB2 := Lib.hid hb2
      clear hb2
      have hcast : ((16 : Nat) : Int) = (16 : Int) := rfl
      rw [hcast]
      clear hcast
      go_loopw [6] (fun i wr => ∃ (k n : Nat), Hid (k = 16 + n) ∧ 16 ≤ k ∧ k ≤ 64 ∧ i = .int .i64 k ∧ Hid (wr.heap[w.heap.size + 1]? = some (.cells (lay (Sh.more b n)).toArray 48 (0, 0))) ∧ Hid (wr.heap[w.heap.size]? = some (.cells (lay []).toArray 48 (0, 0))) ∧ Hid (Below w.heap.size w wr)) (fun i _ => 64 - (intOf i).toNat)
      case atStart => exact ⟨16, 0, rfl, by omega, by omega, rfl, hkxh, hk0h, HB2⟩
      case round =>
        obtain ⟨k, n, hkn, hk, hk2, rfl, hkxh, hk0h, hb3⟩ := hrel
        by_cases hlk2 : k < 64
        · have hml := Sh.more_length b n
          have hkn2 := hkn.out
          have i15 : IntKind.i64.wrap ((k : Int) - 15) = (k : Int) - 15 := IntWalk.i64_in _ (by omega)
          have i2 : IntKind.i64.wrap ((k : Int) - 2) = (k : Int) - 2 := IntWalk.i64_in _ (by omega)
          have c15 : wr.cell? ⟨w.heap.size + 1, k - 15, none⟩ = some (.int .u32 (((Sh.more b n).getD (k - 15) 0 : Nat) : Int)) := by
            rw [cell_arr hkxh.out, lay_get (by omega)]
          have c2 : wr.cell? ⟨w.heap.size + 1, k - 2, none⟩ = some (.int .u32 (((Sh.more b n).getD (k - 2) 0 : Nat) : Int)) := by
            rw [cell_arr hkxh.out, lay_get (by omega)]
          have n15 : ((k : Int) - 15).toNat = k - 15 := by omega
          have n2 : ((k : Int) - 2).toNat = k - 2 := by omega
          have g15 : (0 : Int) ≤ (k : Int) - 15 := by omega
          have g2 : (0 : Int) ≤ (k : Int) - 2 := by omega
          have l15 : (k : Int) - 15 < 64 := by omega
          have l2 : (k : Int) - 2 < 64 := by omega
          generalize hx : (Sh.more b n).getD (k - 15) 0 = x at c15
          generalize hy : (Sh.more b n).getD (k - 2) 0 = y at c2
          have HXY := Lib.hid (And.intro hx.symm hy.symm)
          clear hx hy hml hkn2
          go_upto_region 11 with fail
          go_quiet (fail)
          have hkx4 : (wr.drewN nq).heap[w.heap.size + 1]? = some (.cells (lay (Sh.more b n)).toArray 48 (0, 0)) := hkxh.out
          have hk04 : (wr.drewN nq).heap[w.heap.size]? = some (.cells (lay []).toArray 48 (0, 0)) := hk0h.out
          have hb4 : Below w.heap.size w (wr.drewN nq) := below_drewN hb3.out nq
          have c16 : (wr.drewN nq).cell? ⟨w.heap.size + 1, k - 16, none⟩ = some (.int .u32 (((Sh.more b n).getD (k - 16) 0 : Nat) : Int)) := by
            rw [cell_arr hkx4, lay_get (by have := hkn.out; rw [Sh.more_length]; omega)]
          have c7 : (wr.drewN nq).cell? ⟨w.heap.size + 1, k - 7, none⟩ = some (.int .u32 (((Sh.more b n).getD (k - 7) 0 : Nat) : Int)) := by
            rw [cell_arr hkx4, lay_get (by have := hkn.out; rw [Sh.more_length]; omega)]
          have hxs := lay_length (ws := Sh.more b n) (by have := hkn.out; rw [Sh.more_length]; omega)
          have ck : ∃ u, (wr.drewN nq).cell? ⟨w.heap.size + 1, k, none⟩ = some u := ⟨(lay (Sh.more b n))[k]'(by omega), by rw [cell_arr hkx4]; simp [hxs]⟩
          obtain ⟨u, ck⟩ := ck
          have fk := free_arr hkx4 k
          generalize wr.drewN nq = wq at hkx4 hk04 hb4 c16 c7 ck fk ⊢
          have HQ := Lib.hid (And.intro hkx4 (And.intro hk04 hb4))
          have hlx := lt_of_block hkx4
          clear hkx4 hk04 hb4 hxs c15 c2 n15 n2 g15 g2 l15 l2 i15 i2
          have hs0 : bits .xor .u32 (bits .xor .u32 ((Sh.rot x 7 : Nat) : Int) ((Sh.rot x 18 : Nat) : Int)) ((x : Int) / 8) = ((Sh.s0 x : Nat) : Int) := by
            rw [w_xor, div8, w_xor]; rfl
          have hs1 : bits .xor .u32 (bits .xor .u32 ((Sh.rot y 17 : Nat) : Int) ((Sh.rot y 19 : Nat) : Int)) ((y : Int) / 1024) = ((Sh.s1 y : Nat) : Int) := by
            rw [w_xor, div1024, w_xor]; rfl
          go_upto_region 14 with (first | ((with_reducible refine (rot7 _ _).mono ?_); rintro e w' ⟨rfl, rfl⟩) | ((with_reducible refine (rot18 _ _).mono ?_); rintro e w' ⟨rfl, rfl⟩) | ((with_reducible refine (rot17 _ _).mono ?_); rintro e w' ⟨rfl, rfl⟩) | ((with_reducible refine (rot19 _ _).mono ?_); rintro e w' ⟨rfl, rfl⟩))
          clear hs0 hs1
          obtain ⟨p, hp⟩ : ∃ p, p = Sh.s0 x := ⟨_, rfl⟩
          obtain ⟨q, hq⟩ : ∃ q, q = Sh.s1 y := ⟨_, rfl⟩
          rw [← hp, ← hq]
          have HPQ := Lib.hid (And.intro hp hq)
          clear hp hq
          generalize hA : (Sh.more b n).getD (k - 16) 0 = A at c16
          generalize hC : (Sh.more b n).getD (k - 7) 0 = C at c7
          have HAC := Lib.hid (And.intro hA.symm hC.symm)
          clear hA hC
          have i16 : IntKind.i64.wrap ((k : Int) - 16) = (k : Int) - 16 := IntWalk.i64_in _ (by omega)
          have i7 : IntKind.i64.wrap ((k : Int) - 7) = (k : Int) - 7 := IntWalk.i64_in _ (by omega)
          have n16 : ((k : Int) - 16).toNat = k - 16 := by omega
          have n7 : ((k : Int) - 7).toNat = k - 7 := by omega
          have g16 : (0 : Int) ≤ (k : Int) - 16 := by omega
          have g7 : (0 : Int) ≤ (k : Int) - 7 := by omega
          have l16 : (k : Int) - 16 < 64 := by omega
          have l7 : (k : Int) - 7 < 64 := by omega
          have lk : (k : Int) < 64 := by omega
          have gk : (0 : Int) ≤ (k : Int) := by omega
          have hadd := w_add
          have h16 : (16 : Int) ≤ (k : Int) := by omega
          have h7 : (7 : Int) ≤ (k : Int) := by omega
          have hne16 : (⟨w.heap.size + 1, k, none⟩ : Addr) ≠ ⟨w.heap.size + 1, k - 16, none⟩ := fun h => by have := congrArg Addr.off h; simp only at this; omega
          have hne7 : (⟨w.heap.size + 1, k, none⟩ : Addr) ≠ ⟨w.heap.size + 1, k - 7, none⟩ := fun h => by have := congrArg Addr.off h; simp only at this; omega
          have hS : ∀ v, ((wq.setCell ⟨w.heap.size + 1, k, none⟩ v).drew).cell? ⟨w.heap.size + 1, k - 16, none⟩ = some (.int .u32 A) ∧ ((wq.setCell ⟨w.heap.size + 1, k, none⟩ v).drew).cell? ⟨w.heap.size + 1, k - 7, none⟩ = some (.int .u32 C) := fun v =>
            ⟨(World.cell?_setCell_other wq _ _ _ hne16).trans c16, (World.cell?_setCell_other wq _ _ _ hne7).trans c7⟩
          have HSS := Lib.hid hS
          have HN := Lib.hid (And.intro hne16 hne7)
          clear hS hne16 hne7
          go_region_held3 (fun w' => w'.cell? ⟨w.heap.size + 1, k - 16, none⟩ = some (.int .u32 A) ∧ w'.cell? ⟨w.heap.size + 1, k - 7, none⟩ = some (.int .u32 C)) (first | exact HSS.out _ | go_keep) (fail)
          all_goals
            have hset := heap_set HQ.out.1 k (.int .u32 ((Sh.ad (Sh.ad (Sh.ad A p) C) q : Nat) : Int))
            have e : ((lay (Sh.more b n)).toArray.setIfInBounds k (.int .u32 ((Sh.ad (Sh.ad (Sh.ad A p) C) q : Nat) : Int))) = (lay (Sh.more b (n + 1))).toArray := by
              have hml := Sh.more_length b n
              have hkn2 := hkn.out
              have e1 : Sh.more b (n + 1) = Sh.more b n ++ [Sh.nextw (Sh.more b n) (16 + n)] := rfl
              have e2 : Sh.nextw (Sh.more b n) (16 + n) = Sh.ad (Sh.ad (Sh.ad A p) C) q := by
                unfold Sh.nextw
                rw [HAC.out.1, HAC.out.2, HPQ.out.1, HPQ.out.2, HXY.out.1, HXY.out.2, hkn2]
              rw [e1, ← lay_set _ (by omega), hml, e2, hkn2]
              simp
            rw [e] at hset
            have hk0' := (Below.heap_setCell wq ⟨w.heap.size + 1, k, none⟩ (.int .u32 ((Sh.ad (Sh.ad (Sh.ad A p) C) q : Nat) : Int)) w.heap.size (by simp)).trans HQ.out.2.1
            have hb5 : Below w.heap.size w (wq.setCell ⟨w.heap.size + 1, k, none⟩ (.int .u32 ((Sh.ad (Sh.ad (Sh.ad A p) C) q : Nat) : Int))) := HQ.out.2.2.setCell (p := ⟨w.heap.size + 1, k, none⟩) (by show w.heap.size ≤ w.heap.size + 1; omega) _
            have HE := Lib.hid (And.intro hset (And.intro hk0' hb5))
            clear hset hk0' hb5 e hadd
            go_wp2
            go_roundw
            case rel => exact ⟨k + 1, n + 1, by have := hkn.out; show k + 1 = 16 + (n + 1); omega, by omega, by omega, by go_num, HE.out.1, HE.out.2.1, HE.out.2.2.drew⟩
            case measure => simp [intOf]; omega
        · have hk64 : k = 64 := by omega
          subst hk64
          have hn : n = 48 := by have := hkn.out; omega
          subst hn
          have hcast : ((64 : Nat) : Int) = (64 : Int) := rfl
          rw [hcast]
          clear hcast
          have hl := lay_length (ws := Sh.more b 48) (by rw [Sh.more_length]; omega)
          have hl0 : (lay []).length = 64 := lay_length (by simp)
          have hI : (Tryd.prog.info? 48).map (·.size) = some (lay (Sh.more b 48)).toArray.size := by
            rw [List.size_toArray, hl]; kernel_rfl
          have HR := Lib.hid (And.intro hkxh.out (And.intro hk0h.out (And.intro hb3.out hI)))
          have HL : (lay []).toArray.size = (lay (Sh.more b 48)).toArray.size := by rw [List.size_toArray, List.size_toArray, hl, hl0]
          have HO := all_oneCell_toArray (w32_one (Sh.more b 48 ++ List.replicate (64 - (Sh.more b 48).length) 0))
          have HLO := Lib.hid (And.intro HL HO)
          clear hl hl0 hI HL HO hkxh hk0h hb3
          go_wp2_with (first | (refine wpList_load_row rfl 48 (.tmp 3) rfl (w.heap.size + 1) rfl 48 (lay (Sh.more b 48)).toArray (0, 0) (.array 64 40) HR.out.1 Tryd.underlying48 rfl HR.out.2.2.2 ?_) | (refine wpList_store_row rfl 48 (.tmp 2) (.tmp 92) rfl w.heap.size (lay (Sh.more b 48)).toArray rfl rfl 48 (lay []).toArray HR.out.2.1 HR.out.2.2.2 HLO.out.1 HLO.out.2 ?_))
          have hw2 := setRow_heap wr w.heap.size (lay []).toArray (lay (Sh.more b 48)).toArray 48 (0, 0) HR.out.2.1
          refine bodyPost_ret (results_cell_row Tryd.results18 _ _ w.heap.size 48 (lay (Sh.more b 48)).toArray (0, 0) (.array 64 40) rfl hw2 Tryd.underlying48 rfl HR.out.2.2.2) rfl ⟨?_, below_setRow HR.out.2.2.1 (Nat.le_refl _) _⟩
          rw [lay_full (by rw [Sh.more_length])]
          rfl
end Go.Proofs.YtmgpgjookiknkaaDoor
