/- A store at a key that is there, into the map that is ranged over. -/
import Derived.Maps.RangeWalk
import Derived.Maps.OwnSet
namespace Go.Proofs.Ytgmelphklppcbaa
open Go.ChangeMaps Go.MapKept Go.WideShapes
open Go.WideElems (Fit rd rg pl rd_key rd_val rg_of other_key)
open Go.Maps (Keyed)

section
variable {H : Type} {P : Program} {k : TypeId} {R : Value → Option (DataW H × List MemPlace)} {w : World} {b r n : Nat} {D : DataW H} {left : Lit → Bool} {cnt : Nat}

theorem setBlock_inj {w : World} {b : Nat} {es es' : Array MapEntry} {c c' : Nat} {es0 : Array MapEntry} {c0 : Nat} (hb : w.heap[b]? = some (.map es0 c0)) (h : setBlock w b (.map es c) = setBlock w b (.map es' c')) : es = es' ∧ c = c' := by
  have e1 := heap_setBlock_same hb (.map es c)
  rw [h, heap_setBlock_same hb] at e1
  simp only [Option.some.injEq, Obj.map.injEq] at e1
  exact ⟨e1.1.symm, e1.2.symm⟩

theorem store_there {t e : TypeId} {es : Array MapEntry} {clock : Nat} (K : Keyed P k) (ht : P.underlying t = some (.map k e)) (hb : w.heap[b]? = some (.map es clock)) (F : Fit P k R es clock) (hroom : es.size < maxLen)
    {key val : Value} {kl : Lit} {d : DataW H} {ps : List MemPlace} (hkey : keyOf P k key = some kl) (hv : R val = some (d, ps)) (hin : ∃ x ∈ es.toList, x.key = key) :
    ∃ es', (Instr.mapUpdate t (.map (some b)) key val).run P w = .ok () (setBlock w b (.map es' clock)) ∧ Fit P k R es' clock ∧
      (es'.toList.map (rg P k R)).foldr DataW.insert [] = putKey kl d ((es.toList.map (rg P k R)).foldr DataW.insert []) ∧ es'.toList.map (fun x => (x.key, x.born)) = es.toList.map (fun x => (x.key, x.born)) := by
  obtain ⟨es', clock', hrun, F', hput, _⟩ := Maps.fit_store (R' := R) K ht hb F hroom (fun _ _ _ _ hz => hz) hkey hv
  rcases K.find w hkey es.toList F.keys with ⟨h1, h2⟩ | ⟨j, e0, h1, h2, h3⟩
  · obtain ⟨x, hx, hxk⟩ := hin
    exact absurd hxk (h2 x hx)
  · have hj : es[j]? = some e0 := by simpa using h2
    have hrun2 : (Instr.mapUpdate t (.map (some b)) key val).run P w = .ok () (setBlock w b (.map (es.modify j (fun e' => { e' with key := key, val := val })) clock)) := by
      simp [Instr.mapUpdate, run_underlying ht, MapKept.run_getObj_map hb, K.check w false hkey, h1, hj, h3, K.stays w hkey, MapKept.run_setObj_map _ hb, Result.andThen, setBlock]
    rw [hrun] at hrun2
    simp only [Result.ok.injEq, true_and] at hrun2
    obtain ⟨he, hc⟩ := setBlock_inj hb hrun2
    subst hc
    refine ⟨es', hrun, F', hput, ?_⟩
    rw [he]
    apply List.ext_getElem?
    intro i
    simp only [List.getElem?_map, Array.toList_modify, List.getElem?_modify]
    by_cases hij : j = i
    · subst hij
      rw [h2]
      simp [h3]
    · cases hq : es.toList[i]? <;> simp [hij]

theorem filter_born {α : Type} (p : Nat → Bool) {l l' : List MapEntry} (h : l'.map (fun x => (x.key, x.born)) = l.map (fun x => (x.key, x.born))) : (l'.filter fun x => p x.born).length = (l.filter fun x => p x.born).length := by
  have e : ∀ m : List MapEntry, (m.filter fun x => p x.born).length = ((m.map (fun x => (x.key, x.born))).filter fun q => p q.2).length := fun m => by
    rw [List.filter_map, List.length_map]; rfl
  rw [e, e, h]

theorem mem_pairs {l l' : List MapEntry} (h : l'.map (fun x => (x.key, x.born)) = l.map (fun x => (x.key, x.born))) {x : MapEntry} (hx : x ∈ l') : ∃ y ∈ l, y.key = x.key ∧ y.born = x.born := by
  have : (x.key, x.born) ∈ l'.map (fun x => (x.key, x.born)) := List.mem_map.2 ⟨x, hx, rfl⟩
  rw [h] at this
  obtain ⟨y, hy, e⟩ := List.mem_map.1 this
  simp only [Prod.mk.injEq] at e
  exact ⟨y, hy, e.1, e.2⟩

theorem ranges_store {t e : TypeId} (h : w.ranges P k R b r n D left cnt) (K : Keyed P k) (ht : P.underlying t = some (.map k e)) (hn : n < maxLen) {key val : Value} {kl : Lit} {d : DataW H} {ps : List MemPlace}
    (hkey : keyOf P k key = some kl) (hv : R val = some (d, ps)) (hhas : Maps.has D kl = true) :
    ∃ w', (Instr.mapUpdate t (.map (some b)) key val).run P w = .ok () w' ∧ w'.ranges P k R b r n (D.put kl d) left cnt ∧ w.mapTurned w' b := by
  have hne := h.ne
  obtain ⟨es, clock, since, seen, c0, hb, F, hs, rfl, hr, hold, rfl, hl1, hl2, hsc, hsk⟩ := h
  have hin : ∃ x ∈ es.toList, x.key = key := by
    obtain ⟨p, hp, hpk⟩ := List.any_eq_true.1 hhas
    obtain ⟨x, hx, rfl⟩ := List.mem_map.1 (mem_sorted.1 hp)
    obtain ⟨y, hy⟩ := F.reads x hx
    have e1 := WideAt.sameKey_eq hpk
    rw [rg_of hy] at e1
    exact ⟨x, hx, K.inj (e1 ▸ rd_key hy) hkey⟩
  obtain ⟨es', hrun, F', hput, hkb⟩ := store_there K ht hb F (Nat.lt_of_le_of_lt hs hn) hkey hv hin
  have hkk : ∀ x' ∈ es'.toList, ∃ x ∈ es.toList, (rg P k R x).1 = (rg P k R x').1 ∧ x.born = x'.born := fun x' hx' => by
    obtain ⟨x, hx, e1, e2⟩ := mem_pairs hkb hx'
    obtain ⟨y, hy⟩ := F.reads x hx
    obtain ⟨y', hy'⟩ := F'.reads x' hx'
    refine ⟨x, hx, ?_, e2⟩
    have m := rd_key hy
    have m' := rd_key hy'
    rw [e1] at m
    rw [rg_of hy, rg_of hy']
    exact Option.some.inj (m.symm.trans m')
  have hkk2 : ∀ x ∈ es.toList, ∃ x' ∈ es'.toList, (rg P k R x').1 = (rg P k R x).1 := fun x hx => by
    obtain ⟨x', hx', e1, e2⟩ := mem_pairs hkb.symm hx
    obtain ⟨y, hy⟩ := F.reads x hx
    obtain ⟨y', hy'⟩ := F'.reads x' hx'
    refine ⟨x', hx', ?_⟩
    have m := rd_key hy
    have m' := rd_key hy'
    rw [e1] at m'
    rw [rg_of hy, rg_of hy']
    exact Option.some.inj (m'.symm.trans m)
  have hlen : es'.size = es.size := by
    have := congrArg List.length hkb
    simpa using this
  refine ⟨_, hrun, ⟨es', clock, since, seen, c0, heap_setBlock_same hb _, F', by omega, by rw [DataW.put_eq, hput], (heap_setBlock_other hb _ hne).trans hr, fun x' hx' => ?_, ?_, fun x' hx' => ?_, fun x0 hx0 => ?_, hsc, hsk⟩, ⟨es, clock, es', clock, hb, rfl⟩⟩
  · obtain ⟨x, hx, _, e2⟩ := hkk x' hx'
    rw [← e2]; exact hold x hx
  · have e1 : ∀ a : Array MapEntry, (leftOf a seen).size = (a.toList.filter fun e => !seen.contains e.born).length := fun a => by
      unfold leftOf
      rw [← Array.toList_filter, Array.length_toList]
    rw [e1, e1]
    exact filter_born (α := Nat) (fun q => !seen.contains q) hkb
  · obtain ⟨x, hx, e1, e2⟩ := hkk x' hx'
    rw [← e1, ← e2]; exact hl1 x hx
  · obtain ⟨x, hx, rfl⟩ := hl2 x0 hx0
    exact hkk2 x hx

theorem wpList_mapUpdate_ranges (w : World) {ops : Array Oper} {rest : List Oper} {o : Oper} {a : Act} {Q : Exit → Act → World → Prop} (hg : o.guard = none) (m x v : Operand) (t : TypeId) (hop : o.op = Op.mapUpdate t m x v)
    (k e : TypeId) (K : Keyed P k) (ht : P.underlying t = some (.map k e)) (R : Value → Option (DataW H × List MemPlace)) (b r n : Nat) (D : DataW H) (left : Lit → Bool) (cnt : Nat)
    (hm : a.eval m = .map (some b)) (h : w.ranges P k R b r n D left cnt) (hn : n < maxLen) (key val : Value) (kl : Lit) (hx : a.eval x = key) (hv : a.eval v = val) (hkey : keyOf P k key = some kl)
    (d : DataW H) (ps : List MemPlace) (hval : R val = some (d, ps)) (hhas : Maps.has D kl = true)
    (hK : ∀ w', w'.ranges P k R b r n (D.put kl d) left cnt → w.mapTurned w' b → wpList P ops Q rest (a.put o.dst undef) w') :
    wpList P ops Q (o :: rest) a w := by
  refine wpList_plain hg fun K' hK' => ?_
  obtain ⟨w', hrun, r1, r2⟩ := ranges_store h K ht hn hkey hval hhas
  unfold Oper.wp
  simp [execOp, hop, hm, hx, hv, hrun, Result.andThen]
  exact hK' _ _ (hK w' r1 r2)

/-- THE STEP, KEYS TEXTS, ELEMENTS OF AN INTEGER KIND. -/
theorem wpList_next_ranges_si (w : World) {ops : Array Oper} {rest : List Oper} {o : Oper} {a : Act} {Q : Exit → Act → World → Prop} (hg : o.guard = none) (it : Operand) (hop : o.op = Op.next it false) (k e : TypeId) (qe : IntKind) (K : Keyed P k) (hk : P.underlying k = some .string) (he : P.underlying e = some (.int qe))
    (b r n : Nat) (D : DataW H) (left : Lit → Bool) (cnt : Nat) (hit : a.eval it = .pointer (some ⟨r, 0, none⟩)) (h : w.ranges P k (plainElem P e) b r n D left cnt)
    (hDone : cnt = 0 → (∀ kl, left kl = false) → wpList P ops Q rest (a.put o.dst (.tuple #[.bool false])) w)
    (hMore : ∀ (x : ByteArray) (c : Int) (w' : World) (cnt' : Nat), x.size ≤ maxLen → (Lit.int qe c).wf = true → left (.string x.data.toList) = true → (∀ zd, D.atKey (.string x.data.toList) zd = .lit (.int qe c)) →
      w'.ranges P k (plainElem P e) b r n D (fun z => left z && !z.sameKey (.string x.data.toList)) cnt' → cnt' < cnt →
      w.grownBy w' (some r) → w'.heap.size = w.heap.size → (Instr.entry (.pointer (some ⟨r, 0, none⟩))).run P w' = .ok (.tuple #[.string x, .int qe c]) w' → wpList P ops Q rest (a.put o.dst (.tuple #[.bool true, .string x, .int qe c])) w') :
    wpList P ops Q (o :: rest) a w := by
  have inv : ∀ key kl, keyOf P k key = some kl → ∃ x : ByteArray, key = .string x ∧ kl = .string x.data.toList ∧ x.size ≤ maxLen := fun key kl hkey => by
    cases key <;> simp [keyOf, hk, mapKey] at hkey
    rename_i s
    exact ⟨s, rfl, hkey.2.symm, hkey.1⟩
  exact wpList_next_ranges w hg it hop k K (plainElem P e) Value.string (Value.int qe) (fun key kl hkey => by obtain ⟨x, rfl, _⟩ := inv key kl hkey; exact ⟨x, rfl⟩) (fun v y hv => by obtain ⟨c, rfl, _⟩ := plainElem_int_inv he hv; exact ⟨c, rfl⟩)
    b r n D left cnt hit h hDone (fun x c kl y w' cnt' hkey hlk hv hat hrg hlt hgr hsz hen => by
      obtain ⟨x', ex, rfl, hwx⟩ := inv _ _ hkey
      cases ex
      obtain ⟨c', ec, rfl, hwc⟩ := plainElem_int_inv he hv
      cases ec
      exact hMore x c w' cnt' hwx hwc hlk hat hrg hlt hgr hsz hen)
end
end Go.Proofs.Ytgmelphklppcbaa
