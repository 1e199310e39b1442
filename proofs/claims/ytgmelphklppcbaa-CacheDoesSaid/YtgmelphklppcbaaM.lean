/- Caches as plain data: what each act keeps. -/
import Derived.Test.YtgmelphklppcbaaL
namespace Go.Proofs.Ytgmelphklppcbaa

theorem pl_mem {T : Ts} {k : ByteArray} : pl T k < T.length ↔ k ∈ keysOf T := by
  constructor
  · intro h
    rw [← pl_lt h]
    exact List.mem_map.2 ⟨_, List.getElem_mem h, rfl⟩
  · intro h
    obtain ⟨x, hx, rfl⟩ := List.mem_map.1 h
    exact List.findIdx_lt_length_of_exists ⟨x, hx, by simp⟩

theorem split_at {T : Ts} {i : Nat} (h : i < T.length) : T = T.take i ++ T[i] :: T.drop (i + 1) := by
  rw [← List.drop_eq_getElem_cons h, List.take_append_drop]

theorem keys_split {T : Ts} {i : Nat} (h : i < T.length) : keysOf T = keysOf (T.take i) ++ T[i].1 :: keysOf (T.drop (i + 1)) := by
  have := congrArg keysOf (split_at h)
  unfold keysOf at this ⊢
  rw [List.map_append, List.map_cons] at this
  exact this

theorem keys_front {T : Ts} {i : Nat} (h : i < T.length) (v : ByteArray) : keysOf (frontL T i v) = T[i].1 :: (keysOf (T.take i) ++ keysOf (T.drop (i + 1))) := by
  rw [frontL_eq h]
  simp [keysOf]

theorem perm_front {T : Ts} {i : Nat} (h : i < T.length) (v : ByteArray) : (keysOf (frontL T i v)).Perm (keysOf T) := by
  rw [keys_front h, keys_split h]
  exact List.perm_middle.symm

/-- A cache behind k acts. -/
structure Ok (s : Ca) (k : Nat) : Prop where
  nodup : (keysOf s.T).Nodup
  few : s.C.length ≤ k
  calls : s.n ≤ k
  none : s.size = 0 → s.C = []
  room : s.T.length ≤ s.size

theorem Ok.new (size : Int) : Ok (newCa size) 0 := ⟨List.nodup_nil, Nat.le_refl _, Nat.le_refl _, fun _ => rfl, Nat.zero_le _⟩

theorem bumpC_length (s : Ca) (k : ByteArray) : (bumpC s k).length ≤ s.C.length + 1 := by
  have h := length_count1_le s.C k
  unfold bumpC
  split
  · exact Nat.le_trans (halve_length_le _) h
  · exact h
theorem bumpN_le (s : Ca) : bumpN s ≤ s.n + 1 := by unfold bumpN; split <;> omega

theorem getC_zero {s : Ca} {k : ByteArray} (h : s.size = 0) : getC s k = s := by unfold getC; rw [if_pos h]

theorem Ok.get {s : Ca} {k : Nat} (h : Ok s k) (key : ByteArray) : Ok (getC s key) (k + 1) := by
  by_cases hz : s.size = 0
  · rw [getC_zero hz]
    exact ⟨h.nodup, Nat.le_succ_of_le h.few, Nat.le_succ_of_le h.calls, h.none, h.room⟩
  · have h1 := bumpC_length s key
    have h2 := bumpN_le s
    have h3 := h.few
    have h4 := h.calls
    by_cases hp : pl s.T key < s.T.length
    · rw [(get_yes hz hp).1]
      exact ⟨(perm_front hp _).nodup_iff.2 h.nodup, by simp only; omega, by simp only; omega, fun e => absurd e hz, by simp only [frontL_length hp]; exact h.room⟩
    · rw [(get_no hz hp).1]
      exact ⟨h.nodup, by simp only; omega, by simp only; omega, fun e => absurd e hz, h.room⟩

theorem keys_take_nodup {T : Ts} (h : (keysOf T).Nodup) (i : Nat) : (keysOf (T.take i)).Nodup := by
  unfold keysOf at h ⊢
  rw [List.map_take]
  exact (List.take_sublist _ _).nodup h

def offerC (s : Ca) (k v : ByteArray) : Ca := { s with T := offerT s k v }

theorem Ok.offer {s : Ca} {k : Nat} (h : Ok s k) (key val : ByteArray) : Ok (offerC s key val) (k + 1) := by
  suffices hs : (keysOf (offerT s key val)).Nodup ∧ (offerT s key val).length ≤ s.size from
    ⟨hs.1, Nat.le_succ_of_le h.few, Nat.le_succ_of_le h.calls, h.none, hs.2⟩
  by_cases hz : s.size = 0
  · rw [(offer_zero hz).1]; exact ⟨h.nodup, h.room⟩
  by_cases hp : pl s.T key < s.T.length
  · rw [(offer_there hz hp).1]
    exact ⟨(perm_front hp _).nodup_iff.2 h.nodup, by rw [frontL_length hp]; exact h.room⟩
  have hn : key ∉ keysOf s.T := fun e => hp (pl_mem.2 e)
  by_cases hr : s.T.length < s.size
  · rw [(offer_room hz hp hr).1]
    exact ⟨List.nodup_cons.2 ⟨hn, h.nodup⟩, by simp only [List.length_cons]; omega⟩
  by_cases hg : lastN s < often s.C key
  · rw [(offer_in hz hp hr hg).1]
    refine ⟨List.nodup_cons.2 ⟨fun e => hn ?_, keys_take_nodup h.nodup _⟩, ?_⟩
    · have e : key ∈ keysOf (s.T.take (s.T.length - 1)) := e
      unfold keysOf at e ⊢
      rw [List.map_take] at e
      exact List.mem_of_mem_take e
    · have := h.room
      simp only [List.length_cons, List.length_take]; omega
  · rw [(offer_out hz hp hr hg).1]; exact ⟨h.nodup, h.room⟩

/-- Without a key. -/
def others (L : List ByteArray) (k : ByteArray) : List ByteArray := L.filter (fun x => !decide (x = k))

theorem others_self {L : List ByteArray} {k : ByteArray} (h : k ∉ L) : others L k = L := by
  refine List.filter_eq_self.2 fun x hx => ?_
  have : x ≠ k := fun e => h (by rw [← e]; exact hx)
  simp [this]

theorem keys_forget {s : Ca} {k : ByteArray} (h : (keysOf s.T).Nodup) : keysOf (forgetC s k).T = others (keysOf s.T) k := by
  by_cases hp : pl s.T k < s.T.length
  · rw [(forget_yes hp).1]
    have e := keys_split hp
    rw [pl_lt hp] at e
    rw [e] at h ⊢
    have h' := (List.perm_middle.nodup_iff).1 h
    have hk := (List.nodup_cons.1 h').1
    simp only [List.mem_append, not_or] at hk
    have e1 := others_self hk.1
    have e2 := others_self hk.2
    unfold others at e1 e2 ⊢
    rw [List.filter_append, List.filter_cons_of_neg (by simp), e1, e2]
    simp [keysOf]
  · rw [(forget_no hp).1]
    exact (others_self (fun q => hp (pl_mem.2 q))).symm

theorem Ok.forget {s : Ca} {k : Nat} (h : Ok s k) (key : ByteArray) : Ok (forgetC s key) (k + 1) := by
  have hk := keys_forget (k := key) h.nodup
  have hn : (keysOf (forgetC s key).T).Nodup := by rw [hk]; exact (List.filter_sublist).nodup h.nodup
  have hl : (forgetC s key).T.length ≤ s.T.length := by
    rw [← keysOf_length, hk, ← keysOf_length s.T]; exact List.length_filter_le _ _
  have e : (forgetC s key).size = s.size ∧ (forgetC s key).C = s.C ∧ (forgetC s key).n = s.n := by unfold forgetC; split <;> exact ⟨rfl, rfl, rfl⟩
  exact ⟨hn, by rw [e.2.1]; exact Nat.le_succ_of_le h.few, by rw [e.2.2]; exact Nat.le_succ_of_le h.calls, by rw [e.1, e.2.1]; exact h.none, by rw [e.1]; exact Nat.le_trans hl h.room⟩

/-- An act. -/
structure CAct where
  k : Int
  key : ByteArray
  val : ByteArray

/-- An act where all but Get is an Offer. -/
def act2 (s : Ca) (a : CAct) : Ca := if a.k = 0 then getC s a.key else offerC s a.key a.val
/-- An act. -/
def act3 (s : Ca) (a : CAct) : Ca := if a.k = 0 then getC s a.key else if a.k = 1 then offerC s a.key a.val else forgetC s a.key

theorem Ok.act2 {s : Ca} {k : Nat} (h : Ok s k) (a : CAct) : Ok (act2 s a) (k + 1) := by
  unfold Ytgmelphklppcbaa.act2
  split
  · exact h.get _
  · exact h.offer _ _
theorem Ok.act3 {s : Ca} {k : Nat} (h : Ok s k) (a : CAct) : Ok (act3 s a) (k + 1) := by
  unfold Ytgmelphklppcbaa.act3
  split
  · exact h.get _
  · split
    · exact h.offer _ _
    · exact h.forget _

theorem size_getC (s : Ca) (k : ByteArray) : (getC s k).size = s.size := by unfold getC; split <;> rfl
theorem size_forgetC (s : Ca) (k : ByteArray) : (forgetC s k).size = s.size := by unfold forgetC; split <;> rfl
theorem size_act2 (s : Ca) (a : CAct) : (act2 s a).size = s.size := by
  unfold act2; split
  · exact size_getC _ _
  · rfl
theorem size_act3 (s : Ca) (a : CAct) : (act3 s a).size = s.size := by
  unfold act3; split
  · exact size_getC _ _
  · split
    · rfl
    · exact size_forgetC _ _

end Go.Proofs.Ytgmelphklppcbaa
