/- The plain part of the law HoldTrue: turning the list of pairs round; the last act of a key. -/
import Derived.Test.YtlnhdfdalfoocaaHRoom1
import Derived.Test.YtlnhdfdalfoocaaOwn
namespace Go.Proofs.Ytlnhdfdalfoocaa
open Go.RowKit

/-- behind j Gets of the keys, in their order -/
def rot (m : List Pr) (j : Nat) : List Pr := m.drop j ++ m.take j
theorem keysP_len (m : List Pr) : (keysP m).length = m.length := by unfold keysP; rw [List.length_map]
theorem row_as {w : World} {v v' : Value} {n n' c : Nat} {xs : List Value} (h : Row w 9 1 v n c xs) (hv : v = v') (hn : n = n') : Row w 9 1 v' n' c xs := by subst hv; subst hn; exact h
theorem rot_zero (m : List Pr) : rot m 0 = m := by simp [rot]
theorem rot_all (m : List Pr) : rot m m.length = m := by simp [rot]
theorem rot_length (m : List Pr) (j : Nat) : (rot m j).length = m.length := by simp [rot]; omega
theorem rot_mem (m : List Pr) (j : Nat) (h : j < m.length) : (m[j].1, m[j].2) ∈ rot m j := by
  unfold rot
  rw [List.drop_eq_getElem_cons h]
  exact List.mem_append_left _ List.mem_cons_self
theorem othP_none (m : List Pr) (key : ByteArray) (h : key ∉ keysP m) : othP m key = m := by
  unfold othP
  rw [List.filter_eq_self]
  intro p hp
  have : p.1 ≠ key := fun e => h (by rw [← e]; exact List.mem_map_of_mem (f := (·.1)) hp)
  simpa using this
theorem rot_step (m : List Pr) (j : Nat) (h : j < m.length) (hn : (keysP m).Nodup) : othP (rot m j) m[j].1 ++ [(m[j].1, m[j].2)] = rot m (j + 1) := by
  have hnd : (keysP (m.take j ++ m[j] :: m.drop (j + 1))).Nodup := by
    rw [← List.drop_eq_getElem_cons h, List.take_append_drop]; exact hn
  unfold keysP at hnd
  rw [List.map_append, List.map_cons, List.nodup_append] at hnd
  obtain ⟨_, h2, h3⟩ := hnd
  rw [List.nodup_cons] at h2
  unfold rot
  rw [List.drop_eq_getElem_cons h]
  have e1 : othP (m[j] :: m.drop (j + 1) ++ m.take j) m[j].1 = m.drop (j + 1) ++ m.take j := by
    have : othP (m[j] :: (m.drop (j + 1) ++ m.take j)) m[j].1 = othP (m.drop (j + 1) ++ m.take j) m[j].1 := by
      unfold othP; rw [List.filter_cons_of_neg (by simp)]
    rw [List.cons_append, this]
    refine othP_none _ _ (fun hm => ?_)
    unfold keysP at hm
    rw [List.map_append] at hm
    rcases List.mem_append.1 hm with hm | hm
    · exact h2.1 hm
    · exact h3 _ hm _ (by simp) rfl
  rw [e1, List.append_assoc, List.take_succ_eq_append_getElem h]
theorem totP_take (m : List Pr) (j : Nat) (h : j < m.length) : totP (m.take (j + 1)) = totP (m.take j) + m[j].2.length := by
  rw [List.take_succ_eq_append_getElem h, totP_append]
  simp [totP]
theorem totP_take_le (m : List Pr) (j : Nat) : totP (m.take j) ≤ totP m := by
  have e : totP m = totP (m.take j) + totP (m.drop j) := by rw [← totP_append, List.take_append_drop]
  omega
theorem keysP_get (m : List Pr) (j : Nat) (h : j < (keysP m).length) : (keysP m)[j] = (m[j]'(by unfold keysP at h; simpa using h)).1 := by simp [keysP]

/-- the last of the first t acts that has a key; below 0: none has -/
def lastOf (l : List Act) (key : ByteArray) : Nat → Int
  | 0 => -1
  | t + 1 => if (l[t]?.map Act.key) = some key then (t : Int) else lastOf l key t
theorem lastOf_lt (l : List Act) (key : ByteArray) (t : Nat) : -1 ≤ lastOf l key t ∧ lastOf l key t < t := by
  induction t with
  | zero => exact ⟨Int.le_refl _, by show (-1 : Int) < 0; decide⟩
  | succ t ih => unfold lastOf; split <;> omega
theorem lastOf_hit (l : List Act) (key : ByteArray) (t : Nat) (h : t < l.length) (hk : l[t].key = key) : lastOf l key (t + 1) = t := by
  unfold lastOf; rw [if_pos (by rw [List.getElem?_eq_getElem h]; simp [hk])]
theorem lastOf_miss (l : List Act) (key : ByteArray) (t : Nat) (h : t < l.length) (hk : l[t].key ≠ key) : lastOf l key (t + 1) = lastOf l key t := by
  conv => lhs; unfold lastOf
  rw [if_neg (by rw [List.getElem?_eq_getElem h]; simpa using hk)]
/-- each pair is of its key's last act -/
def Inv (l : List Act) (m : List Pr) (k : Nat) : Prop := ∀ p ∈ m, ∃ (t : Nat) (h : t < l.length), t < k ∧ lastOf l p.1 k = t ∧ l[t].data = p.2
theorem Inv.nil (l : List Act) : Inv l [] 0 := fun p hp => by cases hp
theorem Inv.put {l : List Act} {m : List Pr} {k : Nat} {quota : Int} (h : Inv l m k) (hk : k < l.length) : Inv l (putP quota m l[k].key l[k].data) (k + 1) := by
  have hoth : ∀ p ∈ othP m l[k].key, ∃ (t : Nat) (h : t < l.length), t < k + 1 ∧ lastOf l p.1 (k + 1) = t ∧ l[t].data = p.2 := by
    intro p hp
    obtain ⟨h1, h2⟩ := List.mem_filter.1 hp
    obtain ⟨t, ht, h3, h4, h5⟩ := h p h1
    have hne : l[k].key ≠ p.1 := fun e => by simp [e] at h2
    exact ⟨t, ht, by omega, by rw [lastOf_miss l p.1 k hk hne]; exact h4, h5⟩
  intro p hp
  unfold putP at hp
  split at hp
  · rcases List.mem_append.1 hp with hp | hp
    · exact hoth p ((evP_suffix _ _).subset hp)
    · simp only [List.mem_singleton] at hp
      subst hp
      exact ⟨k, hk, by omega, lastOf_hit l _ k hk rfl, rfl⟩
  · exact hoth p hp
theorem putP_length (quota : Int) (m : List Pr) (key : ByteArray) (data : List UInt8) : (putP quota m key data).length ≤ m.length + 1 := by
  have h1 := othP_length m key
  unfold putP
  split
  · have h2 := (evP_suffix (quota - data.length) (othP m key)).length_le
    simp
    omega
  · omega
theorem putP_last (quota : Int) (m : List Pr) (key : ByteArray) (data : List UInt8) (h : (data.length : Int) ≤ quota) : ∃ a, keysP (putP quota m key data) = a ++ [key] := by
  unfold putP
  rw [if_pos h]
  exact ⟨_, by unfold keysP; rw [List.map_append]; rfl⟩
theorem clamp64 (q : Int) : clamp (q % 64) = q % 64 := by
  unfold clamp
  rw [if_neg (by omega), if_neg (by omega)]
end Go.Proofs.Ytlnhdfdalfoocaa
