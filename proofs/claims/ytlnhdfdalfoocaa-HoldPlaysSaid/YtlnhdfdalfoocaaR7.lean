/- The reference's list beside the list of pairs: the same, by the time of use. -/
import Derived.Test.YtlnhdfdalfoocaaR6
namespace Go.Proofs.Ytlnhdfdalfoocaa
open Go.RowKit

def Rn.pair (r : Rn) : Pr := (r.key, r.data.data.toList)
def Sim (m : List Pr) (l : List Rn) (now : Nat) : Prop :=
  ∃ T : List Rn, T.Pairwise (fun a b => a.at' < b.at') ∧ (∀ r ∈ T, 1 ≤ r.at' ∧ r.at' ≤ now) ∧ T.Perm l ∧ T.map Rn.pair = m
theorem erase_perm (l : List Rn) (j : Nat) (h : j < l.length) : l.Perm (l[j] :: l.eraseIdx j) := by
  rw [List.eraseIdx_eq_take_drop_succ]
  have e : l = l.take j ++ l[j] :: l.drop (j + 1) := by rw [← List.drop_eq_getElem_cons h, List.take_append_drop]
  conv => lhs; rw [e]
  exact List.perm_middle
theorem set_perm (l : List Rn) (j : Nat) (h : j < l.length) (x : Rn) : (l.set j x).Perm (x :: l.eraseIdx j) := by
  rw [List.eraseIdx_eq_take_drop_succ, List.set_eq_take_append_cons_drop, if_pos h]
  exact List.perm_middle
section
variable {m : List Pr} {l : List Rn} {now : Nat}
theorem Sim.nil : Sim [] [] 0 := ⟨[], .nil, (fun _ h => by cases h), .refl _, rfl⟩
theorem Sim.len (h : Sim m l now) : l.length = m.length := by
  obtain ⟨T, _, _, hp, rfl⟩ := h
  rw [List.length_map, hp.length_eq]
theorem keys_pair (T : List Rn) : keysP (T.map Rn.pair) = rkeys T := by unfold keysP rkeys; rw [List.map_map]; rfl
theorem Sim.keys (h : Sim m l now) : (keysP m).Perm (rkeys l) := by
  obtain ⟨T, _, _, hp, rfl⟩ := h
  rw [keys_pair]
  exact hp.map _
theorem Sim.nodup (h : Sim m l now) (hn : (keysP m).Nodup) : (rkeys l).Nodup := h.keys.nodup_iff.1 hn
theorem Sim.tot (h : Sim m l now) : rtot l = totP m := by
  obtain ⟨T, _, _, hp, rfl⟩ := h
  unfold rtot totP
  rw [List.map_map]
  exact ((hp.map _).sum_nat).symm
theorem Sim.has (h : Sim m l now) (key : ByteArray) : hasR l key = hasP m key := by
  obtain ⟨T, _, _, hp, rfl⟩ := h
  unfold hasR hasP
  rw [List.any_map, Bool.eq_iff_iff, List.any_eq_true, List.any_eq_true]
  constructor
  · rintro ⟨x, hx, e⟩; exact ⟨x, hp.mem_iff.2 hx, e⟩
  · rintro ⟨x, hx, e⟩; exact ⟨x, hp.mem_iff.1 hx, e⟩
theorem oth_pair (T : List Rn) (key : ByteArray) : (othR T key).map Rn.pair = othP (T.map Rn.pair) key := by
  unfold othR othP
  rw [List.filter_map]
  rfl
theorem Sim.oth (h : Sim m l now) (key : ByteArray) : Sim (othP m key) (othR l key) now := by
  obtain ⟨T, ho, hb, hp, rfl⟩ := h
  exact ⟨othR T key, ho.filter _, fun r hr => hb r (List.mem_filter.1 hr).1, hp.filter _, oth_pair T key⟩
theorem Sim.pushed (h : Sim m l now) (x : Rn) (hx : x.at' = (now : Int) + 1) : Sim (m ++ [x.pair]) (l ++ [x]) (now + 1) := by
  obtain ⟨T, ho, hb, hp, rfl⟩ := h
  refine ⟨T ++ [x], ?_, fun r hr => ?_, hp.append_right _, by rw [List.map_append]; rfl⟩
  · rw [List.pairwise_append]
    refine ⟨ho, by simp, fun a ha b hb' => ?_⟩
    simp only [List.mem_singleton] at hb'
    subst hb'
    have := hb a ha
    omega
  · rcases List.mem_append.1 hr with h1 | h1
    · have := hb r h1; omega
    · simp only [List.mem_singleton] at h1
      subst h1
      omega
theorem Sim.perm {l' : List Rn} (h : Sim m l now) (hp : l.Perm l') : Sim m l' now := by
  obtain ⟨T, ho, hb, hp', e⟩ := h
  exact ⟨T, ho, hb, hp'.trans hp, e⟩
theorem Sim.get (h : Sim m l now) (hn : (keysP m).Nodup) (k : Nat) (hk : k < l.length) (x : Rn) (hkey : x.key = l[k].key) (hx : x.at' = (now : Int) + 1) : Sim (othP m x.key ++ [x.pair]) (l.set k x) (now + 1) := by
  have h1 := (h.oth x.key).pushed x hx
  refine h1.perm ?_
  rw [← othR_eraseIdx l x.key k hk hkey.symm (h.nodup hn)]
  exact (List.perm_append_singleton x _).trans (set_perm l k hk x).symm
theorem Sim.mem (h : Sim m l now) (k : Nat) (hk : k < l.length) : l[k].pair ∈ m := by
  obtain ⟨T, ho, hb, hp, rfl⟩ := h
  exact List.mem_map_of_mem (hp.mem_iff.2 (List.getElem_mem hk))
theorem Sim.evict {quota : Int} {n : Nat} {l' : List Rn} (he : Evicts quota n l l') : ∀ {m : List Pr}, Sim m l now → Sim (evP (quota - n) m) l' now := by
  induction he with
  | stop l hs =>
    intro m h
    have ht := h.tot
    have : evP (quota - n) m = m := by
      cases m with
      | nil => rfl
      | cons p r => unfold evP; rw [if_neg (by omega)]
    rw [this]
    exact h
  | more l l' j hj hmin hq t ih =>
    intro m h
    have ht := h.tot
    obtain ⟨T, ho, hb, hp, rfl⟩ := h
    cases T with
    | nil => have := hp.length_eq; simp at this; omega
    | cons a T =>
      have ha : a ∈ l := hp.mem_iff.1 List.mem_cons_self
      obtain ⟨i, hi, hia⟩ := List.getElem_of_mem ha
      have hle := hmin i hi
      rw [List.pairwise_cons] at ho
      have hja : l[j] = a := by
        rcases List.mem_cons.1 (hp.mem_iff.2 (List.getElem_mem hj)) with e | e
        · exact e
        · have := ho.1 _ e
          rw [hia] at hle
          omega
      have hperm : T.Perm (l.eraseIdx j) := by
        have h2 := erase_perm l j hj
        rw [hja] at h2
        exact (hp.trans h2).cons_inv
      have := ih (m := T.map Rn.pair) ⟨T, ho.2, fun r hr => hb r (List.mem_cons_of_mem _ hr), hperm, rfl⟩
      rw [List.map_cons]
      unfold evP
      rw [List.map_cons] at ht
      rw [if_pos (by omega)]
      exact this
theorem perm_small {α : Type} {a b : List α} (h : a.Perm b) (hl : a.length ≤ 1) : a = b := by
  match a, hl with
  | [], _ => exact (List.nil_perm.1 h).symm
  | [x], _ => exact List.singleton_perm.1 h
theorem one_at (T : List Rn) (ho : T.Pairwise (fun a b => a.at' < b.at')) (t : Int) : (T.filter fun r => decide (r.at' = t)).length ≤ 1 ∧ T.filter (fun r => decide (r.at' ≤ t)) = T.filter (fun r => decide (r.at' ≤ t - 1)) ++ T.filter (fun r => decide (r.at' = t)) := by
  induction T with
  | nil => simp
  | cons a T ih =>
    rw [List.pairwise_cons] at ho
    obtain ⟨h1, h2⟩ := ho
    obtain ⟨i1, i2⟩ := ih h2
    by_cases hlt : a.at' ≤ t - 1
    · rw [List.filter_cons_of_neg (p := fun r : Rn => decide (r.at' = t)) (by simp; omega), List.filter_cons_of_pos (p := fun r : Rn => decide (r.at' ≤ t)) (by simp; omega), List.filter_cons_of_pos (p := fun r : Rn => decide (r.at' ≤ t - 1)) (by simp; omega), i2]
      exact ⟨i1, rfl⟩
    · have hno : ∀ s : Int, s ≤ t → t ≤ a.at' → T.filter (fun r => decide (r.at' ≤ s)) = [] := fun s hs ha => by
        rw [List.filter_eq_nil_iff]
        intro r hr
        have := h1 r hr
        simp
        omega
      have hno2 : t ≤ a.at' → T.filter (fun r => decide (r.at' = t)) = [] := fun ha => by
        rw [List.filter_eq_nil_iff]
        intro r hr
        have := h1 r hr
        simp
        omega
      rw [List.filter_cons_of_neg (p := fun r : Rn => decide (r.at' ≤ t - 1)) (by simpa using hlt), hno (t - 1) (by omega) (by omega)]
      by_cases he : a.at' = t
      · rw [List.filter_cons_of_pos (p := fun r : Rn => decide (r.at' = t)) (by simpa using he), List.filter_cons_of_pos (p := fun r : Rn => decide (r.at' ≤ t)) (by simp; omega), hno t (by omega) (by omega), hno2 (by omega)]
        exact ⟨Nat.le_refl _, rfl⟩
      · rw [List.filter_cons_of_neg (p := fun r : Rn => decide (r.at' = t)) (by simpa using he), List.filter_cons_of_neg (p := fun r : Rn => decide (r.at' ≤ t)) (by simp; omega), hno t (by omega) (by omega), hno2 (by omega)]
        exact ⟨Nat.zero_le _, rfl⟩
theorem upTo_sorted {T : List Rn} (ho : T.Pairwise (fun a b => a.at' < b.at')) (hp : T.Perm l) (h1 : ∀ r ∈ T, 1 ≤ r.at') (t : Nat) : upTo l t = (T.filter fun r : Rn => decide (r.at' ≤ (t : Int))).map Rn.key := by
  induction t with
  | zero =>
    have : T.filter (fun r => decide (r.at' ≤ ((0 : Nat) : Int))) = [] := by
      rw [List.filter_eq_nil_iff]
      intro r hr
      have := h1 r hr
      simp
      omega
    rw [this]
    rfl
  | succ t ih =>
    unfold upTo atTime
    have h2 := one_at T ho (((t + 1 : Nat) : Int))
    have h3 : ((t + 1 : Nat) : Int) - 1 = t := by omega
    rw [h3] at h2
    have h4 := perm_small (hp.filter fun r => decide (r.at' = ((t + 1 : Nat) : Int))) h2.1
    rw [ih, h2.2, List.map_append, List.take_length, h4]
    rfl
theorem Sim.order (h : Sim m l now) : upTo l now = keysP m := by
  obtain ⟨T, ho, hb, hp, rfl⟩ := h
  rw [upTo_sorted ho hp (fun r hr => (hb r hr).1), keys_pair]
  have : T.filter (fun r => decide (r.at' ≤ (now : Int))) = T := by
    rw [List.filter_eq_self]
    intro r hr
    simpa using (hb r hr).2
  rw [this]
  rfl
end
theorem HQ.drop {quota : Int} {m : List Pr} (hq : HQ quota m) (key : ByteArray) : HQ quota (othP m key) := by
  refine ⟨nodup_sub (othP_sub m key) hq.1, ?_, hq.2.2⟩
  have := totP_othP m key
  have := hq.2.1
  omega
theorem HQ.put {quota : Int} {m : List Pr} (hq : HQ quota m) (key : ByteArray) (data : List UInt8) : HQ quota (putP quota m key data) := by
  unfold putP
  split
  · rename_i hfit
    refine ⟨nodup_push (evP_suffix _ _).sublist hq.1, ?_, hq.2.2⟩
    have := evP_le (quota - data.length) (othP m key) (by omega)
    rw [totP_append]
    simp [totP] at this ⊢
    omega
  · exact hq.drop key
theorem putP_length (quota : Int) (m : List Pr) (key : ByteArray) (data : List UInt8) : (putP quota m key data).length ≤ m.length + 1 := by
  have h1 := othP_length m key
  unfold putP
  split
  · have := (evP_suffix (quota - data.length) (othP m key)).length_le
    rw [List.length_append]
    simp
    omega
  · omega
end Go.Proofs.Ytlnhdfdalfoocaa
