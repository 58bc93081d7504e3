/- What the law HoldRoom keeps beside the hold: the keys, and the list that it makes of them. -/
import Derived.Test.YtlnhdfdalfoocaaHA
import Derived.Test.YtlnhdfdalfoocaaHOpen
namespace Go.Proofs.Ytlnhdfdalfoocaa
open Go.RowKit

def Act.arr (x : Act) : Array Value := #[.int .u8 x.what, .string x.key, .slice x.ao x.data.length x.cap]
theorem act_get {w wr : World} {b off k : Nat} {l : List Act} {x : Act} (hk : Kept NoB w wr) (hi : k < l.length) (hx : l[k] = x)
    (hin : ∀ i a, l[i]? = some a → a.ok w ∧ ∀ j u, a.cells[j]? = some u → w.cell? ⟨b, off + (i * 3 + j), none⟩ = some u) :
    x.ok w ∧ wr.cell? ⟨b, off + k * 3, none⟩ = some (.int .u8 x.what) ∧ wr.cell? ⟨b, off + k * 3 + 1, none⟩ = some (.string x.key) ∧ wr.cell? ⟨b, off + k * 3 + 2, none⟩ = some (.slice x.ao x.data.length x.cap) := by
  have h0 := hin k x (by rw [List.getElem?_eq_getElem hi, hx])
  have key : ∀ j u, x.cells[j]? = some u → wr.cell? ⟨b, off + k * 3 + j, none⟩ = some u := fun j u hu => by
    have h := h0.2 j u hu
    rw [← Nat.add_assoc] at h
    exact hk.cell h (fun h => h)
  exact ⟨h0.1, key 0 _ rfl, key 1 _ rfl, key 2 _ rfl⟩
theorem block_act {w : World} {b : Nat} {x : Act} (h : w.heap[b]? = some (.cells x.arr 29 (0, 0))) :
    w.cell? ⟨b, 0, none⟩ = some (.int .u8 x.what) ∧ w.cell? ⟨b, 1, none⟩ = some (.string x.key) ∧ w.cell? ⟨b, 2, none⟩ = some (.slice x.ao x.data.length x.cap) :=
  ⟨by rw [cell_of_row w b 0 _ 29 _ h]; rfl, by rw [cell_of_row w b 1 _ 29 _ h]; rfl, by rw [cell_of_row w b 2 _ 29 _ h]; rfl⟩

theorem putP_room {m : List Pr} {key : ByteArray} {data : List UInt8} (h : totP m + data.length ≤ 32768) : putP 32768 m key data = othP m key ++ [(key, data)] := by
  have h1 := totP_othP m key
  unfold putP
  rw [if_pos (by omega)]
  have h2 : evP (32768 - (data.length : Int)) (othP m key) = othP m key := by
    cases h3 : othP m key with
    | nil => rfl
    | cons p r => unfold evP; rw [if_neg (by rw [← h3]; omega)]
  rw [h2]
theorem hasP_less (m : List Pr) (key : ByteArray) : hasP m key = decide ((othP m key).length < m.length) := by
  induction m with
  | nil => rfl
  | cons p r ih =>
    have hle := othP_length r key
    by_cases hk : p.1 = key
    · have h1 : hasP (p :: r) key = true := by unfold hasP; rw [List.any_cons]; simp [hk]
      have h2 : othP (p :: r) key = othP r key := by unfold othP; rw [List.filter_cons_of_neg (by simpa using hk)]
      rw [h1, h2, decide_eq_true (by simp only [List.length_cons]; omega)]
    · have h1 : hasP (p :: r) key = hasP r key := by unfold hasP; rw [List.any_cons]; simp [hk]
      have h2 : othP (p :: r) key = p :: othP r key := by unfold othP; rw [List.filter_cons_of_pos (by simpa using hk)]
      rw [h1, h2, ih]
      simp only [List.length_cons]
      by_cases h : (othP r key).length < r.length
      · rw [decide_eq_true h, decide_eq_true (by omega)]
      · rw [decide_eq_false h, decide_eq_false (by omega)]

/-- blocks that are not the hold's were written; new ones are not the hold's -/
theorem HS.turned {w wr w' : World} {bh : Nat} {quota : Int} {m : List Pr} {R T U : Nat → Prop} (h : HS w wr bh quota m R) (hk : Kept T wr w') (hT : ∀ k, T k → R k) (hU : ∀ k, U k → R k ∨ (wr.heap.size ≤ k ∧ k < w'.heap.size)) : HS w w' bh quota m U := by
  have h' := h.kept hk hT
  obtain ⟨⟨l, g, h0, h1, h2, h3, h4⟩, h5⟩ := h
  refine ⟨⟨l, g, h0, h1.kept hk (fun k hb ht => (h4 k (hT k ht)).2.2 hb), h'.old, h3, fun k hR => ?_⟩, h5⟩
  have hs := h2.size
  rcases hU k hR with h6 | h6
  · exact ⟨(h4 k h6).1, Nat.lt_of_lt_of_le (h4 k h6).2.1 hk.size, (h4 k h6).2.2⟩
  · exact ⟨by omega, h6.2, fun hb => by have := h1.lt k hb; omega⟩
/-- beside the hold: keys (v), the act (A), the list that is being made (vr) -/
def RS (w wi : World) (bh : Nat) (m : List Pr) (v : Value) (n c : Nat) (K : List ByteArray) (A : Nat) (x : Act) (vr : Value) (cr : Nat) (L : List ByteArray) : Prop :=
  HS w wi bh 32768 m (fun k => v.ownBlock = some k ∨ k = A ∨ vr.ownBlock = some k) ∧ Row wi 9 1 v n c (kcells K) ∧ wi.heap[A]? = some (.cells x.arr 29 (0, 0)) ∧ Row wi 9 1 vr L.length cr (kcells L) ∧
    (∀ k, vr.ownBlock = some k → v.ownBlock ≠ some k ∧ k ≠ A)
section
variable {w wi : World} {bh : Nat} {m : List Pr} {v : Value} {n c : Nat} {K : List ByteArray} {A : Nat} {x : Act} {vr : Value} {cr : Nat} {L : List ByteArray}
theorem RS.hs (h : RS w wi bh m v n c K A x vr cr L) : HS w wi bh 32768 m (fun k => v.ownBlock = some k ∨ k = A ∨ vr.ownBlock = some k) := h.1
theorem RS.calm {w' : World} (h : RS w wi bh m v n c K A x vr cr L) (hk : Kept NoB wi w') : RS w w' bh m v n c K A x vr cr L := by
  obtain ⟨h1, h2, h3, h4, h5⟩ := h
  exact ⟨h1.calm hk, Row.kept h2 hk (fun _ _ h => h), hk.heap h3 (fun h => h), Row.kept h4 hk (fun _ _ h => h), h5⟩
/-- behind a method of the hold -/
theorem RS.step {w' : World} {m' : List Pr} (h : RS w wi bh m v n c K A x vr cr L) (hs : HS w w' bh 32768 m' (fun k => v.ownBlock = some k ∨ k = A ∨ vr.ownBlock = some k)) (hk : Kept (fun k => ¬ (v.ownBlock = some k ∨ k = A ∨ vr.ownBlock = some k)) wi w') : RS w w' bh m' v n c K A x vr cr L := by
  obtain ⟨h1, h2, h3, h4, h5⟩ := h
  exact ⟨hs, Row.kept h2 hk (fun k hk hn => hn (.inl hk)), hk.heap h3 (fun hn => hn (.inr (.inl rfl))), Row.kept h4 hk (fun k hk hn => hn (.inr (.inr hk))), h5⟩
/-- one more text behind the list -/
theorem RS.app {W w2 : World} {s : ByteArray} {ar : Option Addr} {N c2 : Nat} (h : RS w wi bh m v n c K A x vr cr L) (hW : Kept NoB wi W) (hN : N = (L ++ [s]).length) (hrow : Row w2 9 1 (.slice ar N c2) N c2 (kcells L ++ [.string s])) (hgrow : (W.alloc (.cells #[.string s] 9)).grownBy w2 vr.ownBlock)
    (hat : (Value.slice ar N c2).ownBlock = vr.ownBlock ∨ (Value.slice ar N c2).ownBlock = some (W.alloc (.cells #[.string s] 9)).heap.size) :
    RS w w2 bh m v n c K A x (.slice ar N c2) c2 (L ++ [s]) := by
  subst hN
  obtain ⟨h1, h2, h3, h4, h5⟩ := h
  have hk0 : Kept NoB wi (W.alloc (.cells #[.string s] 9)) := hW.alloc _
  have hk : Kept (fun k => vr.ownBlock = some k) wi w2 := hk0.of_none.grown hgrow (fun k e _ => e)
  have hs := hk0.size
  have hlv := Row.lt h2
  have hlA := lt_of_heap h3
  have hgs : (W.alloc (.cells #[.string s] 9)).heap.size ≤ w2.heap.size := hgrow.size
  have hnew : ∀ k, (Value.slice ar (L ++ [s]).length c2).ownBlock = some k → vr.ownBlock = some k ∨ (wi.heap.size ≤ k) := by
    intro k hk'
    rcases hat with e | e
    · exact .inl (e ▸ hk')
    · right
      rw [e] at hk'
      simp only [Option.some.injEq] at hk'
      omega
  refine ⟨?_, Row.kept h2 hk (fun k hk' e => (h5 k e).1 hk'), hk.heap h3 (fun e => (h5 A e).2 rfl), by rw [kcells_snoc]; exact hrow, fun k hk' => ?_⟩
  · refine h1.turned hk (fun k hk' => .inr (.inr hk')) (fun k hR => ?_)
    rcases hR with hR | hR | hR
    · exact .inl (.inl hR)
    · exact .inl (.inr (.inl hR))
    · rcases hnew k hR with e | e
      · exact .inl (.inr (.inr e))
      · exact .inr ⟨e, hrow.lt k hR⟩
  · rcases hnew k hk' with e | e
    · exact h5 k e
    · exact ⟨fun e' => by have := hlv k e'; omega, by omega⟩
end
end Go.Proofs.Ytlnhdfdalfoocaa
