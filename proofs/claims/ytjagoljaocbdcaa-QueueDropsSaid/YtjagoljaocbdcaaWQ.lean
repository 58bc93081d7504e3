/- A queue that the call itself has made, beside a slice that the call itself has made. -/
import Derived.Test.YtjagoljaocbdcaaIn
namespace Go.Proofs.Ytjagoljaocbdcaa
open Go.RowKit

/-- the slice's block is none of the queue's, and both lie behind w -/
def WQ (w wr : World) (bq : Nat) (l : List Ask) (a : Option Addr) (c : Nat) (L : List Ask) : Prop :=
  ∃ g, QAt wr bq 60 l g ∧ Kept NoB w wr ∧ w.heap.size ≤ bq ∧ (∀ k, g = some k → w.heap.size ≤ k) ∧
    Row wr 28 6 (.slice a L.length c) L.length c (cellsOf L) ∧ ∀ k, (Value.slice a L.length c).ownBlock = some k → w.heap.size ≤ k ∧ k ≠ bq ∧ g ≠ some k

theorem WQ.kept {w wr w' : World} {bq : Nat} {l L : List Ask} {a : Option Addr} {c : Nat} (h : WQ w wr bq l a c L) (hk : Kept NoB wr w') : WQ w w' bq l a c L := by
  obtain ⟨g, h1, h2, h3, h4, h5, h6⟩ := h
  exact ⟨g, h1.kept hk (fun h => h) (fun _ _ h => h), h2.then hk, h3, h4, h5.kept hk (fun _ _ h => h), h6⟩
theorem WQ.old {w wr : World} {bq : Nat} {l L : List Ask} {a : Option Addr} {c : Nat} (h : WQ w wr bq l a c L) : Kept NoB w wr := by obtain ⟨g, _, h2, _⟩ := h; exact h2
theorem WQ.st {w wr : World} {bq : Nat} {l L : List Ask} {a : Option Addr} {c : Nat} (h : WQ w wr bq l a c L) : St w wr bq 60 l := by
  obtain ⟨g, h1, h2, h3, h4, _⟩ := h; exact ⟨g, h1, h2, h3, h4⟩
theorem WQ.row {w wr : World} {bq : Nat} {l L : List Ask} {a : Option Addr} {c : Nat} (h : WQ w wr bq l a c L) : Row wr 28 6 (.slice a L.length c) L.length c (cellsOf L) := by
  obtain ⟨g, h1, h2, h3, h4, h5, _⟩ := h; exact h5
/-- behind a step of the queue -/
theorem WQ.step {w wr w' : World} {bq : Nat} {l' L : List Ask} {a : Option Addr} {c : Nat} {g g' : Option Nat} (h2 : Kept NoB w wr) (h3 : w.heap.size ≤ bq) (h4 : ∀ k, g = some k → w.heap.size ≤ k)
    (h5 : Row wr 28 6 (.slice a L.length c) L.length c (cellsOf L)) (h6 : ∀ k, (Value.slice a L.length c).ownBlock = some k → w.heap.size ≤ k ∧ k ≠ bq ∧ g ≠ some k)
    (hq : QAt w' bq 60 l' g') (hk : Kept (QB bq g) wr w') (hn : NewG wr g g') : WQ w w' bq l' a c L := by
  obtain ⟨g1, q1, q2, q3, q4⟩ := St.step h2 h3 h4 hq hk hn
  refine ⟨g', hq, q2, h3, ?_, h5.kept hk (fun k hk' hs => ?_), fun k hk' => ⟨(h6 k hk').1, (h6 k hk').2.1, ?_⟩⟩
  · intro k hk'
    rcases hn with rfl | ⟨k', e, h'⟩
    · exact h4 k hk'
    · rw [e] at hk'; cases hk'; have := h2.size; omega
  · rcases hs with rfl | hs
    · exact (h6 k hk').2.1 rfl
    · exact (h6 k hk').2.2 hs
  · rcases hn with rfl | ⟨k', e, h'⟩
    · exact (h6 k hk').2.2
    · rw [e]; intro e2; cases e2; have := h5.lt k hk'; omega
theorem wq_push {w wr : World} {bq : Nat} {l L : List Ask} {a : Option Addr} {c : Nat} (h : WQ w wr bq l a c L) (x : Ask) (hc : (l.length : Int) < 60) :
    Calls Try.prog 15 #[.pointer (some ⟨bq, 0, none⟩), x.val] wr fun e w' => e = .returned (.bool true) ∧ WQ w w' bq (l ++ [x]) a c L := by
  obtain ⟨g, h1, h2, h3, h4, h5, h6⟩ := h
  exact (push_yes bq 60 l g x wr h1 (by decide) hc).mono fun _ _ ⟨he, g', hq, hk, hn⟩ => ⟨he, WQ.step h2 h3 h4 h5 h6 hq hk hn⟩
theorem wq_drop {w wr : World} {bq : Nat} {l L : List Ask} {a : Option Addr} {c : Nat} (h : WQ w wr bq l a c L) (j : Int) (hlen : l.length ≤ 4096) :
    Calls Try.prog 13 #[.pointer (some ⟨bq, 0, none⟩), .int .i64 j] wr fun e w' => e = .returned (.int .i64 ((l.length : Int) - (others l j).length)) ∧ WQ w w' bq (others l j) a c L := by
  obtain ⟨g, h1, h2, h3, h4, h5, h6⟩ := h
  exact (drop_any bq 60 l g j wr h1 hlen).mono fun _ _ ⟨he, hq, hk⟩ => ⟨he, WQ.step h2 h3 h4 h5 h6 hq hk (.inl rfl)⟩
theorem wq_take {w wr : World} {bq : Nat} {l L : List Ask} {a : Option Addr} {c : Nat} (h : WQ w wr bq l a c L) (i : Int) :
    Calls Try.prog 10 #[.pointer (some ⟨bq, 0, none⟩), .int .i64 i] wr fun e w' => e = .returned (.tuple #[(took l i).1.val, .bool (took l i).2]) ∧ WQ w w' bq (rest l i) a c L := by
  obtain ⟨g, h1, h2, h3, h4, h5, h6⟩ := h
  exact (take_any bq 60 l g i wr h1).mono fun _ _ ⟨he, hq, hk⟩ => ⟨he, WQ.step h2 h3 h4 h5 h6 hq hk (.inl rfl)⟩
/-- behind an append to the slice -/
theorem WQ.app {w wr W w2 : World} {bq : Nat} {l L : List Ask} {a a2 : Option Addr} {c c2 : Nat} {x : Ask} (h : WQ w wr bq l a c L) (hk : Kept NoB wr W)
    (hrow2 : Row w2 28 6 (.slice a2 (L.length + 1) c2) (L.length + 1) c2 (cellsOf L ++ x.cells)) (hg : W.grownBy w2 (Value.slice a L.length c).ownBlock)
    (hat : (Value.slice a2 (L.length + 1) c2).ownBlock = (Value.slice a L.length c).ownBlock ∨ (Value.slice a2 (L.length + 1) c2).ownBlock = some W.heap.size) :
    WQ w w2 bq l a2 c2 (L ++ [x]) := by
  obtain ⟨g, h1, h2, h3, h4, h5, h6⟩ := h
  have hk2 : Kept (fun k => (Value.slice a L.length c).ownBlock = some k) wr w2 := (hk.of_none).grown hg (fun k e _ => e)
  have hold : Kept NoB w w2 := h2.trans hk2 (fun k hk' e => by have := (h6 k e).1; omega)
  refine ⟨g, h1.kept hk2 (fun e => (h6 _ e).2.1 rfl) (fun k hk' e => (h6 k e).2.2 hk'), hold, h3, h4, ?_, ?_⟩
  · rw [List.length_append, List.length_singleton, cellsOf_append, cellsOf_one]; exact hrow2
  · rw [List.length_append, List.length_singleton]
    intro k hk'
    rcases hat with e | e
    · exact h6 k (e.symm.trans hk')
    · have e2 := e.symm.trans hk'
      simp at e2
      subst e2
      have hs := hk.size
      have hs2 := h2.size
      have hb := h1.lt
      refine ⟨by omega, by have := hb.1; omega, fun e3 => ?_⟩
      have := (hb.2 _ e3).1
      omega
/-- at the beginning: a new queue, and a new slice behind it -/
theorem WQ.begin {w wr : World} {bq : Nat} (h : St w wr bq 60 []) : WQ w (wr.alloc (.cells #[] 28)) bq [] (some ⟨wr.heap.size, 0, none⟩) 0 [] := by
  obtain ⟨g, h1, h2, h3, h4⟩ := h
  have hk : Kept NoB wr (wr.alloc (.cells #[] 28)) := (Kept.refl _ _).alloc _
  refine ⟨g, h1.kept hk (fun h => h) (fun _ _ h => h), h2.then hk, h3, h4, Row.laid wr 28 6 0 #[] rfl (by decide) _ rfl, fun k hk' => ?_⟩
  simp [Value.ownBlock] at hk'
  subst hk'
  have hs := h2.size
  have hb := h1.lt
  exact ⟨hs, by have := hb.1; omega, fun e3 => by have := (hb.2 _ e3).1; omega⟩
theorem others_others (l : List Ask) (j : Int) : others (others l j) j = others l j := by
  refine others_none _ _ ?_
  intro a ha
  unfold others at ha
  have := (List.mem_filter.1 ha).2
  simpa using this
end Go.Proofs.Ytjagoljaocbdcaa
