/- Walks: the fixed fact 'awake' of the queue's laws; small forms of the contracts. -/
import Derived.Test.YtjagoljaocbdcaaQ6
import Derived.Test.YtjagoljaocbdcaaQ8
namespace Go.Proofs.Ytjagoljaocbdcaa
open Go.RowKit

theorem new_q (n : Int) (w : World) :
    Calls Try.prog 8 #[.int .i64 n] w fun e w' => e = .returned (.pointer (some ⟨w.heap.size, 0, none⟩)) ∧ QAt w' w.heap.size (clamp n) [] none ∧ Kept NoB w w' :=
  (new_any n w).mono fun _ _ h => ⟨h.1, h.2 ▸ ⟨.slice none 0 0, 0, heap_alloc_new w _, Row.nil _ 28 6, rfl⟩, h.2 ▸ Kept.alloc (Kept.refl _ _) _⟩
theorem ref_new_q (n : Int) (w : World) :
    Calls Try.prog 9 #[.int .i64 n] w fun e w' => e = .returned (.pointer (some ⟨w.heap.size, 0, none⟩)) ∧ RAt w' w.heap.size (clamp n) [] none ∧ Kept NoB w w' :=
  (ref_new_any n w).mono fun _ _ h => ⟨h.1, h.2 ▸ ⟨.slice none 0 0, 0, heap_alloc_new w _, Row.nil _ 28 6, rfl⟩, h.2 ▸ Kept.alloc (Kept.refl _ _) _⟩

/-- the blocks of a queue: its own and its list's -/
def QB (bq : Nat) (g : Option Nat) : Nat → Prop := fun k => k = bq ∨ g = some k
/-- behind a step the list lies where it lay, or in a new block -/
def NewG (w : World) (g g' : Option Nat) : Prop := g' = g ∨ ∃ k, g' = some k ∧ w.heap.size ≤ k

theorem push_yes (bq : Nat) (most : Int) (l : List Ask) (gq : Option Nat) (a : Ask) (w : World) (h : QAt w bq most l gq) (hmost : most ≤ 4096) (hc : (l.length : Int) < most) :
    Calls Try.prog 15 #[.pointer (some ⟨bq, 0, none⟩), a.val] w fun e w' => e = .returned (.bool true) ∧ ∃ g', QAt w' bq most (l ++ [a]) g' ∧ Kept (QB bq gq) w w' ∧ NewG w gq g' := by
  have h1 := push_any bq most l gq a w h hmost
  have hp : pushed most l a = l ++ [a] := by unfold pushed; rw [if_pos hc]
  have hd : decide ((l.length : Int) < most) = true := by simpa using hc
  rw [hp, hd] at h1
  exact h1
theorem push_no (bq : Nat) (most : Int) (l : List Ask) (gq : Option Nat) (a : Ask) (w : World) (h : QAt w bq most l gq) (hmost : most ≤ 4096) (hc : ¬ (l.length : Int) < most) :
    Calls Try.prog 15 #[.pointer (some ⟨bq, 0, none⟩), a.val] w fun e w' => e = .returned (.bool false) ∧ ∃ g', QAt w' bq most l g' ∧ Kept (QB bq gq) w w' ∧ NewG w gq g' := by
  have h1 := push_any bq most l gq a w h hmost
  have hp : pushed most l a = l := by unfold pushed; rw [if_neg hc]
  have hd : decide ((l.length : Int) < most) = false := by simpa using hc
  rw [hp, hd] at h1
  exact h1
/-- a queue that the call itself has made: since world w nothing of w has turned, and the queue lies behind w -/
def St (w wr : World) (bq : Nat) (most : Int) (l : List Ask) : Prop :=
  ∃ g, QAt wr bq most l g ∧ Kept NoB w wr ∧ w.heap.size ≤ bq ∧ ∀ k, g = some k → w.heap.size ≤ k
theorem St.kept {w wr w' : World} {bq : Nat} {most : Int} {l : List Ask} (h : St w wr bq most l) (hk : Kept NoB wr w') : St w w' bq most l := by
  obtain ⟨g, h1, h2, h3, h4⟩ := h
  exact ⟨g, h1.kept hk (fun h => h) (fun _ _ h => h), h2.then hk, h3, h4⟩
theorem St.old {w wr : World} {bq : Nat} {most : Int} {l : List Ask} (h : St w wr bq most l) : Kept NoB w wr := by obtain ⟨g, h1, h2, h3, h4⟩ := h; exact h2
theorem St.step {w wr w' : World} {bq : Nat} {most : Int} {l : List Ask} {g g' : Option Nat} (h2 : Kept NoB w wr) (h3 : w.heap.size ≤ bq) (h4 : ∀ k, g = some k → w.heap.size ≤ k) (hq : QAt w' bq most l g') (hk : Kept (QB bq g) wr w') (hn : NewG wr g g') : St w w' bq most l := by
  refine ⟨g', hq, h2.trans hk (fun i hi hs => ?_), h3, fun k hk' => ?_⟩
  · rcases hs with rfl | hs
    · omega
    · have := h4 i hs; omega
  · rcases hn with rfl | ⟨k', e, h'⟩
    · exact h4 k hk'
    · rw [e] at hk'; cases hk'; have := h2.size; omega
theorem st_new (n : Int) (w wr : World) (h : Kept NoB w wr) :
    Calls Try.prog 8 #[.int .i64 n] wr fun e w' => e = .returned (.pointer (some ⟨wr.heap.size, 0, none⟩)) ∧ St w w' wr.heap.size (clamp n) [] :=
  (new_q n wr).mono fun _ _ hx => ⟨hx.1, none, hx.2.1, h.then hx.2.2, h.size, fun k hk => by cases hk⟩
theorem st_push_yes (bq : Nat) (most : Int) (l : List Ask) (a : Ask) (w wr : World) (h : St w wr bq most l) (hmost : most ≤ 4096) (hc : (l.length : Int) < most) :
    Calls Try.prog 15 #[.pointer (some ⟨bq, 0, none⟩), a.val] wr fun e w' => e = .returned (.bool true) ∧ St w w' bq most (l ++ [a]) := by
  obtain ⟨g, h1, h2, h3, h4⟩ := h
  exact (push_yes bq most l g a wr h1 hmost hc).mono fun _ _ ⟨he, g', hq, hk, hn⟩ => ⟨he, St.step h2 h3 h4 hq hk hn⟩
theorem st_push_no (bq : Nat) (most : Int) (l : List Ask) (a : Ask) (w wr : World) (h : St w wr bq most l) (hmost : most ≤ 4096) (hc : ¬ (l.length : Int) < most) :
    Calls Try.prog 15 #[.pointer (some ⟨bq, 0, none⟩), a.val] wr fun e w' => e = .returned (.bool false) ∧ St w w' bq most l := by
  obtain ⟨g, h1, h2, h3, h4⟩ := h
  exact (push_no bq most l g a wr h1 hmost hc).mono fun _ _ ⟨he, g', hq, hk, hn⟩ => ⟨he, St.step h2 h3 h4 hq hk hn⟩
theorem st_take (bq : Nat) (most : Int) (l : List Ask) (i : Int) (w wr : World) (h : St w wr bq most l) :
    Calls Try.prog 10 #[.pointer (some ⟨bq, 0, none⟩), .int .i64 i] wr fun e w' => e = .returned (.tuple #[(took l i).1.val, .bool (took l i).2]) ∧ St w w' bq most (rest l i) := by
  obtain ⟨g, h1, h2, h3, h4⟩ := h
  exact (take_any bq most l g i wr h1).mono fun _ _ ⟨he, hq, hk⟩ => ⟨he, St.step h2 h3 h4 hq hk (.inl rfl)⟩
theorem st_drop (bq : Nat) (most : Int) (l : List Ask) (j : Int) (w wr : World) (h : St w wr bq most l) (hlen : l.length ≤ 4096) :
    Calls Try.prog 13 #[.pointer (some ⟨bq, 0, none⟩), .int .i64 j] wr fun e w' => e = .returned (.int .i64 ((l.length : Int) - (others l j).length)) ∧ St w w' bq most (others l j) := by
  obtain ⟨g, h1, h2, h3, h4⟩ := h
  exact (drop_any bq most l g j wr h1 hlen).mono fun _ _ ⟨he, hq, hk⟩ => ⟨he, St.step h2 h3 h4 hq hk (.inl rfl)⟩
theorem st_len (bq : Nat) (most : Int) (l : List Ask) (w wr : World) (h : St w wr bq most l) :
    Calls Try.prog 17 #[.pointer (some ⟨bq, 0, none⟩)] wr fun e w' => e = .returned (.int .i64 l.length) ∧ wr = w' := by
  obtain ⟨g, h1, _⟩ := h
  exact len_any bq most l g wr h1
theorem st_all (bq : Nat) (most : Int) (l : List Ask) (w wr : World) (h : St w wr bq most l) (hlen : l.length ≤ 4096) :
    Calls Try.prog 19 #[.pointer (some ⟨bq, 0, none⟩)] wr fun e w' => ∃ v, e = .returned v ∧ Fresh wr w' v l := by
  obtain ⟨g, h1, _⟩ := h
  exact all_any bq most l g wr h1 hlen

set_option maxHeartbeats 1000000 in
theorem awake_any (w : World) : Calls Try.prog 20 #[] w fun e w' => e = .returned (.bool true) ∧ Kept NoB w w' := by
  go_enter Try.func20, Try.ntmps20
  go_wp2_with fail
  refine (st_new 2 w _ (Kept.refl _ _)).mono ?_
  rintro e w1 ⟨rfl, s1⟩
  go_wp2_with fail
  refine (st_push_yes _ _ _ ⟨1, 0, 0, 0, 0, 0⟩ w _ s1 (clamp_le 2).2 (by decide)).mono ?_
  rintro e w2 ⟨rfl, s2⟩
  go_wp2_with fail
  refine (st_push_yes _ _ _ ⟨2, 0, 0, 0, 7, 0⟩ w _ s2 (clamp_le 2).2 (by decide)).mono ?_
  rintro e w3 ⟨rfl, s3⟩
  go_wp2_with fail
  refine (st_push_no _ _ _ ⟨3, 0, 0, 0, 0, 0⟩ w _ s3 (clamp_le 2).2 (by decide)).mono ?_
  rintro e w4 ⟨rfl, s4⟩
  go_wp2_with fail
  refine (st_drop _ _ _ 1 w _ s4 (by decide)).mono ?_
  rintro e w5 ⟨he, s5⟩
  obtain rfl : e = .returned (.int .i64 1) := he
  go_wp2_with fail
  refine (st_take _ _ _ 0 w _ s5).mono ?_
  rintro e w6 ⟨he, s6⟩
  obtain rfl : e = .returned (.tuple #[.agg #[.int .i64 2, .int .i64 0, .int .i64 0, .int .i64 0, .int .i64 7, .int .i64 0], .bool true]) := he
  go_wp2_with fail
  refine (st_len _ _ _ w _ (s6.kept (Kept.alloc (Kept.refl _ _) _))).mono ?_
  rintro e w7 ⟨he, rfl⟩
  obtain rfl : e = .returned (.int .i64 0) := he
  go_wp2_with fail
  go_ret
  exact ⟨rfl, s6.old.alloc _⟩
end Go.Proofs.Ytjagoljaocbdcaa
