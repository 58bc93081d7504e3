/- Walks of the reference's queue: Push, where there is room. -/
import Derived.Test.YtjagoljaocbdcaaQ1
namespace Go.Proofs.Ytjagoljaocbdcaa
open Go.RowKit

theorem fresh_row {w2 W' : World} {e : TypeId} {size n cap n1 cap1 B : Nat} {xs : List Value} {ao ao1 : Option Addr} (hrow : Row w2 e size (.slice ao n cap) n cap xs) (hn : 0 < n)
    (hat : (Value.slice ao n cap).ownBlock = (Value.slice ao1 n1 cap1).ownBlock ∨ (Value.slice ao n cap).ownBlock = some W'.heap.size) (h1 : ∀ k, (Value.slice ao1 n1 cap1).ownBlock = some k → B ≤ k) (h2 : B ≤ W'.heap.size) :
    ∃ k, (Value.slice ao n cap).ownBlock = some k ∧ B ≤ k := by
  rcases hrow.2 with ⟨_, h, _⟩ | ⟨g, cur, hv, _⟩
  · omega
  · cases hv
    refine ⟨g, rfl, ?_⟩
    rcases hat with h | h
    · exact h1 g h.symm
    · simp [Value.ownBlock] at h; omega
/-- behind the store of a new row into the reference's queue -/
theorem ref_after {w w2 : World} {br : Nat} {most : Int} {l' : List Ask} {v : Value} {ao2 : Option Addr} {n' cap2 : Nat} (hn : n' = l'.length) (hb : w2.heap[br]? = some (.cells #[v, .int .i64 most] 39 (0, 0))) (hk : Kept NoB w w2)
    (hrow : Row w2 28 6 (.slice ao2 n' cap2) n' cap2 (cellsOf l')) (hfr : ∃ k, (Value.slice ao2 n' cap2).ownBlock = some k ∧ w.heap.size ≤ k) (hlt : br < w.heap.size) :
    ∃ g', RAt (w2.setCell ⟨br, 0, none⟩ (.slice ao2 n' cap2)) br most l' g' ∧ Kept (fun k => k = br) w (w2.setCell ⟨br, 0, none⟩ (.slice ao2 n' cap2)) ∧ (∃ k, g' = some k ∧ w.heap.size ≤ k) := by
  subst hn
  refine ⟨_, ⟨.slice ao2 l'.length cap2, cap2, heap_setCell_same w2 br 0 _ 39 _ hb, ?_, rfl⟩, ?_, hfr⟩
  · exact hrow.kept (S := fun k => k = br) (Kept.setCell (S := fun k => k = br) (Kept.refl _ _) (fun _ => rfl) _) (fun k hk' e => by obtain ⟨k', e', h'⟩ := hfr; rw [e'] at hk'; cases hk'; omega)
  · exact Kept.setCell (S := fun k => k = br) (p := ⟨br, 0, none⟩) hk.of_none (fun _ => rfl) _
set_option maxHeartbeats 1000000 in
theorem refpush_room (br : Nat) (most : Int) (l : List Ask) (gr : Option Nat) (a : Ask) (w : World) (h : RAt w br most l gr) (hroom : l.length < most) (hmost : most ≤ 4096) :
    Calls Try.prog 16 #[.pointer (some ⟨br, 0, none⟩), a.val] w fun e w' => e = .returned (.bool true) ∧ ∃ g', RAt w' br most (l ++ [a]) g' ∧ Kept (fun k => k = br) w w' ∧ (∃ k, g' = some k ∧ w.heap.size ≤ k) := by
  obtain ⟨v, cap, hb, hr, hg⟩ := h
  obtain ⟨ao, rfl⟩ := hr.form
  obtain ⟨hlt, c0, c1, f0, f1⟩ := block_cells2 hb
  obtain ⟨i0, hi, hz0, hz1, hz2⟩ := info_parts info28
  have hne := not_own hb (by decide) hr
  unfold Ask.val Ask.arr
  go_enter Try.func16, Try.ntmps16
  go_wp2
  go_quiet (fail)
  go_wp2
  obtain ⟨W0, hW0⟩ : ∃ W0, W0 = (w.alloc (.cells #[.int .i64 a.job, .int .i64 a.op, .int .i64 a.cart, .int .i64 a.pos, .int .i64 a.slot, .int .i64 a.born] 28)).drewN nq := ⟨_, rfl⟩
  rw [← hW0]
  have K0 : Kept NoB w W0 := by rw [hW0]; exact (by repeat (first | with_reducible exact Kept.refl _ _ | with_reducible refine Kept.alloc ?_ _ | with_reducible refine Kept.drewN ?_ _ | with_reducible refine Kept.drew ?_))
  have B0 : W0.heap[w.heap.size]? = some (.cells a.arr 28 (0, 0)) := by rw [hW0]; exact heap_alloc_new w _
  clear hW0
  have R0 := hr.kept K0 (fun _ _ h => h)
  have b0 := K0.heap hb (fun h => h)
  obtain ⟨_, d0, d1, e0, e1⟩ := block_cells2 b0
  obtain ⟨a0, a1, a2, a3, a4, a5⟩ := block_cells6 B0
  clear c0 c1 f0 f1
  have hn1 : w.heap.size < W0.heap.size := lt_of_heap B0
  go_region_law ((first
    | (refine step_append_any rfl (.tmp 16) (.tmp 20) 37 rfl 28 i0 _ 6 48 Try.underlying37 hi hz0 hz1 hz2 rfl (by decide) (.slice (some ⟨_, 0, none⟩) 0 0) 0 0 [] rfl (by first | exact (Row.laid W0 28 6 0 #[] rfl (by decide) _ rfl).kept (S := NoB) (by (repeat (first | with_reducible exact Kept.refl _ _ | with_reducible refine Kept.alloc ?_ _ | with_reducible refine Kept.drew ?_ | with_reducible refine Kept.grown ?_ hgrow1 (fun _ h => by cases h)))) (fun _ _ h => h) | exact (Row.laid (W0.alloc (.cells #[.int .i64 a.job, .int .i64 a.op, .int .i64 a.cart, .int .i64 a.pos, .int .i64 a.slot, .int .i64 a.born] 28)) 28 6 0 #[] rfl (by decide) _ (by simp)).kept (S := NoB) (by (repeat (first | with_reducible exact Kept.refl _ _ | with_reducible refine Kept.alloc ?_ _ | with_reducible refine Kept.drew ?_ | with_reducible refine Kept.grown ?_ hgrow1 (fun _ h => by cases h)))) (fun _ _ h => h)) (.slice ao l.length cap) l.length (cellsOf l) rfl (by exact (R0.kept (S := NoB) (by (repeat (first | with_reducible exact Kept.refl _ _ | with_reducible refine Kept.alloc ?_ _ | with_reducible refine Kept.drew ?_ | with_reducible refine Kept.grown ?_ hgrow1 (fun _ h => by cases h)))) (fun _ _ h => h)).src) (cells_all l) l.length (Nat.zero_add _) (cellsOf l) (List.nil_append _) (by unfold maxLen; omega) (by omega) ?_; intro ao1 cap1 w1 hrow1 hgrow1' hat1 hgr; have hgrow1 := hgr rfl; clear hgr hgrow1'; have b1 := after_grown (by (repeat (first | with_reducible exact Kept.refl _ _ | with_reducible refine Kept.alloc ?_ _ | with_reducible refine Kept.drew ?_ | with_reducible refine Kept.grown ?_ hgrow1 (fun _ h => by cases h)))) hgrow1 b0 (by simp); obtain ⟨_, g0, g1, h0, h1⟩ := block_cells2 b1; have B1 := after_grown (by (repeat (first | with_reducible exact Kept.refl _ _ | with_reducible refine Kept.alloc ?_ _ | with_reducible refine Kept.drew ?_ | with_reducible refine Kept.grown ?_ hgrow1 (fun _ h => by cases h)))) hgrow1 B0 (by simp); obtain ⟨p0, p1, p2, p3, p4, p5⟩ := block_cells6 B1; have hne1 : ∀ k, (Value.slice ao1 l.length cap1).ownBlock = some k → w.heap.size < k := (by intro k hk; rcases hat1 with h | h <;> rw [h] at hk <;> simp [Value.ownBlock] at hk <;> omega))
    | (refine step_append_any rfl (.tmp 21) (.tmp 23) 37 rfl 28 i0 _ 6 48 Try.underlying37 hi hz0 hz1 hz2 rfl (by decide) (.slice ao1 l.length cap1) l.length cap1 (cellsOf l) rfl (by exact hrow1.kept (S := NoB) (by (repeat (first | with_reducible exact Kept.refl _ _ | with_reducible refine Kept.alloc ?_ _ | with_reducible refine Kept.drew ?_ | with_reducible refine Kept.grown ?_ hgrow1 (fun _ h => by cases h)))) (fun _ _ h => h)) (.slice (some ⟨_, 0, none⟩) 1 1) 1 a.cells rfl (by first | exact ((Row.laid w1 28 6 1 #[.int .i64 a.job, .int .i64 a.op, .int .i64 a.cart, .int .i64 a.pos, .int .i64 a.slot, .int .i64 a.born] rfl (by decide) _ rfl).kept (S := NoB) (by (repeat (first | with_reducible exact Kept.refl _ _ | with_reducible refine Kept.alloc ?_ _ | with_reducible refine Kept.drew ?_ | with_reducible refine Kept.grown ?_ hgrow1 (fun _ h => by cases h)))) (fun _ _ h => h)).src | exact ((Row.laid W0 28 6 1 #[.int .i64 a.job, .int .i64 a.op, .int .i64 a.cart, .int .i64 a.pos, .int .i64 a.slot, .int .i64 a.born] rfl (by decide) _ rfl).kept (S := NoB) (by (repeat (first | with_reducible exact Kept.refl _ _ | with_reducible refine Kept.alloc ?_ _ | with_reducible refine Kept.drew ?_ | with_reducible refine Kept.grown ?_ hgrow1 (fun _ h => by cases h)))) (fun _ _ h => h)).src | exact ((Row.laid (W0.alloc (.cells #[] 28)) 28 6 1 #[.int .i64 a.job, .int .i64 a.op, .int .i64 a.cart, .int .i64 a.pos, .int .i64 a.slot, .int .i64 a.born] rfl (by decide) _ (by simp)).kept (S := NoB) (by (repeat (first | with_reducible exact Kept.refl _ _ | with_reducible refine Kept.alloc ?_ _ | with_reducible refine Kept.drew ?_ | with_reducible refine Kept.grown ?_ hgrow1 (fun _ h => by cases h)))) (fun _ _ h => h)).src) (cells_one a) (l.length + 1) rfl (cellsOf l ++ a.cells) rfl (by unfold maxLen; omega) (by omega) ?_; intro ao2 cap2 w2 hrow2 hgrow2 hat2 _; have b2 := after_grown (w := w1) (by (repeat (first | with_reducible exact Kept.refl _ _ | with_reducible refine Kept.alloc ?_ _ | with_reducible refine Kept.drew ?_ | with_reducible refine Kept.grown ?_ hgrow1 (fun _ h => by cases h)))) hgrow2 b1 (fun e => by have := hne1 _ e; omega); obtain ⟨_, x0, x1, y0, y1⟩ := block_cells2 b2; have K2 : Kept NoB w W0 := K0; have K3 : Kept NoB w w2 := (K2.then (by (repeat (first | with_reducible exact Kept.refl _ _ | with_reducible refine Kept.alloc ?_ _ | with_reducible refine Kept.drew ?_ | with_reducible refine Kept.grown ?_ hgrow1 (fun _ h => by cases h))))).grown hgrow2 (fun k e h => by have := hne1 k e; omega); have hfr := fresh_row hrow2 (by omega) hat2 (fun k hk => Nat.le_of_lt (hne1 k hk)) (K2.then (by (repeat (first | with_reducible exact Kept.refl _ _ | with_reducible refine Kept.alloc ?_ _ | with_reducible refine Kept.drew ?_ | with_reducible refine Kept.grown ?_ hgrow1 (fun _ h => by cases h))))).size)))
  all_goals
    go_wp2
    go_ret
    exact ⟨rfl, ref_after (l' := l ++ [a]) (by simp) b2 K3 (by rw [cellsOf_append, cellsOf_one]; exact hrow2) hfr hlt⟩
end Go.Proofs.Ytjagoljaocbdcaa
