/- The walk of the law QueueNone. -/
import Derived.Test.YtjagoljaocbdcaaQA
namespace Go.Proofs.Ytjagoljaocbdcaa
open Go.RowKit

set_option maxHeartbeats 1000000 in
theorem none_any (n : Int) (a : Ask) (w : World) :
    Calls Try.prog 7 #[.int .i64 n, a.val] w fun e w' => e = .returned (.bool true) ∧ Kept NoB w w' := by
  unfold Ask.val Ask.arr
  go_enter Try.func7, Try.ntmps7
  go_wp2_with fail
  refine (take_nil n _).mono ?_
  rintro e w1 ⟨he, k1⟩
  obtain rfl : e = .returned (.tuple #[.agg #[.int .i64 0, .int .i64 0, .int .i64 0, .int .i64 0, .int .i64 0, .int .i64 0], .bool false]) := he
  have bx := k1.heap (heap_alloc_new w (.cells a.arr 28)) (fun h => h)
  have hlt := lt_of_heap bx
  obtain ⟨x0, x1, x2, x3, x4, x5⟩ := block_cells6 bx
  have K1 : Kept NoB w w1 := (Kept.alloc (Kept.refl _ _) _).then k1
  go_wp2_with fail
  refine (push_nil a _).mono ?_
  rintro e w2 ⟨rfl, k2⟩
  have by2 := k2.heap (heap_alloc_new w1 (.cells Ask.zero.arr 28)) (fun h => h)
  obtain ⟨y0, y1, y2, y3, y4, y5⟩ := block_cells6 by2
  have K2 : Kept NoB w w2 := (K1.alloc _).then k2
  go_wp2_with fail
  refine (same_self Ask.zero _).mono ?_
  rintro e w3 ⟨rfl, k3⟩
  have K3 := K2.then k3
  go_wp2_with fail
  refine (drop_nil n _).mono ?_
  rintro e w4 ⟨rfl, k4⟩
  have K4 := K3.then k4
  go_wp2_with fail
  refine (len_nil _).mono ?_
  rintro e w5 ⟨rfl, rfl⟩
  go_wp2_with fail
  refine (all_nil _).mono ?_
  rintro e w6 ⟨rfl, rfl⟩
  go_wp2_with fail
  have bx4 := ((k2.of_none (S := NoB)).then k3 |>.then k4).heap ((show Kept NoB w1 (w1.alloc (.cells Ask.zero.arr 28)) from Kept.alloc (Kept.refl _ _) _).heap bx (fun h => h)) (fun h => h)
  refine (st_new 0 w4 _ (Kept.refl _ _)).mono ?_
  rintro e w7 ⟨rfl, s7⟩
  go_wp2_with fail
  refine (awake_any _).mono ?_
  rintro e w8 ⟨rfl, k8⟩
  have s8 := s7.kept k8
  obtain ⟨z0, z1, z2, z3, z4, z5⟩ := block_cells6 (s8.old.heap bx4 (fun h => h))
  go_wp2_with fail
  refine (st_push_no _ _ _ a w4 _ s8 (clamp_le 0).2 (by decide)).mono ?_
  rintro e w9 ⟨rfl, s9⟩
  clear z0 z1 z2 z3 z4 z5
  go_wp2_with fail
  refine (st_len _ _ _ w4 _ s9).mono ?_
  rintro e w10 ⟨he, rfl⟩
  obtain rfl : e = .returned (.int .i64 0) := he
  obtain ⟨z0, z1, z2, z3, z4, z5⟩ := block_cells6 (s9.old.heap bx4 (fun h => h))
  go_wp2_with fail
  refine (st_drop _ _ _ a.job w4 _ s9 (by decide)).mono ?_
  rintro e w11 ⟨he, s11⟩
  obtain rfl : e = .returned (.int .i64 0) := he
  go_wp2_with fail
  go_ret
  exact ⟨rfl, K4.then s11.old⟩
end Go.Proofs.Ytjagoljaocbdcaa
