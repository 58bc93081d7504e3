/- The walk of the law QueueOrder. -/
import Derived.Test.YtjagoljaocbdcaaIn
import Derived.Test.YtjagoljaocbdcaaOpen
import Derived.Deep.RegionHeld3
import Derived.IntWalk
namespace Go.Proofs.Ytjagoljaocbdcaa
open Go.RowKit

set_option maxHeartbeats 4000000 in
theorem order_full (b off cap : Nat) (l : List Ask) (w : World) (hM : 60 < l.length) (hin : ∀ i a, l[i]? = some a → ∀ j u, a.cells[j]? = some u → w.cell? ⟨b, off + (i * 6 + j), none⟩ = some u) :
    Calls Try.prog 4 #[.slice (some ⟨b, off, none⟩) l.length cap] w fun e w' => e = .returned (.bool true) ∧ Kept NoB w w' := by
  have HIN := Lib.hid hin
  clear hin
  go_enter Try.func4, Try.ntmps4
  go_wp2_with fail
  refine (st_new 60 w _ (by repeat (first | with_reducible exact Kept.refl _ _ | with_reducible refine Kept.alloc ?_ _ | with_reducible refine Kept.drewN ?_ _ | with_reducible refine Kept.drew ?_))).mono ?_
  rintro e w1 ⟨rfl, s1⟩
  generalize w.heap.size = bq at s1
  have S1 := Lib.hid s1
  clear s1
  go_wp2_with fail
  go_loopw [4] (fun i wr => ∃ k : Nat, k ≤ 60 ∧ i = .int .i64 k ∧ St w wr bq 60 (l.take k)) (fun i _ => 60 - (intOf i).toNat)
  case atStart => exact ⟨0, Nat.zero_le _, rfl, S1.out⟩
  case round =>
    obtain ⟨k, hk, rfl, hst⟩ := hrel
    by_cases hlt : k < 60
    · have hkl : k < l.length := by omega
      have hk6 : k < 60 := by omega
      obtain ⟨x, hx⟩ : ∃ x, l[k] = x := ⟨_, rfl⟩
      obtain ⟨x0, x1, x2, x3, x4, x5⟩ := in_get hst.old hkl hx HIN.out
      have HP := Lib.hid (st_push_yes bq 60 (l.take k) x w wr hst (by decide) (by simp; omega))
      have HT := Lib.hid (List.take_succ_eq_append_getElem hkl)
      rw [hx] at HT
      unfold Ask.val Ask.arr at HP
      clear hst hx
      go_wp2_with (go_at_call 15; refine HP.out.mono ?_; rintro e w2 ⟨rfl, s2⟩)
      go_roundw
      case rel => exact ⟨k + 1, by omega, by go_num, by rw [HT.out]; exact s2⟩
      case measure => simp [intOf]; omega
    · have hkM : k = 60 := by omega
      subst hkM
      obtain ⟨x, hx⟩ : ∃ x, l[60] = x := ⟨_, rfl⟩
      obtain ⟨x0, x1, x2, x3, x4, x5⟩ := in_get hst.old hM hx HIN.out
      have HP := Lib.hid (st_push_no bq 60 (l.take 60) x w wr hst (by decide) (by simp; omega))
      unfold Ask.val Ask.arr at HP
      clear hst hx
      go_wp2_with (go_at_call 15; refine HP.out.mono ?_; rintro e w2 ⟨rfl, s2⟩)
      have HS2 := Lib.hid s2
      clear s2
      go_loopw [5] (fun i wr => ∃ j : Nat, j ≤ 60 ∧ i = .int .i64 j ∧ St w wr bq 60 ((l.take 60).drop j)) (fun i _ => 60 - (intOf i).toNat)
      case atStart => exact ⟨0, Nat.zero_le _, rfl, by rw [List.drop_zero]; exact HS2.out⟩
      case round =>
        obtain ⟨j, hj, rfl, hst⟩ := hrel
        by_cases hlt : j < 60
        · have hjl : j < l.length := by omega
          obtain ⟨x, hx⟩ : ∃ x, l[j] = x := ⟨_, rfl⟩
          have HT := Lib.hid (st_take0 bq 60 l 60 j x w wr hst hlt (by omega) hx)
          unfold Ask.val Ask.arr at HT
          clear hst
          go_wp2_with (go_at_call 10; refine HT.out.mono ?_; rintro e w3 ⟨rfl, s3⟩)
          obtain ⟨x0, x1, x2, x3, x4, x5⟩ := in_get s3.old hjl hx HIN.out
          have HA : Hid ((fun W => (W.cell? ⟨w3.heap.size, 0, none⟩ = some (.int .i64 x.job) ∧ W.cell? ⟨w3.heap.size, 1, none⟩ = some (.int .i64 x.op) ∧ W.cell? ⟨w3.heap.size, 2, none⟩ = some (.int .i64 x.cart) ∧ W.cell? ⟨w3.heap.size, 3, none⟩ = some (.int .i64 x.pos) ∧ W.cell? ⟨w3.heap.size, 4, none⟩ = some (.int .i64 x.slot) ∧ W.cell? ⟨w3.heap.size, 5, none⟩ = some (.int .i64 x.born)) ∧ (W.cell? ⟨b, off + j * 6, none⟩ = some (.int .i64 x.job) ∧ W.cell? ⟨b, off + j * 6 + 1, none⟩ = some (.int .i64 x.op) ∧ W.cell? ⟨b, off + j * 6 + 2, none⟩ = some (.int .i64 x.cart) ∧ W.cell? ⟨b, off + j * 6 + 3, none⟩ = some (.int .i64 x.pos) ∧ W.cell? ⟨b, off + j * 6 + 4, none⟩ = some (.int .i64 x.slot) ∧ W.cell? ⟨b, off + j * 6 + 5, none⟩ = some (.int .i64 x.born)) ∧ St w W bq 60 ((l.take 60).drop (j + 1))) (w3.alloc (.cells #[.int .i64 x.job, .int .i64 x.op, .int .i64 x.cart, .int .i64 x.pos, .int .i64 x.slot, .int .i64 x.born] 28))) := Lib.hid (by
            have hb6 := block_cells6 (heap_alloc_new w3 (.cells x.arr 28))
            have hk : Kept NoB w3 (w3.alloc (.cells x.arr 28)) := (Kept.refl _ _).alloc _
            exact ⟨hb6, ⟨hk.cell x0 (fun h => h), hk.cell x1 (fun h => h), hk.cell x2 (fun h => h), hk.cell x3 (fun h => h), hk.cell x4 (fun h => h), hk.cell x5 (fun h => h)⟩, s3.kept hk⟩)
          have HSM := Lib.hid (fun W => same_self x W)
          have HLN := Lib.hid (fun (W : World) (h : St w W bq 60 ((l.take 60).drop (j + 1))) => st_len bq 60 ((l.take 60).drop (j + 1)) w W h)
          have hlen2 : ((((l.take 60).drop (j + 1)).length : Nat) : Int) = 59 - j := by simp only [List.length_drop, List.length_take]; omega
          rw [hlen2] at HLN
          clear hlen2 x0 x1 x2 x3 x4 x5 s3 hx
          have hw2 : IntKind.i64.wrap (59 - (j : Int)) = 59 - j := IntWalk.i64_in _ (by omega)
          have hw0 : IntKind.i64.wrap 59 = 59 := by decide
          have hj0 : (0 : Int) ≤ (j : Int) := Int.natCast_nonneg j
          have hj1 : (j : Int) < (l.length : Int) := Int.ofNat_lt.2 hjl
          unfold Ask.val Ask.arr at HSM
          go_region_held3 (fun W => (W.cell? ⟨w3.heap.size, 0, none⟩ = some (.int .i64 x.job) ∧ W.cell? ⟨w3.heap.size, 1, none⟩ = some (.int .i64 x.op) ∧ W.cell? ⟨w3.heap.size, 2, none⟩ = some (.int .i64 x.cart) ∧ W.cell? ⟨w3.heap.size, 3, none⟩ = some (.int .i64 x.pos) ∧ W.cell? ⟨w3.heap.size, 4, none⟩ = some (.int .i64 x.slot) ∧ W.cell? ⟨w3.heap.size, 5, none⟩ = some (.int .i64 x.born)) ∧ (W.cell? ⟨b, off + j * 6, none⟩ = some (.int .i64 x.job) ∧ W.cell? ⟨b, off + j * 6 + 1, none⟩ = some (.int .i64 x.op) ∧ W.cell? ⟨b, off + j * 6 + 2, none⟩ = some (.int .i64 x.cart) ∧ W.cell? ⟨b, off + j * 6 + 3, none⟩ = some (.int .i64 x.pos) ∧ W.cell? ⟨b, off + j * 6 + 4, none⟩ = some (.int .i64 x.slot) ∧ W.cell? ⟨b, off + j * 6 + 5, none⟩ = some (.int .i64 x.born)) ∧ St w W bq 60 ((l.take 60).drop (j + 1)))
            (first | (with_reducible assumption) | (exact so_kept (by with_reducible assumption) k4) | (exact so_kept HA.out (Kept.drew (Kept.refl _ _))))
            (first
              | (go_at_call 12; refine (HSM.out _).mono ?_; rintro e w4 ⟨rfl, k4⟩)
              | (go_at_call 17; refine (HLN.out _ (so_st (by with_reducible assumption))).mono ?_; rintro e w5 ⟨rfl, rfl⟩))
          go_wp2_with fail
          go_roundw
          case rel => exact ⟨j + 1, by omega, by go_num, so_st (by assumption)⟩
          case measure => simp [intOf]; omega
        · have hjM : j = 60 := by omega
          subst hjM
          have hz : (l.take 60).drop 60 = [] := by rw [List.drop_eq_nil_iff, List.length_take]; omega
          rw [hz] at hst
          have HT := Lib.hid (st_take bq 60 [] 0 w wr hst)
          clear hst hz
          go_wp2_with (go_at_call 10; refine HT.out.mono ?_; rintro e w3 ⟨he, s3⟩; obtain rfl : e = .returned (.tuple #[.agg #[.int .i64 0, .int .i64 0, .int .i64 0, .int .i64 0, .int .i64 0, .int .i64 0], .bool false]) := he; have HS3 := Lib.hid (s3.kept ((Kept.refl _ _).alloc (.cells Ask.zero.arr 28))); clear s3)
          go_wp2_with (go_at_call 20; refine (awake_any _).mono ?_; rintro e w5 ⟨rfl, k5⟩; have HS5 := Lib.hid (HS3.out.kept k5))
          go_wp2_with (go_at_call 19; refine (st_all bq 60 [] w _ HS5.out (by decide)).mono ?_; rintro e w6 ⟨v, rfl, ⟨ao, rfl⟩, _, k6, _⟩; have HS6 := Lib.hid (HS5.out.old.then k6); clear k6)
          go_wp2_with fail
          go_ret
          exact ⟨rfl, HS6.out⟩

set_option maxHeartbeats 4000000 in
theorem order_part (b off cap : Nat) (l : List Ask) (w : World) (hmax : l.length ≤ maxLen) (hM : l.length ≤ 60) (hin : ∀ i a, l[i]? = some a → ∀ j u, a.cells[j]? = some u → w.cell? ⟨b, off + (i * 6 + j), none⟩ = some u) :
    Calls Try.prog 4 #[.slice (some ⟨b, off, none⟩) l.length cap] w fun e w' => e = .returned (.bool true) ∧ Kept NoB w w' := by
  have HIN := Lib.hid hin
  clear hin
  go_enter Try.func4, Try.ntmps4
  go_wp2_with fail
  refine (st_new 60 w _ (by repeat (first | with_reducible exact Kept.refl _ _ | with_reducible refine Kept.alloc ?_ _ | with_reducible refine Kept.drewN ?_ _ | with_reducible refine Kept.drew ?_))).mono ?_
  rintro e w1 ⟨rfl, s1⟩
  generalize w.heap.size = bq at s1
  have S1 := Lib.hid s1
  clear s1
  go_wp2_with fail
  go_loopw [4] (fun i wr => ∃ k : Nat, k ≤ l.length ∧ i = .int .i64 k ∧ St w wr bq 60 (l.take k)) (fun i _ => 60 - (intOf i).toNat)
  case atStart => exact ⟨0, Nat.zero_le _, rfl, S1.out⟩
  case round =>
    obtain ⟨k, hk, rfl, hst⟩ := hrel
    by_cases hlt : k < l.length
    · have hkl : k < l.length := by omega
      have hk6 : k < 60 := by omega
      obtain ⟨x, hx⟩ : ∃ x, l[k] = x := ⟨_, rfl⟩
      obtain ⟨x0, x1, x2, x3, x4, x5⟩ := in_get hst.old hkl hx HIN.out
      have HP := Lib.hid (st_push_yes bq 60 (l.take k) x w wr hst (by decide) (by simp; omega))
      have HT := Lib.hid (List.take_succ_eq_append_getElem hkl)
      rw [hx] at HT
      unfold Ask.val Ask.arr at HP
      clear hst hx
      go_wp2_with (go_at_call 15; refine HP.out.mono ?_; rintro e w2 ⟨rfl, s2⟩)
      go_roundw
      case rel => exact ⟨k + 1, by omega, by go_num, by rw [HT.out]; exact s2⟩
      case measure => simp [intOf]; omega
    · have hkM : k = l.length := by omega
      subst hkM
      have s2 := hst
      clear hst
      have HS2 := Lib.hid s2
      clear s2
      go_wp2_with fail
      go_loopw [5] (fun i wr => ∃ j : Nat, j ≤ l.length ∧ i = .int .i64 j ∧ St w wr bq 60 ((l.take l.length).drop j)) (fun i _ => l.length - (intOf i).toNat)
      case atStart => exact ⟨0, Nat.zero_le _, rfl, by rw [List.drop_zero]; exact HS2.out⟩
      case round =>
        obtain ⟨j, hj, rfl, hst⟩ := hrel
        by_cases hlt : j < l.length
        · have hjl : j < l.length := by omega
          obtain ⟨x, hx⟩ : ∃ x, l[j] = x := ⟨_, rfl⟩
          have HT := Lib.hid (st_take0 bq 60 l l.length j x w wr hst hlt (by omega) hx)
          unfold Ask.val Ask.arr at HT
          clear hst
          go_wp2_with (go_at_call 10; refine HT.out.mono ?_; rintro e w3 ⟨rfl, s3⟩)
          obtain ⟨x0, x1, x2, x3, x4, x5⟩ := in_get s3.old hjl hx HIN.out
          have HA : Hid ((fun W => (W.cell? ⟨w3.heap.size, 0, none⟩ = some (.int .i64 x.job) ∧ W.cell? ⟨w3.heap.size, 1, none⟩ = some (.int .i64 x.op) ∧ W.cell? ⟨w3.heap.size, 2, none⟩ = some (.int .i64 x.cart) ∧ W.cell? ⟨w3.heap.size, 3, none⟩ = some (.int .i64 x.pos) ∧ W.cell? ⟨w3.heap.size, 4, none⟩ = some (.int .i64 x.slot) ∧ W.cell? ⟨w3.heap.size, 5, none⟩ = some (.int .i64 x.born)) ∧ (W.cell? ⟨b, off + j * 6, none⟩ = some (.int .i64 x.job) ∧ W.cell? ⟨b, off + j * 6 + 1, none⟩ = some (.int .i64 x.op) ∧ W.cell? ⟨b, off + j * 6 + 2, none⟩ = some (.int .i64 x.cart) ∧ W.cell? ⟨b, off + j * 6 + 3, none⟩ = some (.int .i64 x.pos) ∧ W.cell? ⟨b, off + j * 6 + 4, none⟩ = some (.int .i64 x.slot) ∧ W.cell? ⟨b, off + j * 6 + 5, none⟩ = some (.int .i64 x.born)) ∧ St w W bq 60 ((l.take l.length).drop (j + 1))) (w3.alloc (.cells #[.int .i64 x.job, .int .i64 x.op, .int .i64 x.cart, .int .i64 x.pos, .int .i64 x.slot, .int .i64 x.born] 28))) := Lib.hid (by
            have hb6 := block_cells6 (heap_alloc_new w3 (.cells x.arr 28))
            have hk : Kept NoB w3 (w3.alloc (.cells x.arr 28)) := (Kept.refl _ _).alloc _
            exact ⟨hb6, ⟨hk.cell x0 (fun h => h), hk.cell x1 (fun h => h), hk.cell x2 (fun h => h), hk.cell x3 (fun h => h), hk.cell x4 (fun h => h), hk.cell x5 (fun h => h)⟩, s3.kept hk⟩)
          have HSM := Lib.hid (fun W => same_self x W)
          have HLN := Lib.hid (fun (W : World) (h : St w W bq 60 ((l.take l.length).drop (j + 1))) => st_len bq 60 ((l.take l.length).drop (j + 1)) w W h)
          have hlen2 : ((((l.take l.length).drop (j + 1)).length : Nat) : Int) = ((l.length : Int) - 1) - j := by simp only [List.length_drop, List.length_take]; omega
          rw [hlen2] at HLN
          clear hlen2 x0 x1 x2 x3 x4 x5 s3 hx
          have hw2 : IntKind.i64.wrap (((l.length : Int) - 1) - (j : Int)) = ((l.length : Int) - 1) - j := IntWalk.i64_in _ (by unfold maxLen at hmax; omega)
          have hw1 : IntKind.i64.wrap ((l.length : Int) - 1) = (l.length : Int) - 1 := IntWalk.i64_in _ (by unfold maxLen at hmax; omega)
          have hj0 : (0 : Int) ≤ (j : Int) := Int.natCast_nonneg j
          have hj1 : (j : Int) < (l.length : Int) := Int.ofNat_lt.2 hjl
          unfold Ask.val Ask.arr at HSM
          go_region_held3 (fun W => (W.cell? ⟨w3.heap.size, 0, none⟩ = some (.int .i64 x.job) ∧ W.cell? ⟨w3.heap.size, 1, none⟩ = some (.int .i64 x.op) ∧ W.cell? ⟨w3.heap.size, 2, none⟩ = some (.int .i64 x.cart) ∧ W.cell? ⟨w3.heap.size, 3, none⟩ = some (.int .i64 x.pos) ∧ W.cell? ⟨w3.heap.size, 4, none⟩ = some (.int .i64 x.slot) ∧ W.cell? ⟨w3.heap.size, 5, none⟩ = some (.int .i64 x.born)) ∧ (W.cell? ⟨b, off + j * 6, none⟩ = some (.int .i64 x.job) ∧ W.cell? ⟨b, off + j * 6 + 1, none⟩ = some (.int .i64 x.op) ∧ W.cell? ⟨b, off + j * 6 + 2, none⟩ = some (.int .i64 x.cart) ∧ W.cell? ⟨b, off + j * 6 + 3, none⟩ = some (.int .i64 x.pos) ∧ W.cell? ⟨b, off + j * 6 + 4, none⟩ = some (.int .i64 x.slot) ∧ W.cell? ⟨b, off + j * 6 + 5, none⟩ = some (.int .i64 x.born)) ∧ St w W bq 60 ((l.take l.length).drop (j + 1)))
            (first | (with_reducible assumption) | (exact so_kept (by with_reducible assumption) k4) | (exact so_kept HA.out (Kept.drew (Kept.refl _ _))))
            (first
              | (go_at_call 12; refine (HSM.out _).mono ?_; rintro e w4 ⟨rfl, k4⟩)
              | (go_at_call 17; refine (HLN.out _ (so_st (by with_reducible assumption))).mono ?_; rintro e w5 ⟨rfl, rfl⟩))
          go_wp2_with fail
          go_roundw
          case rel => exact ⟨j + 1, by omega, by go_num, so_st (by assumption)⟩
          case measure => simp [intOf]; omega
        · have hjM : j = l.length := by omega
          subst hjM
          have hz : (l.take l.length).drop l.length = [] := by rw [List.drop_eq_nil_iff, List.length_take]; omega
          rw [hz] at hst
          have HT := Lib.hid (st_take bq 60 [] 0 w wr hst)
          clear hst hz
          go_wp2_with (go_at_call 10; refine HT.out.mono ?_; rintro e w3 ⟨he, s3⟩; obtain rfl : e = .returned (.tuple #[.agg #[.int .i64 0, .int .i64 0, .int .i64 0, .int .i64 0, .int .i64 0, .int .i64 0], .bool false]) := he; have HS3 := Lib.hid (s3.kept ((Kept.refl _ _).alloc (.cells Ask.zero.arr 28))); clear s3)
          go_wp2_with (go_at_call 20; refine (awake_any _).mono ?_; rintro e w5 ⟨rfl, k5⟩; have HS5 := Lib.hid (HS3.out.kept k5))
          go_wp2_with (go_at_call 19; refine (st_all bq 60 [] w _ HS5.out (by decide)).mono ?_; rintro e w6 ⟨v, rfl, ⟨ao, rfl⟩, _, k6, _⟩; have HS6 := Lib.hid (HS5.out.old.then k6); clear k6)
          go_wp2_with fail
          go_ret
          exact ⟨rfl, HS6.out⟩

set_option maxHeartbeats 4000000 in
theorem order_nil (ao : Option Addr) (cap : Nat) (w : World) :
    Calls Try.prog 4 #[.slice ao 0 cap] w fun e w' => e = .returned (.bool true) ∧ Kept NoB w w' := by
  go_enter Try.func4, Try.ntmps4
  go_wp2_with fail
  refine (st_new 60 w _ (by repeat (first | with_reducible exact Kept.refl _ _ | with_reducible refine Kept.alloc ?_ _ | with_reducible refine Kept.drewN ?_ _ | with_reducible refine Kept.drew ?_))).mono ?_
  rintro e w1 ⟨rfl, s1⟩
  generalize w.heap.size = bq at s1
  have S1 := Lib.hid s1
  clear s1
  go_wp2_with fail
  go_loopw [4] (fun i wr => ∃ k : Nat, k ≤ 0 ∧ i = .int .i64 k ∧ St w wr bq 60 (([] : List Ask).take k)) (fun i _ => 60 - (intOf i).toNat)
  case atStart => exact ⟨0, Nat.zero_le _, rfl, S1.out⟩
  case round =>
    obtain ⟨k, hk, rfl, hst⟩ := hrel
    by_cases hlt : k < 0
    · omega
    · have hkM : k = 0 := by omega
      subst hkM
      have s2 := hst
      clear hst
      have HS2 := Lib.hid s2
      clear s2
      go_wp2_with fail
      go_loopw [5] (fun i wr => ∃ j : Nat, j ≤ 0 ∧ i = .int .i64 j ∧ St w wr bq 60 ((([] : List Ask).take 0).drop j)) (fun i _ => 0 - (intOf i).toNat)
      case atStart => exact ⟨0, Nat.zero_le _, rfl, by rw [List.drop_zero]; exact HS2.out⟩
      case round =>
        obtain ⟨j, hj, rfl, hst⟩ := hrel
        by_cases hlt : j < 0
        · omega
        · have hjM : j = 0 := by omega
          subst hjM
          have hz : (([] : List Ask).take 0).drop 0 = [] := by rw [List.drop_eq_nil_iff, List.length_take]; omega
          rw [hz] at hst
          have HT := Lib.hid (st_take bq 60 [] 0 w wr hst)
          clear hst hz
          go_wp2_with (go_at_call 10; refine HT.out.mono ?_; rintro e w3 ⟨he, s3⟩; obtain rfl : e = .returned (.tuple #[.agg #[.int .i64 0, .int .i64 0, .int .i64 0, .int .i64 0, .int .i64 0, .int .i64 0], .bool false]) := he; have HS3 := Lib.hid (s3.kept ((Kept.refl _ _).alloc (.cells Ask.zero.arr 28))); clear s3)
          go_wp2_with (go_at_call 20; refine (awake_any _).mono ?_; rintro e w5 ⟨rfl, k5⟩; have HS5 := Lib.hid (HS3.out.kept k5))
          go_wp2_with (go_at_call 19; refine (st_all bq 60 [] w _ HS5.out (by decide)).mono ?_; rintro e w6 ⟨v, rfl, ⟨ao, rfl⟩, _, k6, _⟩; have HS6 := Lib.hid (HS5.out.old.then k6); clear k6)
          go_wp2_with fail
          go_ret
          exact ⟨rfl, HS6.out⟩

theorem order_any (ao : Option Addr) (n cap : Nat) (l : List Ask) (w : World) (h : InAsks w ao n l) :
    Calls Try.prog 4 #[.slice ao n cap] w fun e w' => e = .returned (.bool true) ∧ Kept NoB w w' := by
  obtain ⟨rfl, hmax, h0 | ⟨b, off, rfl, hin⟩⟩ := h
  · rw [h0]; exact order_nil ao cap w
  · by_cases hM : 60 < l.length
    · exact order_full b off cap l w hM hin
    · exact order_part b off cap l w hmax (by omega) hin
end Go.Proofs.Ytjagoljaocbdcaa
