/- Walks: the reference's Take. -/
import Derived.Test.YtjagoljaocbdcaaQ8
import Derived.Test.YtjagoljaocbdcaaQ2
namespace Go.Proofs.Ytjagoljaocbdcaa
open Go.RowKit

set_option maxHeartbeats 1000000 in
theorem reftake_out (br : Nat) (most : Int) (l : List Ask) (gr : Option Nat) (i : Int) (w : World) (h : RAt w br most l gr) (hi : i < 0 ∨ (l.length : Int) ≤ i) :
    Calls Try.prog 11 #[.pointer (some ⟨br, 0, none⟩), .int .i64 i] w fun e w' => e = .returned (.tuple #[Ask.zero.val, .bool false]) ∧ Kept NoB w w' := by
  obtain ⟨v, cap, hb, hr, hg⟩ := h
  obtain ⟨ao, rfl⟩ := hr.form
  obtain ⟨hlt, c0, c1, f0, f1⟩ := block_cells2 hb
  by_cases hi0 : i < 0
  · go_enter Try.func11, Try.ntmps11
    go_wp2
    exact bodyPost_ret (v := .tuple #[.agg #[.int .i64 0, .int .i64 0, .int .i64 0, .int .i64 0, .int .i64 0, .int .i64 0], .bool false]) (by simp [results, Try.results11, go_sem]) rfl ⟨rfl, (by repeat (first | with_reducible exact Kept.refl _ _ | with_reducible refine Kept.alloc ?_ _ | with_reducible refine Kept.drewN ?_ _ | with_reducible refine Kept.drew ?_))⟩
  · have hi1 : (l.length : Int) ≤ i := by omega
    go_enter Try.func11, Try.ntmps11
    go_wp2
    exact bodyPost_ret (v := .tuple #[.agg #[.int .i64 0, .int .i64 0, .int .i64 0, .int .i64 0, .int .i64 0, .int .i64 0], .bool false]) (by simp [results, Try.results11, go_sem]) rfl ⟨rfl, (by repeat (first | with_reducible exact Kept.refl _ _ | with_reducible refine Kept.alloc ?_ _ | with_reducible refine Kept.drewN ?_ _ | with_reducible refine Kept.drew ?_))⟩

/-- behind the store of a new row into the reference's queue, and six stores into a box of the call's own -/
theorem ref_after2 {w w2 : World} {br : Nat} {most : Int} {l' : List Ask} {v : Value} {ao2 : Option Addr} {n' cap2 : Nat} (hn : l'.length = n') (hb : w2.heap[br]? = some (.cells #[v, .int .i64 most] 39 (0, 0))) (hk : Kept NoB w w2)
    (hrow : Row w2 28 6 (.slice ao2 n' cap2) n' cap2 (cellsOf l')) (hfr : ∀ k, (Value.slice ao2 n' cap2).ownBlock = some k → w.heap.size < k) (hlt : br < w.heap.size) (u0 u1 u2 u3 u4 u5 : Value) :
    ∃ g', RAt (((((((w2.setCell ⟨br, 0, none⟩ (.slice ao2 n' cap2)).setCell ⟨w.heap.size, 0, none⟩ u0).setCell ⟨w.heap.size, 1, none⟩ u1).setCell ⟨w.heap.size, 2, none⟩ u2).setCell ⟨w.heap.size, 3, none⟩ u3).setCell ⟨w.heap.size, 4, none⟩ u4).setCell ⟨w.heap.size, 5, none⟩ u5) br most l' g' ∧
      Kept (fun k => k = br) w (((((((w2.setCell ⟨br, 0, none⟩ (.slice ao2 n' cap2)).setCell ⟨w.heap.size, 0, none⟩ u0).setCell ⟨w.heap.size, 1, none⟩ u1).setCell ⟨w.heap.size, 2, none⟩ u2).setCell ⟨w.heap.size, 3, none⟩ u3).setCell ⟨w.heap.size, 4, none⟩ u4).setCell ⟨w.heap.size, 5, none⟩ u5) ∧ (∀ k, g' = some k → w.heap.size ≤ k) := by
  subst hn
  refine ⟨(Value.slice ao2 l'.length cap2).ownBlock, ?_, ?_, fun k hk => Nat.le_of_lt (hfr k hk)⟩
  · refine RAt.kept (S := fun k => k = w.heap.size) (w := w2.setCell ⟨br, 0, none⟩ (.slice ao2 l'.length cap2)) ⟨_, cap2, heap_setCell_same w2 br 0 _ 39 _ hb, ?_, rfl⟩ (Kept.six (S := fun k => k = w.heap.size) (Kept.refl _ _) w.heap.size (fun _ => rfl) _ _ _ _ _ _) (fun h => by omega) (fun k hk h => by have := hfr k hk; omega)
    exact hrow.kept (S := fun k => k = br) (Kept.setCell (S := fun k => k = br) (p := ⟨br, 0, none⟩) (Kept.refl _ _) (fun _ => rfl) _) (fun k hk' e => by have := hfr k hk'; omega)
  · exact Kept.six (Kept.setCell (S := fun k => k = br) (p := ⟨br, 0, none⟩) hk.of_none (fun _ => rfl) _) _ (fun h => absurd h (Nat.lt_irrefl _)) _ _ _ _ _ _

set_option maxHeartbeats 2000000 in
theorem reftake_mid (br : Nat) (most : Int) (l : List Ask) (i : Nat) (w : World) (g cap : Nat) (hb : w.heap[br]? = some (.cells #[.slice (some ⟨g, 0, none⟩) l.length cap, .int .i64 most] 39 (0, 0))) (hr : Asks w (.slice (some ⟨g, 0, none⟩) l.length cap) l cap)
    (hi : i < l.length) (hlen : l.length ≤ 4096) (hnc : l.length ≤ cap) (hcm : cap ≤ maxLen) (hci : ¬ cap = i + 1) :
    Calls Try.prog 11 #[.pointer (some ⟨br, 0, none⟩), .int .i64 i] w fun e w' => e = .returned (.tuple #[l[i].val, .bool true]) ∧ ∃ g', RAt w' br most (l.eraseIdx i) g' ∧ Kept (fun k => k = br) w w' ∧ (∀ k, g' = some k → w.heap.size ≤ k) := by
  obtain ⟨hlt, c0, c1, f0, f1⟩ := block_cells2 hb
  obtain ⟨a0, a1, a2, a3, a4, a5⟩ := asks_get w g _ cap i l hr hi
  obtain ⟨i0, hi0, hz0, hz1, hz2⟩ := info_parts info28
  have hgw := hr.lt g rfl
  have hv : l[i].val = .agg #[.int .i64 l[i].job, .int .i64 l[i].op, .int .i64 l[i].cart, .int .i64 l[i].pos, .int .i64 l[i].slot, .int .i64 l[i].born] := rfl
  rw [hv]
  clear hv
  have HLEN := Lib.hid (show (l.eraseIdx i).length = l.length - 1 by rw [List.length_eraseIdx, if_pos hi])
  have HE := Lib.hid (cellsOf_erase l i)
  have HTK := Lib.hid (cellsOf_take l i)
  have hi1 : (i : Int) < (l.length : Int) := by omega
  unfold maxLen at hcm
  generalize l[i] = x at a0 a1 a2 a3 a4 a5 ⊢
  have HB := Lib.hid hb
  have HR := Lib.hid hr
  clear hb hr
  go_enter Try.func11, Try.ntmps11
  go_wp2_with fail
  obtain ⟨W0, hW0⟩ : ∃ W0, W0 = (w.alloc (.cells #[.int .i64 0, .int .i64 0, .int .i64 0, .int .i64 0, .int .i64 0, .int .i64 0] 28)).alloc (.cells #[.int .i64 x.job, .int .i64 x.op, .int .i64 x.cart, .int .i64 x.pos, .int .i64 x.slot, .int .i64 x.born] 28) := ⟨_, rfl⟩
  rw [← hW0]
  have K0 : Kept NoB w W0 := by rw [hW0]; exact (by repeat (first | with_reducible exact Kept.refl _ _ | with_reducible refine Kept.alloc ?_ _ | with_reducible refine Kept.drewN ?_ _ | with_reducible refine Kept.drew ?_))
  have B0 : W0.heap[w.heap.size]? = some (.cells Ask.zero.arr 28 (0, 0)) := by rw [hW0]; exact heap_alloc2_old w _ _
  have X0 : W0.heap[w.heap.size + 1]? = some (.cells x.arr 28 (0, 0)) := by rw [hW0]; exact heap_alloc2_new w _ _
  clear hW0
  have R0 : Row W0 28 6 (.slice (some ⟨g, 0, none⟩) l.length cap) l.length cap (cellsOf l) := HR.out.kept K0 (fun _ _ h => h)
  have b0 := K0.heap HB.out (fun h => h)
  obtain ⟨_, d0, d1, e0, e1⟩ := block_cells2 b0
  have hn1 : w.heap.size + 1 < W0.heap.size := lt_of_heap X0
  clear c0 c1 f0 f1 a0 a1 a2 a3 a4 a5
  have q1 : i ≤ cap := by omega
  have q4 : ¬ cap = i + 1 := hci
  have q5 : (0 : Int) ≤ (i : Int) + 1 := by omega
  have q6 : (i : Int) + 1 ≤ (l.length : Int) := by omega
  have q7 : (0 : Int) ≤ (i : Int) := by omega
  have v1 : i ≤ l.length := by omega
  have v2 : i ≤ maxLen := by unfold maxLen; omega
  have v3 : i * 48 ≤ 140737488355328 := by omega
  have v4 : i + (l.length - (i + 1)) = l.length - 1 := by omega
  have v5 : l.length - 1 ≤ maxLen := by unfold maxLen; omega
  have v6 : (l.length - 1) * 48 ≤ 140737488355328 := by omega
  have V4 := Lib.hid v4
  clear v4
  have z1 : IntKind.i64.wrap ((i : Int) + 1) = (i : Int) + 1 := IntWalk.i64_in _ (by omega)
  have z2 : ((i : Int) + 1).toNat = i + 1 := by omega
  go_region_law ((first
    | (refine step_append_any rfl (.tmp 27) (.tmp 33) 37 rfl 28 i0 _ 6 48 Try.underlying37 hi0 hz0 hz1 hz2 rfl (by decide) (.slice (some ⟨W0.heap.size, 0, none⟩) 0 0) 0 0 [] (by simp [Act.eval, Act.put]) (by exact (Row.laid W0 28 6 0 #[] rfl (by decide) _ rfl).kept (S := NoB) (by (repeat (first | with_reducible exact Kept.refl _ _ | with_reducible refine Kept.alloc ?_ _ | with_reducible refine Kept.drew ?_ | with_reducible refine Kept.grown ?_ hgrow1 (fun _ h => by cases h)))) (fun _ _ h => h)) (.slice (some ⟨g, 0, none⟩) i cap) i (cellsOf (l.take i)) (by simp [Act.eval, Act.put]) (by rw [← HTK.out]; exact ((R0.kept (S := NoB) (by (repeat (first | with_reducible exact Kept.refl _ _ | with_reducible refine Kept.alloc ?_ _ | with_reducible refine Kept.drew ?_ | with_reducible refine Kept.grown ?_ hgrow1 (fun _ h => by cases h)))) (fun _ _ h => h)).take i v1).src) (cells_all _) i (Nat.zero_add _) (cellsOf (l.take i)) (List.nil_append _) v2 v3 ?_; intro ao1 cap1 w1 hrow1 hgrow1' hat1 hgr; have hgrow1 := hgr rfl; clear hgr hgrow1'; have b1 := after_grown (by (repeat (first | with_reducible exact Kept.refl _ _ | with_reducible refine Kept.alloc ?_ _ | with_reducible refine Kept.drew ?_ | with_reducible refine Kept.grown ?_ hgrow1 (fun _ h => by cases h)))) hgrow1 b0 (by simp); obtain ⟨_, g0, g1, h0, h1⟩ := block_cells2 b1; have hne1 : ∀ k, (Value.slice ao1 i cap1).ownBlock = some k → w.heap.size + 1 < k := (by intro k hk; rcases hat1 with h | h <;> rw [h] at hk <;> simp [Value.ownBlock] at hk <;> (clear z1 z2; omega)); have R1 : Row w1 28 6 (.slice (some ⟨g, 0, none⟩) l.length cap) l.length cap (cellsOf l) := R0.kept (S := NoB) (by (repeat (first | with_reducible exact Kept.refl _ _ | with_reducible refine Kept.alloc ?_ _ | with_reducible refine Kept.drew ?_ | with_reducible refine Kept.grown ?_ hgrow1 (fun _ h => by cases h)))) (fun _ _ h => h))
    | (refine step_append_any rfl (.tmp 34) (.tmp 41) 37 rfl 28 i0 _ 6 48 Try.underlying37 hi0 hz0 hz1 hz2 rfl (by decide) (.slice ao1 i cap1) i cap1 (cellsOf (l.take i)) (by simp [Act.eval, Act.put]) (by exact hrow1.kept (S := NoB) (by (repeat (first | with_reducible exact Kept.refl _ _ | with_reducible refine Kept.alloc ?_ _ | with_reducible refine Kept.drew ?_ | with_reducible refine Kept.grown ?_ hgrow1 (fun _ h => by cases h)))) (fun _ _ h => h)) (.slice (some ⟨g, (i + 1) * 6, none⟩) (l.length - (i + 1)) (cap - (i + 1))) (l.length - (i + 1)) ((cellsOf l).drop ((i + 1) * 6)) (by simp [Act.eval, Act.put]) (by exact (R1.kept (S := NoB) (by (repeat (first | with_reducible exact Kept.refl _ _ | with_reducible refine Kept.alloc ?_ _ | with_reducible refine Kept.drew ?_ | with_reducible refine Kept.grown ?_ hgrow1 (fun _ h => by cases h)))) (fun _ _ h => h)).srcFrom (i + 1) _) (fun u hu => cells_all l u (List.mem_of_mem_drop hu)) (l.length - 1) V4.out (cellsOf (l.eraseIdx i)) (by rw [← HTK.out]; exact HE.out) v5 v6 ?_; intro ao2 cap2 w2 hrow2 hgrow2 hat2 _; have b2 := after_grown (w := w1) (by (repeat (first | with_reducible exact Kept.refl _ _ | with_reducible refine Kept.alloc ?_ _ | with_reducible refine Kept.drew ?_ | with_reducible refine Kept.grown ?_ hgrow1 (fun _ h => by cases h)))) hgrow2 b1 (fun e => by have := hne1 _ e; clear z1 z2; omega); obtain ⟨_, x0, x1, y0, y1⟩ := block_cells2 b2; have K2 : Kept NoB w W0 := K0; have K3 : Kept NoB W0 w2 := Kept.grown (by (repeat (first | with_reducible exact Kept.refl _ _ | with_reducible refine Kept.alloc ?_ _ | with_reducible refine Kept.drew ?_ | with_reducible refine Kept.grown ?_ hgrow1 (fun _ h => by cases h)))) hgrow2 (fun k e h => by have := hne1 k e; rcases hat1 with h' | h' <;> rw [h'] at e <;> simp [Value.ownBlock] at e <;> (clear z1 z2; omega)); have K4 := K2.then K3)))
  all_goals
    clear z1 z2
    have X2 := K3.heap X0 (fun h => h)
    have B2 := K3.heap B0 (fun h => h)
    obtain ⟨s0, s1, s2, s3, s4, s5⟩ := block_cells6 X2
    obtain ⟨t0, t1, t2, t3, t4, t5⟩ := block_cells6 B2
    obtain ⟨k0, k1, k2, k3, k4, k5⟩ := block_frozen6 B2
    have hxb : w.heap.size ≠ br := by omega
    have hxb1 : w.heap.size + 1 ≠ br := by omega
    have hfr2 : ∀ k, (Value.slice ao2 (l.length - 1) cap2).ownBlock = some k → w.heap.size < k := by
      intro k hk
      rcases hat2 with h | h
      · have := hne1 k (h.symm.trans hk); omega
      · have h' := h.symm.trans hk
        have hs1 := hgrow1.size
        simp at h' hs1; omega
    clear d0 d1 e0 e1
    go_wp2
    refine bodyPost_ret (v := .tuple #[.agg #[.int .i64 x.job, .int .i64 x.op, .int .i64 x.cart, .int .i64 x.pos, .int .i64 x.slot, .int .i64 x.born], .bool true]) (by simp [results, Try.results11, go_sem, t0, t1, t2, t3, t4, t5]) rfl ⟨rfl, ?_⟩
    exact ref_after2 HLEN.out b2 K4 hrow2 hfr2 hlt _ _ _ _ _ _
theorem src_empty (w : World) (g c : Nat) (l : List Ask) (i : Nat) (hn : l.length ≤ i + 1) : Src w 6 (.slice (some ⟨g, 0, none⟩) 0 c) 0 ((cellsOf l).drop ((i + 1) * 6)) := by
  have h0 : (cellsOf l).drop ((i + 1) * 6) = [] := List.eq_nil_of_length_eq_zero (by rw [List.length_drop, cellsOf_length]; omega)
  rw [h0]
  exact ⟨by simp, _, _, rfl, (fun _ => rfl), fun a _ j u hu => by simp at hu⟩
set_option maxHeartbeats 2000000 in
theorem reftake_last (br : Nat) (most : Int) (l : List Ask) (i : Nat) (w : World) (g : Nat) (hb : w.heap[br]? = some (.cells #[.slice (some ⟨g, 0, none⟩) l.length (i + 1), .int .i64 most] 39 (0, 0))) (hr : Asks w (.slice (some ⟨g, 0, none⟩) l.length (i + 1)) l (i + 1))
    (hi : i < l.length) (hlen : l.length ≤ 4096) (hnc : l.length ≤ i + 1) :
    Calls Try.prog 11 #[.pointer (some ⟨br, 0, none⟩), .int .i64 i] w fun e w' => e = .returned (.tuple #[l[i].val, .bool true]) ∧ ∃ g', RAt w' br most (l.eraseIdx i) g' ∧ Kept (fun k => k = br) w w' ∧ (∀ k, g' = some k → w.heap.size ≤ k) := by
  obtain ⟨hlt, c0, c1, f0, f1⟩ := block_cells2 hb
  obtain ⟨a0, a1, a2, a3, a4, a5⟩ := asks_get w g _ (i + 1) i l hr hi
  obtain ⟨i0, hi0, hz0, hz1, hz2⟩ := info_parts info28
  have hgw := hr.lt g rfl
  have hv : l[i].val = .agg #[.int .i64 l[i].job, .int .i64 l[i].op, .int .i64 l[i].cart, .int .i64 l[i].pos, .int .i64 l[i].slot, .int .i64 l[i].born] := rfl
  rw [hv]
  clear hv
  have HLEN := Lib.hid (show (l.eraseIdx i).length = l.length - 1 by rw [List.length_eraseIdx, if_pos hi])
  have HE := Lib.hid (cellsOf_erase l i)
  have HTK := Lib.hid (cellsOf_take l i)
  have hi1 : (i : Int) < (l.length : Int) := by omega
  generalize l[i] = x at a0 a1 a2 a3 a4 a5 ⊢
  have HB := Lib.hid hb
  have HR := Lib.hid hr
  clear hb hr
  go_enter Try.func11, Try.ntmps11
  go_wp2_with fail
  obtain ⟨W0, hW0⟩ : ∃ W0, W0 = (w.alloc (.cells #[.int .i64 0, .int .i64 0, .int .i64 0, .int .i64 0, .int .i64 0, .int .i64 0] 28)).alloc (.cells #[.int .i64 x.job, .int .i64 x.op, .int .i64 x.cart, .int .i64 x.pos, .int .i64 x.slot, .int .i64 x.born] 28) := ⟨_, rfl⟩
  rw [← hW0]
  have K0 : Kept NoB w W0 := by rw [hW0]; exact (by repeat (first | with_reducible exact Kept.refl _ _ | with_reducible refine Kept.alloc ?_ _ | with_reducible refine Kept.drewN ?_ _ | with_reducible refine Kept.drew ?_))
  have B0 : W0.heap[w.heap.size]? = some (.cells Ask.zero.arr 28 (0, 0)) := by rw [hW0]; exact heap_alloc2_old w _ _
  have X0 : W0.heap[w.heap.size + 1]? = some (.cells x.arr 28 (0, 0)) := by rw [hW0]; exact heap_alloc2_new w _ _
  clear hW0
  have R0 : Row W0 28 6 (.slice (some ⟨g, 0, none⟩) l.length (i + 1)) l.length (i + 1) (cellsOf l) := HR.out.kept K0 (fun _ _ h => h)
  have b0 := K0.heap HB.out (fun h => h)
  obtain ⟨_, d0, d1, e0, e1⟩ := block_cells2 b0
  have hn1 : w.heap.size + 1 < W0.heap.size := lt_of_heap X0
  clear c0 c1 f0 f1 a0 a1 a2 a3 a4 a5
  have q1 : (i : Int) ≤ (i : Int) + 1 := by omega
  have q5 : (0 : Int) ≤ (i : Int) + 1 := by omega
  have q6 : (i : Int) + 1 ≤ (l.length : Int) := by omega
  have q7 : (0 : Int) ≤ (i : Int) := by omega
  have v1 : i ≤ l.length := by omega
  have v2 : i ≤ maxLen := by unfold maxLen; omega
  have v3 : i * 48 ≤ 140737488355328 := by omega
  have v4 : i + 0 = l.length - 1 := by omega
  have v5 : l.length - 1 ≤ maxLen := by unfold maxLen; omega
  have v6 : (l.length - 1) * 48 ≤ 140737488355328 := by omega
  have V4 := Lib.hid v4
  clear v4
  have z1 : IntKind.i64.wrap ((i : Int) + 1) = (i : Int) + 1 := IntWalk.i64_in _ (by omega)
  have z2 : ((i : Int) + 1).toNat = i + 1 := by omega
  go_region_law ((first
    | (refine step_append_any rfl (.tmp 27) (.tmp 33) 37 rfl 28 i0 _ 6 48 Try.underlying37 hi0 hz0 hz1 hz2 rfl (by decide) (.slice (some ⟨W0.heap.size, 0, none⟩) 0 0) 0 0 [] (by simp [Act.eval, Act.put]) (by exact (Row.laid W0 28 6 0 #[] rfl (by decide) _ rfl).kept (S := NoB) (by (repeat (first | with_reducible exact Kept.refl _ _ | with_reducible refine Kept.alloc ?_ _ | with_reducible refine Kept.drew ?_ | with_reducible refine Kept.grown ?_ hgrow1 (fun _ h => by cases h)))) (fun _ _ h => h)) (.slice (some ⟨g, 0, none⟩) i (i + 1)) i (cellsOf (l.take i)) (by simp [Act.eval, Act.put]) (by rw [← HTK.out]; exact ((R0.kept (S := NoB) (by (repeat (first | with_reducible exact Kept.refl _ _ | with_reducible refine Kept.alloc ?_ _ | with_reducible refine Kept.drew ?_ | with_reducible refine Kept.grown ?_ hgrow1 (fun _ h => by cases h)))) (fun _ _ h => h)).take i v1).src) (cells_all _) i (Nat.zero_add _) (cellsOf (l.take i)) (List.nil_append _) v2 v3 ?_; intro ao1 cap1 w1 hrow1 hgrow1' hat1 hgr; have hgrow1 := hgr rfl; clear hgr hgrow1'; have b1 := after_grown (by (repeat (first | with_reducible exact Kept.refl _ _ | with_reducible refine Kept.alloc ?_ _ | with_reducible refine Kept.drew ?_ | with_reducible refine Kept.grown ?_ hgrow1 (fun _ h => by cases h)))) hgrow1 b0 (by simp); obtain ⟨_, g0, g1, h0, h1⟩ := block_cells2 b1; have hne1 : ∀ k, (Value.slice ao1 i cap1).ownBlock = some k → w.heap.size + 1 < k := (by intro k hk; rcases hat1 with h | h <;> rw [h] at hk <;> simp [Value.ownBlock] at hk <;> (clear z1 z2; omega)); have R1 : Row w1 28 6 (.slice (some ⟨g, 0, none⟩) l.length (i + 1)) l.length (i + 1) (cellsOf l) := R0.kept (S := NoB) (by (repeat (first | with_reducible exact Kept.refl _ _ | with_reducible refine Kept.alloc ?_ _ | with_reducible refine Kept.drew ?_ | with_reducible refine Kept.grown ?_ hgrow1 (fun _ h => by cases h)))) (fun _ _ h => h))
    | (refine step_append_any rfl (.tmp 34) (.tmp 41) 37 rfl 28 i0 _ 6 48 Try.underlying37 hi0 hz0 hz1 hz2 rfl (by decide) (.slice ao1 i cap1) i cap1 (cellsOf (l.take i)) (by simp [Act.eval, Act.put]) (by exact hrow1.kept (S := NoB) (by (repeat (first | with_reducible exact Kept.refl _ _ | with_reducible refine Kept.alloc ?_ _ | with_reducible refine Kept.drew ?_ | with_reducible refine Kept.grown ?_ hgrow1 (fun _ h => by cases h)))) (fun _ _ h => h)) (.slice (some ⟨g, 0, none⟩) 0 0) 0 ((cellsOf l).drop ((i + 1) * 6)) (by simp [Act.eval, Act.put]) (by exact src_empty _ _ _ l i hnc) (fun u hu => cells_all l u (List.mem_of_mem_drop hu)) (l.length - 1) V4.out (cellsOf (l.eraseIdx i)) (by rw [← HTK.out]; exact HE.out) v5 v6 ?_; intro ao2 cap2 w2 hrow2 hgrow2 hat2 _; have b2 := after_grown (w := w1) (by (repeat (first | with_reducible exact Kept.refl _ _ | with_reducible refine Kept.alloc ?_ _ | with_reducible refine Kept.drew ?_ | with_reducible refine Kept.grown ?_ hgrow1 (fun _ h => by cases h)))) hgrow2 b1 (fun e => by have := hne1 _ e; clear z1 z2; omega); obtain ⟨_, x0, x1, y0, y1⟩ := block_cells2 b2; have K2 : Kept NoB w W0 := K0; have K3 : Kept NoB W0 w2 := Kept.grown (by (repeat (first | with_reducible exact Kept.refl _ _ | with_reducible refine Kept.alloc ?_ _ | with_reducible refine Kept.drew ?_ | with_reducible refine Kept.grown ?_ hgrow1 (fun _ h => by cases h)))) hgrow2 (fun k e h => by have := hne1 k e; rcases hat1 with h' | h' <;> rw [h'] at e <;> simp [Value.ownBlock] at e <;> (clear z1 z2; omega)); have K4 := K2.then K3)))
  all_goals
    clear z1 z2
    have X2 := K3.heap X0 (fun h => h)
    have B2 := K3.heap B0 (fun h => h)
    obtain ⟨s0, s1, s2, s3, s4, s5⟩ := block_cells6 X2
    obtain ⟨t0, t1, t2, t3, t4, t5⟩ := block_cells6 B2
    obtain ⟨k0, k1, k2, k3, k4, k5⟩ := block_frozen6 B2
    have hxb : w.heap.size ≠ br := by omega
    have hxb1 : w.heap.size + 1 ≠ br := by omega
    have hfr2 : ∀ k, (Value.slice ao2 (l.length - 1) cap2).ownBlock = some k → w.heap.size < k := by
      intro k hk
      rcases hat2 with h | h
      · have := hne1 k (h.symm.trans hk); omega
      · have h' := h.symm.trans hk
        have hs1 := hgrow1.size
        simp at h' hs1; omega
    clear d0 d1 e0 e1
    go_wp2
    refine bodyPost_ret (v := .tuple #[.agg #[.int .i64 x.job, .int .i64 x.op, .int .i64 x.cart, .int .i64 x.pos, .int .i64 x.slot, .int .i64 x.born], .bool true]) (by simp [results, Try.results11, go_sem, t0, t1, t2, t3, t4, t5]) rfl ⟨rfl, ?_⟩
    exact ref_after2 HLEN.out b2 K4 hrow2 hfr2 hlt _ _ _ _ _ _
theorem reftake_any (br : Nat) (most : Int) (l : List Ask) (gr : Option Nat) (i : Int) (w : World) (h : RAt w br most l gr) (hlen : l.length ≤ 4096) :
    Calls Try.prog 11 #[.pointer (some ⟨br, 0, none⟩), .int .i64 i] w fun e w' => e = .returned (.tuple #[(took l i).1.val, .bool (took l i).2]) ∧ ∃ g', RAt w' br most (rest l i) g' ∧ Kept (fun k => k = br) w w' ∧ (g' = gr ∨ ∀ k, g' = some k → w.heap.size ≤ k) := by
  by_cases hc : 0 ≤ i ∧ i < l.length
  · obtain ⟨n, rfl⟩ := Int.eq_ofNat_of_zero_le hc.1
    have hn : n < l.length := by omega
    unfold took rest
    rw [if_pos hc, if_pos hc, Int.toNat_natCast, List.getElem?_eq_getElem hn, Option.getD_some]
    obtain ⟨v, cap, hb, hr, hg⟩ := h
    have hr' := hr
    rcases hr'.2 with ⟨_, h0, _⟩ | ⟨g, cur, rfl, hgg, hnc, hcm, _⟩
    · omega
    by_cases hci : cap = n + 1
    · subst hci
      refine (reftake_last br most l n w g hb hr hn hlen hnc).mono ?_
      rintro e w' ⟨he, g', h1, h2, h3⟩
      exact ⟨he, g', h1, h2, .inr h3⟩
    · refine (reftake_mid br most l n w g cap hb hr hn hlen hnc hcm hci).mono ?_
      rintro e w' ⟨he, g', h1, h2, h3⟩
      exact ⟨he, g', h1, h2, .inr h3⟩
  · unfold took rest
    rw [if_neg hc, if_neg hc]
    refine (reftake_out br most l gr i w h (by omega)).mono ?_
    rintro e w' ⟨he, hk⟩
    exact ⟨he, gr, h.kept hk (fun h => h) (fun _ _ h => h), hk.of_none, .inl rfl⟩
end Go.Proofs.Ytjagoljaocbdcaa
