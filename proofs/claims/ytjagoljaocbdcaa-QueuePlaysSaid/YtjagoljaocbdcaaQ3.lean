/- Walks: slices.Delete at one element, the queue's Take. -/
import Derived.Test.YtjagoljaocbdcaaQ1
import Derived.Test.YtjagoljaocbdcaaHeap3
namespace Go.Proofs.Ytjagoljaocbdcaa
open Go.RowKit

theorem cellsOf_take (l : List Ask) (k : Nat) : (cellsOf l).take (k * 6) = cellsOf (l.take k) := by
  induction l generalizing k with
  | nil => simp [cellsOf]
  | cons a l ih =>
    cases k with
    | zero => simp [cellsOf]
    | succ k =>
      have h6 : a.cells.length = 6 := rfl
      have e : (k + 1) * 6 = 6 + k * 6 := by omega
      simp only [cellsOf, List.flatMap_cons, List.take_succ_cons] at ih ⊢
      rw [e, ← h6, List.take_length_add_append, h6, ih]
theorem cellsOf_drop (l : List Ask) (k : Nat) : (cellsOf l).drop (k * 6) = cellsOf (l.drop k) := by
  induction l generalizing k with
  | nil => simp [cellsOf]
  | cons a l ih =>
    cases k with
    | zero => simp [cellsOf]
    | succ k =>
      have h6 : a.cells.length = 6 := rfl
      have e : (k + 1) * 6 = 6 + k * 6 := by omega
      simp only [cellsOf, List.flatMap_cons, List.drop_succ_cons] at ih ⊢
      rw [e, ← h6, List.drop_length_add_append, h6, ih]
theorem cellsOf_erase (l : List Ask) (i : Nat) : (cellsOf l).take (i * 6) ++ (cellsOf l).drop ((i + 1) * 6) = cellsOf (l.eraseIdx i) := by
  rw [cellsOf_take, cellsOf_drop, ← cellsOf_append, List.eraseIdx_eq_take_drop_succ]

set_option maxHeartbeats 1000000 in
theorem delete_last (g n cap i : Nat) (l : List Ask) (w : World) (hr : Row w 28 6 (.slice (some ⟨g, 0, none⟩) n cap) n cap (cellsOf l)) (hi : i < n) (hnc : n ≤ cap) (hcm : cap ≤ maxLen) (hc : i + 1 = cap) :
    Calls Try.prog 28 #[.slice (some ⟨g, 0, none⟩) n cap, .int .i64 i, .int .i64 ((i : Int) + 1)] w fun e w' =>
      e = .returned (.slice (some ⟨g, 0, none⟩) (n - 1) cap) ∧ Row w' 28 6 (.slice (some ⟨g, 0, none⟩) (n - 1) cap) (n - 1) cap (cellsOf (l.eraseIdx i)) ∧ Kept (fun k => k = g) w w' := by
  obtain ⟨i0, hi0, hz0, hz1, hz2⟩ := info_parts info28
  have hrd : Row w.drew 28 6 (.slice (some ⟨g, 0, none⟩) n cap) n cap (cellsOf l) := hr.kept (S := NoB) ((Kept.refl _ _).drew) (fun _ _ h => h)
  unfold maxLen at hcm
  have hne : ((i : Int) == (i : Int) + 1) = false := by simp; omega
  have H1 := Lib.hid (cellsOf_erase l i)
  have hlt : i < n ∧ n - 1 < cap := by omega
  have q1 : i ≤ cap := by omega
  have q2 : i + 1 ≤ n := by omega
  have q3 : i + 1 ≤ cap := by omega
  have q4 : cap = i + 1 := by omega
  have q5 : (0 : Int) ≤ (i : Int) + 1 := by omega
  have q6 : (i : Int) + 1 ≤ (n : Int) := by omega
  have hn : n = i + 1 := by omega
  subst hn
  subst q4
  have q7 : (i : Int) ≤ (i : Int) + 1 := by omega
  have hd : (cellsOf l).drop ((i + 1) * 6) = [] := List.eq_nil_of_length_eq_zero (by rw [List.length_drop, hr.1]; omega)
  rw [Nat.add_sub_cancel]
  clear hc
  go_enter Try.func28, Try.ntmps28
  go_wp2
  go_region_law ((refine step_append_in rfl (.tmp 22) (.tmp 25) 37 rfl 28 i0 6 Try.underlying37 hi0 hz1 g i (i + 1) ((cellsOf l).take (i * 6)) (by simp [Act.eval, Act.put]) (hrd.take i (by omega)) (.slice (some ⟨g, 0, none⟩) 0 0) 0 [] (by simp [Act.eval, Act.put]) ⟨rfl, _, _, rfl, (fun h => by cases h), (fun _ _ j u hu => by simp at hu)⟩ (fun u hu => by simp at hu) (by omega) i (by omega) (cellsOf (l.eraseIdx i)) (by rw [← H1.out, hd]) ?_; intro w1 hrow1 hk1))
  go_wp2_with (with_reducible show wpList _ _ _ ({ dst := _, op := Op.call { callee := Callee.builtin Builtin.clear, args := _, argTypes := _ }, type := _, pos := _, after := _, guard := _ } :: _) _ _; refine wpList_clear_row rfl (.tmp 31) 37 rfl 28 i0 _ 6 Try.underlying37 hi0 hz0 rfl (by decide) g i _ _ i (i + 1) _ rfl hrow1 (by omega) (by omega) ?_; intro w2 hrow2 hk2)
  go_ret
  exact ⟨rfl, hrow2, ((Kept.refl _ _).drew.trans hk1 (fun _ _ h => h)).trans hk2 (fun _ _ h => h)⟩
set_option maxHeartbeats 1000000 in
theorem delete_mid (g n cap i : Nat) (l : List Ask) (w : World) (hr : Row w 28 6 (.slice (some ⟨g, 0, none⟩) n cap) n cap (cellsOf l)) (hi : i < n) (hnc : n ≤ cap) (hcm : cap ≤ maxLen) (hc : ¬ i + 1 = cap) :
    Calls Try.prog 28 #[.slice (some ⟨g, 0, none⟩) n cap, .int .i64 i, .int .i64 ((i : Int) + 1)] w fun e w' =>
      e = .returned (.slice (some ⟨g, 0, none⟩) (n - 1) cap) ∧ Row w' 28 6 (.slice (some ⟨g, 0, none⟩) (n - 1) cap) (n - 1) cap (cellsOf (l.eraseIdx i)) ∧ Kept (fun k => k = g) w w' := by
  obtain ⟨i0, hi0, hz0, hz1, hz2⟩ := info_parts info28
  have hrd : Row w.drew 28 6 (.slice (some ⟨g, 0, none⟩) n cap) n cap (cellsOf l) := hr.kept (S := NoB) ((Kept.refl _ _).drew) (fun _ _ h => h)
  unfold maxLen at hcm
  have hne : ((i : Int) == (i : Int) + 1) = false := by simp; omega
  have H1 := Lib.hid (cellsOf_erase l i)
  have hlt : i < n ∧ n - 1 < cap := by omega
  have hc' : i + 1 < cap := by omega
  have q1 : i ≤ cap := by omega
  have q2 : i + 1 ≤ n := by omega
  have q3 : i + 1 ≤ cap := by omega
  have q4 : ¬ cap = i + 1 := by omega
  have q5 : (0 : Int) ≤ (i : Int) + 1 := by omega
  have q6 : (i : Int) + 1 ≤ (n : Int) := by omega
  go_enter Try.func28, Try.ntmps28
  go_wp2
  go_region_law ((refine step_append_in rfl (.tmp 22) (.tmp 25) 37 rfl 28 i0 6 Try.underlying37 hi0 hz1 g i cap ((cellsOf l).take (i * 6)) (by simp [Act.eval, Act.put]) (hrd.take i (by omega)) (.slice (some ⟨g, (i + 1) * 6, none⟩) (n - (i + 1)) (cap - (i + 1))) (n - (i + 1)) ((cellsOf l).drop ((i + 1) * 6)) (by simp [Act.eval, Act.put]) (hrd.srcFrom (i + 1) _) (fun u hu => cells_all l u (List.mem_of_mem_drop hu)) (by omega) (n - 1) (by omega) (cellsOf (l.eraseIdx i)) H1.out ?_; intro w1 hrow1 hk1))
  go_wp2_with (with_reducible show wpList _ _ _ ({ dst := _, op := Op.call { callee := Callee.builtin Builtin.clear, args := _, argTypes := _ }, type := _, pos := _, after := _, guard := _ } :: _) _ _; refine wpList_clear_row rfl (.tmp 31) 37 rfl 28 i0 _ 6 Try.underlying37 hi0 hz0 rfl (by decide) g (n - 1) _ _ (n - 1) cap _ rfl hrow1 (by omega) (by omega) ?_; intro w2 hrow2 hk2)
  go_ret
  exact ⟨rfl, hrow2, ((Kept.refl _ _).drew.trans hk1 (fun _ _ h => h)).trans hk2 (fun _ _ h => h)⟩
theorem delete_any (g n cap i : Nat) (l : List Ask) (w : World) (hr : Row w 28 6 (.slice (some ⟨g, 0, none⟩) n cap) n cap (cellsOf l)) (hi : i < n) (hnc : n ≤ cap) (hcm : cap ≤ maxLen) :
    Calls Try.prog 28 #[.slice (some ⟨g, 0, none⟩) n cap, .int .i64 i, .int .i64 ((i : Int) + 1)] w fun e w' =>
      e = .returned (.slice (some ⟨g, 0, none⟩) (n - 1) cap) ∧ Row w' 28 6 (.slice (some ⟨g, 0, none⟩) (n - 1) cap) (n - 1) cap (cellsOf (l.eraseIdx i)) ∧ Kept (fun k => k = g) w w' := by
  by_cases hc : i + 1 = cap
  · exact delete_last g n cap i l w hr hi hnc hcm hc
  · exact delete_mid g n cap i l w hr hi hnc hcm hc
end Go.Proofs.Ytjagoljaocbdcaa
