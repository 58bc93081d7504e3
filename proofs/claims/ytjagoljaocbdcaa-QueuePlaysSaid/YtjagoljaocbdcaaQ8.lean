/- Walks: the queue's Drop, the reference's Drop. -/
import Derived.Test.YtjagoljaocbdcaaQ7
namespace Go.Proofs.Ytjagoljaocbdcaa
open Go.RowKit

theorem others_le (l : List Ask) (j : Int) : (others l j).length ≤ l.length := List.length_filter_le _ _

set_option maxHeartbeats 1000000 in
theorem drop_nil (j : Int) (w : World) :
    Calls Try.prog 13 #[.pointer none, .int .i64 j] w fun e w' => e = .returned (.int .i64 0) ∧ Kept NoB w w' := by
  go_enter Try.func13, Try.ntmps13
  go_wp2_with (go_at_call 17; refine (len_nil _).mono ?_; rintro e w' ⟨rfl, rfl⟩)
  go_ret
  exact ⟨rfl, (by repeat (first | with_reducible exact Kept.refl _ _ | with_reducible refine Kept.alloc ?_ _ | with_reducible refine Kept.drewN ?_ _ | with_reducible refine Kept.drew ?_))⟩

set_option maxHeartbeats 1000000 in
theorem drop_any (bq : Nat) (most : Int) (l : List Ask) (gq : Option Nat) (j : Int) (w : World) (h : QAt w bq most l gq) (hlen : l.length ≤ 4096) :
    Calls Try.prog 13 #[.pointer (some ⟨bq, 0, none⟩), .int .i64 j] w fun e w' => e = .returned (.int .i64 ((l.length : Int) - (others l j).length)) ∧ QAt w' bq most (others l j) gq ∧ Kept (fun k => k = bq ∨ gq = some k) w w' := by
  have hle := others_le l j
  have hlt := h.lt
  by_cases h0 : l.length = 0
  · obtain rfl : l = [] := List.eq_nil_of_length_eq_zero h0
    have HL := Lib.hid (fun W (hk : Kept NoB w W) => len_any bq most [] gq W (h.kept hk (fun h => h) (fun _ _ h => h)))
    go_enter Try.func13, Try.ntmps13
    go_wp2_with (go_at_call 17; refine (HL.out _ (by repeat (first | with_reducible exact Kept.refl _ _ | with_reducible refine Kept.alloc ?_ _ | with_reducible refine Kept.drewN ?_ _ | with_reducible refine Kept.drew ?_))).mono ?_; rintro e w' ⟨rfl, rfl⟩)
    go_ret
    exact ⟨rfl, h.kept (S := NoB) (by repeat (first | with_reducible exact Kept.refl _ _ | with_reducible refine Kept.alloc ?_ _ | with_reducible refine Kept.drewN ?_ _ | with_reducible refine Kept.drew ?_)) (fun h => h) (fun _ _ h => h), (by repeat (first | with_reducible exact Kept.refl _ _ | with_reducible refine Kept.alloc ?_ _ | with_reducible refine Kept.drewN ?_ _ | with_reducible refine Kept.drew ?_))⟩
  · have HL := Lib.hid (fun W (hk : Kept NoB w W) => len_any bq most l gq W (h.kept hk (fun h => h) (fun _ _ h => h)))
    obtain ⟨v, cap, hb, hr, hg⟩ := h
    have hne := not_own hb (by decide) hr
    obtain ⟨hltb, c0, c1, f0, f1⟩ := block_cells2 hb
    rcases hr.2 with ⟨_, hx, _⟩ | ⟨g, cur, rfl, hgg, _⟩
    · exact absurd hx h0
    have hgw := lt_of_heap hgg
    have hgb : g ≠ bq := by intro e; exact hne (by simp [Value.ownBlock, e])
    have hz : ((l.length : Int) == 0) = false := by rw [beq_eq_false_iff_ne]; omega
    have HB := Lib.hid hb
    have HR := Lib.hid hr
    clear hb hr hgg hne
    go_enter Try.func13, Try.ntmps13
    go_wp2_with (go_at_call 17; refine (HL.out _ (by repeat (first | with_reducible exact Kept.refl _ _ | with_reducible refine Kept.alloc ?_ _ | with_reducible refine Kept.drewN ?_ _ | with_reducible refine Kept.drew ?_))).mono ?_; rintro e w' ⟨rfl, rfl⟩)
    have HD := Lib.hid (deletefunc_some g cap l j w.heap.size (w.alloc (.cells #[.int .i64 j] 3)) (HR.out.kept (S := NoB) (by repeat (first | with_reducible exact Kept.refl _ _ | with_reducible refine Kept.alloc ?_ _ | with_reducible refine Kept.drewN ?_ _ | with_reducible refine Kept.drew ?_)) (fun _ _ h => h)) hlen (by rw [cell_of_row _ _ 0 _ 3 _ (heap_alloc_new w _)]; rfl) (by omega))
    refine HD.out.mono ?_
    rintro e w2 ⟨rfl, hrow2, hk2⟩
    have hb2 := hk2.heap ((show Kept NoB w _ from (by repeat (first | with_reducible exact Kept.refl _ _ | with_reducible refine Kept.alloc ?_ _ | with_reducible refine Kept.drewN ?_ _ | with_reducible refine Kept.drew ?_))).heap HB.out (fun h => h)) (fun h => hgb h.symm)
    obtain ⟨hlt2, d0, d1, e0, e1⟩ := block_cells2 hb2
    have HB2 := Lib.hid hb2
    have HROW2 := Lib.hid hrow2
    clear hb2 hrow2 c0 c1 f0 f1
    go_wp2
    go_ret
    refine ⟨rfl, ⟨_, cap, heap_setCell_same w2 bq 1 _ 50 _ HB2.out, ?_, hg⟩, ?_⟩
    · exact HROW2.out.kept (S := fun k => k = bq) (Kept.setCell (S := fun k => k = bq) (p := ⟨bq, 1, none⟩) (Kept.refl _ _) (fun _ => rfl) _) (fun k hk e => by simp [Value.ownBlock] at hk; omega)
    · have hK : Kept (fun k => k = bq ∨ gq = some k) w w2 := (show Kept NoB w _ from (by repeat (first | with_reducible exact Kept.refl _ _ | with_reducible refine Kept.alloc ?_ _ | with_reducible refine Kept.drewN ?_ _ | with_reducible refine Kept.drew ?_))).of_none.trans hk2 (fun k _ e => .inr (by rw [← hg, e]; rfl))
      exact hK.setCell (p := ⟨bq, 1, none⟩) (fun _ => .inl rfl) _

set_option maxHeartbeats 2000000 in
theorem refdrop_any (br : Nat) (most : Int) (l : List Ask) (gr : Option Nat) (j : Int) (w : World) (h : RAt w br most l gr) (hlen : l.length ≤ 4096) :
    Calls Try.prog 14 #[.pointer (some ⟨br, 0, none⟩), .int .i64 j] w fun e w' => e = .returned (.int .i64 ((l.length : Int) - (others l j).length)) ∧ ∃ g', RAt w' br most (others l j) g' ∧ Kept (fun k => k = br) w w' ∧ (∀ k, g' = some k → w.heap.size ≤ k) := by
  obtain ⟨v, cap, hb, hr, hg⟩ := h
  obtain ⟨ao, rfl⟩ := hr.form
  have hltb := lt_of_heap hb
  obtain ⟨i0, hi, hz0, hz1, hz2⟩ := info_parts info28
  have hle := others_le l j
  go_enter Try.func14, Try.ntmps14
  go_wp2_with fail
  have HB := Lib.hid hb
  have HR := Lib.hid hr
  clear hb hr
  go_loopw [5, 6] (fun ov iv wr => ∃ (t c : Nat) (a : Option Addr), t ≤ l.length ∧ iv = .int .i64 t ∧ ov = .slice a (others (l.take t) j).length c ∧ Row wr 28 6 (.slice a (others (l.take t) j).length c) (others (l.take t) j).length c (cellsOf (others (l.take t) j)) ∧ (∀ k, (Value.slice a (others (l.take t) j).length c).ownBlock = some k → w.heap.size ≤ k) ∧ Kept NoB w wr) (fun _ iv _ => l.length - (intOf iv).toNat)
  case atStart => exact ⟨0, 0, some ⟨w.heap.size, 0, none⟩, Nat.zero_le _, rfl, rfl, Row.laid w 28 6 0 #[] rfl (by decide) _ rfl, fun k hk => by simp [Value.ownBlock] at hk; omega, (by repeat (first | with_reducible exact Kept.refl _ _ | with_reducible refine Kept.alloc ?_ _ | with_reducible refine Kept.drewN ?_ _ | with_reducible refine Kept.drew ?_))⟩
  case round =>
    obtain ⟨t, c, a, ht, rfl, rfl, hrow, hfr, hkw⟩ := hrel
    have hb1 := hkw.heap HB.out (fun h => h)
    obtain ⟨hltr, c0, c1, f0, f1⟩ := block_cells2 hb1
    by_cases htl : t < l.length
    · have HT : Hid (∀ A, others (l.take t) j = A → (l[t].job = j → others (l.take (t + 1)) j = A) ∧ (l[t].job ≠ j → others (l.take (t + 1)) j = A ++ [l[t]])) := by
        intro A hA
        rw [List.take_succ_eq_append_getElem htl, others_append, hA]
        exact ⟨fun h => by simp [others, h], fun h => by simp [others, h]⟩
      have hr1 : Asks wr _ l cap := HR.out.kept hkw (fun _ _ h => h)
      rcases hr1.2 with ⟨_, hx, _⟩ | ⟨g1, cur1, hv1, _⟩
      · omega
      cases hv1
      obtain ⟨x0, x1, x2, x3, x4, x5⟩ := asks_get wr g1 _ cap t l hr1 htl
      generalize l[t] = x at x0 x1 x2 x3 x4 x5 HT
      have hg1 := hr1.lt g1 rfl
      have hlti : (t : Int) < (l.length : Int) := by omega
      have hA4 : (others (l.take t) j).length ≤ t := by
        have h := List.length_filter_le (fun a => a.job != j) (l.take t)
        rw [List.length_take] at h
        show (others (l.take t) j).length ≤ t
        unfold others; omega
      have HROW := Lib.hid hrow
      have HFR := Lib.hid hfr
      clear hrow hfr hr1
      by_cases hxj : x.job = j
      · have hb' : (x.job != j) = false := by simp [hxj]
        have HX := Lib.hid hxj
        clear hxj
        go_wp2_with fail
        go_roundw
        case rel =>
          have e1 := (HT.out _ rfl).1 HX.out
          exact ⟨t + 1, c, a, by omega, by go_num, by rw [e1], by rw [e1]; exact HROW.out, by rw [e1]; exact HFR.out, hkw⟩
        case measure => simp [intOf]; omega
      · have hb' : (x.job != j) = true := by simp [hxj]
        have HX := Lib.hid hxj
        clear hxj
        go_wp2_with (at_builtin; refine wpList_append_any rfl (.tmp 28) (.tmp 36) 37 rfl 28 i0 _ 6 48 Try.underlying37 hi hz0 hz1 hz2 rfl (by decide) _ (others (l.take t) j).length c (cellsOf (others (l.take t) j)) rfl (HROW.out.kept (S := NoB) ((Kept.refl _ _).alloc _) (fun _ _ h => h)) _ 1 x.cells rfl ((Row.laid wr 28 6 1 x.arr rfl (by decide) _ rfl).src) (cells_one x) ((others (l.take t) j).length + 1) rfl (cellsOf (others (l.take t) j) ++ x.cells) rfl (by unfold maxLen; omega) (by omega) ?_; intro a2 c2 w2 hrow2 hgrow2 hat2 _)
        go_roundw
        case rel =>
          have e1 := (HT.out _ rfl).2 HX.out
          have hwz := hkw.size
          have hK2 : Kept NoB w w2 := (hkw.alloc (.cells x.arr 28)).grown hgrow2 (fun k e h => by have := HFR.out k e; omega)
          refine ⟨t + 1, c2, a2, by omega, by go_num, by rw [e1]; simp, ?_, ?_, hK2⟩
          · rw [e1, cellsOf_append, cellsOf_one, List.length_append]; exact hrow2
          · rw [e1, List.length_append]
            intro k hk
            rcases hat2 with h | h
            · exact HFR.out k (h.symm.trans hk)
            · have := h.symm.trans hk; simp at this; omega
        case measure => simp [intOf]; omega
    · have htl' : t = l.length := by omega
      subst htl'
      rw [List.take_length] at *
      have HROW := Lib.hid hrow
      have HFR := Lib.hid hfr
      clear hrow hfr
      go_wp2_with fail
      go_ret
      refine ⟨rfl, _, ⟨_, c, heap_setCell_same wr br 0 _ 39 _ hb1, ?_, rfl⟩, ?_, HFR.out⟩
      · exact HROW.out.kept (S := fun k => k = br) (Kept.setCell (S := fun k => k = br) (p := ⟨br, 0, none⟩) (Kept.refl _ _) (fun _ => rfl) _) (fun k hk e => by have := HFR.out k hk; omega)
      · exact Kept.setCell (S := fun k => k = br) (p := ⟨br, 0, none⟩) hkw.of_none (fun _ => rfl) _
end Go.Proofs.Ytjagoljaocbdcaa
