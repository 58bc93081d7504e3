/- Walks: slices.IndexFunc, slices.DeleteFunc, and the queue's Drop. -/
import Derived.Test.YtjagoljaocbdcaaQ4
namespace Go.Proofs.Ytjagoljaocbdcaa
open Go.RowKit

set_option maxHeartbeats 400000 in
theorem dropf_any (x : Ask) (j : Int) (Bj : Nat) (w : World) (hj : w.cell? ⟨Bj, 0, none⟩ = some (.int .i64 j)) :
    Calls Try.prog 23 #[x.val, .pointer (some ⟨Bj, 0, none⟩)] w fun e w' => e = .returned (.bool (x.job == j)) ∧ Kept NoB w w' := by
  have hlt := block_lt_of_cell hj
  simp only at hlt
  unfold Ask.val Ask.arr
  go_enter Try.func23, Try.ntmps23
  go_wp2
  go_ret
  exact ⟨rfl, (by repeat (first | with_reducible exact Kept.refl _ _ | with_reducible refine Kept.alloc ?_ _ | with_reducible refine Kept.drewN ?_ _ | with_reducible refine Kept.drew ?_))⟩

/-- what IndexFunc tells -/
def Found (l : List Ask) (j : Int) (w : World) (e : Ending) (w' : World) : Prop :=
  Kept NoB w w' ∧ ((∃ (k : Nat) (h : k < l.length), e = .returned (.int .i64 k) ∧ l[k].job = j ∧ ∀ a ∈ l.take k, a.job ≠ j) ∨ (e = .returned (.int .i64 (-1)) ∧ ∀ a ∈ l, a.job ≠ j))

set_option maxHeartbeats 1000000 in
theorem index_any (v : Value) (cap : Nat) (l : List Ask) (j : Int) (Bj : Nat) (w : World) (hr : Asks w v l cap) (hlen : l.length ≤ 4096) (hj : w.cell? ⟨Bj, 0, none⟩ = some (.int .i64 j)) :
    Calls Try.prog 29 #[v, .func (.func 23) #[] #[.pointer (some ⟨Bj, 0, none⟩)]] w (Found l j w) := by
  obtain ⟨ao, rfl⟩ := hr.form
  go_enter Try.func29, Try.ntmps29
  go_wp2_with fail
  go_loopw [8] (fun i wr => ∃ k : Nat, k ≤ l.length ∧ i = .int .i64 k ∧ Kept NoB w wr ∧ ∀ a ∈ l.take k, a.job ≠ j) (fun i _ => l.length - (intOf i).toNat)
  case atStart => exact ⟨0, Nat.zero_le _, rfl, (by repeat (first | with_reducible exact Kept.refl _ _ | with_reducible refine Kept.alloc ?_ _ | with_reducible refine Kept.drewN ?_ _ | with_reducible refine Kept.drew ?_)), by simp⟩
  case round =>
    obtain ⟨k, hk, rfl, hkk, hno⟩ := hrel
    have HN := Lib.hid hno
    clear hno
    by_cases hlt : k < l.length
    · have r1 : Asks wr _ l cap := hr.kept hkk (fun _ _ h => h)
      rcases r1.2 with ⟨_, h, _⟩ | ⟨g1, cur1, hv1, _⟩
      · omega
      cases hv1
      obtain ⟨x0, x1, x2, x3, x4, x5⟩ := asks_get wr g1 _ cap k l r1 hlt
      have hjr := hkk.cell hj (fun h => h)
      have HT := Lib.hid (List.take_succ_eq_append_getElem hlt)
      obtain ⟨x, hx⟩ : ∃ x, l[k] = x := ⟨_, rfl⟩
      rw [hx] at x0 x1 x2 x3 x4 x5
      have HX : Hid (l[k] = x) := Lib.hid hx
      clear hx
      have HF := Lib.hid (dropf_any x j Bj wr hjr)
      unfold Ask.val Ask.arr at HF
      clear r1 hjr hj hr
      by_cases hxj : x.job = j
      · have hb : (x.job == j) = true := by simp [hxj]
        have HJ := Lib.hid hxj
        clear hxj
        go_wp2_with (go_at_call 23; refine HF.out.mono ?_; rintro e w' ⟨rfl, hw'⟩)
        go_ret
        exact ⟨hkk.then hw', .inl ⟨k, hlt, rfl, by rw [HX.out]; exact HJ.out, HN.out⟩⟩
      · have hb : (x.job == j) = false := by simp [hxj]
        have HJ := Lib.hid hxj
        clear hxj
        go_wp2_with (go_at_call 23; refine HF.out.mono ?_; rintro e w' ⟨rfl, hw'⟩)
        go_roundw
        case rel =>
          refine ⟨k + 1, by omega, by go_num, hkk.then hw', ?_⟩
          rw [HT.out]
          intro a ha
          rcases List.mem_append.1 ha with h | h
          · exact HN.out a h
          · rw [HX.out] at h; simp at h; subst h; exact HJ.out
        case measure => simp [intOf]; omega
    · have hkl : k = l.length := by omega
      go_wp2_with fail
      go_ret
      exact ⟨hkk, .inr ⟨rfl, by have h := HN.out; rw [hkl, List.take_length] at h; exact h⟩⟩

theorem cellsOf_set (L : List Ask) (i : Nat) (x : Ask) (hi : i < L.length) :
    (((((((cellsOf L).set (i * 6) (.int .i64 x.job)).set (i * 6 + 1) (.int .i64 x.op)).set (i * 6 + 2) (.int .i64 x.cart)).set (i * 6 + 3) (.int .i64 x.pos)).set (i * 6 + 4) (.int .i64 x.slot)).set (i * 6 + 5) (.int .i64 x.born)) = cellsOf (L.set i x) := by
  induction L generalizing i with
  | nil => simp at hi
  | cons a L ih =>
    cases i with
    | zero => rfl
    | succ i =>
      have h := ih i (by simpa using hi)
      have e : (i + 1) * 6 = i * 6 + 6 := by omega
      rw [e]
      show a.cells ++ _ = a.cells ++ cellsOf (L.set i x)
      rw [← h]
      rfl
theorem Row.setAsk {w : World} {g n cap : Nat} {L : List Ask} (h : Row w 28 6 (.slice (some ⟨g, 0, none⟩) n cap) n cap (cellsOf L)) (i : Nat) (x : Ask) (hi : i < L.length) :
    Row ((((((w.setCell ⟨g, i * 6, none⟩ (.int .i64 x.job)).setCell ⟨g, i * 6 + 1, none⟩ (.int .i64 x.op)).setCell ⟨g, i * 6 + 2, none⟩ (.int .i64 x.cart)).setCell ⟨g, i * 6 + 3, none⟩ (.int .i64 x.pos)).setCell ⟨g, i * 6 + 4, none⟩ (.int .i64 x.slot)).setCell ⟨g, i * 6 + 5, none⟩ (.int .i64 x.born))
      28 6 (.slice (some ⟨g, 0, none⟩) n cap) n cap (cellsOf (L.set i x)) := by
  rw [← cellsOf_set L i x hi]
  exact (((((h.set _ _).set _ _).set _ _).set _ _).set _ _).set _ _
theorem Kept.sixAt {S : Nat → Prop} {a b : World} (h : Kept S a b) (B o : Nat) (hB : B < a.heap.size → S B) (u0 u1 u2 u3 u4 u5 : Value) :
    Kept S a ((((((b.setCell ⟨B, o, none⟩ u0).setCell ⟨B, o + 1, none⟩ u1).setCell ⟨B, o + 2, none⟩ u2).setCell ⟨B, o + 3, none⟩ u3).setCell ⟨B, o + 4, none⟩ u4).setCell ⟨B, o + 5, none⟩ u5) :=
  (((((h.setCell (p := ⟨B, o, none⟩) hB u0).setCell (p := ⟨B, o + 1, none⟩) hB u1).setCell (p := ⟨B, o + 2, none⟩) hB u2).setCell (p := ⟨B, o + 3, none⟩) hB u3).setCell (p := ⟨B, o + 4, none⟩) hB u4).setCell (p := ⟨B, o + 5, none⟩) hB u5

/-- those that stay -/
def others (l : List Ask) (j : Int) : List Ask := l.filter (fun a => a.job != j)
theorem others_none (l : List Ask) (j : Int) (h : ∀ a ∈ l, a.job ≠ j) : others l j = l := by
  unfold others; rw [List.filter_eq_self]; intro a ha; simp [h a ha]
theorem others_append (l m : List Ask) (j : Int) : others (l ++ m) j = others l j ++ others m j := List.filter_append _ _

/-- what the loop of DeleteFunc keeps: A stays, mid is what has been passed over, and the rest of l is as it was -/
def Loop (w : World) (g cap : Nat) (l : List Ask) (j : Int) (iv jv : Value) (wr : World) : Prop :=
  ∃ (mid : List Ask) (t : Nat), t ≤ l.length ∧ jv = .int .i64 t ∧ iv = .int .i64 (others (l.take t) j).length ∧ (others (l.take t) j).length + mid.length = t ∧ 0 < mid.length ∧
    Row wr 28 6 (.slice (some ⟨g, 0, none⟩) l.length cap) l.length cap (cellsOf (others (l.take t) j ++ mid ++ l.drop t)) ∧ Kept (fun k => k = g) w wr

set_option maxHeartbeats 2000000 in
theorem deletefunc_some (g cap : Nat) (l : List Ask) (j : Int) (Bj : Nat) (w : World) (hr : Asks w (.slice (some ⟨g, 0, none⟩) l.length cap) l cap) (hlen : l.length ≤ 4096) (hj : w.cell? ⟨Bj, 0, none⟩ = some (.int .i64 j)) (hBg : Bj ≠ g) :
    Calls Try.prog 22 #[.slice (some ⟨g, 0, none⟩) l.length cap, .func (.func 23) #[] #[.pointer (some ⟨Bj, 0, none⟩)]] w fun e w' =>
      e = .returned (.slice (some ⟨g, 0, none⟩) (others l j).length cap) ∧ Asks w' (.slice (some ⟨g, 0, none⟩) (others l j).length cap) (others l j) cap ∧ Kept (fun k => k = g) w w' := by
  have hgw := hr.lt g rfl
  obtain ⟨hnc, hcm⟩ : l.length ≤ cap ∧ cap ≤ maxLen := by
    rcases hr.2 with ⟨h, _⟩ | ⟨g', cur, hv, _, h1, h2, _⟩
    · cases h
    · cases hv; exact ⟨h1, h2⟩
  unfold maxLen at hcm
  obtain ⟨i0, hi, hz0, hz1, hz2⟩ := info_parts info28
  have HI := Lib.hid (index_any _ cap l j Bj w hr hlen hj)
  have HR := Lib.hid hr
  have HJ := Lib.hid hj
  clear hr hj
  go_enter Try.func22, Try.ntmps22
  go_wp2_with fail
  refine HI.out.mono ?_
  rintro e w1 ⟨hk1, ⟨k, hk, rfl, hjk, hno⟩ | ⟨rfl, hno⟩⟩
  · have HP : Hid (Loop w g cap l j (.int .i64 k) (.int .i64 ((k : Int) + 1)) w1) := by
      have e1 : others (l.take (k + 1)) j = l.take k := by
        rw [List.take_succ_eq_append_getElem hk, others_append, others_none _ _ hno]
        have : others [l[k]] j = [] := by simp [others, hjk]
        rw [this, List.append_nil]
      refine ⟨[l[k]], k + 1, by omega, by go_num, by rw [e1, List.length_take, Nat.min_eq_left (by omega)], by rw [e1, List.length_take]; simp; omega, by simp, ?_, hk1.of_none⟩
      rw [e1, ← List.take_succ_eq_append_getElem hk, List.take_append_drop]
      exact HR.out.kept hk1 (fun _ _ h => h)
    clear hjk hno
    have hkm1 : ((k : Int) == -1) = false := by rw [beq_eq_false_iff_ne]; omega
    go_wp2_with fail
    go_loopw [5, 6] (fun iv jv wr => Loop w g cap l j iv jv wr) (fun _ jv _ => l.length - (intOf jv).toNat)
    case atStart => exact HP.out
    case round =>
      obtain ⟨mid, t, ht, rfl, rfl, hmid, hpos, hrow, hkw⟩ := hrel
      by_cases htl : t < l.length
      · have HT : Hid (∀ A, others (l.take t) j = A → (l[t].job = j → others (l.take (t + 1)) j = A) ∧ (l[t].job ≠ j → others (l.take (t + 1)) j = A ++ [l[t]])) := by
          intro A hA
          rw [List.take_succ_eq_append_getElem htl, others_append, hA]
          exact ⟨fun h => by simp [others, h], fun h => by simp [others, h]⟩
        have HD : Hid (l.drop t = l[t] :: l.drop (t + 1)) := List.drop_eq_getElem_cons htl
        have hLt : t < (others (l.take t) j ++ mid ++ l.drop t).length := by simp only [List.length_append, List.length_drop]; omega
        have hLx : (others (l.take t) j ++ mid ++ l.drop t)[t] = l[t] := by
          rw [List.getElem_append_right (by rw [List.length_append]; omega)]
          simp only [List.length_append, hmid, Nat.sub_self, List.getElem_drop, Nat.add_zero]
        obtain ⟨x0, x1, x2, x3, x4, x5⟩ := asks_get wr g _ cap t _ hrow hLt
        rw [hLx] at x0 x1 x2 x3 x4 x5
        clear hLx
        generalize l[t] = x at x0 x1 x2 x3 x4 x5 HT HD
        have hxg : g < wr.heap.size := hrow.lt g rfl
        have hjr := hkw.cell HJ.out (fun h => hBg h)
        have HJR := Lib.hid hjr
        have HROW := Lib.hid hrow
        have HM := Lib.hid hmid
        clear hjr hrow hmid
        have hlti : (t : Int) < (l.length : Int) := by omega
        have hA4 : (others (l.take t) j).length ≤ t := by have := HM.out; omega
        by_cases hxj : x.job = j
        · have hb : (x.job == j) = true := by simp [hxj]
          have HX := Lib.hid hxj
          clear hxj
          go_wp2_with (go_at_call 23; refine (dropf_any x j Bj _ (by exact (Kept.alloc (S := NoB) (Kept.refl _ wr) _).cell HJR.out (fun h => h))).mono ?_; rintro e w' ⟨rfl, hw'⟩)
          go_roundw
          case rel =>
            have e1 := (HT.out _ rfl).1 HX.out
            have hk2 : Kept NoB wr w' := (show Kept NoB wr _ from (by repeat (first | with_reducible exact Kept.refl _ _ | with_reducible refine Kept.alloc ?_ _ | with_reducible refine Kept.drewN ?_ _ | with_reducible refine Kept.drew ?_))).then hw'
            refine ⟨mid ++ [x], t + 1, by omega, by go_num, by rw [e1], by rw [e1, List.length_append]; have := HM.out; simp; omega, by simp, ?_, hkw.then hk2⟩
            rw [e1]
            have hL : others (l.take t) j ++ (mid ++ [x]) ++ l.drop (t + 1) = others (l.take t) j ++ mid ++ l.drop t := by rw [HD.out]; simp
            rw [hL]
            exact HROW.out.kept hk2 (fun _ _ h => h)
          case measure => simp [intOf]; omega
        · have hb : (x.job == j) = false := by simp [hxj]
          have HX := Lib.hid hxj
          clear hxj
          go_wp2_with (go_at_call 23; refine (dropf_any x j Bj _ (by exact (Kept.alloc (S := NoB) (Kept.refl _ wr) _).cell HJR.out (fun h => h))).mono ?_; rintro e w2 ⟨rfl, hw2⟩; have hbx := hw2.heap (heap_alloc_new wr (.cells x.arr 28)) (fun h => h); obtain ⟨y0, y1, y2, y3, y4, y5⟩ := block_cells6 hbx; have hk2 : Kept NoB wr w2 := (Kept.alloc (S := NoB) (Kept.refl _ wr) _).then hw2; have hrow2 := HROW.out.kept hk2 (fun _ _ h => h); have hb6 : (others (l.take t) j).length * 6 + 5 < cap * 6 := (by omega); obtain ⟨z0, p0, q0⟩ := hrow2.there ((others (l.take t) j).length * 6) (by omega); obtain ⟨z1, p1, q1⟩ := hrow2.there ((others (l.take t) j).length * 6 + 1) (by omega); obtain ⟨z2, p2, q2⟩ := hrow2.there ((others (l.take t) j).length * 6 + 2) (by omega); obtain ⟨z3, p3, q3⟩ := hrow2.there ((others (l.take t) j).length * 6 + 3) (by omega); obtain ⟨z4, p4, q4⟩ := hrow2.there ((others (l.take t) j).length * 6 + 4) (by omega); obtain ⟨z5, p5, q5⟩ := hrow2.there ((others (l.take t) j).length * 6 + 5) (by omega); have HROW2 := Lib.hid hrow2; clear hrow2)
          go_roundw
          case rel =>
            have e1 := (HT.out _ rfl).2 HX.out
            have e2 := HM.out
            cases mid with
            | nil => simp at hpos
            | cons m0 ms =>
              have hi2 : (others (l.take t) j).length < (others (l.take t) j ++ (m0 :: ms) ++ l.drop t).length := by simp only [List.length_append, List.length_cons]; omega
              have hrow3 := HROW2.out.setAsk _ x hi2
              have hL : (others (l.take t) j ++ (m0 :: ms) ++ l.drop t).set (others (l.take t) j).length x = others (l.take (t + 1)) j ++ (ms ++ [x]) ++ l.drop (t + 1) := by
                rw [e1, HD.out, List.append_assoc, List.set_append_right _ _ (Nat.le_refl _)]
                simp
              rw [hL] at hrow3
              refine ⟨ms ++ [x], t + 1, by omega, by go_num, by rw [e1]; simp, ?_, by simp, hrow3, ?_⟩
              · rw [e1]; simp only [List.length_append, List.length_cons, List.length_nil] at e2 ⊢; omega
              · exact Kept.sixAt (hkw.then hk2) g _ (fun _ => rfl) _ _ _ _ _ _
          case measure => simp [intOf]; omega
      · have htl' : t = l.length := by omega
        subst htl'
        have HROW := Lib.hid hrow
        have HM := Lib.hid hmid
        have hAle : (others (l.take l.length) j).length ≤ l.length := by omega
        have hAlt : (others (l.take l.length) j).length < l.length := by omega
        clear hrow hmid
        rw [List.take_length] at *
        have hcA : ¬ cap = (others l j).length := by omega
        have hrowA : Row wr 28 6 (.slice (some ⟨g, 0, none⟩) (others l j).length cap) (others l j).length cap (cellsOf (others l j)) := by
          have h := HROW.out.take (others l j).length (by omega)
          rw [cellsOf_take, List.append_assoc, List.take_left] at h
          exact h
        go_wp2_with (with_reducible show wpList _ _ _ ({ dst := _, op := Op.call { callee := Callee.builtin Builtin.clear, args := _, argTypes := _ }, type := _, pos := _, after := _, guard := _ } :: _) _ _; refine wpList_clear_row rfl (.tmp 38) 37 rfl 28 i0 _ 6 Try.underlying37 hi hz0 rfl (by decide) g (others l j).length _ _ (others l j).length cap _ rfl hrowA (Nat.le_refl _) (by omega) ?_; intro w2 hrow2 hk2)
        go_ret
        exact ⟨rfl, hrow2, hkw.trans hk2 (fun _ _ h => h)⟩
  · go_wp2_with fail
    go_ret
    rw [others_none _ _ hno]
    exact ⟨rfl, HR.out.kept hk1 (fun _ _ h => h), hk1.of_none⟩
end Go.Proofs.Ytjagoljaocbdcaa
