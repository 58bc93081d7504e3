/- The walk of the law QueueDrops. -/
import Derived.Test.YtjagoljaocbdcaaWQ
import Derived.Test.YtjagoljaocbdcaaOpen
import Derived.IntWalk
namespace Go.Proofs.Ytjagoljaocbdcaa
open Go.RowKit

set_option maxHeartbeats 4000000 in
theorem drops_full (b off cap : Nat) (l : List Ask) (J : Int) (w : World) (hM : 60 < l.length) (hin : ∀ i a, l[i]? = some a → ∀ j u, a.cells[j]? = some u → w.cell? ⟨b, off + (i * 6 + j), none⟩ = some u) :
    Calls Try.prog 5 #[.slice (some ⟨b, off, none⟩) l.length cap, .int .i64 J] w fun e w' => e = .returned (.bool true) ∧ Kept NoB w w' := by
  have HIN := Lib.hid hin
  clear hin
  obtain ⟨i0, hi, hz0, hz1, hz2⟩ := info_parts info28
  go_enter Try.func5, Try.ntmps5
  go_wp2_with fail
  refine (st_new 60 w _ (by repeat (first | with_reducible exact Kept.refl _ _ | with_reducible refine Kept.alloc ?_ _ | with_reducible refine Kept.drewN ?_ _ | with_reducible refine Kept.drew ?_))).mono ?_
  rintro e w1 ⟨rfl, s1⟩
  generalize w.heap.size = bq at s1
  have S1 := Lib.hid (WQ.begin s1)
  clear s1
  go_wp2_with fail
  go_loopw [6, 7, 8] (fun sv nv iv wr => ∃ (t nn c : Nat) (a : Option Addr), t ≤ 60 ∧ iv = .int .i64 t ∧ nv = .int .i64 nn ∧ nn + (others (l.take t) J).length = t ∧ sv = .slice a (others (l.take t) J).length c ∧ WQ w wr bq (l.take t) a c (others (l.take t) J)) (fun _ _ iv _ => 60 - (intOf iv).toNat)
  case atStart => exact ⟨0, 0, 0, some ⟨w1.heap.size, 0, none⟩, Nat.zero_le _, rfl, rfl, rfl, rfl, S1.out⟩
  case round =>
    obtain ⟨t, nn, c, a, ht, rfl, rfl, hn, rfl, hwq⟩ := hrel
    by_cases hlt : t < 60
    · have hkl : t < l.length := by omega
      have hk6 : t < 60 := by omega
      have HT : Hid (∀ A, others (l.take t) J = A → (l[t].job = J → others (l.take (t + 1)) J = A) ∧ (l[t].job ≠ J → others (l.take (t + 1)) J = A ++ [l[t]])) := by
        intro A hA
        rw [List.take_succ_eq_append_getElem hkl, others_append, hA]
        exact ⟨fun h => by simp [others, h], fun h => by simp [others, h]⟩
      have HTT := Lib.hid (List.take_succ_eq_append_getElem hkl)
      have HX : Hid (l[t]? = some l[t]) := Lib.hid (List.getElem?_eq_getElem hkl)
      obtain ⟨x, hx⟩ : ∃ x, l[t] = x := ⟨_, rfl⟩
      obtain ⟨x0, x1, x2, x3, x4, x5⟩ := in_get hwq.old hkl hx HIN.out
      have HG : Hid (∀ W, Kept NoB w W → W.cell? ⟨b, off + t * 6, none⟩ = some (.int .i64 x.job) ∧ W.cell? ⟨b, off + t * 6 + 1, none⟩ = some (.int .i64 x.op) ∧ W.cell? ⟨b, off + t * 6 + 2, none⟩ = some (.int .i64 x.cart) ∧ W.cell? ⟨b, off + t * 6 + 3, none⟩ = some (.int .i64 x.pos) ∧ W.cell? ⟨b, off + t * 6 + 4, none⟩ = some (.int .i64 x.slot) ∧ W.cell? ⟨b, off + t * 6 + 5, none⟩ = some (.int .i64 x.born)) := Lib.hid (fun W hW => in_get hW hkl hx HIN.out)
      have HP := Lib.hid (wq_push hwq x (by rw [List.length_take]; omega))
      rw [hx] at HTT HT
      unfold Ask.val Ask.arr at HP
      clear hx hwq HX
      by_cases hxj : x.job = J
      · have hb' : (x.job == J) = true := by simp [hxj]
        have hXJ := Lib.hid hxj
        clear hxj
        go_wp2_with (go_at_call 15; refine HP.out.mono ?_; rintro e w2 ⟨rfl, s2⟩; clear x0 x1 x2 x3 x4 x5; obtain ⟨x0, x1, x2, x3, x4, x5⟩ := HG.out w2 s2.old; have HS2 := Lib.hid s2; clear s2)
        go_roundw
        case rel =>
          have e1 := (HT.out _ rfl).1 hXJ.out
          exact ⟨t + 1, nn + 1, c, a, by omega, by go_num, by go_num, by rw [e1]; omega, by rw [e1], by rw [e1, HTT.out]; exact HS2.out⟩
        case measure => simp [intOf]; omega
      · have hb' : (x.job == J) = false := by simp [hxj]
        have hXJ := Lib.hid hxj
        clear hxj
        go_wp2_with (first
          | (go_at_call 15; refine HP.out.mono ?_; rintro e w2 ⟨rfl, s2⟩; clear x0 x1 x2 x3 x4 x5; obtain ⟨x0, x1, x2, x3, x4, x5⟩ := HG.out w2 s2.old; have HS2 := Lib.hid s2; clear s2)
          | (at_builtin; refine wpList_append_any rfl (.tmp 36) (.tmp 41) 37 rfl 28 i0 _ 6 48 Try.underlying37 hi hz0 hz1 hz2 rfl (by decide) _ (others (l.take t) J).length c (cellsOf (others (l.take t) J)) rfl (HS2.out.row.kept (S := NoB) ((Kept.refl _ _).alloc _) (fun _ _ h => h)) _ 1 x.cells rfl ((Row.laid w2 28 6 1 x.arr rfl (by decide) _ rfl).src) (cells_one x) ((others (l.take t) J).length + 1) rfl (cellsOf (others (l.take t) J) ++ x.cells) rfl (by unfold maxLen; omega) (by omega) ?_; intro a2 c2 w3 hrow2 hgrow2 hat2 _; have HS3 := Lib.hid (HS2.out.app (x := x) ((Kept.refl _ _).alloc (.cells x.arr 28)) hrow2 hgrow2 hat2); clear hrow2 hgrow2 hat2))
        go_roundw
        case rel =>
          have e1 := (HT.out _ rfl).2 hXJ.out
          exact ⟨t + 1, nn, c2, a2, by omega, by go_num, rfl, by rw [e1, List.length_append, List.length_singleton]; omega, by rw [e1, List.length_append, List.length_singleton], by rw [e1, HTT.out]; exact HS3.out⟩
        case measure => simp [intOf]; omega
    · have hkM : t = 60 := by omega
      subst hkM
      obtain ⟨A, hA⟩ : ∃ A, l.take 60 = A := ⟨_, rfl⟩
      have hAl : A.length = 60 := by rw [← hA, List.length_take]; omega
      rw [hA] at hwq hn
      rw [hA]
      have hd : (A.length : Int) - (others A J).length = nn := by omega
      have HO := others_others A J
      obtain ⟨B, hB⟩ : ∃ B, others A J = B := ⟨_, rfl⟩
      rw [hB] at hwq hn hd HO
      rw [hB]
      have hBl : B.length ≤ 60 := by omega
      have HA := Lib.hid hA
      have HAL := Lib.hid hAl
      have HB := Lib.hid hB
      have HOO := Lib.hid HO
      have HD := Lib.hid hd
      have HWQ := Lib.hid hwq
      clear hA hAl hB HO hd hwq
      go_wp2_with (go_at_call 20; refine (awake_any _).mono ?_; rintro e w5 ⟨rfl, k5⟩; have HS5 := Lib.hid (HWQ.out.kept k5); clear k5)
      have HDR := Lib.hid (wq_drop HS5.out J (by rw [HAL.out]; omega))
      rw [HB.out, HD.out] at HDR
      go_wp2_with (go_at_call 13; refine HDR.out.mono ?_; rintro e w6 ⟨rfl, s6⟩; have HS6 := Lib.hid s6; clear s6)
      go_wp2_with (go_at_call 19; refine (st_all bq 60 B w _ HS6.out.st (by omega)).mono ?_; rintro e w7 ⟨v, rfl, ⟨ao, rfl⟩, r7, k7, _⟩; have HS7 := Lib.hid (HS6.out.kept k7); have HR7 := Lib.hid r7; clear k7 r7)
      go_wp2_with (go_at_call 18; refine (alike_self _ _ _ _ B _ HR7.out HS7.out.row (by omega)).mono ?_; rintro e w8 ⟨rfl, k8⟩; have HS8 := Lib.hid (HS7.out.kept k8); clear k8)
      have HDR2 := Lib.hid (wq_drop HS8.out J (by omega))
      rw [HOO.out, Int.sub_self] at HDR2
      go_wp2_with (go_at_call 13; refine HDR2.out.mono ?_; rintro e w9 ⟨rfl, s9⟩; have HS9 := Lib.hid s9; clear s9)
      go_wp2_with (go_at_call 17; refine (st_len bq 60 B w _ HS9.out.st).mono ?_; rintro e w10 ⟨rfl, rfl⟩)
      go_wp2_with fail
      go_ret
      exact ⟨rfl, HS9.out.old⟩

set_option maxHeartbeats 4000000 in
theorem drops_part (b off cap : Nat) (l : List Ask) (J : Int) (w : World) (hM : l.length ≤ 60) (hin : ∀ i a, l[i]? = some a → ∀ j u, a.cells[j]? = some u → w.cell? ⟨b, off + (i * 6 + j), none⟩ = some u) :
    Calls Try.prog 5 #[.slice (some ⟨b, off, none⟩) l.length cap, .int .i64 J] w fun e w' => e = .returned (.bool true) ∧ Kept NoB w w' := by
  have HIN := Lib.hid hin
  clear hin
  obtain ⟨i0, hi, hz0, hz1, hz2⟩ := info_parts info28
  go_enter Try.func5, Try.ntmps5
  go_wp2_with fail
  refine (st_new 60 w _ (by repeat (first | with_reducible exact Kept.refl _ _ | with_reducible refine Kept.alloc ?_ _ | with_reducible refine Kept.drewN ?_ _ | with_reducible refine Kept.drew ?_))).mono ?_
  rintro e w1 ⟨rfl, s1⟩
  generalize w.heap.size = bq at s1
  have S1 := Lib.hid (WQ.begin s1)
  clear s1
  go_wp2_with fail
  go_loopw [6, 7, 8] (fun sv nv iv wr => ∃ (t nn c : Nat) (a : Option Addr), t ≤ l.length ∧ iv = .int .i64 t ∧ nv = .int .i64 nn ∧ nn + (others (l.take t) J).length = t ∧ sv = .slice a (others (l.take t) J).length c ∧ WQ w wr bq (l.take t) a c (others (l.take t) J)) (fun _ _ iv _ => 60 - (intOf iv).toNat)
  case atStart => exact ⟨0, 0, 0, some ⟨w1.heap.size, 0, none⟩, Nat.zero_le _, rfl, rfl, rfl, rfl, S1.out⟩
  case round =>
    obtain ⟨t, nn, c, a, ht, rfl, rfl, hn, rfl, hwq⟩ := hrel
    by_cases hlt : t < l.length
    · have hkl : t < l.length := by omega
      have hk6 : t < 60 := by omega
      have HT : Hid (∀ A, others (l.take t) J = A → (l[t].job = J → others (l.take (t + 1)) J = A) ∧ (l[t].job ≠ J → others (l.take (t + 1)) J = A ++ [l[t]])) := by
        intro A hA
        rw [List.take_succ_eq_append_getElem hkl, others_append, hA]
        exact ⟨fun h => by simp [others, h], fun h => by simp [others, h]⟩
      have HTT := Lib.hid (List.take_succ_eq_append_getElem hkl)
      have HX : Hid (l[t]? = some l[t]) := Lib.hid (List.getElem?_eq_getElem hkl)
      obtain ⟨x, hx⟩ : ∃ x, l[t] = x := ⟨_, rfl⟩
      obtain ⟨x0, x1, x2, x3, x4, x5⟩ := in_get hwq.old hkl hx HIN.out
      have HG : Hid (∀ W, Kept NoB w W → W.cell? ⟨b, off + t * 6, none⟩ = some (.int .i64 x.job) ∧ W.cell? ⟨b, off + t * 6 + 1, none⟩ = some (.int .i64 x.op) ∧ W.cell? ⟨b, off + t * 6 + 2, none⟩ = some (.int .i64 x.cart) ∧ W.cell? ⟨b, off + t * 6 + 3, none⟩ = some (.int .i64 x.pos) ∧ W.cell? ⟨b, off + t * 6 + 4, none⟩ = some (.int .i64 x.slot) ∧ W.cell? ⟨b, off + t * 6 + 5, none⟩ = some (.int .i64 x.born)) := Lib.hid (fun W hW => in_get hW hkl hx HIN.out)
      have HP := Lib.hid (wq_push hwq x (by rw [List.length_take]; omega))
      rw [hx] at HTT HT
      unfold Ask.val Ask.arr at HP
      clear hx hwq HX
      by_cases hxj : x.job = J
      · have hb' : (x.job == J) = true := by simp [hxj]
        have hXJ := Lib.hid hxj
        clear hxj
        go_wp2_with (go_at_call 15; refine HP.out.mono ?_; rintro e w2 ⟨rfl, s2⟩; clear x0 x1 x2 x3 x4 x5; obtain ⟨x0, x1, x2, x3, x4, x5⟩ := HG.out w2 s2.old; have HS2 := Lib.hid s2; clear s2)
        go_roundw
        case rel =>
          have e1 := (HT.out _ rfl).1 hXJ.out
          exact ⟨t + 1, nn + 1, c, a, by omega, by go_num, by go_num, by rw [e1]; omega, by rw [e1], by rw [e1, HTT.out]; exact HS2.out⟩
        case measure => simp [intOf]; omega
      · have hb' : (x.job == J) = false := by simp [hxj]
        have hXJ := Lib.hid hxj
        clear hxj
        go_wp2_with (first
          | (go_at_call 15; refine HP.out.mono ?_; rintro e w2 ⟨rfl, s2⟩; clear x0 x1 x2 x3 x4 x5; obtain ⟨x0, x1, x2, x3, x4, x5⟩ := HG.out w2 s2.old; have HS2 := Lib.hid s2; clear s2)
          | (at_builtin; refine wpList_append_any rfl (.tmp 36) (.tmp 41) 37 rfl 28 i0 _ 6 48 Try.underlying37 hi hz0 hz1 hz2 rfl (by decide) _ (others (l.take t) J).length c (cellsOf (others (l.take t) J)) rfl (HS2.out.row.kept (S := NoB) ((Kept.refl _ _).alloc _) (fun _ _ h => h)) _ 1 x.cells rfl ((Row.laid w2 28 6 1 x.arr rfl (by decide) _ rfl).src) (cells_one x) ((others (l.take t) J).length + 1) rfl (cellsOf (others (l.take t) J) ++ x.cells) rfl (by unfold maxLen; omega) (by omega) ?_; intro a2 c2 w3 hrow2 hgrow2 hat2 _; have HS3 := Lib.hid (HS2.out.app (x := x) ((Kept.refl _ _).alloc (.cells x.arr 28)) hrow2 hgrow2 hat2); clear hrow2 hgrow2 hat2))
        go_roundw
        case rel =>
          have e1 := (HT.out _ rfl).2 hXJ.out
          exact ⟨t + 1, nn, c2, a2, by omega, by go_num, rfl, by rw [e1, List.length_append, List.length_singleton]; omega, by rw [e1, List.length_append, List.length_singleton], by rw [e1, HTT.out]; exact HS3.out⟩
        case measure => simp [intOf]; omega
    · have hkM : t = l.length := by omega
      subst hkM
      obtain ⟨A, hA⟩ : ∃ A, l.take l.length = A := ⟨_, rfl⟩
      have hAl : A.length = l.length := by rw [← hA, List.length_take]; omega
      rw [hA] at hwq hn
      rw [hA]
      have hd : (A.length : Int) - (others A J).length = nn := by omega
      have HO := others_others A J
      obtain ⟨B, hB⟩ : ∃ B, others A J = B := ⟨_, rfl⟩
      rw [hB] at hwq hn hd HO
      rw [hB]
      have hBl : B.length ≤ 60 := by omega
      have HA := Lib.hid hA
      have HAL := Lib.hid hAl
      have HB := Lib.hid hB
      have HOO := Lib.hid HO
      have HD := Lib.hid hd
      have HWQ := Lib.hid hwq
      clear hA hAl hB HO hd hwq
      go_wp2_with (go_at_call 20; refine (awake_any _).mono ?_; rintro e w5 ⟨rfl, k5⟩; have HS5 := Lib.hid (HWQ.out.kept k5); clear k5)
      have HDR := Lib.hid (wq_drop HS5.out J (by rw [HAL.out]; omega))
      rw [HB.out, HD.out] at HDR
      go_wp2_with (go_at_call 13; refine HDR.out.mono ?_; rintro e w6 ⟨rfl, s6⟩; have HS6 := Lib.hid s6; clear s6)
      go_wp2_with (go_at_call 19; refine (st_all bq 60 B w _ HS6.out.st (by omega)).mono ?_; rintro e w7 ⟨v, rfl, ⟨ao, rfl⟩, r7, k7, _⟩; have HS7 := Lib.hid (HS6.out.kept k7); have HR7 := Lib.hid r7; clear k7 r7)
      go_wp2_with (go_at_call 18; refine (alike_self _ _ _ _ B _ HR7.out HS7.out.row (by omega)).mono ?_; rintro e w8 ⟨rfl, k8⟩; have HS8 := Lib.hid (HS7.out.kept k8); clear k8)
      have HDR2 := Lib.hid (wq_drop HS8.out J (by omega))
      rw [HOO.out, Int.sub_self] at HDR2
      go_wp2_with (go_at_call 13; refine HDR2.out.mono ?_; rintro e w9 ⟨rfl, s9⟩; have HS9 := Lib.hid s9; clear s9)
      go_wp2_with (go_at_call 17; refine (st_len bq 60 B w _ HS9.out.st).mono ?_; rintro e w10 ⟨rfl, rfl⟩)
      go_wp2_with fail
      go_ret
      exact ⟨rfl, HS9.out.old⟩

set_option maxHeartbeats 4000000 in
theorem drops_nil (ao : Option Addr) (cap : Nat) (J : Int) (w : World) :
    Calls Try.prog 5 #[.slice ao 0 cap, .int .i64 J] w fun e w' => e = .returned (.bool true) ∧ Kept NoB w w' := by
  go_enter Try.func5, Try.ntmps5
  go_wp2_with fail
  refine (st_new 60 w _ (by repeat (first | with_reducible exact Kept.refl _ _ | with_reducible refine Kept.alloc ?_ _ | with_reducible refine Kept.drewN ?_ _ | with_reducible refine Kept.drew ?_))).mono ?_
  rintro e w1 ⟨rfl, s1⟩
  generalize w.heap.size = bq at s1
  have S1 := Lib.hid (WQ.begin s1)
  clear s1
  go_wp2_with fail
  go_loopw [6, 7, 8] (fun sv nv iv wr => ∃ (t nn c : Nat) (a : Option Addr), t ≤ 0 ∧ iv = .int .i64 t ∧ nv = .int .i64 nn ∧ nn + (others (([] : List Ask).take t) J).length = t ∧ sv = .slice a (others (([] : List Ask).take t) J).length c ∧ WQ w wr bq (([] : List Ask).take t) a c (others (([] : List Ask).take t) J)) (fun _ _ iv _ => 60 - (intOf iv).toNat)
  case atStart => exact ⟨0, 0, 0, some ⟨w1.heap.size, 0, none⟩, Nat.zero_le _, rfl, rfl, rfl, rfl, S1.out⟩
  case round =>
    obtain ⟨t, nn, c, a, ht, rfl, rfl, hn, rfl, hwq⟩ := hrel
    by_cases hlt : t < 0
    · omega
    · have hkM : t = 0 := by omega
      subst hkM
      obtain ⟨A, hA⟩ : ∃ A, ([] : List Ask).take 0 = A := ⟨_, rfl⟩
      have hAl : A.length = 0 := by rw [← hA, List.length_take]; omega
      rw [hA] at hwq hn
      rw [hA]
      have hd : (A.length : Int) - (others A J).length = nn := by omega
      have HO := others_others A J
      obtain ⟨B, hB⟩ : ∃ B, others A J = B := ⟨_, rfl⟩
      rw [hB] at hwq hn hd HO
      rw [hB]
      have hBl : B.length ≤ 60 := by omega
      have HA := Lib.hid hA
      have HAL := Lib.hid hAl
      have HB := Lib.hid hB
      have HOO := Lib.hid HO
      have HD := Lib.hid hd
      have HWQ := Lib.hid hwq
      clear hA hAl hB HO hd hwq
      go_wp2_with (go_at_call 20; refine (awake_any _).mono ?_; rintro e w5 ⟨rfl, k5⟩; have HS5 := Lib.hid (HWQ.out.kept k5); clear k5)
      have HDR := Lib.hid (wq_drop HS5.out J (by rw [HAL.out]; omega))
      rw [HB.out, HD.out] at HDR
      go_wp2_with (go_at_call 13; refine HDR.out.mono ?_; rintro e w6 ⟨rfl, s6⟩; have HS6 := Lib.hid s6; clear s6)
      go_wp2_with (go_at_call 19; refine (st_all bq 60 B w _ HS6.out.st (by omega)).mono ?_; rintro e w7 ⟨v, rfl, ⟨ao, rfl⟩, r7, k7, _⟩; have HS7 := Lib.hid (HS6.out.kept k7); have HR7 := Lib.hid r7; clear k7 r7)
      go_wp2_with (go_at_call 18; refine (alike_self _ _ _ _ B _ HR7.out HS7.out.row (by omega)).mono ?_; rintro e w8 ⟨rfl, k8⟩; have HS8 := Lib.hid (HS7.out.kept k8); clear k8)
      have HDR2 := Lib.hid (wq_drop HS8.out J (by omega))
      rw [HOO.out, Int.sub_self] at HDR2
      go_wp2_with (go_at_call 13; refine HDR2.out.mono ?_; rintro e w9 ⟨rfl, s9⟩; have HS9 := Lib.hid s9; clear s9)
      go_wp2_with (go_at_call 17; refine (st_len bq 60 B w _ HS9.out.st).mono ?_; rintro e w10 ⟨rfl, rfl⟩)
      go_wp2_with fail
      go_ret
      exact ⟨rfl, HS9.out.old⟩

theorem drops_any (ao : Option Addr) (n cap : Nat) (l : List Ask) (J : Int) (w : World) (h : InAsks w ao n l) :
    Calls Try.prog 5 #[.slice ao n cap, .int .i64 J] w fun e w' => e = .returned (.bool true) ∧ Kept NoB w w' := by
  obtain ⟨rfl, hmax, h0 | ⟨b, off, rfl, hin⟩⟩ := h
  · rw [h0]; exact drops_nil ao cap J w
  · by_cases hM : 60 < l.length
    · exact drops_full b off cap l J w hM hin
    · exact drops_part b off cap l J w (by omega) hin
end Go.Proofs.Ytjagoljaocbdcaa
