/- The walk of the law QueueOwn. -/
import Derived.Test.YtjagoljaocbdcaaQS
import Derived.Test.YtjagoljaocbdcaaOpen
import Derived.Deep.RegionHeld3
import Derived.IntWalk
namespace Go.Proofs.Ytjagoljaocbdcaa
open Go.RowKit

theorem own_two {w wa wb wc : World} {bq n : Nat} {L : List Ask} {v1 v2 : Value} (hL : L.length = n) (f1 : Fresh wa wb v1 L) (f2 : Fresh wb wc v2 L) (h : QS w wc bq L (fun k => ((fun k => (fun _ => False) k ∨ v1.ownBlock = some k) k) ∨ v2.ownBlock = some k)) :
    ∃ a1 a2, v1 = .slice a1 n n ∧ v2 = .slice a2 n n ∧ Row wc 28 6 v1 n n (cellsOf L) ∧ (∀ k, v2.ownBlock = some k → v1.ownBlock ≠ some k) ∧ Asks wc v2 L n ∧
      ∀ W, Kept (fun k => v1.ownBlock = some k) wc W → QS w W bq L (fun k => v2.ownBlock = some k) := by
  subst hL
  obtain ⟨⟨a1, e1⟩, r1, k1, o1⟩ := f1
  obtain ⟨⟨a2, e2⟩, r2, k2, o2⟩ := f2
  refine ⟨a1, a2, e1, e2, r1.kept k2 (fun _ _ h => h), fun k hk e => ?_, r2, fun W hW => ?_⟩
  · have := r1.lt k e; have := o2 k hk; omega
  · obtain ⟨g, q1, q2, q3, q4, q5⟩ := h.kept hW (fun k hk => .inl (.inr hk))
    exact ⟨g, q1, q2, q3, q4, fun k hk => q5 k (.inr hk)⟩

theorem fresh_form {wa wb : World} {v : Value} {L : List Ask} {n : Nat} (hL : L.length = n) (h : Fresh wa wb v L) : ∃ a, v = .slice a n n ∧ Row wb 28 6 v n n (cellsOf L) := by
  subst hL
  obtain ⟨⟨a, e⟩, r, _, _⟩ := h
  exact ⟨a, e, r⟩
theorem asks_of_row {w : World} {v : Value} {L : List Ask} {n c : Nat} (hL : L.length = n) (h : Row w 28 6 v n c (cellsOf L)) : Asks w v L c := by subst hL; exact h
theorem rest0 (L : List Ask) : rest L 0 = L.drop 1 := by
  unfold rest
  split
  · show L.eraseIdx 0 = _
    rw [List.eraseIdx_zero, List.drop_one]
  · rename_i h
    cases L with
    | nil => rfl
    | cons a l => simp at h

set_option maxHeartbeats 4000000 in
theorem own_full (b off cap : Nat) (l : List Ask) (J : Int) (w : World) (hM : 60 < l.length) (hin : ∀ i a, l[i]? = some a → ∀ j u, a.cells[j]? = some u → w.cell? ⟨b, off + (i * 6 + j), none⟩ = some u) :
    Calls Try.prog 6 #[.slice (some ⟨b, off, none⟩) l.length cap, .int .i64 J] w fun e w' => e = .returned (.bool true) ∧ Kept NoB w w' := by
  have HIN := Lib.hid hin
  clear hin
  obtain ⟨i0, hi, hz0, hz1, hz2⟩ := info_parts info28
  go_enter Try.func6, Try.ntmps6
  go_wp2_with fail
  refine (st_new 60 w _ (by repeat (first | with_reducible exact Kept.refl _ _ | with_reducible refine Kept.alloc ?_ _ | with_reducible refine Kept.drewN ?_ _ | with_reducible refine Kept.drew ?_))).mono ?_
  rintro e w1 ⟨rfl, s1⟩
  generalize w.heap.size = bq at s1
  have S1 := Lib.hid s1
  clear s1
  go_wp2_with fail
  go_loopw [6] (fun i wr => ∃ k : Nat, k ≤ 60 ∧ i = .int .i64 k ∧ St w wr bq 60 (l.take k)) (fun i _ => 60 - (intOf i).toNat)
  case atStart => exact ⟨0, Nat.zero_le _, rfl, S1.out⟩
  case round =>
    obtain ⟨k, hk, rfl, hst⟩ := hrel
    by_cases hlt : k < 60
    · have hkl : k < l.length := by omega
      have hk6 : k < 60 := by omega
      obtain ⟨x, hx⟩ : ∃ x, l[k] = x := ⟨_, rfl⟩
      obtain ⟨x0, x1, x2, x3, x4, x5⟩ := in_get hst.old hkl hx HIN.out
      have HP := Lib.hid (st_push_yes bq 60 (l.take k) x w wr hst (by decide) (by simp; omega))
      have HT := Lib.hid (List.take_succ_eq_append_getElem hkl)
      rw [hx] at HT
      unfold Ask.val Ask.arr at HP
      clear hst hx
      go_wp2_with (go_at_call 15; refine HP.out.mono ?_; rintro e w2 ⟨rfl, s2⟩)
      go_roundw
      case rel => exact ⟨k + 1, by omega, by go_num, by rw [HT.out]; exact s2⟩
      case measure => simp [intOf]; omega
    · have hkM : k = 60 := by omega
      subst hkM
      have hLl : (l.take 60).length = 60 := by rw [List.length_take]; omega
      generalize l.take 60 = L at hst hLl
      have HL := Lib.hid hLl
      have HS0 := Lib.hid (QS.begin hst)
      clear hLl hst
      go_wp2_with (go_at_call 19; refine (st_all bq 60 L w _ HS0.out.st (by rw [HL.out]; omega)).mono ?_; rintro e w2 ⟨v1, rfl, f1⟩; have HS1 := Lib.hid (HS0.out.fresh f1); have HF1 := Lib.hid f1; clear f1)
      go_wp2_with (go_at_call 19; refine (st_all bq 60 L w _ HS1.out.st (by rw [HL.out]; omega)).mono ?_; rintro e w3 ⟨v2, rfl, f2⟩; have HS2 := Lib.hid (HS1.out.fresh f2); have HF2 := Lib.hid f2; clear f2)
      have HO := Lib.hid (own_two HL.out HF1.out HF2.out HS2.out)
      obtain ⟨a1, a2, rfl, rfl, r1, hne, r2, HQ⟩ := HO.out
      have HNE := Lib.hid hne
      have HR1 := Lib.hid r1
      have HR2 := Lib.hid r2
      clear HO r1 r2 hne HS0 HS1 HS2 HF1 HF2
      have HQQ := Lib.hid HQ
      clear HQ
      go_wp2_with fail
      go_loopw [9] (fun i wr => ∃ (t : Nat) (L1 : List Ask), t ≤ 60 ∧ i = .int .i64 t ∧ L1.length = 60 ∧ Row wr 28 6 (.slice a1 60 60) 60 60 (cellsOf L1) ∧ Kept (fun k => (Value.slice a1 60 60).ownBlock = some k) w3 wr) (fun i _ => 60 - (intOf i).toNat)
      case atStart => exact ⟨0, L, Nat.zero_le _, rfl, HL.out, HR1.out, Kept.refl _ _⟩
      case round =>
        obtain ⟨t, L1, ht, rfl, hL1, hrow, hkw⟩ := hrel
        by_cases htl : t < 60
        · rcases hrow.2 with ⟨_, h, _⟩ | ⟨g1, cur1, hv1, _⟩
          · omega
          cases hv1
          have hb6 : t * 6 + 5 < 60 * 6 := by omega
          obtain ⟨z0, p0, q0⟩ := hrow.there (t * 6) (by omega)
          obtain ⟨z1, p1, q1⟩ := hrow.there (t * 6 + 1) (by omega)
          obtain ⟨z2, p2, q2⟩ := hrow.there (t * 6 + 2) (by omega)
          obtain ⟨z3, p3, q3⟩ := hrow.there (t * 6 + 3) (by omega)
          obtain ⟨z4, p4, q4⟩ := hrow.there (t * 6 + 4) (by omega)
          obtain ⟨z5, p5, q5⟩ := hrow.there (t * 6 + 5) (by omega)
          have HROW := Lib.hid hrow
          have HKW := Lib.hid hkw
          have hti : (t : Int) < (60 : Int) := by omega
          clear hrow hkw
          go_wp2_with fail
          go_roundw
          case rel => exact ⟨t + 1, L1.set t ⟨J, 0, 0, 0, t, 0⟩, by omega, by go_num, by simpa using hL1, HROW.out.setAsk t ⟨J, 0, 0, 0, t, 0⟩ (by omega), HKW.out.sixAt g1 _ (fun _ => rfl) _ _ _ _ _ _⟩
          case measure => simp [intOf]; omega
        · have htM : t = 60 := by omega
          subst htM
          have HROW := Lib.hid hrow
          have HKW := Lib.hid hkw
          clear hrow hkw
          go_wp2_with (at_builtin; refine wpList_append_any rfl (.tmp 44) (.tmp 47) 37 rfl 28 i0 _ 6 48 Try.underlying37 hi hz0 hz1 hz2 rfl (by decide) _ 60 60 (cellsOf L1) rfl (HROW.out.kept (S := NoB) ((Kept.refl _ _).alloc _) (fun _ _ h => h)) _ 1 (Ask.cells ⟨J, 0, 0, 0, 0, 0⟩) rfl ((Row.laid wr 28 6 1 (Ask.arr ⟨J, 0, 0, 0, 0, 0⟩) rfl (by decide) _ rfl).src) (cells_one _) (60 + 1) rfl (cellsOf L1 ++ Ask.cells ⟨J, 0, 0, 0, 0, 0⟩) rfl (by unfold maxLen; omega) (by omega) ?_; intro a3 c3 w4 hrow4 hgrow4 hat4 _; have hK4 := (HKW.out.alloc (.cells (Ask.arr ⟨J, 0, 0, 0, 0, 0⟩) 28)).grown hgrow4 (fun k e _ => e); have HQ4 := Lib.hid (HQQ.out w4 hK4); have HR4 := Lib.hid (Row.kept HR2.out hK4 (fun k hk e => HNE.out k hk e)); clear hK4; clear hrow4 hgrow4 hat4)
          go_wp2_with (go_at_call 19; refine (st_all bq 60 L w _ HQ4.out.st (by rw [HL.out]; omega)).mono ?_; rintro e w5 ⟨v3, rfl, f3⟩; have HS5 := Lib.hid (HQ4.out.fresh f3); have HR5 := Lib.hid (Row.kept HR4.out f3.2.2.1 (fun _ _ h => h)); have HF3 := Lib.hid f3; clear f3)
          obtain ⟨a5, rfl, r5⟩ := fresh_form HL.out HF3.out
          have HT := Lib.hid (qs_take HS5.out 0)
          rw [rest0] at HT
          generalize (took L 0).1.val = tv at HT
          generalize (took L 0).2 = tb at HT
          have HR35 := Lib.hid r5
          clear r5
          go_wp2_with (go_at_call 10; refine HT.out.mono ?_; rintro e w6 ⟨rfl, s6, k6⟩; have HS6 := Lib.hid s6; have HR26 := Lib.hid (Row.kept HR5.out k6 (fun k hk hn => hn (.inl hk))); have HR36 := Lib.hid (Row.kept HR35.out k6 (fun k hk hn => hn (.inr hk))); clear s6 k6)
          have HA1 : Hid (∀ W, Kept NoB w6 W → Calls Try.prog 18 #[.slice a2 60 60, .slice a5 60 60] W fun e w' => e = .returned (.bool true) ∧ Kept NoB W w') := Lib.hid (fun W hW => alike_self _ _ _ _ L W (HR26.out.kept hW (fun _ _ h => h)) (asks_of_row HL.out (HR36.out.kept hW (fun _ _ h => h))) (by rw [HL.out]; omega))
          have HAW := Lib.hid (fun W => awake_any W)
          have hr3 := HR36.out
          rcases hr3.2 with ⟨_, h, _⟩ | ⟨g3, cur3, hv3, _⟩
          · omega
          cases hv3
          have HTL : Hid (Reads w6 g3 6 (L.drop 1)) := Lib.hid (reads_tail hr3)
          clear hr3
          have HLD : Hid ((L.drop 1).length = 59) := Lib.hid (by rw [List.length_drop, HL.out])
          have HAL : Hid (∀ W, Kept NoB w6 W → Calls Try.prog 19 #[.pointer (some ⟨bq, 0, none⟩)] W fun e w' => ∃ v4, e = .returned v4 ∧ Asks w' v4 (L.drop 1) (L.drop 1).length ∧ Kept NoB W w') := Lib.hid (fun W hW => (st_all bq 60 (L.drop 1) w W (HS6.out.kept hW) (by rw [HLD.out]; omega)).mono fun _ _ ⟨v, he, f⟩ => ⟨v, he, f.2.1, f.2.2.1⟩)
          have HA2 : Hid (∀ W v4, Kept NoB w6 W → Asks W v4 (L.drop 1) (L.drop 1).length → Calls Try.prog 18 #[v4, .slice (some ⟨g3, 6, none⟩) 59 59] W fun e w' => e = .returned (.bool true) ∧ Kept NoB W w') := Lib.hid (fun W v4 hW h4 => (by have h := alike_at v4 _ g3 6 59 (L.drop 1) W h4 (fun i a hi j u hu => hW.cell (HTL.out i a hi j u hu) (fun h => h)) (by rw [HLD.out]; omega); rw [HLD.out] at h; exact h))
          have hw1 : IntKind.i64.wrap (60 + 1) = 61 := by decide
          have hw2 : IntKind.i64.wrap 61 = 61 := by decide
          go_region_held3 (fun W => Kept NoB w6 W)
            (first | (with_reducible assumption) | (exact Kept.then (by with_reducible assumption) kc) | (exact Kept.drew (Kept.refl _ _)))
            (first
              | (go_at_call 20; refine (HAW.out _).mono ?_; rintro e w8 ⟨rfl, kc⟩)
              | (go_at_call 19; refine (HAL.out _ (by with_reducible assumption)).mono ?_; rintro e w8 ⟨v4, rfl, h4, kc⟩; have HR4' := Lib.hid h4; clear h4)
              | (go_at_call 18; refine (HA2.out _ _ (by with_reducible assumption) HR4'.out).mono ?_; rintro e w8 ⟨rfl, kc⟩)
              | (go_at_call 18; refine (HA1.out _ (by with_reducible assumption)).mono ?_; rintro e w8 ⟨rfl, kc⟩))
          go_wp2_with fail
          go_ret
          exact ⟨rfl, HS6.out.old.then (by assumption)⟩

set_option maxHeartbeats 4000000 in
theorem own_many (b off cap : Nat) (l : List Ask) (J : Int) (w : World) (hM : 1 < l.length ∧ l.length ≤ 60) (hin : ∀ i a, l[i]? = some a → ∀ j u, a.cells[j]? = some u → w.cell? ⟨b, off + (i * 6 + j), none⟩ = some u) :
    Calls Try.prog 6 #[.slice (some ⟨b, off, none⟩) l.length cap, .int .i64 J] w fun e w' => e = .returned (.bool true) ∧ Kept NoB w w' := by
  have HIN := Lib.hid hin
  clear hin
  obtain ⟨i0, hi, hz0, hz1, hz2⟩ := info_parts info28
  go_enter Try.func6, Try.ntmps6
  go_wp2_with fail
  refine (st_new 60 w _ (by repeat (first | with_reducible exact Kept.refl _ _ | with_reducible refine Kept.alloc ?_ _ | with_reducible refine Kept.drewN ?_ _ | with_reducible refine Kept.drew ?_))).mono ?_
  rintro e w1 ⟨rfl, s1⟩
  generalize w.heap.size = bq at s1
  have S1 := Lib.hid s1
  clear s1
  go_wp2_with fail
  go_loopw [6] (fun i wr => ∃ k : Nat, k ≤ l.length ∧ i = .int .i64 k ∧ St w wr bq 60 (l.take k)) (fun i _ => 60 - (intOf i).toNat)
  case atStart => exact ⟨0, Nat.zero_le _, rfl, S1.out⟩
  case round =>
    obtain ⟨k, hk, rfl, hst⟩ := hrel
    by_cases hlt : k < l.length
    · have hkl : k < l.length := by omega
      have hk6 : k < 60 := by omega
      obtain ⟨x, hx⟩ : ∃ x, l[k] = x := ⟨_, rfl⟩
      obtain ⟨x0, x1, x2, x3, x4, x5⟩ := in_get hst.old hkl hx HIN.out
      have HP := Lib.hid (st_push_yes bq 60 (l.take k) x w wr hst (by decide) (by simp; omega))
      have HT := Lib.hid (List.take_succ_eq_append_getElem hkl)
      rw [hx] at HT
      unfold Ask.val Ask.arr at HP
      clear hst hx
      go_wp2_with (go_at_call 15; refine HP.out.mono ?_; rintro e w2 ⟨rfl, s2⟩)
      go_roundw
      case rel => exact ⟨k + 1, by omega, by go_num, by rw [HT.out]; exact s2⟩
      case measure => simp [intOf]; omega
    · have hkM : k = l.length := by omega
      subst hkM
      have hLl : (l.take l.length).length = l.length := by rw [List.length_take]; omega
      generalize l.take l.length = L at hst hLl
      have HL := Lib.hid hLl
      have HS0 := Lib.hid (QS.begin hst)
      clear hLl hst
      go_wp2_with (go_at_call 19; refine (st_all bq 60 L w _ HS0.out.st (by rw [HL.out]; omega)).mono ?_; rintro e w2 ⟨v1, rfl, f1⟩; have HS1 := Lib.hid (HS0.out.fresh f1); have HF1 := Lib.hid f1; clear f1)
      go_wp2_with (go_at_call 19; refine (st_all bq 60 L w _ HS1.out.st (by rw [HL.out]; omega)).mono ?_; rintro e w3 ⟨v2, rfl, f2⟩; have HS2 := Lib.hid (HS1.out.fresh f2); have HF2 := Lib.hid f2; clear f2)
      have HO := Lib.hid (own_two HL.out HF1.out HF2.out HS2.out)
      obtain ⟨a1, a2, rfl, rfl, r1, hne, r2, HQ⟩ := HO.out
      have HNE := Lib.hid hne
      have HR1 := Lib.hid r1
      have HR2 := Lib.hid r2
      clear HO r1 r2 hne HS0 HS1 HS2 HF1 HF2
      have HQQ := Lib.hid HQ
      clear HQ
      go_wp2_with fail
      go_loopw [9] (fun i wr => ∃ (t : Nat) (L1 : List Ask), t ≤ l.length ∧ i = .int .i64 t ∧ L1.length = l.length ∧ Row wr 28 6 (.slice a1 l.length l.length) l.length l.length (cellsOf L1) ∧ Kept (fun k => (Value.slice a1 l.length l.length).ownBlock = some k) w3 wr) (fun i _ => l.length - (intOf i).toNat)
      case atStart => exact ⟨0, L, Nat.zero_le _, rfl, HL.out, HR1.out, Kept.refl _ _⟩
      case round =>
        obtain ⟨t, L1, ht, rfl, hL1, hrow, hkw⟩ := hrel
        by_cases htl : t < l.length
        · rcases hrow.2 with ⟨_, h, _⟩ | ⟨g1, cur1, hv1, _⟩
          · omega
          cases hv1
          have hb6 : t * 6 + 5 < l.length * 6 := by omega
          obtain ⟨z0, p0, q0⟩ := hrow.there (t * 6) (by omega)
          obtain ⟨z1, p1, q1⟩ := hrow.there (t * 6 + 1) (by omega)
          obtain ⟨z2, p2, q2⟩ := hrow.there (t * 6 + 2) (by omega)
          obtain ⟨z3, p3, q3⟩ := hrow.there (t * 6 + 3) (by omega)
          obtain ⟨z4, p4, q4⟩ := hrow.there (t * 6 + 4) (by omega)
          obtain ⟨z5, p5, q5⟩ := hrow.there (t * 6 + 5) (by omega)
          have HROW := Lib.hid hrow
          have HKW := Lib.hid hkw
          have hti : (t : Int) < (l.length : Int) := by omega
          clear hrow hkw
          go_wp2_with fail
          go_roundw
          case rel => exact ⟨t + 1, L1.set t ⟨J, 0, 0, 0, t, 0⟩, by omega, by go_num, by simpa using hL1, HROW.out.setAsk t ⟨J, 0, 0, 0, t, 0⟩ (by omega), HKW.out.sixAt g1 _ (fun _ => rfl) _ _ _ _ _ _⟩
          case measure => simp [intOf]; omega
        · have htM : t = l.length := by omega
          subst htM
          have HROW := Lib.hid hrow
          have HKW := Lib.hid hkw
          clear hrow hkw
          go_wp2_with (at_builtin; refine wpList_append_any rfl (.tmp 44) (.tmp 47) 37 rfl 28 i0 _ 6 48 Try.underlying37 hi hz0 hz1 hz2 rfl (by decide) _ l.length l.length (cellsOf L1) rfl (HROW.out.kept (S := NoB) ((Kept.refl _ _).alloc _) (fun _ _ h => h)) _ 1 (Ask.cells ⟨J, 0, 0, 0, 0, 0⟩) rfl ((Row.laid wr 28 6 1 (Ask.arr ⟨J, 0, 0, 0, 0, 0⟩) rfl (by decide) _ rfl).src) (cells_one _) (l.length + 1) rfl (cellsOf L1 ++ Ask.cells ⟨J, 0, 0, 0, 0, 0⟩) rfl (by unfold maxLen; omega) (by omega) ?_; intro a3 c3 w4 hrow4 hgrow4 hat4 _; have hK4 := (HKW.out.alloc (.cells (Ask.arr ⟨J, 0, 0, 0, 0, 0⟩) 28)).grown hgrow4 (fun k e _ => e); have HQ4 := Lib.hid (HQQ.out w4 hK4); have HR4 := Lib.hid (Row.kept HR2.out hK4 (fun k hk e => HNE.out k hk e)); clear hK4; clear hrow4 hgrow4 hat4)
          go_wp2_with (go_at_call 19; refine (st_all bq 60 L w _ HQ4.out.st (by rw [HL.out]; omega)).mono ?_; rintro e w5 ⟨v3, rfl, f3⟩; have HS5 := Lib.hid (HQ4.out.fresh f3); have HR5 := Lib.hid (Row.kept HR4.out f3.2.2.1 (fun _ _ h => h)); have HF3 := Lib.hid f3; clear f3)
          obtain ⟨a5, rfl, r5⟩ := fresh_form HL.out HF3.out
          have HT := Lib.hid (qs_take HS5.out 0)
          rw [rest0] at HT
          generalize (took L 0).1.val = tv at HT
          generalize (took L 0).2 = tb at HT
          have HR35 := Lib.hid r5
          clear r5
          go_wp2_with (go_at_call 10; refine HT.out.mono ?_; rintro e w6 ⟨rfl, s6, k6⟩; have HS6 := Lib.hid s6; have HR26 := Lib.hid (Row.kept HR5.out k6 (fun k hk hn => hn (.inl hk))); have HR36 := Lib.hid (Row.kept HR35.out k6 (fun k hk hn => hn (.inr hk))); clear s6 k6)
          have HA1 : Hid (∀ W, Kept NoB w6 W → Calls Try.prog 18 #[.slice a2 l.length l.length, .slice a5 l.length l.length] W fun e w' => e = .returned (.bool true) ∧ Kept NoB W w') := Lib.hid (fun W hW => alike_self _ _ _ _ L W (HR26.out.kept hW (fun _ _ h => h)) (asks_of_row HL.out (HR36.out.kept hW (fun _ _ h => h))) (by rw [HL.out]; omega))
          have HAW := Lib.hid (fun W => awake_any W)
          have hr3 := HR36.out
          rcases hr3.2 with ⟨_, h, _⟩ | ⟨g3, cur3, hv3, _⟩
          · omega
          cases hv3
          have HTL : Hid (Reads w6 g3 6 (L.drop 1)) := Lib.hid (reads_tail hr3)
          clear hr3
          have HLD : Hid ((L.drop 1).length = l.length - 1) := Lib.hid (by rw [List.length_drop, HL.out])
          have HAL : Hid (∀ W, Kept NoB w6 W → Calls Try.prog 19 #[.pointer (some ⟨bq, 0, none⟩)] W fun e w' => ∃ v4, e = .returned v4 ∧ Asks w' v4 (L.drop 1) (L.drop 1).length ∧ Kept NoB W w') := Lib.hid (fun W hW => (st_all bq 60 (L.drop 1) w W (HS6.out.kept hW) (by rw [HLD.out]; omega)).mono fun _ _ ⟨v, he, f⟩ => ⟨v, he, f.2.1, f.2.2.1⟩)
          have HA2 : Hid (∀ W v4, Kept NoB w6 W → Asks W v4 (L.drop 1) (L.drop 1).length → Calls Try.prog 18 #[v4, .slice (some ⟨g3, 6, none⟩) (l.length - 1) (l.length - 1)] W fun e w' => e = .returned (.bool true) ∧ Kept NoB W w') := Lib.hid (fun W v4 hW h4 => (by have h := alike_at v4 _ g3 6 (l.length - 1) (L.drop 1) W h4 (fun i a hi j u hu => hW.cell (HTL.out i a hi j u hu) (fun h => h)) (by rw [HLD.out]; omega); rw [HLD.out] at h; exact h))
          have q1 : (1 : Int) ≤ (l.length : Int) := by omega
          have q2 : ¬ l.length = 1 := by omega
          have q3 : 1 ≤ l.length := by omega
          have q4 : ¬ l.length = 0 := by omega
          have q5 : ¬ (l.length : Int) = 0 := by omega
          have q6 : ((l.length : Int) == 0) = false := by rw [beq_eq_false_iff_ne]; exact q5
          have hw1 : IntKind.i64.wrap ((l.length : Int) + 1) = (l.length : Int) + 1 := IntWalk.i64_in _ (by omega)
          go_region_held3 (fun W => Kept NoB w6 W)
            (first | (with_reducible assumption) | (exact Kept.then (by with_reducible assumption) kc) | (exact Kept.drew (Kept.refl _ _)))
            (first
              | (go_at_call 20; refine (HAW.out _).mono ?_; rintro e w8 ⟨rfl, kc⟩)
              | (go_at_call 19; refine (HAL.out _ (by with_reducible assumption)).mono ?_; rintro e w8 ⟨v4, rfl, h4, kc⟩; have HR4' := Lib.hid h4; clear h4)
              | (go_at_call 18; refine (HA2.out _ _ (by with_reducible assumption) HR4'.out).mono ?_; rintro e w8 ⟨rfl, kc⟩)
              | (go_at_call 18; refine (HA1.out _ (by with_reducible assumption)).mono ?_; rintro e w8 ⟨rfl, kc⟩))
          go_wp2_with fail
          go_ret
          exact ⟨rfl, HS6.out.old.then (by assumption)⟩

set_option maxHeartbeats 4000000 in
theorem own_one (b off cap : Nat) (l : List Ask) (J : Int) (w : World) (hM : l.length = 1) (hin : ∀ i a, l[i]? = some a → ∀ j u, a.cells[j]? = some u → w.cell? ⟨b, off + (i * 6 + j), none⟩ = some u) :
    Calls Try.prog 6 #[.slice (some ⟨b, off, none⟩) 1 cap, .int .i64 J] w fun e w' => e = .returned (.bool true) ∧ Kept NoB w w' := by
  have HIN := Lib.hid hin
  clear hin
  obtain ⟨i0, hi, hz0, hz1, hz2⟩ := info_parts info28
  go_enter Try.func6, Try.ntmps6
  go_wp2_with fail
  refine (st_new 60 w _ (by repeat (first | with_reducible exact Kept.refl _ _ | with_reducible refine Kept.alloc ?_ _ | with_reducible refine Kept.drewN ?_ _ | with_reducible refine Kept.drew ?_))).mono ?_
  rintro e w1 ⟨rfl, s1⟩
  generalize w.heap.size = bq at s1
  have S1 := Lib.hid s1
  clear s1
  go_wp2_with fail
  go_loopw [6] (fun i wr => ∃ k : Nat, k ≤ 1 ∧ i = .int .i64 k ∧ St w wr bq 60 (l.take k)) (fun i _ => 60 - (intOf i).toNat)
  case atStart => exact ⟨0, Nat.zero_le _, rfl, S1.out⟩
  case round =>
    obtain ⟨k, hk, rfl, hst⟩ := hrel
    by_cases hlt : k < 1
    · have hkl : k < l.length := by omega
      have hk6 : k < 60 := by omega
      obtain ⟨x, hx⟩ : ∃ x, l[k] = x := ⟨_, rfl⟩
      obtain ⟨x0, x1, x2, x3, x4, x5⟩ := in_get hst.old hkl hx HIN.out
      have HP := Lib.hid (st_push_yes bq 60 (l.take k) x w wr hst (by decide) (by simp; omega))
      have HT := Lib.hid (List.take_succ_eq_append_getElem hkl)
      rw [hx] at HT
      unfold Ask.val Ask.arr at HP
      clear hst hx
      go_wp2_with (go_at_call 15; refine HP.out.mono ?_; rintro e w2 ⟨rfl, s2⟩)
      go_roundw
      case rel => exact ⟨k + 1, by omega, by go_num, by rw [HT.out]; exact s2⟩
      case measure => simp [intOf]; omega
    · have hkM : k = 1 := by omega
      subst hkM
      have hLl : (l.take 1).length = 1 := by rw [List.length_take]; omega
      generalize l.take 1 = L at hst hLl
      have HL := Lib.hid hLl
      have HS0 := Lib.hid (QS.begin hst)
      clear hLl hst
      go_wp2_with (go_at_call 19; refine (st_all bq 60 L w _ HS0.out.st (by rw [HL.out]; omega)).mono ?_; rintro e w2 ⟨v1, rfl, f1⟩; have HS1 := Lib.hid (HS0.out.fresh f1); have HF1 := Lib.hid f1; clear f1)
      go_wp2_with (go_at_call 19; refine (st_all bq 60 L w _ HS1.out.st (by rw [HL.out]; omega)).mono ?_; rintro e w3 ⟨v2, rfl, f2⟩; have HS2 := Lib.hid (HS1.out.fresh f2); have HF2 := Lib.hid f2; clear f2)
      have HO := Lib.hid (own_two HL.out HF1.out HF2.out HS2.out)
      obtain ⟨a1, a2, rfl, rfl, r1, hne, r2, HQ⟩ := HO.out
      have HNE := Lib.hid hne
      have HR1 := Lib.hid r1
      have HR2 := Lib.hid r2
      clear HO r1 r2 hne HS0 HS1 HS2 HF1 HF2
      have HQQ := Lib.hid HQ
      clear HQ
      go_wp2_with fail
      go_loopw [9] (fun i wr => ∃ (t : Nat) (L1 : List Ask), t ≤ 1 ∧ i = .int .i64 t ∧ L1.length = 1 ∧ Row wr 28 6 (.slice a1 1 1) 1 1 (cellsOf L1) ∧ Kept (fun k => (Value.slice a1 1 1).ownBlock = some k) w3 wr) (fun i _ => 1 - (intOf i).toNat)
      case atStart => exact ⟨0, L, Nat.zero_le _, rfl, HL.out, HR1.out, Kept.refl _ _⟩
      case round =>
        obtain ⟨t, L1, ht, rfl, hL1, hrow, hkw⟩ := hrel
        by_cases htl : t < 1
        · rcases hrow.2 with ⟨_, h, _⟩ | ⟨g1, cur1, hv1, _⟩
          · omega
          cases hv1
          have hb6 : t * 6 + 5 < 1 * 6 := by omega
          obtain ⟨z0, p0, q0⟩ := hrow.there (t * 6) (by omega)
          obtain ⟨z1, p1, q1⟩ := hrow.there (t * 6 + 1) (by omega)
          obtain ⟨z2, p2, q2⟩ := hrow.there (t * 6 + 2) (by omega)
          obtain ⟨z3, p3, q3⟩ := hrow.there (t * 6 + 3) (by omega)
          obtain ⟨z4, p4, q4⟩ := hrow.there (t * 6 + 4) (by omega)
          obtain ⟨z5, p5, q5⟩ := hrow.there (t * 6 + 5) (by omega)
          have HROW := Lib.hid hrow
          have HKW := Lib.hid hkw
          have hti : (t : Int) < (1 : Int) := by omega
          clear hrow hkw
          go_wp2_with fail
          go_roundw
          case rel => exact ⟨t + 1, L1.set t ⟨J, 0, 0, 0, t, 0⟩, by omega, by go_num, by simpa using hL1, HROW.out.setAsk t ⟨J, 0, 0, 0, t, 0⟩ (by omega), HKW.out.sixAt g1 _ (fun _ => rfl) _ _ _ _ _ _⟩
          case measure => simp [intOf]; omega
        · have htM : t = 1 := by omega
          subst htM
          have HROW := Lib.hid hrow
          have HKW := Lib.hid hkw
          clear hrow hkw
          go_wp2_with (at_builtin; refine wpList_append_any rfl (.tmp 44) (.tmp 47) 37 rfl 28 i0 _ 6 48 Try.underlying37 hi hz0 hz1 hz2 rfl (by decide) _ 1 1 (cellsOf L1) rfl (HROW.out.kept (S := NoB) ((Kept.refl _ _).alloc _) (fun _ _ h => h)) _ 1 (Ask.cells ⟨J, 0, 0, 0, 0, 0⟩) rfl ((Row.laid wr 28 6 1 (Ask.arr ⟨J, 0, 0, 0, 0, 0⟩) rfl (by decide) _ rfl).src) (cells_one _) (1 + 1) rfl (cellsOf L1 ++ Ask.cells ⟨J, 0, 0, 0, 0, 0⟩) rfl (by unfold maxLen; omega) (by omega) ?_; intro a3 c3 w4 hrow4 hgrow4 hat4 _; have hK4 := (HKW.out.alloc (.cells (Ask.arr ⟨J, 0, 0, 0, 0, 0⟩) 28)).grown hgrow4 (fun k e _ => e); have HQ4 := Lib.hid (HQQ.out w4 hK4); have HR4 := Lib.hid (Row.kept HR2.out hK4 (fun k hk e => HNE.out k hk e)); clear hK4; clear hrow4 hgrow4 hat4)
          go_wp2_with (go_at_call 19; refine (st_all bq 60 L w _ HQ4.out.st (by rw [HL.out]; omega)).mono ?_; rintro e w5 ⟨v3, rfl, f3⟩; have HS5 := Lib.hid (HQ4.out.fresh f3); have HR5 := Lib.hid (Row.kept HR4.out f3.2.2.1 (fun _ _ h => h)); have HF3 := Lib.hid f3; clear f3)
          obtain ⟨a5, rfl, r5⟩ := fresh_form HL.out HF3.out
          have HT := Lib.hid (qs_take HS5.out 0)
          rw [rest0] at HT
          generalize (took L 0).1.val = tv at HT
          generalize (took L 0).2 = tb at HT
          have HR35 := Lib.hid r5
          clear r5
          go_wp2_with (go_at_call 10; refine HT.out.mono ?_; rintro e w6 ⟨rfl, s6, k6⟩; have HS6 := Lib.hid s6; have HR26 := Lib.hid (Row.kept HR5.out k6 (fun k hk hn => hn (.inl hk))); have HR36 := Lib.hid (Row.kept HR35.out k6 (fun k hk hn => hn (.inr hk))); clear s6 k6)
          have HA1 : Hid (∀ W, Kept NoB w6 W → Calls Try.prog 18 #[.slice a2 1 1, .slice a5 1 1] W fun e w' => e = .returned (.bool true) ∧ Kept NoB W w') := Lib.hid (fun W hW => alike_self _ _ _ _ L W (HR26.out.kept hW (fun _ _ h => h)) (asks_of_row HL.out (HR36.out.kept hW (fun _ _ h => h))) (by rw [HL.out]; omega))
          have HAW := Lib.hid (fun W => awake_any W)
          have hr3 := HR36.out
          rcases hr3.2 with ⟨_, h, _⟩ | ⟨g3, cur3, hv3, _⟩
          · omega
          cases hv3
          have HTL : Hid (Reads w6 g3 6 (L.drop 1)) := Lib.hid (reads_tail hr3)
          clear hr3
          have HLD : Hid ((L.drop 1).length = 0) := Lib.hid (by rw [List.length_drop, HL.out])
          have HAL : Hid (∀ W, Kept NoB w6 W → Calls Try.prog 19 #[.pointer (some ⟨bq, 0, none⟩)] W fun e w' => ∃ v4, e = .returned v4 ∧ Asks w' v4 (L.drop 1) (L.drop 1).length ∧ Kept NoB W w') := Lib.hid (fun W hW => (st_all bq 60 (L.drop 1) w W (HS6.out.kept hW) (by rw [HLD.out]; omega)).mono fun _ _ ⟨v, he, f⟩ => ⟨v, he, f.2.1, f.2.2.1⟩)
          have HA2 : Hid (∀ W v4, Kept NoB w6 W → Asks W v4 (L.drop 1) (L.drop 1).length → Calls Try.prog 18 #[v4, .slice (some ⟨g3, 0, none⟩) 0 0] W fun e w' => e = .returned (.bool true) ∧ Kept NoB W w') := Lib.hid (fun W v4 hW h4 => (by have h := alike_at v4 _ g3 0 0 (L.drop 1) W h4 (fun i a hi j u hu => by have := (List.getElem?_eq_some_iff.1 hi).1; have := HLD.out; omega) (by rw [HLD.out]; omega); rw [HLD.out] at h; exact h))
          have hw1 : IntKind.i64.wrap (1 + 1) = 2 := by decide
          have hw2 : IntKind.i64.wrap 2 = 2 := by decide
          go_region_held3 (fun W => Kept NoB w6 W)
            (first | (with_reducible assumption) | (exact Kept.then (by with_reducible assumption) kc) | (exact Kept.drew (Kept.refl _ _)))
            (first
              | (go_at_call 20; refine (HAW.out _).mono ?_; rintro e w8 ⟨rfl, kc⟩)
              | (go_at_call 19; refine (HAL.out _ (by with_reducible assumption)).mono ?_; rintro e w8 ⟨v4, rfl, h4, kc⟩; have HR4' := Lib.hid h4; clear h4)
              | (go_at_call 18; refine (HA2.out _ _ (by with_reducible assumption) HR4'.out).mono ?_; rintro e w8 ⟨rfl, kc⟩)
              | (go_at_call 18; refine (HA1.out _ (by with_reducible assumption)).mono ?_; rintro e w8 ⟨rfl, kc⟩))
          go_wp2_with fail
          go_ret
          exact ⟨rfl, HS6.out.old.then (by assumption)⟩

set_option maxHeartbeats 4000000 in
theorem own_nil (ao : Option Addr) (cap : Nat) (J : Int) (w : World) :
    Calls Try.prog 6 #[.slice ao 0 cap, .int .i64 J] w fun e w' => e = .returned (.bool true) ∧ Kept NoB w w' := by
  obtain ⟨i0, hi, hz0, hz1, hz2⟩ := info_parts info28
  go_enter Try.func6, Try.ntmps6
  go_wp2_with fail
  refine (st_new 60 w _ (by repeat (first | with_reducible exact Kept.refl _ _ | with_reducible refine Kept.alloc ?_ _ | with_reducible refine Kept.drewN ?_ _ | with_reducible refine Kept.drew ?_))).mono ?_
  rintro e w1 ⟨rfl, s1⟩
  generalize w.heap.size = bq at s1
  have S1 := Lib.hid s1
  clear s1
  go_wp2_with fail
  go_loopw [6] (fun i wr => ∃ k : Nat, k ≤ 0 ∧ i = .int .i64 k ∧ St w wr bq 60 (([] : List Ask).take k)) (fun i _ => 60 - (intOf i).toNat)
  case atStart => exact ⟨0, Nat.zero_le _, rfl, S1.out⟩
  case round =>
    obtain ⟨k, hk, rfl, hst⟩ := hrel
    by_cases hlt : k < 0
    · omega
    · have hkM : k = 0 := by omega
      subst hkM
      have hLl : (([] : List Ask).take 0).length = 0 := by rw [List.length_take]; omega
      generalize ([] : List Ask).take 0 = L at hst hLl
      have HL := Lib.hid hLl
      have HS0 := Lib.hid (QS.begin hst)
      clear hLl hst
      go_wp2_with (go_at_call 19; refine (st_all bq 60 L w _ HS0.out.st (by rw [HL.out]; omega)).mono ?_; rintro e w2 ⟨v1, rfl, f1⟩; have HS1 := Lib.hid (HS0.out.fresh f1); have HF1 := Lib.hid f1; clear f1)
      go_wp2_with (go_at_call 19; refine (st_all bq 60 L w _ HS1.out.st (by rw [HL.out]; omega)).mono ?_; rintro e w3 ⟨v2, rfl, f2⟩; have HS2 := Lib.hid (HS1.out.fresh f2); have HF2 := Lib.hid f2; clear f2)
      have HO := Lib.hid (own_two HL.out HF1.out HF2.out HS2.out)
      obtain ⟨a1, a2, rfl, rfl, r1, hne, r2, HQ⟩ := HO.out
      have HNE := Lib.hid hne
      have HR1 := Lib.hid r1
      have HR2 := Lib.hid r2
      clear HO r1 r2 hne HS0 HS1 HS2 HF1 HF2
      have HQQ := Lib.hid HQ
      clear HQ
      go_wp2_with fail
      go_loopw [9] (fun i wr => ∃ (t : Nat) (L1 : List Ask), t ≤ 0 ∧ i = .int .i64 t ∧ L1.length = 0 ∧ Row wr 28 6 (.slice a1 0 0) 0 0 (cellsOf L1) ∧ Kept (fun k => (Value.slice a1 0 0).ownBlock = some k) w3 wr) (fun i _ => 0 - (intOf i).toNat)
      case atStart => exact ⟨0, L, Nat.zero_le _, rfl, HL.out, HR1.out, Kept.refl _ _⟩
      case round =>
        obtain ⟨t, L1, ht, rfl, hL1, hrow, hkw⟩ := hrel
        by_cases htl : t < 0
        · omega
        · have htM : t = 0 := by omega
          subst htM
          have HROW := Lib.hid hrow
          have HKW := Lib.hid hkw
          clear hrow hkw
          go_wp2_with (at_builtin; refine wpList_append_any rfl (.tmp 44) (.tmp 47) 37 rfl 28 i0 _ 6 48 Try.underlying37 hi hz0 hz1 hz2 rfl (by decide) _ 0 0 (cellsOf L1) rfl (HROW.out.kept (S := NoB) ((Kept.refl _ _).alloc _) (fun _ _ h => h)) _ 1 (Ask.cells ⟨J, 0, 0, 0, 0, 0⟩) rfl ((Row.laid wr 28 6 1 (Ask.arr ⟨J, 0, 0, 0, 0, 0⟩) rfl (by decide) _ rfl).src) (cells_one _) (0 + 1) rfl (cellsOf L1 ++ Ask.cells ⟨J, 0, 0, 0, 0, 0⟩) rfl (by unfold maxLen; omega) (by omega) ?_; intro a3 c3 w4 hrow4 hgrow4 hat4 _; have hK4 := (HKW.out.alloc (.cells (Ask.arr ⟨J, 0, 0, 0, 0, 0⟩) 28)).grown hgrow4 (fun k e _ => e); have HQ4 := Lib.hid (HQQ.out w4 hK4); have HR4 := Lib.hid (Row.kept HR2.out hK4 (fun k hk e => HNE.out k hk e)); clear hK4; clear hrow4 hgrow4 hat4)
          go_wp2_with (go_at_call 19; refine (st_all bq 60 L w _ HQ4.out.st (by rw [HL.out]; omega)).mono ?_; rintro e w5 ⟨v3, rfl, f3⟩; have HS5 := Lib.hid (HQ4.out.fresh f3); have HR5 := Lib.hid (Row.kept HR4.out f3.2.2.1 (fun _ _ h => h)); have HF3 := Lib.hid f3; clear f3)
          obtain ⟨a5, rfl, r5⟩ := fresh_form HL.out HF3.out
          have HT := Lib.hid (qs_take HS5.out 0)
          rw [rest0] at HT
          generalize (took L 0).1.val = tv at HT
          generalize (took L 0).2 = tb at HT
          have HR35 := Lib.hid r5
          clear r5
          go_wp2_with (go_at_call 10; refine HT.out.mono ?_; rintro e w6 ⟨rfl, s6, k6⟩; have HS6 := Lib.hid s6; have HR26 := Lib.hid (Row.kept HR5.out k6 (fun k hk hn => hn (.inl hk))); have HR36 := Lib.hid (Row.kept HR35.out k6 (fun k hk hn => hn (.inr hk))); clear s6 k6)
          have HA1 : Hid (∀ W, Kept NoB w6 W → Calls Try.prog 18 #[.slice a2 0 0, .slice a5 0 0] W fun e w' => e = .returned (.bool true) ∧ Kept NoB W w') := Lib.hid (fun W hW => alike_self _ _ _ _ L W (HR26.out.kept hW (fun _ _ h => h)) (asks_of_row HL.out (HR36.out.kept hW (fun _ _ h => h))) (by rw [HL.out]; omega))
          have HAW := Lib.hid (fun W => awake_any W)
          have hw1 : IntKind.i64.wrap (0 + 1) = 1 := by decide
          have hw2 : IntKind.i64.wrap 1 = 1 := by decide
          refine wp_region_held_drew (S := fun W => Kept NoB w6 W) (by kernel_rfl) (Kept.drew (Kept.refl _ _)) (fun hHeld => ?_)
          refine wpAnyH_ready (rs := [0]) (by kernel_rfl) (by simp) ?_
          refine AllReadyH.cons (o := _) rfl (fun K hK => ?_) AllReadyH.nil
          go_simp
          (refine (HAW.out _).mono ?_; rintro e w8 ⟨rfl, k8⟩)
          refine hK.out _ _ (Kept.then (by assumption) k8) (fun hHeld => ?_)
          clear hK K
          try simp only [Act.put, List.getElem_toArray, List.getElem_cons_succ, List.getElem_cons_zero, List.setIfInBounds_toArray, List.set_cons_zero, List.set_cons_succ]
          refine wpAnyH_take (i := 1) (oi := _) (v := ?_) rfl (by kernel_rfl) (by kernel_rfl) (by kernel_rfl) (fun _ _ _ h => h) (Or.inl ⟨by rfl, (by intro w hSw; first | (go_simp; done) | (go_simp; with_reducible rfl))⟩) (by assumption) ?_
          try simp only [Act.put, List.getElem_toArray, List.getElem_cons_succ, List.getElem_cons_zero, List.setIfInBounds_toArray, List.set_cons_zero, List.set_cons_succ]
          refine wpAnyH_take (i := 2) (oi := _) (v := ?_) rfl (by kernel_rfl) (by kernel_rfl) (by kernel_rfl) (fun _ _ _ h => h) (Or.inl ⟨by rfl, (by intro w hSw; first | (go_simp; done) | (go_simp; with_reducible rfl))⟩) (by assumption) ?_
          try simp only [Act.put, List.getElem_toArray, List.getElem_cons_succ, List.getElem_cons_zero, List.setIfInBounds_toArray, List.set_cons_zero, List.set_cons_succ]
          refine wpAnyH_take (i := 3) (oi := _) (v := ?_) rfl (by kernel_rfl) (by kernel_rfl) (by kernel_rfl) (fun _ _ _ h => h) (Or.inl ⟨by rfl, (by intro w hSw; first | (go_simp; done) | (go_simp; with_reducible rfl))⟩) (by assumption) ?_
          try simp only [Act.put, List.getElem_toArray, List.getElem_cons_succ, List.getElem_cons_zero, List.setIfInBounds_toArray, List.set_cons_zero, List.set_cons_succ]
          refine wpAnyH_take (i := 4) (oi := _) (v := ?_) rfl (by kernel_rfl) (by kernel_rfl) (by kernel_rfl) (fun _ _ _ h => h) (Or.inl ⟨by rfl, (by intro w hSw; first | (go_simp; done) | (go_simp; with_reducible rfl))⟩) (by assumption) ?_
          try simp only [Act.put, List.getElem_toArray, List.getElem_cons_succ, List.getElem_cons_zero, List.setIfInBounds_toArray, List.set_cons_zero, List.set_cons_succ]
          refine wpAnyH_take (i := 5) (oi := _) (v := ?_) rfl (by kernel_rfl) (by kernel_rfl) (by kernel_rfl) (fun _ _ _ h => h) (Or.inl ⟨by rfl, (by intro w hSw; first | (go_simp; done) | (go_simp; with_reducible rfl))⟩) (by assumption) ?_
          try simp only [Act.put, List.getElem_toArray, List.getElem_cons_succ, List.getElem_cons_zero, List.setIfInBounds_toArray, List.set_cons_zero, List.set_cons_succ]
          refine wpAnyH_take (i := 6) (oi := _) (v := ?_) rfl (by kernel_rfl) (by kernel_rfl) (by kernel_rfl) (fun _ _ _ h => h) (Or.inl ⟨by rfl, (by intro w hSw; first | (go_simp; done) | (go_simp; with_reducible rfl))⟩) (by assumption) ?_
          try simp only [Act.put, List.getElem_toArray, List.getElem_cons_succ, List.getElem_cons_zero, List.setIfInBounds_toArray, List.set_cons_zero, List.set_cons_succ]
          refine wpAnyH_take (i := 7) (oi := _) (v := ?_) rfl (by kernel_rfl) (by kernel_rfl) (by kernel_rfl) (fun _ _ _ h => h) (Or.inl ⟨by rfl, (by intro w hSw; first | (go_simp; done) | (go_simp; with_reducible rfl))⟩) (by assumption) ?_
          try simp only [Act.put, List.getElem_toArray, List.getElem_cons_succ, List.getElem_cons_zero, List.setIfInBounds_toArray, List.set_cons_zero, List.set_cons_succ]
          refine wpAnyH_take (i := 8) (oi := _) (v := ?_) rfl (by kernel_rfl) (by kernel_rfl) (by kernel_rfl) (fun _ _ _ h => h) (Or.inl ⟨by rfl, (by intro w hSw; first | (go_simp; done) | (go_simp; with_reducible rfl))⟩) (by assumption) ?_
          try simp only [Act.put, List.getElem_toArray, List.getElem_cons_succ, List.getElem_cons_zero, List.setIfInBounds_toArray, List.set_cons_zero, List.set_cons_succ]
          refine wpAnyH_take (i := 9) (oi := _) (v := ?_) rfl (by kernel_rfl) (by kernel_rfl) (by kernel_rfl) (fun _ _ _ h => h) (Or.inl ⟨by rfl, (by intro w hSw; first | (go_simp; done) | (go_simp; with_reducible rfl))⟩) (by assumption) ?_
          try simp only [Act.put, List.getElem_toArray, List.getElem_cons_succ, List.getElem_cons_zero, List.setIfInBounds_toArray, List.set_cons_zero, List.set_cons_succ]
          refine wpAnyH_take (i := 10) (oi := _) (v := ?_) rfl (by kernel_rfl) (by kernel_rfl) (by kernel_rfl) (fun _ _ _ h => h) (Or.inl ⟨by rfl, (by intro w hSw; first | (go_simp; done) | (go_simp; with_reducible rfl))⟩) (by assumption) ?_
          try simp only [Act.put, List.getElem_toArray, List.getElem_cons_succ, List.getElem_cons_zero, List.setIfInBounds_toArray, List.set_cons_zero, List.set_cons_succ]
          refine wpAnyH_take (i := 11) (oi := _) (v := ?_) rfl (by kernel_rfl) (by kernel_rfl) (by kernel_rfl) (fun _ _ _ h => h) (Or.inl ⟨by rfl, (by intro w hSw; first | (go_simp; done) | (go_simp; with_reducible rfl))⟩) (by assumption) ?_
          try simp only [Act.put, List.getElem_toArray, List.getElem_cons_succ, List.getElem_cons_zero, List.setIfInBounds_toArray, List.set_cons_zero, List.set_cons_succ]
          refine wpAnyH_ready (rs := [12]) (by kernel_rfl) (by simp) ?_
          refine AllReadyH.cons (o := _) rfl (fun K hK => ?_) AllReadyH.nil
          go_simp
          (refine (HA1.out _ (by assumption)).mono ?_; rintro e w9 ⟨rfl, k9⟩)
          refine hK.out _ _ (Kept.then (by assumption) k9) (fun hHeld => ?_)
          clear hK K
          try simp only [Act.put, List.getElem_toArray, List.getElem_cons_succ, List.getElem_cons_zero, List.setIfInBounds_toArray, List.set_cons_zero, List.set_cons_succ]
          refine wpAnyH_take (i := 13) (oi := _) (v := ?_) rfl (by kernel_rfl) (by kernel_rfl) (by kernel_rfl) (fun _ _ _ h => h) (Or.inl ⟨by rfl, (by intro w hSw; first | (go_simp; done) | (go_simp; with_reducible rfl))⟩) (by assumption) ?_
          try simp only [Act.put, List.getElem_toArray, List.getElem_cons_succ, List.getElem_cons_zero, List.setIfInBounds_toArray, List.set_cons_zero, List.set_cons_succ]
          refine wpAnyH_take (i := 14) (oi := _) (v := ?_) rfl (by kernel_rfl) (by kernel_rfl) (by kernel_rfl) (fun _ _ _ h => h) (Or.inl ⟨by rfl, (by intro w hSw; first | (go_simp; done) | (go_simp; with_reducible rfl))⟩) (by assumption) ?_
          try simp only [Act.put, List.getElem_toArray, List.getElem_cons_succ, List.getElem_cons_zero, List.setIfInBounds_toArray, List.set_cons_zero, List.set_cons_succ]
          refine wpAnyH_take (i := 15) (oi := _) (v := ?_) rfl (by kernel_rfl) (by kernel_rfl) (by kernel_rfl) (fun _ _ _ h => h) (Or.inl ⟨by rfl, (by intro w hSw; first | (go_simp; done) | (go_simp; with_reducible rfl))⟩) (by assumption) ?_
          try simp only [Act.put, List.getElem_toArray, List.getElem_cons_succ, List.getElem_cons_zero, List.setIfInBounds_toArray, List.set_cons_zero, List.set_cons_succ]
          refine wpAnyH_take (i := 16) (oi := _) (v := ?_) rfl (by kernel_rfl) (by kernel_rfl) (by kernel_rfl) (fun _ _ _ h => h) (Or.inl ⟨by rfl, (by intro w hSw; first | (go_simp; done) | (go_simp; with_reducible rfl))⟩) (by assumption) ?_
          try simp only [Act.put, List.getElem_toArray, List.getElem_cons_succ, List.getElem_cons_zero, List.setIfInBounds_toArray, List.set_cons_zero, List.set_cons_succ]
          refine wpAnyH_take (i := 17) (oi := _) (v := ?_) rfl (by kernel_rfl) (by kernel_rfl) (by kernel_rfl) (fun _ _ _ h => h) (Or.inl ⟨by rfl, (by intro w hSw; first | (go_simp; done) | (go_simp; with_reducible rfl))⟩) (by assumption) ?_
          try simp only [Act.put, List.getElem_toArray, List.getElem_cons_succ, List.getElem_cons_zero, List.setIfInBounds_toArray, List.set_cons_zero, List.set_cons_succ]
          refine wpAnyH_take (i := 18) (oi := _) (v := ?_) rfl (by kernel_rfl) (by kernel_rfl) (by kernel_rfl) (fun _ _ _ h => h) (Or.inl ⟨by rfl, (by intro w hSw; first | (go_simp; done) | (go_simp; with_reducible rfl))⟩) (by assumption) ?_
          try simp only [Act.put, List.getElem_toArray, List.getElem_cons_succ, List.getElem_cons_zero, List.setIfInBounds_toArray, List.set_cons_zero, List.set_cons_succ]
          refine wpAnyH_take (i := 19) (oi := _) (v := undef) rfl (by kernel_rfl) (by kernel_rfl) (by kernel_rfl) (fun _ _ _ h => h) (Or.inr ⟨by rfl, rfl⟩) (by assumption) ?_
          try simp only [Act.put, List.getElem_toArray, List.getElem_cons_succ, List.getElem_cons_zero, List.setIfInBounds_toArray, List.set_cons_zero, List.set_cons_succ]
          refine wpAnyH_take (i := 20) (oi := _) (v := undef) rfl (by kernel_rfl) (by kernel_rfl) (by kernel_rfl) (fun _ _ _ h => h) (Or.inr ⟨by rfl, rfl⟩) (by assumption) ?_
          try simp only [Act.put, List.getElem_toArray, List.getElem_cons_succ, List.getElem_cons_zero, List.setIfInBounds_toArray, List.set_cons_zero, List.set_cons_succ]
          refine wpAnyH_take (i := 21) (oi := _) (v := undef) rfl (by kernel_rfl) (by kernel_rfl) (by kernel_rfl) (fun _ _ _ h => h) (Or.inr ⟨by rfl, rfl⟩) (by assumption) ?_
          try simp only [Act.put, List.getElem_toArray, List.getElem_cons_succ, List.getElem_cons_zero, List.setIfInBounds_toArray, List.set_cons_zero, List.set_cons_succ]
          refine wpAnyH_take (i := 22) (oi := _) (v := undef) rfl (by kernel_rfl) (by kernel_rfl) (by kernel_rfl) (fun _ _ _ h => h) (Or.inr ⟨by rfl, rfl⟩) (by assumption) ?_
          try simp only [Act.put, List.getElem_toArray, List.getElem_cons_succ, List.getElem_cons_zero, List.setIfInBounds_toArray, List.set_cons_zero, List.set_cons_succ]
          refine wpAnyH_take (i := 23) (oi := _) (v := undef) rfl (by kernel_rfl) (by kernel_rfl) (by kernel_rfl) (fun _ _ _ h => h) (Or.inr ⟨by rfl, rfl⟩) (by assumption) ?_
          try simp only [Act.put, List.getElem_toArray, List.getElem_cons_succ, List.getElem_cons_zero, List.setIfInBounds_toArray, List.set_cons_zero, List.set_cons_succ]
          refine wpAnyH_take (i := 24) (oi := _) (v := ?_) rfl (by kernel_rfl) (by kernel_rfl) (by kernel_rfl) (fun _ _ _ h => h) (Or.inl ⟨by rfl, (by intro w hSw; first | (go_simp; done) | (go_simp; with_reducible rfl))⟩) (by assumption) ?_
          try simp only [Act.put, List.getElem_toArray, List.getElem_cons_succ, List.getElem_cons_zero, List.setIfInBounds_toArray, List.set_cons_zero, List.set_cons_succ]
          refine wpAnyH_take (i := 25) (oi := _) (v := ?_) rfl (by kernel_rfl) (by kernel_rfl) (by kernel_rfl) (fun _ _ _ h => h) (Or.inl ⟨by rfl, (by intro w hSw; first | (go_simp; done) | (go_simp; with_reducible rfl))⟩) (by assumption) ?_
          try simp only [Act.put, List.getElem_toArray, List.getElem_cons_succ, List.getElem_cons_zero, List.setIfInBounds_toArray, List.set_cons_zero, List.set_cons_succ]
          refine wpAnyH_take (i := 26) (oi := _) (v := ?_) rfl (by kernel_rfl) (by kernel_rfl) (by kernel_rfl) (fun _ _ _ h => h) (Or.inl ⟨by rfl, (by intro w hSw; first | (go_simp; done) | (go_simp; with_reducible rfl))⟩) (by assumption) ?_
          try simp only [Act.put, List.getElem_toArray, List.getElem_cons_succ, List.getElem_cons_zero, List.setIfInBounds_toArray, List.set_cons_zero, List.set_cons_succ]
          refine wpAnyH_done (by kernel_rfl) ?_ _
          go_wp2_with fail
          go_ret
          exact ⟨rfl, HS6.out.old.then (by assumption)⟩

theorem own_any (ao : Option Addr) (n cap : Nat) (l : List Ask) (J : Int) (w : World) (h : InAsks w ao n l) :
    Calls Try.prog 6 #[.slice ao n cap, .int .i64 J] w fun e w' => e = .returned (.bool true) ∧ Kept NoB w w' := by
  obtain ⟨rfl, hmax, h0 | ⟨b, off, rfl, hin⟩⟩ := h
  · rw [h0]; exact own_nil ao cap J w
  · by_cases hM : 60 < l.length
    · exact own_full b off cap l J w hM hin
    · by_cases h1 : l.length = 1
      · rw [h1]; exact own_one b off cap l J w h1 hin
      · by_cases h0 : l.length = 0
        · rw [h0]; exact own_nil _ cap J w
        · exact own_many b off cap l J w (by omega) hin
end Go.Proofs.Ytjagoljaocbdcaa
