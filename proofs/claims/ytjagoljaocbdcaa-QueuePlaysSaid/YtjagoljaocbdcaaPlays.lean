/- The walk of the law QueuePlays. -/
import Derived.Test.YtjagoljaocbdcaaPL
import Derived.Test.YtjagoljaocbdcaaOpen
import Derived.Deep.RegionHeld3
import Derived.IntWalk
namespace Go.Proofs.Ytjagoljaocbdcaa
open Go.RowKit

def Act.arr (x : Act) : Array Value := #[.int .u8 x.what, .int .i64 x.num, .int .i64 x.ask.job, .int .i64 x.ask.op, .int .i64 x.ask.cart, .int .i64 x.ask.pos, .int .i64 x.ask.slot, .int .i64 x.ask.born]
theorem act_get {w wr : World} {b off k : Nat} {l : List Act} {x : Act} (hk : Kept NoB w wr) (hi : k < l.length) (hx : l[k] = x)
    (hin : ∀ i a, l[i]? = some a → (0 ≤ a.what ∧ a.what < 256) ∧ ∀ j u, a.cells[j]? = some u → w.cell? ⟨b, off + (i * 8 + j), none⟩ = some u) :
    (0 ≤ x.what ∧ x.what < 256) ∧ wr.cell? ⟨b, off + k * 8, none⟩ = some (.int .u8 x.what) ∧ wr.cell? ⟨b, off + k * 8 + 1, none⟩ = some (.int .i64 x.num) ∧
    wr.cell? ⟨b, off + k * 8 + 2, none⟩ = some (.int .i64 x.ask.job) ∧ wr.cell? ⟨b, off + k * 8 + 3, none⟩ = some (.int .i64 x.ask.op) ∧ wr.cell? ⟨b, off + k * 8 + 4, none⟩ = some (.int .i64 x.ask.cart) ∧ wr.cell? ⟨b, off + k * 8 + 5, none⟩ = some (.int .i64 x.ask.pos) ∧ wr.cell? ⟨b, off + k * 8 + 6, none⟩ = some (.int .i64 x.ask.slot) ∧ wr.cell? ⟨b, off + k * 8 + 7, none⟩ = some (.int .i64 x.ask.born) := by
  have h0 := hin k x (by rw [List.getElem?_eq_getElem hi, hx])
  have key : ∀ j u, x.cells[j]? = some u → wr.cell? ⟨b, off + k * 8 + j, none⟩ = some u := fun j u hu => by
    have h := h0.2 j u hu
    rw [← Nat.add_assoc] at h
    exact hk.cell h (fun h => h)
  exact ⟨h0.1, key 0 _ rfl, key 1 _ rfl, key 2 _ rfl, key 3 _ rfl, key 4 _ rfl, key 5 _ rfl, key 6 _ rfl, key 7 _ rfl⟩
theorem block_act {w : World} {b : Nat} {x : Act} (h : w.heap[b]? = some (.cells x.arr 30 (0, 0))) :
    w.cell? ⟨b, 0, none⟩ = some (.int .u8 x.what) ∧ w.cell? ⟨b, 1, none⟩ = some (.int .i64 x.num) ∧ w.cell? ⟨b, 2, none⟩ = some (.int .i64 x.ask.job) ∧ w.cell? ⟨b, 3, none⟩ = some (.int .i64 x.ask.op) ∧ w.cell? ⟨b, 4, none⟩ = some (.int .i64 x.ask.cart) ∧ w.cell? ⟨b, 5, none⟩ = some (.int .i64 x.ask.pos) ∧ w.cell? ⟨b, 6, none⟩ = some (.int .i64 x.ask.slot) ∧ w.cell? ⟨b, 7, none⟩ = some (.int .i64 x.ask.born) := by
  have key : ∀ j u, x.arr[j]? = some u → w.cell? ⟨b, j, none⟩ = some u := fun j u hu => by rw [cell_of_row w b j _ 30 _ h]; exact hu
  exact ⟨key 0 _ rfl, key 1 _ rfl, key 2 _ rfl, key 3 _ rfl, key 4 _ rfl, key 5 _ rfl, key 6 _ rfl, key 7 _ rfl⟩

theorem sk_kept {w6 W W' : World} {br : Nat} {v : Value} (h : Kept NoB w6 W ∧ W.cell? ⟨br, 0, none⟩ = some v) (k : Kept NoB W W') : Kept NoB w6 W' ∧ W'.cell? ⟨br, 0, none⟩ = some v := ⟨h.1.then k, k.cell h.2 (fun h => h)⟩
theorem sk_one {w6 W : World} {br : Nat} {v : Value} (h : Kept NoB w6 W ∧ W.cell? ⟨br, 0, none⟩ = some v) : Kept NoB w6 W := h.1
theorem six_kept {S : Nat → Prop} {W W' : World} {B : Nat} {u2 u3 u4 u5 u6 u7 : Value} (h : W.cell? ⟨B, 2, none⟩ = some u2 ∧ W.cell? ⟨B, 3, none⟩ = some u3 ∧ W.cell? ⟨B, 4, none⟩ = some u4 ∧ W.cell? ⟨B, 5, none⟩ = some u5 ∧ W.cell? ⟨B, 6, none⟩ = some u6 ∧ W.cell? ⟨B, 7, none⟩ = some u7) (k : Kept S W W') (hB : ¬ S B) : W'.cell? ⟨B, 2, none⟩ = some u2 ∧ W'.cell? ⟨B, 3, none⟩ = some u3 ∧ W'.cell? ⟨B, 4, none⟩ = some u4 ∧ W'.cell? ⟨B, 5, none⟩ = some u5 ∧ W'.cell? ⟨B, 6, none⟩ = some u6 ∧ W'.cell? ⟨B, 7, none⟩ = some u7 :=
  ⟨k.cell h.1 hB, k.cell h.2.1 hB, k.cell h.2.2.1 hB, k.cell h.2.2.2.1 hB, k.cell h.2.2.2.2.1 hB, k.cell h.2.2.2.2.2 hB⟩
theorem rest_le (L : List Ask) (i : Int) : (rest L i).length ≤ L.length := by
  unfold rest
  split
  · exact List.length_eraseIdx_le ..
  · exact Nat.le_refl _

set_option maxRecDepth 100000 in
set_option maxHeartbeats 4000000 in
theorem plays_some (b off cap : Nat) (N : Int) (l : List Act) (w : World) (hin : ∀ i a, l[i]? = some a → (0 ≤ a.what ∧ a.what < 256) ∧ ∀ j u, a.cells[j]? = some u → w.cell? ⟨b, off + (i * 8 + j), none⟩ = some u) :
    Calls Try.prog 3 #[.int .i64 N, .slice (some ⟨b, off, none⟩) l.length cap] w fun e w' => e = .returned (.bool true) ∧ Kept NoB w w' := by
  have HIN := Lib.hid hin
  clear hin
  go_enter Try.func3, Try.ntmps3
  go_wp2_with fail
  refine (new_q N w).mono ?_
  rintro e w1 ⟨rfl, q1, k1⟩
  obtain ⟨bq, hbq⟩ : ∃ bq, w.heap.size = bq := ⟨_, rfl⟩
  rw [hbq] at q1
  have hbl : bq < w1.heap.size := q1.lt.1
  go_wp2_with fail
  refine (ref_new_q N w1).mono ?_
  rintro e w2 ⟨rfl, r2, k2⟩
  obtain ⟨br, hbr⟩ : ∃ br, w1.heap.size = br := ⟨_, rfl⟩
  rw [hbr] at r2
  have P1 := Lib.hid (pl_begin k1 (by omega) hbl q1 hbr.symm r2 k2)
  clear q1 r2 k1 k2
  first | rw [hbq, hbr] | rw [hbr]
  clear hbq hbr hbl
  have hmost : clamp N ≤ 4096 := (clamp_le N).2
  generalize clamp N = most at P1 hmost
  go_wp2_with fail
  go_loopw [7] (fun i wr => ∃ (k : Nat) (L : List Ask), k ≤ l.length ∧ k ≤ 80 ∧ i = .int .i64 k ∧ L.length ≤ k ∧ PL w wr bq br most L L (fun _ => False)) (fun i _ => 80 - (intOf i).toNat)
  case atStart => exact ⟨0, [], Nat.zero_le _, Nat.zero_le _, rfl, Nat.le_refl _, P1.out⟩
  case round =>
    obtain ⟨k, L, hk, hk80, rfl, hL, hpl⟩ := hrel
    by_cases hlt : k < l.length
    · by_cases h80 : k < 80
      · obtain ⟨x, hx⟩ : ∃ x, l[k] = x := ⟨_, rfl⟩
        obtain ⟨hw, x0, x1, x2, x3, x4, x5, x6, x7⟩ := act_get hpl.old hlt hx HIN.out
        have HP := Lib.hid (hpl.guard (.cells x.arr 30))
        have HB := Lib.hid (heap_alloc_new wr (.cells x.arr 30))
        clear hpl hx
        by_cases hc0 : x.what % 8 = 0
        · skip
          obtain ⟨T, hT⟩ : ∃ T, took L x.num = T := ⟨_, rfl⟩
          have HTQ := Lib.hid (pl_takeq HP.out x.num)
          have HTR := Lib.hid (fun (W : World) (lq : List Ask) (R : Nat → Prop) (h : PL w W bq br most lq L R) => pl_taker h x.num (by omega))
          have hle : (rest L x.num).length ≤ k + 1 := Nat.le_trans (rest_le L x.num) (by omega)
          rw [hT] at HTQ HTR
          generalize rest L x.num = L' at HTQ HTR hle
          obtain ⟨y, ok⟩ := T
          dsimp only at HTQ HTR
          unfold Ask.val Ask.arr at HTQ HTR
          clear hT
          go_wp2_with (go_at_call 10; refine HTQ.out.mono ?_; rintro e w3 ⟨rfl, p3, k3⟩; have HP3 := Lib.hid (p3.guard (.cells y.arr 28)); have b3 := k3.heap HB.out (fun hn => hn (.inr rfl)); have hlt3 := lt_of_heap b3; obtain ⟨c0, c1, c2, c3, c4, c5, c6, c7⟩ := block_act b3; clear p3 k3 b3)
          go_wp2_with (go_at_call 11; refine (HTR.out _ _ _ HP3.out).mono ?_; rintro e w5 ⟨rfl, p5, k5⟩; have HP5 := Lib.hid (p5.kept ((Kept.refl _ _).alloc (.cells y.arr 28))); have b5 := k5.heap (heap_alloc_new w3 (.cells y.arr 28)) (fun hn => hn (.inr rfl)); have hlt5 := lt_of_heap b5; obtain ⟨d0, d1, d2, d3, d4, d5⟩ := block_cells6 b5; clear p5 k5 b5)
          have HSM := Lib.hid (fun W => same_self y W)
          unfold Ask.val Ask.arr at HSM
          go_wp2_with (go_at_call 12; refine (HSM.out _).mono ?_; rintro e w6 ⟨rfl, k6⟩; have HP6 := Lib.hid ((HP5.out.kept k6).free (T := fun _ => False) (fun _ h => h.elim)); clear k6)
          obtain ⟨ao, cp, hcell, hrow⟩ := pl_list HP6.out
          have HROW := Lib.hid hrow
          have HS0 : Hid (Kept NoB w6 w6.drew ∧ w6.drew.cell? ⟨br, 0, none⟩ = some (.slice ao L'.length cp)) := Lib.hid ⟨Kept.drew (Kept.refl _ _), hcell⟩
          have HLN : Hid (∀ W, Kept NoB w6 W → Calls Try.prog 17 #[.pointer (some ⟨bq, 0, none⟩)] W fun e w' => e = .returned (.int .i64 L'.length) ∧ W = w') := Lib.hid (fun W hW => pl_len (HP6.out.kept hW))
          have HAL : Hid (∀ W, Kept NoB w6 W → Calls Try.prog 19 #[.pointer (some ⟨bq, 0, none⟩)] W fun e w' => ∃ v, e = .returned v ∧ Asks w' v L' L'.length ∧ Kept NoB W w') := Lib.hid (fun W hW => (pl_all (HP6.out.kept hW) (by omega)).mono fun _ _ ⟨v, he, f⟩ => ⟨v, he, f.2.1, f.2.2.1⟩)
          have HAK : Hid (∀ W v, Kept NoB w6 W → Asks W v L' L'.length → Calls Try.prog 18 #[v, .slice ao L'.length cp] W fun e w' => e = .returned (.bool true) ∧ Kept NoB W w') := Lib.hid (fun W v hW h4 => alike_self v _ _ _ L' W h4 (HROW.out.kept hW (fun _ _ h => h)) (by omega))
          clear hrow hcell
          go_region_held3 (fun W => Kept NoB w6 W ∧ W.cell? ⟨br, 0, none⟩ = some (.slice ao L'.length cp))
            (first | (with_reducible assumption) | (exact sk_kept (by with_reducible assumption) kc) | (exact HS0.out))
            (first
              | (go_at_call 17; refine (HLN.out _ (sk_one (by with_reducible assumption))).mono ?_; rintro e w9 ⟨rfl, rfl⟩)
              | (go_at_call 19; refine (HAL.out _ (sk_one (by with_reducible assumption))).mono ?_; rintro e w9 ⟨v4, rfl, h4, kc⟩; have HR4 := Lib.hid h4; clear h4)
              | (go_at_call 18; refine (HAK.out _ _ (sk_one (by with_reducible assumption)) HR4.out).mono ?_; rintro e w9 ⟨rfl, kc⟩))
          go_wp2_with fail
          go_roundw
          case rel => exact ⟨k + 1, L', by omega, by omega, by go_num, hle, HP6.out.kept (sk_one (by assumption))⟩
          case measure => simp [intOf]; omega
        by_cases hc1 : x.what % 8 = 1
        · skip
          obtain ⟨T, hT⟩ : ∃ T, took L x.num = T := ⟨_, rfl⟩
          have HTQ := Lib.hid (pl_takeq HP.out x.num)
          have HTR := Lib.hid (fun (W : World) (lq : List Ask) (R : Nat → Prop) (h : PL w W bq br most lq L R) => pl_taker h x.num (by omega))
          have hle : (rest L x.num).length ≤ k + 1 := Nat.le_trans (rest_le L x.num) (by omega)
          rw [hT] at HTQ HTR
          generalize rest L x.num = L' at HTQ HTR hle
          obtain ⟨y, ok⟩ := T
          dsimp only at HTQ HTR
          unfold Ask.val Ask.arr at HTQ HTR
          clear hT
          go_wp2_with (go_at_call 10; refine HTQ.out.mono ?_; rintro e w3 ⟨rfl, p3, k3⟩; have HP3 := Lib.hid (p3.guard (.cells y.arr 28)); have b3 := k3.heap HB.out (fun hn => hn (.inr rfl)); have hlt3 := lt_of_heap b3; obtain ⟨c0, c1, c2, c3, c4, c5, c6, c7⟩ := block_act b3; clear p3 k3 b3)
          go_wp2_with (go_at_call 11; refine (HTR.out _ _ _ HP3.out).mono ?_; rintro e w5 ⟨rfl, p5, k5⟩; have HP5 := Lib.hid (p5.kept ((Kept.refl _ _).alloc (.cells y.arr 28))); have b5 := k5.heap (heap_alloc_new w3 (.cells y.arr 28)) (fun hn => hn (.inr rfl)); have hlt5 := lt_of_heap b5; obtain ⟨d0, d1, d2, d3, d4, d5⟩ := block_cells6 b5; clear p5 k5 b5)
          have HSM := Lib.hid (fun W => same_self y W)
          unfold Ask.val Ask.arr at HSM
          go_wp2_with (go_at_call 12; refine (HSM.out _).mono ?_; rintro e w6 ⟨rfl, k6⟩; have HP6 := Lib.hid ((HP5.out.kept k6).free (T := fun _ => False) (fun _ h => h.elim)); clear k6)
          obtain ⟨ao, cp, hcell, hrow⟩ := pl_list HP6.out
          have HROW := Lib.hid hrow
          have HS0 : Hid (Kept NoB w6 w6.drew ∧ w6.drew.cell? ⟨br, 0, none⟩ = some (.slice ao L'.length cp)) := Lib.hid ⟨Kept.drew (Kept.refl _ _), hcell⟩
          have HLN : Hid (∀ W, Kept NoB w6 W → Calls Try.prog 17 #[.pointer (some ⟨bq, 0, none⟩)] W fun e w' => e = .returned (.int .i64 L'.length) ∧ W = w') := Lib.hid (fun W hW => pl_len (HP6.out.kept hW))
          have HAL : Hid (∀ W, Kept NoB w6 W → Calls Try.prog 19 #[.pointer (some ⟨bq, 0, none⟩)] W fun e w' => ∃ v, e = .returned v ∧ Asks w' v L' L'.length ∧ Kept NoB W w') := Lib.hid (fun W hW => (pl_all (HP6.out.kept hW) (by omega)).mono fun _ _ ⟨v, he, f⟩ => ⟨v, he, f.2.1, f.2.2.1⟩)
          have HAK : Hid (∀ W v, Kept NoB w6 W → Asks W v L' L'.length → Calls Try.prog 18 #[v, .slice ao L'.length cp] W fun e w' => e = .returned (.bool true) ∧ Kept NoB W w') := Lib.hid (fun W v hW h4 => alike_self v _ _ _ L' W h4 (HROW.out.kept hW (fun _ _ h => h)) (by omega))
          clear hrow hcell
          go_region_held3 (fun W => Kept NoB w6 W ∧ W.cell? ⟨br, 0, none⟩ = some (.slice ao L'.length cp))
            (first | (with_reducible assumption) | (exact sk_kept (by with_reducible assumption) kc) | (exact HS0.out))
            (first
              | (go_at_call 17; refine (HLN.out _ (sk_one (by with_reducible assumption))).mono ?_; rintro e w9 ⟨rfl, rfl⟩)
              | (go_at_call 19; refine (HAL.out _ (sk_one (by with_reducible assumption))).mono ?_; rintro e w9 ⟨v4, rfl, h4, kc⟩; have HR4 := Lib.hid h4; clear h4)
              | (go_at_call 18; refine (HAK.out _ _ (sk_one (by with_reducible assumption)) HR4.out).mono ?_; rintro e w9 ⟨rfl, kc⟩))
          go_wp2_with fail
          go_roundw
          case rel => exact ⟨k + 1, L', by omega, by omega, by go_num, hle, HP6.out.kept (sk_one (by assumption))⟩
          case measure => simp [intOf]; omega
        by_cases hc2 : x.what % 8 = 2
        · skip
          obtain ⟨L', hL'⟩ : ∃ L', others L x.num = L' := ⟨_, rfl⟩
          have hle : L'.length ≤ k + 1 := by rw [← hL']; exact Nat.le_trans (others_le L x.num) (by omega)
          obtain ⟨nd, hnd⟩ : ∃ nd : Int, (L.length : Int) - (others L x.num).length = nd := ⟨_, rfl⟩
          have HDQ := Lib.hid (fun (W : World) (lr : List Ask) (R : Nat → Prop) (h : PL w W bq br most L lr R) => pl_dropq h x.num (by omega))
          have HDR := Lib.hid (fun (W : World) (lq : List Ask) (R : Nat → Prop) (h : PL w W bq br most lq L R) => pl_dropr h x.num (by omega))
          rw [hnd, hL'] at HDQ HDR
          clear hnd hL'
          obtain ⟨c0, c1, c2, c3, c4, c5, c6, c7⟩ := block_act HB.out
          have HC1 := Lib.hid c1
          clear c0 c1 c2 c3 c4 c5 c6 c7
          have P0 := Lib.hid (HP.out.kept ((Kept.refl _ _).drew))
          unfold Act.arr at P0 HC1
          go_wp2_with fail
          go_region_held3 (fun W => W.cell? ⟨wr.heap.size, 1, none⟩ = some (.int .i64 x.num))
            (first | (with_reducible assumption) | (exact kc.cell (by with_reducible assumption) (fun h => h (.inr rfl))) | (exact HC1.out))
            (first
              | (go_at_call 13; refine (HDQ.out _ _ _ PA.out).mono ?_; rintro e w7 ⟨rfl, p7, kc⟩; have PB := Lib.hid p7; clear p7)
              | (go_at_call 13; refine (HDQ.out _ _ _ P0.out).mono ?_; rintro e w6 ⟨rfl, p6, kc⟩; have PA := Lib.hid p6; clear p6)
              | (go_at_call 14; refine (HDR.out _ _ _ PA.out).mono ?_; rintro e w7 ⟨rfl, p7, kc⟩; have PB := Lib.hid p7; clear p7)
              | (go_at_call 14; refine (HDR.out _ _ _ P0.out).mono ?_; rintro e w6 ⟨rfl, p6, kc⟩; have PA := Lib.hid p6; clear p6))
          all_goals
            have HP6 := Lib.hid (PB.out.free (T := fun _ => False) (fun _ h => h.elim))
            clear PA PB P0 HC1
            go_wp2_with fail
            obtain ⟨ao, cp, hcell, hrow⟩ := pl_list HP6.out
            have HROW := Lib.hid hrow
            have HS0 : Hid (Kept NoB w7 w7.drew ∧ w7.drew.cell? ⟨br, 0, none⟩ = some (.slice ao L'.length cp)) := Lib.hid ⟨Kept.drew (Kept.refl _ _), hcell⟩
            have HLN : Hid (∀ W, Kept NoB w7 W → Calls Try.prog 17 #[.pointer (some ⟨bq, 0, none⟩)] W fun e w' => e = .returned (.int .i64 L'.length) ∧ W = w') := Lib.hid (fun W hW => pl_len (HP6.out.kept hW))
            have HAL : Hid (∀ W, Kept NoB w7 W → Calls Try.prog 19 #[.pointer (some ⟨bq, 0, none⟩)] W fun e w' => ∃ v, e = .returned v ∧ Asks w' v L' L'.length ∧ Kept NoB W w') := Lib.hid (fun W hW => (pl_all (HP6.out.kept hW) (by omega)).mono fun _ _ ⟨v, he, f⟩ => ⟨v, he, f.2.1, f.2.2.1⟩)
            have HAK : Hid (∀ W v, Kept NoB w7 W → Asks W v L' L'.length → Calls Try.prog 18 #[v, .slice ao L'.length cp] W fun e w' => e = .returned (.bool true) ∧ Kept NoB W w') := Lib.hid (fun W v hW h4 => alike_self v _ _ _ L' W h4 (HROW.out.kept hW (fun _ _ h => h)) (by omega))
            clear hrow hcell
            go_region_held3 (fun W => Kept NoB w7 W ∧ W.cell? ⟨br, 0, none⟩ = some (.slice ao L'.length cp))
              (first | (with_reducible assumption) | (exact sk_kept (by with_reducible assumption) kc) | (exact HS0.out))
              (first
                | (go_at_call 17; refine (HLN.out _ (sk_one (by with_reducible assumption))).mono ?_; rintro e w9 ⟨rfl, rfl⟩)
                | (go_at_call 19; refine (HAL.out _ (sk_one (by with_reducible assumption))).mono ?_; rintro e w9 ⟨v4, rfl, h4, kc⟩; have HR4 := Lib.hid h4; clear h4)
                | (go_at_call 18; refine (HAK.out _ _ (sk_one (by with_reducible assumption)) HR4.out).mono ?_; rintro e w9 ⟨rfl, kc⟩))
            go_wp2_with fail
            go_roundw
            case rel => exact ⟨k + 1, L', by omega, by omega, by go_num, hle, HP6.out.kept (sk_one (by assumption))⟩
            case measure => simp [intOf]; omega
        · skip
          obtain ⟨L', hL'⟩ : ∃ L', pushed most L x.ask = L' := ⟨_, rfl⟩
          have hle : L'.length ≤ k + 1 := by rw [← hL']; unfold pushed; split <;> (try simp only [List.length_append, List.length_cons, List.length_nil]) <;> omega
          obtain ⟨nd, hnd⟩ : ∃ nd : Bool, decide ((L.length : Int) < most) = nd := ⟨_, rfl⟩
          have HDQ := Lib.hid (fun (W : World) (lr : List Ask) (R : Nat → Prop) (h : PL w W bq br most L lr R) => pl_pushq h x.ask hmost)
          have HDR := Lib.hid (fun (W : World) (lq : List Ask) (R : Nat → Prop) (h : PL w W bq br most lq L R) => pl_pushr h x.ask hmost)
          rw [hnd, hL'] at HDQ HDR
          clear hnd hL'
          obtain ⟨c0, c1, c2, c3, c4, c5, c6, c7⟩ := block_act HB.out
          have HC1 := Lib.hid (And.intro c2 (And.intro c3 (And.intro c4 (And.intro c5 (And.intro c6 c7)))))
          clear c0 c1 c2 c3 c4 c5 c6 c7
          have P0 := Lib.hid (HP.out.kept ((Kept.refl _ _).drew))
          unfold Act.arr at P0 HC1
          unfold Ask.val Ask.arr at HDQ HDR
          go_wp2_with fail
          go_region_held3 (fun W => W.cell? ⟨wr.heap.size, 2, none⟩ = some (.int .i64 x.ask.job) ∧ W.cell? ⟨wr.heap.size, 3, none⟩ = some (.int .i64 x.ask.op) ∧ W.cell? ⟨wr.heap.size, 4, none⟩ = some (.int .i64 x.ask.cart) ∧ W.cell? ⟨wr.heap.size, 5, none⟩ = some (.int .i64 x.ask.pos) ∧ W.cell? ⟨wr.heap.size, 6, none⟩ = some (.int .i64 x.ask.slot) ∧ W.cell? ⟨wr.heap.size, 7, none⟩ = some (.int .i64 x.ask.born))
            (first | (with_reducible assumption) | (exact six_kept (by with_reducible assumption) kc (fun h => h (.inr rfl))) | (exact HC1.out))
            (first
              | (go_at_call 15; refine (HDQ.out _ _ _ PA.out).mono ?_; rintro e w7 ⟨rfl, p7, kc⟩; have PB := Lib.hid p7; clear p7)
              | (go_at_call 15; refine (HDQ.out _ _ _ P0.out).mono ?_; rintro e w6 ⟨rfl, p6, kc⟩; have PA := Lib.hid p6; clear p6)
              | (go_at_call 16; refine (HDR.out _ _ _ PA.out).mono ?_; rintro e w7 ⟨rfl, p7, kc⟩; have PB := Lib.hid p7; clear p7)
              | (go_at_call 16; refine (HDR.out _ _ _ P0.out).mono ?_; rintro e w6 ⟨rfl, p6, kc⟩; have PA := Lib.hid p6; clear p6))
          all_goals
            have HP6 := Lib.hid (PB.out.free (T := fun _ => False) (fun _ h => h.elim))
            clear PA PB P0 HC1
            go_wp2_with fail
            obtain ⟨ao, cp, hcell, hrow⟩ := pl_list HP6.out
            have HROW := Lib.hid hrow
            have HS0 : Hid (Kept NoB w7 w7.drew ∧ w7.drew.cell? ⟨br, 0, none⟩ = some (.slice ao L'.length cp)) := Lib.hid ⟨Kept.drew (Kept.refl _ _), hcell⟩
            have HLN : Hid (∀ W, Kept NoB w7 W → Calls Try.prog 17 #[.pointer (some ⟨bq, 0, none⟩)] W fun e w' => e = .returned (.int .i64 L'.length) ∧ W = w') := Lib.hid (fun W hW => pl_len (HP6.out.kept hW))
            have HAL : Hid (∀ W, Kept NoB w7 W → Calls Try.prog 19 #[.pointer (some ⟨bq, 0, none⟩)] W fun e w' => ∃ v, e = .returned v ∧ Asks w' v L' L'.length ∧ Kept NoB W w') := Lib.hid (fun W hW => (pl_all (HP6.out.kept hW) (by omega)).mono fun _ _ ⟨v, he, f⟩ => ⟨v, he, f.2.1, f.2.2.1⟩)
            have HAK : Hid (∀ W v, Kept NoB w7 W → Asks W v L' L'.length → Calls Try.prog 18 #[v, .slice ao L'.length cp] W fun e w' => e = .returned (.bool true) ∧ Kept NoB W w') := Lib.hid (fun W v hW h4 => alike_self v _ _ _ L' W h4 (HROW.out.kept hW (fun _ _ h => h)) (by omega))
            clear hrow hcell
            go_region_held3 (fun W => Kept NoB w7 W ∧ W.cell? ⟨br, 0, none⟩ = some (.slice ao L'.length cp))
              (first | (with_reducible assumption) | (exact sk_kept (by with_reducible assumption) kc) | (exact HS0.out))
              (first
                | (go_at_call 17; refine (HLN.out _ (sk_one (by with_reducible assumption))).mono ?_; rintro e w9 ⟨rfl, rfl⟩)
                | (go_at_call 19; refine (HAL.out _ (sk_one (by with_reducible assumption))).mono ?_; rintro e w9 ⟨v4, rfl, h4, kc⟩; have HR4 := Lib.hid h4; clear h4)
                | (go_at_call 18; refine (HAK.out _ _ (sk_one (by with_reducible assumption)) HR4.out).mono ?_; rintro e w9 ⟨rfl, kc⟩))
            go_wp2_with fail
            go_roundw
            case rel => exact ⟨k + 1, L', by omega, by omega, by go_num, hle, HP6.out.kept (sk_one (by assumption))⟩
            case measure => simp [intOf]; omega
      · have hke : k = 80 := by omega
        subst hke
        have HP := Lib.hid hpl
        clear hpl
        go_wp2_with (go_at_call 20; refine (awake_any _).mono ?_; rintro e w3 ⟨rfl, k3⟩; have HK3 := Lib.hid (HP.out.old.then k3); clear k3)
        go_wp2_with fail
        go_ret
        exact ⟨rfl, HK3.out⟩
    · have hke : k = l.length := by omega
      subst hke
      have HP := Lib.hid hpl
      clear hpl
      go_wp2_with (go_at_call 20; refine (awake_any _).mono ?_; rintro e w3 ⟨rfl, k3⟩; have HK3 := Lib.hid (HP.out.old.then k3); clear k3)
      go_wp2_with fail
      go_ret
      exact ⟨rfl, HK3.out⟩

set_option maxHeartbeats 1000000 in
theorem plays_nil (ao : Option Addr) (cap : Nat) (N : Int) (w : World) :
    Calls Try.prog 3 #[.int .i64 N, .slice ao 0 cap] w fun e w' => e = .returned (.bool true) ∧ Kept NoB w w' := by
  go_enter Try.func3, Try.ntmps3
  go_wp2_with fail
  refine (new_q N w).mono ?_
  rintro e w1 ⟨rfl, q1, k1⟩
  obtain ⟨bq, hbq⟩ : ∃ bq, w.heap.size = bq := ⟨_, rfl⟩
  rw [hbq] at q1
  have hbl : bq < w1.heap.size := q1.lt.1
  go_wp2_with fail
  refine (ref_new_q N w1).mono ?_
  rintro e w2 ⟨rfl, r2, k2⟩
  obtain ⟨br, hbr⟩ : ∃ br, w1.heap.size = br := ⟨_, rfl⟩
  rw [hbr] at r2
  have P1 := Lib.hid (pl_begin k1 (by omega) hbl q1 hbr.symm r2 k2)
  clear q1 r2 k1 k2
  first | rw [hbq, hbr] | rw [hbr]
  clear hbq hbr hbl
  generalize clamp N = most at P1
  go_wp2_with fail
  go_loopw [7] (fun i wr => i = .int .i64 0 ∧ PL w wr bq br most [] [] (fun _ => False)) (fun i _ => 0)
  case atStart => exact ⟨rfl, P1.out⟩
  case round =>
    obtain ⟨rfl, hpl⟩ := hrel
    have HP := Lib.hid hpl
    clear hpl
    go_wp2_with (go_at_call 20; refine (awake_any _).mono ?_; rintro e w3 ⟨rfl, k3⟩; have HK3 := Lib.hid (HP.out.old.then k3); clear k3)
    go_wp2_with fail
    go_ret
    exact ⟨rfl, HK3.out⟩
theorem plays_any (ao : Option Addr) (n cap : Nat) (l : List Act) (N : Int) (w : World) (h : InActs w ao n l) :
    Calls Try.prog 3 #[.int .i64 N, .slice ao n cap] w fun e w' => e = .returned (.bool true) ∧ Kept NoB w w' := by
  obtain ⟨rfl, _, h0 | ⟨b, off, rfl, hin⟩⟩ := h
  · rw [h0]; exact plays_nil ao cap N w
  · exact plays_some b off cap N l w hin
end Go.Proofs.Ytjagoljaocbdcaa
