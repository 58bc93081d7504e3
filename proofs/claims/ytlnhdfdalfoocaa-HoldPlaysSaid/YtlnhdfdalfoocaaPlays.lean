/- The walk of the law HoldPlays. -/
import Derived.Test.YtlnhdfdalfoocaaR8
import Derived.Deep.RegionHeld3
import Derived.IntWalk
namespace Go.Proofs.Ytlnhdfdalfoocaa
open Go.RowKit

theorem HR.later {w wr : World} {bh br : Nat} {quota : Int} {mh mr : List Pr} {K K' : Nat} {R : Nat → Prop} (h : HR w wr bh br quota mh mr K R) (hK : K ≤ K') : HR w wr bh br quota mh mr K' R := by
  obtain ⟨now, l, vk, vd, vw, ck, cd, cw, h1, h2, h3, h4, h5, h6, h7⟩ := h
  exact ⟨now, l, vk, vd, vw, ck, cd, cw, h1, h2, h3, h4, by omega, by omega, h7⟩
theorem get_both {w wr : World} {bh br : Nat} {quota : Int} {m : List Pr} {K : Nat} {R : Nat → Prop} (h : HR w wr bh br quota m m K R) (key : ByteArray) (hlen : m.length ≤ 1000) (hK : K ≤ 1000) :
    ∃ (b : Bool) (s : ByteArray) (L' : List Pr), L'.length ≤ m.length + 1 ∧
      Hid (Calls Try.prog 10 #[.pointer (some ⟨bh, 0, none⟩), .string key] wr fun e w' => ∃ ao n c, e = .returned (.tuple #[.slice ao n c, .bool b]) ∧ (∃ S : Nat → Prop, HR w w' bh br quota L' m K (fun k => R k ∨ S k) ∧ ∀ W, Kept (fun k => ¬ (R k ∨ S k)) w' W → (convert 27 9 (.slice ao n c)).run Try.prog W = .ok (.string s) W) ∧ Kept (fun k => ¬ R k) wr w') ∧
      Hid (∀ (W : World) (mh : List Pr) (T : Nat → Prop), HR w W bh br quota mh m K T → Calls Try.prog 11 #[.pointer (some ⟨br, 0, none⟩), .string key] W fun e w' => e = .returned (.tuple #[.string s, .bool b]) ∧ HR w w' bh br quota mh L' (K + 1) T ∧ Kept (fun k => ¬ T k) W w') := by
  by_cases hin : key ∈ keysP m
  · unfold keysP at hin
    obtain ⟨⟨key', data⟩, hp, rfl⟩ := List.mem_map.1 hin
    have hol := othP_length m key'
    refine ⟨true, ⟨data.toArray⟩, othP m key' ++ [(key', data)], by rw [List.length_append]; simp; omega, Lib.hid ?_, Lib.hid fun W mh T hW => hr_rget_yes hW key' data hK hp⟩
    refine (hr_hget_yes h key' data (by omega) hp).mono ?_
    rintro e w' ⟨ao, he, hr, hs, hk⟩
    exact ⟨ao, _, _, he, ⟨_, hs, fun W hW => conv_src (Row.kept hr hW (fun k hk hn => hn (.inr hk))).src⟩, hk⟩
  · refine ⟨false, ⟨#[]⟩, m, by omega, Lib.hid ?_, Lib.hid fun W mh T hW => hr_rget_no hW key hK hin⟩
    refine (hr_hget_no h key (by omega) hin).mono ?_
    rintro e w' ⟨he, hs, hk⟩
    refine ⟨none, 0, 0, he, ⟨fun _ => False, hs.free (fun k hk => hk.elim id False.elim), fun W _ => ?_⟩, hk.of_none⟩
    exact conv_src (l := []) ⟨rfl, none, 0, rfl, fun _ => rfl, fun a ha => by cases ha⟩
theorem put_kept {S : Nat → Prop} {W W' : World} {B : Nat} {u1 u2 x t : Value} (h : W.cell? ⟨B, 1, none⟩ = some u1 ∧ W.cell? ⟨B, 2, none⟩ = some u2 ∧ (convert 27 9 x).run Try.prog W = .ok t W) (k : Kept S W W') (hB : ¬ S B) (hc : (convert 27 9 x).run Try.prog W' = .ok t W') : W'.cell? ⟨B, 1, none⟩ = some u1 ∧ W'.cell? ⟨B, 2, none⟩ = some u2 ∧ (convert 27 9 x).run Try.prog W' = .ok t W' :=
  ⟨k.cell h.1 hB, k.cell h.2.1 hB, hc⟩

set_option maxRecDepth 100000 in
set_option maxHeartbeats 8000000 in
theorem plays_some (b off cap : Nat) (N : Int) (l : List Act) (w : World) (hin : ∀ i a, l[i]? = some a → a.ok w ∧ ∀ j u, a.cells[j]? = some u → w.cell? ⟨b, off + (i * 3 + j), none⟩ = some u) :
    Calls Try.prog 3 #[.int .i64 N, .slice (some ⟨b, off, none⟩) l.length cap] w fun e w' => e = .returned (.bool true) ∧ Kept NoB w w' := by
  have HIN := Lib.hid hin
  clear hin
  go_enter Try.func3, Try.ntmps3
  go_wp2_with (first
    | (go_at_call 8; (with_reducible refine (hs_new (w := w) (R := fun _ => False) N (Kept.refl _ _) (fun _ h => h.elim)).mono ?_); rintro e w1 ⟨rfl, s1, _⟩; generalize w.heap.size = bh at s1; have S1 := Lib.hid s1; clear s1)
    | (go_at_call 9; (with_reducible refine (rnew_any N w1).mono ?_); rintro e w2 ⟨rfl, rfl⟩; have hp2 := hr_begin S1.out; generalize w1.heap.size = br at hp2; have P1 := Lib.hid hp2; clear hp2 S1; generalize clamp N = quota at P1))
  go_loopw [7] (fun i wr => ∃ (k : Nat) (m : List Pr), k ≤ l.length ∧ k ≤ 60 ∧ i = .int .i64 k ∧ m.length ≤ k ∧ HR w wr bh br quota m m k (fun _ => False)) (fun i _ => 60 - (intOf i).toNat)
  case atStart => exact ⟨0, [], Nat.zero_le _, Nat.zero_le _, rfl, Nat.le_refl _, P1.out⟩
  case round =>
    obtain ⟨k, m, hk, hk60, rfl, hL, hpl⟩ := hrel
    by_cases hlt : k < l.length
    · by_cases h60 : k < 60
      · obtain ⟨x, hx⟩ : ∃ x, l[k] = x := ⟨_, rfl⟩
        obtain ⟨hok, x0, x1, x2⟩ := act_get hpl.old hlt hx HIN.out
        obtain ⟨hw, hinb⟩ := hok
        have HINB := Lib.hid hinb
        have hxm := hinb.2.1
        unfold maxLen at hxm
        have HB := Lib.hid (heap_alloc_new wr (.cells x.arr 29))
        have HP := Lib.hid (hpl.guard (w' := wr.alloc (.cells x.arr 29)) ((Kept.refl _ _).alloc _) (T := fun k => k = wr.heap.size) (fun k e => by subst e; exact ⟨Nat.le_refl _, by simp⟩))
        clear hpl hx hinb
        have hk60b : decide ((k : Int) < 60) = true := decide_eq_true (by omega)
        by_cases hbig : 1000 < x.data.length
        · have hbb : decide ((1000 : Int) < (x.data.length : Int)) = true := decide_eq_true (by omega)
          go_wp2_with fail
          go_roundw
          case rel => exact ⟨k + 1, m, by omega, by omega, by go_num, by omega, (HP.out.free (fun _ h => h.elim)).later (by omega)⟩
          case measure => simp [intOf]; omega
        have hbb : decide ((1000 : Int) < (x.data.length : Int)) = false := decide_eq_false (by omega)
        by_cases hc0 : x.what % 8 = 0
        · skip
          obtain ⟨b, s, L', hle0, HGH, HGR⟩ := get_both HP.out x.key (by omega) (by omega)
          have hle : L'.length ≤ k + 1 := by omega
          unfold Act.arr at HGH
          go_wp2_with (first
            | (go_at_call 10; (with_reducible refine HGH.out.mono ?_); rintro e w3 ⟨ax, nx, cx, rfl, ⟨SX, p3, hcv⟩, k3⟩; have HP3 := Lib.hid p3; have HCV := Lib.hid hcv; have b3 := k3.heap HB.out (fun hn => hn (.inr rfl)); have hlt3 := lt_of_heap b3; obtain ⟨c0, c1, c2⟩ := block_act b3; clear p3 k3 b3 hcv)
            | (go_at_call 11; (with_reducible refine (HGR.out _ _ _ HP3.out).mono ?_); rintro e w5 ⟨rfl, p5, k5⟩; have HPZ := Lib.hid p5; have hc1 := HCV.out _ k5; clear p5 k5))
          go_wp2_with (first
            | (go_at_call 16; (with_reducible refine (hr_hused HPZ.out (by omega)).mono ?_); rintro e w7 ⟨rfl, k7⟩; have HP7 := Lib.hid (HPZ.out.calm k7); clear k7)
            | (go_at_call 17; (with_reducible refine (hr_rused HP7.out (by omega)).mono ?_); rintro e w8 ⟨rfl, rfl⟩)
            | (go_at_call 19; (with_reducible refine (hr_hkeys HP7.out (by omega)).mono ?_); rintro e w9 ⟨v9, rfl, r9, k9⟩; have HR9 := Lib.hid r9; have HP9 := Lib.hid (HP7.out.calm k9); clear r9 k9)
            | (go_at_call 20; (with_reducible refine (hr_order HP9.out (by omega)).mono ?_); rintro e w10 ⟨a10, c10, rfl, r10, k10⟩; have HR10 := Lib.hid r10; have HR9b := Lib.hid (Row.kept HR9.out k10 (fun _ _ h => h)); have HP10 := Lib.hid (HP9.out.calm k10); clear r10 k10)
            | (go_at_call 18; (with_reducible refine (same_self _ _ _ _ (keysP L') _ HR9b.out HR10.out (by unfold keysP; rw [List.length_map]; omega)).mono ?_); rintro e w11 ⟨rfl, k11⟩; have HP11 := Lib.hid (HP10.out.calm k11); clear k11))
          go_roundw
          case rel => exact ⟨k + 1, L', by omega, by omega, by go_num, hle, HP11.out.free (fun _ h => h.elim)⟩
          case measure => simp [intOf]; omega
        by_cases hc1 : x.what % 8 = 1
        · skip
          obtain ⟨b, s, L', hle0, HGH, HGR⟩ := get_both HP.out x.key (by omega) (by omega)
          have hle : L'.length ≤ k + 1 := by omega
          unfold Act.arr at HGH
          go_wp2_with (first
            | (go_at_call 10; (with_reducible refine HGH.out.mono ?_); rintro e w3 ⟨ax, nx, cx, rfl, ⟨SX, p3, hcv⟩, k3⟩; have HP3 := Lib.hid p3; have HCV := Lib.hid hcv; have b3 := k3.heap HB.out (fun hn => hn (.inr rfl)); have hlt3 := lt_of_heap b3; obtain ⟨c0, c1, c2⟩ := block_act b3; clear p3 k3 b3 hcv)
            | (go_at_call 11; (with_reducible refine (HGR.out _ _ _ HP3.out).mono ?_); rintro e w5 ⟨rfl, p5, k5⟩; have HPZ := Lib.hid p5; have hc1 := HCV.out _ k5; clear p5 k5))
          go_wp2_with (first
            | (go_at_call 16; (with_reducible refine (hr_hused HPZ.out (by omega)).mono ?_); rintro e w7 ⟨rfl, k7⟩; have HP7 := Lib.hid (HPZ.out.calm k7); clear k7)
            | (go_at_call 17; (with_reducible refine (hr_rused HP7.out (by omega)).mono ?_); rintro e w8 ⟨rfl, rfl⟩)
            | (go_at_call 19; (with_reducible refine (hr_hkeys HP7.out (by omega)).mono ?_); rintro e w9 ⟨v9, rfl, r9, k9⟩; have HR9 := Lib.hid r9; have HP9 := Lib.hid (HP7.out.calm k9); clear r9 k9)
            | (go_at_call 20; (with_reducible refine (hr_order HP9.out (by omega)).mono ?_); rintro e w10 ⟨a10, c10, rfl, r10, k10⟩; have HR10 := Lib.hid r10; have HR9b := Lib.hid (Row.kept HR9.out k10 (fun _ _ h => h)); have HP10 := Lib.hid (HP9.out.calm k10); clear r10 k10)
            | (go_at_call 18; (with_reducible refine (same_self _ _ _ _ (keysP L') _ HR9b.out HR10.out (by unfold keysP; rw [List.length_map]; omega)).mono ?_); rintro e w11 ⟨rfl, k11⟩; have HP11 := Lib.hid (HP10.out.calm k11); clear k11))
          go_roundw
          case rel => exact ⟨k + 1, L', by omega, by omega, by go_num, hle, HP11.out.free (fun _ h => h.elim)⟩
          case measure => simp [intOf]; omega
        by_cases hc2 : x.what % 8 = 2
        · skip
          obtain ⟨b, s, L', hle0, HGH, HGR⟩ := get_both HP.out x.key (by omega) (by omega)
          have hle : L'.length ≤ k + 1 := by omega
          unfold Act.arr at HGH
          go_wp2_with (first
            | (go_at_call 10; (with_reducible refine HGH.out.mono ?_); rintro e w3 ⟨ax, nx, cx, rfl, ⟨SX, p3, hcv⟩, k3⟩; have HP3 := Lib.hid p3; have HCV := Lib.hid hcv; have b3 := k3.heap HB.out (fun hn => hn (.inr rfl)); have hlt3 := lt_of_heap b3; obtain ⟨c0, c1, c2⟩ := block_act b3; clear p3 k3 b3 hcv)
            | (go_at_call 11; (with_reducible refine (HGR.out _ _ _ HP3.out).mono ?_); rintro e w5 ⟨rfl, p5, k5⟩; have HPZ := Lib.hid p5; have hc1 := HCV.out _ k5; clear p5 k5))
          go_wp2_with (first
            | (go_at_call 16; (with_reducible refine (hr_hused HPZ.out (by omega)).mono ?_); rintro e w7 ⟨rfl, k7⟩; have HP7 := Lib.hid (HPZ.out.calm k7); clear k7)
            | (go_at_call 17; (with_reducible refine (hr_rused HP7.out (by omega)).mono ?_); rintro e w8 ⟨rfl, rfl⟩)
            | (go_at_call 19; (with_reducible refine (hr_hkeys HP7.out (by omega)).mono ?_); rintro e w9 ⟨v9, rfl, r9, k9⟩; have HR9 := Lib.hid r9; have HP9 := Lib.hid (HP7.out.calm k9); clear r9 k9)
            | (go_at_call 20; (with_reducible refine (hr_order HP9.out (by omega)).mono ?_); rintro e w10 ⟨a10, c10, rfl, r10, k10⟩; have HR10 := Lib.hid r10; have HR9b := Lib.hid (Row.kept HR9.out k10 (fun _ _ h => h)); have HP10 := Lib.hid (HP9.out.calm k10); clear r10 k10)
            | (go_at_call 18; (with_reducible refine (same_self _ _ _ _ (keysP L') _ HR9b.out HR10.out (by unfold keysP; rw [List.length_map]; omega)).mono ?_); rintro e w11 ⟨rfl, k11⟩; have HP11 := Lib.hid (HP10.out.calm k11); clear k11))
          go_roundw
          case rel => exact ⟨k + 1, L', by omega, by omega, by go_num, hle, HP11.out.free (fun _ h => h.elim)⟩
          case measure => simp [intOf]; omega
        by_cases hc3 : x.what % 8 = 3
        · skip
          obtain ⟨L', hL'⟩ : ∃ L', othP m x.key = L' := ⟨_, rfl⟩
          have hle : L'.length ≤ k + 1 := by rw [← hL']; exact Nat.le_trans (othP_length m x.key) (by omega)
          obtain ⟨nd, hnd⟩ : ∃ nd : Bool, hasP m x.key = nd := ⟨_, rfl⟩
          have HDQ := Lib.hid (fun (W : World) (mr : List Pr) (K : Nat) (R : Nat → Prop) (h : HR w W bh br quota m mr K R) => hr_hdrop h x.key (by omega))
          have HDR := Lib.hid (fun (W : World) (mh : List Pr) (R : Nat → Prop) (h : HR w W bh br quota mh m k R) => hr_rdrop h x.key (by omega))
          rw [hnd, hL'] at HDQ HDR
          clear hnd hL'
          obtain ⟨c0, c1, c2⟩ := block_act HB.out
          have HC1 := Lib.hid c1
          clear c0 c1 c2
          have P0 := Lib.hid (HP.out.calm (Kept.refl _ _).drew)
          unfold Act.arr at P0 HC1
          go_wp2_with fail
          go_region_held3 (fun W => W.cell? ⟨wr.heap.size, 1, none⟩ = some (.string x.key))
            (first | (with_reducible assumption) | (exact kc.cell (by with_reducible assumption) (fun h => h (.inr rfl))) | (exact HC1.out))
            (first
              | (go_at_call 12; (with_reducible refine (HDQ.out _ _ _ _ PA.out).mono ?_); rintro e w7 ⟨rfl, p7, kc⟩; have PB := Lib.hid p7; clear p7)
              | (go_at_call 12; (with_reducible refine (HDQ.out _ _ _ _ P0.out).mono ?_); rintro e w6 ⟨rfl, p6, kc⟩; have PA := Lib.hid p6; clear p6)
              | (go_at_call 13; (with_reducible refine (HDR.out _ _ _ PA.out).mono ?_); rintro e w7 ⟨rfl, p7, kc⟩; have PB := Lib.hid p7; clear p7)
              | (go_at_call 13; (with_reducible refine (HDR.out _ _ _ P0.out).mono ?_); rintro e w6 ⟨rfl, p6, kc⟩; have PA := Lib.hid p6; clear p6))
          all_goals
            have HPZ := Lib.hid (PB.out.free (T := fun _ => False) (fun _ h => h.elim))
            clear PA PB P0 HC1
            go_wp2_with fail
            go_wp2_with (first
              | (go_at_call 16; (with_reducible refine (hr_hused HPZ.out (by omega)).mono ?_); rintro e w7 ⟨rfl, k7⟩; have HP7 := Lib.hid (HPZ.out.calm k7); clear k7)
              | (go_at_call 17; (with_reducible refine (hr_rused HP7.out (by omega)).mono ?_); rintro e w8 ⟨rfl, rfl⟩)
              | (go_at_call 19; (with_reducible refine (hr_hkeys HP7.out (by omega)).mono ?_); rintro e w9 ⟨v9, rfl, r9, k9⟩; have HR9 := Lib.hid r9; have HP9 := Lib.hid (HP7.out.calm k9); clear r9 k9)
              | (go_at_call 20; (with_reducible refine (hr_order HP9.out (by omega)).mono ?_); rintro e w10 ⟨a10, c10, rfl, r10, k10⟩; have HR10 := Lib.hid r10; have HR9b := Lib.hid (Row.kept HR9.out k10 (fun _ _ h => h)); have HP10 := Lib.hid (HP9.out.calm k10); clear r10 k10)
              | (go_at_call 18; (with_reducible refine (same_self _ _ _ _ (keysP L') _ HR9b.out HR10.out (by unfold keysP; rw [List.length_map]; omega)).mono ?_); rintro e w11 ⟨rfl, k11⟩; have HP11 := Lib.hid (HP10.out.calm k11); clear k11))
            go_roundw
            case rel => exact ⟨k + 1, L', by omega, by omega, by go_num, hle, HP11.out.free (fun _ h => h.elim)⟩
            case measure => simp [intOf]; omega
        · skip
          obtain ⟨L', hL'⟩ : ∃ L', putP quota m x.key x.data = L' := ⟨_, rfl⟩
          have hle : L'.length ≤ k + 1 := by rw [← hL']; exact Nat.le_trans (putP_length quota m x.key x.data) (by omega)
          obtain ⟨nd, hnd⟩ : ∃ nd : Bool, decide ((x.data.length : Int) ≤ quota) = nd := ⟨_, rfl⟩
          have HDQ := Lib.hid (fun (W : World) (mr : List Pr) (K : Nat) (R : Nat → Prop) (h : HR w W bh br quota m mr K R) => hr_hput h x.key x.ao x.cap x.data (by omega) (src_kept (HINB.out.2.2.1 x.cap) h.old (fun _ _ _ h => h)) HINB.out.2.2.2)
          have HDR := Lib.hid (fun (W : World) (mh : List Pr) (R : Nat → Prop) (h : HR w W bh br quota mh m k R) => hr_rput h x.key x.data (by omega))
          have HCV : Hid (∀ W : World, Kept NoB w W → (convert 27 9 (.slice x.ao x.data.length x.cap)).run Try.prog W = .ok (.string ⟨x.data.toArray⟩) W) := Lib.hid (fun W hW => conv_src (src_kept (HINB.out.2.2.1 x.cap) hW (fun _ _ _ h => h)))
          rw [hnd, hL'] at HDQ HDR
          clear hnd hL'
          have P0 := Lib.hid (HP.out.calm (Kept.refl _ _).drew)
          obtain ⟨c0, c1, c2⟩ := block_act HB.out
          have HC1 := Lib.hid (And.intro c1 (And.intro c2 (HCV.out _ P0.out.old)))
          clear c0 c1 c2
          unfold Act.arr at P0 HC1
          go_wp2_with fail
          go_region_held3 (fun W => W.cell? ⟨wr.heap.size, 1, none⟩ = some (.string x.key) ∧ W.cell? ⟨wr.heap.size, 2, none⟩ = some (.slice x.ao x.data.length x.cap) ∧ (convert 27 9 (.slice x.ao x.data.length x.cap)).run Try.prog W = .ok (.string ⟨x.data.toArray⟩) W)
            (first | (with_reducible assumption) | (exact put_kept (by with_reducible assumption) kc (fun h => h (.inr rfl)) (HCV.out _ PB.out.old)) | (exact put_kept (by with_reducible assumption) kc (fun h => h (.inr rfl)) (HCV.out _ PA.out.old)) | (exact HC1.out))
            (first
              | (go_at_call 14; (with_reducible refine (HDQ.out _ _ _ _ PA.out).mono ?_); rintro e w7 ⟨rfl, p7, kc⟩; have PB := Lib.hid p7; clear p7)
              | (go_at_call 14; (with_reducible refine (HDQ.out _ _ _ _ P0.out).mono ?_); rintro e w6 ⟨rfl, p6, kc⟩; have PA := Lib.hid p6; clear p6)
              | (go_at_call 15; (with_reducible refine (HDR.out _ _ _ PA.out).mono ?_); rintro e w7 ⟨rfl, p7, kc⟩; have PB := Lib.hid p7; clear p7)
              | (go_at_call 15; (with_reducible refine (HDR.out _ _ _ P0.out).mono ?_); rintro e w6 ⟨rfl, p6, kc⟩; have PA := Lib.hid p6; clear p6))
          all_goals
            have HPZ := Lib.hid (PB.out.free (T := fun _ => False) (fun _ h => h.elim))
            clear PA PB P0 HC1
            go_wp2_with fail
            go_wp2_with (first
              | (go_at_call 16; (with_reducible refine (hr_hused HPZ.out (by omega)).mono ?_); rintro e w7 ⟨rfl, k7⟩; have HP7 := Lib.hid (HPZ.out.calm k7); clear k7)
              | (go_at_call 17; (with_reducible refine (hr_rused HP7.out (by omega)).mono ?_); rintro e w8 ⟨rfl, rfl⟩)
              | (go_at_call 19; (with_reducible refine (hr_hkeys HP7.out (by omega)).mono ?_); rintro e w9 ⟨v9, rfl, r9, k9⟩; have HR9 := Lib.hid r9; have HP9 := Lib.hid (HP7.out.calm k9); clear r9 k9)
              | (go_at_call 20; (with_reducible refine (hr_order HP9.out (by omega)).mono ?_); rintro e w10 ⟨a10, c10, rfl, r10, k10⟩; have HR10 := Lib.hid r10; have HR9b := Lib.hid (Row.kept HR9.out k10 (fun _ _ h => h)); have HP10 := Lib.hid (HP9.out.calm k10); clear r10 k10)
              | (go_at_call 18; (with_reducible refine (same_self _ _ _ _ (keysP L') _ HR9b.out HR10.out (by unfold keysP; rw [List.length_map]; omega)).mono ?_); rintro e w11 ⟨rfl, k11⟩; have HP11 := Lib.hid (HP10.out.calm k11); clear k11))
            go_roundw
            case rel => exact ⟨k + 1, L', by omega, by omega, by go_num, hle, HP11.out.free (fun _ h => h.elim)⟩
            case measure => simp [intOf]; omega
      · have hke : k = 60 := by omega
        subst hke
        have HP := Lib.hid hpl
        clear hpl
        go_wp2_with (go_at_call 21; (with_reducible refine (awake_any _).mono ?_); rintro e w3 ⟨rfl, k3⟩; have HK3 := Lib.hid (HP.out.old.then k3); clear k3)
        go_ret
        exact ⟨rfl, HK3.out⟩
    · have hke : k = l.length := by omega
      subst hke
      have HP := Lib.hid hpl
      clear hpl
      go_wp2_with (go_at_call 21; (with_reducible refine (awake_any _).mono ?_); rintro e w3 ⟨rfl, k3⟩; have HK3 := Lib.hid (HP.out.old.then k3); clear k3)
      go_ret
      exact ⟨rfl, HK3.out⟩

set_option maxRecDepth 100000 in
set_option maxHeartbeats 1000000 in
theorem plays_nil (ao : Option Addr) (cap : Nat) (N : Int) (w : World) :
    Calls Try.prog 3 #[.int .i64 N, .slice ao 0 cap] w fun e w' => e = .returned (.bool true) ∧ Kept NoB w w' := by
  go_enter Try.func3, Try.ntmps3
  go_wp2_with (first
    | (go_at_call 8; (with_reducible refine (hs_new (w := w) (R := fun _ => False) N (Kept.refl _ _) (fun _ h => h.elim)).mono ?_); rintro e w1 ⟨rfl, s1, _⟩; generalize w.heap.size = bh at s1; have S1 := Lib.hid s1; clear s1)
    | (go_at_call 9; (with_reducible refine (rnew_any N w1).mono ?_); rintro e w2 ⟨rfl, rfl⟩; have hp2 := hr_begin S1.out; generalize w1.heap.size = br at hp2; have P1 := Lib.hid hp2; clear hp2 S1; generalize clamp N = quota at P1))
  go_loopw [7] (fun i wr => i = .int .i64 0 ∧ HR w wr bh br quota [] [] 0 (fun _ => False)) (fun i _ => 0)
  case atStart => exact ⟨rfl, P1.out⟩
  case round =>
    obtain ⟨rfl, hpl⟩ := hrel
    have HP := Lib.hid hpl
    clear hpl
    go_wp2_with (go_at_call 21; (with_reducible refine (awake_any _).mono ?_); rintro e w3 ⟨rfl, k3⟩; have HK3 := Lib.hid (HP.out.old.then k3); clear k3)
    go_ret
    exact ⟨rfl, HK3.out⟩
theorem plays_any (ao : Option Addr) (n cap : Nat) (l : List Act) (N : Int) (w : World) (h : InActs w ao n l) :
    Calls Try.prog 3 #[.int .i64 N, .slice ao n cap] w fun e w' => e = .returned (.bool true) ∧ Kept NoB w w' := by
  obtain ⟨rfl, _, h0 | ⟨b, off, rfl, hin⟩⟩ := h
  · rw [h0]; exact plays_nil ao cap N w
  · exact plays_some b off cap N l w hin
end Go.Proofs.Ytlnhdfdalfoocaa
