/- The walk of the law HoldNone. -/
import Derived.Test.YtlnhdfdalfoocaaHA
import Derived.Test.YtlnhdfdalfoocaaHOpen
namespace Go.Proofs.Ytlnhdfdalfoocaa
open Go.RowKit

theorem clamp_zero : clamp 0 = 0 := by decide
theorem clamp_neg (n : Int) (h : n < 0) : clamp n = 0 := by unfold clamp; rw [if_pos h]
theorem put0_empty (key : ByteArray) : putP 0 [] key [] = [(key, [])] := rfl
theorem put0_more (key : ByteArray) (data : List UInt8) (h : 0 < data.length) : putP 0 [] key data = [] := by unfold putP; rw [if_neg (by omega)]; rfl

/-- a hold for no bytes, that the call has made -/
theorem none_put {w W : World} {bh : Nat} (h : HS w W bh 0 [] (fun _ => False)) (key : ByteArray) (ao : Option Addr) (c : Nat) (data : List UInt8) (hin : InB w ao data.length data) :
    Calls Try.prog 14 #[.pointer (some ⟨bh, 0, none⟩), .string key, .slice ao data.length c] W fun e w' => e = .returned (.bool (decide ((data.length : Int) = 0))) ∧ ∃ m, HS w w' bh 0 m (fun _ => False) ∧ totP m = 0 ∧ m.length ≤ 1 := by
  obtain ⟨_, _, hsrc, hlt⟩ := hin
  refine (hs_put h key ao c data (by decide) (src_kept (hsrc c) h.old (fun _ _ _ h => h)) (fun a ha hpos => .inl (hlt a ha hpos))).mono ?_
  rintro e w' ⟨rfl, h2, _⟩
  by_cases h0 : data.length = 0
  · have hd : data = [] := List.eq_nil_of_length_eq_zero h0
    subst hd
    exact ⟨rfl, _, h2, rfl, by rw [put0_empty]; exact Nat.le_refl _⟩
  · rw [put0_more key data (by omega)] at h2
    refine ⟨?_, _, h2, rfl, by decide⟩
    rw [decide_eq_false (by omega), decide_eq_false (by omega)]

set_option maxRecDepth 100000 in
set_option maxHeartbeats 2000000 in
theorem none_any (n : Int) (key : ByteArray) (ao : Option Addr) (len c : Nat) (data : List UInt8) (w : World) (hin : InB w ao len data) :
    Calls Try.prog 7 #[.int .i64 n, .string key, .slice ao len c] w fun e w' => e = .returned (.bool true) ∧ Kept NoB w w' := by
  have hl := hin.1
  have hmax := hin.2.1
  unfold maxLen at hmax
  subst hl
  have HIN := Lib.hid hin
  clear hin
  by_cases hn : n < 0
  · go_enter Try.func7, Try.ntmps7
    go_wp2_with (first
      | (go_at_call 10; with_reducible refine (get_nil _ _).mono ?_; rintro e w' ⟨rfl, rfl⟩)
      | (go_at_call 14; with_reducible refine (put_nil _ _ _).mono ?_; rintro e w' ⟨rfl, rfl⟩)
      | (go_at_call 12; with_reducible refine (drop_nil _ _).mono ?_; rintro e w' ⟨rfl, rfl⟩)
      | (go_at_call 19; with_reducible refine (keys_nil _).mono ?_; rintro e w' ⟨rfl, rfl⟩)
      | (go_at_call 16; with_reducible refine (used_nil _).mono ?_; rintro e w' ⟨rfl, rfl⟩)
      | (go_at_call 8; with_reducible refine (hs_new (w := w) (R := fun _ => False) 0 (Kept.refl _ _) (fun _ h => h.elim)).mono ?_; rintro e w1 ⟨rfl, s1, _⟩; rw [clamp_zero] at s1; have S1 := Lib.hid s1; clear s1))
    go_wp2_with (go_at_call 8; with_reducible refine (hs_new (w := w) (R := fun _ => False) n S1.out.old (fun _ h => h.elim)).mono ?_; rintro e w2 ⟨rfl, s2, _⟩; rw [clamp_neg n hn] at s2; have S2 := Lib.hid s2; clear s2)
    obtain ⟨bh, hbh⟩ : ∃ bh, w1.heap.size = bh := ⟨_, rfl⟩
    rw [hbh] at S2 ⊢
    clear hbh
    go_wp2_with (go_at_call 21; with_reducible refine (awake_any _).mono ?_; rintro e w3 ⟨rfl, k3⟩; have S3 := Lib.hid (S2.out.calm k3); clear k3)
    obtain ⟨pb, hpb⟩ : ∃ pb, decide ((data.length : Int) = 0) = pb := ⟨_, rfl⟩
    have HP := none_put S3.out key ao c data HIN.out
    rw [hpb] at HP
    have HPP := Lib.hid HP
    clear HP
    have hpe : ((data.length : Int) == 0) = pb := by rw [← hpb]; rfl
    clear hpb
    go_wp2_with (go_at_call 14; with_reducible refine HPP.out.mono ?_; rintro e w4 ⟨rfl, m, s4, ht4, hl4⟩; have S4 := Lib.hid s4; have HT4 := Lib.hid ht4; clear s4 ht4)
    have HU : Hid (Calls Try.prog 16 #[.pointer (some ⟨bh, 0, none⟩)] w4 fun e w' => e = .returned (.int .i64 0) ∧ Kept NoB w4 w') := Lib.hid (by have h := hs_used S4.out (by omega); rw [HT4.out] at h; exact h)
    go_wp2_with (go_at_call 16; with_reducible refine HU.out.mono ?_; rintro e w5 ⟨rfl, k5⟩; have S5 := Lib.hid (S4.out.calm k5); clear k5)
    obtain ⟨nk, hnk⟩ : ∃ nk, (keysP m).length = nk := ⟨_, rfl⟩
    have hnk1 : nk ≤ 1 := by rw [← hnk, keysP, List.length_map]; exact hl4
    have HK : Hid (Calls Try.prog 19 #[.pointer (some ⟨bh, 0, none⟩)] w5 fun e w' => ∃ a, e = .returned (.slice a nk nk) ∧ Kept NoB w5 w') :=
      Lib.hid ((hs_keys S5.out (by omega)).mono fun _ _ ⟨v, he, f⟩ => by rw [FreshK, hnk] at f; obtain ⟨⟨a, rfl⟩, h1, h2, _⟩ := f; exact ⟨a, he, h2⟩)
    have hnkb : decide ((nk : Int) ≤ 1) = true := decide_eq_true (by omega)
    clear hnk hl4
    go_wp2_with (go_at_call 19; with_reducible refine HK.out.mono ?_; rintro e w6 ⟨a6, rfl, k6⟩; have S6 := Lib.hid (S5.out.calm k6); clear k6)
    go_ret
    exact ⟨rfl, S6.out.old⟩
  · go_enter Try.func7, Try.ntmps7
    go_wp2_with (first
      | (go_at_call 10; with_reducible refine (get_nil _ _).mono ?_; rintro e w' ⟨rfl, rfl⟩)
      | (go_at_call 14; with_reducible refine (put_nil _ _ _).mono ?_; rintro e w' ⟨rfl, rfl⟩)
      | (go_at_call 12; with_reducible refine (drop_nil _ _).mono ?_; rintro e w' ⟨rfl, rfl⟩)
      | (go_at_call 19; with_reducible refine (keys_nil _).mono ?_; rintro e w' ⟨rfl, rfl⟩)
      | (go_at_call 16; with_reducible refine (used_nil _).mono ?_; rintro e w' ⟨rfl, rfl⟩)
      | (go_at_call 8; with_reducible refine (hs_new (w := w) (R := fun _ => False) 0 (Kept.refl _ _) (fun _ h => h.elim)).mono ?_; rintro e w1 ⟨rfl, s1, _⟩; rw [clamp_zero] at s1; have S1 := Lib.hid s1; clear s1))
    obtain ⟨bh, hbh⟩ : ∃ bh, w.heap.size = bh := ⟨_, rfl⟩
    rw [hbh] at S1 ⊢
    clear hbh
    go_wp2_with (go_at_call 21; with_reducible refine (awake_any _).mono ?_; rintro e w3 ⟨rfl, k3⟩; have S3 := Lib.hid (S1.out.calm k3); clear k3)
    obtain ⟨pb, hpb⟩ : ∃ pb, decide ((data.length : Int) = 0) = pb := ⟨_, rfl⟩
    have HP := none_put S3.out key ao c data HIN.out
    rw [hpb] at HP
    have HPP := Lib.hid HP
    clear HP
    have hpe : ((data.length : Int) == 0) = pb := by rw [← hpb]; rfl
    clear hpb
    go_wp2_with (go_at_call 14; with_reducible refine HPP.out.mono ?_; rintro e w4 ⟨rfl, m, s4, ht4, hl4⟩; have S4 := Lib.hid s4; have HT4 := Lib.hid ht4; clear s4 ht4)
    have HU : Hid (Calls Try.prog 16 #[.pointer (some ⟨bh, 0, none⟩)] w4 fun e w' => e = .returned (.int .i64 0) ∧ Kept NoB w4 w') := Lib.hid (by have h := hs_used S4.out (by omega); rw [HT4.out] at h; exact h)
    go_wp2_with (go_at_call 16; with_reducible refine HU.out.mono ?_; rintro e w5 ⟨rfl, k5⟩; have S5 := Lib.hid (S4.out.calm k5); clear k5)
    obtain ⟨nk, hnk⟩ : ∃ nk, (keysP m).length = nk := ⟨_, rfl⟩
    have hnk1 : nk ≤ 1 := by rw [← hnk, keysP, List.length_map]; exact hl4
    have HK : Hid (Calls Try.prog 19 #[.pointer (some ⟨bh, 0, none⟩)] w5 fun e w' => ∃ a, e = .returned (.slice a nk nk) ∧ Kept NoB w5 w') :=
      Lib.hid ((hs_keys S5.out (by omega)).mono fun _ _ ⟨v, he, f⟩ => by rw [FreshK, hnk] at f; obtain ⟨⟨a, rfl⟩, h1, h2, _⟩ := f; exact ⟨a, he, h2⟩)
    have hnkb : decide ((nk : Int) ≤ 1) = true := decide_eq_true (by omega)
    clear hnk hl4
    go_wp2_with (go_at_call 19; with_reducible refine HK.out.mono ?_; rintro e w6 ⟨a6, rfl, k6⟩; have S6 := Lib.hid (S5.out.calm k6); clear k6)
    go_ret
    exact ⟨rfl, S6.out.old⟩
end Go.Proofs.Ytlnhdfdalfoocaa
