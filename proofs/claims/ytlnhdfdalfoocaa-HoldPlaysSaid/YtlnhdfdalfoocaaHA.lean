/- Walks: a Put of bytes that were laid just now; the fixed fact (awake). -/
import Derived.Test.YtlnhdfdalfoocaaH9
namespace Go.Proofs.Ytlnhdfdalfoocaa
open Go.RowKit

theorem hs_put_lit {w W : World} {bh : Nat} {quota : Int} {m : List Pr} {R : Nat → Prop} (h : HS w W bh quota m R) (key : ByteArray) (data : List UInt8) (cs : Array Value) (hcs : cs.toList = bcells data) (n : Nat) (hn : data.length = n) (hlen : m.length ≤ 4095) (hm : n ≤ 4096) :
    Calls Try.prog 14 #[.pointer (some ⟨bh, 0, none⟩), .string key, .slice (some ⟨W.heap.size, 0, none⟩) n n] (W.alloc (.cells cs 5)) fun e w' => e = .returned (.bool (decide ((n : Int) ≤ quota))) ∧ HS w w' bh quota (putP quota m key data) R ∧ Kept (fun k => ¬ R k) W w' := by
  subst hn
  have hk : Kept NoB W (W.alloc (.cells cs 5)) := (Kept.refl _ _).alloc _
  have h1 := h.add hk (T := fun k => k = W.heap.size) (fun k e => by subst e; exact ⟨Nat.le_refl _, by simp⟩)
  have hrow := Row.laid W 5 1 data.length cs (by have := congrArg List.length hcs; simp [bcells] at this; omega) (by unfold maxLen; omega) W.heap.size rfl
  rw [hcs] at hrow
  refine (hs_put h1 key _ _ data hlen hrow.src (fun a ha _ => .inr (by cases ha; exact .inr rfl))).mono ?_
  rintro e w' ⟨rfl, h2, k2⟩
  exact ⟨rfl, h2.free (fun k hk => .inl hk), hk.of_none.trans k2 (fun k _ hn hR => hn (.inl hR))⟩

theorem conv_src {w : World} {ao : Option Addr} {n c : Nat} {l : List UInt8} (h : Src w 1 (.slice ao n c) l.length (bcells l)) : (convert 27 9 (.slice ao n c)).run Try.prog w = .ok (.string ⟨l.toArray⟩) w := by
  obtain ⟨hl, ao', c', he, hnone, hc⟩ := h
  cases he
  cases ao with
  | none =>
    have h0 : l = [] := List.eq_nil_of_length_eq_zero (hnone rfl)
    subst h0
    rw [run_convert_bytes_string w 27 9 5 none _ _ Try.underlying27 Try.underlying5 Try.underlying9]; rfl
  | some a =>
    exact run_convert_bytes_back (P := Try.prog) w 27 9 5 a c l Try.underlying27 Try.underlying5 Try.underlying9 (fun j hj => hc a rfl j _ (by simp [bcells, List.getElem?_eq_getElem hj]))

abbrev kA : ByteArray := { data := #[97] }
abbrev kB : ByteArray := { data := #[98] }
abbrev kC : ByteArray := { data := #[99] }
theorem put1 : putP 5 [] kA [1, 2, 3] = [(kA, [1, 2, 3])] := by decide +kernel
theorem put2 : putP 5 [(kA, [1, 2, 3])] kB [4, 5] = [(kA, [1, 2, 3]), (kB, [4, 5])] := by decide +kernel
theorem oth3 : othP [(kA, [1, 2, 3]), (kB, [4, 5])] kA ++ [(kA, [1, 2, 3])] = [(kB, [4, 5]), (kA, [1, 2, 3])] := by decide +kernel
theorem put4 : putP 5 [(kB, [4, 5]), (kA, [1, 2, 3])] kC [6] = [(kA, [1, 2, 3]), (kC, [6])] := by decide +kernel
theorem put5 : putP 5 [(kA, [1, 2, 3]), (kC, [6])] kA [0, 0, 0, 0, 0, 0] = [(kC, [6])] := by decide +kernel
theorem keys4 : keysP [(kA, [1, 2, 3]), (kC, [6])] = [kA, kC] := by decide +kernel
theorem clamp5 : clamp 5 = 5 := by decide

set_option maxRecDepth 100000 in
set_option maxHeartbeats 4000000 in
theorem awake_any (w : World) : Calls Try.prog 21 #[] w fun e w' => e = .returned (.bool true) ∧ Kept NoB w w' := by
  have hmk : ∀ w, (Instr.makeSlice 27 (.int .i64 6) (.int .i64 6)).run Try.prog w = .ok (.slice (some ⟨w.heap.size, 0, none⟩) 6 6) (w.alloc (.cells #[.int .u8 0, .int .u8 0, .int .u8 0, .int .u8 0, .int .u8 0, .int .u8 0] 5)) := fun _ => by kernel_rfl
  go_enter Try.func21, Try.ntmps21
  go_wp2_with (go_at_call 8; refine (hs_new (w := w) (R := fun _ => False) 5 (Kept.refl _ _) (fun _ h => h.elim)).mono ?_; rintro e w1 ⟨rfl, s1, k1⟩; rw [clamp5] at s1; generalize w.heap.size = bh at s1; have S1 := Lib.hid s1; clear s1 k1)
  have P1 := hs_put_lit S1.out kA [1, 2, 3] #[.int .u8 1, .int .u8 2, .int .u8 3] rfl 3 rfl (by decide) (by decide)
  rw [put1, show decide (((3 : Nat) : Int) ≤ 5) = true by decide] at P1
  have HP1 := Lib.hid P1
  clear P1
  go_wp2_with (go_at_call 14; with_reducible refine HP1.out.mono ?_; rintro e w2 ⟨rfl, s2, _⟩; have S2 := Lib.hid s2; clear s2)
  have P2 := hs_put_lit S2.out kB [4, 5] #[.int .u8 4, .int .u8 5] rfl 2 rfl (by decide) (by decide)
  rw [put2, show decide (((2 : Nat) : Int) ≤ 5) = true by decide] at P2
  have HP2 := Lib.hid P2
  clear P2
  go_wp2_with (go_at_call 14; with_reducible refine HP2.out.mono ?_; rintro e w3 ⟨rfl, s3, _⟩; have S3 := Lib.hid s3; clear s3)
  have HP3 : Hid (Calls Try.prog 10 #[.pointer (some ⟨bh, 0, none⟩), .string kA] w3 fun e w' => ∃ ao, e = .returned (.tuple #[.slice ao 3 3, .bool true]) ∧ Row w' 5 1 (.slice ao 3 3) 3 3 (bcells [1, 2, 3]) ∧ HS w w' bh 5 [(kB, [4, 5]), (kA, [1, 2, 3])] (fun k => (Value.slice ao 3 3).ownBlock = some k)) :=
    Lib.hid ((hs_get_yes S3.out kA [1, 2, 3] (by decide) (by simp)).mono fun _ _ ⟨ao, he, hr, hs, _, _⟩ => ⟨ao, he, hr, (oth3 ▸ hs).free (fun _ h => .inr h)⟩)
  go_wp2_with (go_at_call 10; with_reducible refine HP3.out.mono ?_; rintro e w4 ⟨ao4, rfl, r4, s4⟩; have R4 := Lib.hid r4; have S4 := Lib.hid s4; clear s4 r4)
  have P4 := hs_put_lit S4.out kC [6] #[.int .u8 6] rfl 1 rfl (by decide) (by decide)
  rw [put4, show decide (((1 : Nat) : Int) ≤ 5) = true by decide] at P4
  have HP4 := Lib.hid P4
  clear P4
  go_wp2_with (go_at_call 14; with_reducible refine HP4.out.mono ?_; rintro e w5 ⟨rfl, s5, k5⟩; have S5 := Lib.hid s5; have R5 := Lib.hid (Row.kept R4.out k5 (fun k hk hn => absurd hk hn)); clear s5 k5)
  have HP5 : Hid (Calls Try.prog 19 #[.pointer (some ⟨bh, 0, none⟩)] w5 fun e w' => ∃ ao, e = .returned (.slice ao 2 2) ∧ Row w' 9 1 (.slice ao 2 2) 2 2 (kcells [kA, kC]) ∧ Kept NoB w5 w') :=
    Lib.hid ((hs_keys S5.out (by decide)).mono fun _ _ ⟨v, he, f⟩ => by rw [keys4] at f; obtain ⟨⟨ao, rfl⟩, h1, h2, _⟩ := f; exact ⟨ao, he, h1, h2⟩)
  go_wp2_with (go_at_call 19; with_reducible refine HP5.out.mono ?_; rintro e w6 ⟨ao6, rfl, f6, k6⟩; have F6 := Lib.hid f6; have K6 := Lib.hid k6; clear f6 k6; have R6 := Lib.hid (Row.kept R5.out K6.out (fun _ _ h => h)); have hc1 := conv_src (l := [1, 2, 3]) R6.out.src; have hc2 := conv_src (l := [1, 2, 3]) (Row.laid w6 5 1 3 #[.int .u8 1, .int .u8 2, .int .u8 3] rfl (by decide) _ rfl).src)
  have S6 := Lib.hid (S5.out.calm K6.out)
  have hk8 : Kept NoB w6 ((w6.alloc (.cells #[.int .u8 1, .int .u8 2, .int .u8 3] 5)).alloc (.cells #[.string kA, .string kC] 9)) := ((Kept.refl _ _).alloc _).alloc _
  have HK8 := Lib.hid hk8
  have HSM := Lib.hid (same_self (.slice ao6 2 2) (.slice (some ⟨w6.heap.size + 1, 0, none⟩) 2 2) 2 2 [kA, kC] ((w6.alloc (.cells #[.int .u8 1, .int .u8 2, .int .u8 3] 5)).alloc (.cells #[.string kA, .string kC] 9)) (Row.kept F6.out hk8 (fun _ _ h => h)) (Row.laid (w6.alloc (.cells #[.int .u8 1, .int .u8 2, .int .u8 3] 5)) 9 1 2 #[.string kA, .string kC] rfl (by decide) _ (by simp)) (by decide))
  clear hk8
  go_wp2_with (go_at_call 18; with_reducible refine HSM.out.mono ?_; rintro e w7 ⟨rfl, k7⟩; have S7 := Lib.hid (S6.out.calm (HK8.out.then k7)); clear k7)
  have HP7 : Hid (Calls Try.prog 16 #[.pointer (some ⟨bh, 0, none⟩)] w7 fun e w' => e = .returned (.int .i64 4) ∧ Kept NoB w7 w') := Lib.hid (hs_used S7.out (by decide))
  go_wp2_with (go_at_call 16; with_reducible refine HP7.out.mono ?_; rintro e w8 ⟨rfl, k8⟩; have S8 := Lib.hid (S7.out.calm k8); clear k8)
  have P8 := hs_put_lit S8.out kA [0, 0, 0, 0, 0, 0] #[.int .u8 0, .int .u8 0, .int .u8 0, .int .u8 0, .int .u8 0, .int .u8 0] rfl 6 rfl (by decide) (by decide)
  rw [put5, show decide (((6 : Nat) : Int) ≤ 5) = false by decide] at P8
  have HP8 := Lib.hid P8
  clear P8
  go_wp2_with (go_at_call 14; with_reducible refine HP8.out.mono ?_; rintro e w9 ⟨rfl, s9, _⟩; have S9 := Lib.hid s9; clear s9)
  have HP9 : Hid (Calls Try.prog 19 #[.pointer (some ⟨bh, 0, none⟩)] w9 fun e w' => ∃ ao, e = .returned (.slice ao 1 1) ∧ Kept NoB w9 w') :=
    Lib.hid ((hs_keys S9.out (by decide)).mono fun _ _ ⟨v, he, f⟩ => by obtain ⟨⟨ao, rfl⟩, h1, h2, _⟩ := f; exact ⟨ao, he, h2⟩)
  go_wp2_with (go_at_call 19; with_reducible refine HP9.out.mono ?_; rintro e wa ⟨aoa, rfl, ka⟩; have SA := Lib.hid (S9.out.calm ka); clear ka)
  go_ret
  exact ⟨rfl, SA.out.old⟩
end Go.Proofs.Ytlnhdfdalfoocaa
