/- The walks of the seven laws of layer 1: each returns true at every input and leaves the world alone. -/
import Derived.Test.YtejlbembcaiajaaGfWalk
namespace Go.Proofs.Ytejlbembcaiajaa
open Go.RowKit

theorem byte_nat (x : Int) (h : (Lit.int .u8 x).wf = true) : ∃ n : Nat, x = (n : Int) ∧ n < 256 := by
  have hb : 0 ≤ x ∧ x ≤ 255 := by
    simp [Lit.wf, IntKind.min, IntKind.max, IntKind.signed, IntKind.bits] at h; omega
  exact ⟨x.toNat, by omega, by omega⟩
theorem word_nat (x : Int) (h : (Lit.int .u16 x).wf = true) : ∃ n : Nat, x = (n : Int) ∧ n < 65536 := by
  have hb : 0 ≤ x ∧ x ≤ 65535 := by
    simp [Lit.wf, IntKind.min, IntKind.max, IntKind.signed, IntKind.bits] at h; omega
  exact ⟨x.toNat, by omega, by omega⟩
theorem int_bd (x : Int) (h : (Lit.int .i64 x).wf = true) : -9223372036854775808 ≤ x ∧ x ≤ 9223372036854775807 := by
  simp [Lit.wf, IntKind.min, IntKind.max, IntKind.signed, IntKind.bits] at h; omega

set_option maxHeartbeats 400000 in
theorem muls_any (a b : Nat) (ha : a < 256) (hb : b < 256) (w : World) :
    Calls Try.prog 3 #[.int .u8 a, .int .u8 b] w fun e w' => e = .returned (.bool true) ∧ w = w' := by
  go_enter Try.func3, Try.ntmps3
  go_wp2_with fail
  refine (awake_any _).mono ?_; rintro e w' ⟨rfl, rfl⟩
  go_wp2_with fail
  refine (mul_any _ _ ha hb _).mono ?_; rintro e w' ⟨rfl, rfl⟩
  go_wp2_with fail
  refine (rmul_any _ _ ha hb _).mono ?_; rintro e w' ⟨rfl, rfl⟩
  go_wp2_with fail
  go_ret
  exact ⟨rfl, rfl⟩

set_option maxHeartbeats 400000 in
theorem pows_neg (a : Nat) (n : Int) (hn : n ≤ 0) (w : World) :
    Calls Try.prog 4 #[.int .u8 a, .int .i64 n] w fun e w' => e = .returned (.bool true) ∧ w = w' := by
  go_enter Try.func4, Try.ntmps4
  go_wp2_with fail
  refine (awake_any _).mono ?_; rintro e w' ⟨rfl, rfl⟩
  go_wp2_with fail
  refine (pow_neg _ _ hn _).mono ?_; rintro e w' ⟨rfl, rfl⟩
  go_wp2_with fail
  refine (rpow_nonpos _ _ hn _).mono ?_; rintro e w' ⟨rfl, rfl⟩
  go_wp2_with fail
  go_ret
  exact ⟨rfl, rfl⟩
set_option maxHeartbeats 400000 in
theorem pows_pos (a n : Nat) (ha : a < 256) (h0 : 0 < n) (hn : n < 9223372036854775808) (w : World) :
    Calls Try.prog 4 #[.int .u8 a, .int .i64 n] w fun e w' => e = .returned (.bool true) ∧ w = w' := by
  go_enter Try.func4, Try.ntmps4
  go_wp2_with fail
  refine (awake_any _).mono ?_; rintro e w' ⟨rfl, rfl⟩
  go_wp2_with fail
  refine (pow_any _ _ ha hn _).mono ?_; rintro e w' ⟨rfl, rfl⟩
  go_wp2_with fail
  refine (rpow_any _ _ ha h0 hn _).mono ?_; rintro e w' ⟨rfl, rfl⟩
  go_wp2_with fail
  go_ret
  exact ⟨rfl, rfl⟩

set_option maxHeartbeats 400000 in
theorem divs_none (a : Nat) (w : World) :
    Calls Try.prog 5 #[.int .u8 a, .int .u8 0] w fun e w' => e = .returned (.bool true) ∧ w = w' := by
  go_enter Try.func5, Try.ntmps5
  go_wp2_with fail
  refine (div_none _ _).mono ?_; rintro e w' ⟨rfl, rfl⟩
  go_wp2_with fail
  refine (rdiv_none _ _).mono ?_; rintro e w' ⟨rfl, rfl⟩
  go_wp2_with fail
  refine (awake_any _).mono ?_; rintro e w' ⟨rfl, rfl⟩
  go_wp2_with fail
  go_ret
  exact ⟨rfl, rfl⟩
set_option maxHeartbeats 400000 in
theorem divs_any (a b : Nat) (ha : a < 256) (hb : b < 256) (h0 : b ≠ 0) (w : World) :
    Calls Try.prog 5 #[.int .u8 a, .int .u8 b] w fun e w' => e = .returned (.bool true) ∧ w = w' := by
  go_enter Try.func5, Try.ntmps5
  go_wp2_with fail
  refine (div_any _ _ ha hb h0 _).mono ?_; rintro e w' ⟨rfl, rfl⟩
  go_wp2_with fail
  refine (rdiv_any _ _ ha hb h0 _).mono ?_; rintro e w' ⟨rfl, rfl⟩
  go_wp2_with fail
  refine (awake_any _).mono ?_; rintro e w' ⟨rfl, rfl⟩
  go_wp2_with fail
  go_ret
  exact ⟨rfl, rfl⟩

theorem u8_xor_cast (a b : Nat) (ha : a < 256) (hb : b < 256) : bits .xor .u8 (a : Int) (b : Int) = ((a ^^^ b : Nat) : Int) := u8_xor_nat a b ha hb

set_option maxHeartbeats 400000 in
theorem field_any (a b c : Nat) (ha : a < 256) (hb : b < 256) (hc : c < 256) (w : World) :
    Calls Try.prog 6 #[.int .u8 a, .int .u8 b, .int .u8 c] w fun e w' => e = .returned (.bool true) ∧ w = w' := by
  have H1 : ((((Gf.mul a b : Nat) : Int) != ((Gf.mul b a : Nat) : Int)) = false) := by rw [Gf.mul_comm a b ha hb]; simp
  have H2 : ((((Gf.mul a (Gf.mul b c) : Nat) : Int) != ((Gf.mul (Gf.mul a b) c : Nat) : Int)) = false) := by rw [Gf.mul_assoc a b c ha hb hc]; simp
  have hx : bits .xor .u8 (b : Int) (c : Int) = ((b ^^^ c : Nat) : Int) := u8_xor_nat b c hb hc
  have hbc := Gf.xor_lt b c hb hc
  have hab := Gf.mul_lt a b ha
  have hmbc := Gf.mul_lt b c hb
  have hac := Gf.mul_lt a c ha
  have hx2 : bits .xor .u8 ((Gf.mul a b : Nat) : Int) ((Gf.mul a c : Nat) : Int) = ((Gf.mul a (b ^^^ c) : Nat) : Int) := by
    rw [u8_xor_nat _ _ hab hac]; exact congrArg Int.ofNat (Gf.mo_right a b c 8).symm
  have h1 : Gf.mul a 1 = a := Gf.mul_one a ha
  have h0 : Gf.mul a 0 = 0 := Gf.mul_zero a
  have X1 := Lib.hid h1
  have X0 := Lib.hid h0
  clear h1 h0
  go_enter Try.func6, Try.ntmps6
  go_wp2_with fail
  refine (mul_any _ _ ha hb _).mono ?_; rintro e w' ⟨rfl, rfl⟩
  go_wp2_with fail
  refine (mul_any _ _ hb ha _).mono ?_; rintro e w' ⟨rfl, rfl⟩
  go_wp2_with fail
  refine (mul_any _ _ hb hc _).mono ?_; rintro e w' ⟨rfl, rfl⟩
  go_wp2_with fail
  refine (mul_any _ _ ha hmbc _).mono ?_; rintro e w' ⟨rfl, rfl⟩
  go_wp2_with fail
  refine (mul_any _ _ ha hb _).mono ?_; rintro e w' ⟨rfl, rfl⟩
  go_wp2_with fail
  refine (mul_any _ _ hab hc _).mono ?_; rintro e w' ⟨rfl, rfl⟩
  go_wp2_with fail
  refine (awake_any _).mono ?_; rintro e w' ⟨rfl, rfl⟩
  go_wp2_with fail
  refine (mul_any _ _ ha hbc _).mono ?_; rintro e w' ⟨rfl, rfl⟩
  go_wp2_with fail
  refine (mul_any _ _ ha hb _).mono ?_; rintro e w' ⟨rfl, rfl⟩
  go_wp2_with fail
  refine (mul_any _ _ ha hc _).mono ?_; rintro e w' ⟨rfl, rfl⟩
  go_wp2_with fail
  refine (mul_any a 1 ha (by decide) _).mono ?_; rintro e w' ⟨rfl, rfl⟩
  rw [X1.out]
  go_wp2_with fail
  refine (mul_any a 0 ha (by decide) _).mono ?_; rintro e w' ⟨rfl, rfl⟩
  rw [X0.out]
  go_wp2_with fail
  go_ret
  exact ⟨rfl, rfl⟩

set_option maxHeartbeats 400000 in
theorem back_none (a : Nat) (ha : a < 256) (w : World) :
    Calls Try.prog 7 #[.int .u8 a, .int .u8 0] w fun e w' => e = .returned (.bool true) ∧ w = w' := by
  have X0 := Lib.hid (Gf.mul_zero a)
  by_cases h : a = 0
  · have hz : ((a : Int) == 0) = true := by simp [h]
    clear h
    go_enter Try.func7, Try.ntmps7
    go_wp2_with fail
    refine (mul_any a 0 ha (by decide) _).mono ?_; rintro e w' ⟨rfl, rfl⟩
    rw [X0.out]
    go_wp2_with fail
    refine (div_none 0 _).mono ?_; rintro e w' ⟨rfl, rfl⟩
    go_wp2_with fail
    refine (awake_any _).mono ?_; rintro e w' ⟨rfl, rfl⟩
    go_wp2_with fail
    go_ret
    exact ⟨rfl, rfl⟩
  · have hz : ((a : Int) == 0) = false := by simp [h]
    clear h
    go_enter Try.func7, Try.ntmps7
    go_wp2_with fail
    refine (mul_any a 0 ha (by decide) _).mono ?_; rintro e w' ⟨rfl, rfl⟩
    rw [X0.out]
    go_wp2_with fail
    refine (div_none 0 _).mono ?_; rintro e w' ⟨rfl, rfl⟩
    go_wp2_with fail
    refine (awake_any _).mono ?_; rintro e w' ⟨rfl, rfl⟩
    go_wp2_with fail
    go_ret
    exact ⟨rfl, rfl⟩
set_option maxHeartbeats 400000 in
theorem back_any (a b : Nat) (ha : a < 256) (hb : b < 256) (h0 : b ≠ 0) (w : World) :
    Calls Try.prog 7 #[.int .u8 a, .int .u8 b] w fun e w' => e = .returned (.bool true) ∧ w = w' := by
  have hp := Gf.mul_lt a b ha
  have hiff := Gf.mul_eq_zero a b ha hb
  have XD := Lib.hid (Gf.mul_div a b ha hb h0)
  have hzb : ((b : Int) == 0) = false := by simp; omega
  have hzb' : ((b : Int) != 0) = true := by simp; omega
  by_cases h : a = 0
  · have hm : (((Gf.mul a b : Nat) : Int) == 0) = true := by simp; exact hiff.2 (.inl h)
    have hz : ((a : Int) == 0) = true := by simp [h]
    clear hiff h
    go_enter Try.func7, Try.ntmps7
    go_wp2_with fail
    refine (mul_any a b ha hb _).mono ?_; rintro e w' ⟨rfl, rfl⟩
    go_wp2_with fail
    refine (div_any _ b hp hb h0 _).mono ?_; rintro e w' ⟨rfl, rfl⟩
    rw [XD.out]
    go_wp2_with fail
    refine (awake_any _).mono ?_; rintro e w' ⟨rfl, rfl⟩
    go_wp2_with fail
    go_ret
    exact ⟨rfl, rfl⟩
  · have hm : (((Gf.mul a b : Nat) : Int) == 0) = false := by
      simp; intro e; rcases hiff.1 e with e | e
      · exact h e
      · exact h0 e
    have hz : ((a : Int) == 0) = false := by simp [h]
    clear hiff h
    go_enter Try.func7, Try.ntmps7
    go_wp2_with fail
    refine (mul_any a b ha hb _).mono ?_; rintro e w' ⟨rfl, rfl⟩
    go_wp2_with fail
    refine (div_any _ b hp hb h0 _).mono ?_; rintro e w' ⟨rfl, rfl⟩
    rw [XD.out]
    go_wp2_with fail
    refine (awake_any _).mono ?_; rintro e w' ⟨rfl, rfl⟩
    go_wp2_with fail
    go_ret
    exact ⟨rfl, rfl⟩

theorem pow_two (a : Nat) (ha : a < 256) : Gf.pow a 2 = Gf.mul a a := by show Gf.mul (Gf.mul 1 a) a = _; rw [Gf.one_mul a ha]
theorem sq_add (a b : Nat) (ha : a < 256) (hb : b < 256) : Gf.pow (a ^^^ b) 2 = Gf.pow a 2 ^^^ Gf.pow b 2 := by
  have hab := Gf.xor_lt a b ha hb
  rw [pow_two _ hab, pow_two a ha, pow_two b hb]
  have e1 : Gf.mul (a ^^^ b) (a ^^^ b) = Gf.mul a (a ^^^ b) ^^^ Gf.mul b (a ^^^ b) := Gf.mo_left a b _ ha hb 8
  have e2 : Gf.mul a (a ^^^ b) = Gf.mul a a ^^^ Gf.mul a b := Gf.mo_right a a b 8
  have e3 : Gf.mul b (a ^^^ b) = Gf.mul b a ^^^ Gf.mul b b := Gf.mo_right b a b 8
  rw [e1, e2, e3, Gf.mul_comm b a hb ha, Nat.xor_assoc, ← Nat.xor_assoc (Gf.mul a b), Nat.xor_self, Nat.zero_xor]
set_option maxHeartbeats 400000 in
theorem adds_any (a b m n : Nat) (ha : a < 256) (hb : b < 256) (hm : m < 65536) (hn : n < 65536) (w : World) :
    Calls Try.prog 8 #[.int .u8 a, .int .u8 b, .int .u16 m, .int .u16 n] w fun e w' => e = .returned (.bool true) ∧ w = w' := by
  have hx : bits .xor .u8 (a : Int) (b : Int) = ((a ^^^ b : Nat) : Int) := u8_xor_nat a b ha hb
  have hab := Gf.xor_lt a b ha hb
  have hx2 : bits .xor .u8 ((Gf.pow a 2 : Nat) : Int) ((Gf.pow b 2 : Nat) : Int) = ((Gf.pow (a ^^^ b) 2 : Nat) : Int) := by
    rw [u8_xor_nat _ _ (Gf.pow_lt a 2) (Gf.pow_lt b 2), sq_add a b ha hb]
  have XA := Lib.hid (Gf.pow_add a ha m n)
  have hpm := Gf.pow_lt a m
  have hpn := Gf.pow_lt a n
  go_enter Try.func8, Try.ntmps8
  go_wp2_with fail
  refine (pow_any _ 2 hab (by decide) _).mono ?_; rintro e w' ⟨rfl, rfl⟩
  go_wp2_with fail
  refine (pow_any _ 2 ha (by decide) _).mono ?_; rintro e w' ⟨rfl, rfl⟩
  go_wp2_with fail
  refine (pow_any _ 2 hb (by decide) _).mono ?_; rintro e w' ⟨rfl, rfl⟩
  go_wp2_with fail
  refine (awake_any _).mono ?_; rintro e w' ⟨rfl, rfl⟩
  go_wp2_with fail
  refine (pow_any a (m + n) ha (by omega) _).mono ?_; rintro e w' ⟨rfl, rfl⟩
  rw [XA.out]
  go_wp2_with fail
  refine (pow_any a m ha (by omega) _).mono ?_; rintro e w' ⟨rfl, rfl⟩
  go_wp2_with fail
  refine (pow_any a n ha (by omega) _).mono ?_; rintro e w' ⟨rfl, rfl⟩
  go_wp2_with fail
  refine (mul_any _ _ hpm hpn _).mono ?_; rintro e w' ⟨rfl, rfl⟩
  go_wp2_with fail
  go_ret
  exact ⟨rfl, rfl⟩

set_option maxHeartbeats 400000 in
theorem round_any (n : Nat) (hn : n < 65536) (w : World) :
    Calls Try.prog 9 #[.int .u16 n] w fun e w' => e = .returned (.bool true) ∧ w = w' := by
  have hr := Gf.round2 n
  by_cases h : n % 255 = 0
  · have h1 : ((((Gf.pow 2 n : Nat) : Int) == 1) = true) := by simp; have := hr.2 h; omega
    have h2 : ((((n : Int) % 255) == 0) = true) := by simp; omega
    clear hr h
    go_enter Try.func9, Try.ntmps9
    go_wp2_with fail
    refine (awake_any _).mono ?_; rintro e w' ⟨rfl, rfl⟩
    go_wp2_with fail
    refine (pow_any 2 n (by decide) (by omega) _).mono ?_; rintro e w' ⟨rfl, rfl⟩
    go_wp2_with fail
    go_ret
    exact ⟨rfl, rfl⟩
  · have h1 : ((((Gf.pow 2 n : Nat) : Int) == 1) = false) := by
      simp; intro e; exact h (hr.1 (by omega))
    have h2 : ((((n : Int) % 255) == 0) = false) := by simp; omega
    clear hr h
    go_enter Try.func9, Try.ntmps9
    go_wp2_with fail
    refine (awake_any _).mono ?_; rintro e w' ⟨rfl, rfl⟩
    go_wp2_with fail
    refine (pow_any 2 n (by decide) (by omega) _).mono ?_; rintro e w' ⟨rfl, rfl⟩
    go_wp2_with fail
    go_ret
    exact ⟨rfl, rfl⟩
end Go.Proofs.Ytejlbembcaiajaa
