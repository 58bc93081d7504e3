/- The walks of the functions of the package gf and of its reference: each contract says what the Go text reckons, in natural numbers. -/
import Derived.Test.YtejlbembcaiajaaProg
import Derived.Test.YtejlbembcaiajaaGf
import Derived.WalkKit
import Derived.WalkSpells
import Derived.WalkLawsBesides
import Derived.Laws.BitsAllLaws
import Derived.Lib.Hide
namespace Go.Proofs.Ytejlbembcaiajaa
open Go.RowKit

theorem i64_xor_nat (a b : Nat) (ha : a < 2 ^ 62) (hb : b < 2 ^ 62) : bits .xor .i64 (a : Int) (b : Int) = ((a ^^^ b : Nat) : Int) := by
  have hx : a ^^^ b < 2 ^ 62 := Nat.xor_lt_two_pow ha hb
  show IntKind.i64.wrap ((BitVec.ofInt 64 (a : Int) ^^^ BitVec.ofInt 64 (b : Int)).toNat : Int) = _
  rw [BitVec.toNat_xor, BitVec.ofInt_natCast, BitVec.ofInt_natCast, BitVec.toNat_ofNat, BitVec.toNat_ofNat, Nat.mod_eq_of_lt (by omega), Nat.mod_eq_of_lt (by omega)]
  rw [IntKind.wrap_i64]
  omega
theorem i64_and1 (x : Nat) (hx : x < 2 ^ 63) : bits .and .i64 (x : Int) 1 = ((x % 2 : Nat) : Int) := by
  have h := bits_mask .i64 63 (by decide) (fun n h0 h1 => by rw [IntKind.wrap_i64]; omega) 1 (by decide) (x : Int) (by omega) (by omega)
  simpa using h
theorem u8_and1 (x : Nat) (hx : x < 256) : bits .and .u8 (x : Int) 1 = ((x % 2 : Nat) : Int) := by
  have h := bits_mask .u8 8 (by decide) wraps_u8 1 (by decide) (x : Int) (by omega) (by omega)
  simpa using h
theorem div_pow (b k : Nat) : ((b : Int) / 2 ^ k) = ((b >>> k : Nat) : Int) := by
  rw [Nat.shiftRight_eq_div_pow]; simp
theorem shr_lt (b k n : Nat) (hb : b < n) : b >>> k < n := by
  rw [Nat.shiftRight_eq_div_pow]; exact Nat.lt_of_le_of_lt (Nat.div_le_self _ _) hb

/-- bit k of a byte, as the walk spells it -/
theorem bit_u8 (b k : Nat) (hb : b < 256) : bits .and .u8 ((b : Int) / 2 ^ k) 1 = (((b >>> k) % 2 : Nat) : Int) := by
  rw [div_pow, u8_and1 _ (shr_lt b k 256 hb)]
theorem bit_i64 (b k : Nat) (hb : b < 2 ^ 63) : bits .and .i64 ((b : Int) / 2 ^ k) 1 = (((b >>> k) % 2 : Nat) : Int) := by
  rw [div_pow, i64_and1 _ (shr_lt b k _ hb)]
theorem bit_yes {x : Int} {n : Nat} (h : x = ((n % 2 : Nat) : Int)) (ht : (x == 1) = true) : n % 2 = 1 := by
  simp at ht; omega
theorem bit_no {x : Int} {n : Nat} (h : x = ((n % 2 : Nat) : Int)) (ht : (x == 1) = false) : ¬ n % 2 = 1 := by
  simp at ht; omega

theorem mo_yes (a b k : Nat) (ha : a < 256) (hb : b < 256) (h : (bits .and .u8 ((b : Int) / 2 ^ k) 1 == 1) = true) :
    bits .xor .i64 (Gf.mo a b k : Nat) (Gf.mx a k : Nat) = ((Gf.mo a b (k + 1) : Nat) : Int) := by
  have h1 := Gf.mo_lt a b ha k
  have h2 := Gf.mx_lt a ha k
  rw [i64_xor_nat _ _ (by omega) (by omega)]
  rw [Gf.mo, if_pos (bit_yes (bit_u8 b k hb) h)]
theorem mo_no (a b k : Nat) (hb : b < 256) (h : (bits .and .u8 ((b : Int) / 2 ^ k) 1 == 1) = false) :
    ((Gf.mo a b k : Nat) : Int) = ((Gf.mo a b (k + 1) : Nat) : Int) := by
  rw [Gf.mo, if_neg (bit_no (bit_u8 b k hb) h)]
theorem mx_yes (a k : Nat) (ha : a < 256) (h : 255 < ((Gf.mx a k : Nat) : Int) * 2) : bits .xor .i64 (((Gf.mx a k : Nat) : Int) * 2) 285 = ((Gf.mx a (k + 1) : Nat) : Int) := by
  have h2 := Gf.mx_lt a ha k
  have e : ((Gf.mx a k : Nat) : Int) * 2 = ((2 * Gf.mx a k : Nat) : Int) := by omega
  have e2 : bits .xor .i64 ((2 * Gf.mx a k : Nat) : Int) 285 = ((2 * Gf.mx a k ^^^ 285 : Nat) : Int) := i64_xor_nat _ 285 (by omega) (by omega)
  rw [e, e2, Gf.mx, Gf.xt, if_pos (by omega)]
theorem mx_no (a k : Nat) (h : ((Gf.mx a k : Nat) : Int) * 2 ≤ 255) : ((Gf.mx a k : Nat) : Int) * 2 = ((Gf.mx a (k + 1) : Nat) : Int) := by
  rw [Gf.mx, Gf.xt, if_neg (by omega)]; omega
theorem int_eq_of {k : IntKind} {a b : Int} (h : a = b) : Value.int k a = Value.int k b := by rw [h]
theorem ret_int {k : IntKind} {a b : Int} (h : a = b) : Ending.returned (.int k a) = .returned (.int k b) := by rw [h]

set_option maxHeartbeats 400000 in
theorem mul_any (a b : Nat) (ha : a < 256) (hb : b < 256) (w : World) :
    Calls Try.prog 11 #[.int .u8 a, .int .u8 b] w fun e w' => e = .returned (.int .u8 (Gf.mul a b)) ∧ w = w' := by
  go_enter Try.func11, Try.ntmps11
  go_wp2
  go_loop [5, 6, 10] (fun o x n => ∃ k : Nat, k ≤ 8 ∧ n = .int .i64 k ∧ o = .int .i64 (Gf.mo a b k) ∧ x = .int .i64 (Gf.mx a k)) (fun _ _ n => 8 - (intOf n).toNat)
  case atStart => exact ⟨0, by omega, rfl, rfl, rfl⟩
  case round =>
    obtain ⟨k, hk, rfl, rfl, rfl⟩ := hrel
    have hmx := Gf.mx_lt a ha k
    have hmo := Gf.mo_lt a b ha k
    go_wp2
    · go_round
      case rel => exact ⟨k + 1, by omega, by go_num, int_eq_of (mo_yes a b k ha hb ‹_›), int_eq_of (mx_yes a k ha ‹_›)⟩
      case measure => simp [intOf]; omega
    · go_round
      case rel => exact ⟨k + 1, by omega, by go_num, int_eq_of (mo_yes a b k ha hb ‹_›), int_eq_of (mx_no a k ‹_›)⟩
      case measure => simp [intOf]; omega
    · go_round
      case rel => exact ⟨k + 1, by omega, by go_num, int_eq_of (mo_no a b k hb ‹_›), int_eq_of (mx_yes a k ha ‹_›)⟩
      case measure => simp [intOf]; omega
    · go_round
      case rel => exact ⟨k + 1, by omega, by go_num, int_eq_of (mo_no a b k hb ‹_›), int_eq_of (mx_no a k ‹_›)⟩
      case measure => simp [intOf]; omega
    · have hk8 : k = 8 := by omega
      go_ret
      subst hk8
      exact ⟨ret_int (by rw [Gf.mul]; first | done | omega), rfl⟩

theorem pow_bd (n : Nat) (h : n ≤ 14) : 2 ^ n < 32768 :=
  Nat.lt_of_le_of_lt (Nat.pow_le_pow_right (by decide) h) (by decide)
theorem xor_bd (a b : Nat) (ha : a < 32768) (hb : b < 32768) : a ^^^ b < 32768 := Nat.xor_lt_two_pow (n := 15) ha hb
theorem rin_lt (a b i p : Nat) (hi : i < 8) (hp : p < 32768) (l : Nat) (hl : l ≤ 8) : Gf.rin a b i p l < 32768 := by
  induction l with
  | zero => exact hp
  | succ l ih =>
    unfold Gf.rin
    split
    · exact xor_bd _ _ (ih (by omega)) (pow_bd _ (by omega))
    · exact ih (by omega)
theorem rout_lt (a b k : Nat) (hk : k ≤ 8) : Gf.rout a b k < 32768 := by
  induction k with
  | zero => show 0 < 32768; decide
  | succ k ih => exact rin_lt _ _ _ _ (by omega) (ih (by omega)) 8 (by decide)
theorem mod_bd (k : Nat) : 285 * 2 ^ (6 - k) < 32768 := by
  have : 2 ^ (6 - k) ≤ 2 ^ 6 := Nat.pow_le_pow_right (by decide) (by omega)
  omega
theorem rred_lt (p l : Nat) (hp : p < 32768) : Gf.rred p l < 32768 := by
  induction l with
  | zero => exact hp
  | succ l ih =>
    unfold Gf.rred
    split
    · exact xor_bd _ _ ih (mod_bd l)
    · exact ih
theorem wrap_pow (n : Nat) (h : n ≤ 14) : wrap64 (2 ^ n) = ((2 ^ n : Nat) : Int) := by
  have hb := pow_bd n h
  have e : (2 : Int) ^ n = ((2 ^ n : Nat) : Int) := by simp
  rw [e]
  generalize 2 ^ n = q at hb
  exact IntWalk.wrap64_in _ ⟨by omega, by omega⟩
theorem wrap_mod (l : Nat) : wrap64 (285 * 2 ^ (14 - l - 8)) = ((285 * 2 ^ (6 - l) : Nat) : Int) := by
  have hb := mod_bd l
  have e : (285 : Int) * 2 ^ (14 - l - 8) = ((285 * 2 ^ (6 - l) : Nat) : Int) := by
    rw [show 14 - l - 8 = 6 - l by omega]; simp
  rw [e]
  exact IntWalk.wrap64_in _ ⟨by omega, by omega⟩
theorem rin_yes (a b k p l : Nat) (ha : a < 256) (hb : b < 256) (hk : k < 8) (hl : l < 8) (hp : p < 32768) (h1 : bits .and .u8 ((a : Int) / 2 ^ k) 1 = 1) (h2 : (bits .and .u8 ((b : Int) / 2 ^ l) 1 == 1) = true) :
    bits .xor .i64 ((Gf.rin a b k p l : Nat) : Int) (wrap64 (2 ^ (k + l))) = ((Gf.rin a b k p (l + 1) : Nat) : Int) := by
  have hr := rin_lt a b k p hk hp l (by omega)
  have hq := pow_bd (k + l) (by omega)
  rw [wrap_pow _ (by omega), i64_xor_nat _ _ (by omega) (by omega), Gf.rin, if_pos ⟨bit_yes (bit_u8 a k ha) (by simp [h1]), bit_yes (bit_u8 b l hb) h2⟩]
theorem rin_no1 (a b k p l : Nat) (ha : a < 256) (h1 : ¬ bits .and .u8 ((a : Int) / 2 ^ k) 1 = 1) :
    ((Gf.rin a b k p l : Nat) : Int) = ((Gf.rin a b k p (l + 1) : Nat) : Int) := by
  rw [Gf.rin, if_neg (fun h => bit_no (bit_u8 a k ha) (by simp [h1]) h.1)]
theorem rin_no2 (a b k p l : Nat) (hb : b < 256) (h2 : (bits .and .u8 ((b : Int) / 2 ^ l) 1 == 1) = false) :
    ((Gf.rin a b k p l : Nat) : Int) = ((Gf.rin a b k p (l + 1) : Nat) : Int) := by
  rw [Gf.rin, if_neg (fun h => bit_no (bit_u8 b l hb) h2 h.2)]
theorem rred_yes (p l : Nat) (hp : p < 32768) (h : (bits .and .i64 (((Gf.rred p l : Nat) : Int) / 2 ^ (14 - l)) 1 == 1) = true) :
    bits .xor .i64 ((Gf.rred p l : Nat) : Int) (wrap64 (285 * 2 ^ (14 - l - 8))) = ((Gf.rred p (l + 1) : Nat) : Int) := by
  have hr := rred_lt p l hp
  have hq := mod_bd l
  rw [wrap_mod, i64_xor_nat _ _ (by omega) (by omega), Gf.rred, if_pos (bit_yes (bit_i64 _ _ (by omega)) h)]
theorem rred_no (p l : Nat) (hp : p < 32768) (h : (bits .and .i64 (((Gf.rred p l : Nat) : Int) / 2 ^ (14 - l)) 1 == 1) = false) :
    ((Gf.rred p l : Nat) : Int) = ((Gf.rred p (l + 1) : Nat) : Int) := by
  have hr := rred_lt p l hp
  rw [Gf.rred, if_neg (bit_no (bit_i64 _ _ (by omega)) h)]
theorem down1 (l : Nat) : Value.int .i64 ((14 : Int) - (l : Int) - 1) = .int .i64 ((14 : Int) - ((l + 1 : Nat) : Int)) := int_eq_of (by omega)

set_option maxHeartbeats 400000 in
theorem rmul_any (a b : Nat) (ha : a < 256) (hb : b < 256) (w : World) :
    Calls Try.prog 12 #[.int .u8 a, .int .u8 b] w fun e w' => e = .returned (.int .u8 (Gf.mul a b)) ∧ w = w' := by
  have HE := Lib.hid (Gf.rmul_eq a b ha hb)
  go_enter Try.func12, Try.ntmps12
  go_wp2
  go_loop [5, 6, 7] (fun p i _ => ∃ k : Nat, k ≤ 8 ∧ i = .int .i64 k ∧ p = .int .i64 (Gf.rout a b k)) (fun _ i _ => 8 - (intOf i).toNat)
  case atStart => exact ⟨0, by omega, rfl, rfl⟩
  case round =>
    obtain ⟨k, hk, rfl, rfl⟩ := hrel
    have hr := rout_lt a b k hk
    by_cases hk8 : k < 8
    · go_wp2
      go_loop [5, 7] (fun p j => ∃ l : Nat, l ≤ 8 ∧ j = .int .i64 l ∧ p = .int .i64 (Gf.rin a b k (Gf.rout a b k) l)) (fun _ j => 8 - (intOf j).toNat)
      case atStart => exact ⟨0, by omega, rfl, rfl⟩
      case round =>
        obtain ⟨l, hl, rfl, rfl⟩ := hrel
        go_wp2
        · go_round
          case rel => exact ⟨l + 1, by omega, by go_num, int_eq_of (rin_yes a b k _ l ha hb hk8 (by omega) hr ‹_› ‹_›)⟩
          case measure => simp [intOf]; omega
        · go_round
          case rel => exact ⟨l + 1, by omega, by go_num, int_eq_of (rin_no2 a b k _ l hb ‹_›)⟩
          case measure => simp [intOf]; omega
        · go_round
          case rel => exact ⟨l + 1, by omega, by go_num, int_eq_of (rin_no1 a b k _ l ha ‹_›)⟩
          case measure => simp [intOf]; omega
        · have hl8 : l = 8 := by omega
          go_round
          case rel => exact ⟨k + 1, by omega, by go_num, int_eq_of (by rw [hl8, Gf.rout])⟩
          case measure => simp [intOf]; omega
    · have hk8 : k = 8 := by omega
      subst hk8
      go_wp2
      go_loop [5, 8] (fun p i => ∃ l : Nat, l ≤ 7 ∧ i = .int .i64 ((14 : Int) - l) ∧ p = .int .i64 (Gf.rred (Gf.rout a b 8) l)) (fun _ i => (intOf i).toNat)
      case atStart => exact ⟨0, by omega, rfl, rfl⟩
      case round =>
        obtain ⟨l, hl, rfl, rfl⟩ := hrel
        go_wp2
        · go_round
          case rel => exact ⟨l + 1, by omega, down1 l, int_eq_of (rred_yes _ l hr ‹_›)⟩
          case measure => simp [intOf]; omega
        · go_round
          case rel => exact ⟨l + 1, by omega, down1 l, int_eq_of (rred_no _ l hr ‹_›)⟩
          case measure => simp [intOf]; omega
        · have hl7 : l = 7 := by omega
          go_ret
          subst hl7
          exact ⟨ret_int (by rw [← HE.out, Gf.rmul]; omega), rfl⟩

/-! Pow, and Div -/
theorem pow_step_yes (y m out : Nat) (hm : m < 2 ^ 63) (hy : y < 256) (ho : out < 256) (h : (bits .and .i64 (m : Int) 1 == 1) = true) :
    Gf.mul (Gf.mul out y) (Gf.pow (Gf.mul y y) (m / 2)) = Gf.mul out (Gf.pow y m) := by
  have h1 := bit_yes (i64_and1 m hm) h
  rw [Gf.pow_sq y hy, ← Gf.mul_assoc _ _ _ ho hy (Gf.pow_lt _ _)]
  have e : m = 1 + 2 * (m / 2) := by omega
  have : Gf.pow y m = Gf.mul (Gf.pow y 1) (Gf.pow y (2 * (m / 2))) := by rw [← Gf.pow_add y hy, ← e]
  rw [this, Gf.pow_one y hy]
theorem pow_step_no (y m out : Nat) (hm : m < 2 ^ 63) (hy : y < 256) (h : (bits .and .i64 (m : Int) 1 == 1) = false) :
    Gf.mul out (Gf.pow (Gf.mul y y) (m / 2)) = Gf.mul out (Gf.pow y m) := by
  have h1 := bit_no (i64_and1 m hm) h
  rw [Gf.pow_sq y hy, show 2 * (m / 2) = m by omega]
set_option maxHeartbeats 400000 in
theorem pow_any (a : Nat) (n : Nat) (ha : a < 256) (hn : n < 9223372036854775808) (w : World) :
    Calls Try.prog 13 #[.int .u8 a, .int .i64 n] w fun e w' => e = .returned (.int .u8 (Gf.pow a n)) ∧ w = w' := by
  go_enter Try.func13, Try.ntmps13
  go_wp2
  go_loop [0, 1, 5] (fun x k o => ∃ y m out : Nat, y < 256 ∧ m ≤ n ∧ out < 256 ∧ x = .int .u8 y ∧ k = .int .i64 m ∧ o = .int .u8 out ∧ Gf.mul out (Gf.pow y m) = Gf.pow a n) (fun _ k _ => (intOf k).toNat)
  case atStart => exact ⟨a, n, 1, ha, by omega, by omega, rfl, rfl, rfl, by rw [Gf.one_mul _ (Gf.pow_lt _ _)]⟩
  case round =>
    obtain ⟨y, m, out, hy, hm, ho, rfl, rfl, rfl, he⟩ := hrel
    have HE := Lib.hid he
    clear he
    go_wp2_with (first | (go_at_call 11; refine (mul_any _ _ (by assumption) (by assumption) _).mono ?_; rintro e w' ⟨rfl, rfl⟩))
    · go_round
      case rel => exact ⟨Gf.mul y y, m / 2, Gf.mul out y, Gf.mul_lt _ _ hy, by omega, Gf.mul_lt _ _ ho, rfl, int_eq_of (by omega), rfl, by rw [pow_step_yes y m out (by omega) hy ho ‹_›, HE.out]⟩
      case measure => simp [intOf]; omega
    · go_round
      case rel => exact ⟨Gf.mul y y, m / 2, out, Gf.mul_lt _ _ hy, by omega, ho, rfl, int_eq_of (by omega), rfl, by rw [pow_step_no y m out (by omega) hy ‹_›, HE.out]⟩
      case measure => simp [intOf]; omega
    · have hm0 : m = 0 := by omega
      go_ret
      exact ⟨ret_int (by rw [← HE.out, hm0]; show (out : Int) = ((Gf.mul out 1 : Nat) : Int); rw [Gf.mul_one _ ho]), rfl⟩
set_option maxHeartbeats 400000 in
theorem pow_neg (a : Nat) (n : Int) (hn : n ≤ 0) (w : World) :
    Calls Try.prog 13 #[.int .u8 a, .int .i64 n] w fun e w' => e = .returned (.int .u8 1) ∧ w = w' := by
  go_enter Try.func13, Try.ntmps13
  go_wp2
  refine wp_loop_rounds 1 ?_
  rw [rounds_succ]
  go_wp2
  go_ret
  exact ⟨rfl, rfl⟩
set_option maxHeartbeats 400000 in
theorem rpow_nonpos (a : Nat) (n : Int) (hn : n ≤ 0) (w : World) :
    Calls Try.prog 14 #[.int .u8 a, .int .i64 n] w fun e w' => e = .returned (.int .u8 1) ∧ w = w' := by
  go_enter Try.func14, Try.ntmps14
  go_wp2
  go_ret
  exact ⟨rfl, rfl⟩
set_option maxHeartbeats 400000 in
theorem rpow_any (a : Nat) (n : Nat) (ha : a < 256) (h0 : 0 < n) (hn : n < 9223372036854775808) (w : World) :
    Calls Try.prog 14 #[.int .u8 a, .int .i64 n] w fun e w' => e = .returned (.int .u8 (Gf.pow a n)) ∧ w = w' := by
  by_cases ha0 : a = 0
  · subst ha0
    have hz : Gf.pow 0 n = 0 := Gf.pow_zero_base n (by omega)
    rw [hz]
    clear hz
    go_enter Try.func14, Try.ntmps14
    go_wp2
    go_ret
    exact ⟨rfl, rfl⟩
  · have HP := Lib.hid (Gf.pow_mod a ha ha0 n)
    have hb : ((a : Int) == 0) = false := by simp; omega
    have hd : decide (n = 0) = false := by simp; omega
    go_enter Try.func14, Try.ntmps14
    go_wp2
    go_loop [5, 6] (fun o i => ∃ k : Nat, k ≤ n % 255 ∧ i = .int .i64 k ∧ o = .int .u8 (Gf.pow a k)) (fun _ i => n % 255 - (intOf i).toNat)
    case atStart => exact ⟨0, by omega, rfl, rfl⟩
    case round =>
      obtain ⟨k, hk, rfl, rfl⟩ := hrel
      have hpk := Gf.pow_lt a k
      go_wp2_with (first | (go_at_call 12; refine (rmul_any _ _ (by assumption) (by assumption) _).mono ?_; rintro e w' ⟨rfl, rfl⟩))
      · go_round
        case rel => exact ⟨k + 1, by omega, by go_num, rfl⟩
        case measure => simp [intOf]; omega
      · have hke : k = n % 255 := by omega
        go_ret
        exact ⟨ret_int (by rw [HP.out, hke]), rfl⟩

set_option maxHeartbeats 400000 in
theorem div_none (a : Nat) (w : World) :
    Calls Try.prog 15 #[.int .u8 a, .int .u8 0] w fun e w' => e = .returned (.tuple #[.int .u8 0, .bool false]) ∧ w = w' := by
  go_enter Try.func15, Try.ntmps15
  go_wp2
  go_ret2
  exact ⟨rfl, rfl⟩
set_option maxHeartbeats 400000 in
theorem div_any (a b : Nat) (ha : a < 256) (hb : b < 256) (h0 : b ≠ 0) (w : World) :
    Calls Try.prog 15 #[.int .u8 a, .int .u8 b] w fun e w' => e = .returned (.tuple #[.int .u8 (Gf.mul a (Gf.pow b 254)), .bool true]) ∧ w = w' := by
  have hp := Gf.pow_lt b 254
  have hz : ((b : Int) == 0) = false := by simp; omega
  go_enter Try.func15, Try.ntmps15
  go_wp2_with (first | (go_at_call 13; refine (pow_any b 254 hb (by decide) _).mono ?_; rintro e w' ⟨rfl, rfl⟩) | (go_at_call 11; refine (mul_any _ _ (by assumption) (by assumption) _).mono ?_; rintro e w' ⟨rfl, rfl⟩))
  go_ret2
  exact ⟨rfl, rfl⟩
set_option maxHeartbeats 400000 in
theorem rdiv_none (a : Nat) (w : World) :
    Calls Try.prog 16 #[.int .u8 a, .int .u8 0] w fun e w' => e = .returned (.tuple #[.int .u8 0, .bool false]) ∧ w = w' := by
  go_enter Try.func16, Try.ntmps16
  go_wp2
  go_ret2
  exact ⟨rfl, rfl⟩
set_option maxRecDepth 100000 in
set_option maxHeartbeats 400000 in
theorem rdiv_any (a b : Nat) (ha : a < 256) (hb : b < 256) (h0 : b ≠ 0) (w : World) :
    Calls Try.prog 16 #[.int .u8 a, .int .u8 b] w fun e w' => e = .returned (.tuple #[.int .u8 (Gf.mul a (Gf.pow b 254)), .bool true]) ∧ w = w' := by
  have hq := Gf.mul_lt a (Gf.pow b 254) ha
  have HQ := Lib.hid (fun x hx => Gf.quot_iff a b x ha hb hx h0)
  generalize Gf.mul a (Gf.pow b 254) = q at hq HQ
  have hz : ((b : Int) == 0) = false := by simp; omega
  go_enter Try.func16, Try.ntmps16
  go_wp2
  go_loop [6] (fun i => ∃ k : Nat, k ≤ q ∧ i = .int .i64 k) (fun i => q + 1 - (intOf i).toNat)
  case atStart => exact ⟨0, by omega, rfl⟩
  case round =>
    obtain ⟨k, hk, rfl⟩ := hrel
    have hk256 : k < 256 := by omega
    by_cases hkq : k = q
    · have HM := Lib.hid ((HQ.out k hk256).2 hkq)
      have ht : (((Gf.mul k b : Nat) : Int) == (a : Int)) = true := by rw [HM.out]; simp
      have HK := Lib.hid hkq
      clear hkq
      go_wp2_with (first | (go_at_call 12; refine (rmul_any _ _ (by assumption) (by assumption) _).mono ?_; rintro e w' ⟨rfl, rfl⟩))
      go_ret2
      exact ⟨by rw [HK.out]; rfl, rfl⟩
    · have hne : Gf.mul k b ≠ a := fun h => hkq ((HQ.out k hk256).1 h)
      have ht : (((Gf.mul k b : Nat) : Int) == (a : Int)) = false := by simp; omega
      have hlt : k < q := by omega
      clear hne hkq
      go_wp2_with (first | (go_at_call 12; refine (rmul_any _ _ (by assumption) (by assumption) _).mono ?_; rintro e w' ⟨rfl, rfl⟩))
      go_round
      case rel => exact ⟨k + 1, by omega, by go_num⟩
      case measure => simp [intOf]; omega

/-! what awake asks, at its own numbers -/
theorem m1 (w : World) : Calls Try.prog 11 #[.int .u8 128, .int .u8 2] w fun e w' => e = .returned (.int .u8 29) ∧ w = w' := by
  have p : ((Gf.mul 128 2 : Nat) : Int) = 29 := by decide +kernel
  have h := mul_any 128 2 (by decide) (by decide) w
  rw [p] at h; exact h
theorem m2 (w : World) : Calls Try.prog 11 #[.int .u8 255, .int .u8 255] w fun e w' => e = .returned (.int .u8 226) ∧ w = w' := by
  have p : ((Gf.mul 255 255 : Nat) : Int) = 226 := by decide +kernel
  have h := mul_any 255 255 (by decide) (by decide) w
  rw [p] at h; exact h
theorem m3 (w : World) : Calls Try.prog 12 #[.int .u8 128, .int .u8 2] w fun e w' => e = .returned (.int .u8 29) ∧ w = w' := by
  have p : ((Gf.mul 128 2 : Nat) : Int) = 29 := by decide +kernel
  have h := rmul_any 128 2 (by decide) (by decide) w
  rw [p] at h; exact h
theorem p1 (w : World) : Calls Try.prog 13 #[.int .u8 2, .int .i64 8] w fun e w' => e = .returned (.int .u8 29) ∧ w = w' := by
  have p : ((Gf.pow 2 8 : Nat) : Int) = 29 := by decide +kernel
  have h := pow_any 2 8 (by decide) (by decide) w
  rw [p] at h; exact h
theorem p2 (w : World) : Calls Try.prog 13 #[.int .u8 0, .int .i64 (-5)] w fun e w' => e = .returned (.int .u8 1) ∧ w = w' := pow_neg 0 (-5) (by decide) w
theorem d1 (w : World) : Calls Try.prog 15 #[.int .u8 29, .int .u8 2] w fun e w' => e = .returned (.tuple #[.int .u8 128, .bool true]) ∧ w = w' := by
  have p : ((Gf.mul 29 (Gf.pow 2 254) : Nat) : Int) = 128 := by decide +kernel
  have h := div_any 29 2 (by decide) (by decide) (by decide) w
  rw [p] at h; exact h
theorem d2 (w : World) : Calls Try.prog 15 #[.int .u8 29, .int .u8 0] w fun e w' => e = .returned (.tuple #[.int .u8 0, .bool false]) ∧ w = w' := div_none 29 w

set_option maxHeartbeats 400000 in
theorem awake_any (w : World) :
    Calls Try.prog 10 #[] w fun e w' => e = .returned (.bool true) ∧ w = w' := by
  go_enter Try.func10, Try.ntmps10
  go_wp2_with fail
  refine (d1 _).mono ?_; rintro e w' ⟨rfl, rfl⟩
  go_wp2_with fail
  refine (d2 _).mono ?_; rintro e w' ⟨rfl, rfl⟩
  go_wp2_with fail
  refine (m1 _).mono ?_; rintro e w' ⟨rfl, rfl⟩
  go_wp2_with fail
  refine (m2 _).mono ?_; rintro e w' ⟨rfl, rfl⟩
  go_wp2_with fail
  refine (p1 _).mono ?_; rintro e w' ⟨rfl, rfl⟩
  go_wp2_with fail
  refine (p2 _).mono ?_; rintro e w' ⟨rfl, rfl⟩
  go_wp2_with fail
  refine (m3 _).mono ?_; rintro e w' ⟨rfl, rfl⟩
  go_wp2_with fail
  go_ret
  exact ⟨rfl, rfl⟩
end Go.Proofs.Ytejlbembcaiajaa
