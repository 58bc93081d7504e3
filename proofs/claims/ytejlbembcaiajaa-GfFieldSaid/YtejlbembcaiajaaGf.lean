/- Plain law: multiplication in the field of 256 elements, in natural numbers, as the program reckons it and as the reference does. No program in sight. -/
namespace Go.Proofs.Ytejlbembcaiajaa.Gf

/-- one doubling -/
def xt (x : Nat) : Nat := if 255 < 2 * x then (2 * x) ^^^ 285 else 2 * x
/-- doubled k times -/
def mx (a : Nat) : Nat → Nat
  | 0 => a
  | k + 1 => xt (mx a k)
/-- the sum behind k rounds -/
def mo (a b : Nat) : Nat → Nat
  | 0 => 0
  | k + 1 => if (b >>> k) % 2 = 1 then mo a b k ^^^ mx a k else mo a b k
def mul (a b : Nat) : Nat := mo a b 8

theorem xor_lt (a b : Nat) (ha : a < 256) (hb : b < 256) : a ^^^ b < 256 := Nat.xor_lt_two_pow (n := 8) ha hb

theorem xt_lt : ∀ x, x < 256 → xt x < 256 := by decide +kernel
theorem mx_lt (a : Nat) (ha : a < 256) (k : Nat) : mx a k < 256 := by
  induction k with
  | zero => exact ha
  | succ k ih => exact xt_lt _ ih
theorem mo_lt (a b : Nat) (ha : a < 256) (k : Nat) : mo a b k < 256 := by
  induction k with
  | zero => show 0 < 256; decide
  | succ k ih =>
    unfold mo
    split
    · exact xor_lt _ _ ih (mx_lt a ha k)
    · exact ih
theorem mul_lt (a b : Nat) (ha : a < 256) : mul a b < 256 := mo_lt a b ha 8

/-- what goes through sums, told by the eight bits -/
structure Lin (f : Nat → Nat) : Prop where
  add : ∀ x y, x < 256 → y < 256 → f (x ^^^ y) = f x ^^^ f y

theorem Lin.zero {f : Nat → Nat} (h : Lin f) : f 0 = 0 := by
  have := h.add 0 0 (by decide) (by decide)
  simpa using this

theorem top_bit : ∀ x, x < 256 → x ≠ 0 → 2 ^ x.log2 ^^^ (x - 2 ^ x.log2) = x ∧ x.log2 < 8 ∧ x - 2 ^ x.log2 < x := by decide +kernel
theorem pow_lt_256 : ∀ i, i < 8 → 2 ^ i < 256 := by decide

theorem Lin.ext {f g : Nat → Nat} (hf : Lin f) (hg : Lin g) (h : ∀ i, i < 8 → f (2 ^ i) = g (2 ^ i)) : ∀ x, x < 256 → f x = g x := by
  intro x
  induction x using Nat.strongRecOn with
  | _ x ih =>
    intro hx
    by_cases h0 : x = 0
    · rw [h0, hf.zero, hg.zero]
    · obtain ⟨h1, h2, h3⟩ := top_bit x hx h0
      rw [← h1, hf.add _ _ (pow_lt_256 _ h2) (by omega), hg.add _ _ (pow_lt_256 _ h2) (by omega), h _ h2, ih _ h3 (by omega)]

theorem xor4 (a b c d : Nat) : (a ^^^ b) ^^^ (c ^^^ d) = (a ^^^ c) ^^^ (b ^^^ d) := by
  rw [Nat.xor_assoc, Nat.xor_assoc, ← Nat.xor_assoc b c d, ← Nat.xor_assoc c b d, Nat.xor_comm b c]

theorem xt_add (x y : Nat) (hx : x < 256) (hy : y < 256) : xt (x ^^^ y) = xt x ^^^ xt y := by
  have h : ∀ x, x < 256 → ∀ y, y < 256 → xt (x ^^^ y) = xt x ^^^ xt y := by decide +kernel
  exact h x hx y hy

theorem mx_add (a c : Nat) (ha : a < 256) (hc : c < 256) (k : Nat) : mx (a ^^^ c) k = mx a k ^^^ mx c k := by
  induction k with
  | zero => rfl
  | succ k ih => show xt _ = xt _ ^^^ xt _; rw [ih, xt_add _ _ (mx_lt a ha k) (mx_lt c hc k)]

theorem bit_add (x y k : Nat) : ((x ^^^ y) >>> k) % 2 = ((x >>> k) % 2 + (y >>> k) % 2) % 2 := by
  have h := Nat.testBit_xor x y k
  simp only [Nat.testBit_eq_decide_div_mod_eq] at h
  simp only [Nat.shiftRight_eq_div_pow]
  have h1 := Nat.mod_two_eq_zero_or_one ((x ^^^ y) / 2 ^ k)
  have h2 := Nat.mod_two_eq_zero_or_one (x / 2 ^ k)
  have h3 := Nat.mod_two_eq_zero_or_one (y / 2 ^ k)
  rcases h1 with h1 | h1 <;> rcases h2 with h2 | h2 <;> rcases h3 with h3 | h3 <;> simp [h1, h2, h3] at h ⊢

theorem mo_left (a c b : Nat) (ha : a < 256) (hc : c < 256) (k : Nat) : mo (a ^^^ c) b k = mo a b k ^^^ mo c b k := by
  induction k with
  | zero => simp [mo]
  | succ k ih =>
    unfold mo
    split
    · rw [ih, mx_add a c ha hc, xor4]
    · exact ih

theorem mo_right (a b c : Nat) (k : Nat) : mo a (b ^^^ c) k = mo a b k ^^^ mo a c k := by
  induction k with
  | zero => simp [mo]
  | succ k ih =>
    unfold mo
    rw [bit_add, ih]
    have h2 := Nat.mod_two_eq_zero_or_one (b >>> k)
    have h3 := Nat.mod_two_eq_zero_or_one (c >>> k)
    rcases h2 with h2 | h2 <;> rcases h3 with h3 | h3 <;> simp only [h2, h3] <;> simp
    · rw [Nat.xor_assoc]
    · simp only [Nat.xor_assoc, Nat.xor_comm (mo a c k) (mx a k)]
    · rw [xor4, Nat.xor_self, Nat.xor_zero]

theorem lin_left (b : Nat) : Lin (fun a => mul a b) := ⟨fun x y hx hy => mo_left x y b hx hy 8⟩
theorem lin_right (a : Nat) : Lin (fun b => mul a b) := ⟨fun x y _ _ => mo_right a x y 8⟩

theorem mul_comm (a b : Nat) (ha : a < 256) (hb : b < 256) : mul a b = mul b a := by
  have base : ∀ i, i < 8 → ∀ j, j < 8 → mul (2 ^ i) (2 ^ j) = mul (2 ^ j) (2 ^ i) := by decide +kernel
  have h1 : ∀ i, i < 8 → ∀ b, b < 256 → mul (2 ^ i) b = mul b (2 ^ i) := fun i hi =>
    Lin.ext (lin_right _) (lin_left _) (fun j hj => base i hi j hj)
  exact Lin.ext (lin_left b) (lin_right b) (fun i hi => h1 i hi b hb) a ha

theorem Lin.comp {f g : Nat → Nat} (hf : Lin f) (hg : Lin g) (hb : ∀ x, x < 256 → g x < 256) : Lin (fun x => f (g x)) :=
  ⟨fun x y hx hy => by show f (g (x ^^^ y)) = _; rw [hg.add x y hx hy, hf.add _ _ (hb x hx) (hb y hy)]⟩

theorem mul_assoc (a b c : Nat) (ha : a < 256) (hb : b < 256) (hc : c < 256) : mul a (mul b c) = mul (mul a b) c := by
  have base : ∀ i, i < 8 → ∀ j, j < 8 → ∀ k, k < 8 → mul (2 ^ i) (mul (2 ^ j) (2 ^ k)) = mul (mul (2 ^ i) (2 ^ j)) (2 ^ k) := by decide +kernel
  have h1 : ∀ i, i < 8 → ∀ j, j < 8 → ∀ c, c < 256 → mul (2 ^ i) (mul (2 ^ j) c) = mul (mul (2 ^ i) (2 ^ j)) c := fun i hi j hj =>
    Lin.ext (Lin.comp (lin_right _) (lin_right _) (fun x _ => mul_lt _ x (pow_lt_256 j hj))) (lin_right _) (fun k hk => base i hi j hj k hk)
  have h2 : ∀ i, i < 8 → ∀ b, b < 256 → mul (2 ^ i) (mul b c) = mul (mul (2 ^ i) b) c := fun i hi =>
    Lin.ext (Lin.comp (f := fun x => mul (2 ^ i) x) (g := fun x => mul x c) (lin_right _) (lin_left _) (fun x hx => mul_lt _ _ hx))
      (Lin.comp (f := fun x => mul x c) (g := fun x => mul (2 ^ i) x) (lin_left _) (lin_right _) (fun x _ => mul_lt _ x (pow_lt_256 i hi))) (fun j hj => h1 i hi j hj c hc)
  exact Lin.ext (f := fun x => mul x (mul b c)) (g := fun x => mul (mul x b) c) (lin_left _)
    (Lin.comp (f := fun x => mul x c) (g := fun x => mul x b) (lin_left _) (lin_left _) (fun x hx => mul_lt _ _ hx)) (fun i hi => h2 i hi b hb) a ha

theorem mul_one : ∀ a, a < 256 → mul a 1 = a := by decide +kernel
theorem mul_zero (a : Nat) : mul a 0 = 0 := (lin_right a).zero
theorem zero_mul (b : Nat) : mul 0 b = 0 := (lin_left b).zero
theorem one_mul (a : Nat) (ha : a < 256) : mul 1 a = a := by rw [mul_comm 1 a (by decide) ha, mul_one a ha]

/-- so many times -/
def pow (a : Nat) : Nat → Nat
  | 0 => 1
  | n + 1 => mul (pow a n) a

theorem pow_lt (a n : Nat) : pow a n < 256 := by
  induction n with
  | zero => show 1 < 256; decide
  | succ n ih => exact mul_lt _ _ ih
theorem pow_add (a : Nat) (ha : a < 256) (m n : Nat) : pow a (m + n) = mul (pow a m) (pow a n) := by
  induction n with
  | zero => show pow a m = mul (pow a m) 1; rw [mul_one _ (pow_lt a m)]
  | succ n ih => show mul (pow a (m + n)) a = mul (pow a m) (mul (pow a n) a); rw [ih, mul_assoc _ _ _ (pow_lt a m) (pow_lt a n) ha]
theorem pow_one (a : Nat) (ha : a < 256) : pow a 1 = a := one_mul a ha
theorem pow_sq (a : Nat) (ha : a < 256) (n : Nat) : pow (mul a a) n = pow a (2 * n) := by
  induction n with
  | zero => rfl
  | succ n ih =>
    have h2 : pow a 2 = mul a a := by show mul (mul 1 a) a = mul a a; rw [one_mul a ha]
    show mul (pow (mul a a) n) (mul a a) = pow a (2 * n + 2)
    rw [ih, pow_add a ha (2 * n) 2, h2]
/-- the loop of squares: 'out' times what is left -/
def sqs : Nat → Nat → Nat → Nat → Nat
  | 0, out, _, _ => out
  | f + 1, out, a, n => if n = 0 then out else sqs f (if n % 2 = 1 then mul out a else out) (mul a a) (n / 2)
theorem sqs_eq (f : Nat) : ∀ out a n, out < 256 → a < 256 → n < 2 ^ f → sqs f out a n = mul out (pow a n) := by
  induction f with
  | zero =>
    intro out a n ho ha hn
    have : n = 0 := by simpa using hn
    subst this
    show out = mul out 1
    rw [mul_one _ ho]
  | succ f ih =>
    intro out a n ho ha hn
    unfold sqs
    split
    · rename_i h; subst h; show out = mul out 1; rw [mul_one _ ho]
    · have hn2 : n / 2 < 2 ^ f := by rw [Nat.pow_succ] at hn; omega
      rw [ih _ _ _ (by split; exact mul_lt _ _ ho; exact ho) (mul_lt _ _ ha) hn2, pow_sq a ha]
      split
      · rename_i h1
        rw [← mul_assoc _ _ _ ho ha (pow_lt _ _)]
        congr 1
        have e : n = 1 + 2 * (n / 2) := by omega
        have : pow a n = mul (pow a 1) (pow a (2 * (n / 2))) := by rw [← pow_add a ha, ← e]
        rw [this, pow_one a ha]
      · have e : 2 * (n / 2) = n := by omega
        rw [e]

theorem pow255 : ∀ a, a < 256 → a ≠ 0 → pow a 255 = 1 := by
  have h : ∀ a, a < 256 → a ≠ 0 → sqs 8 1 a 255 = 1 := by decide +kernel
  intro a ha h0
  have := h a ha h0
  rwa [sqs_eq 8 1 a 255 (by decide) ha (by decide), one_mul _ (pow_lt _ _)] at this
theorem pow_mod (a : Nat) (ha : a < 256) (h0 : a ≠ 0) (n : Nat) : pow a n = pow a (n % 255) := by
  have hk : ∀ k r, pow a (255 * k + r) = pow a r := by
    intro k r
    induction k with
    | zero => simp
    | succ k ih =>
      rw [show 255 * (k + 1) + r = 255 + (255 * k + r) by omega, pow_add a ha, ih, pow255 a ha h0, one_mul _ (pow_lt _ _)]
  conv => lhs; rw [← Nat.div_add_mod n 255]
  exact hk _ _
theorem pow_zero_base (n : Nat) (hn : n ≠ 0) : pow 0 n = 0 := by
  cases n with
  | zero => exact absurd rfl hn
  | succ n => exact mul_zero _

/-- a product is 0 just where a factor is -/
theorem inv (b : Nat) (hb : b < 256) (h0 : b ≠ 0) : mul b (pow b 254) = 1 := by
  have h : pow b 255 = mul (pow b 1) (pow b 254) := by rw [← pow_add b hb]
  rw [pow_one b hb, pow255 b hb h0] at h
  exact h.symm
theorem mul_div (a b : Nat) (ha : a < 256) (hb : b < 256) (h0 : b ≠ 0) : mul (mul a b) (pow b 254) = a := by
  rw [← mul_assoc a b _ ha hb (pow_lt _ _), inv b hb h0, mul_one a ha]
theorem div_mul (a b : Nat) (ha : a < 256) (hb : b < 256) (h0 : b ≠ 0) : mul (mul a (pow b 254)) b = a := by
  rw [← mul_assoc a _ b ha (pow_lt _ _) hb, mul_comm (pow b 254) b (pow_lt _ _) hb, inv b hb h0, mul_one a ha]
theorem mul_eq_zero (a b : Nat) (ha : a < 256) (hb : b < 256) : mul a b = 0 ↔ a = 0 ∨ b = 0 := by
  constructor
  · intro h
    by_cases h0 : b = 0
    · exact .inr h0
    · have := mul_div a b ha hb h0
      rw [h, zero_mul] at this
      exact .inl this.symm
  · rintro (h | h)
    · rw [h, zero_mul]
    · rw [h, mul_zero]
theorem round2 (n : Nat) : pow 2 n = 1 ↔ n % 255 = 0 := by
  have h : ∀ r, r < 255 → (sqs 8 1 2 r = 1 ↔ r = 0) := by decide +kernel
  have h' := h (n % 255) (Nat.mod_lt _ (by decide))
  rw [sqs_eq 8 1 2 _ (by decide) (by decide) (by omega), one_mul _ (pow_lt _ _)] at h'
  rw [pow_mod 2 (by decide) (by decide) n]
  exact h'

/-! the reference -/
/-- one place of the product -/
def rin (a b i : Nat) (p : Nat) : Nat → Nat
  | 0 => p
  | j + 1 => if (a >>> i) % 2 = 1 ∧ (b >>> j) % 2 = 1 then rin a b i p j ^^^ 2 ^ (i + j) else rin a b i p j
def rout (a b : Nat) : Nat → Nat
  | 0 => 0
  | i + 1 => rin a b i (rout a b i) 8
/-- what the modulus takes away, k steps from bit 14 down -/
def rred (p : Nat) : Nat → Nat
  | 0 => p
  | k + 1 => if (rred p k >>> (14 - k)) % 2 = 1 then rred p k ^^^ 285 * 2 ^ (6 - k) else rred p k
def rmul (a b : Nat) : Nat := rred (rout a b 8) 7 % 256

theorem rin_split (a b i p : Nat) (j : Nat) : rin a b i p j = p ^^^ rin a b i 0 j := by
  induction j with
  | zero => simp [rin]
  | succ j ih =>
    unfold rin
    split
    · rw [ih, Nat.xor_assoc]
    · exact ih
theorem rin_left (a c b i : Nat) (j : Nat) : rin (a ^^^ c) b i 0 j = rin a b i 0 j ^^^ rin c b i 0 j := by
  induction j with
  | zero => simp [rin]
  | succ j ih =>
    unfold rin
    rw [bit_add, ih]
    have h2 := Nat.mod_two_eq_zero_or_one (a >>> i)
    have h3 := Nat.mod_two_eq_zero_or_one (c >>> i)
    have h4 := Nat.mod_two_eq_zero_or_one (b >>> j)
    rcases h2 with h2 | h2 <;> rcases h3 with h3 | h3 <;> rcases h4 with h4 | h4 <;> simp only [h2, h3, h4] <;> simp
    · rw [Nat.xor_assoc]
    · simp only [Nat.xor_assoc, Nat.xor_comm (rin c b i 0 j) (2 ^ (i + j))]
    · rw [xor4, Nat.xor_self, Nat.xor_zero]
theorem rin_right (a b c i : Nat) (j : Nat) : rin a (b ^^^ c) i 0 j = rin a b i 0 j ^^^ rin a c i 0 j := by
  induction j with
  | zero => simp [rin]
  | succ j ih =>
    unfold rin
    rw [bit_add, ih]
    have h2 := Nat.mod_two_eq_zero_or_one (a >>> i)
    have h3 := Nat.mod_two_eq_zero_or_one (b >>> j)
    have h4 := Nat.mod_two_eq_zero_or_one (c >>> j)
    rcases h2 with h2 | h2 <;> rcases h3 with h3 | h3 <;> rcases h4 with h4 | h4 <;> simp only [h2, h3, h4] <;> simp
    · rw [Nat.xor_assoc]
    · simp only [Nat.xor_assoc, Nat.xor_comm (rin a c i 0 j) (2 ^ (i + j))]
    · rw [xor4, Nat.xor_self, Nat.xor_zero]
theorem rout_left (a c b : Nat) (i : Nat) : rout (a ^^^ c) b i = rout a b i ^^^ rout c b i := by
  induction i with
  | zero => simp [rout]
  | succ i ih =>
    unfold rout
    rw [rin_split _ _ _ (rout (a ^^^ c) b i), rin_split _ _ _ (rout a b i), rin_split _ _ _ (rout c b i), ih, rin_left, xor4]
theorem rout_right (a b c : Nat) (i : Nat) : rout a (b ^^^ c) i = rout a b i ^^^ rout a c i := by
  induction i with
  | zero => simp [rout]
  | succ i ih =>
    unfold rout
    rw [rin_split _ _ _ (rout a (b ^^^ c) i), rin_split _ _ _ (rout a b i), rin_split _ _ _ (rout a c i), ih, rin_right, xor4]
theorem rred_add (p q : Nat) (k : Nat) : rred (p ^^^ q) k = rred p k ^^^ rred q k := by
  induction k with
  | zero => rfl
  | succ k ih =>
    unfold rred
    rw [ih, bit_add]
    have h2 := Nat.mod_two_eq_zero_or_one (rred p k >>> (14 - k))
    have h3 := Nat.mod_two_eq_zero_or_one (rred q k >>> (14 - k))
    rcases h2 with h2 | h2 <;> rcases h3 with h3 | h3 <;> simp only [h2, h3] <;> simp
    · rw [Nat.xor_assoc]
    · simp only [Nat.xor_assoc, Nat.xor_comm (rred q k) (285 * 2 ^ (6 - k))]
    · rw [xor4, Nat.xor_self, Nat.xor_zero]
theorem xor_mod (p q : Nat) : (p ^^^ q) % 256 = (p % 256) ^^^ (q % 256) := Nat.xor_mod_two_pow (n := 8)

theorem rlin_left (b : Nat) : Lin (fun a => rmul a b) := ⟨fun x y _ _ => by unfold rmul; rw [rout_left, rred_add, xor_mod]⟩
theorem rlin_right (a : Nat) : Lin (fun b => rmul a b) := ⟨fun x y _ _ => by unfold rmul; rw [rout_right, rred_add, xor_mod]⟩
theorem rmul_eq (a b : Nat) (ha : a < 256) (hb : b < 256) : rmul a b = mul a b := by
  have base : ∀ i, i < 8 → ∀ j, j < 8 → rmul (2 ^ i) (2 ^ j) = mul (2 ^ i) (2 ^ j) := by decide +kernel
  have h1 : ∀ i, i < 8 → ∀ b, b < 256 → rmul (2 ^ i) b = mul (2 ^ i) b := fun i hi =>
    Lin.ext (rlin_right _) (lin_right _) (fun j hj => base i hi j hj)
  exact Lin.ext (rlin_left b) (lin_left b) (fun i hi => h1 i hi b hb) a ha

/-- the place where the reference finds the quotient -/
theorem quot_iff (a b x : Nat) (ha : a < 256) (hb : b < 256) (hx : x < 256) (h0 : b ≠ 0) : mul x b = a ↔ x = mul a (pow b 254) := by
  constructor
  · intro h; rw [← h, mul_div x b hx hb h0]
  · intro h; rw [h, div_mul a b ha hb h0]

end Go.Proofs.Ytejlbembcaiajaa.Gf
