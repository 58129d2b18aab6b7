/- The field of 256 digits, in plain numbers: powers of three, their logarithms, products, and the laws of a field. -/
namespace KH

/-- twice a digit -/
def dbl (a : Nat) : Nat := if 2 * a < 256 then 2 * a else (2 * a - 256) ^^^ 27
/-- three times a digit -/
def trip (x : Nat) : Nat := x ^^^ dbl x
/-- three times, n times over -/
def tripN : Nat → Nat → Nat
  | 0, x => x
  | n + 1, x => trip (tripN n x)
/-- the powers of three -/
def ex (n : Nat) : Nat := tripN n 1
/-- the logarithms -/
def lgTab : List Nat := [0, 0, 25, 1, 50, 2, 26, 198, 75, 199, 27, 104, 51, 238, 223, 3, 100, 4, 224, 14, 52, 141, 129, 239, 76, 113, 8, 200, 248, 105, 28, 193, 125, 194, 29, 181, 249, 185, 39, 106, 77, 228, 166, 114, 154, 201, 9, 120, 101, 47, 138, 5, 33, 15, 225, 36, 18, 240, 130, 69, 53, 147, 218, 142, 150, 143, 219, 189, 54, 208, 206, 148, 19, 92, 210, 241, 64, 70, 131, 56, 102, 221, 253, 48, 191, 6, 139, 98, 179, 37, 226, 152, 34, 136, 145, 16, 126, 110, 72, 195, 163, 182, 30, 66, 58, 107, 40, 84, 250, 133, 61, 186, 43, 121, 10, 21, 155, 159, 94, 202, 78, 212, 172, 229, 243, 115, 167, 87, 175, 88, 168, 80, 244, 234, 214, 116, 79, 174, 233, 213, 231, 230, 173, 232, 44, 215, 117, 122, 235, 22, 11, 245, 89, 203, 95, 176, 156, 169, 81, 160, 127, 12, 246, 111, 23, 196, 73, 236, 216, 67, 31, 45, 164, 118, 123, 183, 204, 187, 62, 90, 251, 96, 177, 134, 59, 82, 161, 108, 170, 85, 41, 157, 151, 178, 135, 144, 97, 190, 220, 252, 188, 149, 207, 205, 55, 63, 91, 209, 83, 57, 132, 60, 65, 162, 109, 71, 20, 42, 158, 93, 86, 242, 211, 171, 68, 17, 146, 217, 35, 32, 46, 137, 180, 124, 184, 38, 119, 153, 227, 165, 103, 74, 237, 222, 197, 49, 254, 24, 13, 99, 140, 128, 192, 247, 112, 7]
def lg (x : Nat) : Nat := lgTab.getD x 0
/-- the product of two digits -/
def mul (a b : Nat) : Nat := if a = 0 ∨ b = 0 then 0 else ex ((lg a + lg b) % 255)
/-- the digit whose product with a is 1 -/
def inv (a : Nat) : Nat := ex ((255 - lg a) % 255)
/-- the power -/
def pow (a n : Nat) : Nat := if n = 0 then 1 else if a = 0 then 0 else ex (lg a * n % 255)

theorem xor_lt {a b : Nat} (ha : a < 256) (hb : b < 256) : a ^^^ b < 256 := Nat.xor_lt_two_pow (n := 8) ha hb

theorem xor_swap (a b c d : Nat) : (a ^^^ b) ^^^ (c ^^^ d) = (a ^^^ c) ^^^ (b ^^^ d) := by
  rw [Nat.xor_assoc, Nat.xor_assoc, ← Nat.xor_assoc b c d, Nat.xor_comm b c, Nat.xor_assoc c b d]
theorem dbl_eq : ∀ a, a < 256 → dbl a = (a <<< 1) ^^^ (283 * (a / 2 ^ 7)) := by decide +kernel
theorem dbl_xor (a : Nat) (ha : a < 256) (b : Nat) (hb : b < 256) : dbl (a ^^^ b) = dbl a ^^^ dbl b := by
  rw [dbl_eq _ (xor_lt ha hb), dbl_eq a ha, dbl_eq b hb, Nat.shiftLeft_xor_distrib, Nat.xor_div_two_pow, xor_swap]
  congr 1
  have h1 : a / 2 ^ 7 = 0 ∨ a / 2 ^ 7 = 1 := by omega
  have h2 : b / 2 ^ 7 = 0 ∨ b / 2 ^ 7 = 1 := by omega
  rcases h1 with h1 | h1 <;> rcases h2 with h2 | h2 <;> rw [h1, h2] <;> rfl
theorem dbl_lt : ∀ a, a < 256 → dbl a < 256 := by decide +kernel
theorem trip_lt {a : Nat} (h : a < 256) : trip a < 256 := xor_lt h (dbl_lt a h)
theorem tripN_lt {a : Nat} (h : a < 256) (n : Nat) : tripN n a < 256 := by
  induction n with
  | zero => exact h
  | succ n ih => exact trip_lt ih
theorem ex_lt (n : Nat) : ex n < 256 := tripN_lt (by omega) n

theorem trip_xor {a b : Nat} (ha : a < 256) (hb : b < 256) : trip (a ^^^ b) = trip a ^^^ trip b := by
  unfold trip; rw [dbl_xor a ha b hb, xor_swap]
theorem tripN_xor {a b : Nat} (ha : a < 256) (hb : b < 256) (n : Nat) : tripN n (a ^^^ b) = tripN n a ^^^ tripN n b := by
  induction n with
  | zero => rfl
  | succ n ih => show trip _ = trip _ ^^^ trip _; rw [ih, trip_xor (tripN_lt ha n) (tripN_lt hb n)]
theorem tripN_zero (n : Nat) : tripN n 0 = 0 := by
  induction n with
  | zero => rfl
  | succ n ih => show trip _ = 0; rw [ih]; rfl
theorem tripN_add (m n x : Nat) : tripN (m + n) x = tripN m (tripN n x) := by
  induction m with
  | zero => simp [tripN]
  | succ m ih => rw [Nat.succ_add]; show trip _ = trip _; rw [ih]
theorem ex_add (m n : Nat) : ex (m + n) = tripN m (ex n) := tripN_add m n 1
theorem ex_255 : ex 255 = 1 := by decide +kernel
theorem ex_period (n : Nat) : ex (n + 255) = ex n := by rw [ex_add, ex_255]; rfl
theorem ex_mod (n : Nat) : ex (n % 255) = ex n := by
  induction n using Nat.strongRecOn with
  | ind n ih =>
    by_cases h : n < 255
    · rw [Nat.mod_eq_of_lt h]
    · have e : n = (n - 255) + 255 := by omega
      rw [e, Nat.add_mod_right, ih (n - 255) (by omega), ex_period]

theorem lg_ex : ∀ i, i < 255 → lg (ex i) = i := by decide +kernel
theorem ex_lg : ∀ x, x < 256 → x ≠ 0 → ex (lg x) = x := by decide +kernel
theorem lg_lt : ∀ x, x < 256 → lg x < 255 := by decide +kernel
theorem ex_ne_zero (n : Nat) : ex n ≠ 0 := by
  rw [← ex_mod]
  intro h
  have hl := Nat.mod_lt n (show 255 > 0 by omega)
  have e : ex (255 - n % 255 + n % 255) = 1 := by rw [Nat.sub_add_cancel (by omega), ex_255]
  rw [ex_add, h, tripN_zero] at e; cases e
theorem lg_ex_mod (n : Nat) : lg (ex n) = n % 255 := by rw [← ex_mod, lg_ex _ (Nat.mod_lt _ (by omega))]
theorem lg_one : lg 1 = 0 := by decide

theorem mul_lt (a b : Nat) : mul a b < 256 := by unfold mul; split; omega; exact ex_lt _
theorem inv_lt (a : Nat) : inv a < 256 := ex_lt _
theorem pow_lt (a n : Nat) : pow a n < 256 := by unfold pow; split; omega; split; omega; exact ex_lt _
theorem mul_comm (a b : Nat) : mul a b = mul b a := by
  unfold mul; rw [Nat.add_comm (lg a)]; by_cases h : a = 0 <;> by_cases k : b = 0 <;> simp [h, k]
@[simp] theorem mul_zero (a : Nat) : mul a 0 = 0 := by simp [mul]
@[simp] theorem zero_mul (a : Nat) : mul 0 a = 0 := by simp [mul]
theorem mul_ex (i : Nat) {b : Nat} (hb : b < 256) : mul (ex i) b = tripN i b := by
  by_cases h : b = 0
  · subst h; simp [tripN_zero]
  · unfold mul; rw [if_neg (by simp [ex_ne_zero, h]), lg_ex_mod, ex_mod, ex_add]
    conv => rhs; rw [← ex_lg b hb h]
    rw [← ex_add, ← ex_add, ← ex_mod (i % 255 + lg b), ← ex_mod (i + lg b)]; congr 1; omega
theorem mul_eq_tripN {a b : Nat} (ha : a < 256) (h : a ≠ 0) (hb : b < 256) : mul a b = tripN (lg a) b := by
  conv => lhs; rw [← ex_lg a ha h]
  exact mul_ex _ hb
theorem mul_xor {a b c : Nat} (ha : a < 256) (hb : b < 256) (hc : c < 256) : mul a (b ^^^ c) = mul a b ^^^ mul a c := by
  by_cases h : a = 0
  · subst h; simp
  · rw [mul_eq_tripN ha h hb, mul_eq_tripN ha h hc, mul_eq_tripN ha h (xor_lt hb hc), tripN_xor hb hc]
theorem xor_mul {a b c : Nat} (ha : a < 256) (hb : b < 256) (hc : c < 256) : mul (b ^^^ c) a = mul b a ^^^ mul c a := by
  rw [mul_comm _ a, mul_comm _ a, mul_comm _ a, mul_xor ha hb hc]
theorem mul_eq_zero {a b : Nat} : mul a b = 0 ↔ a = 0 ∨ b = 0 := by
  unfold mul; split
  · simp [*]
  · simp [*, ex_ne_zero]
theorem mul_ne {a b : Nat} (ha : a ≠ 0) (hb : b ≠ 0) : mul a b = ex ((lg a + lg b) % 255) := by
  unfold mul; rw [if_neg (by simp [ha, hb])]
theorem mul_assoc (a b c : Nat) : mul (mul a b) c = mul a (mul b c) := by
  by_cases ha : a = 0
  · subst ha; simp
  by_cases hb : b = 0
  · subst hb; simp
  by_cases hc : c = 0
  · subst hc; simp
  have h1 : mul a b ≠ 0 := by simp [mul_eq_zero, ha, hb]
  have h2 : mul b c ≠ 0 := by simp [mul_eq_zero, hb, hc]
  have e1 : lg (mul a b) = (lg a + lg b) % 255 := by unfold mul; rw [if_neg (by simp [ha, hb]), lg_ex_mod, Nat.mod_mod]
  have e2 : lg (mul b c) = (lg b + lg c) % 255 := by unfold mul; rw [if_neg (by simp [hb, hc]), lg_ex_mod, Nat.mod_mod]
  rw [mul_ne h1 hc, mul_ne ha h2, e1, e2]; congr 1; omega
theorem mul_one {a : Nat} (ha : a < 256) : mul a 1 = a := by
  by_cases h : a = 0
  · subst h; rfl
  · unfold mul; rw [if_neg (by simp [h]), lg_one, Nat.add_zero, ex_mod, ex_lg a ha h]
theorem one_mul {a : Nat} (ha : a < 256) : mul 1 a = a := by rw [mul_comm, mul_one ha]
theorem inv_ne_zero (a : Nat) : inv a ≠ 0 := ex_ne_zero _
theorem mul_inv {a : Nat} (ha : a < 256) (h : a ≠ 0) : mul a (inv a) = 1 := by
  unfold mul; rw [if_neg (by simp [h, inv_ne_zero])]
  have hl := lg_lt a ha
  unfold inv; rw [lg_ex_mod, Nat.mod_mod]
  rw [show (lg a + (255 - lg a) % 255) % 255 = 0 by omega]; rfl
theorem inv_inv {a : Nat} (ha : a < 256) (h : a ≠ 0) : inv (inv a) = a := by
  have := mul_inv (inv_lt a) (inv_ne_zero a)
  have e : mul a (mul (inv a) (inv (inv a))) = a := by rw [this, mul_one ha]
  rw [← mul_assoc, mul_inv ha h, one_mul (inv_lt _)] at e; exact e
theorem mul_cancel {a b c : Nat} (ha : a < 256) (hb : b < 256) (hc : c < 256) (h : c ≠ 0) (e : mul a c = mul b c) : a = b := by
  have := congrArg (mul · (inv c)) e
  simp only [mul_assoc, mul_inv hc h, mul_one ha, mul_one hb] at this
  exact this
theorem mul_div {a b : Nat} (ha : a < 256) (hb : b < 256) (h : b ≠ 0) : mul (mul a b) (inv b) = a := by
  rw [mul_assoc, mul_inv hb h, mul_one ha]
theorem inv_unique {a n : Nat} (ha : a < 256) (hn : n < 256) (e : mul a n = 1) : n = inv a := by
  have h : a ≠ 0 := by intro h; subst h; simp at e
  refine mul_cancel hn (inv_lt a) ha h ?_
  rw [mul_comm n, mul_comm (inv a), e, mul_inv ha h]
theorem pow_succ {a : Nat} (ha : a < 256) (n : Nat) : pow a (n + 1) = mul (pow a n) a := by
  by_cases h : a = 0
  · subst h; simp [pow]
  · by_cases hn : n = 0
    · subst hn; simp [pow, h, ex_mod, ex_lg a ha h, one_mul ha]
    · unfold pow; rw [if_neg (by omega), if_neg h, if_neg hn, if_neg h]
      unfold mul; rw [if_neg (by simp [ex_ne_zero, h]), lg_ex_mod, Nat.mod_mod]; congr 1; rw [Nat.mul_succ]; omega
theorem pow_255 {a : Nat} (h : a ≠ 0) : pow a 255 = 1 := by
  unfold pow; rw [if_neg (by omega), if_neg h, Nat.mul_mod_left]; rfl
theorem pow_mod {a : Nat} (ha : a ≠ 0) (n : Nat) : pow a (n % 255) = pow a n := by
  unfold pow
  by_cases h : n = 0
  · subst h; simp
  · rw [if_neg h, if_neg ha]
    have e : lg a * n % 255 = lg a * (n % 255) % 255 := by rw [Nat.mul_mod_mod]
    split
    · rename_i h0; rw [e, h0, Nat.mul_zero]; rfl
    · rw [e]
theorem xor_cancel {a b c : Nat} : a ^^^ c = b ^^^ c ↔ a = b := by
  constructor
  · intro h; have := congrArg (· ^^^ c) h; simpa [Nat.xor_assoc] using this
  · rintro rfl; rfl
theorem mul_two : ∀ a, a < 256 → mul a 2 = dbl a := by decide +kernel
/-- halves: as the document multiplies -/
theorem mul_half {a b : Nat} (ha : a < 256) (hb : b < 256) : mul a b = mul (dbl a) (b / 2) ^^^ (if b % 2 = 1 then a else 0) := by
  have e : b = (2 * (b / 2)) ^^^ (b % 2) := by
    have h : ∀ b, b < 256 → b = (2 * (b / 2)) ^^^ (b % 2) := by decide +kernel
    exact h b hb
  have h2 : ∀ c, c < 128 → mul 2 c = 2 * c := by decide +kernel
  have h3 : mul a (2 * (b / 2)) = mul (dbl a) (b / 2) := by
    rw [← h2 (b / 2) (by omega), ← mul_assoc, mul_two a ha]
  conv => lhs; rw [e]
  rw [mul_xor ha (by omega) (by omega), h3]
  congr 1
  rcases Nat.mod_two_eq_zero_or_one b with h | h <;> simp [h, mul_one ha]
end KH
