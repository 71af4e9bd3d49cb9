/-
  The plain law of the bytes that are added and multiplied, with no program in sight: powers of 2 and logarithms as two tables, the product by them, that it is the product of polynomials bit by bit, and the laws of a field.
-/
namespace Go.Proofs.Ytoipbblgbbocnaa

/-- A byte, moved up by a bit, modulo the polynomial. -/
def xt (x : Nat) : Nat := (2 * x) ^^^ (if x.testBit 7 then 285 else 0)

def expT : List Nat := [
  1, 2, 4, 8, 16, 32, 64, 128, 29, 58, 116, 232, 205, 135, 19, 38, 76, 152, 45, 90, 180, 117, 234, 201, 143, 3, 6, 12, 24, 48, 96, 192,
  157, 39, 78, 156, 37, 74, 148, 53, 106, 212, 181, 119, 238, 193, 159, 35, 70, 140, 5, 10, 20, 40, 80, 160, 93, 186, 105, 210, 185, 111, 222, 161,
  95, 190, 97, 194, 153, 47, 94, 188, 101, 202, 137, 15, 30, 60, 120, 240, 253, 231, 211, 187, 107, 214, 177, 127, 254, 225, 223, 163, 91, 182, 113, 226,
  217, 175, 67, 134, 17, 34, 68, 136, 13, 26, 52, 104, 208, 189, 103, 206, 129, 31, 62, 124, 248, 237, 199, 147, 59, 118, 236, 197, 151, 51, 102, 204,
  133, 23, 46, 92, 184, 109, 218, 169, 79, 158, 33, 66, 132, 21, 42, 84, 168, 77, 154, 41, 82, 164, 85, 170, 73, 146, 57, 114, 228, 213, 183, 115,
  230, 209, 191, 99, 198, 145, 63, 126, 252, 229, 215, 179, 123, 246, 241, 255, 227, 219, 171, 75, 150, 49, 98, 196, 149, 55, 110, 220, 165, 87, 174, 65,
  130, 25, 50, 100, 200, 141, 7, 14, 28, 56, 112, 224, 221, 167, 83, 166, 81, 162, 89, 178, 121, 242, 249, 239, 195, 155, 43, 86, 172, 69, 138, 9,
  18, 36, 72, 144, 61, 122, 244, 245, 247, 243, 251, 235, 203, 139, 11, 22, 44, 88, 176, 125, 250, 233, 207, 131, 27, 54, 108, 216, 173, 71, 142]
def logT : List Nat := [
  0, 0, 1, 25, 2, 50, 26, 198, 3, 223, 51, 238, 27, 104, 199, 75, 4, 100, 224, 14, 52, 141, 239, 129, 28, 193, 105, 248, 200, 8, 76, 113,
  5, 138, 101, 47, 225, 36, 15, 33, 53, 147, 142, 218, 240, 18, 130, 69, 29, 181, 194, 125, 106, 39, 249, 185, 201, 154, 9, 120, 77, 228, 114, 166,
  6, 191, 139, 98, 102, 221, 48, 253, 226, 152, 37, 179, 16, 145, 34, 136, 54, 208, 148, 206, 143, 150, 219, 189, 241, 210, 19, 92, 131, 56, 70, 64,
  30, 66, 182, 163, 195, 72, 126, 110, 107, 58, 40, 84, 250, 133, 186, 61, 202, 94, 155, 159, 10, 21, 121, 43, 78, 212, 229, 172, 115, 243, 167, 87,
  7, 112, 192, 247, 140, 128, 99, 13, 103, 74, 222, 237, 49, 197, 254, 24, 227, 165, 153, 119, 38, 184, 180, 124, 17, 68, 146, 217, 35, 32, 137, 46,
  55, 63, 209, 91, 149, 188, 207, 205, 144, 135, 151, 178, 220, 252, 190, 97, 242, 86, 211, 171, 20, 42, 93, 158, 132, 60, 57, 83, 71, 109, 65, 162,
  31, 45, 67, 216, 183, 123, 164, 118, 196, 23, 73, 236, 127, 12, 111, 246, 108, 161, 59, 82, 41, 157, 85, 170, 251, 96, 134, 177, 187, 204, 62, 90,
  203, 89, 95, 176, 156, 169, 160, 81, 11, 245, 22, 235, 122, 117, 44, 215, 79, 174, 213, 233, 230, 231, 173, 232, 116, 214, 244, 234, 168, 80, 88, 175]

/-- 2, n times by itself. -/
def pw (n : Nat) : Nat := expT.getD (n % 255) 0
/-- How many times 2 is by itself in x. -/
def lg (x : Nat) : Nat := logT.getD x 0

theorem pw_mod (n : Nat) : pw (n % 255) = pw n := by unfold pw; rw [Nat.mod_mod]
theorem pw_per (n : Nat) : pw (n + 255) = pw n := by unfold pw; rw [Nat.add_mod_right]
theorem expT_step : ∀ i, i < 254 → expT.getD (i + 1) 0 = xt (expT.getD i 0) := by decide +kernel
theorem expT_last : expT.getD 0 0 = xt (expT.getD 254 0) := by decide +kernel
theorem pw_zero : pw 0 = 1 := rfl
theorem pw_one : pw 1 = 2 := rfl
theorem pw_succ (n : Nat) : pw (n + 1) = xt (pw n) := by
  unfold pw
  by_cases h : n % 255 = 254
  · rw [h, show (n + 1) % 255 = 0 by omega]; exact expT_last
  · rw [show (n + 1) % 255 = n % 255 + 1 by omega]; exact expT_step _ (by omega)
theorem expT_range : ∀ i, i < 255 → expT.getD i 0 < 256 ∧ expT.getD i 0 ≠ 0 ∧ logT.getD (expT.getD i 0) 0 = i := by decide +kernel
theorem logT_range : ∀ x, x < 256 → x ≠ 0 → logT.getD x 0 < 255 ∧ expT.getD (logT.getD x 0) 0 = x := by decide +kernel
theorem pw_lt (n : Nat) : pw n < 256 := (expT_range _ (Nat.mod_lt _ (by omega))).1
theorem pw_ne (n : Nat) : pw n ≠ 0 := (expT_range _ (Nat.mod_lt _ (by omega))).2.1
theorem lg_pw (n : Nat) : lg (pw n) = n % 255 := (expT_range _ (Nat.mod_lt _ (by omega))).2.2
theorem lg_lt {x : Nat} (h : x < 256) : lg x < 255 := by
  by_cases h0 : x = 0
  · subst h0; decide
  · exact (logT_range x h h0).1
theorem pw_lg {x : Nat} (h : x < 256) (h0 : x ≠ 0) : pw (lg x) = x := by
  have := logT_range x h h0
  unfold pw lg
  rw [Nat.mod_eq_of_lt this.1]; exact this.2
theorem lg_zero : lg 0 = 0 := rfl
theorem lg_one : lg 1 = 0 := rfl
theorem pw_inj {n m : Nat} (hn : n < 255) (hm : m < 255) (h : pw n = pw m) : n = m := by
  have : lg (pw n) = lg (pw m) := by rw [h]
  rw [lg_pw, lg_pw] at this
  omega

/-- The product. -/
def gm (a b : Nat) : Nat := if a = 0 ∨ b = 0 then 0 else pw (lg a + lg b)
theorem gm_zero (a : Nat) : gm a 0 = 0 := by simp [gm]
theorem zero_gm (a : Nat) : gm 0 a = 0 := by simp [gm]
theorem gm_pos {a b : Nat} (ha : a ≠ 0) (hb : b ≠ 0) : gm a b = pw (lg a + lg b) := by simp [gm, ha, hb]
theorem gm_lt (a b : Nat) : gm a b < 256 := by
  unfold gm; split
  · omega
  · exact pw_lt _
theorem gm_comm (a b : Nat) : gm a b = gm b a := by
  unfold gm
  rw [Nat.add_comm]
  by_cases ha : a = 0 <;> by_cases hb : b = 0 <;> simp [ha, hb]
theorem gm_ne {a b : Nat} (ha : a ≠ 0) (hb : b ≠ 0) : gm a b ≠ 0 := by rw [gm_pos ha hb]; exact pw_ne _
theorem pw_add_lg (n m : Nat) : pw (n % 255 + m) = pw (n + m) := by
  unfold pw; congr 1; omega
theorem pw_add_lg' (n m : Nat) : pw (m + n % 255) = pw (m + n) := by rw [Nat.add_comm, pw_add_lg, Nat.add_comm]
theorem gm_assoc (a b c : Nat) : gm (gm a b) c = gm a (gm b c) := by
  by_cases ha : a = 0
  · subst ha; rw [zero_gm, zero_gm, zero_gm]
  by_cases hb : b = 0
  · subst hb; rw [gm_zero, zero_gm, gm_zero]
  by_cases hc : c = 0
  · subst hc; rw [gm_zero, gm_zero, gm_zero]
  rw [gm_pos (gm_ne ha hb) hc, gm_pos ha (gm_ne hb hc), gm_pos ha hb, gm_pos hb hc, lg_pw, lg_pw, pw_add_lg, pw_add_lg']
  congr 1; omega
theorem gm_one {a : Nat} (h : a < 256) : gm a 1 = a := by
  by_cases ha : a = 0
  · subst ha; exact zero_gm 1
  · rw [gm_pos ha (by omega), lg_one, Nat.add_zero, pw_lg h ha]
theorem one_gm {a : Nat} (h : a < 256) : gm 1 a = a := by rw [gm_comm, gm_one h]
theorem gm_pw (n m : Nat) : gm (pw n) (pw m) = pw (n + m) := by
  rw [gm_pos (pw_ne n) (pw_ne m), lg_pw, lg_pw, pw_add_lg, Nat.add_comm, pw_add_lg, Nat.add_comm]

/-! ## Products are spread over sums -/
theorem two_mul_xor (a b : Nat) : 2 * (a ^^^ b) = (2 * a) ^^^ (2 * b) := by
  apply Nat.eq_of_testBit_eq
  intro i
  rw [Nat.testBit_xor]
  cases i with
  | zero => simp
  | succ i => simp only [Nat.mul_comm 2, show ∀ n : Nat, n * 2 = n * 2 ^ 1 from fun _ => rfl, Nat.testBit_mul_two_pow]; simp
theorem xor4 (a b c d : Nat) : (a ^^^ b) ^^^ (c ^^^ d) = (a ^^^ c) ^^^ (b ^^^ d) := by
  rw [Nat.xor_assoc, Nat.xor_assoc]
  congr 1
  rw [← Nat.xor_assoc, ← Nat.xor_assoc, Nat.xor_comm b c]
theorem xt_xor (a b : Nat) : xt (a ^^^ b) = xt a ^^^ xt b := by
  unfold xt
  rw [two_mul_xor, xor4]
  congr 1
  rw [Nat.testBit_xor]
  cases a.testBit 7 <;> cases b.testBit 7 <;> decide
theorem xt_zero : xt 0 = 0 := rfl
theorem gm_two : ∀ b, b < 256 → gm 2 b = xt b := by decide +kernel
theorem xor_lt {a b : Nat} (ha : a < 256) (hb : b < 256) : a ^^^ b < 256 := Nat.xor_lt_two_pow (n := 8) ha hb
theorem gm_pw_xor (j : Nat) {b c : Nat} (hb : b < 256) (hc : c < 256) : gm (pw j) (b ^^^ c) = gm (pw j) b ^^^ gm (pw j) c := by
  induction j with
  | zero => rw [pw_zero, one_gm hb, one_gm hc, one_gm (xor_lt hb hc)]
  | succ j ih =>
    have e : ∀ x, gm (pw (j + 1)) x = xt (gm (pw j) x) := fun x => by
      rw [← gm_two _ (gm_lt _ _), ← gm_assoc, ← pw_one, gm_pw, Nat.add_comm]
    rw [e, e, e, ih, xt_xor]
theorem gm_xor (a : Nat) (ha : a < 256) {b c : Nat} (hb : b < 256) (hc : c < 256) : gm a (b ^^^ c) = gm a b ^^^ gm a c := by
  by_cases h : a = 0
  · subst h; rw [zero_gm, zero_gm, zero_gm]; rfl
  · rw [← pw_lg ha h]; exact gm_pw_xor _ hb hc

/-! ## Bit by bit -/
/-- The sum of a's multiples, k bits of b done. -/
def p1 (a b : Nat) : Nat → Nat
  | 0 => 0
  | k + 1 => if b.testBit k then p1 a b k ^^^ (a * 2 ^ k) else p1 a b k
/-- n, less the polynomial's multiples, k bits done from the top. -/
def p2 (n : Nat) : Nat → Nat
  | 0 => n
  | k + 1 => if (p2 n k).testBit (15 - k) then p2 n k ^^^ (285 * 2 ^ (7 - k)) else p2 n k
def rmul (a b : Nat) : Nat := p2 (p1 a b 8) 8

theorem p2_xor (n m : Nat) : ∀ k, p2 (n ^^^ m) k = p2 n k ^^^ p2 m k
  | 0 => rfl
  | k + 1 => by
    unfold p2
    rw [p2_xor n m k, Nat.testBit_xor]
    generalize p2 n k = A
    generalize p2 m k = C
    generalize 285 * 2 ^ (7 - k) = D
    have hD : D ^^^ D = 0 := Nat.xor_self D
    cases hA : A.testBit (15 - k) <;> cases hC : C.testBit (15 - k) <;> simp
    · rw [Nat.xor_assoc]
    · rw [Nat.xor_assoc, Nat.xor_comm C D, ← Nat.xor_assoc]
    · rw [xor4, hD, Nat.xor_zero]
theorem p2_shift : ∀ k, k < 8 → ∀ a, a < 256 → p2 (a * 2 ^ k) 8 = gm a (2 ^ k) := by decide +kernel
theorem mod_succ_bit (b k : Nat) : b % 2 ^ (k + 1) = if b.testBit k then (b % 2 ^ k) ^^^ 2 ^ k else b % 2 ^ k := by
  apply Nat.eq_of_testBit_eq
  intro i
  rw [Nat.testBit_mod_two_pow]
  cases h : b.testBit k
  · simp only [Bool.false_eq_true, if_false, Nat.testBit_mod_two_pow]
    by_cases e : i = k
    · subst e; simp [h]
    · by_cases l : i < k
      · simp [l, show i < k + 1 by omega]
      · simp [l, show ¬ i < k + 1 by omega]
  · simp only [if_true, Nat.testBit_xor, Nat.testBit_mod_two_pow, Nat.testBit_two_pow]
    by_cases e : i = k
    · subst e; simp [h]
    · by_cases l : i < k
      · simp [l, show i < k + 1 by omega, show ¬ k = i by omega]
      · simp [l, show ¬ i < k + 1 by omega, show ¬ k = i by omega]
theorem p1_gm (a : Nat) (ha : a < 256) (b : Nat) : ∀ k, k ≤ 8 → p2 (p1 a b k) 8 = gm a (b % 2 ^ k)
  | 0, _ => by rw [Nat.pow_zero, Nat.mod_one, gm_zero]; exact (by decide : p2 0 8 = 0)
  | k + 1, h => by
    have ih := p1_gm a ha b k (by omega)
    rw [mod_succ_bit]
    unfold p1
    split
    · have h1 : 2 ^ k < 256 := Nat.pow_lt_pow_right (by omega) (by omega : k < 8)
      have h2 : b % 2 ^ k < 256 := Nat.lt_trans (Nat.mod_lt _ (Nat.pow_pos (by omega))) h1
      rw [p2_xor, ih, p2_shift k (by omega) a ha, gm_xor a ha h2 h1]
    · exact ih
/-- The product bit by bit is the product by logarithms. -/
theorem rmul_gm {a b : Nat} (ha : a < 256) (hb : b < 256) : rmul a b = gm a b := by
  unfold rmul
  rw [p1_gm a ha b 8 (by omega), Nat.mod_eq_of_lt hb]
theorem p1_lt (a b : Nat) (ha : a < 256) : ∀ k, k ≤ 8 → p1 a b k < 65536
  | 0, _ => by unfold p1; omega
  | k + 1, h => by
    have ih := p1_lt a b ha k (by omega)
    have h1 : 2 ^ k ≤ 128 := Nat.pow_le_pow_right (by omega) (by omega : k ≤ 7)
    have h2 : a * 2 ^ k < 65536 := Nat.lt_of_le_of_lt (Nat.mul_le_mul (by omega : a ≤ 255) h1) (by omega)
    unfold p1
    split
    · exact Nat.xor_lt_two_pow (n := 16) ih h2
    · exact ih
theorem p2_lt (n : Nat) (hn : n < 65536) : ∀ k, k ≤ 8 → p2 n k < 65536
  | 0, _ => hn
  | k + 1, h => by
    have ih := p2_lt n hn k (by omega)
    have h1 : 2 ^ (7 - k) ≤ 128 := Nat.pow_le_pow_right (by omega) (by omega : 7 - k ≤ 7)
    have h2 : 285 * 2 ^ (7 - k) < 65536 := Nat.lt_of_le_of_lt (Nat.mul_le_mul (Nat.le_refl 285) h1) (by omega)
    unfold p2
    split
    · exact Nat.xor_lt_two_pow (n := 16) ih h2
    · exact ih

/-! ## Inverses, powers, roots -/
/-- How often b is in a (b is not 0). -/
def gd (a b : Nat) : Nat := if a = 0 then 0 else pw (lg a + 255 - lg b)
theorem gd_lt (a b : Nat) : gd a b < 256 := by
  unfold gd; split
  · omega
  · exact pw_lt _
theorem gd_gm {a b : Nat} (ha : a < 256) (hb : b < 256) (hb0 : b ≠ 0) : gm (gd a b) b = a := by
  have := lg_lt hb
  unfold gd
  split
  · rename_i h; subst h; exact zero_gm b
  · rename_i h
    conv => lhs; rw [← pw_lg hb hb0]
    rw [lg_pw, Nat.mod_eq_of_lt (lg_lt hb), gm_pw, show lg a + 255 - lg b + lg b = lg a + 255 by omega, pw_per, pw_lg ha h]
theorem gd_one {a : Nat} (ha : a < 256) (ha0 : a ≠ 0) : gm a (gd 1 a) = 1 := by rw [gm_comm, gd_gm (by omega) ha ha0]
theorem inv_pw (a : Nat) : pw (255 - lg a) = gd 1 a := by
  unfold gd; rw [if_neg (by omega), lg_one, Nat.zero_add]
/-- a, i times by itself: i a whole number, below 0 too (a is not 0). -/
def ip (a : Nat) (i : Int) : Nat := pw ((i * (lg a : Int)) % 255).toNat
theorem pw_int (i j : Int) : gm (pw (i % 255).toNat) (pw (j % 255).toNat) = pw ((i + j) % 255).toNat := by
  rw [gm_pw, ← pw_mod]; congr 1; omega
theorem ip_add (a : Nat) (i j : Int) : gm (ip a i) (ip a j) = ip a (i + j) := by
  unfold ip
  rw [pw_int]
  congr 3
  rw [Int.add_mul]
theorem lg_ip (a : Nat) (i : Int) : (lg (ip a i) : Int) = (i * (lg a : Int)) % 255 := by
  unfold ip
  rw [lg_pw]
  omega
theorem ip_mul (a : Nat) (i j : Int) : ip (ip a i) j = ip a (i * j) := by
  unfold ip
  congr 2
  rw [show (lg (pw (i * (lg a : Int) % 255).toNat) : Int) = (i * (lg a : Int)) % 255 from lg_ip a i, Int.mul_emod, Int.emod_emod, ← Int.mul_emod]
  congr 1
  rw [← Int.mul_assoc, Int.mul_comm j i]
theorem ip_ne (a : Nat) (i : Int) : ip a i ≠ 0 := pw_ne _
theorem ip_lt (a : Nat) (i : Int) : ip a i < 256 := pw_lt _
theorem ip_zero (a : Nat) : ip a 0 = 1 := by unfold ip; rw [Int.zero_mul]; rfl
theorem ip_two (i : Int) : ip 2 i = pw (i % 255).toNat := by
  unfold ip; rw [show lg 2 = 1 from rfl]; simp

theorem sq_xor {a b : Nat} (ha : a < 256) (hb : b < 256) : gm (a ^^^ b) (a ^^^ b) = gm a a ^^^ gm b b := by
  rw [gm_xor _ (xor_lt ha hb) ha hb, gm_comm _ a, gm_comm _ b, gm_xor a ha ha hb, gm_xor b hb ha hb, gm_comm b a, Nat.xor_assoc, ← Nat.xor_assoc (gm a b), Nat.xor_self, Nat.zero_xor]
theorem xor_zero_iff (a b : Nat) : a ^^^ b = 0 ↔ a = b := by
  constructor
  · intro h
    have : (a ^^^ b) ^^^ b = 0 ^^^ b := by rw [h]
    rwa [Nat.xor_assoc, Nat.xor_self, Nat.xor_zero, Nat.zero_xor] at this
  · rintro rfl; exact Nat.xor_self a
theorem sq_inj {a b : Nat} (ha : a < 256) (hb : b < 256) : gm a a = gm b b ↔ a = b := by
  constructor
  · intro h
    rw [← xor_zero_iff, ← sq_xor ha hb] at h
    rw [← xor_zero_iff]
    exact Classical.byContradiction fun hne => gm_ne hne hne h
  · rintro rfl; rfl
end Go.Proofs.Ytoipbblgbbocnaa
