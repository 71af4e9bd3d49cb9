/-
  The plain law of the check sum, with no program in sight: the register as a bit vector, moved bit by bit and byte by byte; that it is linear, and that nothing but 0 is moved to 0.
-/
namespace Go.Proofs.Ythbjgjeehmcdeaa

/-- The register moved by one bit 0. -/
def zs (x : BitVec 32) : BitVec 32 := (x <<< 1) ^^^ (if x.msb then 0x04c11db7#32 else 0#32)
def zn : Nat → BitVec 32 → BitVec 32
  | 0, x => x
  | n + 1, x => zs (zn n x)

theorem zn_zero (x : BitVec 32) : zn 0 x = x := rfl
theorem zn_succ (n : Nat) (x : BitVec 32) : zn (n + 1) x = zs (zn n x) := rfl

def up (b : UInt8) : BitVec 32 := BitVec.ofNat 32 b.toNat

/-- The register behind a byte. -/
def step (x : BitVec 32) (b : UInt8) : BitVec 32 := zn 8 (x ^^^ (up b <<< 24))
/-- The register behind bytes. -/
def more (x : BitVec 32) (l : List UInt8) : BitVec 32 := l.foldl step x
theorem more_nil (x : BitVec 32) : more x [] = x := rfl
theorem more_cons (x : BitVec 32) (b : UInt8) (l : List UInt8) : more x (b :: l) = more (step x b) l := rfl
theorem more_append (x : BitVec 32) (l k : List UInt8) : more x (l ++ k) = more (more x l) k := by simp [more, List.foldl_append]

/-! ## Linear -/
theorem shl_xor (a b : BitVec 32) (n : Nat) : (a ^^^ b) <<< n = (a <<< n) ^^^ (b <<< n) := BitVec.shiftLeft_xor_distrib a b n

theorem xor4 (a b c d : BitVec 32) : (a ^^^ b) ^^^ (c ^^^ d) = (a ^^^ c) ^^^ (b ^^^ d) := by
  ext i; simp only [BitVec.getElem_xor]; cases a[i] <;> cases b[i] <;> cases c[i] <;> cases d[i] <;> rfl

theorem zs_xor (a b : BitVec 32) : zs (a ^^^ b) = zs a ^^^ zs b := by
  unfold zs
  rw [shl_xor, BitVec.msb_xor, xor4]
  congr 1
  cases a.msb <;> cases b.msb <;> decide

theorem zn_xor (n : Nat) (a b : BitVec 32) : zn n (a ^^^ b) = zn n a ^^^ zn n b := by
  induction n with
  | zero => rfl
  | succ n ih => rw [zn_succ, zn_succ, zn_succ, ih, zs_xor]

theorem zn_add (m n : Nat) (x : BitVec 32) : zn m (zn n x) = zn (m + n) x := by
  induction m with
  | zero => simp [zn_zero]
  | succ m ih => rw [zn_succ, ih, Nat.succ_add, zn_succ]

theorem up_xor (a b : UInt8) : up (a ^^^ b) = up a ^^^ up b := by
  apply BitVec.eq_of_toNat_eq
  have ha := a.toNat_lt
  have hb := b.toNat_lt
  have hx : a.toNat ^^^ b.toNat < 2 ^ 8 := Nat.xor_lt_two_pow ha hb
  simp only [up, BitVec.toNat_xor, BitVec.toNat_ofNat, UInt8.toNat_xor]
  rw [Nat.mod_eq_of_lt (by omega), Nat.mod_eq_of_lt (by omega), Nat.mod_eq_of_lt (by omega)]

theorem step_xor (x y : BitVec 32) (a b : UInt8) : step (x ^^^ y) (a ^^^ b) = step x a ^^^ step y b := by
  unfold step
  rw [up_xor, shl_xor, xor4, zn_xor]

theorem more_xor : ∀ (l k : List UInt8) (x y : BitVec 32), l.length = k.length →
    more (x ^^^ y) (List.zipWith (· ^^^ ·) l k) = more x l ^^^ more y k
  | [], [], _, _, _ => rfl
  | a :: l, b :: k, x, y, h => by
    rw [List.zipWith_cons_cons, more_cons, more_cons, more_cons, step_xor, more_xor l k _ _ (by simpa using h)]
  | [], _ :: _, _, _, h => by simp at h
  | _ :: _, [], _, _, h => by simp at h

/-! ## Nothing but 0 goes to 0 -/
theorem zs_zero : zs 0#32 = 0#32 := by decide
theorem zs_ne {x : BitVec 32} (h : x ≠ 0#32) : zs x ≠ 0#32 := by
  intro e
  apply h
  unfold zs at e
  cases hm : x.msb with
  | true =>
    rw [hm, if_pos rfl] at e
    have : ((x <<< 1) ^^^ 0x04c11db7#32).getLsbD 0 = false := by rw [e]; rfl
    simp at this
  | false =>
    rw [hm] at e
    simp only [Bool.false_eq_true, if_false, BitVec.xor_zero] at e
    have h1 : x.toNat < 2147483648 := by
      have := BitVec.msb_eq_false_iff_two_mul_lt.1 hm
      omega
    have h2 : (x <<< 1).toNat = 0 := by rw [e]; rfl
    rw [BitVec.toNat_shiftLeft, Nat.shiftLeft_eq] at h2
    apply BitVec.eq_of_toNat_eq
    have : (0#32).toNat = 0 := rfl
    omega

theorem zn_zero_reg (n : Nat) : zn n 0#32 = 0#32 := by
  induction n with
  | zero => rfl
  | succ n ih => rw [zn_succ, ih, zs_zero]
theorem zn_ne (n : Nat) {x : BitVec 32} (h : x ≠ 0#32) : zn n x ≠ 0#32 := by
  induction n with
  | zero => exact h
  | succ n ih => rw [zn_succ]; exact zs_ne ih
theorem zn_eq_zero (n : Nat) (x : BitVec 32) : zn n x = 0#32 ↔ x = 0#32 :=
  ⟨fun h => Classical.byContradiction fun k => zn_ne n k h, fun h => by rw [h, zn_zero_reg]⟩

/-- Bytes 0 move the register alone. -/
theorem more_zeros (x : BitVec 32) (n : Nat) : more x (List.replicate n 0) = zn (8 * n) x := by
  induction n generalizing x with
  | zero => rfl
  | succ n ih =>
    rw [List.replicate_succ, more_cons, ih]
    have : step x 0 = zn 8 x := by
      unfold step
      have : up 0 <<< 24 = 0#32 := by decide
      rw [this, BitVec.xor_zero]
    rw [this, zn_add, Nat.mul_succ]

/-! ## Four bytes -/
def word (a b c d : UInt8) : BitVec 32 := (up a <<< 24) ^^^ (up b <<< 16) ^^^ (up c <<< 8) ^^^ up d

theorem zn8_16 : ∀ n, n < 256 → zn 8 (BitVec.ofNat 32 n <<< 16) = BitVec.ofNat 32 n <<< 24 := by decide +kernel
theorem zn16_8 : ∀ n, n < 256 → zn 16 (BitVec.ofNat 32 n <<< 8) = BitVec.ofNat 32 n <<< 24 := by decide +kernel
theorem zn24_0 : ∀ n, n < 256 → zn 24 (BitVec.ofNat 32 n) = BitVec.ofNat 32 n <<< 24 := by decide +kernel

theorem more_four (x : BitVec 32) (a b c d : UInt8) : more x [a, b, c, d] = zn 32 (x ^^^ word a b c d) := by
  have hb : up b <<< 24 = zn 8 (up b <<< 16) := (zn8_16 b.toNat b.toNat_lt).symm
  have hc : up c <<< 24 = zn 16 (up c <<< 8) := (zn16_8 c.toNat c.toNat_lt).symm
  have hd : up d <<< 24 = zn 24 (up d) := (zn24_0 d.toNat d.toNat_lt).symm
  rw [more_cons, more_cons, more_cons, more_cons, more_nil]
  unfold step
  rw [hb, hc, hd, ← zn_xor, zn_add, ← zn_xor, zn_add, ← zn_xor, zn_add]
  unfold word
  rw [BitVec.xor_assoc, BitVec.xor_assoc, BitVec.xor_assoc, BitVec.xor_assoc, BitVec.xor_assoc]

def by3 (x : BitVec 32) : UInt8 := UInt8.ofNat (x.toNat / 16777216)
def by2 (x : BitVec 32) : UInt8 := UInt8.ofNat (x.toNat / 65536)
def by1 (x : BitVec 32) : UInt8 := UInt8.ofNat (x.toNat / 256)
def by0 (x : BitVec 32) : UInt8 := UInt8.ofNat x.toNat
def four (x : BitVec 32) : List UInt8 := [by3 x, by2 x, by1 x, by0 x]

theorem up_toNat (a : UInt8) : (up a).toNat = a.toNat := by
  have := a.toNat_lt
  simp only [up, BitVec.toNat_ofNat]
  omega

theorem getLsbD_up (a : UInt8) (i : Nat) : (up a).getLsbD i = a.toNat.testBit i := by
  have h := a.toNat_lt
  simp only [up, BitVec.getLsbD_ofNat]
  by_cases hi : i < 32
  · simp [hi]
  · have : a.toNat < 2 ^ i := Nat.lt_of_lt_of_le h (Nat.pow_le_pow_right (by omega) (by omega : 8 ≤ i))
    simp [Nat.testBit_lt_two_pow this]

theorem testBit_byte (n i : Nat) : (UInt8.ofNat n).toNat.testBit i = (decide (i < 8) && n.testBit i) := by
  rw [UInt8.toNat_ofNat']
  exact Nat.testBit_mod_two_pow n 8 i

theorem testBit_div (n k i : Nat) : (n / 2 ^ k).testBit i = n.testBit (k + i) := by
  rw [Nat.testBit_div_two_pow, Nat.add_comm]

theorem word_by (x : BitVec 32) : word (by3 x) (by2 x) (by1 x) (by0 x) = x := by
  apply BitVec.eq_of_getLsbD_eq
  intro i hi
  have e3 : (by3 x).toNat.testBit (i - 24) = (decide (i - 24 < 8) && x.getLsbD (24 + (i - 24))) := by
    unfold by3; rw [testBit_byte, show (16777216 : Nat) = 2 ^ 24 from rfl, testBit_div]; rfl
  have e2 : (by2 x).toNat.testBit (i - 16) = (decide (i - 16 < 8) && x.getLsbD (16 + (i - 16))) := by
    unfold by2; rw [testBit_byte, show (65536 : Nat) = 2 ^ 16 from rfl, testBit_div]; rfl
  have e1 : (by1 x).toNat.testBit (i - 8) = (decide (i - 8 < 8) && x.getLsbD (8 + (i - 8))) := by
    unfold by1; rw [testBit_byte, show (256 : Nat) = 2 ^ 8 from rfl, testBit_div]; rfl
  have e0 : (by0 x).toNat.testBit i = (decide (i < 8) && x.getLsbD i) := by
    unfold by0; rw [testBit_byte]; rfl
  simp only [word, BitVec.getLsbD_xor, BitVec.getLsbD_shiftLeft, getLsbD_up, e0, e1, e2, e3]
  rcases (by omega : i < 8 ∨ (8 ≤ i ∧ i < 16) ∨ (16 ≤ i ∧ i < 24) ∨ 24 ≤ i) with h | ⟨h, k⟩ | ⟨h, k⟩ | h
  · simp [hi, h, show i < 16 by omega, show i < 24 by omega]
  · simp [hi, k, show ¬ i < 8 by omega, show i < 24 by omega, show i - 8 < 8 by omega, show 8 + (i - 8) = i by omega]
  · simp [hi, k, show ¬ i < 8 by omega, show ¬ i < 16 by omega, show i - 16 < 8 by omega, show ¬ i - 8 < 8 by omega, show 16 + (i - 16) = i by omega]
  · simp [hi, show ¬ i < 8 by omega, show ¬ i < 16 by omega, show ¬ i < 24 by omega, show i - 24 < 8 by omega, show ¬ i - 16 < 8 by omega, show ¬ i - 8 < 8 by omega, show 24 + (i - 24) = i by omega]

theorem up_inj {a b : UInt8} (h : up a = up b) : a = b := by
  have : (up a).toNat = (up b).toNat := by rw [h]
  rw [up_toNat, up_toNat] at this
  exact UInt8.toNat_inj.1 this

theorem word_bit (a b c d : UInt8) (i : Nat) (hi : i < 8) :
    (word a b c d).getLsbD (24 + i) = a.toNat.testBit i ∧ (word a b c d).getLsbD (16 + i) = b.toNat.testBit i ∧
    (word a b c d).getLsbD (8 + i) = c.toNat.testBit i ∧ (word a b c d).getLsbD i = d.toNat.testBit i := by
  have hz : ∀ (u : UInt8) j, 8 ≤ j → u.toNat.testBit j = false := fun u j hj =>
    Nat.testBit_lt_two_pow (Nat.lt_of_lt_of_le u.toNat_lt (Nat.pow_le_pow_right (by omega) hj))
  refine ⟨?_, ?_, ?_, ?_⟩ <;> simp only [word, BitVec.getLsbD_xor, BitVec.getLsbD_shiftLeft, getLsbD_up]
  · simp [show 24 + i < 32 by omega, show ¬ 24 + i < 24 by omega, show ¬ 24 + i < 16 by omega, show ¬ 24 + i < 8 by omega, hz b (24 + i - 16) (by omega), hz c (24 + i - 8) (by omega), hz d (24 + i) (by omega), show 24 + i - 24 = i by omega]
  · simp [show 16 + i < 32 by omega, show 16 + i < 24 by omega, show ¬ 16 + i < 16 by omega, show ¬ 16 + i < 8 by omega, hz c (16 + i - 8) (by omega), hz d (16 + i) (by omega), show 16 + i - 16 = i by omega]
  · simp [show 8 + i < 32 by omega, show 8 + i < 24 by omega, show 8 + i < 16 by omega, show ¬ 8 + i < 8 by omega, hz d (8 + i) (by omega), show 8 + i - 8 = i by omega]
  · simp [show i < 32 by omega, show i < 24 by omega, show i < 16 by omega, show i < 8 by omega]

theorem byte_ext {a b : UInt8} (h : ∀ i, i < 8 → a.toNat.testBit i = b.toNat.testBit i) : a = b := by
  apply UInt8.toNat_inj.1
  apply Nat.eq_of_testBit_eq
  intro i
  by_cases hi : i < 8
  · exact h i hi
  · rw [Nat.testBit_lt_two_pow (Nat.lt_of_lt_of_le a.toNat_lt (Nat.pow_le_pow_right (by omega) (by omega : 8 ≤ i))),
      Nat.testBit_lt_two_pow (Nat.lt_of_lt_of_le b.toNat_lt (Nat.pow_le_pow_right (by omega) (by omega : 8 ≤ i)))]

theorem word_inj {a b c d a' b' c' d' : UInt8} (h : word a b c d = word a' b' c' d') : a = a' ∧ b = b' ∧ c = c' ∧ d = d' := by
  refine ⟨byte_ext fun i hi => ?_, byte_ext fun i hi => ?_, byte_ext fun i hi => ?_, byte_ext fun i hi => ?_⟩
  · rw [← (word_bit a b c d i hi).1, ← (word_bit a' b' c' d' i hi).1, h]
  · rw [← (word_bit a b c d i hi).2.1, ← (word_bit a' b' c' d' i hi).2.1, h]
  · rw [← (word_bit a b c d i hi).2.2.1, ← (word_bit a' b' c' d' i hi).2.2.1, h]
  · rw [← (word_bit a b c d i hi).2.2.2, ← (word_bit a' b' c' d' i hi).2.2.2, h]

theorem xor_eq_zero (a b : BitVec 32) : a ^^^ b = 0#32 ↔ a = b := by
  constructor
  · intro h
    have : (a ^^^ b) ^^^ b = 0#32 ^^^ b := by rw [h]
    rwa [BitVec.xor_assoc, BitVec.xor_self, BitVec.xor_zero, BitVec.zero_xor] at this
  · intro h; rw [h, BitVec.xor_self]

/-- Four bytes bring the register to 0 just if they are the register's own. -/
theorem more_four_zero (x : BitVec 32) (a b c d : UInt8) : more x [a, b, c, d] = 0#32 ↔ [a, b, c, d] = four x := by
  rw [more_four, zn_eq_zero, xor_eq_zero]
  constructor
  · intro h
    rw [← word_by x] at h
    obtain ⟨h3, h2, h1, h0⟩ := word_inj h
    simp [four, ← h3, ← h2, ← h1, ← h0]
  · intro h
    simp only [four, List.cons.injEq, and_true] at h
    obtain ⟨rfl, rfl, rfl, rfl⟩ := h
    exact (word_by x).symm

def ones : BitVec 32 := 0xffffffff#32
def sum (l : List UInt8) : BitVec 32 := more ones l
def sealed (l : List UInt8) : List UInt8 := l ++ four (sum l)

theorem more_own (x : BitVec 32) : more x (four x) = 0#32 := (more_four_zero x _ _ _ _).2 rfl
theorem sum_seal (l : List UInt8) : sum (sealed l) = 0#32 := by
  unfold sealed sum
  rw [more_append]
  exact more_own _

theorem four_len (x : BitVec 32) : (four x).length = 4 := rfl
theorem seal_len (l : List UInt8) : (sealed l).length = l.length + 4 := by simp [sealed, four_len]

/-- Sum is 0 just where the last four are the check sum of those ahead. -/
theorem sum_zero_iff (l : List UInt8) (h : 4 ≤ l.length) : sum l = 0#32 ↔ sealed (l.take (l.length - 4)) = l := by
  have hd : (l.drop (l.length - 4)).length = 4 := by rw [List.length_drop]; omega
  obtain ⟨a, b, c, d, e⟩ : ∃ a b c d, l.drop (l.length - 4) = [a, b, c, d] := by
    match l.drop (l.length - 4), hd with
    | [a, b, c, d], _ => exact ⟨a, b, c, d, rfl⟩
  have hl : l = l.take (l.length - 4) ++ [a, b, c, d] := by rw [← e, List.take_append_drop]
  have hs : sum l = more (sum (l.take (l.length - 4))) [a, b, c, d] := by
    conv => lhs; rw [hl]
    unfold sum; rw [more_append]
  rw [hs, more_four_zero]
  unfold sealed
  constructor
  · intro h; rw [← h]; exact hl.symm
  · intro h
    have := h.trans hl
    exact (List.append_cancel_left this).symm

/-! ## A burst of up to four bytes -/
theorem more_zero_rep (n : Nat) : more 0#32 (List.replicate n 0) = 0#32 := by rw [more_zeros, zn_zero_reg]

theorem more_short (l : List UInt8) (h : l.length ≤ 4) (h0 : more 0#32 l = 0#32) : ∀ b ∈ l, b = 0 := by
  have hp : more 0#32 (l ++ List.replicate (4 - l.length) 0) = 0#32 := by
    rw [more_append, h0, more_zero_rep]
  have hl : (l ++ List.replicate (4 - l.length) 0).length = 4 := by simp; omega
  intro b hb
  have hb' : b ∈ l ++ List.replicate (4 - l.length) 0 := List.mem_append_left _ hb
  generalize l ++ List.replicate (4 - l.length) 0 = k at hp hl hb'
  match k, hl with
  | [a, b', c, d], _ =>
    rw [more_four_zero] at hp
    rw [hp] at hb'
    have : four 0#32 = [0, 0, 0, 0] := by decide
    rw [this] at hb'
    simpa using hb'

theorem all_zero_rep (l : List UInt8) (h : ∀ b ∈ l, b = 0) : l = List.replicate l.length 0 := List.eq_replicate_of_mem h

/-- What is 0 outside four places in a row, and brings the register from 0 to 0, is 0. -/
theorem window (d : List UInt8) (p m : Nat) (hm : m ≤ 4) (hz : ∀ i (h : i < d.length), d[i] ≠ 0 → p ≤ i ∧ i < p + m)
    (h0 : more 0#32 d = 0#32) : ∀ b ∈ d, b = 0 := by
  have hd : d = d.take p ++ ((d.drop p).take m ++ (d.drop p).drop m) := by rw [List.take_append_drop, List.take_append_drop]
  have z1 : ∀ b ∈ d.take p, b = 0 := by
    intro b hb
    obtain ⟨i, hi, rfl⟩ := List.getElem_of_mem hb
    have hi' : i < d.length ∧ i < p := by rw [List.length_take] at hi; omega
    rw [List.getElem_take]
    refine Classical.byContradiction fun hne => ?_
    have := hz i hi'.1 hne
    omega
  have z3 : ∀ b ∈ (d.drop p).drop m, b = 0 := by
    intro b hb
    obtain ⟨i, hi, rfl⟩ := List.getElem_of_mem hb
    have hi' : p + m + i < d.length := by rw [List.length_drop, List.length_drop] at hi; omega
    have e : ((d.drop p).drop m)[i] = d[p + m + i] := by
      rw [List.getElem_drop, List.getElem_drop]; congr 1; omega
    rw [e]
    refine Classical.byContradiction fun hne => ?_
    have := hz (p + m + i) hi' hne
    omega
  have z2 : ∀ b ∈ (d.drop p).take m, b = 0 := by
    apply more_short
    · rw [List.length_take]; omega
    · rw [hd, more_append, all_zero_rep _ z1, more_zero_rep, more_append, all_zero_rep _ z3, more_zeros, zn_eq_zero] at h0
      exact h0
  intro b hb
  rw [hd] at hb
  rcases List.mem_append.1 hb with h | h
  · exact z1 b h
  · rcases List.mem_append.1 h with h | h
    · exact z2 b h
    · exact z3 b h

theorem zip_zero_eq : ∀ (l k : List UInt8), l.length = k.length → (∀ b ∈ List.zipWith (· ^^^ ·) l k, b = 0) → l = k
  | [], [], _, _ => rfl
  | a :: l, b :: k, h, hz => by
    rw [List.zipWith_cons_cons] at hz
    have h1 : a ^^^ b = 0 := hz _ (List.mem_cons_self ..)
    rw [zip_zero_eq l k (by simpa using h) (fun c hc => hz c (List.mem_cons_of_mem _ hc)), UInt8.xor_eq_zero_iff.1 h1]
  | [], _ :: _, h, _ => by simp at h
  | _ :: _, [], h, _ => by simp at h

/-- Two texts of one length and one check sum that differ in four places in a row alone do not differ. -/
theorem burst (l k : List UInt8) (hl : l.length = k.length) (p m : Nat) (hm : m ≤ 4)
    (hz : ∀ i (h : i < l.length), l[i] ≠ k[i] → p ≤ i ∧ i < p + m) (x : BitVec 32) (h : more x l = more x k) : l = k := by
  apply zip_zero_eq l k hl
  apply window _ p m hm
  · intro i hi hne
    have hi' : i < l.length := by rw [List.length_zipWith] at hi; omega
    refine hz i hi' fun e => hne ?_
    rw [List.getElem_zipWith, e, UInt8.xor_self]
  · have := more_xor l k x x hl
    rw [BitVec.xor_self, h, BitVec.xor_self] at this
    exact this

/-! ## The table -/
def row (n : Nat) : BitVec 32 := zn 8 (BitVec.ofNat 32 n <<< 24)

theorem zn8_low : ∀ a, a < 256 → ∀ k, k < 3 → zn 8 (BitVec.ofNat 32 a <<< (8 * k)) = BitVec.ofNat 32 a <<< (8 * k + 8) := by decide +kernel

theorem top_byte (x : BitVec 32) : (x >>> 24).toNat = (by3 x).toNat := by
  unfold by3
  rw [BitVec.toNat_ushiftRight, Nat.shiftRight_eq_div_pow, UInt8.toNat_ofNat']
  have := x.isLt
  omega

theorem step_row (x : BitVec 32) (b : UInt8) : step x b = (x <<< 8) ^^^ row ((by3 x).toNat ^^^ b.toNat) := by
  have h0 : row ((by3 x).toNat ^^^ b.toNat) = zn 8 (up (by3 x) <<< 24) ^^^ zn 8 (up b <<< 24) := by
    rw [← zn_xor, ← shl_xor, ← up_xor]
    unfold row up
    rw [UInt8.toNat_xor]
  have hx : zn 8 x = zn 8 (up (by3 x) <<< 24) ^^^ zn 8 (up (by2 x) <<< 16) ^^^ zn 8 (up (by1 x) <<< 8) ^^^ zn 8 (up (by0 x)) := by
    conv => lhs; rw [← word_by x]
    unfold word
    rw [zn_xor, zn_xor, zn_xor]
  have h2 : zn 8 (up (by2 x) <<< 16) = up (by2 x) <<< 24 := zn8_low _ (UInt8.toNat_lt _) 2 (by omega)
  have h1 : zn 8 (up (by1 x) <<< 8) = up (by1 x) <<< 16 := zn8_low _ (UInt8.toNat_lt _) 1 (by omega)
  have h3 : zn 8 (up (by0 x)) = up (by0 x) <<< 8 := by
    have := zn8_low _ (UInt8.toNat_lt (by0 x)) 0 (by omega)
    simp only [Nat.mul_zero, Nat.zero_add, BitVec.shiftLeft_zero] at this
    exact this
  have hs : x <<< 8 = (up (by2 x) <<< 24) ^^^ (up (by1 x) <<< 16) ^^^ (up (by0 x) <<< 8) := by
    conv => lhs; rw [← word_by x]
    unfold word
    rw [shl_xor, shl_xor, shl_xor, ← BitVec.shiftLeft_add, ← BitVec.shiftLeft_add, ← BitVec.shiftLeft_add]
    rw [show up (by3 x) <<< (24 + 8) = 0#32 from BitVec.shiftLeft_eq_zero (by omega), BitVec.zero_xor]
  unfold step
  rw [zn_xor, h0, hx, hs, h2, h1, h3]
  generalize zn 8 (up (by3 x) <<< 24) = A
  generalize up (by2 x) <<< 24 = B
  generalize up (by1 x) <<< 16 = C
  generalize up (by0 x) <<< 8 = D
  generalize zn 8 (up b <<< 24) = E
  ext i
  simp only [BitVec.getElem_xor]
  cases A[i] <;> cases B[i] <;> cases C[i] <;> cases D[i] <;> cases E[i] <;> rfl

/-! ## Bit by bit -/
def bitAt (b : UInt8) (n : Nat) : Bool := b.toNat.testBit (7 - n)
def stB (b : UInt8) : Nat → BitVec 32 → BitVec 32
  | 0, x => x
  | n + 1, x => ((stB b n x) <<< 1) ^^^ (if (stB b n x).msb != bitAt b n then 0x04c11db7#32 else 0#32)

theorem stB_succ (b : UInt8) (n : Nat) (x : BitVec 32) : stB b (n + 1) x = ((stB b n x) <<< 1) ^^^ (if (stB b n x).msb != bitAt b n then 0x04c11db7#32 else 0#32) := rfl

theorem stB_zn (b : UInt8) (x : BitVec 32) : ∀ n, n ≤ 8 → zn n (x ^^^ (up b <<< 24)) = stB b n x ^^^ (up b <<< (24 + n))
  | 0, _ => rfl
  | n + 1, h => by
    rw [zn_succ, stB_zn b x n (by omega), stB_succ]
    unfold zs
    have hm : (stB b n x ^^^ (up b <<< (24 + n))).msb = ((stB b n x).msb != bitAt b n) := by
      rw [BitVec.msb_xor]
      have : (up b <<< (24 + n)).msb = bitAt b n := by
        rw [BitVec.msb_eq_getLsbD_last, BitVec.getLsbD_shiftLeft, getLsbD_up]
        unfold bitAt
        simp [show ¬ 31 < 24 + n by omega, show 31 - (24 + n) = 7 - n by omega]
      rw [this]
    rw [hm, shl_xor, ← BitVec.shiftLeft_add, BitVec.xor_assoc, BitVec.xor_assoc, BitVec.xor_comm (up b <<< _)]
    rfl

theorem step_bits (x : BitVec 32) (b : UInt8) : stB b 8 x = step x b := by
  unfold step
  rw [stB_zn b x 8 (by omega), show up b <<< (24 + 8) = 0#32 from BitVec.shiftLeft_eq_zero (by omega), BitVec.xor_zero]

end Go.Proofs.Ythbjgjeehmcdeaa
