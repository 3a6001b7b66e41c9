/- The plain mathematics of the sum of bytes (CRC-32C) and of the digest: no program and no memory. -/
import Derived.Laws.Small
namespace Go.Proofs.Ytphackphganglaa

/-- One step of the register. -/
def regStep (r : UInt32) : UInt32 := if r % 2 = 1 then (r >>> 1) ^^^ 2197175160 else r >>> 1

def regN : Nat → UInt32 → UInt32
  | 0, r => r
  | n + 1, r => regN n (regStep r)

def reg (r : UInt32) (b : UInt8) : UInt32 := regN 8 (r ^^^ b.toUInt32)

def regs (r : UInt32) (l : List UInt8) : UInt32 := l.foldl reg r

/-- The sum behind a string of bytes. -/
def upd (sum : UInt32) (l : List UInt8) : UInt32 := (regs (sum ^^^ 4294967295) l) ^^^ 4294967295

def combN : Nat → UInt32 → UInt32
  | 0, a => a
  | n + 1, a => combN n (reg a 0)

theorem regN_snoc (n : Nat) (r : UInt32) : regN (n + 1) r = regStep (regN n r) := by
  induction n generalizing r with
  | zero => rfl
  | succ n ih => rw [regN, ih]; rfl

theorem regN_add (m n : Nat) (r : UInt32) : regN (m + n) r = regN n (regN m r) := by
  induction m generalizing r with
  | zero => simp [regN]
  | succ m ih => rw [Nat.succ_add, regN, ih]; rfl

theorem regs_snoc (r : UInt32) (l : List UInt8) (b : UInt8) : regs r (l ++ [b]) = reg (regs r l) b := by
  simp [regs]

theorem combN_snoc (n : Nat) (a : UInt32) : combN (n + 1) a = reg (combN n a) 0 := by
  induction n generalizing a with
  | zero => rfl
  | succ n ih => rw [combN, ih]; rfl

/-! ## The register is linear -/
theorem mod2_xor (a b : UInt32) : (a ^^^ b) % 2 = (a % 2) ^^^ (b % 2) := by
  apply UInt32.toNat_inj.1
  simp only [UInt32.toNat_mod, UInt32.toNat_xor, UInt32.reduceToNat]
  exact Nat.xor_mod_two_pow (n := 1)

theorem mod2_cases (a : UInt32) : a % 2 = 0 ∨ a % 2 = 1 := by
  have h : (a % 2).toNat < 2 := by rw [UInt32.toNat_mod]; exact Nat.mod_lt _ (by decide)
  rcases Nat.lt_or_ge (a % 2).toNat 1 with h1 | h1
  · exact .inl (UInt32.toNat_inj.1 (show (a % 2).toNat = 0 by omega))
  · exact .inr (UInt32.toNat_inj.1 (show (a % 2).toNat = 1 by omega))

theorem shr1_xor (a b : UInt32) : (a ^^^ b) >>> 1 = (a >>> 1) ^^^ (b >>> 1) := by
  apply UInt32.toNat_inj.1
  simp only [UInt32.toNat_shiftRight, UInt32.toNat_xor, UInt32.reduceToNat]
  exact Nat.shiftRight_xor_distrib

theorem regStep_xor (a b : UInt32) : regStep (a ^^^ b) = regStep a ^^^ regStep b := by
  have hx : ∀ x y p : UInt32, x ^^^ y = (x ^^^ p) ^^^ (y ^^^ p) := by
    intro x y p; rw [UInt32.xor_assoc, UInt32.xor_comm p, UInt32.xor_assoc, UInt32.xor_self, UInt32.xor_zero]
  unfold regStep
  rw [mod2_xor, shr1_xor]
  rcases mod2_cases a with ha | ha <;> rcases mod2_cases b with hb | hb <;> rw [ha, hb] <;> simp
  · rw [UInt32.xor_assoc]
  · rw [UInt32.xor_assoc, UInt32.xor_assoc, UInt32.xor_comm 2197175160]
  · exact hx _ _ _

theorem regStep_zero : regStep 0 = 0 := by decide

theorem regN_xor (n : Nat) (a b : UInt32) : regN n (a ^^^ b) = regN n a ^^^ regN n b := by
  induction n generalizing a b with
  | zero => rfl
  | succ n ih => rw [regN, regStep_xor, ih]; rfl

theorem regN_zero (n : Nat) : regN n 0 = 0 := by
  induction n with
  | zero => rfl
  | succ n ih => rw [regN, regStep_zero, ih]

theorem regStep_even (a : UInt32) (h : a.toNat % 2 = 0) : (regStep a).toNat = a.toNat / 2 := by
  have h0 : ¬ a % 2 = 1 := by
    intro e
    have := congrArg UInt32.toNat e
    rw [UInt32.toNat_mod] at this
    simp at this
    omega
  rw [regStep, if_neg h0, UInt32.toNat_shiftRight]
  simp [Nat.shiftRight_succ]

theorem regN_high (n : Nat) (a : UInt32) (q : Nat) (h : a.toNat = q * 2 ^ n) : (regN n a).toNat = q := by
  induction n generalizing a with
  | zero => simpa [regN] using h
  | succ n ih =>
    rw [regN]
    refine ih _ ?_
    have h2 : a.toNat = q * 2 ^ n * 2 := by rw [h, Nat.pow_succ, Nat.mul_assoc]
    rw [regStep_even _ (by omega), h2]
    omega

/-- A word in two parts, the low byte and the rest. -/
theorem split8 (r : UInt32) : r = (r.toUInt8.toUInt32) ^^^ (r >>> 8 <<< 8) := by
  apply UInt32.toNat_inj.1
  have h1 : (r.toUInt8.toUInt32).toNat = r.toNat % 256 := by simp
  have h2 : (r >>> 8 <<< 8).toNat = r.toNat / 256 * 256 := by
    rw [UInt32.toNat_shiftLeft, UInt32.toNat_shiftRight]
    simp [Nat.shiftRight_eq_div_pow, Nat.shiftLeft_eq]
    have := r.toNat_lt
    omega
  rw [UInt32.toNat_xor, h1, h2]
  have h3 := (Nat.two_pow_add_eq_or_of_lt (i := 8) (b := r.toNat % 256) (by omega) (r.toNat / 256))
  have h4 : (2 ^ 8 * (r.toNat / 256)) &&& (r.toNat % 256) = 0 := by
    apply Nat.eq_of_testBit_eq
    intro i
    rw [Nat.testBit_and, Nat.testBit_two_pow_mul, Nat.zero_testBit]
    by_cases hi : 8 ≤ i
    · have : (r.toNat % 256).testBit i = false := Nat.testBit_lt_two_pow (Nat.lt_of_lt_of_le (by omega : r.toNat % 256 < 2 ^ 8) (Nat.pow_le_pow_right (by decide) hi))
      simp [this]
    · simp [hi]
  have h5 : r.toNat = 2 ^ 8 * (r.toNat / 256) + r.toNat % 256 := by omega
  have hx : ∀ a b : Nat, a &&& b = 0 → a ||| b = b ^^^ a := by
    intro a b hab
    apply Nat.eq_of_testBit_eq
    intro i
    have := congrArg (Nat.testBit · i) hab
    simp only [Nat.testBit_and, Nat.zero_testBit] at this
    rw [Nat.testBit_or, Nat.testBit_xor]
    revert this
    cases a.testBit i <;> cases b.testBit i <;> simp
  have h6 : r.toNat / 256 * 256 = 2 ^ 8 * (r.toNat / 256) := by omega
  rw [h6, ← hx _ _ h4, ← h3]
  omega

/-- The table's way: the rest shifted, and the entry of the low byte. -/
theorem reg_table (r : UInt32) (b : UInt8) : (r >>> 8) ^^^ regN 8 (r.toUInt8 ^^^ b).toUInt32 = reg r b := by
  have hhi : regN 8 (r >>> 8 <<< 8) = r >>> 8 := by
    apply UInt32.toNat_inj.1
    refine regN_high 8 _ _ ?_
    rw [UInt32.toNat_shiftLeft, UInt32.toNat_shiftRight]
    simp [Nat.shiftRight_eq_div_pow, Nat.shiftLeft_eq]
    have := r.toNat_lt
    omega
  have hlow : (r.toUInt8 ^^^ b).toUInt32 = r.toUInt8.toUInt32 ^^^ b.toUInt32 := by
    apply UInt32.toNat_inj.1
    simp
  rw [hlow, regN_xor]
  conv => rhs; rw [reg, split8 r, regN_xor, regN_xor, hhi]
  rw [UInt32.xor_comm (r >>> 8), UInt32.xor_assoc, UInt32.xor_assoc, UInt32.xor_comm (r >>> 8)]

end Go.Proofs.Ytphackphganglaa
