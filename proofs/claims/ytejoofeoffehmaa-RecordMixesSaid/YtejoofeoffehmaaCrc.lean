/- The plain mathematics of the sum of bytes (CRC-32C) and of the digest: no program and no memory. -/
import Derived.Laws.Small
namespace Go.Proofs.Ytejoofeoffehmaa

/-- One step of the register. -/
def regStep (r : UInt32) : UInt32 := if r % 2 = 1 then (r >>> 1) ^^^ 2197175160 else r >>> 1

def regN : Nat → UInt32 → UInt32
  | 0, r => r
  | n + 1, r => regN n (regStep r)

def reg (r : UInt32) (b : UInt8) : UInt32 := regN 8 (r ^^^ b.toUInt32)

def regs (r : UInt32) (l : List UInt8) : UInt32 := l.foldl reg r

/-- The sum behind a string of bytes. -/
def upd (sum : UInt32) (l : List UInt8) : UInt32 := (regs (sum ^^^ 4294967295) l) ^^^ 4294967295

def combN : Nat → UInt32 → UInt32
  | 0, a => a
  | n + 1, a => combN n (reg a 0)

theorem regN_snoc (n : Nat) (r : UInt32) : regN (n + 1) r = regStep (regN n r) := by
  induction n generalizing r with
  | zero => rfl
  | succ n ih => rw [regN, ih]; rfl

theorem regN_add (m n : Nat) (r : UInt32) : regN (m + n) r = regN n (regN m r) := by
  induction m generalizing r with
  | zero => simp [regN]
  | succ m ih => rw [Nat.succ_add, regN, ih]; rfl

theorem regs_snoc (r : UInt32) (l : List UInt8) (b : UInt8) : regs r (l ++ [b]) = reg (regs r l) b := by
  simp [regs]

theorem combN_snoc (n : Nat) (a : UInt32) : combN (n + 1) a = reg (combN n a) 0 := by
  induction n generalizing a with
  | zero => rfl
  | succ n ih => rw [combN, ih]; rfl

/-! ## The register is linear -/
theorem mod2_xor (a b : UInt32) : (a ^^^ b) % 2 = (a % 2) ^^^ (b % 2) := by
  apply UInt32.toNat_inj.1
  simp only [UInt32.toNat_mod, UInt32.toNat_xor, UInt32.reduceToNat]
  exact Nat.xor_mod_two_pow (n := 1)

theorem mod2_cases (a : UInt32) : a % 2 = 0 ∨ a % 2 = 1 := by
  have h : (a % 2).toNat < 2 := by rw [UInt32.toNat_mod]; exact Nat.mod_lt _ (by decide)
  rcases Nat.lt_or_ge (a % 2).toNat 1 with h1 | h1
  · exact .inl (UInt32.toNat_inj.1 (show (a % 2).toNat = 0 by omega))
  · exact .inr (UInt32.toNat_inj.1 (show (a % 2).toNat = 1 by omega))

theorem shr1_xor (a b : UInt32) : (a ^^^ b) >>> 1 = (a >>> 1) ^^^ (b >>> 1) := by
  apply UInt32.toNat_inj.1
  simp only [UInt32.toNat_shiftRight, UInt32.toNat_xor, UInt32.reduceToNat]
  exact Nat.shiftRight_xor_distrib

theorem regStep_xor (a b : UInt32) : regStep (a ^^^ b) = regStep a ^^^ regStep b := by
  have hx : ∀ x y p : UInt32, x ^^^ y = (x ^^^ p) ^^^ (y ^^^ p) := by
    intro x y p; rw [UInt32.xor_assoc, UInt32.xor_comm p, UInt32.xor_assoc, UInt32.xor_self, UInt32.xor_zero]
  unfold regStep
  rw [mod2_xor, shr1_xor]
  rcases mod2_cases a with ha | ha <;> rcases mod2_cases b with hb | hb <;> rw [ha, hb] <;> simp
  · rw [UInt32.xor_assoc]
  · rw [UInt32.xor_assoc, UInt32.xor_assoc, UInt32.xor_comm 2197175160]
  · exact hx _ _ _

theorem regStep_zero : regStep 0 = 0 := by decide

theorem regN_xor (n : Nat) (a b : UInt32) : regN n (a ^^^ b) = regN n a ^^^ regN n b := by
  induction n generalizing a b with
  | zero => rfl
  | succ n ih => rw [regN, regStep_xor, ih]; rfl

theorem regN_zero (n : Nat) : regN n 0 = 0 := by
  induction n with
  | zero => rfl
  | succ n ih => rw [regN, regStep_zero, ih]

theorem regStep_even (a : UInt32) (h : a.toNat % 2 = 0) : (regStep a).toNat = a.toNat / 2 := by
  have h0 : ¬ a % 2 = 1 := by
    intro e
    have := congrArg UInt32.toNat e
    rw [UInt32.toNat_mod] at this
    simp at this
    omega
  rw [regStep, if_neg h0, UInt32.toNat_shiftRight]
  simp [Nat.shiftRight_succ]

theorem regN_high (n : Nat) (a : UInt32) (q : Nat) (h : a.toNat = q * 2 ^ n) : (regN n a).toNat = q := by
  induction n generalizing a with
  | zero => simpa [regN] using h
  | succ n ih =>
    rw [regN]
    refine ih _ ?_
    have h2 : a.toNat = q * 2 ^ n * 2 := by rw [h, Nat.pow_succ, Nat.mul_assoc]
    rw [regStep_even _ (by omega), h2]
    omega

/-- A word in two parts, the low byte and the rest. -/
theorem split8 (r : UInt32) : r = (r.toUInt8.toUInt32) ^^^ (r >>> 8 <<< 8) := by
  apply UInt32.toNat_inj.1
  have h1 : (r.toUInt8.toUInt32).toNat = r.toNat % 256 := by simp
  have h2 : (r >>> 8 <<< 8).toNat = r.toNat / 256 * 256 := by
    rw [UInt32.toNat_shiftLeft, UInt32.toNat_shiftRight]
    simp [Nat.shiftRight_eq_div_pow, Nat.shiftLeft_eq]
    have := r.toNat_lt
    omega
  rw [UInt32.toNat_xor, h1, h2]
  have h3 := (Nat.two_pow_add_eq_or_of_lt (i := 8) (b := r.toNat % 256) (by omega) (r.toNat / 256))
  have h4 : (2 ^ 8 * (r.toNat / 256)) &&& (r.toNat % 256) = 0 := by
    apply Nat.eq_of_testBit_eq
    intro i
    rw [Nat.testBit_and, Nat.testBit_two_pow_mul, Nat.zero_testBit]
    by_cases hi : 8 ≤ i
    · have : (r.toNat % 256).testBit i = false := Nat.testBit_lt_two_pow (Nat.lt_of_lt_of_le (by omega : r.toNat % 256 < 2 ^ 8) (Nat.pow_le_pow_right (by decide) hi))
      simp [this]
    · simp [hi]
  have h5 : r.toNat = 2 ^ 8 * (r.toNat / 256) + r.toNat % 256 := by omega
  have hx : ∀ a b : Nat, a &&& b = 0 → a ||| b = b ^^^ a := by
    intro a b hab
    apply Nat.eq_of_testBit_eq
    intro i
    have := congrArg (Nat.testBit · i) hab
    simp only [Nat.testBit_and, Nat.zero_testBit] at this
    rw [Nat.testBit_or, Nat.testBit_xor]
    revert this
    cases a.testBit i <;> cases b.testBit i <;> simp
  have h6 : r.toNat / 256 * 256 = 2 ^ 8 * (r.toNat / 256) := by omega
  rw [h6, ← hx _ _ h4, ← h3]
  omega

/-- The table's way: the rest shifted, and the entry of the low byte. -/
theorem reg_table (r : UInt32) (b : UInt8) : (r >>> 8) ^^^ regN 8 (r.toUInt8 ^^^ b).toUInt32 = reg r b := by
  have hhi : regN 8 (r >>> 8 <<< 8) = r >>> 8 := by
    apply UInt32.toNat_inj.1
    refine regN_high 8 _ _ ?_
    rw [UInt32.toNat_shiftLeft, UInt32.toNat_shiftRight]
    simp [Nat.shiftRight_eq_div_pow, Nat.shiftLeft_eq]
    have := r.toNat_lt
    omega
  have hlow : (r.toUInt8 ^^^ b).toUInt32 = r.toUInt8.toUInt32 ^^^ b.toUInt32 := by
    apply UInt32.toNat_inj.1
    simp
  rw [hlow, regN_xor]
  conv => rhs; rw [reg, split8 r, regN_xor, regN_xor, hhi]
  rw [UInt32.xor_comm (r >>> 8), UInt32.xor_assoc, UInt32.xor_assoc, UInt32.xor_comm (r >>> 8)]

/-! ## The laws -/
theorem xor_ones (a : UInt32) : a ^^^ 4294967295 ^^^ 4294967295 = a := by rw [UInt32.xor_assoc, UInt32.xor_self, UInt32.xor_zero]
theorem regs_append (r : UInt32) (x y : List UInt8) : regs r (x ++ y) = regs (regs r x) y := by simp [regs]
theorem upd_append (s : UInt32) (x y : List UInt8) : upd (upd s x) y = upd s (x ++ y) := by
  unfold upd
  rw [xor_ones, regs_append]
theorem reg_lin (a b : UInt32) (c : UInt8) : reg (a ^^^ b) c = reg a c ^^^ reg b 0 := by
  unfold reg
  rw [← regN_xor]
  congr 1
  have h0 : (0 : UInt8).toUInt32 = 0 := rfl
  rw [h0, UInt32.xor_zero, UInt32.xor_assoc, UInt32.xor_comm b, ← UInt32.xor_assoc]
theorem regs_lin (y : List UInt8) : ∀ a b : UInt32, regs (a ^^^ b) y = regs a y ^^^ combN y.length b := by
  induction y with
  | nil => intro a b; rfl
  | cons c y ih =>
    intro a b
    show regs (reg (a ^^^ b) c) y = regs (reg a c) y ^^^ combN y.length (reg b 0)
    rw [reg_lin, ih]
theorem comb_law (x y : List UInt8) : combN y.length (upd 0 x) ^^^ upd 0 y = upd 0 (x ++ y) := by
  have h : upd 0 (x ++ y) = regs (4294967295 ^^^ upd 0 x) y ^^^ 4294967295 := by
    unfold upd
    rw [regs_append]
    congr 2
    rw [UInt32.xor_comm 4294967295 (_ ^^^ _), xor_ones]
  rw [h, regs_lin]
  have h2 : upd 0 y = regs 4294967295 y ^^^ 4294967295 := by
    unfold upd
    rw [UInt32.zero_xor]
  rw [h2, ← UInt32.xor_assoc, UInt32.xor_comm (combN _ _)]

/-- The register of the exclusive or of three strings of one length. -/
def xor3 : List UInt8 → List UInt8 → List UInt8 → List UInt8
  | a :: x, b :: y, c :: z => (a ^^^ b ^^^ c) :: xor3 x y z
  | _, _, _ => []
theorem xor3_snoc (x : List UInt8) : ∀ (y z : List UInt8) (a b c : UInt8), y.length = x.length → z.length = x.length → xor3 (x ++ [a]) (y ++ [b]) (z ++ [c]) = xor3 x y z ++ [a ^^^ b ^^^ c] := by
  induction x with
  | nil =>
    intro y z a b c hy hz
    obtain rfl := List.eq_nil_of_length_eq_zero hy
    obtain rfl := List.eq_nil_of_length_eq_zero hz
    rfl
  | cons p x ih =>
    intro y z a b c hy hz
    match y, z, hy, hz with
    | q :: y, r :: z, hy, hz =>
      show (p ^^^ q ^^^ r) :: xor3 (x ++ [a]) (y ++ [b]) (z ++ [c]) = (p ^^^ q ^^^ r) :: (xor3 x y z ++ [a ^^^ b ^^^ c])
      rw [ih y z a b c (by simpa using hy) (by simpa using hz)]
theorem xor3_take_succ (x y z : List UInt8) (k : Nat) (hx : k < x.length) (hy : k < y.length) (hz : k < z.length) :
    xor3 (x.take (k + 1)) (y.take (k + 1)) (z.take (k + 1)) = xor3 (x.take k) (y.take k) (z.take k) ++ [x[k] ^^^ y[k] ^^^ z[k]] := by
  rw [List.take_succ_eq_append_getElem hx, List.take_succ_eq_append_getElem hy, List.take_succ_eq_append_getElem hz, xor3_snoc _ _ _ _ _ _ (by simp; omega) (by simp; omega)]
theorem xor3_length (x : List UInt8) : ∀ (y z : List UInt8), y.length = x.length → z.length = x.length → (xor3 x y z).length = x.length := by
  induction x with
  | nil => intro y z _ _; cases y <;> cases z <;> rfl
  | cons p x ih =>
    intro y z hy hz
    match y, z, hy, hz with
    | q :: y, r :: z, hy, hz =>
      show (xor3 x y z).length + 1 = x.length + 1
      rw [ih y z (by simpa using hy) (by simpa using hz)]
theorem u32_xor3 (a b c : UInt8) : (a ^^^ b ^^^ c).toUInt32 = a.toUInt32 ^^^ b.toUInt32 ^^^ c.toUInt32 := by
  apply UInt32.toNat_inj.1; simp
theorem xor_six (a b c d e f : UInt32) : (a ^^^ b ^^^ c) ^^^ (d ^^^ e ^^^ f) = (a ^^^ d) ^^^ (b ^^^ e) ^^^ (c ^^^ f) := by
  apply UInt32.toNat_inj.1
  simp only [UInt32.toNat_xor]
  apply Nat.eq_of_testBit_eq
  intro i
  simp only [Nat.testBit_xor]
  cases a.toNat.testBit i <;> cases b.toNat.testBit i <;> cases c.toNat.testBit i <;> cases d.toNat.testBit i <;> cases e.toNat.testBit i <;> cases f.toNat.testBit i <;> rfl
theorem reg_xor3 (r s t : UInt32) (a b c : UInt8) : reg (r ^^^ s ^^^ t) (a ^^^ b ^^^ c) = reg r a ^^^ reg s b ^^^ reg t c := by
  unfold reg
  rw [← regN_xor, ← regN_xor, u32_xor3, xor_six]
theorem regs_xor3 (x : List UInt8) : ∀ (y z : List UInt8) (r s t : UInt32), y.length = x.length → z.length = x.length → regs (r ^^^ s ^^^ t) (xor3 x y z) = regs r x ^^^ regs s y ^^^ regs t z := by
  induction x with
  | nil =>
    intro y z r s t hy hz
    obtain rfl := List.eq_nil_of_length_eq_zero hy
    obtain rfl := List.eq_nil_of_length_eq_zero hz
    rfl
  | cons a x ih =>
    intro y z r s t hy hz
    match y, z, hy, hz with
    | b :: y, c :: z, hy, hz =>
      show regs (reg (r ^^^ s ^^^ t) (a ^^^ b ^^^ c)) (xor3 x y z) = regs (reg r a) x ^^^ regs (reg s b) y ^^^ regs (reg t c) z
      rw [reg_xor3]
      exact ih y z _ _ _ (by simpa using hy) (by simpa using hz)
theorem upd_xor3 (x y z : List UInt8) (hy : y.length = x.length) (hz : z.length = x.length) : upd 0 (xor3 x y z) = upd 0 x ^^^ upd 0 y ^^^ upd 0 z := by
  have hm : ∀ m : UInt32, m ^^^ m ^^^ m = m := by intro m; rw [UInt32.xor_self, UInt32.zero_xor]
  unfold upd
  generalize (4294967295 : UInt32) = k
  have e1 := regs_xor3 x y z (0 ^^^ k) (0 ^^^ k) (0 ^^^ k) hy hz
  rw [hm] at e1
  have e2 : ∀ a b c : UInt32, a ^^^ b ^^^ c ^^^ k = (a ^^^ k) ^^^ (b ^^^ k) ^^^ (c ^^^ k) := by
    intro a b c
    have := xor_six a b c k k k
    rw [hm] at this
    exact this
  rw [e1, e2]

/-! ## A change within four bytes -/
theorem regStep_inj0 (x : UInt32) (h : regStep x = 0) : x = 0 := by
  unfold regStep at h
  rcases mod2_cases x with e | e
  · rw [e, if_neg (by decide)] at h
    have h1 := congrArg UInt32.toNat h
    have h2 := congrArg UInt32.toNat e
    rw [UInt32.toNat_shiftRight] at h1
    rw [UInt32.toNat_mod] at h2
    simp [Nat.shiftRight_succ] at h1 h2
    apply UInt32.toNat_inj.1
    show x.toNat = 0
    omega
  · rw [e, if_pos rfl] at h
    exfalso
    have h1 : x >>> 1 = 2197175160 := by
      have h3 : x >>> 1 ^^^ 2197175160 ^^^ 2197175160 = 0 ^^^ 2197175160 := by rw [h]
      rw [UInt32.xor_assoc, UInt32.xor_self, UInt32.xor_zero, UInt32.zero_xor] at h3
      exact h3
    have h2 := congrArg UInt32.toNat h1
    rw [UInt32.toNat_shiftRight] at h2
    simp [Nat.shiftRight_succ] at h2
    have := x.toNat_lt
    omega
theorem xor_eq_zero_iff (a b : UInt32) : a ^^^ b = 0 ↔ a = b := by
  constructor
  · intro h
    have this : a ^^^ b ^^^ b = 0 ^^^ b := by rw [h]
    rw [UInt32.xor_assoc, UInt32.xor_self, UInt32.xor_zero, UInt32.zero_xor] at this
    exact this
  · rintro rfl; exact UInt32.xor_self
theorem regStep_inj {a b : UInt32} (h : regStep a = regStep b) : a = b := by
  rw [← xor_eq_zero_iff] at h ⊢
  rw [← regStep_xor] at h
  exact regStep_inj0 _ h
theorem regN_inj (n : Nat) : ∀ {a b : UInt32}, regN n a = regN n b → a = b := by
  induction n with
  | zero => intro a b h; exact h
  | succ n ih => intro a b h; exact regStep_inj (ih h)
theorem reg_inj {a b : UInt32} {c : UInt8} (h : reg a c = reg b c) : a = b := by
  have := regN_inj 8 h
  rw [← xor_eq_zero_iff] at this ⊢
  rw [← this]
  apply UInt32.toNat_inj.1
  simp only [UInt32.toNat_xor]
  apply Nat.eq_of_testBit_eq
  intro i
  simp only [Nat.testBit_xor]
  cases a.toNat.testBit i <;> cases b.toNat.testBit i <;> cases c.toUInt32.toNat.testBit i <;> rfl
theorem regs_inj (y : List UInt8) : ∀ {a b : UInt32}, regs a y = regs b y → a = b := by
  induction y with
  | nil => intro a b h; exact h
  | cons c y ih => intro a b h; exact reg_inj (ih h)

end Go.Proofs.Ytejoofeoffehmaa
