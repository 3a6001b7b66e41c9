/- The plain mathematics of the laws: a change within four bytes changes the sum; a change of one byte changes the digest. -/
import Derived.Test.YtejoofeoffehmaaCrc
import Derived.Test.YtejoofeoffehmaaDig
namespace Go.Proofs.Ytejoofeoffehmaa

theorem xor_shift (V : UInt32) : V ^^^ V.toUInt8.toUInt32 = V >>> 8 <<< 8 := by
  have h := split8 V
  have e : V ^^^ V.toUInt8.toUInt32 = (V.toUInt8.toUInt32 ^^^ (V >>> 8 <<< 8)) ^^^ V.toUInt8.toUInt32 := by rw [← h]
  rw [e, UInt32.xor_comm (V.toUInt8.toUInt32), UInt32.xor_assoc, UInt32.xor_self, UInt32.xor_zero]
theorem regN8_shift (V : UInt32) : regN 8 (V >>> 8 <<< 8) = V >>> 8 := by
  apply UInt32.toNat_inj.1
  refine regN_high 8 _ _ ?_
  rw [UInt32.toNat_shiftLeft, UInt32.toNat_shiftRight]
  simp [Nat.shiftRight_eq_div_pow, Nat.shiftLeft_eq]
  have := V.toNat_lt
  omega
theorem reg_push (R V : UInt32) : reg (R ^^^ V) V.toUInt8 = regN 8 R ^^^ (V >>> 8) := by
  rw [reg, UInt32.xor_assoc, xor_shift, regN_xor, regN8_shift]

theorem four_zero (d0 d1 d2 d3 : UInt8) (h : regs 0 [d0, d1, d2, d3] = 0) : d0 = 0 ∧ d1 = 0 ∧ d2 = 0 ∧ d3 = 0 := by
  have b0 := d0.toNat_lt
  have b1 := d1.toNat_lt
  have b2 := d2.toNat_lt
  have b3 := d3.toNat_lt
  obtain ⟨W, hW⟩ : ∃ W : UInt32, W.toNat = d0.toNat + 256 * d1.toNat + 65536 * d2.toNat + 16777216 * d3.toNat :=
    ⟨UInt32.ofNat (d0.toNat + 256 * d1.toNat + 65536 * d2.toNat + 16777216 * d3.toNat), UInt32.toNat_ofNat_of_lt' (by show _ < 4294967296; omega)⟩
  have s1 : (W >>> 8).toNat = W.toNat / 256 := by rw [UInt32.toNat_shiftRight]; simp [Nat.shiftRight_eq_div_pow]
  have s2 : (W >>> 8 >>> 8).toNat = W.toNat / 65536 := by rw [UInt32.toNat_shiftRight, s1]; simp [Nat.shiftRight_eq_div_pow, Nat.div_div_eq_div_mul]
  have s3 : (W >>> 8 >>> 8 >>> 8).toNat = W.toNat / 16777216 := by rw [UInt32.toNat_shiftRight, s2]; simp [Nat.shiftRight_eq_div_pow, Nat.div_div_eq_div_mul]
  have s4 : W >>> 8 >>> 8 >>> 8 >>> 8 = 0 := by
    apply UInt32.toNat_inj.1
    rw [UInt32.toNat_shiftRight, s3]
    simp [Nat.shiftRight_eq_div_pow, Nat.div_div_eq_div_mul]
    omega
  have e0 : W.toUInt8 = d0 := by apply UInt8.toNat_inj.1; simp; omega
  have e1 : (W >>> 8).toUInt8 = d1 := by apply UInt8.toNat_inj.1; rw [UInt32.toNat_toUInt8, s1]; omega
  have e2 : (W >>> 8 >>> 8).toUInt8 = d2 := by apply UInt8.toNat_inj.1; rw [UInt32.toNat_toUInt8, s2]; omega
  have e3 : (W >>> 8 >>> 8 >>> 8).toUInt8 = d3 := by apply UInt8.toNat_inj.1; rw [UInt32.toNat_toUInt8, s3]; omega
  have hr : regs 0 [d0, d1, d2, d3] = regN 8 (regN 8 (regN 8 (regN 8 W))) := by
    show reg (reg (reg (reg 0 d0) d1) d2) d3 = _
    have h0 : (0 : UInt32) = W ^^^ W := UInt32.xor_self.symm
    rw [h0, ← e0, reg_push, ← e1, reg_push, ← e2, reg_push, ← e3, reg_push, s4, UInt32.xor_zero]
  rw [hr, ← regN_add, ← regN_add, ← regN_add] at h
  have hz : W = 0 := regN_inj _ (h.trans (regN_zero _).symm)
  rw [hz] at hW
  have hW' : 0 = d0.toNat + 256 * d1.toNat + 65536 * d2.toNat + 16777216 * d3.toNat := hW
  refine ⟨?_, ?_, ?_, ?_⟩ <;> apply UInt8.toNat_inj.1
  · show d0.toNat = 0; omega
  · show d1.toNat = 0; omega
  · show d2.toNat = 0; omega
  · show d3.toNat = 0; omega

theorem reg_xor2 (r s : UInt32) (a b : UInt8) : reg (r ^^^ s) (a ^^^ b) = reg r a ^^^ reg s b := by
  unfold reg
  rw [← regN_xor]
  congr 1
  have : (a ^^^ b).toUInt32 = a.toUInt32 ^^^ b.toUInt32 := by apply UInt32.toNat_inj.1; simp
  rw [this]
  have := xor_six r s 0 a.toUInt32 b.toUInt32 0
  simpa using this

/-- A change by four bytes that are not all zero changes the sum. -/
theorem upd_detects (p q : List UInt8) (b0 b1 b2 b3 d0 d1 d2 d3 : UInt8) (hd : ¬ (d0 = 0 ∧ d1 = 0 ∧ d2 = 0 ∧ d3 = 0)) :
    upd 0 (p ++ ([b0, b1, b2, b3] ++ q)) ≠ upd 0 (p ++ ([b0 ^^^ d0, b1 ^^^ d1, b2 ^^^ d2, b3 ^^^ d3] ++ q)) := by
  intro h
  unfold upd at h
  have h1 : regs (0 ^^^ 4294967295) (p ++ ([b0, b1, b2, b3] ++ q)) = regs (0 ^^^ 4294967295) (p ++ ([b0 ^^^ d0, b1 ^^^ d1, b2 ^^^ d2, b3 ^^^ d3] ++ q)) := by
    have := congrArg (· ^^^ (4294967295 : UInt32)) h
    simpa only [xor_ones] using this
  rw [regs_append, regs_append, regs_append, regs_append] at h1
  have h2 := regs_inj q h1
  generalize regs (0 ^^^ 4294967295) p = R at h2
  have h3 : regs R [b0 ^^^ d0, b1 ^^^ d1, b2 ^^^ d2, b3 ^^^ d3] = regs R [b0, b1, b2, b3] ^^^ regs 0 [d0, d1, d2, d3] := by
    show reg (reg (reg (reg R _) _) _) _ = reg (reg (reg (reg R _) _) _) _ ^^^ reg (reg (reg (reg 0 _) _) _) _
    have hR : R = R ^^^ 0 := by rw [UInt32.xor_zero]
    conv => lhs; rw [hR]
    rw [reg_xor2, reg_xor2, reg_xor2, reg_xor2]
  rw [h3] at h2
  have h4 : regs 0 [d0, d1, d2, d3] = 0 := by
    have h5 : regs R [b0, b1, b2, b3] ^^^ regs R [b0, b1, b2, b3] = regs R [b0, b1, b2, b3] ^^^ (regs R [b0, b1, b2, b3] ^^^ regs 0 [d0, d1, d2, d3]) := by rw [← h2]
    rw [UInt32.xor_self, ← UInt32.xor_assoc, UInt32.xor_self, UInt32.zero_xor] at h5
    exact h5.symm
  exact hd (four_zero _ _ _ _ h4)

/-! ## The digest -/
theorem digStep_inj {g h : UInt64} {b : UInt8} (e : digStep g b = digStep h b) : g = h := by
  unfold digStep at e
  have hinv : (1099511628211 : UInt64) * 14886173955864302971 = 1 := by decide
  have h1 : (g ^^^ b.toUInt64) * 1099511628211 * 14886173955864302971 = (h ^^^ b.toUInt64) * 1099511628211 * 14886173955864302971 := by rw [e]
  rw [UInt64.mul_assoc, UInt64.mul_assoc, hinv, UInt64.mul_one, UInt64.mul_one] at h1
  have h2 : g ^^^ b.toUInt64 ^^^ b.toUInt64 = h ^^^ b.toUInt64 ^^^ b.toUInt64 := by rw [h1]
  rw [UInt64.xor_assoc, UInt64.xor_assoc, UInt64.xor_self, UInt64.xor_zero, UInt64.xor_zero] at h2
  exact h2
theorem digStep_byte {g : UInt64} {b c : UInt8} (e : digStep g b = digStep g c) : b = c := by
  unfold digStep at e
  have hinv : (1099511628211 : UInt64) * 14886173955864302971 = 1 := by decide
  have h1 : (g ^^^ b.toUInt64) * 1099511628211 * 14886173955864302971 = (g ^^^ c.toUInt64) * 1099511628211 * 14886173955864302971 := by rw [e]
  rw [UInt64.mul_assoc, UInt64.mul_assoc, hinv, UInt64.mul_one, UInt64.mul_one] at h1
  have h2 : g ^^^ (g ^^^ b.toUInt64) = g ^^^ (g ^^^ c.toUInt64) := by rw [h1]
  rw [← UInt64.xor_assoc, ← UInt64.xor_assoc, UInt64.xor_self, UInt64.zero_xor, UInt64.zero_xor] at h2
  have h3 := congrArg UInt64.toNat h2
  apply UInt8.toNat_inj.1
  simpa using h3
theorem foldl_digStep_inj (l : List UInt8) : ∀ {g h : UInt64}, l.foldl digStep g = l.foldl digStep h → g = h := by
  induction l with
  | nil => intro g h e; exact e
  | cons b l ih => intro g h e; exact digStep_inj (ih e)
theorem digEnd_inj {g h : UInt64} (e : digEnd g = digEnd h) : g = h := by
  have back : ∀ x : UInt64, digEnd x ^^^ (digEnd x >>> 32) = x := by
    intro x
    unfold digEnd
    have h1 : (x ^^^ x >>> 32) >>> 32 = (x >>> 32) ^^^ 0 := by
      apply UInt64.toNat_inj.1
      simp only [UInt64.toNat_shiftRight, UInt64.toNat_xor]
      simp only [UInt64.reduceToNat, Nat.shiftRight_xor_distrib]
      have : x.toNat >>> (32 % 64) >>> (32 % 64) = 0 := by
        simp only [Nat.reduceMod, Nat.shiftRight_eq_div_pow, Nat.div_div_eq_div_mul]
        have := x.toNat_lt
        omega
      rw [this]
    rw [h1, UInt64.xor_zero, UInt64.xor_assoc, UInt64.xor_self, UInt64.xor_zero]
  rw [← back g, ← back h, e]
/-- A change of one byte changes the digest. -/
theorem dig_differs (p q : List UInt8) (b c : UInt8) (hbc : b ≠ c) : dig (p ++ (b :: q)) ≠ dig (p ++ (c :: q)) := by
  intro h
  have h1 := digEnd_inj h
  unfold digs at h1
  rw [List.foldl_append, List.foldl_append, List.foldl_cons, List.foldl_cons] at h1
  exact hbc (digStep_byte (foldl_digStep_inj q h1))

end Go.Proofs.Ytejoofeoffehmaa
