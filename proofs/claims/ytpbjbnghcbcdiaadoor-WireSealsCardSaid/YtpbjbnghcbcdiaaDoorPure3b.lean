/- The frames' plain laws: what the code computes is what the document says. Conditions: none. -/
import Derived.Test.YtpbjbnghcbcdiaaDoorPure3
namespace Go.Proofs.YtpbjbnghcbcdiaaDoor.AM
open Go

theorem u32_half (x : UInt32) : x / (2 : UInt32) = x >>> (1 : UInt32) := by
  apply UInt32.toNat_inj.1
  simp [UInt32.toNat_shiftRight, Nat.shiftRight_eq_div_pow]
theorem u32_odd (x : UInt32) : x % 2 = x &&& 1 := by
  apply UInt32.toNat_inj.1
  simp [Nat.and_one_is_mod]
theorem u8_odd (x : UInt8) : (x % 2).toUInt32 = x.toUInt32 &&& 1 := by
  apply UInt32.toNat_inj.1
  simp [Nat.and_one_is_mod]
theorem u8_half (x : UInt8) : (x / 2).toUInt32 = x.toUInt32 >>> 1 := by
  apply UInt32.toNat_inj.1
  have := x.toNat_lt
  simp [UInt32.toNat_shiftRight, Nat.shiftRight_eq_div_pow]
theorem and1 (x : UInt32) : x &&& 1 = 0 ∨ x &&& 1 = 1 := by
  have h : (x &&& 1).toNat = x.toNat % 2 := by simp [Nat.and_one_is_mod]
  rcases Nat.mod_two_eq_zero_or_one x.toNat with h0 | h0
  · exact .inl (UInt32.toNat_inj.1 (by rw [h, h0]; rfl))
  · exact .inr (UInt32.toNat_inj.1 (by rw [h, h0]; rfl))
theorem shr_xor (x y : UInt32) : (x ^^^ y) >>> 1 = (x >>> 1) ^^^ (y >>> 1) := by
  apply UInt32.toNat_inj.1
  simp [UInt32.toNat_shiftRight, Nat.shiftRight_xor_distrib]
theorem and_xor (x y : UInt32) : (x ^^^ y) &&& 1 = (x &&& 1) ^^^ (y &&& 1) := by
  apply UInt32.toNat_inj.1
  simp only [UInt32.toNat_and, UInt32.toNat_xor]
  exact Nat.and_xor_distrib_right
/-- one bit, both ways -/
theorem bit_step (u : UInt32) (c : UInt8) : crcBit (u ^^^ c.toUInt32) = (refBit (u, c)).1 ^^^ ((refBit (u, c)).2).toUInt32 := by
  unfold crcBit refBit
  simp only [u32_half, u8_half, u32_odd, u8_odd]
  rw [shr_xor, and_xor]
  rcases and1 u with h1 | h1 <;> rcases and1 c.toUInt32 with h2 | h2 <;> rw [h1, h2]
  · simp
  · simp only [show (0 : UInt32) ^^^ 1 = 1 from rfl, UInt32.mul_one, show (!decide ((0 : UInt32) = 1)) = true from rfl, if_true]
    rw [UInt32.xor_assoc, UInt32.xor_comm (c.toUInt32 >>> 1), ← UInt32.xor_assoc]
  · simp only [show (1 : UInt32) ^^^ 0 = 1 from rfl, UInt32.mul_one, show (!decide ((1 : UInt32) = 0)) = true from rfl, if_true]
    rw [UInt32.xor_assoc, UInt32.xor_comm (c.toUInt32 >>> 1), ← UInt32.xor_assoc]
  · simp
theorem bits_step (w : UInt32) (b : UInt8) : ∀ j, crcBits j (w ^^^ b.toUInt32) = (refBits j (w, b)).1 ^^^ ((refBits j (w, b)).2).toUInt32
  | 0 => rfl
  | j + 1 => by
    rw [crcBits, bits_step w b j, refBits]
    exact bit_step _ _
theorem refBits_snd (w : UInt32) (b : UInt8) : ∀ j, (refBits j (w, b)).2.toNat = b.toNat / 2 ^ j
  | 0 => by simp [refBits]
  | j + 1 => by
    rw [refBits]
    simp only [refBit, UInt8.toNat_div, refBits_snd w b j, Nat.pow_succ, ← Nat.div_div_eq_div_mul]
    rfl
theorem byte_eq (w : UInt32) (b : UInt8) : crcByte w b = refByte w b := by
  unfold crcByte refByte
  rw [bits_step]
  have h : (refBits 8 (w, b)).2 = 0 := by
    apply UInt8.toNat_inj.1
    rw [refBits_snd]
    have := b.toNat_lt
    simp; omega
  rw [h]
  simp
theorem crc_eq (bs : List UInt8) : crc bs = refSum bs := by
  have : crcFold bs = refFold bs := by
    unfold crcFold refFold
    rw [show crcByte = refByte from funext fun w => funext fun b => byte_eq w b]
  rw [crc, refSum, this]
theorem four_eq (n : UInt32) : [(n >>> 24).toUInt8, (n >>> 16).toUInt8, (n >>> 8).toUInt8, n.toUInt8] = refFour n := by
  have e : ∀ a b : UInt32, a.toNat % 256 = b.toNat % 256 → a.toUInt8 = b.toUInt8 := fun a b h => UInt8.toNat_inj.1 (by simpa using h)
  unfold refFour
  congr 1
  · apply e; simp [UInt32.toNat_shiftRight, Nat.shiftRight_eq_div_pow]
  · congr 1
    · apply e; simp [UInt32.toNat_shiftRight, Nat.shiftRight_eq_div_pow]
    · congr 1
      · apply e; simp [UInt32.toNat_shiftRight, Nat.shiftRight_eq_div_pow]
      · congr 1
        apply e; simp
theorem big_eq (b : List UInt8) (n : UInt32) : pBig b n = b ++ refFour n := by rw [pBig, four_eq]
theorem ofInt_mod (n : Int) : UInt8.ofInt (n % 256) = UInt8.ofInt n := by
  have h : ∀ m : Int, ((UInt8.ofInt m).toNat : Int) = m % 256 := fun m => by rw [← v_i_8, wrap_u8]
  apply UInt8.toNat_inj.1
  have h1 := h (n % 256)
  have h2 := h n
  omega
theorem seal_big {b : List UInt8} (h : 4096 < b.length) : pSeal b = ([], .code 5) := by
  unfold pSeal
  rw [if_pos (decide_eq_true (by omega))]
theorem seal_eq {b : List UInt8} (h : b.length ≤ 4096) : pSeal b = (refSeal b, .no) := by
  unfold pSeal refSeal
  rw [if_neg (by simp; omega), big_eq, crc_eq, ofInt_mod]
theorem refSeal_len (b : List UInt8) : (refSeal b).length = b.length + 6 := by simp [refSeal]
theorem seal_len (b : List UInt8) : (pSeal b).1.length ≤ b.length + 6 := by
  by_cases h : 4096 < b.length
  · rw [seal_big h]; simp
  · rw [seal_eq (by omega), refSeal_len]; exact Nat.le_refl _
theorem seal_ne (b : List UInt8) : (pSeal b).2 ≠ .code 0 := by
  by_cases h : 4096 < b.length
  · rw [seal_big h]; simp
  · rw [seal_eq (by omega)]; simp
theorem open_eq (f : List UInt8) : (pOpen f).1 = (refOpen f).1 ∧ (pOpen f).2.num = (refOpen f).2 ∧ (pOpen f).2 ≠ .code 0 := by
  unfold pOpen refOpen
  by_cases h1 : (f.length : Int) < 6
  · simp [h1, Er.num]
  · have a1 : decide ((f.length : Int) < 6) = false := decide_eq_false h1
    generalize hN : ((nth f 0).toNat : Int) * 256 + ((nth f 1).toNat : Int) = n
    have h0 := (nth f 0).toNat_lt
    have h2 := (nth f 1).toNat_lt
    by_cases h3 : 4096 < n ∨ ¬ (f.length : Int) = n + 6
    · have a2 : (decide (4096 < n) || !decide ((f.length : Int) = n + 6)) = true := by simpa using h3
      have a3 : (!decide (n = (f.length : Int) - 6) || decide (4102 < (f.length : Int))) = true := by
        simp only [Bool.or_eq_true, Bool.not_eq_true', decide_eq_true_eq, decide_eq_false_iff_not]; omega
      simp only [a1, a2, a3, Bool.false_or, Bool.false_eq_true, if_false, if_true]
      simp [Er.num]
    · have a2 : (decide (4096 < n) || !decide ((f.length : Int) = n + 6)) = false := by
        simp only [Bool.or_eq_false_iff, Bool.not_eq_false', decide_eq_true_eq, decide_eq_false_iff_not]; omega
      have a3 : (!decide (n = (f.length : Int) - 6) || decide (4102 < (f.length : Int))) = false := by
        simp only [Bool.or_eq_false_iff, Bool.not_eq_false', decide_eq_true_eq, decide_eq_false_iff_not]; omega
      have e : (n + 2).toNat = f.length - 4 := by omega
      simp only [a1, a2, a3, Bool.false_or, Bool.false_eq_true, if_false, e, big_eq, crc_eq, List.nil_append]
      by_cases h4 : f.drop (f.length - 4) = refFour (refSum (f.take (f.length - 4)))
      · simp [h4, Er.num]
      · have a4 : (refFour (refSum (f.take (f.length - 4))) == f.drop (f.length - 4)) = false := by simpa using fun e => h4 e.symm
        simp [a4, h4, Er.num]
theorem seals_b (b : List UInt8) : (decide (crc b = refSum b) && decide (((pOpen b).2.num : Int) = ((refOpen b).2 : Int)) && ((pOpen b).1 == (refOpen b).1)) = true := by
  obtain ⟨h1, h2, _⟩ := open_eq b
  simp [crc_eq, h1, h2]
theorem seals_a (b : List UInt8) : ((decide (4096 < (b.length : Int)) && (decide (0 < (((pSeal b).1.length : Nat) : Int)) || !decide (((pSeal b).2.num : Int) = 5))) || (decide ((b.length : Int) ≤ 4096) && (!(pSeal b).2.isNo || !((pSeal b).1 == refSeal b)))) = false := by
  by_cases h : 4096 < b.length
  · rw [seal_big h]
    have : ¬ (b.length : Int) ≤ 4096 := by omega
    simp [Er.num, this]
  · rw [seal_eq (by omega)]
    have : ¬ 4096 < (b.length : Int) := by omega
    simp [Er.isNo, this]
end Go.Proofs.YtpbjbnghcbcdiaaDoor.AM
