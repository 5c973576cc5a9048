/-
  Plain laws of sets as bits.
-/
import Derived.Test.YtbiikcjebnldfaaSxPl
namespace Sx
open Go
set_option linter.unusedSimpArgs false
set_option linter.unusedVariables false

/-- The set of the numbers below n that are so. -/
def setN (p : Nat → Bool) : Nat → Nat
  | 0 => 0
  | j + 1 => if p j then setN p j ||| 2 ^ j else setN p j

theorem setN_bit (p : Nat → Bool) : ∀ (n i : Nat), (setN p n).testBit i = (decide (i < n) && p i)
  | 0, i => by simp [setN]
  | n + 1, i => by
    simp only [setN]
    by_cases h : p n = true
    · rw [if_pos h, Nat.testBit_or, setN_bit p n i, Nat.testBit_two_pow]
      by_cases hi : n = i
      · subst hi; simp [h]
      · by_cases h2 : i < n
        · simp [h2, hi, show i < n + 1 from by omega]
        · simp [h2, hi, show ¬ i < n + 1 from by omega]
    · rw [if_neg h, setN_bit p n i]
      by_cases hi : n = i
      · subst hi; simp [h]
      · by_cases h2 : i < n
        · simp [h2, show i < n + 1 from by omega]
        · simp [h2, show ¬ i < n + 1 from by omega]

theorem setN_lt (p : Nat → Bool) (n : Nat) : setN p n < 2 ^ n :=
  Nat.lt_pow_two_of_testBit _ fun i hi => by rw [setN_bit]; simp; omega

theorem setN_lt32 (p : Nat → Bool) {n : Nat} (h : n ≤ 32) : setN p n < 4294967296 :=
  Nat.lt_of_lt_of_le (setN_lt p n) (by have := Nat.pow_le_pow_right (n := 2) (by omega) h; simpa using this)

theorem setN_ext {p q : Nat → Bool} {n : Nat} (h : ∀ i, i < n → p i = q i) : setN p n = setN q n := by
  apply Nat.eq_of_testBit_eq
  intro i
  rw [setN_bit, setN_bit]
  by_cases hi : i < n
  · rw [h i hi]
  · simp [hi]

theorem wu32 {a : Nat} (h : a < 4294967296) : IntKind.u32.wrap (a : Int) = a := by
  simp [IntKind.wrap, IntKind.signed, IntKind.bits]; omega
theorem wu64 {a : Nat} (h : a < 18446744073709551616) : IntKind.u64.wrap (a : Int) = a := by
  simp [IntKind.wrap, IntKind.signed, IntKind.bits]; omega

theorem b32 (a : Nat) : BitVec.ofInt (IntKind.u32).bits (a : Int) = BitVec.ofNat 32 a := BitVec.ofInt_natCast _ _

theorem or32 {a b : Nat} (ha : a < 4294967296) (hb : b < 4294967296) : IntKind.u32.wrap ((BitVec.ofInt (IntKind.u32).bits (a : Int) ||| BitVec.ofInt (IntKind.u32).bits (b : Int)).toNat : Int) = ((a ||| b : Nat) : Int) := by
  rw [b32, b32]
  have h1 : (BitVec.ofNat 32 a ||| BitVec.ofNat 32 b).toNat = a ||| b := by
    rw [BitVec.toNat_or, BitVec.toNat_ofNat, BitVec.toNat_ofNat, Nat.mod_eq_of_lt (by omega), Nat.mod_eq_of_lt (by omega)]
  have h2 : a ||| b < 4294967296 := Nat.or_lt_two_pow (n := 32) (by omega) (by omega)
  exact (congrArg (fun x : Nat => IntKind.u32.wrap (x : Int)) h1).trans (wu32 h2)

theorem and32 {a b : Nat} (ha : a < 4294967296) (hb : b < 4294967296) : IntKind.u32.wrap ((BitVec.ofInt (IntKind.u32).bits (a : Int) &&& BitVec.ofInt (IntKind.u32).bits (b : Int)).toNat : Int) = ((a &&& b : Nat) : Int) := by
  rw [b32, b32]
  have h1 : (BitVec.ofNat 32 a &&& BitVec.ofNat 32 b).toNat = a &&& b := by
    rw [BitVec.toNat_and, BitVec.toNat_ofNat, BitVec.toNat_ofNat, Nat.mod_eq_of_lt (by omega), Nat.mod_eq_of_lt (by omega)]
  have h2 : a &&& b < 4294967296 := Nat.and_lt_two_pow (n := 32) _ (by omega)
  exact (congrArg (fun x : Nat => IntKind.u32.wrap (x : Int)) h1).trans (wu32 h2)

/-- The bits of 'a' that 'b' has not. -/
def diffN (a b : Nat) : Nat := (BitVec.ofNat 32 a &&& ~~~ BitVec.ofNat 32 b).toNat

theorem not32 {a b : Nat} (ha : a < 4294967296) (hb : b < 4294967296) : IntKind.u32.wrap ((BitVec.ofInt (IntKind.u32).bits (a : Int) &&& ~~~ BitVec.ofInt (IntKind.u32).bits (b : Int)).toNat : Int) = (diffN a b : Int) := by
  rw [b32, b32]
  have h2 : diffN a b < 4294967296 := by unfold diffN; exact (BitVec.ofNat 32 a &&& ~~~ BitVec.ofNat 32 b).isLt
  exact wu32 h2

theorem diffN_bit {a b : Nat} (ha : a < 4294967296) (hb : b < 4294967296) (i : Nat) : (diffN a b).testBit i = (decide (i < 32) && (a.testBit i && !b.testBit i)) := by
  unfold diffN
  rw [BitVec.toNat_and, Nat.testBit_and, BitVec.toNat_ofNat, Nat.mod_eq_of_lt (by omega)]
  have h : (~~~ BitVec.ofNat 32 b).toNat.testBit i = (decide (i < 32) && !b.testBit i) := by
    rw [← BitVec.getLsbD, BitVec.getLsbD_not, BitVec.getLsbD, BitVec.toNat_ofNat, Nat.mod_eq_of_lt (by omega)]
  rw [h]
  cases decide (i < 32) <;> simp

/-- A number as a set of itself. -/
theorem shl32 {v : Nat} (h : v < 32) : IntKind.u32.wrap (1 * 2 ^ (min ((IntKind.u64.wrap (v : Int)) : Int).toNat (IntKind.u32).bits)) = ((2 ^ v : Nat) : Int) := by
  rw [wu64 (by omega), Int.toNat_natCast, Int.one_mul]
  have h1 : min v (IntKind.u32).bits = v := by simp [IntKind.bits]; omega
  rw [h1]
  have h2 : (2 : Int) ^ v = ((2 ^ v : Nat) : Int) := by simp
  rw [h2, wu32]
  exact Nat.pow_lt_pow_right (a := 2) (by omega) h

theorem pow32 {v : Nat} (h : v < 32) : 2 ^ v < 4294967296 := Nat.pow_lt_pow_right (a := 2) (by omega) h

theorem nneg64 {v : Nat} (h : v < 32) : (!decide ((IntKind.u64.wrap (v : Int)) < 0)) = true := by
  rw [wu64 (by omega)]; simp

/-- Is a number an element. -/
theorem has32 {a v : Nat} (ha : a < 4294967296) (h : v < 32) :
    (IntKind.u32.wrap ((BitVec.ofInt (IntKind.u32).bits ((a : Int).fdiv (2 ^ (min ((IntKind.u64.wrap (v : Int)) : Int).toNat (IntKind.u32).bits))) &&& BitVec.ofInt (IntKind.u32).bits 1).toNat : Int) == 1) = a.testBit v := by
  rw [wu64 (by omega), Int.toNat_natCast]
  have h1 : min v (IntKind.u32).bits = v := by simp [IntKind.bits]; omega
  rw [h1]
  have h0 : (2 : Int) ^ v = ((2 ^ v : Nat) : Int) := by simp
  have h2 : ((a : Int).fdiv (2 ^ v)) = ((a / 2 ^ v : Nat) : Int) := by
    rw [h0, Int.fdiv_eq_ediv_of_nonneg _ (Int.natCast_nonneg _)]
    rfl
  rw [h2]
  have h3 := and32 (a := a / 2 ^ v) (b := 1) (Nat.lt_of_le_of_lt (Nat.div_le_self _ _) ha) (by omega)
  have h4 : ((1 : Nat) : Int) = 1 := rfl
  rw [h4] at h3
  rw [h3]
  rw [Nat.testBit, Nat.shiftRight_eq_div_pow]
  have h5 : (1 : Nat) &&& (a / 2 ^ v) = a / 2 ^ v % 2 := by rw [Nat.and_comm]; exact Nat.and_one_is_mod _
  have h6 : (a / 2 ^ v) &&& 1 = a / 2 ^ v % 2 := Nat.and_one_is_mod _
  rw [h5, h6]
  rcases Nat.mod_two_eq_zero_or_one (a / 2 ^ v) with h7 | h7 <;> simp [h7]
end Sx
