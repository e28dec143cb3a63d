/- Plain mathematics of codec: bits of natural numbers, the checksum's step, digits. No program in sight. -/
import Derived.Laws.BitsLemmas
import Derived.Laws.Bits64
import Derived.Laws.Bits64b
import Derived.RowKit
set_option linter.unusedVariables false
set_option linter.unusedSimpArgs false
namespace Go.Proofs.YtonhinepgkommaaM
open Go Go.RowKit

/-! ### bits of Int as bits of Nat -/
theorem xor_u8 (a b : Nat) (ha : a < 256) (hb : b < 256) : Go.bits .xor .u8 (a : Int) (b : Int) = ((a ^^^ b : Nat) : Int) := by
  have hx : a ^^^ b < 2 ^ 8 := Nat.xor_lt_two_pow (by omega) (by omega)
  have h1 : (BitVec.ofInt 8 (a : Int)).toNat = a := by rw [BitVec.ofInt_natCast, BitVec.toNat_ofNat]; exact Nat.mod_eq_of_lt (by omega)
  have h2 : (BitVec.ofInt 8 (b : Int)).toNat = b := by rw [BitVec.ofInt_natCast, BitVec.toNat_ofNat]; exact Nat.mod_eq_of_lt (by omega)
  show IntKind.u8.wrap ((BitVec.ofInt 8 (a : Int) ^^^ BitVec.ofInt 8 (b : Int)).toNat : Int) = _
  rw [BitVec.toNat_xor, h1, h2, IntKind.wrap_u8]
  omega
theorem wrap_u32' (n : Int) : IntKind.u32.wrap n = n % 4294967296 := IntKind.wrap_u32 n
theorem xor_u32 (a b : Nat) (ha : a < 4294967296) (hb : b < 4294967296) : Go.bits .xor .u32 (a : Int) (b : Int) = ((a ^^^ b : Nat) : Int) := by
  have hx : a ^^^ b < 2 ^ 32 := Nat.xor_lt_two_pow (by omega) (by omega)
  have h1 : (BitVec.ofInt 32 (a : Int)).toNat = a := by rw [BitVec.ofInt_natCast, BitVec.toNat_ofNat]; exact Nat.mod_eq_of_lt (by omega)
  have h2 : (BitVec.ofInt 32 (b : Int)).toNat = b := by rw [BitVec.ofInt_natCast, BitVec.toNat_ofNat]; exact Nat.mod_eq_of_lt (by omega)
  show IntKind.u32.wrap ((BitVec.ofInt 32 (a : Int) ^^^ BitVec.ofInt 32 (b : Int)).toNat : Int) = _
  rw [BitVec.toNat_xor, h1, h2, IntKind.wrap_u32]
  omega
theorem and1_u32 (a : Nat) (ha : a < 4294967296) : Go.bits .and .u32 (a : Int) 1 = ((a % 2 : Nat) : Int) := by
  have h := (bits_nat .u32 32 (by decide) (fun n h0 h1 => by rw [IntKind.wrap_u32]; omega) a 1 (by omega) (by decide)).1
  have e : ((1 : Nat) : Int) = 1 := rfl
  rw [e] at h
  rw [h, Nat.and_one_is_mod]

/-! ### the checksum -/
def P : Nat := 3988292384
def B (c : Nat) : Nat := if c % 2 = 1 then (c / 2) ^^^ P else c / 2
def Bn : Nat → Nat → Nat
  | 0, c => c
  | k + 1, c => B (Bn k c)
def M (c : Nat) : Nat := Bn 8 c
theorem xor_mod2 (a b : Nat) : (a ^^^ b) % 2 = (a % 2 + b % 2) % 2 := by
  have h1 := Nat.testBit_xor a b 0
  simp only [Nat.testBit_zero] at h1
  have ha := Nat.mod_two_eq_zero_or_one a
  have hb := Nat.mod_two_eq_zero_or_one b
  have hc := Nat.mod_two_eq_zero_or_one (a ^^^ b)
  rcases ha with ha | ha <;> rcases hb with hb | hb <;> rcases hc with hc | hc <;> simp_all
theorem xor_div2 (a b : Nat) : (a ^^^ b) / 2 = a / 2 ^^^ b / 2 := by
  have := Nat.xor_div_two_pow (a := a) (b := b) (n := 1)
  simpa using this
theorem B_xor (a b : Nat) : B (a ^^^ b) = B a ^^^ B b := by
  unfold B
  rw [xor_mod2, xor_div2]
  have ha := Nat.mod_two_eq_zero_or_one a
  have hb := Nat.mod_two_eq_zero_or_one b
  rcases ha with ha | ha <;> rcases hb with hb | hb <;> simp [ha, hb]
  · rw [Nat.xor_assoc]
  · rw [Nat.xor_assoc, Nat.xor_comm (b / 2) P, ← Nat.xor_assoc]
  · rw [Nat.xor_assoc, Nat.xor_comm P, Nat.xor_assoc, Nat.xor_self, Nat.xor_zero]
theorem Bn_xor (k a b : Nat) : Bn k (a ^^^ b) = Bn k a ^^^ Bn k b := by
  induction k with
  | zero => rfl
  | succ k ih => simp only [Bn, ih, B_xor]
theorem M_xor (a b : Nat) : M (a ^^^ b) = M a ^^^ M b := Bn_xor 8 a b
theorem B_lt {c : Nat} (h : c < 2 ^ 32) : B c < 2 ^ 32 := by
  unfold B
  split
  · exact Nat.xor_lt_two_pow (by omega) (by decide)
  · omega
theorem Bn_lt {c : Nat} (k : Nat) (h : c < 2 ^ 32) : Bn k c < 2 ^ 32 := by
  induction k with
  | zero => exact h
  | succ k ih => exact B_lt ih
theorem M_lt {c : Nat} (h : c < 2 ^ 32) : M c < 2 ^ 32 := Bn_lt 8 h
/-- B of what is not 0 is not 0: so B is one to one. -/
theorem B_zero {c : Nat} (h : c < 2 ^ 32) (hz : B c = 0) : c = 0 := by
  unfold B at hz
  split at hz
  · rename_i h1
    have hp : (c / 2) = P := by
      have := congrArg (fun z => z ^^^ P) hz
      simp only [Nat.xor_assoc, Nat.xor_self, Nat.xor_zero, Nat.zero_xor] at this
      exact this
    unfold P at hp
    omega
  · omega
theorem Bn_zero {c : Nat} (k : Nat) (h : c < 2 ^ 32) (hz : Bn k c = 0) : c = 0 := by
  induction k with
  | zero => exact hz
  | succ k ih => exact ih (B_zero (Bn_lt k h) hz)
theorem xor_eq_zero {a b : Nat} (h : a ^^^ b = 0) : a = b := by
  have := congrArg (fun z => z ^^^ b) h
  simpa only [Nat.xor_assoc, Nat.xor_self, Nat.xor_zero, Nat.zero_xor] using this
theorem M_inj {a b : Nat} (ha : a < 2 ^ 32) (hb : b < 2 ^ 32) (h : M a = M b) : a = b := by
  refine xor_eq_zero (Bn_zero 8 (Nat.xor_lt_two_pow ha hb) ?_)
  rw [Bn_xor]
  show M a ^^^ M b = 0
  rw [h, Nat.xor_self]
theorem B_even (y : Nat) : B (2 * y) = y := by
  unfold B
  rw [if_neg (by omega)]
  omega
theorem Bn_shift (k y : Nat) : Bn k (2 ^ k * y) = y := by
  induction k generalizing y with
  | zero => simp [Bn]
  | succ k ih =>
    have e : 2 ^ (k + 1) * y = 2 ^ k * (2 * y) := by rw [Nat.pow_succ]; rw [Nat.mul_assoc]
    simp only [Bn]
    rw [e, ih, B_even]
theorem M_shift (y : Nat) : M (256 * y) = y := Bn_shift 8 y
theorem split256 (c : Nat) : c = (c % 256) ^^^ (256 * (c / 256)) := by
  have h := Nat.two_pow_add_eq_or_of_lt (show c % 256 < 2 ^ 8 by omega) (c / 256)
  have h2 : (c % 256) ^^^ (256 * (c / 256)) = (c % 256) ||| (256 * (c / 256)) := by
    apply Nat.eq_of_testBit_eq
    intro i
    rw [Nat.testBit_xor, Nat.testBit_or]
    by_cases hi : i < 8
    · have : (256 * (c / 256)).testBit i = false := by
        rw [show (256 : Nat) = 2 ^ 8 from rfl]
        rw [Nat.testBit_two_pow_mul]
        simp; omega
      rw [this]; simp
    · have : (c % 256).testBit i = false := Nat.testBit_lt_two_pow (Nat.lt_of_lt_of_le (show c % 256 < 2 ^ 8 by omega) (Nat.pow_le_pow_right (by decide) (by omega)))
      rw [this]; simp
  rw [h2, Nat.or_comm]
  have e : (2 : Nat) ^ 8 = 256 := rfl
  rw [e] at h
  omega
/-- A round by the table is a round of eight bits. -/
theorem M_table (c : Nat) : M c = M (c % 256) ^^^ (c / 256) := by
  conv => lhs; rw [split256 c]
  rw [M_xor, M_shift]
end Go.Proofs.YtonhinepgkommaaM
