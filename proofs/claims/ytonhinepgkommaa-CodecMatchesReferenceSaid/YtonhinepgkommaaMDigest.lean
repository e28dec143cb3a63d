/- Plain mathematics of the digest: each step is one to one in the state and in the integer. -/
import Derived.Test.YtonhinepgkommaaMPut
import Derived.Test.YtonhinepgkommaaQ4
set_option linter.unusedVariables false
set_option linter.unusedSimpArgs false
namespace Go.Proofs.YtonhinepgkommaaM
open Go Go.RowKit Go.Proofs.YtonhinepgkommaaH Go.Proofs.Ytonhinepgkommaa.Q Go.Proofs.YtonhinepgkommaaW.PrintWords

def un (x : Int) : Nat := (x % 18446744073709551616).toNat
theorem un_lt (x : Int) : un x < 2 ^ 64 := by unfold un; omega
def mul64 (y : Nat) : Nat := y * 11507291218515648293 % 18446744073709551616
def dstep (h x : Nat) : Nat := mul64 (h ^^^ x) ^^^ (mul64 (h ^^^ x) / 4294967296)
theorem mul64_lt (y : Nat) : mul64 y < 2 ^ 64 := Nat.mod_lt _ (by decide)
theorem mul64_inv {y : Nat} (h : y < 2 ^ 64) : mul64 y * 192419422752744621 % 18446744073709551616 = y := by
  unfold mul64
  rw [Nat.mod_mul_mod, Nat.mul_assoc, show 11507291218515648293 * 192419422752744621 = 1 + 18446744073709551616 * 120033450069394172 by decide, Nat.mul_add, Nat.mul_one, Nat.mul_left_comm, Nat.add_mul_mod_self_left]
  exact Nat.mod_eq_of_lt h
theorem mul64_inj {a b : Nat} (ha : a < 2 ^ 64) (hb : b < 2 ^ 64) (h : mul64 a = mul64 b) : a = b := by
  rw [← mul64_inv ha, h, mul64_inv hb]
theorem xor_div32 (a b : Nat) : (a ^^^ b) / 4294967296 = a / 4294967296 ^^^ b / 4294967296 := by
  have := Nat.xor_div_two_pow (a := a) (b := b) (n := 32)
  simpa using this
theorem shift_inj {y z : Nat} (hy : y < 2 ^ 64) (hz : z < 2 ^ 64) (h : y ^^^ y / 4294967296 = z ^^^ z / 4294967296) : y = z := by
  have h1 : y ^^^ z = y / 4294967296 ^^^ z / 4294967296 := by
    have := congrArg (· ^^^ (z ^^^ y / 4294967296)) h
    rw [show y ^^^ y / 4294967296 ^^^ (z ^^^ y / 4294967296) = y ^^^ z by rw [Nat.xor_comm z, ← Nat.xor_assoc, Nat.xor_assoc y, Nat.xor_self, Nat.xor_zero],
      show z ^^^ z / 4294967296 ^^^ (z ^^^ y / 4294967296) = z / 4294967296 ^^^ y / 4294967296 by rw [Nat.xor_comm z (z / 4294967296), Nat.xor_assoc, ← Nat.xor_assoc z, Nat.xor_self, Nat.zero_xor]] at this
    rw [this, Nat.xor_comm]
  rw [← xor_div32] at h1
  have hD : y ^^^ z < 2 ^ 64 := Nat.xor_lt_two_pow hy hz
  exact xor_eq_zero (by omega)
theorem xor_right_inj {a b x : Nat} (h : a ^^^ x = b ^^^ x) : a = b := by
  have := congrArg (· ^^^ x) h
  simpa [Nat.xor_assoc] using this
theorem xor_left_inj {a b x : Nat} (h : x ^^^ a = x ^^^ b) : a = b := by
  rw [Nat.xor_comm x, Nat.xor_comm x] at h
  exact xor_right_inj h
theorem dstep_lt (h x : Nat) : dstep h x < 2 ^ 64 := Nat.xor_lt_two_pow (mul64_lt _) (by have := mul64_lt (h ^^^ x); omega)
theorem dstep_inj {a b x y : Nat} (ha : a < 2 ^ 64) (hb : b < 2 ^ 64) (hx : x < 2 ^ 64) (hy : y < 2 ^ 64) (h : dstep a x = dstep b y) : a ^^^ x = b ^^^ y :=
  mul64_inj (Nat.xor_lt_two_pow ha hx) (Nat.xor_lt_two_pow hb hy) (shift_inj (mul64_lt _) (mul64_lt _) h)
def dfold (h : Nat) : List Int → Nat
  | [] => h
  | x :: l => dfold (dstep h (un x)) l
theorem dfold_append (h : Nat) : ∀ (a b : List Int), dfold h (a ++ b) = dfold (dfold h a) b := by
  intro a
  induction a generalizing h with
  | nil => intro b; rfl
  | cons x a ih => intro b; exact ih _ b
theorem dfold_lt : ∀ (l : List Int) (h : Nat), h < 2 ^ 64 → dfold h l < 2 ^ 64
  | [], h, hh => hh
  | x :: l, h, hh => dfold_lt l _ (dstep_lt _ _)
theorem dfold_inj : ∀ (l : List Int) (a b : Nat), a < 2 ^ 64 → b < 2 ^ 64 → dfold a l = dfold b l → a = b
  | [], a, b, _, _, h => h
  | x :: l, a, b, ha, hb, h => xor_right_inj (dstep_inj ha hb (un_lt x) (un_lt x) (dfold_inj l _ _ (dstep_lt _ _) (dstep_lt _ _) h))
theorem digest_step (h : Nat) (hh : h < 2 ^ 64) (x : Int) :
    Go.bits .xor .u64 (IntKind.u64.wrap ((Go.bits .xor .u64 (h : Int) (IntKind.u64.wrap x)) * 11507291218515648293)) ((IntKind.u64.wrap ((Go.bits .xor .u64 (h : Int) (IntKind.u64.wrap x)) * 11507291218515648293)) / 4294967296) = (dstep h (un x) : Int) := by
  have e : IntKind.u64.wrap x = (un x : Int) := by rw [IntKind.wrap_u64]; unfold un; omega
  have hu := un_lt x
  have e2 : IntKind.u64.wrap (((h ^^^ un x : Nat) : Int) * 11507291218515648293) = (mul64 (h ^^^ un x) : Int) := by
    rw [IntKind.wrap_u64]; unfold mul64; generalize h ^^^ un x = z; omega
  have hm := mul64_lt (h ^^^ un x)
  have e3 : (mul64 (h ^^^ un x) : Int) / 4294967296 = ((mul64 (h ^^^ un x) / 4294967296 : Nat) : Int) := by omega
  rw [e, bits_xor_u64_nat _ _ (by omega) (by omega), e2, e3, bits_xor_u64_nat _ _ (by omega) (by omega)]
  rfl
theorem digest_l0 : ∀ (b a : List Int) (k h : Nat), h < 2 ^ 64 → (a ++ b).length < 9223372036854775807 → b.length + 1 ≤ k →
    codec_Digest.l0 k (h : Int) (a ++ b) ((a ++ b).length : Int) (a.length : Int) = some (dfold h b : Int)
  | _, _, 0, _, _, _, h => by omega
  | [], a, k + 1, h, hh, hl, _ => by
    rw [codec_Digest.l0, if_neg (by simp)]; rfl
  | x :: b, a, k + 1, h, hh, hl, hk => by
    rw [codec_Digest.l0, if_pos (by simp; omega), if_pos (by omega), if_pos (by simp; omega), rd_mid, digest_step h hh]
    have e2 : wrap64 ((a.length : Int) + 1) = ((a ++ [x]).length : Int) := by
      rw [List.length_append] at hl
      unfold wrap64; rw [List.length_append]; simp at hl ⊢; omega
    have e3 : a ++ x :: b = (a ++ [x]) ++ b := by simp
    rw [e2, e3]
    exact digest_l0 b (a ++ [x]) k _ (dstep_lt _ _) (by rw [← e3]; exact hl) (by simp at hk; omega)
def dinit (n : Nat) : Nat := (11400714819323198485 + n) % 18446744073709551616
theorem dinit_lt (n : Nat) : dinit n < 2 ^ 64 := Nat.mod_lt _ (by decide)
def dig (l : List Int) : Nat := dfold (dinit l.length) l
theorem digest_f {l : List Int} (hl : l.length < 9223372036854775807) {k : Nat} (hk : l.length + 1 ≤ k) : codec_Digest.f k l = some (dig l : Int) := by
  rw [codec_Digest.f]
  have e : IntKind.u64.wrap (11400714819323198485 + (IntKind.u64.wrap ((l.length : Int)))) = (dinit l.length : Int) := by
    rw [IntKind.wrap_u64, IntKind.wrap_u64]; unfold dinit; omega
  rw [e]
  exact digest_l0 l [] k _ (dinit_lt _) hl hk
theorem dig_lt (l : List Int) : dig l < 2 ^ 64 := dfold_lt _ _ (dinit_lt _)
/-- Two lists that differ in one integer: the digests differ. -/
theorem dig_one (a b : List Int) (x y : Int) (h : dig (a ++ [x] ++ b) = dig (a ++ [y] ++ b)) : un x = un y := by
  unfold dig at h
  rw [show (a ++ [x] ++ b).length = (a ++ [y] ++ b).length by simp] at h
  rw [dfold_append, dfold_append, dfold_append, dfold_append] at h
  have h1 := dfold_inj b _ _ (dfold_lt _ _ (dfold_lt _ _ (dinit_lt _))) (dfold_lt _ _ (dfold_lt _ _ (dinit_lt _))) h
  exact xor_left_inj (dstep_inj (dfold_lt _ _ (dinit_lt _)) (dfold_lt _ _ (dinit_lt _)) (un_lt _) (un_lt _) h1)
theorem join_f {k : Nat} (hk : 4 ≤ k) (a b : Int) : codec_Join.f k a b = some (dig [2, wrap64 a, wrap64 b] : Int) := by
  rw [codec_Join.f, digest_f (by simp) (by simpa using hk), Option.bind_some]
theorem un_wrap (a : Int) : un (wrap64 a) = un a := by unfold un wrap64; omega
theorem CodecDigests : seamarklaw08_CodecDigests.Pure := by
  intro l0 a1 a2 l3 a4 a5 a6 hm0 _ hw0 hw1 hw2 hm3 _ hw3 hw4 hw5 hw6
  have b1 := i64_bounds hw1
  have b2 := i64_bounds hw2
  have b4 := u64_bounds hw4
  have b5 := u64_bounds hw5
  have b6 := u64_bounds hw6
  refine ⟨1000000, ?_⟩
  rw [seamarklaw08_CodecDigests.f, seamarklaw08_head.f, Option.bind_some]
  by_cases h0 : (l0.length : Int) > 100000
  · rw [if_pos h0, seamarklaw08_CodecDigests.j0, if_pos rfl]
  rw [if_neg h0]
  by_cases h1 : (l3.length : Int) > 100000
  · rw [decide_eq_true h1, seamarklaw08_CodecDigests.j0, if_pos rfl]
  rw [decide_eq_false h1, seamarklaw08_CodecDigests.j0, if_neg (by decide)]
  simp only [Option.bind_some, List.nil_append, List.length_nil, Nat.zero_add, if_true]
  have hl : (l0 ++ [a1]).length = l0.length + 1 := by simp
  have hl2 : (l0 ++ [a2]).length = l0.length + 1 := by simp
  have hl3 : (l0 ++ [a1] ++ l3).length = l0.length + 1 + l3.length := by simp; omega
  have hl4 : (l0 ++ [a2] ++ l3).length = l0.length + 1 + l3.length := by simp; omega
  rw [if_pos (by omega), if_pos (by omega), if_pos (by omega), if_pos (by omega), if_pos (by omega), if_pos (by omega), digest_f (by omega) (by omega), Option.bind_some, digest_f (by omega) (by omega), Option.bind_some]
  have e1 : ((dig (l0 ++ [a1] ++ l3) : Int) == (dig (l0 ++ [a2] ++ l3) : Int)) = (a1 == a2) := by
    rw [Bool.eq_iff_iff, beq_iff_eq, beq_iff_eq]
    constructor
    · intro h
      have := dig_one l0 l3 a1 a2 (by omega)
      unfold un at this; omega
    · rintro rfl; rfl
  rw [e1, beq_self_eq_true, seamarklaw08_CodecDigests.j1, if_pos rfl, join_f (by omega), Option.bind_some, join_f (by omega), Option.bind_some]
  have e2 : ((dig [2, wrap64 a4, wrap64 a5] : Int) == (dig [2, wrap64 a6, wrap64 a5] : Int)) = (a4 == a6) := by
    rw [Bool.eq_iff_iff, beq_iff_eq, beq_iff_eq]
    constructor
    · intro h
      have := dig_one [2] [wrap64 a5] (wrap64 a4) (wrap64 a6) (Int.ofNat_inj.1 h)
      rw [un_wrap, un_wrap] at this
      unfold un at this; omega
    · rintro rfl; rfl
  rw [e2, beq_self_eq_true, if_pos rfl, Option.bind_some, join_f (by omega), Option.bind_some]
  have e3 : ((dig [2, wrap64 a4, wrap64 a5] : Int) == (dig [2, wrap64 a4, wrap64 a6] : Int)) = (a5 == a6) := by
    rw [Bool.eq_iff_iff, beq_iff_eq, beq_iff_eq]
    constructor
    · intro h
      have := dig_one [2, wrap64 a4] [] (wrap64 a5) (wrap64 a6) (Int.ofNat_inj.1 h)
      rw [un_wrap, un_wrap] at this
      unfold un at this; omega
    · rintro rfl; rfl
  rw [e3, beq_self_eq_true]
end Go.Proofs.YtonhinepgkommaaM
