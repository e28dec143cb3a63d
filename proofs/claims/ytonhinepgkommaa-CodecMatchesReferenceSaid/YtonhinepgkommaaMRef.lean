/- The reference implementation of codec, in the same words: what it puts, sums, digests, frames. -/
import Derived.Test.YtonhinepgkommaaMGet
import Derived.Test.YtonhinepgkommaaMFrame
import Derived.Test.YtonhinepgkommaaMDigest
import Derived.Test.YtonhinepgkommaaQ5
set_option linter.unusedVariables false
set_option linter.unusedSimpArgs false
namespace Go.Proofs.YtonhinepgkommaaM
open Go Go.RowKit Go.Proofs.YtonhinepgkommaaH Go.Proofs.Ytonhinepgkommaa.Q Go.Proofs.YtonhinepgkommaaW.PrintWords Go.Proofs.YtonhinepgkommaaW.PrintMore

theorem tdiv_nat (n d : Nat) : Int.tdiv (n : Int) (d : Int) = ((n / d : Nat) : Int) := by
  rw [Int.tdiv_eq_ediv_of_nonneg (by omega)]; rfl
theorem tmod_nat (n d : Nat) : Int.tmod (n : Int) (d : Int) = ((n % d : Nat) : Int) := by
  rw [Int.tmod_eq_emod_of_nonneg (by omega)]; rfl
theorem ref_digits : ∀ (n : Nat), n < 2 ^ 64 → ∀ (acc : List Int) (k : Nat), acc.length + (digs n).length ≤ 140737488355328 → (digs n).length ≤ k → seamarkref08_Digits.l0 k (n : Int) acc = some (acc ++ digs n) := by
  intro n
  induction n using Nat.strongRecOn with
  | ind n ih =>
    intro h64 acc k hl hk
    have hp := digs_pos n
    obtain ⟨k, rfl⟩ : ∃ k', k = k' + 1 := ⟨k - 1, by omega⟩
    have e128 : (128 : Int) = ((128 : Nat) : Int) := rfl
    by_cases hn : 127 < n
    · rw [digs_big hn, List.length_cons] at hl hk
      rw [seamarkref08_Digits.l0, if_pos (by omega), if_pos (by omega), e128, tdiv_nat, tmod_nat]
      have e1 : IntKind.u64.wrap ((n / 128 : Nat) : Int) = ((n / 128 : Nat) : Int) := by rw [IntKind.wrap_u64]; omega
      have e2 : IntKind.u64.wrap (((n % 128 : Nat) : Int) + ((128 : Nat) : Int)) % 256 = ((n % 128 + 128 : Nat) : Int) := by rw [IntKind.wrap_u64]; omega
      rw [e1, e2, ih (n / 128) (by omega) (by omega) _ _ (by rw [List.length_append, List.length_singleton]; omega) (by omega), digs_big hn, List.append_assoc]
      rfl
    · rw [digs_small (by omega)] at hl hk ⊢
      simp only [List.length_cons, List.length_nil, Nat.zero_add] at hl
      rw [seamarkref08_Digits.l0, if_neg (by omega), if_pos (by omega)]
      have e : (n : Int) % 256 = n := by omega
      rw [e]
theorem ref_natural {x : Int} (h0 : -9223372036854775808 ≤ x) (h1 : x ≤ 9223372036854775807) : seamarkref08_Natural.f x = some (zig x : Int) := by
  unfold seamarkref08_Natural.f zig
  split
  · next h => congr 1; rw [IntKind.wrap_u64, IntKind.wrap_u64]; omega
  · next h => congr 1; rw [IntKind.wrap_u64, IntKind.wrap_u64, IntKind.wrap_u64]; unfold wrap64; omega
theorem ref_put_l0 : ∀ (b a acc : List Int) (k : Nat), I64 b → (a ++ b).length < 9223372036854775807 → acc.length + (enc b).length < 140737488355328 → b.length + 12 ≤ k →
    seamarkref08_Put.l0 k (a ++ b) acc (a.length : Int) = some (acc ++ enc b)
  | _, _, _, 0, _, _, _, h => by omega
  | [], a, acc, k + 1, _, _, _, _ => by
    rw [seamarkref08_Put.l0, if_neg (by simp)]
    simp [enc]
  | x :: b, a, acc, k + 1, hi, hs, hl, hk => by
    have hx := hi x (List.mem_cons_self ..)
    have hz := zig_lt hx.1 hx.2
    have h10 := digs_le10 hz
    rw [enc_cons, List.length_append] at hl
    rw [List.length_cons] at hk
    have hd : seamarkref08_Digits.f k (zig x : Int) = some (digs (zig x)) := by
      rw [seamarkref08_Digits.f, ref_digits _ hz [] k (by rw [List.length_nil]; omega) (by omega), List.nil_append]
    rw [seamarkref08_Put.l0, if_pos (by simp; omega), if_pos (by omega), rd_mid, ref_natural hx.1 hx.2, Option.bind_some, hd, Option.bind_some, if_pos (by omega), enc_cons]
    have e2 : wrap64 ((a.length : Int) + 1) = ((a ++ [x]).length : Int) := by
      rw [List.length_append] at hs
      unfold wrap64; rw [List.length_append]; simp at hs ⊢; omega
    have e3 : a ++ x :: b = (a ++ [x]) ++ b := by simp
    rw [e2, e3, ref_put_l0 b (a ++ [x]) (acc ++ digs (zig x)) k (fun y hy => hi y (List.mem_cons_of_mem _ hy)) (by rw [← e3]; exact hs) (by rw [List.length_append]; omega) (by omega)]
    simp
theorem ref_put {l : List Int} (h : I64 l) (hl : l.length ≤ 1000000000) {k : Nat} (hk : l.length + 12 ≤ k) : seamarkref08_Put.f k l = some (enc l) := by
  have he := enc_len h
  have := ref_put_l0 l [] [] k h (by simp; omega) (by simp; omega) hk
  simpa [seamarkref08_Put.f] using this
theorem Bn_succ (k c : Nat) : Bn k (B c) = Bn (k + 1) c := by
  induction k with
  | zero => rfl
  | succ k ih => rw [Bn, ih]; rfl
theorem ref_sum_l1 (xs : List Int) (i : Int) : ∀ (r : Nat), r ≤ 8 → ∀ (c : Nat) (k : Nat), c < 2 ^ 32 → seamarkref08_Sum.l1 (k + r + 1) xs (c : Int) i ((8 - r : Nat) : Int) = seamarkref08_Sum.l0 k xs (Bn r c : Int) (wrap64 (i + 1))
  | 0, _, c, k, h => by rw [seamarkref08_Sum.l1, if_neg (by omega)]; rfl
  | r + 1, hr, c, k, h => by
    have e2 : (2 : Int) = ((2 : Nat) : Int) := rfl
    have e3 : wrap64 (((8 - (r + 1) : Nat) : Int) + 1) = ((8 - r : Nat) : Int) := by unfold wrap64; omega
    rw [seamarkref08_Sum.l1, if_pos (by omega), e2, tmod_nat, tdiv_nat, e3]
    have e4 : ((c / 2 : Nat) : Int) % 4294967296 = ((c / 2 : Nat) : Int) := by omega
    rw [e4, ← Bn_succ]
    by_cases hc : c % 2 = 1
    · rw [if_pos (by omega), show (3988292384 : Int) = ((P : Nat) : Int) from rfl, xor_u32 _ _ (by omega) (by decide)]
      have : B c = c / 2 ^^^ P := by unfold B; rw [if_pos hc]
      rw [← this]
      exact ref_sum_l1 xs i r (by omega) (B c) k (B_lt h)
    · rw [if_neg (by omega)]
      have : B c = c / 2 := by unfold B; rw [if_neg hc]
      rw [← this]
      exact ref_sum_l1 xs i r (by omega) (B c) k (B_lt h)
theorem ref_sum_l0 : ∀ (b a : List Int) (k c : Nat), U8 b → c < 2 ^ 32 → (a ++ b).length < 9223372036854775807 → 10 * b.length + 1 ≤ k →
    seamarkref08_Sum.l0 k (a ++ b) (c : Int) (a.length : Int) = some ((nfold c b ^^^ F : Nat) : Int)
  | _, _, 0, _, _, _, _, h => by omega
  | [], a, k + 1, c, _, hc, _, _ => by
    rw [seamarkref08_Sum.l0, if_neg (by simp), show (4294967295 : Int) = ((F : Nat) : Int) from rfl, xor_u32 _ _ (by omega) (by decide)]; rfl
  | x :: b, a, k + 1, c, hU, hc, hs, hk => by
    obtain ⟨hx, hb⟩ := hU.cons
    rw [List.length_cons] at hk
    rw [seamarkref08_Sum.l0, if_pos (by simp; omega), if_pos (by omega), rd_mid]
    have e1 : x % 4294967296 = ((x.toNat : Nat) : Int) := by omega
    have hcx : c ^^^ x.toNat < 2 ^ 32 := xor_lt32 hc (by omega)
    rw [e1, xor_u32 _ _ (by omega) (by omega)]
    have h8 := ref_sum_l1 (a ++ x :: b) (a.length : Int) 8 (by omega) (c ^^^ x.toNat) (k - 9) hcx
    rw [show k - 9 + 8 + 1 = k by omega] at h8
    have e2 : wrap64 ((a.length : Int) + 1) = ((a ++ [x]).length : Int) := by
      rw [List.length_append] at hs
      unfold wrap64; rw [List.length_append]; simp at hs ⊢; omega
    have e3 : a ++ x :: b = (a ++ [x]) ++ b := by simp
    rw [show ((8 - 8 : Nat) : Int) = 0 from rfl, e2] at h8
    rw [h8, e3, nfold_cons]
    exact ref_sum_l0 b (a ++ [x]) (k - 9) _ hb (M_lt hcx) (by rw [← e3]; exact hs) (by omega)
theorem ref_sum {l : List Int} (h : U8 l) (hl : l.length < 9223372036854775807) {k : Nat} (hk : 10 * l.length + 1 ≤ k) : seamarkref08_Sum.f k l = some (crcSum l) := by
  have := ref_sum_l0 l [] k F h (by decide) hl hk
  rw [crcSum_nat h, Nat.xor_comm]
  exact this
theorem ref_digest_l0 : ∀ (b a : List Int) (k h : Nat), h < 2 ^ 64 → (a ++ b).length < 9223372036854775807 → b.length + 1 ≤ k →
    seamarkref08_Digest.l0 k (a ++ b) (h : Int) (a.length : Int) = some (dfold h b : Int)
  | _, _, 0, _, _, _, h => by omega
  | [], a, k + 1, h, hh, hl, _ => by
    rw [seamarkref08_Digest.l0, if_neg (by simp)]; rfl
  | x :: b, a, k + 1, h, hh, hl, hk => by
    rw [seamarkref08_Digest.l0, if_pos (by simp; omega), if_pos (by omega), rd_mid, digest_step h hh]
    have e2 : wrap64 ((a.length : Int) + 1) = ((a ++ [x]).length : Int) := by
      rw [List.length_append] at hl
      unfold wrap64; rw [List.length_append]; simp at hl ⊢; omega
    have e3 : a ++ x :: b = (a ++ [x]) ++ b := by simp
    rw [e2, e3]
    exact ref_digest_l0 b (a ++ [x]) k _ (dstep_lt _ _) (by rw [← e3]; exact hl) (by simp at hk; omega)
theorem ref_digest {l : List Int} (hl : l.length < 9223372036854775807) {k : Nat} (hk : l.length + 1 ≤ k) : seamarkref08_Digest.f k l = some (dig l : Int) := by
  rw [seamarkref08_Digest.f]
  have e : IntKind.u64.wrap (11400714819323198485 + (IntKind.u64.wrap ((l.length : Int)))) = (dinit l.length : Int) := by
    rw [IntKind.wrap_u64, IntKind.wrap_u64]; unfold dinit; omega
  rw [e]
  exact ref_digest_l0 l [] k _ (dinit_lt _) hl hk
theorem ref_join {k : Nat} (hk : 4 ≤ k) (a b : Int) : seamarkref08_Join.f k a b = some (dig [2, wrap64 a, wrap64 b] : Int) := by
  rw [seamarkref08_Join.f, ref_digest (by simp) (by simpa using hk), Option.bind_some]
theorem ref_frame {l : List Int} (hU : U8 l) (hl : l.length ≤ 100000) {k : Nat} (hk : 2000000 ≤ k) : seamarkref08_Frame.f k l = codec_Frame.f l := by
  by_cases h : l.length ≤ 65535
  · rw [frame_f h, seamarkref08_Frame.f, if_neg (by omega)]
    have e : [wrap64 ((l.length : Int) / 256) % 256, (l.length : Int) % 256] ++ l = headOf l := by
      have : wrap64 ((l.length : Int) / 256) = (l.length : Int) / 256 := by unfold wrap64; omega
      rw [this]; rfl
    simp only [Option.bind_some]
    rw [if_pos (by simp; omega), e, ref_sum (headOf_U8 hU) (by rw [headOf_len]; omega) (by rw [headOf_len]; omega), Option.bind_some, seamarkref08_Four.f, Option.bind_some, if_pos (by rw [headOf_len]; simp; omega)]
    rfl
  · rw [frame_big h, seamarkref08_Frame.f, if_pos (by omega)]
end Go.Proofs.YtonhinepgkommaaM
