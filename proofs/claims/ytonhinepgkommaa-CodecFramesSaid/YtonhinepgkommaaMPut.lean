/- Plain mathematics of codec.Put: what it writes, in digits. -/
import Derived.Test.YtonhinepgkommaaMBits
import Derived.Test.YtonhinepgkommaaHCodec4
import Derived.Test.YtonhinepgkommaaQ1
set_option linter.unusedVariables false
set_option linter.unusedSimpArgs false
namespace Go.Proofs.YtonhinepgkommaaM
open Go Go.RowKit Go.Proofs.YtonhinepgkommaaH Go.Proofs.Ytonhinepgkommaa.Q Go.Proofs.YtonhinepgkommaaW.PrintWords

/-! ### digits -/
def digs (n : Nat) : List Int := if 127 < n then ((n % 128 + 128 : Nat) : Int) :: digs (n / 128) else [(n : Int)]
termination_by n
decreasing_by omega
theorem digs_small {n : Nat} (h : n ≤ 127) : digs n = [(n : Int)] := by rw [digs, if_neg (by omega)]
theorem digs_big {n : Nat} (h : 127 < n) : digs n = ((n % 128 + 128 : Nat) : Int) :: digs (n / 128) := by rw [digs, if_pos h]
theorem digs_pos (n : Nat) : 0 < (digs n).length := by
  rw [digs]; split <;> simp
theorem digs_le : ∀ (k n : Nat), n < 128 ^ (k + 1) → (digs n).length ≤ k + 1
  | 0, n, h => by rw [digs_small (by omega)]; simp
  | k + 1, n, h => by
    by_cases hn : 127 < n
    · rw [digs_big hn]
      have : n / 128 < 128 ^ (k + 1) := by rw [Nat.div_lt_iff_lt_mul (by decide), ← Nat.pow_succ]; exact h
      have := digs_le k (n / 128) this
      simp; omega
    · rw [digs_small (by omega)]; simp
theorem digs_le10 {n : Nat} (h : n < 2 ^ 64) : (digs n).length ≤ 10 := digs_le 9 n (by omega)
theorem digs_bytes (n : Nat) : ∀ x ∈ digs n, 0 ≤ x ∧ x ≤ 255 := by
  induction n using Nat.strongRecOn with
  | ind n ih =>
    intro x hx
    by_cases hn : 127 < n
    · rw [digs_big hn] at hx
      rcases List.mem_cons.1 hx with rfl | hx
      · omega
      · exact ih _ (by omega) x hx
    · rw [digs_small (by omega)] at hx
      simp at hx; omega
def zig (x : Int) : Nat := if 0 ≤ x then (2 * x).toNat else (-2 * x - 1).toNat
theorem zig_lt {x : Int} (h0 : -9223372036854775808 ≤ x) (h1 : x ≤ 9223372036854775807) : zig x < 2 ^ 64 := by
  unfold zig; split <;> omega
theorem i64_bounds {x : Int} (h : (Lit.int .i64 x).wf = true) : -9223372036854775808 ≤ x ∧ x ≤ 9223372036854775807 := by
  simp only [Lit.wf, IntKind.min, IntKind.max, IntKind.signed, IntKind.bits, Bool.and_eq_true, decide_eq_true_eq, if_true] at h
  omega
theorem u8_bounds {x : Int} (h : (Lit.int .u8 x).wf = true) : 0 ≤ x ∧ x ≤ 255 := by
  simp [Lit.wf, IntKind.min, IntKind.max, IntKind.signed, IntKind.bits] at h
  omega
theorem u16_bounds {x : Int} (h : (Lit.int .u16 x).wf = true) : 0 ≤ x ∧ x ≤ 65535 := by
  simp [Lit.wf, IntKind.min, IntKind.max, IntKind.signed, IntKind.bits] at h
  omega
theorem u64_bounds {x : Int} (h : (Lit.int .u64 x).wf = true) : 0 ≤ x ∧ x ≤ 18446744073709551615 := by
  simp [Lit.wf, IntKind.min, IntKind.max, IntKind.signed, IntKind.bits] at h
  omega
theorem xor_ones (y : Nat) (h : y < 18446744073709551616) : y ^^^ 18446744073709551615 = 18446744073709551615 - y := by
  have h1 := BitVec.toNat_not (x := BitVec.ofNat 64 y)
  have h2 : ~~~ BitVec.ofNat 64 y = BitVec.ofNat 64 y ^^^ BitVec.allOnes 64 := (BitVec.xor_allOnes).symm
  rw [h2, BitVec.toNat_xor, BitVec.toNat_allOnes, BitVec.toNat_ofNat, Nat.mod_eq_of_lt (by omega)] at h1
  simpa using h1
theorem zig_bits {x : Int} (h0 : -9223372036854775808 ≤ x) (h1 : x ≤ 9223372036854775807) :
    Go.bits .xor .u64 (IntKind.u64.wrap ((IntKind.u64.wrap x) * 2)) (IntKind.u64.wrap (x / 9223372036854775808)) = (zig x : Int) := by
  unfold zig
  split
  · next h =>
    have e1 : IntKind.u64.wrap (IntKind.u64.wrap x * 2) = (((2 * x).toNat : Nat) : Int) := by rw [IntKind.wrap_u64, IntKind.wrap_u64]; omega
    have e2 : IntKind.u64.wrap (x / 9223372036854775808) = ((0 : Nat) : Int) := by rw [IntKind.wrap_u64]; omega
    rw [e1, e2, bits_xor_u64_nat _ _ (by omega) (by omega), Nat.xor_zero]
  · next h =>
    have e1 : IntKind.u64.wrap (IntKind.u64.wrap x * 2) = (((2 * x + 18446744073709551616).toNat : Nat) : Int) := by rw [IntKind.wrap_u64, IntKind.wrap_u64]; omega
    have e2 : IntKind.u64.wrap (x / 9223372036854775808) = ((18446744073709551615 : Nat) : Int) := by rw [IntKind.wrap_u64]; omega
    rw [e1, e2, bits_xor_u64_nat _ _ (by omega) (by omega), xor_ones _ (by omega)]
    omega
set_option maxRecDepth 20000 in
theorem or128 (m : Nat) (h : m < 256) : m ||| 128 = m % 128 + 128 := by
  have : ∀ m : Fin 256, m.val ||| 128 = m.val % 128 + 128 := by decide
  exact this ⟨m, h⟩
theorem or128_bits (n : Nat) : Go.bits .or .u8 ((n : Int) % 256) 128 = ((n % 128 + 128 : Nat) : Int) := by
  have h := (bits_nat .u8 8 (by decide) wraps_u8 (n % 256) 128 (by omega) (by decide)).2
  have e : ((n % 256 : Nat) : Int) = (n : Int) % 256 := by omega
  have e2 : ((128 : Nat) : Int) = 128 := rfl
  rw [e, e2] at h
  rw [h, or128 _ (by omega)]
  congr 1
  omega
def enc (l : List Int) : List Int := l.flatMap fun x => digs (zig x)
theorem enc_nil : enc [] = [] := rfl
theorem enc_cons (x : Int) (l : List Int) : enc (x :: l) = digs (zig x) ++ enc l := by simp [enc]
theorem enc_append (a b : List Int) : enc (a ++ b) = enc a ++ enc b := by simp [enc]
def I64 (l : List Int) : Prop := ∀ x ∈ l, -9223372036854775808 ≤ x ∧ x ≤ 9223372036854775807
theorem I64.of {l : List Int} (h : ∀ x ∈ l, (Lit.int .i64 x).wf = true) : I64 l := fun x hx => i64_bounds (h x hx)
def U8 (l : List Int) : Prop := ∀ x ∈ l, 0 ≤ x ∧ x ≤ 255
theorem U8.of {l : List Int} (h : ∀ x ∈ l, (Lit.int .u8 x).wf = true) : U8 l := fun x hx => u8_bounds (h x hx)
theorem enc_len {l : List Int} (h : I64 l) : (enc l).length ≤ 10 * l.length := by
  induction l with
  | nil => simp [enc]
  | cons x l ih =>
    rw [enc_cons, List.length_append]
    have h1 := ih (fun y hy => h y (List.mem_cons_of_mem _ hy))
    have hx := h x (List.mem_cons_self ..)
    have h2 := digs_le10 (zig_lt hx.1 hx.2)
    simp; omega
theorem enc_U8 (l : List Int) : U8 (enc l) := by
  intro x hx
  obtain ⟨y, _, hy⟩ := List.mem_flatMap.1 hx
  exact digs_bytes _ x hy

/-! ### the loops of Put -/
theorem put_l1 (xs : List Int) (L i : Int) (k : Nat) : ∀ (n : Nat) (acc : List Int), acc.length + (digs n).length ≤ 140737488355328 →
    codec_Put.l1 (k + (digs n).length) acc (n : Int) xs L i = codec_Put.l0 k (acc ++ digs n) xs L (wrap64 (i + 1)) := by
  intro n
  induction n using Nat.strongRecOn with
  | ind n ih =>
    intro acc hl
    by_cases hn : 127 < n
    · rw [digs_big hn] at hl ⊢
      rw [List.length_cons] at hl
      rw [List.length_cons, show k + ((digs (n / 128)).length + 1) = (k + (digs (n / 128)).length) + 1 from rfl, codec_Put.l1, if_pos (by omega), if_pos (by omega), or128_bits]
      have e : (n : Int) / 128 = ((n / 128 : Nat) : Int) := by omega
      rw [e, ih (n / 128) (by omega) _ (by rw [List.length_append]; simp; omega)]
      simp
    · rw [digs_small (by omega)] at hl ⊢
      simp only [List.length_cons, List.length_nil, Nat.zero_add] at hl ⊢
      rw [codec_Put.l1, if_neg (by omega), if_pos (by omega)]
      have e : (n : Int) % 256 = n := by omega
      rw [e]
theorem rd_mid (a : List Int) (x : Int) (b : List Int) : rd (a ++ x :: b) (a.length : Int) = x := by
  unfold rd; rw [Int.toNat_natCast]; simp
theorem put_l0 (k : Nat) : ∀ (b a acc : List Int), I64 b → (a ++ b).length < 9223372036854775807 → acc.length + (enc b).length ≤ 140737488355328 →
    codec_Put.l0 (k + (b.length + (enc b).length) + 1) acc (a ++ b) ((a ++ b).length : Int) (a.length : Int) = some (acc ++ enc b)
  | [], a, acc, _, _, _ => by
    rw [codec_Put.l0, if_neg (by simp)]
    simp [enc]
  | x :: b, a, acc, hi, hs, hl => by
    have hx := hi x (List.mem_cons_self ..)
    rw [enc_cons, List.length_append] at hl
    rw [codec_Put.l0, if_pos (by simp; omega), if_pos (by omega), if_pos (by simp; omega), rd_mid, zig_bits hx.1 hx.2, enc_cons, List.length_append]
    have e : k + ((x :: b).length + ((digs (zig x)).length + (enc b).length)) = (k + (b.length + (enc b).length) + 1) + (digs (zig x)).length := by simp; omega
    rw [e, put_l1 _ _ _ _ _ _ (by omega)]
    have e2 : wrap64 ((a.length : Int) + 1) = ((a ++ [x]).length : Int) := by
      rw [List.length_append] at hs
      unfold wrap64; rw [List.length_append]; simp at hs ⊢; omega
    have e3 : a ++ x :: b = (a ++ [x]) ++ b := by simp
    have := put_l0 k b (a ++ [x]) (acc ++ digs (zig x)) (fun y hy => hi y (List.mem_cons_of_mem _ hy)) (by rw [← e3]; exact hs) (by rw [List.length_append]; omega)
    rw [e2, e3, this]
    simp
/-- Put, at any number of rounds that is large enough. -/
theorem put_f {l : List Int} (h : I64 l) (hl : l.length ≤ 1000000000) {k : Nat} (hk : 11 * l.length + 1 ≤ k) : codec_Put.f k l = some (enc l) := by
  have he := enc_len h
  have := put_l0 (k - (l.length + (enc l).length) - 1) l [] [] h (by simp; omega) (by simp; omega)
  rw [show k - (l.length + (enc l).length) - 1 + (l.length + (enc l).length) + 1 = k by omega] at this
  simpa [codec_Put.f] using this
end Go.Proofs.YtonhinepgkommaaM
