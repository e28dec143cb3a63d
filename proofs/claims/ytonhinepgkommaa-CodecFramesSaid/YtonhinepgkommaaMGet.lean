/- Plain mathematics of codec.Get: what it reads is what was written. -/
import Derived.Test.YtonhinepgkommaaMPut
import Derived.Laws.DeepNot64
set_option linter.unusedVariables false
set_option linter.unusedSimpArgs false
namespace Go.Proofs.YtonhinepgkommaaM
open Go Go.RowKit Go.Proofs.YtonhinepgkommaaH Go.Proofs.Ytonhinepgkommaa.Q Go.Proofs.YtonhinepgkommaaW.PrintWords

theorem bits_or_comm (k : IntKind) (a b : Int) : Go.bits .or k a b = Go.bits .or k b a := by simp [Go.bits, BitVec.or_comm]
theorem bits_xor_comm (k : IntKind) (a b : Int) : Go.bits .xor k a b = Go.bits .xor k b a := by simp [Go.bits, BitVec.xor_comm]
/-! ### the value of digits -/
def val : List Int → Nat
  | [] => 0
  | x :: t => x.toNat % 128 + 128 * val t
theorem val_lt : ∀ a : List Int, val a < 128 ^ a.length
  | [] => by simp [val]
  | x :: t => by
    have := val_lt t
    rw [List.length_cons, Nat.pow_succ, val]
    omega
theorem val_snoc (x : Int) : ∀ a : List Int, val (a ++ [x]) = val a + 128 ^ a.length * (x.toNat % 128)
  | [] => by simp [val]
  | y :: t => by
    rw [List.cons_append, val, val, val_snoc x t, List.length_cons, Nat.pow_succ, Nat.mul_add, Nat.mul_comm (128 ^ t.length) 128, Nat.mul_assoc, Nat.add_assoc]
theorem val_digs (n : Nat) : val (digs n) = n := by
  induction n using Nat.strongRecOn with
  | ind n ih =>
    by_cases hn : 127 < n
    · rw [digs_big hn, val, ih _ (by omega)]; omega
    · rw [digs_small (by omega)]; simp [val]; omega
theorem rd_get {b : List Int} {k : Nat} (hk : k < b.length) : rd b (k : Int) = b[k] := by
  unfold rd; rw [Int.toNat_natCast, List.getD_eq_getElem?_getD, List.getElem?_eq_getElem hk]; rfl
theorem take_next {b : List Int} {k : Nat} (hk : k < b.length) : b.take (k + 1) = b.take k ++ [rd b (k : Int)] := by
  rw [rd_get hk, List.take_succ_eq_append_getElem hk]
theorem U8.rd_in {b : List Int} (h : U8 b) {k : Nat} (hk : k < b.length) : 0 ≤ rd b (k : Int) ∧ rd b (k : Int) ≤ 255 := by
  rw [rd_get hk]; exact h _ (List.getElem_mem hk)
theorem and127 {x : Int} (h0 : 0 ≤ x) (h1 : x ≤ 255) : Go.bits .and .u8 x 127 = x % 128 := bits_mask .u8 8 (by decide) wraps_u8 7 (by decide) x h0 (by omega)
theorem digTo_val {b : List Int} (hU : U8 b) : ∀ k : Nat, k ≤ b.length → k ≤ 10 → (k = 10 → rd b 9 ≤ 1) → digTo b k = (val (b.take k) : Int) ∧ val (b.take k) < 2 ^ 64
  | 0, _, _, _ => by simp [digTo, val]
  | k + 1, hk, h10, h9 => by
    obtain ⟨ih, _⟩ := digTo_val hU k (by omega) (by omega) (by omega)
    have hx := hU.rd_in (k := k) (by omega)
    have hv := val_lt (b.take k)
    have hl : (b.take k).length = k := by rw [List.length_take]; omega
    rw [hl] at hv
    have hp : (128 : Nat) ^ k = 2 ^ (7 * k) := by rw [Nat.pow_mul]
    rw [take_next (by omega), val_snoc, hl, hp, digTo, ih, and127 hx.1 hx.2]
    rw [hp] at hv
    generalize hv' : val (b.take k) = v at *
    have e0 : rd b (k : Int) % 128 = (((rd b (k : Int)).toNat % 128 : Nat) : Int) := by omega
    have hd : (rd b (k : Int)).toNat % 128 * 2 ^ (7 * k) + 2 ^ (7 * k) ≤ 2 ^ 64 := by
      by_cases h8 : k ≤ 8
      · have h1 : 2 ^ (7 * k) ≤ 2 ^ 56 := Nat.pow_le_pow_right (by decide) (by omega)
        have h2 : (rd b (k : Int)).toNat % 128 * 2 ^ (7 * k) ≤ 127 * 2 ^ 56 := Nat.mul_le_mul (by omega) h1
        omega
      · obtain rfl : k = 9 := by omega
        have := h9 rfl
        have e9 : ((9 : Nat) : Int) = 9 := rfl
        rw [e9] at hx ⊢
        generalize rd b 9 = z at *
        have : z.toNat % 128 ≤ 1 := by omega
        omega
    rw [e0]
    generalize (rd b (k : Int)).toNat % 128 = d at *
    have hpos : 0 < 2 ^ (7 * k) := Nat.two_pow_pos _
    have hd1 : d ≤ d * 2 ^ (7 * k) := Nat.le_mul_of_pos_right _ hpos
    have e1 : IntKind.u64.wrap (d : Int) = d := by rw [IntKind.wrap_u64]; omega
    have e2 : IntKind.u64.wrap ((d : Int) * 2 ^ (7 * k)) = ((d * 2 ^ (7 * k) : Nat) : Int) := by
      have : (d : Int) * 2 ^ (7 * k) = ((d * 2 ^ (7 * k) : Nat) : Int) := by push_cast; rfl
      rw [this, IntKind.wrap_u64]
      omega
    rw [e1, e2, bits_or_u64_nat _ _ (by omega) (by omega), Nat.or_comm, Nat.mul_comm d, ← Nat.two_pow_add_eq_or_of_lt hv]
    rw [Nat.mul_comm] at hd
    exact ⟨by congr 1; omega, by omega⟩

/-! ### digits that have one number -/
def CanT : List Int → Prop
  | [] => False
  | x :: t => if t = [] then 0 < x ∧ x < 128 else 128 ≤ x ∧ x ≤ 255 ∧ CanT t
def Can : List Int → Prop
  | [] => False
  | x :: t => if t = [] then 0 ≤ x ∧ x < 128 else 128 ≤ x ∧ x ≤ 255 ∧ CanT t
theorem digs_ne (n : Nat) : digs n ≠ [] := fun h => by have := digs_pos n; rw [h] at this; simp at this
theorem digs_canT (n : Nat) (h : 0 < n) : CanT (digs n) := by
  induction n using Nat.strongRecOn with
  | ind n ih =>
    by_cases hn : 127 < n
    · rw [digs_big hn, CanT, if_neg (digs_ne _)]
      exact ⟨by omega, by omega, ih _ (by omega) (by omega)⟩
    · rw [digs_small (by omega), CanT, if_pos rfl]; omega
theorem digs_can (n : Nat) : Can (digs n) := by
  by_cases hn : 127 < n
  · rw [digs_big hn, Can, if_neg (digs_ne _)]
    exact ⟨by omega, by omega, digs_canT _ (by omega)⟩
  · rw [digs_small (by omega), Can, if_pos rfl]; omega
theorem canT_digs : ∀ c : List Int, CanT c → 0 < val c ∧ digs (val c) = c
  | [], h => h.elim
  | x :: t, h => by
    unfold CanT at h
    by_cases ht : t = []
    · rw [if_pos ht] at h
      subst ht
      have e : val [x] = x.toNat := by simp [val]; omega
      rw [e, digs_small (by omega)]
      exact ⟨by omega, by rw [Int.toNat_of_nonneg (by omega)]⟩
    · rw [if_neg ht] at h
      obtain ⟨h1, h2⟩ := canT_digs t h.2.2
      rw [val]
      refine ⟨by omega, ?_⟩
      rw [digs_big (by omega), show (x.toNat % 128 + 128 * val t) / 128 = val t by omega, h2]
      congr 1; omega
theorem can_digs : ∀ c : List Int, Can c → digs (val c) = c
  | [], h => h.elim
  | x :: t, h => by
    simp only [Can] at h
    by_cases ht : t = []
    · rw [if_pos ht] at h
      subst ht
      have e : val [x] = x.toNat := by simp [val]; omega
      rw [e, digs_small (by omega), Int.toNat_of_nonneg (by omega)]
    · rw [if_neg ht] at h
      obtain ⟨h1, h2⟩ := canT_digs t h.2.2
      rw [val]
      rw [digs_big (by omega), show (x.toNat % 128 + 128 * val t) / 128 = val t by omega, h2]
      congr 1; omega
theorem rd_cons_succ (x : Int) (t : List Int) (k : Nat) : rd (x :: t) ((k + 1 : Nat) : Int) = rd t (k : Int) := by
  unfold rd; rw [Int.toNat_natCast, Int.toNat_natCast]; simp
theorem canT_last : ∀ (c r : List Int), CanT c → lastAt (c ++ r) = some (c.length - 1) ∧ 0 < rd (c ++ r) ((c.length - 1 : Nat) : Int) ∧ rd (c ++ r) ((c.length - 1 : Nat) : Int) < 128
  | [], r, h => h.elim
  | x :: t, r, h => by
    unfold CanT at h
    by_cases ht : t = []
    · rw [if_pos ht] at h
      subst ht
      exact ⟨by simp [lastAt, h.2], by simpa [rd] using h⟩
    · rw [if_neg ht] at h
      obtain ⟨h1, h2⟩ := canT_last t r h.2.2
      have hp : 0 < t.length := List.length_pos_iff.2 ht
      have e : (x :: t).length - 1 = (t.length - 1) + 1 := by simp; omega
      refine ⟨?_, ?_⟩
      · rw [List.cons_append, lastAt, if_neg (by omega), h1, e]; rfl
      · rw [e, List.cons_append, rd_cons_succ]; exact h2
theorem can_last : ∀ (c r : List Int), Can c → lastAt (c ++ r) = some (c.length - 1) ∧ (1 < c.length → 0 < rd (c ++ r) ((c.length - 1 : Nat) : Int)) ∧ rd (c ++ r) ((c.length - 1 : Nat) : Int) < 128
  | [], r, h => h.elim
  | x :: t, r, h => by
    simp only [Can] at h
    by_cases ht : t = []
    · rw [if_pos ht] at h
      subst ht
      exact ⟨by simp [lastAt, h.2], by simp, by simpa [rd] using h.2⟩
    · rw [if_neg ht] at h
      obtain ⟨h1, h2, h3⟩ := canT_last t r h.2.2
      have hp : 0 < t.length := List.length_pos_iff.2 ht
      have e : (x :: t).length - 1 = (t.length - 1) + 1 := by simp; omega
      refine ⟨?_, ?_⟩
      · rw [List.cons_append, lastAt, if_neg (by omega), h1, e]; rfl
      · rw [e, List.cons_append, rd_cons_succ]; exact ⟨fun _ => h2, h3⟩
theorem lastAt_canT : ∀ (b : List Int) (i : Nat), lastAt b = some i → U8 b → rd b (i : Int) ≠ 0 → CanT (b.take (i + 1))
  | [], i, h, _, _ => by cases h
  | x :: t, i, h, hU, hz => by
    have hx := hU x (List.mem_cons_self ..)
    unfold lastAt at h
    by_cases h0 : x < 128
    · rw [if_pos h0] at h
      obtain rfl := Option.some.inj h
      have : x ≠ 0 := by simpa [rd] using hz
      simp [CanT]; omega
    · rw [if_neg h0] at h
      obtain ⟨j, hj, rfl⟩ := Option.map_eq_some_iff.1 h
      rw [rd_cons_succ] at hz
      have := lastAt_canT t j hj (fun y hy => hU y (List.mem_cons_of_mem _ hy)) hz
      rw [List.take_succ_cons, CanT, if_neg (fun he => by rw [he] at this; exact this)]
      exact ⟨by omega, by omega, this⟩
theorem lastAt_can (b : List Int) (i : Nat) (h : lastAt b = some i) (hU : U8 b) (hz : ¬(1 < i + 1 ∧ rd b (i : Int) = 0)) : Can (b.take (i + 1)) := by
  match b, h, hU, hz with
  | x :: t, h, hU, hz =>
    have hx := hU x (List.mem_cons_self ..)
    unfold lastAt at h
    by_cases h0 : x < 128
    · rw [if_pos h0] at h
      obtain rfl := Option.some.inj h
      simp [Can]; omega
    · rw [if_neg h0] at h
      obtain ⟨j, hj, rfl⟩ := Option.map_eq_some_iff.1 h
      rw [rd_cons_succ] at hz
      have := lastAt_canT t j hj (fun y hy => hU y (List.mem_cons_of_mem _ hy)) (fun h => hz ⟨by omega, h⟩)
      rw [List.take_succ_cons, Can, if_neg (fun he => by rw [he] at this; exact this)]
      exact ⟨by omega, by omega, this⟩

/-! ### zig and back -/
theorem xor_i64_zero (y : Nat) (h : y < 9223372036854775808) : Go.bits .xor .i64 (y : Int) 0 = (y : Int) := by
  show IntKind.i64.wrap ((BitVec.ofInt 64 (y : Int) ^^^ BitVec.ofInt 64 0).toNat : Int) = _
  have h1 : (BitVec.ofInt 64 (y : Int)).toNat = y := by rw [BitVec.ofInt_natCast, BitVec.toNat_ofNat]; exact Nat.mod_eq_of_lt (by omega)
  rw [BitVec.toNat_xor, h1, show (BitVec.ofInt 64 0).toNat = 0 by decide, Nat.xor_zero, IntKind.wrap_i64]
  omega
theorem unzig_eq (n : Nat) (h : n < 2 ^ 64) : unzig (n : Int) = if n % 2 = 0 then ((n / 2 : Nat) : Int) else -1 - ((n / 2 : Nat) : Int) := by
  unfold unzig
  have e1 : wrap64 ((n : Int) / 2) = ((n / 2 : Nat) : Int) := by unfold wrap64; omega
  have e2 : Go.bits .and .u64 (n : Int) 1 = ((n % 2 : Nat) : Int) := by
    have := bits_and_u64_nat n 1 (by omega) (by decide)
    rw [Nat.and_one_is_mod] at this
    exact this
  rw [e1, e2]
  split
  · next hz =>
    rw [hz, show wrap64 (-wrap64 ((0 : Nat) : Int)) = 0 by unfold wrap64; omega, xor_i64_zero _ (by omega)]
  · next hz =>
    rw [show n % 2 = 1 by omega, show wrap64 (-wrap64 ((1 : Nat) : Int)) = -1 by unfold wrap64; omega, bits_xor_comm, i64_not _ (by omega)]
theorem unzig_zig {x : Int} (h0 : -9223372036854775808 ≤ x) (h1 : x ≤ 9223372036854775807) : unzig (zig x : Int) = x := by
  rw [unzig_eq _ (zig_lt h0 h1)]
  unfold zig
  split <;> split <;> omega
theorem zig_unzig {n : Nat} (h : n < 2 ^ 64) : zig (unzig (n : Int)) = n := by
  rw [unzig_eq _ h]
  unfold zig
  split <;> split <;> omega
theorem unzig_bounds {n : Nat} (h : n < 2 ^ 64) : -9223372036854775808 ≤ unzig (n : Int) ∧ unzig (n : Int) ≤ 9223372036854775807 := by
  rw [unzig_eq _ h]
  split <;> omega

/-! ### Get -/
theorem rd9 (n : Nat) (h : n < 2 ^ 64) (r : List Int) (h10 : 9 < (digs n).length) : rd (digs n ++ r) 9 ≤ 1 := by
  have h1 := digs_le10 h
  have hl : (digs n).length = 10 := by omega
  have hv := val_digs n
  have ht : digs n = (digs n).take 9 ++ [rd (digs n) ((9 : Nat) : Int)] := by
    rw [← take_next (by omega)]; exact (List.take_of_length_le (by omega)).symm
  rw [ht, val_snoc, List.length_take, hl] at hv
  have hc := (can_last (digs n) r (digs_can n)).2.2
  rw [hl] at hc
  have e : rd (digs n ++ r) ((9 : Nat) : Int) = rd (digs n) ((9 : Nat) : Int) := by
    rw [rd_get (b := digs n) (k := 9) (by omega), rd_get (b := digs n ++ r) (k := 9) (by rw [List.length_append]; omega), List.getElem_append_left]
  have e9 : ((9 : Nat) : Int) = 9 := rfl
  have e10 : ((10 - 1 : Nat) : Int) = 9 := rfl
  rw [e9] at hv e
  rw [e10] at hc
  rw [e] at hc ⊢
  have hm : min 9 10 = 9 := rfl
  rw [hm] at hv
  generalize rd (digs n) 9 = z at *
  omega
theorem get_enc : ∀ (l acc : List Int) (k : Nat), I64 l → acc.length + l.length ≤ 17592186044416 → l.length + 1 ≤ k → codec_Get.l0 k acc (enc l) = some (acc ++ l, 0)
  | [], acc, 0, _, _, h => by simp at h
  | [], acc, k + 1, _, _, _ => by simp [codec_Get.l0, enc]
  | x :: l, acc, 0, _, _, h => by simp at h
  | x :: l, acc, k + 1, hi, ha, hk => by
    have hx := hi x (List.mem_cons_self ..)
    have hz := zig_lt hx.1 hx.2
    rw [enc_cons]
    obtain ⟨h1, h2, h3⟩ := can_last (digs (zig x)) (enc l) (digs_can _)
    have hp := digs_pos (zig x)
    have h10 := digs_le10 hz
    have e : (digs (zig x)).length - 1 + 1 = (digs (zig x)).length := by omega
    have r9 := rd9 (zig x) hz (enc l)
    have ht : (digs (zig x) ++ enc l).take (digs (zig x)).length = digs (zig x) := by simp
    have hv := (digTo_val (b := digs (zig x) ++ enc l) (fun y hy => by
      rcases List.mem_append.1 hy with hy | hy
      · exact digs_bytes _ y hy
      · exact enc_U8 l y hy) (digs (zig x)).length (by simp) h10 (fun he => r9 (by omega))).1
    rw [ht, val_digs] at hv
    rw [codec_Get.l0, if_neg (by rw [List.length_append]; omega)]
    simp only [h1, e]
    rw [if_neg (by rintro ⟨ha, hb⟩; have := r9 ha; omega), if_neg (by rintro ⟨ha, hb⟩; have := h2 ha; omega), if_pos (by simp at ha; omega), hv, unzig_zig hx.1 hx.2]
    have hd : (digs (zig x) ++ enc l).drop (digs (zig x)).length = enc l := by simp
    rw [hd, get_enc l (acc ++ [x]) k (fun y hy => hi y (List.mem_cons_of_mem _ hy)) (by simp at ha ⊢; omega) (by simp at hk; omega)]
    simp
theorem get_f {l : List Int} (h : I64 l) (hl : l.length ≤ 17592186044416) : codec_Get.f (enc l) = some (l, 0) := by
  have h1 : l.length ≤ (enc l).length := by
    clear hl h
    induction l with
    | nil => simp
    | cons x l ih => rw [enc_cons, List.length_append, List.length_cons]; have := digs_pos (zig x); omega
  have := get_enc l [] ((enc l).length + 1) h (by simpa using hl) (by omega)
  simpa [codec_Get.f] using this
theorem get_back : ∀ (k : Nat) (acc b : List Int), U8 b → b.length < k → acc.length + b.length ≤ 17592186044416 →
    (∃ m, codec_Get.l0 k acc b = some (acc ++ m, 0) ∧ enc m = b ∧ I64 m ∧ m.length ≤ b.length) ∨ codec_Get.l0 k acc b = some ([], 7) ∨ codec_Get.l0 k acc b = some ([], 8)
  | 0, acc, b, _, h, _ => by omega
  | k + 1, acc, b, hU, hk, ha => by
    rw [codec_Get.l0]
    by_cases hz : b.length = 0
    · rw [if_pos hz]
      left
      refine ⟨[], by simp, ?_, (by intro x hx; cases hx), by simp⟩
      rw [enc_nil, List.eq_nil_of_length_eq_zero hz]
    rw [if_neg hz]
    cases hla : lastAt b with
    | none =>
      right
      simp only
      split
      · exact .inl rfl
      · exact .inr rfl
    | some i =>
      simp only
      by_cases c1 : 9 < i + 1 ∧ 1 < rd b 9
      · rw [if_pos c1]; exact .inr (.inl rfl)
      rw [if_neg c1]
      by_cases c2 : 1 < i + 1 ∧ rd b (i : Int) = 0
      · rw [if_pos c2]; exact .inr (.inl rfl)
      rw [if_neg c2, if_pos (by omega)]
      have hi := lastAt_lt hla
      have h10 : i + 1 ≤ 10 := by
        by_cases h : i + 1 ≤ 10
        · exact h
        · have := lastAt_before hla 9 (by omega)
          have e9 : ((9 : Nat) : Int) = 9 := rfl
          rw [e9] at this
          exact absurd ⟨by omega, by omega⟩ c1
      obtain ⟨hv, hlt⟩ := digTo_val hU (i + 1) (by omega) h10 (fun he => by
        by_cases h : rd b 9 ≤ 1
        · exact h
        · exact absurd ⟨by omega, by omega⟩ c1)
      rw [hv]
      have hcan := can_digs _ (lastAt_can b i hla hU c2)
      have hUd : U8 (b.drop (i + 1)) := fun y hy => hU y (List.mem_of_mem_drop hy)
      rcases get_back k (acc ++ [unzig (val (b.take (i + 1)) : Int)]) (b.drop (i + 1)) hUd (by rw [List.length_drop]; omega) (by rw [List.length_drop, List.length_append, List.length_singleton]; omega) with ⟨m, h1, h2, h3, h4⟩ | h | h
      · left
        refine ⟨unzig (val (b.take (i + 1)) : Int) :: m, by rw [h1]; simp, ?_, ?_, ?_⟩
        · rw [enc_cons, zig_unzig hlt, hcan, h2, List.take_append_drop]
        · intro y hy
          rcases List.mem_cons.1 hy with rfl | hy
          · exact unzig_bounds hlt
          · exact h3 y hy
        · rw [List.length_drop] at h4; simp; omega
      · exact .inr (.inl h)
      · exact .inr (.inr h)
theorem get_f_back {b : List Int} (h : U8 b) (hl : b.length ≤ 17592186044416) :
    (∃ m, codec_Get.f b = some (m, 0) ∧ enc m = b ∧ I64 m ∧ m.length ≤ b.length) ∨ codec_Get.f b = some ([], 7) ∨ codec_Get.f b = some ([], 8) := by
  have := get_back (b.length + 1) [] b h (by omega) (by simpa using hl)
  simpa [codec_Get.f] using this
end Go.Proofs.YtonhinepgkommaaM
