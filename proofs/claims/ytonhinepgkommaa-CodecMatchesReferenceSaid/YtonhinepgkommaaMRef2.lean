/- The reference implementation of codec: what it gets and opens is what the program does. -/
import Derived.Test.YtonhinepgkommaaMRef
import Derived.Test.YtonhinepgkommaaPureBack
import Derived.Test.YtonhinepgkommaaQ7
set_option linter.unusedVariables false
set_option linter.unusedSimpArgs false
namespace Go.Proofs.YtonhinepgkommaaM
open Go Go.RowKit Go.Proofs.YtonhinepgkommaaH Go.Proofs.Ytonhinepgkommaa.Q Go.Proofs.YtonhinepgkommaaW.PrintWords Go.Proofs.YtonhinepgkommaaW.PrintMore

theorem ref_integer {n : Nat} (h : n < 2 ^ 64) : seamarkref08_Integer.f (n : Int) = some (unzig (n : Int)) := by
  rw [unzig_eq n h, seamarkref08_Integer.f, show (2 : Int) = ((2 : Nat) : Int) from rfl, tmod_nat, tdiv_nat]
  have e : IntKind.u64.wrap ((n / 2 : Nat) : Int) = ((n / 2 : Nat) : Int) := by rw [IntKind.wrap_u64]; omega
  rw [e]
  split
  · next hz => rw [if_pos (by omega)]; congr 1; unfold wrap64; omega
  · next hz => rw [if_neg (by omega)]; congr 1; unfold wrap64; omega
theorem rd_app (p b : List Int) (j : Nat) (hj : j < b.length) : rd (p ++ b) ((p.length + j : Nat) : Int) = rd b (j : Int) := by
  rw [rd_get (b := p ++ b) (k := p.length + j) (by rw [List.length_append]; omega), rd_get (b := b) (k := j) hj, List.getElem_append_right (by omega)]
  congr 1; omega
theorem ref_value {b : List Int} (hU : U8 b) {j : Nat} (hj : j < b.length) (h9 : j ≤ 9) (h10 : j = 9 → rd b 9 ≤ 1) :
    IntKind.u64.wrap ((val (b.take j) : Int) + (shl .u64 (IntKind.u64.wrap (Int.tmod (rd b (j : Int)) 128)) (wrap64 (7 * (j : Int))))) = (val (b.take (j + 1)) : Int) := by
  have hlt := (digTo_val hU (j + 1) (by omega) (by omega) (fun h => h10 (by omega))).2
  have hx := hU.rd_in hj
  have hl : (b.take j).length = j := by rw [List.length_take]; omega
  have hp : (128 : Nat) ^ j = 2 ^ (7 * j) := by rw [Nat.pow_mul]
  rw [take_next hj, val_snoc, hl, hp] at hlt ⊢
  have e0 : Int.tmod (rd b (j : Int)) 128 = (((rd b (j : Int)).toNat % 128 : Nat) : Int) := by
    rw [Int.tmod_eq_emod_of_nonneg hx.1]; omega
  rw [e0]
  generalize (rd b (j : Int)).toNat % 128 = d at *
  have hpos : 0 < 2 ^ (7 * j) := Nat.two_pow_pos _
  have hd1 : d ≤ 2 ^ (7 * j) * d := Nat.le_mul_of_pos_left _ hpos
  have e1 : IntKind.u64.wrap (d : Int) = d := by rw [IntKind.wrap_u64]; omega
  have e2 : wrap64 (7 * (j : Int)) = ((7 * j : Nat) : Int) := by unfold wrap64; omega
  rw [e1, e2]
  unfold shl
  rw [Int.toNat_natCast, show min (7 * j) (IntKind.bits .u64) = 7 * j from Nat.min_eq_left (by show 7 * j ≤ 64; omega)]
  have e3 : (d : Int) * 2 ^ (7 * j) = ((2 ^ (7 * j) * d : Nat) : Int) := by push_cast; exact Int.mul_comm _ _
  rw [e3]
  generalize 2 ^ (7 * j) * d = q at *
  rw [IntKind.wrap_u64, IntKind.wrap_u64]
  omega
theorem w7 (j : Nat) (h : j ≤ 9) : 0 ≤ wrap64 (7 * (j : Int)) := by
  have : (7 * (j : Int) + 9223372036854775808) % 18446744073709551616 = 7 * (j : Int) + 9223372036854775808 := Int.emod_eq_of_lt (by omega) (by omega)
  unfold wrap64
  rw [this]; omega
theorem wadd (a b : Nat) (h : a + b ≤ 4611686018427387904) : wrap64 ((a : Int) + (b : Int)) = ((a + b : Nat) : Int) := by unfold wrap64; omega
theorem wone (a : Nat) (h : a ≤ 4611686018427387904) : wrap64 ((a : Int) + 1) = ((a + 1 : Nat) : Int) := by unfold wrap64; omega
theorem lastAt_at : ∀ (b : List Int) (i : Nat), lastAt b = some i → rd b (i : Int) < 128 := by
  intro b
  induction b with
  | nil => intro i h; cases h
  | cons x t ih =>
    intro i h
    unfold lastAt at h
    by_cases h0 : x < 128
    · rw [if_pos h0] at h
      obtain rfl := Option.some.inj h
      simpa [rd] using h0
    · rw [if_neg h0] at h
      obtain ⟨j, hj, rfl⟩ := Option.map_eq_some_iff.1 h
      rw [rd_cons_succ]
      exact ih j hj
theorem ref_get_l1 (p b acc : List Int) (kc : Nat) (hU : U8 b) (hs : (p ++ b).length ≤ 1000000) (ha : acc.length + b.length ≤ 17592186044415) (hb : b.length ≠ 0)
    (next : ∀ (j : Nat) (acc' : List Int) (k : Nat), j < b.length → acc'.length = acc.length + 1 → 3 * (b.length - (j + 1)) + 3 ≤ k →
      seamarkref08_Get.l0 k (p ++ b) acc' ((p.length + (j + 1) : Nat) : Int) = codec_Get.l0 kc acc' (b.drop (j + 1))) :
    ∀ (r j k : Nat), r + j = b.length → j ≤ 9 → (∀ i, i < j → ¬ rd b (i : Int) < 128) → 3 * r + 2 ≤ k →
      seamarkref08_Get.l1 k (p ++ b) acc (p.length : Int) (val (b.take j) : Int) (j : Int) = codec_Get.l0 (kc + 1) acc b := by
  intro r
  induction r with
  | zero =>
    intro j k hr hj hn hk
    obtain ⟨k, rfl⟩ : ∃ k', k = k' + 1 := ⟨k - 1, by omega⟩
    rw [List.length_append] at hs
    have e := wadd p.length j (by omega)
    rw [seamarkref08_Get.l1, e, if_pos (by rw [List.length_append]; omega), codec_Get.l0, if_neg hb, lastAt_none (fun i hi => hn i (by omega))]
    simp only
    rw [if_neg (by omega)]
  | succ r ih =>
    intro j k hr hj hn hk
    obtain ⟨k, rfl⟩ : ∃ k', k = k' + 1 := ⟨k - 1, by omega⟩
    have hs' := hs
    rw [List.length_append] at hs'
    have hjb : j < b.length := by omega
    have hx := hU.rd_in hjb
    have e := wadd p.length j (by omega)
    rw [seamarkref08_Get.l1, e, if_neg (by rw [List.length_append]; omega), if_pos (by omega), if_pos (by rw [List.length_append]; omega), rd_app p b j hjb]
    clear e
    obtain ⟨k, rfl⟩ : ∃ k', k = k' + 1 := ⟨k - 1, by omega⟩
    by_cases c9 : j = 9 ∧ 1 < rd b 9
    · obtain ⟨rfl, c9⟩ := c9
      have e9 : ((9 : Nat) : Int) = 9 := rfl
      rw [e9, if_pos rfl, decide_eq_true c9, seamarkref08_Get.j2, if_pos rfl, codec_Get.l0, if_neg hb]
      cases hla : lastAt b with
      | none => simp only; rw [if_pos ⟨hjb, c9⟩]
      | some i =>
        simp only
        have : ¬ i < 9 := fun hi => hn i hi (lastAt_at b i hla)
        rw [if_pos ⟨by omega, c9⟩]
    have h10 : j = 9 → rd b 9 ≤ 1 := fun h => by
      by_cases h1 : rd b 9 ≤ 1
      · exact h1
      · exact absurd ⟨h, by omega⟩ c9
    have hacc : acc.length < 17592186044416 := by omega
    have hkn : 3 * (b.length - (j + 1)) + 3 ≤ k := by omega
    have hr2 : r + (j + 1) = b.length := by omega
    have hk2 : 3 * r + 2 ≤ k := by omega
    have hj2 : j ≠ 9 → j + 1 ≤ 9 := by omega
    have hg1 : 1 < j + 1 → ((j + 1 : Nat) : Int) > 1 := by omega
    have hg2 : ¬ 1 < j + 1 → ¬ ((j + 1 : Nat) : Int) > 1 := by omega
    have n1 : ¬ (9 < j + 1 ∧ 1 < rd b 9) := by
      rintro ⟨h1, h2⟩
      have := h10 (by omega)
      omega
    have n9 : j = 9 → rd b (j : Int) < 128 := by
      intro h
      have := h10 h
      subst h
      have e9 : ((9 : Nat) : Int) = 9 := rfl
      rw [e9]
      omega
    have hle1 : j ≤ 4611686018427387904 := by omega
    have hle2 : p.length + (j + 1) ≤ 4611686018427387904 := by omega
    have hlen1 : ∀ u : Int, (acc ++ [u]).length = acc.length + 1 := fun u => by simp
    have hbef : ∀ i, i < j + 1 → ¬ rd b (j : Int) < 128 → ¬ rd b (i : Int) < 128 := by
      intro i hi hy
      by_cases h : i = j
      · rw [h]; exact hy
      · exact hn i (by omega)
    have hcond : (if (j : Int) = 9 then seamarkref08_Get.j2 (k + 1) (p ++ b) acc (p.length : Int) (val (b.take j) : Int) (j : Int) (rd b (j : Int)) (decide (rd b (j : Int) > 1)) else seamarkref08_Get.j2 (k + 1) (p ++ b) acc (p.length : Int) (val (b.take j) : Int) (j : Int) (rd b (j : Int)) false)
        = seamarkref08_Get.j2 (k + 1) (p ++ b) acc (p.length : Int) (val (b.take j) : Int) (j : Int) (rd b (j : Int)) false := by
      by_cases h : j = 9
      · have h9 := h10 h
        subst h
        have e9 : ((9 : Nat) : Int) = 9 := rfl
        rw [e9, if_pos rfl, decide_eq_false (by omega)]
      · rw [if_neg (by omega)]
    have hdd := digTo_val hU (j + 1) hjb (Nat.succ_le_succ hj) (fun h => h10 (Nat.succ.inj h))
    rw [hcond, seamarkref08_Get.j2, if_neg Bool.false_ne_true, if_pos (w7 j hj), ref_value hU hjb hj h10, wone j hle1, wadd p.length (j + 1) hle2]
    by_cases hy : rd b (j : Int) < 128
    · have hla : lastAt b = some j := lastAt_some hjb hn hy
      rw [if_pos hy, codec_Get.l0, if_neg hb, hla]
      simp only
      rw [if_neg n1, ref_integer hdd.2, Option.bind_some, if_pos hacc, if_pos hacc, hdd.1]
      have hnx := next j (acc ++ [unzig (val (b.take (j + 1)) : Int)]) k hjb (hlen1 _) hkn
      by_cases hz : rd b (j : Int) = 0
      · rw [if_pos hz]
        by_cases h1 : 1 < j + 1
        · rw [if_pos (hg1 h1), if_pos ⟨h1, hz⟩]
        · rw [if_neg (hg2 h1), if_neg (fun h => h1 h.1)]
          exact hnx
      · rw [if_neg hz, if_neg (fun h => hz h.2)]
        exact hnx
    · rw [if_neg hy]
      exact ih (j + 1) k hr2 (hj2 (fun h => hy (n9 h))) (fun i hi => hbef i hi hy) hk2
theorem ref_get_l0 : ∀ (n : Nat) (b p acc : List Int) (k kc : Nat), b.length ≤ n → U8 b → (p ++ b).length ≤ 1000000 → acc.length + b.length ≤ 17592186044415 → 3 * b.length + 3 ≤ k → b.length < kc →
    seamarkref08_Get.l0 k (p ++ b) acc (p.length : Int) = codec_Get.l0 kc acc b
  | _, _, _, _, 0, _, _, _, _, _, h, _ => by omega
  | _, _, _, _, _, 0, _, _, _, _, _, h => by omega
  | 0, b, p, acc, k + 1, kc + 1, hn, hU, hs, ha, hk, hkc => by
    have : b = [] := List.eq_nil_of_length_eq_zero (by omega)
    subst this
    rw [seamarkref08_Get.l0, if_neg (by simp), codec_Get.l0, if_pos List.length_nil]
  | n + 1, b, p, acc, k + 1, kc + 1, hn, hU, hs, ha, hk, hkc => by
    by_cases hb : b.length = 0
    · have : b = [] := List.eq_nil_of_length_eq_zero hb
      subst this
      rw [seamarkref08_Get.l0, if_neg (by simp), codec_Get.l0, if_pos List.length_nil]
    rw [seamarkref08_Get.l0, if_pos (by rw [List.length_append]; omega)]
    have := ref_get_l1 p b acc kc hU hs ha hb (fun j acc' k' hj hac hk' => by
      have e : p ++ b = (p ++ b.take (j + 1)) ++ b.drop (j + 1) := by rw [List.append_assoc, List.take_append_drop]
      have hlt : (p ++ b.take (j + 1)).length = p.length + (j + 1) := by rw [List.length_append, List.length_take]; omega
      have hld : (b.drop (j + 1)).length = b.length - (j + 1) := List.length_drop
      rw [e, ← hlt]
      exact ref_get_l0 n (b.drop (j + 1)) (p ++ b.take (j + 1)) acc' k' kc (by omega) (hU.drop _) (by rw [← e]; exact hs) (by omega) (by omega) (by omega)) b.length 0 k (by omega) (by omega) (by intro i hi; omega) (by omega)
    simpa [val] using this
theorem ref_get {b : List Int} (hU : U8 b) (hl : b.length ≤ 100000) {k : Nat} (hk : 300003 ≤ k) : seamarkref08_Get.f k b = codec_Get.f b := by
  have := ref_get_l0 b.length b [] [] k (b.length + 1) (by omega) hU (by simp; omega) (by simp; omega) (by omega) (by omega)
  simpa [seamarkref08_Get.f, codec_Get.f] using this
theorem bytes_dec_l0 : ∀ (x y a c : List Int) (k : Nat), x.length = y.length → a.length = c.length → (a ++ x).length < 9223372036854775807 → x.length + 1 ≤ k →
    seamarkref08_Bytes.l0 k (a ++ x) (c ++ y) (a.length : Int) = some (decide (x = y))
  | _, _, _, _, 0, _, _, _, h => by omega
  | [], [], a, c, k + 1, _, _, _, _ => by rw [seamarkref08_Bytes.l0, if_neg (by simp)]; simp
  | [], _ :: _, _, _, _, h, _, _, _ => by simp at h
  | _ :: _, [], _, _, _, h, _, _, _ => by simp at h
  | x :: t, y :: u, a, c, k + 1, h, hac, hs, hk => by
    rw [seamarkref08_Bytes.l0, if_pos (by simp; omega), if_pos (by omega), if_pos (by simp at h ⊢; omega), rd_mid, hac, rd_mid]
    by_cases hxy : x = y
    · subst hxy
      have e2 : wrap64 ((c.length : Int) + 1) = ((a ++ [x]).length : Int) := by
        rw [List.length_append] at hs
        unfold wrap64; rw [List.length_append]; simp at hs ⊢; omega
      have e3 : a ++ x :: t = (a ++ [x]) ++ t := by simp
      have e4 : c ++ x :: u = (c ++ [x]) ++ u := by simp
      rw [if_pos rfl, e2, e3, e4, bytes_dec_l0 t u (a ++ [x]) (c ++ [x]) k (by simpa using h) (by simp [hac]) (by rw [← e3]; exact hs) (by simp at hk; omega)]
      congr 1
      simp
    · rw [if_neg hxy]
      congr 1
      simp [hxy]
theorem bytes_dec (x y : List Int) (hx : x.length < 9223372036854775807) {k : Nat} (hk : x.length + 1 ≤ k) : seamarkref08_Bytes.f k x y = some (decide (x = y)) := by
  rw [seamarkref08_Bytes.f]
  by_cases h : x.length = y.length
  · rw [if_pos (by omega)]
    exact bytes_dec_l0 x y [] [] k h rfl hx hk
  · rw [if_neg (by omega)]
    congr 1
    symm
    rw [decide_eq_false_iff_not]
    rintro rfl
    exact h rfl
theorem rdn {l : List Int} (h : U8 l) (hl : 2 ≤ l.length) : (0 ≤ rd l 0 ∧ rd l 0 ≤ 255) ∧ (0 ≤ rd l 1 ∧ rd l 1 ≤ 255) := by
  have h0 := h.rd_in (k := 0) (by omega)
  have h1 := h.rd_in (k := 1) (by omega)
  exact ⟨h0, h1⟩
theorem ref_open {l : List Int} (hU : U8 l) (hl : l.length ≤ 100000) {k : Nat} (hk : 2000000 ≤ k) : seamarkref08_Open.f k l = codec_Open.f l := by
  unfold codec_Open.f seamarkref08_Open.f
  rw [if_pos (bytesOk_of hU)]
  by_cases h2 : l.length < 2
  · rw [if_pos (by omega), if_pos h2]
  rw [if_neg (by omega), if_neg h2, if_pos (by omega), if_pos (by omega)]
  obtain ⟨h0, h1⟩ := rdn hU (by omega)
  obtain ⟨n, hn⟩ : ∃ n : Nat, n = frameLen l := ⟨_, rfl⟩
  have hn' : ((n : Nat) : Int) = 256 * rd l 0 + rd l 1 := by rw [hn]; unfold frameLen; omega
  have e6 : wrap64 ((wrap64 ((wrap64 (256 * (wrap64 (rd l 0)))) + (wrap64 (rd l 1)))) + 6) = ((n + 6 : Nat) : Int) := by unfold wrap64; omega
  have e2 : wrap64 ((wrap64 ((wrap64 (256 * (wrap64 (rd l 0)))) + (wrap64 (rd l 1)))) + 2) = ((n + 2 : Nat) : Int) := by unfold wrap64; omega
  rw [e6, e2, ← hn]
  by_cases h6 : l.length < n + 6
  · rw [if_pos (by omega), if_pos h6]
  rw [if_neg (by omega), if_neg h6, if_pos (by omega), if_pos (by omega), Int.toNat_natCast, Int.toNat_natCast]
  have hlt : (l.take (n + 2)).length = n + 2 := by rw [List.length_take]; omega
  rw [ref_sum (hU.take _) (by omega) (by omega), Option.bind_some, seamarkref08_Four.f, Option.bind_some, if_pos (by omega), if_pos (by omega)]
  have e4 : (l.take (n + 6)).drop (n + 2) = (l.drop (n + 2)).take 4 := by
    rw [List.drop_take]; congr 1; omega
  rw [e4]
  show (seamarkref08_Bytes.f k (fourOf (crcSum (l.take (n + 2)))) _).bind _ = _
  rw [bytes_dec _ _ (by simp [fourOf]) (by simp [fourOf]; omega), Option.bind_some]
  by_cases hq : (l.drop (n + 2)).take 4 = fourOf (crcSum (l.take (n + 2)))
  · rw [if_pos (decide_eq_true hq.symm), if_pos hq]
    simp only [Option.bind_some, List.nil_append, List.length_nil, Nat.zero_add]
    have hld : ((l.take (n + 2)).drop 2).length = n := by rw [List.length_drop, hlt]; omega
    rw [if_pos (by omega), if_pos (by omega)]
    rfl
  · rw [if_neg (by rw [decide_eq_true_eq]; exact fun h => hq h.symm), if_neg hq]
end Go.Proofs.YtonhinepgkommaaM
