/- The plain law of CodecDamage: what is changed within four neighbouring bytes is told. -/
import Derived.Test.YtonhinepgkommaaHDamage
import Derived.Test.YtonhinepgkommaaMGet
set_option linter.unusedVariables false
set_option linter.unusedSimpArgs false
namespace Go.Proofs.YtonhinepgkommaaM
open Go Go.RowKit Go.Proofs.YtonhinepgkommaaH Go.Proofs.Ytonhinepgkommaa.Q Go.Proofs.YtonhinepgkommaaW.PrintWords

theorem rdn' (l : List Int) (i : Nat) : rd l (i : Int) = (l[i]?).getD 0 := by
  unfold rd; rw [Int.toNat_natCast, List.getD_eq_getElem?_getD]
theorem rd_ext {a b : List Int} (hl : a.length = b.length) (h : ∀ i : Nat, i < a.length → rd a (i : Int) = rd b (i : Int)) : a = b := by
  apply List.ext_getElem hl
  intro i h1 h2
  have := h i h1
  rwa [rd_get h1, rd_get h2] at this
theorem rd_set (l : List Int) (j i : Nat) (x : Int) (hj : j < l.length) : rd (l.set j x) (i : Int) = if i = j then x else rd l (i : Int) := by
  rw [rdn', rdn', List.getElem?_set]
  by_cases h : i = j
  · subst h; simp [hj]
  · rw [if_neg (fun e => h e.symm), if_neg h]
theorem dmg_rd (x : List Int) (f : Nat) (b : List Int) : ∀ k : Nat, f + k ≤ x.length → ∀ i : Nat, rd (dmg x f b k) (i : Int) = if f ≤ i ∧ i < f + k then Go.bits .xor .u8 (rd x (i : Int)) (rd b ((i - f : Nat) : Int)) else rd x (i : Int)
  | 0, _, i => by rw [dmg, if_neg (by omega)]
  | k + 1, h, i => by
    have hl := dmg_len x f b k
    rw [dmg, rd_set _ _ _ _ (by omega)]
    by_cases hi : i = f + k
    · subst hi
      rw [if_pos rfl, dmg_rd x f b k (by omega), if_neg (by omega), if_pos (by omega), show f + k - f = k by omega]
    · rw [if_neg hi, dmg_rd x f b k (by omega)]
      by_cases h2 : f ≤ i ∧ i < f + k
      · rw [if_pos h2, if_pos (by omega)]
      · rw [if_neg h2, if_neg (by omega)]
theorem rd_take {l : List Int} {k i : Nat} (h : i < k) (hk : k ≤ l.length) : rd (l.take k) (i : Int) = rd l (i : Int) := by
  rw [rdn', rdn', List.getElem?_take, if_pos h]
theorem rd_drop {l : List Int} {k i : Nat} : rd (l.drop k) (i : Int) = rd l ((k + i : Nat) : Int) := by
  rw [rdn', rdn', List.getElem?_drop]
theorem chg_false (b : List Int) : ∀ k : Nat, chg b k = false ↔ ∀ i : Nat, i < k → rd b (i : Int) = 0
  | 0 => by simp [chg]
  | k + 1 => by
    rw [chg, Bool.or_eq_false_iff, chg_false b k]
    constructor
    · rintro ⟨h1, h2⟩ i hi
      by_cases h : i = k
      · subst h; simpa using h2
      · exact h1 i (by omega)
    · intro h
      exact ⟨fun i hi => h i (by omega), by simpa using h k (by omega)⟩
theorem xor_byte {x y : Int} (hx : 0 ≤ x ∧ x ≤ 255) (hy : 0 ≤ y ∧ y ≤ 255) : 0 ≤ Go.bits .xor .u8 x y ∧ Go.bits .xor .u8 x y ≤ 255 := by
  obtain ⟨a, rfl⟩ := Int.eq_ofNat_of_zero_le hx.1
  obtain ⟨b, rfl⟩ := Int.eq_ofNat_of_zero_le hy.1
  rw [xor_u8 a b (by omega) (by omega)]
  have : a ^^^ b < 2 ^ 8 := Nat.xor_lt_two_pow (by omega) (by omega)
  omega
theorem xor_same {x y : Int} (hx : 0 ≤ x ∧ x ≤ 255) (hy : 0 ≤ y ∧ y ≤ 255) : Go.bits .xor .u8 x y = x ↔ y = 0 := by
  obtain ⟨a, rfl⟩ := Int.eq_ofNat_of_zero_le hx.1
  obtain ⟨b, rfl⟩ := Int.eq_ofNat_of_zero_le hy.1
  rw [xor_u8 a b (by omega) (by omega)]
  constructor
  · intro h
    have h1 : a ^^^ b = a ^^^ 0 := by rw [Nat.xor_zero]; omega
    have := xor_cancel h1
    omega
  · intro h
    have : b = 0 := by omega
    subst this
    rw [Nat.xor_zero]
theorem frame_nfold {l : List Int} (h : U8 l) : nfold F (frameOf l) = Mj 4 F := (closes (headOf l) _ (headOf_U8 h) (fourOf_U8 (crcSum_range (headOf_U8 h)).1) rfl).1 rfl
theorem damage {l : List Int} (hU : U8 l) (hl : l.length ≤ 65535) (f : Nat) (h2 : 2 ≤ f) (hf : f < l.length + 6) (b : List Int) (hb : ∀ i : Nat, i < 4 → 0 ≤ rd b (i : Int) ∧ rd b (i : Int) ≤ 255) :
    ∃ o, codec_Open.f (dmg (frameOf l) f b (rounds (l.length + 6) f)) = some o ∧ (o.2.2 == 9) = chg b (rounds (l.length + 6) f) ∧ (o.2.2 == 0) = !chg b (rounds (l.length + 6) f) := by
  obtain ⟨r, hr⟩ : ∃ r, rounds (l.length + 6) f = r := ⟨_, rfl⟩
  have hr4 : r ≤ 4 ∧ f + r ≤ l.length + 6 := by unfold rounds at hr; omega
  rw [hr]
  have hFl := frameOf_len l
  have hFU := frameOf_U8 hU
  have hDl : (dmg (frameOf l) f b r).length = l.length + 6 := by rw [dmg_len, hFl]
  have hrd := dmg_rd (frameOf l) f b r (by omega)
  obtain ⟨D, hD⟩ : ∃ D, D = dmg (frameOf l) f b r := ⟨_, rfl⟩
  rw [← hD] at hDl hrd ⊢
  clear hD
  have hDb : ∀ i : Nat, i < l.length + 6 → 0 ≤ rd D (i : Int) ∧ rd D (i : Int) ≤ 255 := by
    intro i hi
    have hx := hFU.rd_in (k := i) (by omega)
    rw [hrd i]
    split
    · next h => exact xor_byte hx (hb _ (by omega))
    · exact hx
  have hDU : U8 D := by
    intro x hx
    obtain ⟨i, hi, rfl⟩ := List.mem_iff_getElem.1 hx
    have := hDb i (by omega)
    rwa [rd_get hi] at this
  have hlen : frameLen D = l.length := by
    have e0 := hrd 0
    have e1 := hrd 1
    rw [if_neg (by omega)] at e0 e1
    have := frameLen_of (r := fourOf (crcSum (headOf l))) hl
    unfold frameLen at this ⊢
    have e0' : rd D 0 = rd (frameOf l) 0 := e0
    have e1' : rd D 1 = rd (frameOf l) 1 := e1
    rw [e0', e1']
    exact this
  have hfour : (D.drop (l.length + 2)).take 4 = D.drop (l.length + 2) := List.take_of_length_le (by rw [List.length_drop]; omega)
  have hcl := closes (D.take (l.length + 2)) (D.drop (l.length + 2)) (hDU.take _) (hDU.drop _) (by rw [List.length_drop]; omega)
  rw [List.take_append_drop, ← frame_nfold hU] at hcl
  have hpre : D.take f = (frameOf l).take f := by
    apply rd_ext (by rw [List.length_take, List.length_take]; omega)
    intro i hi
    rw [List.length_take] at hi
    rw [rd_take (by omega) (by omega), rd_take (by omega) (by omega), hrd, if_neg (by omega)]
  have hsuf : D.drop (f + r) = (frameOf l).drop (f + r) := by
    apply rd_ext (by rw [List.length_drop, List.length_drop]; omega)
    intro i hi
    rw [rd_drop, rd_drop, hrd, if_neg (by omega)]
  have hsplit : ∀ X : List Int, X = X.take f ++ (X.drop f).take r ++ X.drop (f + r) := by
    intro X
    rw [List.append_assoc, ← List.drop_drop, List.take_append_drop, List.take_append_drop]
  have hsame : D = frameOf l ↔ chg b r = false := by
    rw [chg_false]
    constructor
    · intro h i hi
      have := hrd (f + i)
      rw [if_pos (by omega), h, show f + i - f = i by omega] at this
      exact (xor_same (hFU.rd_in (by omega)) (hb i (by omega))).1 this.symm
    · intro h
      apply rd_ext (by omega)
      intro i hi
      rw [hrd]
      split
      · next hc => exact (xor_same (hFU.rd_in (by omega)) (hb _ (by omega))).2 (h _ (by omega))
      · rfl
  have hiff : (D.drop (l.length + 2) = fourOf (crcSum (D.take (l.length + 2)))) ↔ chg b r = false := by
    rw [hcl, ← hsame]
    constructor
    · intro h
      rw [hsplit D, hsplit (frameOf l), hpre, hsuf] at h
      have hw := nfold_window ((frameOf l).take f) ((D.drop f).take r) (((frameOf l).drop f).take r) ((frameOf l).drop (f + r)) F (hFU.take _) ((hDU.drop _).take _) ((hFU.drop _).take _) (hFU.drop _) (by decide)
        (by rw [List.length_take, List.length_take, List.length_drop, List.length_drop]; omega) (by rw [List.length_take]; omega) h
      rw [hsplit D, hpre, hsuf, hw]
      exact (hsplit _).symm
    · intro h; rw [h]
  unfold codec_Open.f
  rw [if_pos (bytesOk_of hDU), if_neg (by omega), hlen, if_neg (by omega), hfour]
  by_cases hc : D.drop (l.length + 2) = fourOf (crcSum (D.take (l.length + 2)))
  · rw [if_pos hc]
    rw [hiff.1 hc]
    exact ⟨_, rfl, rfl, rfl⟩
  · rw [if_neg hc]
    have : chg b r = true := by
      cases h : chg b r
      · exact absurd (hiff.2 h) hc
      · rfl
    rw [this]
    exact ⟨_, rfl, rfl, rfl⟩
/-- The law CodecDamage, walked. -/
theorem damage_walk (A0 : Option Addr) (c0 : Nat) (l0 : List Int) (a1 b0 b1 b2 b3 : Int) (w : World) (hr0 : Kd.C (Kd.int .u8) w A0 l0.length l0) (hc0 : l0.length ≤ c0) (h1 : 0 ≤ a1) (h2 : a1 ≤ 65535)
    (hU : U8 l0) (hb0 : 0 ≤ b0 ∧ b0 ≤ 255) (hb1 : 0 ≤ b1 ∧ b1 ≤ 255) (hb2 : 0 ≤ b2 ∧ b2 ≤ 255) (hb3 : 0 ≤ b3 ∧ b3 ≤ 255) :
    Calls Try.prog 8 #[.slice A0 l0.length c0, .int .u16 a1, .agg #[.int .u8 b0, .int .u8 b1, .int .u8 b2, .int .u8 b3]] w fun e w' => e = .returned (.bool true) ∧ Below w.heap.size w w' := by
  refine seamarklaw08_CodecDamage.walk A0 c0 l0 a1 b0 b1 b2 b3 w hr0 hc0 h1 h2 hU (fun f hl hf => ?_)
  have := Nat.mod_lt a1.toNat (show 0 < l0.length + 4 by omega)
  refine damage hU hl f (by omega) (by omega) _ ?_
  intro i hi
  match i, hi with
  | 0, _ => exact hb0
  | 1, _ => exact hb1
  | 2, _ => exact hb2
  | 3, _ => exact hb3
end Go.Proofs.YtonhinepgkommaaM
