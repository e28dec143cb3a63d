/- Plain mathematics of the checksum: the program's fold as a fold of natural numbers; which bytes close a frame. -/
import Derived.Test.YtonhinepgkommaaMPut
import Derived.Test.YtonhinepgkommaaHCodec5
set_option linter.unusedVariables false
set_option linter.unusedSimpArgs false
namespace Go.Proofs.YtonhinepgkommaaM
open Go Go.RowKit Go.Proofs.YtonhinepgkommaaH Go.Proofs.YtonhinepgkommaaW.PrintWords

theorem xor_lt32 {a b : Nat} (ha : a < 2 ^ 32) (hb : b < 2 ^ 32) : a ^^^ b < 2 ^ 32 := Nat.xor_lt_two_pow ha hb
theorem crcBit_nat {c : Nat} (h : c < 2 ^ 32) : crcBit (c : Int) = (B c : Int) := by
  unfold crcBit B
  rw [and1_u32 c (by omega)]
  have e : (c : Int) / 2 = ((c / 2 : Nat) : Int) := by omega
  by_cases hc : c % 2 = 1
  · rw [if_pos hc, hc, if_pos (by decide), e]
    exact xor_u32 (c / 2) P (by omega) (by decide)
  · rw [if_neg hc, show c % 2 = 0 by omega, if_neg (by decide), e]
theorem crcBits_nat {c : Nat} (h : c < 2 ^ 32) : ∀ k, crcBits k (c : Int) = (Bn k c : Int)
  | 0 => rfl
  | k + 1 => by rw [crcBits, crcBits_nat h k, crcBit_nat (Bn_lt k h)]; rfl
theorem xor_mod256 (a b : Nat) : (a ^^^ b) % 256 = a % 256 ^^^ b % 256 := by
  have := Nat.xor_mod_two_pow (a := a) (b := b) (n := 8)
  simpa using this
theorem xor_div256 (a b : Nat) : (a ^^^ b) / 256 = a / 256 ^^^ b / 256 := by
  have := Nat.xor_div_two_pow (a := a) (b := b) (n := 8)
  simpa using this
theorem crcStep_nat {c : Nat} (h : c < 2 ^ 32) {x : Int} (h0 : 0 ≤ x) (h1 : x ≤ 255) : crcStep (c : Int) x = (M (c ^^^ x.toNat) : Int) := by
  obtain ⟨n, rfl⟩ := Int.eq_ofNat_of_zero_le h0
  unfold crcStep
  have e : (c : Int) % 256 = ((c % 256 : Nat) : Int) := by omega
  have e2 : (c : Int) / 256 = ((c / 256 : Nat) : Int) := by omega
  have h8 : c % 256 ^^^ n < 2 ^ 8 := Nat.xor_lt_two_pow (by omega) (by omega)
  have hM : Bn 8 (c % 256 ^^^ n) < 2 ^ 32 := Bn_lt 8 (by omega)
  rw [e, e2, xor_u8 _ _ (by omega) (by omega), crcBits_nat (by omega), xor_u32 _ _ (by omega) (by omega), Int.toNat_natCast, M_table (c ^^^ n), xor_mod256, xor_div256,
    show n % 256 = n by omega, show n / 256 = 0 by omega, Nat.xor_zero]
  rfl
def nfold (c : Nat) (l : List Int) : Nat := l.foldl (fun c x => M (c ^^^ x.toNat)) c
theorem nfold_nil (c : Nat) : nfold c [] = c := rfl
theorem nfold_cons (c : Nat) (x : Int) (l : List Int) : nfold c (x :: l) = nfold (M (c ^^^ x.toNat)) l := by simp only [nfold, List.foldl_cons]
theorem nfold_append (c : Nat) (a b : List Int) : nfold c (a ++ b) = nfold (nfold c a) b := by simp [nfold]
theorem U8.cons {x : Int} {l : List Int} (h : U8 (x :: l)) : (0 ≤ x ∧ x ≤ 255) ∧ U8 l := ⟨h x (List.mem_cons_self ..), fun y hy => h y (List.mem_cons_of_mem _ hy)⟩
theorem U8.append {a b : List Int} (ha : U8 a) (hb : U8 b) : U8 (a ++ b) := fun x hx => (List.mem_append.1 hx).elim (ha x) (hb x)
theorem U8.left {a b : List Int} (h : U8 (a ++ b)) : U8 a := fun x hx => h x (List.mem_append_left _ hx)
theorem U8.right {a b : List Int} (h : U8 (a ++ b)) : U8 b := fun x hx => h x (List.mem_append_right _ hx)
theorem U8.take {a : List Int} (h : U8 a) (k : Nat) : U8 (a.take k) := fun x hx => h x (List.mem_of_mem_take hx)
theorem U8.drop {a : List Int} (h : U8 a) (k : Nat) : U8 (a.drop k) := fun x hx => h x (List.mem_of_mem_drop hx)
theorem nfold_lt : ∀ (l : List Int) (c : Nat), U8 l → c < 2 ^ 32 → nfold c l < 2 ^ 32
  | [], c, _, h => by rw [nfold_nil]; exact h
  | x :: l, c, hU, h => by
    obtain ⟨hx, hl⟩ := hU.cons
    rw [nfold_cons]
    exact nfold_lt l _ hl (M_lt (xor_lt32 h (by omega)))
theorem crcFold_nat : ∀ (l : List Int) (c : Nat), U8 l → c < 2 ^ 32 → crcFold (c : Int) l = (nfold c l : Int)
  | [], c, _, h => by rw [nfold_nil, crcFold, List.foldl_nil]
  | x :: l, c, hU, h => by
    obtain ⟨hx, hl⟩ := hU.cons
    have := crcFold_nat l (M (c ^^^ x.toNat)) hl (M_lt (xor_lt32 h (by omega)))
    rw [nfold_cons, ← this]
    rw [crcFold, List.foldl_cons, crcStep_nat h hx.1 hx.2, crcFold]
def F : Nat := 4294967295
theorem crcSum_nat {l : List Int} (h : U8 l) : crcSum l = ((F ^^^ nfold F l : Nat) : Int) := by
  have h1 := crcFold_nat l F h (by decide)
  have h2 := nfold_lt l F h (by decide)
  unfold crcSum
  rw [show (4294967295 : Int) = ((F : Nat) : Int) from rfl, h1, xor_u32 _ _ (by decide) (by omega)]
/-! ### bytes as a number, the least significant first -/
def le : List Int → Nat
  | [] => 0
  | x :: t => x.toNat + 256 * le t
def Mj : Nat → Nat → Nat
  | 0, c => c
  | k + 1, c => Mj k (M c)
theorem xor_le {a : Nat} (h : a < 256) (b : Nat) : a ^^^ 256 * b = a + 256 * b := by
  have := split256 (a + 256 * b)
  rw [show (a + 256 * b) % 256 = a by omega, show (a + 256 * b) / 256 = b by omega] at this
  exact this.symm
theorem nfold_le : ∀ (w : List Int) (c : Nat), U8 w → nfold c w = Mj w.length (c ^^^ le w)
  | [], c, _ => by simp [nfold, Mj, le]
  | x :: t, c, hU => by
    obtain ⟨hx, hl⟩ := hU.cons
    have e : M (c ^^^ x.toNat ^^^ 256 * le t) = M (c ^^^ x.toNat) ^^^ le t := by rw [M_xor _ (256 * le t), M_shift]
    rw [nfold_cons, nfold_le t _ hl, List.length_cons, Mj, le, ← xor_le (by omega), ← Nat.xor_assoc, e]
theorem le_lt : ∀ (w : List Int), U8 w → le w < 256 ^ w.length
  | [], _ => by simp [le]
  | x :: t, hU => by
    obtain ⟨hx, hl⟩ := hU.cons
    have := le_lt t hl
    rw [le, List.length_cons, Nat.pow_succ]
    omega
theorem le_inj : ∀ (a b : List Int), U8 a → U8 b → a.length = b.length → le a = le b → a = b
  | [], [], _, _, _, _ => rfl
  | [], _ :: _, _, _, h, _ => by simp at h
  | _ :: _, [], _, _, h, _ => by simp at h
  | x :: t, y :: u, hU, hV, hl, he => by
    obtain ⟨hx, ht⟩ := hU.cons
    obtain ⟨hy, hu⟩ := hV.cons
    rw [le, le] at he
    have := le_inj t u ht hu (by simpa using hl) (by omega)
    rw [this, show x = y by omega]
theorem Mj_lt : ∀ (k c : Nat), c < 2 ^ 32 → Mj k c < 2 ^ 32
  | 0, _, h => h
  | k + 1, c, h => Mj_lt k _ (M_lt h)
theorem Mj_inj : ∀ (k a b : Nat), a < 2 ^ 32 → b < 2 ^ 32 → Mj k a = Mj k b → a = b
  | 0, _, _, _, _, h => h
  | k + 1, a, b, ha, hb, h => M_inj ha hb (Mj_inj k _ _ (M_lt ha) (M_lt hb) h)
theorem nfold_inj : ∀ (l : List Int) (a b : Nat), U8 l → a < 2 ^ 32 → b < 2 ^ 32 → nfold a l = nfold b l → a = b
  | [], _, _, _, _, _, h => h
  | x :: l, a, b, hU, ha, hb, h => by
    obtain ⟨hx, hl⟩ := hU.cons
    rw [nfold_cons, nfold_cons] at h
    have h1 := nfold_inj l _ _ hl (M_lt (xor_lt32 ha (by omega))) (M_lt (xor_lt32 hb (by omega))) h
    have h2 := M_inj (xor_lt32 ha (by omega)) (xor_lt32 hb (by omega)) h1
    have := congrArg (· ^^^ x.toNat) h2
    simpa [Nat.xor_assoc] using this
theorem xor_cancel {a b c : Nat} (h : a ^^^ b = a ^^^ c) : b = c := by
  have := congrArg (a ^^^ ·) h
  simpa [← Nat.xor_assoc] using this
/-- Two that differ in four neighbouring bytes at most and come to the same number are the same. -/
theorem nfold_window (p u v q : List Int) (c : Nat) (hp : U8 p) (hu : U8 u) (hv : U8 v) (hq : U8 q) (hc : c < 2 ^ 32) (hl : u.length = v.length) (h4 : u.length ≤ 4)
    (h : nfold c (p ++ u ++ q) = nfold c (p ++ v ++ q)) : u = v := by
  have hS := nfold_lt p c hp hc
  have lu := le_lt u hu
  have lv := le_lt v hv
  have hp4 : 256 ^ u.length ≤ 256 ^ 4 := Nat.pow_le_pow_right (by decide) h4
  rw [hl] at hp4
  rw [hl] at lu
  have hb1 : nfold c p ^^^ le u < 2 ^ 32 := xor_lt32 hS (by omega)
  have hb2 : nfold c p ^^^ le v < 2 ^ 32 := xor_lt32 hS (by omega)
  rw [nfold_append, nfold_append, nfold_append, nfold_append] at h
  rw [nfold_le u _ hu, nfold_le v _ hv] at h
  have h1 := nfold_inj q _ _ hq (Mj_lt _ _ hb1) (Mj_lt _ _ hb2) h
  rw [hl] at h1
  exact le_inj u v hu hv hl (xor_cancel (Mj_inj _ _ _ hb1 hb2 h1))
theorem fourOf_U8 {s : Int} (h : 0 ≤ s) : U8 (fourOf s) := by
  intro x hx
  simp only [fourOf, List.mem_cons, List.not_mem_nil, or_false] at hx
  omega
theorem le_fourOf {s : Int} (h0 : 0 ≤ s) (h1 : s < 4294967296) : (le (fourOf s) : Int) = s := by
  simp only [fourOf, le]
  omega
theorem crcSum_range {l : List Int} (h : U8 l) : 0 ≤ crcSum l ∧ crcSum l < 4294967296 := by
  rw [crcSum_nat h]
  have := xor_lt32 (a := F) (by decide) (nfold_lt l F h (by decide))
  omega
theorem closes (l w : List Int) (hl : U8 l) (hw : U8 w) (h4 : w.length = 4) : w = fourOf (crcSum l) ↔ nfold F (l ++ w) = Mj 4 F := by
  have hS := nfold_lt l F hl (by decide)
  have hs := crcSum_range hl
  have hf := fourOf_U8 hs.1
  have hle := le_fourOf hs.1 hs.2
  have hn := crcSum_nat hl
  have hlw := le_lt w hw
  rw [h4] at hlw
  have e : le (fourOf (crcSum l)) = F ^^^ nfold F l := by omega
  rw [nfold_append, nfold_le w _ hw, h4]
  constructor
  · rintro rfl
    rw [e, Nat.xor_comm F, ← Nat.xor_assoc, Nat.xor_self, Nat.zero_xor]
  · intro h
    have h1 := Mj_inj _ _ _ (xor_lt32 hS (by omega)) (by decide) h
    apply le_inj _ _ hw hf (by rw [h4]; rfl)
    rw [e]
    generalize nfold F l = S at *
    rw [← h1, Nat.xor_comm S, Nat.xor_assoc, Nat.xor_self, Nat.xor_zero]
theorem residue : F ^^^ Mj 4 F = 558161692 := by decide +kernel
end Go.Proofs.YtonhinepgkommaaM
