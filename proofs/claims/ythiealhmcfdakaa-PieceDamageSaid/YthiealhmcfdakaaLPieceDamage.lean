/- PieceDamage: whatever the piece, the place, the four bytes of change and the length: the law returns true, and what was handed in reads as it did. Conditions: none beyond the given row's. -/
import Derived.Below
import Derived.ChangeOld
import Derived.Laws.IdiomArrays
import Derived.OpenShut
import Derived.ProofKit
import Derived.ShutString
import Derived.SizedLaws
import Derived.Test.YthiealhmcfdakaaRows
import Derived.WalkKit
import Derived.Test.YthiealhmcfdakaaB6
section
set_option linter.unusedVariables false
set_option linter.unusedSimpArgs false
namespace Go.Proofs.YthiealhmcfdakaaM
open Go Go.RowKit Go.Proofs.YthiealhmcfdakaaH Go.Proofs.Ythiealhmcfdakaa.E Go.Proofs.YthiealhmcfdakaaW.PrintWords
def dmg (x : List Int) (f : Nat) (b : List Int) : Nat → List Int
  | 0 => x
  | k + 1 => (dmg x f b k).set (f + k) (Go.bits .xor .u8 (rd (dmg x f b k) ((f + k : Nat) : Int)) (rd b (k : Int)))
theorem dmg_len (x : List Int) (f : Nat) (b : List Int) (k : Nat) : (dmg x f b k).length = x.length := by
  induction k with
  | zero => rfl
  | succ k ih => rw [dmg, List.length_set, ih]
def chg (b : List Int) : Nat → Bool
  | 0 => false
  | k + 1 => chg b k || (rd b (k : Int) != 0)
def rounds (n f : Nat) : Nat := min 4 (n - f)
theorem iadd (a b : Nat) (h : a + b ≤ 4611686018427387904) : IntKind.i64.wrap ((a : Int) + (b : Int)) = (a : Int) + (b : Int) := IntWalk.i64_in _ (by omega)
theorem wone' (a : Nat) (h : a ≤ 4611686018427387904) : wrap64 ((a : Int) + 1) = ((a + 1 : Nat) : Int) := by unfold wrap64; omega
theorem wadd' (a b : Nat) (h : a + b ≤ 4611686018427387904) : wrap64 ((a : Int) + (b : Int)) = (a : Int) + (b : Int) := IntWalk.wrap64_in _ (by omega)
theorem rdn' (l : List Int) (i : Nat) : rd l (i : Int) = (l[i]?).getD 0 := by
  unfold rd; rw [Int.toNat_natCast, List.getD_eq_getElem?_getD]
theorem rd_ext {a b : List Int} (hl : a.length = b.length) (h : ∀ i : Nat, i < a.length → rd a (i : Int) = rd b (i : Int)) : a = b := by
  apply List.ext_getElem hl
  intro i h1 h2
  have := h i h1
  rwa [rd_get h1, rd_get h2] at this
theorem rd_set (l : List Int) (j i : Nat) (x : Int) (hj : j < l.length) : rd (l.set j x) (i : Int) = if i = j then x else rd l (i : Int) := by
  rw [rdn', rdn', List.getElem?_set]
  by_cases h : i = j
  · subst h; simp [hj]
  · rw [if_neg (fun e => h e.symm), if_neg h]
theorem dmg_rd (x : List Int) (f : Nat) (b : List Int) : ∀ k : Nat, f + k ≤ x.length → ∀ i : Nat, rd (dmg x f b k) (i : Int) = if f ≤ i ∧ i < f + k then Go.bits .xor .u8 (rd x (i : Int)) (rd b ((i - f : Nat) : Int)) else rd x (i : Int)
  | 0, _, i => by rw [dmg, if_neg (by omega)]
  | k + 1, h, i => by
    have hl := dmg_len x f b k
    rw [dmg, rd_set _ _ _ _ (by omega)]
    by_cases hi : i = f + k
    · subst hi
      rw [if_pos rfl, dmg_rd x f b k (by omega), if_neg (by omega), if_pos (by omega), show f + k - f = k by omega]
    · rw [if_neg hi, dmg_rd x f b k (by omega)]
      by_cases h2 : f ≤ i ∧ i < f + k
      · rw [if_pos h2, if_pos (by omega)]
      · rw [if_neg h2, if_neg (by omega)]
theorem rd_take {l : List Int} {k i : Nat} (h : i < k) (hk : k ≤ l.length) : rd (l.take k) (i : Int) = rd l (i : Int) := by
  rw [rdn', rdn', List.getElem?_take, if_pos h]
theorem rd_drop {l : List Int} {k i : Nat} : rd (l.drop k) (i : Int) = rd l ((k + i : Nat) : Int) := by
  rw [rdn', rdn', List.getElem?_drop]
theorem chg_false (b : List Int) : ∀ k : Nat, chg b k = false ↔ ∀ i : Nat, i < k → rd b (i : Int) = 0
  | 0 => by simp [chg]
  | k + 1 => by
    rw [chg, Bool.or_eq_false_iff, chg_false b k]
    constructor
    · rintro ⟨h1, h2⟩ i hi
      by_cases h : i = k
      · subst h; simpa using h2
      · exact h1 i (by omega)
    · intro h
      exact ⟨fun i hi => h i (by omega), by simpa using h k (by omega)⟩
theorem xor_byte {x y : Int} (hx : 0 ≤ x ∧ x ≤ 255) (hy : 0 ≤ y ∧ y ≤ 255) : 0 ≤ Go.bits .xor .u8 x y ∧ Go.bits .xor .u8 x y ≤ 255 := by
  obtain ⟨a, rfl⟩ := Int.eq_ofNat_of_zero_le hx.1
  obtain ⟨b, rfl⟩ := Int.eq_ofNat_of_zero_le hy.1
  rw [xor_u8 a b (by omega) (by omega)]
  have : a ^^^ b < 2 ^ 8 := Nat.xor_lt_two_pow (by omega) (by omega)
  omega
theorem xor_same {x y : Int} (hx : 0 ≤ x ∧ x ≤ 255) (hy : 0 ≤ y ∧ y ≤ 255) : Go.bits .xor .u8 x y = x ↔ y = 0 := by
  obtain ⟨a, rfl⟩ := Int.eq_ofNat_of_zero_le hx.1
  obtain ⟨b, rfl⟩ := Int.eq_ofNat_of_zero_le hy.1
  rw [xor_u8 a b (by omega) (by omega)]
  constructor
  · intro h
    have h1 : a ^^^ b = a ^^^ 0 := by rw [Nat.xor_zero]; omega
    have := xor_cancel h1
    omega
  · intro h
    have : b = 0 := by omega
    subst this
    rw [Nat.xor_zero]
theorem frame_nfold {l : List Int} (h : U8 l) : nfold F (frameOf l) = Mj 4 F := (closes (headOf l) _ (headOf_U8 h) (fourOf_U8 (crcSum_range (headOf_U8 h)).1) rfl).1 rfl
theorem damage {l : List Int} (hU : U8 l) (hl : l.length ≤ 65535) (f : Nat) (h2 : 2 ≤ f) (hf : f < l.length + 6) (b : List Int) (hb : ∀ i : Nat, i < 4 → 0 ≤ rd b (i : Int) ∧ rd b (i : Int) ≤ 255) :
    ∃ o, codec_Open.f (dmg (frameOf l) f b (rounds (l.length + 6) f)) = some o ∧ (o.2.2 == 9) = chg b (rounds (l.length + 6) f) ∧ (o.2.2 == 0) = !chg b (rounds (l.length + 6) f) := by
  obtain ⟨r, hr⟩ : ∃ r, rounds (l.length + 6) f = r := ⟨_, rfl⟩
  have hr4 : r ≤ 4 ∧ f + r ≤ l.length + 6 := by unfold rounds at hr; omega
  rw [hr]
  have hFl := frameOf_len l
  have hFU := frameOf_U8 hU
  have hDl : (dmg (frameOf l) f b r).length = l.length + 6 := by rw [dmg_len, hFl]
  have hrd := dmg_rd (frameOf l) f b r (by omega)
  obtain ⟨D, hD⟩ : ∃ D, D = dmg (frameOf l) f b r := ⟨_, rfl⟩
  rw [← hD] at hDl hrd ⊢
  clear hD
  have hDb : ∀ i : Nat, i < l.length + 6 → 0 ≤ rd D (i : Int) ∧ rd D (i : Int) ≤ 255 := by
    intro i hi
    have hx := hFU.rd_in (k := i) (by omega)
    rw [hrd i]
    split
    · next h => exact xor_byte hx (hb _ (by omega))
    · exact hx
  have hDU : U8 D := by
    intro x hx
    obtain ⟨i, hi, rfl⟩ := List.mem_iff_getElem.1 hx
    have := hDb i (by omega)
    rwa [rd_get hi] at this
  have hlen : frameLen D = l.length := by
    have e0 := hrd 0
    have e1 := hrd 1
    rw [if_neg (by omega)] at e0 e1
    have := frameLen_of (r := fourOf (crcSum (headOf l))) hl
    unfold frameLen at this ⊢
    have e0' : rd D 0 = rd (frameOf l) 0 := e0
    have e1' : rd D 1 = rd (frameOf l) 1 := e1
    rw [e0', e1']
    exact this
  have hfour : (D.drop (l.length + 2)).take 4 = D.drop (l.length + 2) := List.take_of_length_le (by rw [List.length_drop]; omega)
  have hcl := closes (D.take (l.length + 2)) (D.drop (l.length + 2)) (hDU.take _) (hDU.drop _) (by rw [List.length_drop]; omega)
  rw [List.take_append_drop, ← frame_nfold hU] at hcl
  have hpre : D.take f = (frameOf l).take f := by
    apply rd_ext (by rw [List.length_take, List.length_take]; omega)
    intro i hi
    rw [List.length_take] at hi
    rw [rd_take (by omega) (by omega), rd_take (by omega) (by omega), hrd, if_neg (by omega)]
  have hsuf : D.drop (f + r) = (frameOf l).drop (f + r) := by
    apply rd_ext (by rw [List.length_drop, List.length_drop]; omega)
    intro i hi
    rw [rd_drop, rd_drop, hrd, if_neg (by omega)]
  have hsplit : ∀ X : List Int, X = X.take f ++ (X.drop f).take r ++ X.drop (f + r) := by
    intro X
    rw [List.append_assoc, ← List.drop_drop, List.take_append_drop, List.take_append_drop]
  have hsame : D = frameOf l ↔ chg b r = false := by
    rw [chg_false]
    constructor
    · intro h i hi
      have := hrd (f + i)
      rw [if_pos (by omega), h, show f + i - f = i by omega] at this
      exact (xor_same (hFU.rd_in (by omega)) (hb i (by omega))).1 this.symm
    · intro h
      apply rd_ext (by omega)
      intro i hi
      rw [hrd]
      split
      · next hc => exact (xor_same (hFU.rd_in (by omega)) (hb _ (by omega))).2 (h _ (by omega))
      · rfl
  have hiff : (D.drop (l.length + 2) = fourOf (crcSum (D.take (l.length + 2)))) ↔ chg b r = false := by
    rw [hcl, ← hsame]
    constructor
    · intro h
      rw [hsplit D, hsplit (frameOf l), hpre, hsuf] at h
      have hw := nfold_window ((frameOf l).take f) ((D.drop f).take r) (((frameOf l).drop f).take r) ((frameOf l).drop (f + r)) F (hFU.take _) ((hDU.drop _).take _) ((hFU.drop _).take _) (hFU.drop _) (by decide)
        (by rw [List.length_take, List.length_take, List.length_drop, List.length_drop]; omega) (by rw [List.length_take]; omega) h
      rw [hsplit D, hpre, hsuf, hw]
      exact (hsplit _).symm
    · intro h; rw [h]
  unfold codec_Open.f
  rw [if_pos (bytesOk_of hDU), if_neg (by omega), hlen, if_neg (by omega), hfour]
  by_cases hc : D.drop (l.length + 2) = fourOf (crcSum (D.take (l.length + 2)))
  · rw [if_pos hc]
    rw [hiff.1 hc]
    exact ⟨_, rfl, rfl, rfl⟩
  · rw [if_neg hc]
    have : chg b r = true := by
      cases h : chg b r
      · exact absurd (hiff.2 h) hc
      · rfl
    rw [this]
    exact ⟨_, rfl, rfl, rfl⟩
theorem dmg_U8 {l : List Int} (hU : U8 l) (f : Nat) {b : List Int} (hb : ∀ i : Nat, i < 4 → 0 ≤ rd b (i : Int) ∧ rd b (i : Int) ≤ 255) (r : Nat) (hr : r ≤ 4) (hf : f + r ≤ l.length) : U8 (dmg l f b r) := by
  intro x hx
  obtain ⟨i, hi, rfl⟩ := List.mem_iff_getElem.1 hx
  have hrd := dmg_rd l f b r hf i
  rw [dmg_len] at hi
  have hx := hU.rd_in hi
  have : rd (dmg l f b r) (i : Int) = (dmg l f b r)[i]'(by rw [dmg_len]; exact hi) := rd_get (by rw [dmg_len]; exact hi)
  rw [← this, hrd]
  split
  · exact xor_byte hx (hb _ (by omega))
  · exact hx
theorem dmg_none {l : List Int} (hU : U8 l) (f : Nat) {b : List Int} (hb : ∀ i : Nat, i < 4 → 0 ≤ rd b (i : Int) ∧ rd b (i : Int) ≤ 255) (r : Nat) (hr : r ≤ 4) (hf : f + r ≤ l.length) (h : chg b r = false) : dmg l f b r = l := by
  rw [chg_false] at h
  apply rd_ext (by rw [dmg_len])
  intro i hi
  rw [dmg_len] at hi
  rw [dmg_rd l f b r hf]
  split
  · exact (xor_same (hU.rd_in hi) (hb _ (by omega))).2 (h _ (by omega))
  · rfl
theorem pRead_damage {p : S49} (hok : okP p) (hU : U8 p.f5) (f : Nat) (h2 : 2 ≤ f) (hf : f < (frameOf (payload p)).length) (b : List Int) (hb : ∀ i : Nat, i < 4 → 0 ≤ rd b (i : Int) ∧ rd b (i : Int) ≤ 255) :
    ∃ y e, piece_Read.f (dmg (frameOf (payload p)) f b (rounds (frameOf (payload p)).length f)) = some (y, e) ∧ (e == 9) = !decide (frameOf (payload p) = dmg (frameOf (payload p)) f b (rounds (frameOf (payload p)).length f)) := by
  have hpl := payload_len p
  have hd := okP_data hok
  have hfl := frameOf_len (payload p)
  have hpU := payload_U8 hok hU
  have hr4 : rounds (frameOf (payload p)).length f ≤ 4 ∧ f + rounds (frameOf (payload p)).length f ≤ (frameOf (payload p)).length := by unfold rounds; omega
  by_cases hs : frameOf (payload p) = dmg (frameOf (payload p)) f b (rounds (frameOf (payload p)).length f)
  · refine ⟨p, 0, ?_, ?_⟩
    · rw [← hs]; exact pRead_frame hok hU
    · rw [decide_eq_true hs]; rfl
  · obtain ⟨o, ho, h9, h0⟩ := damage hpU (by omega) f h2 (by omega) b hb
    rw [← hfl] at ho h9 h0
    have hc : chg b (rounds (frameOf (payload p)).length f) = true := by
      cases h : chg b (rounds (frameOf (payload p)).length f)
      · exact absurd (dmg_none (frameOf_U8 hpU) f hb _ hr4.1 hr4.2 h).symm hs
      · rfl
    rw [hc] at h9 h0
    have e9 : o.2.2 = 9 := by simpa using h9
    refine ⟨z49, 9, ?_, ?_⟩
    · unfold piece_Read.f
      rw [ho, Option.bind_some]
      simp only [e9]
      rw [if_pos (by decide)]
    · rw [decide_eq_false hs]; rfl
theorem pRead_cut {p : S49} (hok : okP p) (hU : U8 p.f5) (m : Nat) (hm : m < (frameOf (payload p)).length) : piece_Read.f ((frameOf (payload p)).take m) = some (z49, 8) := by
  have hpl := payload_len p
  have hd := okP_data hok
  have hfl := frameOf_len (payload p)
  unfold piece_Read.f
  rw [open_cut (payload_U8 hok hU) (by omega) m (by omega), Option.bind_some]
  dsimp only
  rw [if_pos (by decide)]
end Go.Proofs.YthiealhmcfdakaaM
end
section
set_option linter.unusedVariables false
set_option linter.unusedSimpArgs false
namespace Go.Proofs.YthiealhmcfdakaaH
open Go Go.RowKit Go.Proofs.YthiealhmcfdakaaW.PrintWords Go.Proofs.YthiealhmcfdakaaW.PrintLast Go.Proofs.YthiealhmcfdakaaW.PrintMore Go.Proofs.Ythiealhmcfdakaa.E Go.Proofs.YthiealhmcfdakaaM
theorem read_calls (A : Option Addr) (c : Nat) (l : List Int) (p : S49) (e : Int) (w : World) (hr : Kd.C (Kd.int .u8) w A l.length l) (hc : l.length ≤ c) (h : piece_Read.f l = some (p, e)) :
    Calls Try.prog 23 #[.slice A l.length c] w fun e' w' => ∃ A' c', e' = .returned (.tuple #[.agg #[.int .i64 p.f0.f0, .int .i64 p.f0.f1, .int .i64 p.f0.f2, .int .i64 p.f1, .int .i64 p.f2, .int .i64 p.f3, .int .i64 p.f4, .slice A' p.f5.length c'], .int .i64 e]) ∧ Below w.heap.size w w' := by
  refine (piece_Read.calls A c l p e w hr hc h).mono ?_
  rintro e' w' ⟨v, rfl, hR, hb⟩
  obtain ⟨A', c', rfl, hc', hC'⟩ := Kd.R_reads hR
  exact ⟨A', c', rfl, hb⟩
set_option maxHeartbeats 8000000 in
set_option maxRecDepth 100000 in
theorem pdamage_walk (p : S49) (Ap : Option Addr) (cp : Nat) (a1 b0 b1 b2 b3 a3 : Int) (w : World) (hrp : Kd.C (Kd.int .u8) w Ap p.f5.length p.f5) (hcp : p.f5.length ≤ cp) (hUp : U8 p.f5) (h1 : 0 ≤ a1) (h2 : a1 ≤ 65535) (h3 : 0 ≤ a3) (h4 : a3 ≤ 65535)
    (hb0 : 0 ≤ b0 ∧ b0 ≤ 255) (hb1 : 0 ≤ b1 ∧ b1 ≤ 255) (hb2 : 0 ≤ b2 ∧ b2 ≤ 255) (hb3 : 0 ≤ b3 ∧ b3 ≤ 255) :
    Calls Try.prog 6 #[v49 p (.slice Ap p.f5.length cp), .int .u16 a1, .agg #[.int .u8 b0, .int .u8 b1, .int .u8 b2, .int .u8 b3], .int .u16 a3] w fun e w' => e = .returned (.bool true) ∧ Below w.heap.size w w' := by
  have hu49 := Try.underlying49
  have hi49 : (Try.prog.info? 49).map (·.size) = some 8 := by kernel_rfl
  have HRP := Aside0.mk hrp
  have HUP := Aside0.mk hUp
  have HB4 : Aside0 (∀ i : Nat, i < 4 → 0 ≤ rd [b0, b1, b2, b3] (i : Int) ∧ rd [b0, b1, b2, b3] (i : Int) ≤ 255) := ⟨fun i hi => by
    match i, hi with
    | 0, _ => exact hb0
    | 1, _ => exact hb1
    | 2, _ => exact hb2
    | 3, _ => exact hb3⟩
  clear hrp hUp hb0 hb1 hb2 hb3
  dsimp only [v49]
  go_enter Try.func6, Try.ntmps6
  go_wp2_with (first | ((with_reducible refine gate_dst (N := 4) rfl ?_); (try (refine gate_guard (by rfl) ?_; dsimp only)); refine box_event ?hg (N := 4) ?hd (cs := #[.int .i64 p.f0.f0, .int .i64 p.f0.f1, .int .i64 p.f0.f2, .int .i64 p.f1, .int .i64 p.f2, .int .i64 p.f3, .int .i64 p.f4, .slice Ap p.f5.length cp]) (t := 49) ?hr ?_; (case hd => rfl); (case hg => rfl); (case hr => first | (go_simp; done) | (go_simp; rfl)); intro gp hg w0 hbox hbgp; have HP := Aside0.mk hbox; clear hbox hg) | ((with_reducible refine gate_dst (N := 6) rfl ?_); (try (refine gate_guard (by rfl) ?_; dsimp only)); refine box_event ?hg (N := 6) ?hd (cs := #[.int .u8 b0, .int .u8 b1, .int .u8 b2, .int .u8 b3]) (t := 57) ?hr ?_; (case hd => rfl); (case hg => rfl); (case hr => first | (go_simp; done) | (go_simp; rfl)); intro gx hg w1 hbox hbgx; have HX := Aside0.mk hbox; replace HP := Aside0.mk ((hbgx.block _ (blk_lt HP.out)).trans HP.out); clear hbox hg))
  (with_reducible refine (head_calls _).mono ?_)
  rintro e w2 ⟨rfl, hb2⟩
  have hB2 : Below w.heap.size w w2 := (hbgp.trans (hbgx.mono hbgp.size)).trans (hb2.mono (hbgp.trans (hbgx.mono hbgp.size)).size)
  replace HP := Aside0.mk ((hb2.block _ (blk_lt HP.out)).trans HP.out)
  replace HX := Aside0.mk ((hb2.block _ (blk_lt HX.out)).trans HX.out)
  clear hbgp hbgx hb2
  have x0 : w2.cell? ⟨gp, 0, none⟩ = some (.int .i64 p.f0.f0) := (blk_cell HP.out 0).trans rfl
  have x1 : w2.cell? ⟨gp, 1, none⟩ = some (.int .i64 p.f0.f1) := (blk_cell HP.out 1).trans rfl
  have x2 : w2.cell? ⟨gp, 2, none⟩ = some (.int .i64 p.f0.f2) := (blk_cell HP.out 2).trans rfl
  have x3 : w2.cell? ⟨gp, 3, none⟩ = some (.int .i64 p.f1) := (blk_cell HP.out 3).trans rfl
  have x4 : w2.cell? ⟨gp, 4, none⟩ = some (.int .i64 p.f2) := (blk_cell HP.out 4).trans rfl
  have x5 : w2.cell? ⟨gp, 5, none⟩ = some (.int .i64 p.f3) := (blk_cell HP.out 5).trans rfl
  have x6 : w2.cell? ⟨gp, 6, none⟩ = some (.int .i64 p.f4) := (blk_cell HP.out 6).trans rfl
  have x7 : w2.cell? ⟨gp, 7, none⟩ = some (.slice Ap p.f5.length cp) := (blk_cell HP.out 7).trans rfl
  by_cases hok : okP p
  case neg =>
    have hF := piece_Frame.calls _ _ _ _ _ _ _ Ap cp p.f5 _ _ w2 (Kd.C_below HRP.out hB2) hcp (pFrame_bad hok)
    go_wp2_with fail
    (with_reducible refine hF.mono ?_)
    rintro e w3 ⟨v3, rfl, hR3, hb3⟩
    obtain ⟨A3, c3, rfl, hc3, hC3⟩ := Kd.R_reads hR3
    go_wp2_with fail
    go_ret
    exact ⟨rfl, hB2.trans (hb3.mono hB2.size)⟩
  have hF := piece_Frame.calls _ _ _ _ _ _ _ Ap cp p.f5 _ _ w2 (Kd.C_below HRP.out hB2) hcp (pFrame_ok hok)
  have HRD := Aside0.mk (fun f h2 hf => pRead_damage hok HUP.out f h2 hf [b0, b1, b2, b3] HB4.out)
  have HRC := Aside0.mk (fun m hm => pRead_cut hok HUP.out m hm)
  have HFU := Aside0.mk (frameOf_U8 (payload_U8 hok HUP.out))
  have hfl : (frameOf (payload p)).length = p.f5.length + 17 := by rw [frameOf_len, payload_len]
  have hdl := okP_data hok
  obtain ⟨F, hFd⟩ : ∃ F, F = frameOf (payload p) := ⟨_, rfl⟩
  rw [← hFd] at hF HRD HRC HFU hfl
  obtain ⟨n, hn⟩ : ∃ n, n = F.length := ⟨_, rfl⟩
  rw [← hn] at HRD HRC hfl
  have HN := Aside0.mk hn
  clear hok hFd hn
  have hn17 : 17 ≤ n ∧ n ≤ 217 := by omega
  have hn3 : ¬ (n : Int) < 3 := by omega
  clear hfl hdl
  go_wp2_with fail
  (with_reducible refine hF.mono ?_)
  clear hF
  rintro e w3 ⟨v3, rfl, hR3, hb3⟩
  obtain ⟨A3, c3, rfl, hc3, hC3⟩ := Kd.R_reads hR3
  rw [← HN.out] at hc3
  rw [show F.length = n from HN.out.symm]
  have HB3 := Aside0.mk (hB2.trans (hb3.mono hB2.size))
  replace HX := Aside0.mk ((hb3.block _ (blk_lt HX.out)).trans HX.out)
  have HC3 := Aside0.mk hC3
  have hC3n := hC3
  rw [← HN.out] at hC3n
  have HC3n := Aside0.mk hC3n
  clear hR3 hb3 hC3 hC3n HP x0 x1 x2 x3 x4 x5 x6 x7
  go_wp2_with (first | ((with_reducible refine gate_builtin (b := .append) (xs := #[.tmp 37, .tmp 38]) rfl ?_); at_builtin; refine Kd.R_append_rows (Kd.int .u8) (w0 := w3) w3.heap.size rfl (.tmp 37) (.tmp 38) 28 5 (.int .u8 0) 1 rfl Try.underlying28 info_u8 rfl (by decide) (by omega) _ ([] : List Int) F _ _ _ (fun _ => True) (fun _ => False) rfl rfl (R_lit0 (Kd.int .u8) 5 w3) (Kd.C_below HC3n.out ((Below.refl w3.heap.size w3).alloc (Nat.le_refl _) (.cells #[] 5))) (fun _ _ h => h) (fun _ h => h.elim) (fun _ _ => trivial) ((Below.refl w3.heap.size w3).alloc (Nat.le_refl _) (.cells #[] 5)) ((Below.refl w3.heap.size w3).alloc (Nat.le_refl _) (.cells #[] 5)).size ?aL ?_; (case aL => simp; omega); intro v4 w4 ho hb _ _; rw [List.nil_append] at ho; have HO := Aside0.mk ho; have HB := Aside0.mk hb; clear ho hb))
  obtain ⟨f, hf⟩ : ∃ f : Nat, f = 2 + a1.toNat % (n - 2) := ⟨_, rfl⟩
  have hfn : f < n ∧ 2 ≤ f := by have := Nat.mod_lt a1.toNat (show 0 < n - 2 by omega); omega
  have hwf : wrap64 (2 + a1 % (↑n - 2)) = (f : Int) := by
    have e1 : (a1 % ((n : Int) - 2)) = ((a1.toNat % (n - 2) : Nat) : Int) := by
      have : (n : Int) - 2 = ((n - 2 : Nat) : Int) := by omega
      obtain ⟨m, rfl⟩ := Int.eq_ofNat_of_zero_le h1
      rw [this, Int.toNat_natCast]; rfl
    rw [e1, hf]
    have := Nat.mod_lt a1.toNat (show 0 < n - 2 by omega)
    unfold wrap64
    omega
  rw [hwf]
  clear hwf hf
  obtain ⟨g, cap, rfl, hg, _⟩ := Kd.R_form HO.out (by rw [← HN.out]; omega)
  rw [← HN.out] at HO ⊢
  obtain ⟨bs, hbs⟩ : ∃ bs : List Int, bs = [b0, b1, b2, b3] := ⟨_, rfl⟩
  have hbox : Aside0 (∀ j : Nat, j < 4 → w3.cell? ⟨gx, j, none⟩ = some (.int .u8 (rd bs (j : Int)))) := ⟨fun j hj => by
    rw [hbs]
    match j, hj with
    | 0, _ => exact (blk_cell HX.out 0).trans rfl
    | 1, _ => exact (blk_cell HX.out 1).trans rfl
    | 2, _ => exact (blk_cell HX.out 2).trans rfl
    | 3, _ => exact (blk_cell HX.out 3).trans rfl⟩
  have hRD := HRD.out f hfn.2 hfn.1
  rw [← hbs] at hRD
  have HRD2 := Aside0.mk hRD
  have hgx3 := Aside0.mk (blk_lt HX.out)
  clear HRD hRD hbs HB4 HX
  obtain ⟨m, hm⟩ : ∃ m : Nat, a3 % (n : Int) = (m : Int) := Int.eq_ofNat_of_zero_le (Int.emod_nonneg _ (by omega))
  have hmn : m < n := by have := Int.emod_lt_of_pos a3 (show 0 < (n : Int) by omega); omega
  have HM := Aside0.mk hm
  clear hm
  go_loopw [14] (fun v14 wr => ∃ k : Nat, v14 = .int .i64 (k : Int) ∧ Aside0 (k ≤ 4 ∧ f + k ≤ n) ∧ Aside0 (Kd.R (Kd.int .u8) 5 wr w3.heap.size (fun x => True) (.slice (some ⟨g, 0, none⟩) n cap) (dmg F f bs k)) ∧ Aside0 (Below w3.heap.size w3 wr)) (fun v14 wr => 4 - (intOf v14).toNat)
  case atStart => exact ⟨0, rfl, ⟨by omega⟩, HO, HB⟩
  case round =>
    clear HO HB
    obtain ⟨k, rfl, HK, HO, HB⟩ := hrel
    have hk := HK.out
    have hlen : (dmg F f bs k).length = n := by rw [dmg_len]; exact HN.out.symm
    by_cases hgo : k < 4 ∧ f + k < n
    · obtain ⟨h4, hn2⟩ := hgo
      have hi4 : (k : Int) < 4 := by omega
      have hlt : (f : Int) + (k : Int) < (n : Int) := by omega
      have h0 : 0 ≤ (f : Int) + (k : Int) := by omega
      have hC := (Kd.R_reads' HO.out).2.2
      obtain ⟨ad, e, hcx⟩ := Kd.at_int hC ((f : Int) + (k : Int)) h0 (by rw [hlen]; exact hlt)
      cases e
      have hcb := (HB.out.cell (p := ⟨gx, k, none⟩) hgx3.out).trans (hbox.out k h4)
      have hfk : f + k ≤ 4611686018427387904 := by omega
      have hadd : (⟨g, 0, none⟩ : Addr).add ((f : Int) + (k : Int)).toNat = ⟨g, f + k, none⟩ := by
        have : ((f : Int) + (k : Int)).toNat = f + k := by omega
        rw [this]; unfold Addr.add; split <;> simp_all
      rw [hadd] at hcx
      generalize hX : rd (dmg F f bs k) ((f : Int) + (k : Int)) = X at hcx
      generalize hY : rd bs (k : Int) = Y at hcb
      have HX := Aside0.mk hX
      have HY := Aside0.mk hY
      clear hX hY hC
      have hfk0 : 0 ≤ (f : Int) + (k : Int) := h0
      have hk0 : (0 : Int) ≤ (k : Int) := by omega
      have htn : ((f : Int) + (k : Int)).toNat = f + k := by omega
      have hwk := iadd f k hfk
      have hwk2 := wadd' f k hfk
      go_wp2_with fail
      go_still_tail 11, (by kernel_rfl)
      clear hwk hwk2 htn
      change wpList _ _ _ _ _ wr.drew
      refine Kd.R_store (Kd.int .u8) (w0 := w3) (W := wr.drew) w3.heap.size rfl rfl 5 (.tmp 69) (.tmp 68) rfl 5 ((f + k : Nat) : Int) 0 (dmg F f bs k) (Go.bits .xor .u8 X Y) (.int .u8 (Go.bits .xor .u8 X Y)) [.int .u8 (Go.bits .xor .u8 X Y)] [.int .u8 X] (fun _ => True) (fun _ => False) (o' := f + k) rfl (by show f + k = ((f + k : Nat) : Int).toNat * 1 + 0; omega) rfl rfl size_u8 (by simp [Value.oneCell']) (Kd.R_drew HO.out) (by omega) (by omega) rfl ?hcc (by show 0 + 1 ≤ 1; omega) rfl (fun _ h => h.elim) (below_drew HB.out) ?_
      case hcc =>
        intro j u hu
        cases j with
        | zero =>
          obtain rfl : Value.int .u8 X = u := by simpa using hu
          have : ((f + k : Nat) : Int).toNat * 1 + 0 = f + k := by omega
          show wr.drew.cell? ⟨g, ((f + k : Nat) : Int).toNat * 1 + 0, none⟩ = _
          rw [this]
          exact hcx
        | succ j => simp at hu
      intro w4 ho4 hb4 _
      have e4 : ((f + k : Nat) : Int).toNat = f + k := by omega
      rw [e4] at ho4
      have HO4 := Aside0.mk ho4
      have HB4 := Aside0.mk hb4
      clear ho4 hb4 hcx hcb
      have hk1 : k + 1 ≤ 4 ∧ f + (k + 1) ≤ n := by omega
      have hone : Value.int .i64 (wrap64 ((k : Int) + 1)) = Value.int .i64 ((k + 1 : Nat) : Int) := by rw [wone' k (by omega)]
      have HONE := Aside0.mk hone
      clear hone
      have HYr := HY.out
      have HD : Aside0 (dmg F f bs (k + 1) = (dmg F f bs k).set (f + k) (Go.bits .xor .u8 X Y)) := ⟨by rw [dmg, Int.natCast_add, HX.out, HYr]⟩
      go_wp2_with fail
      go_roundw
      case rel => exact ⟨k + 1, by first | rfl | exact HONE.out, ⟨hk1⟩, by rw [HD.out]; exact HO4, HB4⟩
      case measure => simp [intOf]; omega
    · have hkr : rounds n f = k := by unfold rounds; omega
      have hor : (k < 4 ∧ ¬ f + k < n) ∨ ¬ k < 4 := by omega
      obtain ⟨y, er, hrd, h9⟩ := HRD2.out
      rw [hkr] at hrd h9
      have hR := Kd.R_reads' HO.out
      have hB0 := HB.out
      have hcall := read_calls (some ⟨g, 0, none⟩) cap (dmg F f bs k) y er wr hR.2.2 (by rw [hlen]; exact hR.2.1) hrd
      rw [hlen] at hcall
      have hCut := Aside0.mk (HRC.out m hmn)
      have hby := fun W (hW : Below wr.heap.size wr W) => seamarkref08_Bytes.calls (F.length + 1) A3 c3 F (some ⟨g, 0, none⟩) cap (dmg F f bs k) _ W (Kd.C_below HC3.out (hB0.trans (hW.mono hB0.size))) (by rw [← HN.out]; exact hc3) (Kd.C_below hR.2.2 hW) (by rw [hlen]; exact hR.2.1) (bytes_f F (dmg F f bs k) (by rw [← HN.out]; omega))
      rw [← HN.out, hlen] at hby
      obtain ⟨dd, hdd⟩ : ∃ dd, dd = decide (F = dmg F f bs k) := ⟨_, rfl⟩
      rw [← hdd] at hby h9
      have HBY := Aside0.mk hby
      have H9 := Aside0.mk h9
      have HCALL := Aside0.mk hcall
      clear hkr hrd hR hdd hby h9 hcall HRC HRD2 hlen hbox hgo HK
      rcases hor with ⟨q4, qn⟩ | q4
      all_goals
        first | (have hi4 : (k : Int) < 4 := (by omega); have hlt2 : (n : Int) ≤ (f : Int) + (k : Int) := (by omega); have hlt : ¬ (f : Int) + (k : Int) < (n : Int) := (by omega)) | (have hi4 : ¬ (k : Int) < 4 := (by omega); have hi5 : 4 ≤ (k : Int) := (by omega))
        have hnz : (n : Int) ≠ 0 := by omega
        have hnp : 0 < (n : Int) := by omega
        have hmz : 0 ≤ a3 % (n : Int) := by rw [HM.out]; omega
        have hmy : a3 % (n : Int) ≤ (n : Int) := by rw [HM.out]; omega
        go_wp2_with fail
        (with_reducible refine HCALL.out.mono ?_)
        clear HCALL
        rintro e w5 ⟨Ay, cy, rfl, hb5⟩
        have hB5 := hB0.trans (hb5.mono hB0.size)
        have HZ := World.alloc_heap_new w5 (.cells #[.int .i64 0, .int .i64 0, .int .i64 0, .int .i64 0, .int .i64 0, .int .i64 0, .int .i64 0, .slice none 0 0] 49)
        have hbs : Below w5.heap.size w5 ((w5.alloc (.cells #[.int .i64 0, .int .i64 0, .int .i64 0, .int .i64 0, .int .i64 0, .int .i64 0, .int .i64 0, .slice none 0 0] 49)).setRow w5.heap.size #[.int .i64 y.f0.f0, .int .i64 y.f0.f1, .int .i64 y.f0.f2, .int .i64 y.f1, .int .i64 y.f2, .int .i64 y.f3, .int .i64 y.f4, .slice Ay y.f5.length cy]) := below_setRow ((Below.refl _ _).alloc (Nat.le_refl _) _) (Nat.le_refl _) _
        obtain ⟨w6, hws⟩ : ∃ ws, ws = (w5.alloc (.cells #[.int .i64 0, .int .i64 0, .int .i64 0, .int .i64 0, .int .i64 0, .int .i64 0, .int .i64 0, .slice none 0 0] 49)).setRow w5.heap.size #[.int .i64 y.f0.f0, .int .i64 y.f0.f1, .int .i64 y.f0.f2, .int .i64 y.f1, .int .i64 y.f2, .int .i64 y.f3, .int .i64 y.f4, .slice Ay y.f5.length cy] := ⟨_, rfl⟩
        rw [← hws] at hbs
        have HWS := Aside0.mk hws
        have hb6 := hb5.trans (hbs.mono hb5.size)
        clear hws hbs
        have hB6 := hB0.trans (hb6.mono hB0.size)
        obtain ⟨i0, hi0, _, hsz, _⟩ := info_parts info_u8
        have hcut8 := (print_take_of (P := Try.prog) (Value.int .u8) (0 : Int) 28 5 .i64 Try.underlying28 hi0 hsz A3 c3 F (a3 % (n : Int)) (by rw [HM.out]; omega) (by rw [HM.out, ← HN.out]; omega) (by rw [← HN.out]; exact hc3)).1
        have hn8 : (F.take (a3 % (n : Int)).toNat).length = m := by rw [HM.out, List.length_take, ← HN.out, Int.toNat_natCast]; omega
        rw [hn8, ← HN.out] at hcut8
        have hl3 : (F.take m).length = m := by rw [List.length_take, ← HN.out]; omega
        have hr3 := Kd.C_take (m := m) (Kd.C_below HC3.out hB6) (by rw [← HN.out]; omega)
        have hcall3 := read_calls A3 c3 (F.take m) z49 8 w6 hr3 (by rw [hl3]; omega) hCut.out
        rw [hl3] at hcall3
        have HCALL3 := Aside0.mk hcall3
        clear hcall3 hl3 hr3 hn8 hi0 hsz hB5 hb5
        go_wp2_with (first | (refine wpList_store_row rfl 49 (.tmp 15) (.tmp 73) rfl w5.heap.size rfl #[.int .i64 y.f0.f0, .int .i64 y.f0.f1, .int .i64 y.f0.f2, .int .i64 y.f1, .int .i64 y.f2, .int .i64 y.f3, .int .i64 y.f4, .slice Ay y.f5.length cy] rfl 49 #[.int .i64 0, .int .i64 0, .int .i64 0, .int .i64 0, .int .i64 0, .int .i64 0, .int .i64 0, .slice none 0 0] HZ rfl ?h1 hi49 ?_; (case h1 => simp [Value.oneCell']); rw [← HWS.out]))
        (with_reducible refine HCALL3.out.mono ?_)
        clear HCALL3 HZ HWS hcut8
        rintro e w7 ⟨Az, cz, rfl, hb7⟩
        have hb67 := hb6.trans (hb7.mono hb6.size)
        clear hb7 hb6 hB6
        have HZ := World.alloc_heap_new w7 (.cells #[.int .i64 0, .int .i64 0, .int .i64 0, .int .i64 0, .int .i64 0, .int .i64 0, .int .i64 0, .slice none 0 0] 49)
        have hbs : Below w7.heap.size w7 ((w7.alloc (.cells #[.int .i64 0, .int .i64 0, .int .i64 0, .int .i64 0, .int .i64 0, .int .i64 0, .int .i64 0, .slice none 0 0] 49)).setRow w7.heap.size #[.int .i64 z49.f0.f0, .int .i64 z49.f0.f1, .int .i64 z49.f0.f2, .int .i64 z49.f1, .int .i64 z49.f2, .int .i64 z49.f3, .int .i64 z49.f4, .slice Az z49.f5.length cz]) := below_setRow ((Below.refl _ _).alloc (Nat.le_refl _) _) (Nat.le_refl _) _
        obtain ⟨w8, hws⟩ : ∃ ws, ws = (w7.alloc (.cells #[.int .i64 0, .int .i64 0, .int .i64 0, .int .i64 0, .int .i64 0, .int .i64 0, .int .i64 0, .slice none 0 0] 49)).setRow w7.heap.size #[.int .i64 z49.f0.f0, .int .i64 z49.f0.f1, .int .i64 z49.f0.f2, .int .i64 z49.f1, .int .i64 z49.f2, .int .i64 z49.f3, .int .i64 z49.f4, .slice Az z49.f5.length cz] := ⟨_, rfl⟩
        rw [← hws] at hbs
        have HWS := Aside0.mk hws
        have hb8 := hb67.trans (hbs.mono hb67.size)
        clear hws hbs
        have hcy8 := HBY.out w8 hb8
        have hB8 := HB3.out.trans ((hB0.trans (hb8.mono hB0.size)).mono HB3.out.size)
        clear HBY hb67 hb8 hB0
        go_wp2_with (first | (refine wpList_store_row rfl 49 (.tmp 17) (.tmp 84) rfl w7.heap.size rfl #[.int .i64 z49.f0.f0, .int .i64 z49.f0.f1, .int .i64 z49.f0.f2, .int .i64 z49.f1, .int .i64 z49.f2, .int .i64 z49.f3, .int .i64 z49.f4, .slice Az z49.f5.length cz] rfl 49 #[.int .i64 0, .int .i64 0, .int .i64 0, .int .i64 0, .int .i64 0, .int .i64 0, .int .i64 0, .slice none 0 0] HZ rfl ?h1 hi49 ?_; (case h1 => simp [Value.oneCell']); rw [← HWS.out]))
        (with_reducible refine hcy8.mono ?_)
        clear hcy8 HZ HWS
        rintro e w9 ⟨rfl, hd⟩
        have hB9 := hB8.trans (hd.below.mono hB8.size)
        clear hd
        have h9 := H9.out
        cases dd
        · have k9 : (er == 9) = true := h9
          go_wp2_with fail
          go_ret
          exact ⟨rfl, hB9⟩
        · have k9 : (er == 9) = false := h9
          go_wp2_with fail
          go_ret
          exact ⟨rfl, hB9⟩
end Go.Proofs.YthiealhmcfdakaaH
end
section
namespace Go.Proofs.Ythiealhmcfdakaa.pieceDamage
open Go.ChangeShapes Go.WideShapes Go.ChangeAt Go.RowKit
open Go.ChangeMaps (open_string shut_string)
open Go.Proofs.YthiealhmcfdakaaH Go.Proofs.YthiealhmcfdakaaM
set_option linter.unusedVariables false
theorem own : ownKnob Try.prog.godebug = none := by kernel_rfl
theorem laidOut : laidOutB Try.prog = true := by kernel_rfl
theorem list4 {α : Type} (l : List α) (h : (⟨l⟩ : Array α).size = 4) : ∃ a b c d, l = [a, b, c, d] := by
  match l, h with
  | [a, b, c, d], _ => exact ⟨a, b, c, d, rfl⟩
set_option maxHeartbeats 4000000 in
set_option maxRecDepth 100000 in
theorem lifted (os : Os) (started : os.Started) (H : Type) (enc : TypeId × Value → H) :
    ReturnsInHanded {} Try.checked os 6 .any (Rows.pieceDamageSpec.pre6 enc Try.prog Try.f6 Rows.pieceDamageRow.domain false) (Rows.pieceDamageSpec.post enc Try.prog Try.f6 false true false false) := by
  refine returnsInHanded_of_change_sized (C := Try.checked) own started (by kernel_rfl) Try.func6
    (ChangeSpec.witness6 (enc := enc) (C := Try.checked) false ⟨#[], #[.agg #[.int .i64 0, .int .i64 0, .int .i64 0, .int .i64 0, .int .i64 0, .int .i64 0, .int .i64 0, .slice none 0 0], .int .u16 0, .agg #[.int .u8 0, .int .u8 0, .int .u8 0, .int .u8 0], .int .u16 0], []⟩ 8 (by kernel_rfl) (by kernel_rfl) (by kernel_rfl) (by kernel_rfl)) ?_
  intro W base args ds gs before hval0 hW hcnd hsz0 _
  have hsz : (DataW.weightsEach Try.prog (Try.f6.params.toList ++ Rows.pieceDamageSpec.plain.varTypes Try.prog) (ds ++ gs)).all (· ≤ reachBytes) = true := hsz0
  have hval : ∀ (j : Nat) t v, Try.f6.params[j]? = some t → args[j]? = some v → Value.okWide Try.prog W .any base t v := hval0
  have hW' := hW
  obtain ⟨p, q, hA0, hV, rfl, hfz, hnd⟩ := hW
  have hA : DataW.TrodAll enc Try.prog W 0 (fun _ => true) true Try.f6.params.toList args.toList ds p := hA0
  rw [Try.params6] at hA hval hsz
  obtain ⟨v0, vs0, d0, ds0, p0, q0, hargs, rfl, rfl, h0, r0⟩ := trodAll_cons hA
  obtain ⟨v1, vs1, d1, ds1, p1, q1, rfl, rfl, rfl, h1, r1⟩ := trodAll_cons r0
  obtain ⟨v2, vs2, d2, ds2, p2, q2, rfl, rfl, rfl, h2, r2⟩ := trodAll_cons r1
  obtain ⟨v3, vs3, d3, ds3, p3, q3, rfl, rfl, rfl, h3, r3⟩ := trodAll_cons r2
  obtain ⟨rfl, rfl, rfl⟩ := trodAll_nil r3
  obtain rfl : args = #[v0, v1, v2, v3] := by cases args; simp_all
  obtain ⟨rfl, rfl⟩ := trodVars_none hV
  have k0 := h0
  have lt0 : ∀ x ∈ p0, x.block < W.heap.size := by obtain ⟨m, hm⟩ := k0; exact DataW.trod_lt m _ _ _ hm
  obtain ⟨cs0, rfl, hz0⟩ := okWide_struct Try.underlying49 (hval 0 49 v0 rfl rfl)
  obtain ⟨l0⟩ := cs0
  obtain ⟨fuel0, hf0⟩ := h0
  obtain ⟨x0, A0, c0, hcs0, hc0, hC0, hU0⟩ := open_piece hf0
  have hcs0' : l0 = _ := hcs0
  subst hcs0'
  obtain ⟨a1, rfl, rfl, rfl, w1⟩ := open_int Try.underlying56 (hval 1 56 v1 rfl rfl) h1
  have k2 := h2
  have lt2 : ∀ x ∈ p2, x.block < W.heap.size := by obtain ⟨m, hm⟩ := k2; exact DataW.trod_lt m _ _ _ hm
  obtain ⟨cs, rfl, hszA⟩ : ∃ cs, v2 = .agg cs ∧ cs.size = 4 := by
    have h := hval 2 57 v2 rfl rfl
    simp only [Value.okWide, Try.underlying57] at h
    obtain ⟨cs, e1, e2, _⟩ := h
    exact ⟨cs, e1, e2.trans (by kernel_rfl)⟩
  obtain ⟨l⟩ := cs
  obtain ⟨c0_, c1_, c2_, c3_, rfl⟩ := list4 l hszA
  obtain ⟨fuel, hf⟩ := h2
  obtain ⟨y0, y1, y2, y3, m, hx, hy0, hy1, hy2, hy3⟩ := trod_array4 Try.underlying57 (by kernel_rfl) hf
  obtain ⟨e0_, e0, rfl, u0⟩ := DataW.trod_int Try.underlying5 hy0
  obtain ⟨e1_, e1, rfl, u1⟩ := DataW.trod_int Try.underlying5 hy1
  obtain ⟨e2_, e2, rfl, u2⟩ := DataW.trod_int Try.underlying5 hy2
  obtain ⟨e3_, e3, rfl, u3⟩ := DataW.trod_int Try.underlying5 hy3
  simp at e0 e1 e2 e3
  subst e0 e1 e2 e3
  obtain ⟨a3, rfl, rfl, rfl, w3⟩ := open_int Try.underlying56 (hval 3 56 v3 rfl rfl) h3
  clear hA0 hval0 hsz0 hsz
  refine (pdamage_walk x0 _ _ a1 e0_ e1_ e2_ e3_ a3 W hC0 hc0 hU0 (u16_bounds w1).1 (u16_bounds w1).2 (u16_bounds w3).1 (u16_bounds w3).2 (u8_bounds u0) (u8_bounds u1) (u8_bounds u2) (u8_bounds u3)).mono fun e W' ⟨he, bel⟩ => ?_
  subst he
  exact ⟨_, rfl, _, _, _, [], _, [], hW', trodAll_mk1 (shut_bool Try.underlying4 _), (trodAll_cons_mk (Below.trod laidOut (by kernel_rfl) (of_decide_eq_true (by kernel_rfl)) k0 bel lt0) (trodAll_cons_mk (shut_int Try.underlying56 w1) (trodAll_cons_mk (Below.trod laidOut (by kernel_rfl) (of_decide_eq_true (by kernel_rfl)) k2 bel lt2) (trodAll_cons_mk (shut_int Try.underlying56 w3) trodAll_mk0)))), rfl, bel.frame _, fun h => by cases h⟩
theorem over : Rows.pieceDamageRow.holds Try.pinned (OpenSpec.ofChange Rows.pieceDamageSpec) :=
  OpenClaim.holds_of_wide 6 Try.f6 rfl rfl rfl rfl rfl rfl rfl ⟨rfl, rfl, rfl, rfl, rfl⟩ rfl rfl rfl rfl rfl (by kernel_rfl) Try.func6 (by kernel_rfl)
    (of_decide_eq_true (by kernel_rfl)) (by unfold Func.isWrapper; first | (rw [if_pos (by decide +kernel)]; kernel_rfl) | (rw [if_neg (by decide +kernel)]; exact ⟨rfl, rfl⟩))
    (fun os started H enc _ => lifted os started H enc)
theorem proved : Rows.PieceDamageSaid := over
#print axioms proved
end Go.Proofs.Ythiealhmcfdakaa.pieceDamage
namespace Go.Proofs.Ythiealhmcfdakaa
theorem pieceDamage_holds : Rows.PieceDamageSaid := pieceDamage.proved
end Go.Proofs.Ythiealhmcfdakaa
end
