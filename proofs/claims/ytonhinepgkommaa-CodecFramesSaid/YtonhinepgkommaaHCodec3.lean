/- Contracts of codec.cut at the test 'below 128', and of codec.Get. -/
import Derived.Test.YtonhinepgkommaaHCodec2
import Derived.BigQuiet
import Derived.Deep.QuietTactic
set_option linter.unusedVariables false
set_option linter.unusedSimpArgs false
namespace Go.Proofs.YtonhinepgkommaaH
open Go Go.RowKit Go.Proofs.YtonhinepgkommaaW.PrintWords Go.Proofs.YtonhinepgkommaaW.PrintLast

theorem last_calls (x : Int) (w : World) : Calls Try.prog 28 #[.int .u8 x] w fun e w' => e = .returned (.bool (decide (x < 128))) ∧ w = w' := by
  go_enter Try.func28, Try.ntmps28
  go_wp2_with fail
  go_ret
  exact ⟨rfl, rfl⟩

/-- Where the first last digit stands. -/
def lastAt : List Int → Option Nat
  | [] => none
  | x :: l => if x < 128 then some 0 else (lastAt l).map (· + 1)

/-- None of the first k is below 128. -/
def NoLast (l : List Int) (k : Nat) : Prop := ∀ i : Nat, i < k → ¬ rd l i < 128

def CutGives (A0 : Option Addr) (c0 : Nat) (l0 : List Int) (w : World) (e : Ending) (w' : World) : Prop :=
  match lastAt l0 with
  | none => e = .returned (.tuple #[.slice A0 l0.length c0, .slice none 0 0, .bool false]) ∧ Drawn0 w w'
  | some i => ∃ A2, e = .returned (.tuple #[.slice A0 (i + 1) c0, .slice A2 (l0.length - (i + 1)) (c0 - (i + 1)), .bool true]) ∧ Drawn0 w w' ∧
      (∀ W, Kd.C (Kd.int .u8) W A0 l0.length l0 → Kd.C (Kd.int .u8) W A2 (l0.length - (i + 1)) (l0.drop (i + 1)))

theorem lastAt_some {l : List Int} {k : Nat} (hk : k < l.length) (h : ∀ i, i < k → ¬ rd l i < 128) (h1 : rd l k < 128) : lastAt l = some k := by
  induction l generalizing k with
  | nil => simp at hk
  | cons x l ih =>
    cases k with
    | zero =>
      have : x < 128 := by simpa [rd] using h1
      simp [lastAt, this]
    | succ k =>
      have h0 : ¬ x < 128 := by simpa [rd] using h 0 (by omega)
      have := ih (k := k) (by simpa using hk) (fun i hi => by
        have h2 := h (i + 1) (by omega)
        unfold rd at h2 ⊢
        simp only [Int.toNat_natCast] at h2 ⊢
        simpa using h2) (by
        unfold rd at h1 ⊢
        simp only [Int.toNat_natCast] at h1 ⊢
        simpa using h1)
      simp [lastAt, h0, this]

theorem lastAt_none {l : List Int} (h : ∀ i, i < l.length → ¬ rd l i < 128) : lastAt l = none := by
  induction l with
  | nil => rfl
  | cons x l ih =>
    have h0 : ¬ x < 128 := by simpa [rd] using h 0 (by simp)
    have := ih (fun i hi => by
        have h2 := h (i + 1) (by simpa using hi)
        unfold rd at h2 ⊢
        simp only [Int.toNat_natCast] at h2 ⊢
        simpa using h2)
    simp [lastAt, h0, this]

theorem lastAt_lt {l : List Int} {k : Nat} (h : lastAt l = some k) : k < l.length := by
  induction l generalizing k with
  | nil => cases h
  | cons x l ih =>
    unfold lastAt at h
    by_cases h0 : x < 128
    · rw [if_pos h0] at h
      obtain rfl := Option.some.inj h
      simp
    · rw [if_neg h0] at h
      obtain ⟨j, hj, rfl⟩ := Option.map_eq_some_iff.1 h
      have := ih hj
      simp
      omega

theorem lastAt_before {l : List Int} {k : Nat} (h : lastAt l = some k) : ∀ j : Nat, j < k → ¬ rd l j < 128 := by
  induction l generalizing k with
  | nil => cases h
  | cons x l ih =>
    unfold lastAt at h
    by_cases h0 : x < 128
    · rw [if_pos h0] at h
      obtain rfl := Option.some.inj h
      intro j hj
      omega
    · rw [if_neg h0] at h
      obtain ⟨j, hj, rfl⟩ := Option.map_eq_some_iff.1 h
      intro m hm
      cases m with
      | zero => simpa [rd] using h0
      | succ m =>
        have := ih hj m (by omega)
        unfold rd at this ⊢
        simp only [Int.toNat_natCast] at this ⊢
        simpa using this

set_option maxHeartbeats 1000000 in
theorem cut_calls (A0 : Option Addr) (c0 : Nat) (l0 : List Int) (w : World) (hr0 : Kd.C (Kd.int .u8) w A0 l0.length l0) (hc0 : l0.length ≤ c0) :
    Calls Try.prog 29 #[.slice A0 l0.length c0, .func (.func 28) #[] #[]] w (CutGives A0 c0 l0 w) := by
  have HR := Aside0.mk hr0
  have hlen : l0.length ≤ 9223372036854775807 := hr0.2.1
  clear hr0
  go_enter Try.func29, Try.ntmps29
  go_wp2_with fail
  go_loop [11] (fun v => ∃ k : Nat, k ≤ l0.length ∧ v = .int .i64 k ∧ Aside0 (NoLast l0 k)) (fun v => l0.length - (intOf v).toNat)
  case atStart => exact ⟨0, by omega, rfl, ⟨fun i hi => by omega⟩⟩
  case round =>
    obtain ⟨k, hk, rfl, HN⟩ := hrel
    by_cases hlt : k < l0.length
    · obtain ⟨ad, e, hx⟩ := Kd.at_int HR.out k (by omega) (by omega)
      cases e
      simp only [Int.toNat_natCast] at hx
      obtain ⟨x, hxx⟩ : ∃ x, x = rd l0 k := ⟨_, rfl⟩
      rw [← hxx] at hx
      have HX := Aside0.mk hxx
      clear hxx
      by_cases h1 : x < 128
      · obtain ⟨i0, hi0, _, hsz, _⟩ := info_parts info_u8
        obtain ⟨hcut1, hC1, hc1⟩ := print_take_of (P := Try.prog) (Value.int .u8) (0 : Int) 23 5 .i64 Try.underlying23 hi0 hsz (some ad) c0 l0 (k + 1) (by omega) (by omega) hc0
        obtain ⟨A2, hcut2, hC2, hc2⟩ := print_drop_of (P := Try.prog) (Value.int .u8) (0 : Int) 23 5 .i64 Try.underlying23 hi0 hsz (some ad) c0 l0 (k + 1) (by omega) (by omega) hc0
        have e1 : (l0.take ((k : Int) + 1).toNat).length = k + 1 := by rw [List.length_take]; omega
        have e2 : (l0.drop ((k : Int) + 1).toNat).length = l0.length - (k + 1) := by rw [List.length_drop]; omega
        have e3 : ((k : Int) + 1).toNat = k + 1 := by omega
        rw [e1] at hcut1
        rw [e2] at hcut2 hC2
        rw [e3] at hcut2 hC2
        have HC2 := Aside0.mk hC2
        have HL := Aside0.mk (lastAt_some hlt HN.out (by rw [← HX.out]; exact h1))
        clear hc1 hc2 hi0 hsz hC2 hC1 e1 e2 e3
        go_wp2_with (first | (go_at_call 28; (with_reducible refine (last_calls _ _).mono ?_); rintro e w1 ⟨rfl, rfl⟩))
        go_quiet (fail)
        go_wp2_with fail
        go_ret3
        unfold CutGives
        rw [HL.out]
        exact ⟨A2, rfl, ⟨_, rfl⟩, fun W hW => Kd.C_of_reads (d := (0 : Int)) (h1 := fun _ => rfl) (HC2.out W (Kd.reads_of_C (d := (0 : Int)) hW))⟩
      · have HN2 : Aside0 (NoLast l0 (k + 1)) := ⟨fun i hi => by
          by_cases e : i = k
          · rw [e, ← HX.out]; exact h1
          · exact HN.out i (by omega)⟩
        go_wp2_with (first | (go_at_call 28; (with_reducible refine (last_calls _ _).mono ?_); rintro e w1 ⟨rfl, rfl⟩))
        go_round
        case rel => exact ⟨k + 1, by omega, by go_num, HN2⟩
        case measure => simp [intOf]; omega
    · have HL := Aside0.mk (lastAt_none (l := l0) (fun i hi => HN.out i (by omega)))
      go_wp2_with fail
      go_ret3
      unfold CutGives
      rw [HL.out]
      exact ⟨rfl, Drawn0.refl _⟩
end Go.Proofs.YtonhinepgkommaaH
