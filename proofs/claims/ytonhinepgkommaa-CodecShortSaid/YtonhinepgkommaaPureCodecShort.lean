/- The pure statement of CodecShort. -/
import Derived.Test.YtonhinepgkommaaMPut
import Derived.Test.YtonhinepgkommaaS1
set_option linter.unusedVariables false
set_option linter.unusedSimpArgs false
namespace Go.Proofs.Ytonhinepgkommaa.Pure
open Go Go.RowKit Go.Proofs.YtonhinepgkommaaH Go.Proofs.Ytonhinepgkommaa.Q Go.Proofs.Ytonhinepgkommaa.S Go.Proofs.YtonhinepgkommaaM
theorem digs_mono : ∀ (n m : Nat), n ≤ m → (digs n).length ≤ (digs m).length := by
  intro n
  induction n using Nat.strongRecOn with
  | ind n ih =>
    intro m h
    by_cases hn : 127 < n
    · rw [digs_big hn, digs_big (n := m) (by omega), List.length_cons, List.length_cons]
      have := ih (n / 128) (by omega) (m / 128) (by omega)
      omega
    · rw [digs_small (n := n) (by omega)]; exact digs_pos m
theorem digs_one (n : Nat) : (digs n).length = 1 ↔ n ≤ 127 := by
  by_cases hn : 127 < n
  · rw [digs_big hn, List.length_cons]; have := digs_pos (n / 128); omega
  · rw [digs_small (n := n) (by omega)]; simp; omega
theorem tail (k : Nat) (x y : Int) (a b : Nat) (h : (0 ≤ x ∧ x ≤ y ∨ x < 0 ∧ y ≤ x) → a ≤ b) : seamarklaw08_CodecShort.j0 (k + 2) x y true a b = some true := by
  rw [seamarklaw08_CodecShort.j0]
  by_cases h0 : x ≥ 0
  · rw [if_pos h0]
    by_cases h1 : y ≥ x
    · rw [if_pos h1, seamarklaw08_CodecShort.j1, if_pos rfl, if_pos rfl, decide_eq_true]
      have := h (.inl ⟨h0, h1⟩)
      omega
    · rw [if_neg h1, if_neg (by omega), seamarklaw08_CodecShort.j1, if_neg (by decide)]
  · rw [if_neg h0, if_pos (by omega)]
    by_cases h1 : y ≤ x
    · rw [decide_eq_true h1, seamarklaw08_CodecShort.j1, if_pos rfl, if_pos rfl, decide_eq_true]
      have := h (.inr ⟨by omega, h1⟩)
      omega
    · rw [decide_eq_false h1, seamarklaw08_CodecShort.j1, if_neg (by decide)]
theorem CodecShort : seamarklaw08_CodecShort.Pure := by
  intro a0 a1 hw0 hw1
  have b0 := i64_bounds hw0
  have b1 := i64_bounds hw1
  have hI0 : I64 [a0] := by intro x hx; rw [List.mem_singleton.1 hx]; exact b0
  have hI1 : I64 [a1] := by intro x hx; rw [List.mem_singleton.1 hx]; exact b1
  refine ⟨100 + 2, ?_⟩
  rw [seamarklaw08_CodecShort.f, seamarklaw08_head.f, Option.bind_some, put_f hI0 (by simp) (by simp), Option.bind_some, put_f hI1 (by simp) (by simp), Option.bind_some, if_pos rfl]
  have e0 : enc [a0] = digs (zig a0) := by rw [enc_cons, enc_nil, List.append_nil]
  have e1 : enc [a1] = digs (zig a1) := by rw [enc_cons, enc_nil, List.append_nil]
  rw [e0, e1]
  have hp := digs_pos (zig a0)
  have h10 := digs_le10 (zig_lt b0.1 b0.2)
  have h1 := digs_one (zig a0)
  have hm : (0 ≤ a0 ∧ a0 ≤ a1 ∨ a0 < 0 ∧ a1 ≤ a0) → (digs (zig a0)).length ≤ (digs (zig a1)).length := by
    intro h
    apply digs_mono
    unfold zig
    rcases h with h | h
    · rw [if_pos (by omega), if_pos (by omega)]; omega
    · rw [if_neg (by omega), if_neg (by omega)]; omega
  have hz : zig a0 ≤ 127 ↔ -64 ≤ a0 ∧ a0 ≤ 63 := by unfold zig; split <;> omega
  have ht := tail 100 a0 a1 _ _ hm
  by_cases g : a0 ≥ -64
  · rw [if_pos g, if_pos, if_pos (by omega), decide_eq_true (by omega)]
    · exact ht
    · rw [beq_iff_eq, Bool.eq_iff_iff, beq_iff_eq, decide_eq_true_iff]
      omega
  · rw [if_neg g, if_pos, if_pos (by omega), decide_eq_true (by omega)]
    · exact ht
    · rw [beq_iff_eq, beq_eq_false_iff_ne]
      omega
end Go.Proofs.Ytonhinepgkommaa.Pure
