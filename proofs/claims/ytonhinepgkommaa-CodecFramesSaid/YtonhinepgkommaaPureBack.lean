/- The pure statements of CodecBack and CodecJoined. -/
import Derived.Test.YtonhinepgkommaaMGet
import Derived.Test.YtonhinepgkommaaQ2
set_option linter.unusedVariables false
set_option linter.unusedSimpArgs false
namespace Go.Proofs.YtonhinepgkommaaM
open Go Go.RowKit Go.Proofs.YtonhinepgkommaaH Go.Proofs.Ytonhinepgkommaa.Q Go.Proofs.YtonhinepgkommaaW.PrintWords

theorem bytes_same_l0 (x : List Int) (hx : x.length < 9223372036854775807) : ∀ (j i k : Nat), i + j = x.length → j + 1 ≤ k → seamarkref08_Bytes.l0 k x x (i : Int) = some true
  | _, _, 0, _, h => by omega
  | 0, i, k + 1, h, _ => by rw [seamarkref08_Bytes.l0, if_neg (by omega)]
  | j + 1, i, k + 1, h, hk => by
    rw [seamarkref08_Bytes.l0, if_pos (by omega), if_pos (by omega), if_pos (by omega), if_pos rfl]
    have e : wrap64 ((i : Int) + 1) = ((i + 1 : Nat) : Int) := by unfold wrap64; omega
    rw [e]
    exact bytes_same_l0 x hx j (i + 1) k (by omega) (by omega)
theorem bytes_same (x : List Int) (hx : x.length < 9223372036854775807) (k : Nat) (hk : x.length + 1 ≤ k) : seamarkref08_Bytes.f k x x = some true := by
  rw [seamarkref08_Bytes.f, if_pos rfl]
  exact bytes_same_l0 x hx x.length 0 k (by omega) hk
theorem ints_same_l0 (x : List Int) (hx : x.length < 9223372036854775807) : ∀ (j i k : Nat), i + j = x.length → j + 1 ≤ k → seamarkref08_Ints.l0 k x x (i : Int) = some true
  | _, _, 0, _, h => by omega
  | 0, i, k + 1, h, _ => by rw [seamarkref08_Ints.l0, if_neg (by omega)]
  | j + 1, i, k + 1, h, hk => by
    rw [seamarkref08_Ints.l0, if_pos (by omega), if_pos (by omega), if_pos (by omega), if_pos rfl]
    have e : wrap64 ((i : Int) + 1) = ((i + 1 : Nat) : Int) := by unfold wrap64; omega
    rw [e]
    exact ints_same_l0 x hx j (i + 1) k (by omega) (by omega)
theorem ints_same (x : List Int) (hx : x.length < 9223372036854775807) (k : Nat) (hk : x.length + 1 ≤ k) : seamarkref08_Ints.f k x x = some true := by
  rw [seamarkref08_Ints.f, if_pos rfl]
  exact ints_same_l0 x hx x.length 0 k (by omega) hk

theorem CodecBack : seamarklaw08_CodecBack.Pure := by
  intro l0 l1 hm0 _ hw0 hm1 _ hw1
  have hI := I64.of hw0
  have hU := U8.of hw1
  refine ⟨2000000 + 2, ?_⟩
  rw [seamarklaw08_CodecBack.f, seamarklaw08_head.f, Option.bind_some]
  by_cases h0 : (l0.length : Int) > 100000
  · rw [if_pos h0, seamarklaw08_CodecBack.j0, if_pos rfl]
  rw [if_neg h0]
  by_cases h1 : (l1.length : Int) > 100000
  · rw [decide_eq_true h1, seamarklaw08_CodecBack.j0, if_pos rfl]
  rw [decide_eq_false h1, seamarklaw08_CodecBack.j0, if_neg (by decide), put_f hI (by omega) (by omega), Option.bind_some, get_f hI (by omega), Option.bind_some]
  simp only [if_true]
  rw [ints_same l0 (by omega) _ (by omega), Option.bind_some, seamarklaw08_CodecBack.j1]
  rcases get_f_back hU (by omega) with ⟨m, hg, he, hi, hl⟩ | hg | hg
  · rw [hg, Option.bind_some]
    simp only [if_true]
    rw [put_f hi (by omega) (by omega), Option.bind_some, he, bytes_same l1 (by omega) _ (by omega), Option.bind_some]
  · rw [hg, Option.bind_some]; rfl
  · rw [hg, Option.bind_some]; rfl

theorem CodecJoined : seamarklaw08_CodecJoined.Pure := by
  intro l0 l1 hm0 _ hw0 hm1 _ hw1
  have hI := I64.of hw0
  have hJ := I64.of hw1
  have hIJ : I64 (l0 ++ l1) := fun x hx => by
    rcases List.mem_append.1 hx with h | h
    · exact hI x h
    · exact hJ x h
  have e0 := enc_len hI
  have e1 := enc_len hJ
  refine ⟨4000000 + 2, ?_⟩
  rw [seamarklaw08_CodecJoined.f, seamarklaw08_head.f, Option.bind_some]
  by_cases h0 : (l0.length : Int) > 100000
  · rw [if_pos h0, seamarklaw08_CodecJoined.j0, if_pos rfl]
  rw [if_neg h0]
  by_cases h1 : (l1.length : Int) > 100000
  · rw [decide_eq_true h1, seamarklaw08_CodecJoined.j0, if_pos rfl]
  rw [decide_eq_false h1, seamarklaw08_CodecJoined.j0, if_neg (by decide)]
  simp only [Option.bind_some, List.nil_append, List.length_nil, Nat.zero_add, if_true]
  rw [if_pos (by omega), if_pos (by omega), put_f hIJ (by rw [List.length_append]; omega) (by rw [List.length_append]; omega), Option.bind_some, put_f hI (by omega) (by omega), Option.bind_some,
    if_pos (by omega), put_f hJ (by omega) (by omega), Option.bind_some, if_pos (by omega), enc_append,
    bytes_same (enc l0 ++ enc l1) (by rw [List.length_append]; omega) _ (by rw [List.length_append]; omega), Option.bind_some]
end Go.Proofs.YtonhinepgkommaaM
