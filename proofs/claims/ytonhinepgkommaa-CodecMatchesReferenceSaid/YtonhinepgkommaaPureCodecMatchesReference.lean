/- The pure statement of CodecMatchesReference. -/
import Derived.Test.YtonhinepgkommaaMRef2
set_option linter.unusedVariables false
set_option linter.unusedSimpArgs false
namespace Go.Proofs.Ytonhinepgkommaa.Pure
open Go Go.RowKit Go.Proofs.YtonhinepgkommaaH Go.Proofs.Ytonhinepgkommaa.Q Go.Proofs.YtonhinepgkommaaM
theorem CodecMatchesReference : seamarklaw08_CodecMatchesReference.Pure := by
  intro l0 l1 a2 a3 hm0 _ hw0 hm1 _ hw1 hw2 hw3
  have hI := I64.of hw0
  have hU := U8.of hw1
  refine ⟨4000000, ?_⟩
  rw [seamarklaw08_CodecMatchesReference.f, seamarklaw08_head.f, Option.bind_some]
  by_cases h1 : (l1.length : Int) > 100000
  · rw [if_pos h1, seamarklaw08_CodecMatchesReference.j0, if_pos rfl]
  rw [if_neg h1]
  by_cases h0 : (l0.length : Int) > 100000
  · rw [decide_eq_true h0, seamarklaw08_CodecMatchesReference.j0, if_pos rfl]
  have e0 := enc_len hI
  rw [decide_eq_false h0, seamarklaw08_CodecMatchesReference.j0, if_neg Bool.false_ne_true, if_pos rfl, put_f hI (by omega) (by omega), Option.bind_some, ref_put hI (by omega) (by omega), Option.bind_some,
    bytes_same (enc l0) (by omega) _ (by omega), Option.bind_some, if_pos rfl, sum_f, Option.bind_some, ref_sum hU (by omega) (by omega), Option.bind_some, if_pos rfl, digest_f (by omega) (by omega), Option.bind_some,
    ref_digest (by omega) (by omega), Option.bind_some, if_pos rfl, join_f (by omega), Option.bind_some, ref_join (by omega), Option.bind_some, beq_self_eq_true, seamarklaw08_CodecMatchesReference.j1,
    ref_get hU (by omega) (by omega)]
  have hj2 : seamarklaw08_CodecMatchesReference.j2 3999998 l1 true = some true := by
    rw [seamarklaw08_CodecMatchesReference.j2, ref_frame hU (by omega) (by omega), ref_open hU (by omega) (by omega)]
    obtain ⟨r, hr, hl⟩ : ∃ r, codec_Frame.f l1 = some r ∧ r.1.length ≤ 200000 := by
      by_cases h : l1.length ≤ 65535
      · exact ⟨_, frame_f h, by show (frameOf l1).length ≤ _; rw [frameOf_len]; omega⟩
      · exact ⟨_, frame_big h, by simp⟩
    obtain ⟨o, ho, hol⟩ : ∃ o, codec_Open.f l1 = some o ∧ o.1.length ≤ 200000 := by
      unfold codec_Open.f
      rw [if_pos (bytesOk_of hU)]
      split
      · exact ⟨_, rfl, by simp⟩
      split
      · exact ⟨_, rfl, by simp⟩
      split
      · exact ⟨_, rfl, by simp only [List.length_drop, List.length_take]; omega⟩
      · exact ⟨_, rfl, by simp⟩
    rw [hr, Option.bind_some, Option.bind_some, if_pos rfl, bytes_same r.1 (by omega) _ (by omega), Option.bind_some, if_pos rfl, ho, Option.bind_some, Option.bind_some, if_pos rfl, bytes_same o.1 (by omega) _ (by omega),
      Option.bind_some, if_pos rfl, if_pos rfl, beq_self_eq_true]
  rcases get_f_back hU (by omega) with ⟨m, hg, he, hi, hl⟩ | hg | hg
  · rw [hg, Option.bind_some, Option.bind_some, if_pos rfl, ints_same m (by omega) _ (by omega), Option.bind_some, if_pos rfl, beq_self_eq_true]
    exact hj2
  · rw [hg, Option.bind_some, Option.bind_some, if_pos rfl, ints_same [] (by simp) _ (by simp), Option.bind_some, if_pos rfl, beq_self_eq_true]
    exact hj2
  · rw [hg, Option.bind_some, Option.bind_some, if_pos rfl, ints_same [] (by simp) _ (by simp), Option.bind_some, if_pos rfl, beq_self_eq_true]
    exact hj2
end Go.Proofs.Ytonhinepgkommaa.Pure
