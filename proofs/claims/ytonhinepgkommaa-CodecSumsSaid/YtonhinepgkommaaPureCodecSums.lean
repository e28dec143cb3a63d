/- The pure statement of CodecSums. -/
import Derived.Test.YtonhinepgkommaaMCrc
import Derived.Test.YtonhinepgkommaaQ2
set_option linter.unusedVariables false
set_option linter.unusedSimpArgs false
namespace Go.Proofs.Ytonhinepgkommaa.Pure
open Go Go.RowKit Go.Proofs.YtonhinepgkommaaH Go.Proofs.Ytonhinepgkommaa.Q Go.Proofs.YtonhinepgkommaaM
theorem sum_f (l : List Int) : codec_Sum.f l = some (crcSum l) := rfl
theorem CodecSums : seamarklaw08_CodecSums.Pure := by
  intro l0 hm0 _ hw0
  have hU := U8.of hw0
  have hr := crcSum_range hU
  rw [seamarklaw08_CodecSums.f, seamarklaw08_head.f, Option.bind_some]
  by_cases h0 : (l0.length : Int) > 100000
  · rw [if_pos h0]
  rw [if_neg h0, sum_f, Option.bind_some]
  simp only [if_true, Option.bind_some, List.nil_append, List.length_nil, Nat.zero_add]
  rw [if_pos (by omega)]
  have e : [crcSum l0 % 256, crcSum l0 / 256 % 256, crcSum l0 / 65536 % 256, crcSum l0 / 16777216 % 256] = fourOf (crcSum l0) := rfl
  rw [e, if_pos (by show l0.length + 4 < _; omega), sum_f, Option.bind_some]
  have hf := fourOf_U8 hr.1
  rw [crcSum_nat (hU.append hf), ((closes l0 _ hU hf rfl).1 rfl), residue]
  rfl
end Go.Proofs.Ytonhinepgkommaa.Pure
