/- Plain mathematics of frames: a frame is opened, a frame that is cut is too short. -/
import Derived.Test.YtonhinepgkommaaMCrc
import Derived.Test.YtonhinepgkommaaQ2
set_option linter.unusedVariables false
set_option linter.unusedSimpArgs false
namespace Go.Proofs.YtonhinepgkommaaM
open Go Go.RowKit Go.Proofs.YtonhinepgkommaaH Go.Proofs.Ytonhinepgkommaa.Q Go.Proofs.YtonhinepgkommaaW.PrintWords

theorem sum_f (l : List Int) : codec_Sum.f l = some (crcSum l) := rfl
def headOf (l : List Int) : List Int := (l.length : Int) / 256 % 256 :: (l.length : Int) % 256 :: l
def frameOf (l : List Int) : List Int := headOf l ++ fourOf (crcSum (headOf l))
theorem headOf_len (l : List Int) : (headOf l).length = l.length + 2 := rfl
theorem frameOf_len (l : List Int) : (frameOf l).length = l.length + 6 := by
  unfold frameOf; rw [List.length_append, headOf_len]; rfl
theorem headOf_U8 {l : List Int} (h : U8 l) : U8 (headOf l) := by
  intro x hx
  unfold headOf at hx
  rcases List.mem_cons.1 hx with rfl | hx
  · omega
  rcases List.mem_cons.1 hx with rfl | hx
  · omega
  exact h x hx
theorem frameOf_U8 {l : List Int} (h : U8 l) : U8 (frameOf l) := (headOf_U8 h).append (fourOf_U8 (crcSum_range (headOf_U8 h)).1)
theorem bytesOk_of {l : List Int} (h : U8 l) : bytesOk l = true := by
  unfold bytesOk
  rw [List.all_eq_true]
  intro x hx
  exact decide_eq_true (h x hx)
theorem frame_f {l : List Int} (hl : l.length ≤ 65535) : codec_Frame.f l = some (frameOf l, 0) := by
  unfold codec_Frame.f
  rw [if_neg (by omega)]
  simp only [Option.bind_some, sum_f]
  rw [if_pos (by simp; omega), if_pos (by simp; omega)]
  rfl
theorem frame_big {l : List Int} (hl : ¬ l.length ≤ 65535) : codec_Frame.f l = some ([], 2) := by
  unfold codec_Frame.f
  rw [if_pos (by omega)]
theorem rd_zero (x : Int) (l : List Int) : rd (x :: l) 0 = x := by simp [rd]
theorem rd_one (x y : Int) (l : List Int) : rd (x :: y :: l) 1 = y := by simp [rd]
theorem frameLen_of {l r : List Int} (hl : l.length ≤ 65535) : frameLen (headOf l ++ r) = l.length := by
  unfold frameLen headOf
  rw [List.cons_append, List.cons_append, rd_zero, rd_one]
  omega
theorem open_frame {l r : List Int} (hU : U8 l) (hr : U8 r) (hl : l.length ≤ 65535) : codec_Open.f (frameOf l ++ r) = some (l, (l.length : Int) + 6, 0) := by
  have e : frameOf l ++ r = headOf l ++ (fourOf (crcSum (headOf l)) ++ r) := by unfold frameOf; rw [List.append_assoc]
  have hlen : (frameOf l ++ r).length = l.length + 6 + r.length := by rw [List.length_append, frameOf_len]
  unfold codec_Open.f
  rw [if_pos (bytesOk_of ((frameOf_U8 hU).append hr)), if_neg (by omega)]
  rw [hlen, e, frameLen_of hl, if_neg (by omega), List.take_left' (headOf_len l), List.drop_left' (headOf_len l), List.take_left' (show (fourOf (crcSum (headOf l))).length = 4 from rfl), if_pos rfl]
  rfl
theorem open_cut {l : List Int} (hU : U8 l) (hl : l.length ≤ 65535) (m : Nat) (hm : m < l.length + 6) : codec_Open.f ((frameOf l).take m) = some ([], 0, 8) := by
  have hlen : ((frameOf l).take m).length = m := by rw [List.length_take, frameOf_len]; omega
  unfold codec_Open.f
  rw [if_pos (bytesOk_of ((frameOf_U8 hU).take m)), hlen]
  by_cases h2 : m < 2
  · rw [if_pos h2]
  rw [if_neg h2]
  have : frameLen ((frameOf l).take m) = l.length := by
    obtain ⟨m', rfl⟩ : ∃ m', m = m' + 2 := ⟨m - 2, by omega⟩
    unfold frameLen frameOf headOf
    rw [List.cons_append, List.cons_append, List.take_succ_cons, List.take_succ_cons, rd_zero, rd_one]
    omega
  rw [this, if_pos hm]
end Go.Proofs.YtonhinepgkommaaM
