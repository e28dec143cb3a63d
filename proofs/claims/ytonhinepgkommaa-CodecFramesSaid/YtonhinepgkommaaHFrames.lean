/- The walk of the law CodecFrames: it returns true. -/
import Derived.Test.YtonhinepgkommaaHHead
import Derived.Test.YtonhinepgkommaaMFrame
import Derived.Test.YtonhinepgkommaaPureBack
set_option linter.unusedVariables false
set_option linter.unusedSimpArgs false
namespace Go.Proofs.YtonhinepgkommaaH
open Go Go.RowKit Go.Proofs.YtonhinepgkommaaW.PrintWords Go.Proofs.YtonhinepgkommaaW.PrintLast Go.Proofs.YtonhinepgkommaaW.PrintMore Go.Proofs.Ytonhinepgkommaa.Q Go.Proofs.YtonhinepgkommaaM

set_option maxHeartbeats 4000000 in
set_option maxRecDepth 100000 in
theorem seamarklaw08_CodecFrames.main (A0 : Option Addr) (c0 : Nat) (l0 : List Int) (A1 : Option Addr) (c1 : Nat) (l1 : List Int) (A2 : Option Addr) (c2 : Nat) (l2 : List Int) (a3 : Int) (w : World)
    (hr0 : Kd.C (Kd.int .u8) w A0 l0.length l0) (hc0 : l0.length ≤ c0) (hr1 : Kd.C (Kd.int .u8) w A1 l1.length l1) (hc1 : l1.length ≤ c1) (hr2 : Kd.C (Kd.int .u8) w A2 l2.length l2) (hc2 : l2.length ≤ c2)
    (h0 : 0 ≤ a3) (h3 : a3 ≤ 65535) (hU0 : U8 l0) (hU1 : U8 l1) (hU2 : U8 l2) (g0 : l0.length ≤ 65535) (g1 : l1.length ≤ 65535) (g2 : l2.length ≤ 100000) :
    Calls Try.prog 7 #[.slice A0 l0.length c0, .slice A1 l1.length c1, .slice A2 l2.length c2, .int .u16 a3] w fun e w' => e = .returned (.bool true) ∧ Below w.heap.size w w' := by
  have HR0 := Aside0.mk hr0
  have HC0 := Aside0.mk hc0
  have HR1 := Aside0.mk hr1
  have HC1 := Aside0.mk hc1
  have HR2 := Aside0.mk hr2
  have HC2 := Aside0.mk hc2
  have HO1 : Aside0 (codec_Open.f (frameOf l0 ++ frameOf l1 ++ l2) = some (l0, (l0.length : Int) + 6, 0)) := ⟨by rw [List.append_assoc]; exact open_frame hU0 ((frameOf_U8 hU1).append hU2) g0⟩
  have HO2 : Aside0 (codec_Open.f (frameOf l1 ++ l2) = some (l1, (l1.length : Int) + 6, 0)) := ⟨open_frame hU1 hU2 g1⟩
  obtain ⟨m, hm⟩ : ∃ m : Nat, a3 % ((l0.length : Int) + 6) = (m : Int) := Int.eq_ofNat_of_zero_le (Int.emod_nonneg _ (by omega))
  have hm2 : m < l0.length + 6 := by have := Int.emod_lt_of_pos a3 (show 0 < (l0.length : Int) + 6 by omega); omega
  have HO3 : Aside0 (codec_Open.f ((frameOf l0).take m) = some ([], 0, 8)) := ⟨open_cut hU0 g0 m hm2⟩
  have HF0 := Aside0.mk (frame_f g0)
  have HF1 := Aside0.mk (frame_f g1)
  have fl0 := frameOf_len l0
  have fl1 := frameOf_len l1
  obtain ⟨F0, hF0⟩ : ∃ F, F = frameOf l0 := ⟨_, rfl⟩
  obtain ⟨F1, hF1⟩ : ∃ F, F = frameOf l1 := ⟨_, rfl⟩
  rw [← hF0] at HO1 HO3 HF0 fl0
  rw [← hF1] at HO1 HO2 HF1 fl1
  have FL0 := Aside0.mk fl0
  have FL1 := Aside0.mk fl1
  have hk0 : (l0.length : Int) ≤ 65535 := by omega
  have hk1 : (l1.length : Int) ≤ 65535 := by omega
  have hk2 : (l2.length : Int) ≤ 100000 := by omega
  have HM := Aside0.mk hm
  have HM2 := Aside0.mk hm2
  clear hr0 hc0 hr1 hc1 hr2 hc2 hU0 hU1 hU2 hF0 hF1 fl0 fl1 hm hm2
  have HB := Aside0.mk (Below.refl w.heap.size w)
  go_enter Try.func7, Try.ntmps7
  go_wp2_with (first | (go_at_call 11; (with_reducible refine (seamarklaw08_head.calls true _ rfl).mono ?_); rintro e w1 ⟨rfl, hb⟩; have n0_ := Aside0.mk (below_step HB.out hb); clear HB hb; have HB := n0_; clear n0_) | (go_at_call 17; (with_reducible refine (codec_Frame.calls _ _ l0 _ _ _ (Kd.C_below HR0.out HB.out) HC0.out HF0.out).mono ?_); clear HF0; rintro e w2 ⟨v0, rfl, ho, hb⟩; obtain ⟨AX, cX, rfl, hcX, hCX⟩ := Kd.R_reads ho; rw [FL0.out] at hcX hCX ⊢; have HCX := Aside0.mk hCX; have HcX := Aside0.mk hcX; clear ho hCX hcX; have n0_ := Aside0.mk (below_step HB.out hb); clear HB hb; have HB := n0_; clear n0_) | (go_at_call 17; (with_reducible refine (codec_Frame.calls _ _ l1 _ _ _ (Kd.C_below HR1.out HB.out) HC1.out HF1.out).mono ?_); clear HF1; rintro e w3 ⟨v0, rfl, ho, hb⟩; obtain ⟨AY, cY, rfl, hcY, hCY⟩ := Kd.R_reads ho; rw [FL1.out] at hcY hCY ⊢; have HCY := Aside0.mk hCY; have HcY := Aside0.mk hcY; clear ho hCY hcY; have n0_ := Aside0.mk (Kd.C_below HCX.out hb); have n1_ := Aside0.mk (below_step HB.out hb); clear HCX HB hb; have HCX := n0_; have HB := n1_; clear n0_ n1_) | ((with_reducible refine gate_builtin (b := .append) (xs := #[.tmp 67, .tmp 68]) rfl ?_); at_builtin; refine Kd.R_append_rows (Kd.int .u8) (w0 := w3) w3.heap.size rfl (.tmp 67) (.tmp 68) 23 5 (.int .u8 0) 1 rfl Try.underlying23 info_u8 rfl (by decide) (by omega) _ ([] : List Int) F0 _ _ _ (fun _ => True) (fun _ => False) rfl rfl (R_lit0 (Kd.int .u8) 5 w3) (Kd.C_below HCX.out ((Below.refl w3.heap.size w3).alloc (Nat.le_refl _) (.cells #[] 5))) (fun _ _ h => h) (fun _ h => h.elim) (fun _ _ => trivial) (((Below.refl w3.heap.size w3).alloc (Nat.le_refl _) (.cells #[] 5))) (((Below.refl w3.heap.size w3).alloc (Nat.le_refl _) (.cells #[] 5))).size ?aL ?_; (case aL => simp; omega); intro v4 w4 ho hb _ _; have Hv4 := Aside0.mk ho; have HBw4 := Aside0.mk hb; clear ho hb) | ((with_reducible refine gate_builtin (b := .append) (xs := #[.tmp 69, .tmp 70]) rfl ?_); at_builtin; refine Kd.R_append_rows (Kd.int .u8) (w0 := w3) w3.heap.size rfl (.tmp 69) (.tmp 70) 23 5 (.int .u8 0) 1 rfl Try.underlying23 info_u8 rfl (by decide) (by omega) _ ([] ++ F0) F1 _ _ _ (fun _ => True) (fun _ => False) rfl rfl (Hv4.out) (Kd.C_below HCY.out HBw4.out) (fun _ _ h => h) (fun _ h => h.elim) (fun _ _ => trivial) (HBw4.out) (HBw4.out).size ?aL ?_; (case aL => have := FL0.out; simp; omega); intro v5 w5 ho hb _ _; have Hv5 := Aside0.mk ho; have HBw5 := Aside0.mk hb; clear ho hb) | ((with_reducible refine gate_builtin (b := .append) (xs := #[.tmp 71, .tmp 72]) rfl ?_); at_builtin; refine Kd.R_append_rows (Kd.int .u8) (w0 := w3) w3.heap.size rfl (.tmp 71) (.tmp 72) 23 5 (.int .u8 0) 1 rfl Try.underlying23 info_u8 rfl (by decide) (by omega) _ ([] ++ F0 ++ F1) l2 _ _ _ (fun _ => True) (fun _ => False) rfl rfl (Hv5.out) (Kd.C_below HR2.out (below_then HB.out HB.out.size HBw5.out)) (fun _ _ h => h) (fun _ h => h.elim) (fun _ _ => trivial) (HBw5.out) (HBw5.out).size ?aL ?_; (case aL => have := FL0.out; have := FL1.out; simp; omega); intro v6 w6 ho hb _ _; have Hv6 := Aside0.mk ho; have HBw6 := Aside0.mk hb; clear ho hb))
  have ho := Hv6.out
  have hb := HBw6.out
  clear Hv6 HBw6
  rw [List.nil_append] at ho
  obtain ⟨A6, c6, rfl, hc6, hC6⟩ := Kd.R_reads ho
  have hN : (F0 ++ F1 ++ l2).length = l0.length + 6 + (l1.length + 6) + l2.length := by rw [List.length_append, List.length_append, FL0.out, FL1.out]
  obtain ⟨i0, hi0, _, hsz, _⟩ := info_parts info_u8
  obtain ⟨A7, hcut7, hC7, hc7⟩ := print_drop_of (P := Try.prog) (Value.int .u8) (0 : Int) 23 5 .i64 Try.underlying23 hi0 hsz A6 c6 (F0 ++ F1 ++ l2) ((l0.length : Int) + 6) (by omega) (by rw [hN]; omega) hc6
  have hcut8 := (print_take_of (P := Try.prog) (Value.int .u8) (0 : Int) 23 5 .i64 Try.underlying23 hi0 hsz AX cX F0 (a3 % ((l0.length : Int) + 6)) (by rw [HM.out]; omega) (by rw [HM.out, FL0.out]; have := HM2.out; omega) (by rw [FL0.out]; exact HcX.out)).1
  have hd7 : (F0 ++ F1 ++ l2).drop ((l0.length : Int) + 6).toNat = F1 ++ l2 := by rw [List.append_assoc]; exact List.drop_left' (by have := FL0.out; omega)
  have hn7 : (F1 ++ l2).length = l1.length + 6 + l2.length := by rw [List.length_append, FL1.out]
  have hn8 : (F0.take (a3 % ((l0.length : Int) + 6)).toNat).length = m := by rw [HM.out, List.length_take, FL0.out, Int.toNat_natCast]; have := HM2.out; omega
  have HC7 := Aside0.mk (hC7 w6 (Kd.reads_of_C (enc := Value.int .u8) (d := (0 : Int)) (h1 := fun _ => rfl) hC6))
  rw [hd7] at HC7 hcut7 hc7
  have HCc := Aside0.mk hc7
  rw [hn7, hN] at hcut7
  rw [hn8, FL0.out] at hcut8
  have hcall := codec_Open.calls A6 c6 (F0 ++ F1 ++ l2) l0 _ 0 w6 hC6 hc6 HO1.out
  rw [hN] at hcall ⊢
  have HCALL := Aside0.mk hcall
  have HN7 := Aside0.mk hn7
  have HCX6 := Aside0.mk (Kd.C_below HCX.out hb)
  have HB6 := Aside0.mk (below_then HB.out HB.out.size hb)
  clear ho hb hcall hc6 hC6 hN hC7 hc7 hd7 hn7 hn8 HBw4 HBw5 Hv4 Hv5 HB
  clear hi0 hsz
  (with_reducible refine HCALL.out.mono ?_)
  clear HCALL
  rintro e w8 ⟨v8, rfl, ho, hb⟩
  obtain ⟨A8, c8, rfl, hc8, hC8⟩ := Kd.R_reads ho
  have HC8 := Aside0.mk hC8
  have Hc8 := Aside0.mk hc8
  have HC7b := Aside0.mk (Kd.C_below (Kd.C_of_reads (d := (0 : Int)) (h1 := fun _ => rfl) HC7.out) hb)
  have HCX8 := Aside0.mk (Kd.C_below HCX6.out hb)
  have HB8 := Aside0.mk (below_then HB6.out HB6.out.size hb)
  clear HC7 HCX6 HB6 ho hb hc8 hC8
  have e6 : ((l0.length : Int) + 6).toNat = l0.length + 6 := by omega
  rw [e6] at HCc
  have hcall2 := codec_Open.calls A7 (c6 - (l0.length + 6)) (F1 ++ l2) l1 _ 0 w8 HC7b.out HCc.out HO2.out
  rw [HN7.out] at hcall2
  have HCALL2 := Aside0.mk hcall2
  clear hcall2 e6 HO2 HO1
  go_wp2_with (first | (go_at_call 18; (with_reducible refine HCALL2.out.mono ?_); clear HCALL2; rintro e w9 ⟨v9, rfl, ho, hb⟩; obtain ⟨A9, c9, rfl, hc9, hC9⟩ := Kd.R_reads ho; have HC9 := Aside0.mk hC9; have Hc9 := Aside0.mk hc9; have HC8b := Aside0.mk (Kd.C_below HC8.out hb); have HCX9 := Aside0.mk (Kd.C_below HCX8.out hb); have HB9 := Aside0.mk (below_then HB8.out HB8.out.size hb); clear HC7b HC8 HCX8 HB8 ho hb hc9 hC9) | (go_at_call 15; (with_reducible refine (seamarkref08_Bytes.calls 200001 A8 c8 l0 A0 c0 l0 true w9 HC8b.out Hc8.out (Kd.C_below HR0.out HB9.out) HC0.out (bytes_same l0 (by omega) _ (by omega))).mono ?_); rintro e w10 ⟨rfl, ⟨nd, rfl⟩⟩) | (go_at_call 15; (with_reducible refine (seamarkref08_Bytes.calls 200001 A9 c9 l1 A1 c1 l1 true (w9.drewN nd) (Kd.C_drewN HC9.out _) Hc9.out (Kd.C_drewN (Kd.C_below HR1.out HB9.out) _) HC1.out (bytes_same l1 (by omega) _ (by omega))).mono ?_); rintro e w11 ⟨rfl, ⟨nd2, rfl⟩⟩))
  have hl3 : (F0.take m).length = m := by rw [List.length_take, FL0.out]; have := HM2.out; omega
  have hcx9 : Kd.C (Kd.int .u8) (w9.drewN (nd + nd2)) AX F0.length F0 := by rw [FL0.out]; exact Kd.C_drewN HCX9.out _
  have hr3 := Kd.C_take (m := m) hcx9 (by rw [FL0.out]; have := HM2.out; omega)
  have hcall3 := codec_Open.calls AX cX (F0.take m) [] 0 8 (w9.drewN (nd + nd2)) hr3 (by rw [hl3]; have := HM2.out; have := HcX.out; omega) HO3.out
  rw [hl3] at hcall3
  have HCALL3 := Aside0.mk hcall3
  clear hcall3 hl3 hr3 hcx9
  (with_reducible refine HCALL3.out.mono ?_)
  clear HCALL3
  rintro e w12 ⟨v12, rfl, ho, hb⟩
  obtain ⟨Az, cz, rfl, _, _⟩ := Kd.R_reads ho
  have HB12 := Aside0.mk (below_then (pw_below_drewN HB9.out (nd + nd2)) (pw_below_drewN HB9.out (nd + nd2)).size hb)
  clear ho hb
  go_wp2_with fail
  go_ret
  exact ⟨rfl, HB12.out⟩
set_option maxHeartbeats 4000000 in
set_option maxRecDepth 100000 in
theorem seamarklaw08_CodecFrames.all (A0 : Option Addr) (c0 : Nat) (l0 : List Int) (A1 : Option Addr) (c1 : Nat) (l1 : List Int) (A2 : Option Addr) (c2 : Nat) (l2 : List Int) (a3 : Int) (w : World)
    (hr0 : Kd.C (Kd.int .u8) w A0 l0.length l0) (hc0 : l0.length ≤ c0) (hr1 : Kd.C (Kd.int .u8) w A1 l1.length l1) (hc1 : l1.length ≤ c1) (hr2 : Kd.C (Kd.int .u8) w A2 l2.length l2) (hc2 : l2.length ≤ c2)
    (h0 : 0 ≤ a3) (h3 : a3 ≤ 65535) (hU0 : U8 l0) (hU1 : U8 l1) (hU2 : U8 l2) :
    Calls Try.prog 7 #[.slice A0 l0.length c0, .slice A1 l1.length c1, .slice A2 l2.length c2, .int .u16 a3] w fun e w' => e = .returned (.bool true) ∧ Below w.heap.size w w' := by
  have HR0 := Aside0.mk hr0
  have HC0 := Aside0.mk hc0
  have HR1 := Aside0.mk hr1
  have HC1 := Aside0.mk hc1
  have HR2 := Aside0.mk hr2
  have HC2 := Aside0.mk hc2
  have HU0 := Aside0.mk hU0
  have HU1 := Aside0.mk hU1
  have HU2 := Aside0.mk hU2
  clear hr0 hc0 hr1 hc1 hr2 hc2 hU0 hU1 hU2
  have HB := Aside0.mk (Below.refl w.heap.size w)
  by_cases b0 : (100000 : Int) < (l0.length : Int)
  · go_enter Try.func7, Try.ntmps7
    go_wp2_with (first | (go_at_call 11; (with_reducible refine (seamarklaw08_head.calls true _ rfl).mono ?_); rintro e w1 ⟨rfl, hb⟩; have n0_ := Aside0.mk (below_step HB.out hb); clear HB hb; have HB := n0_; clear n0_))
    go_ret
    exact ⟨rfl, HB.out⟩
  by_cases b1 : (100000 : Int) < (l1.length : Int)
  · go_enter Try.func7, Try.ntmps7
    go_wp2_with (first | (go_at_call 11; (with_reducible refine (seamarklaw08_head.calls true _ rfl).mono ?_); rintro e w1 ⟨rfl, hb⟩; have n0_ := Aside0.mk (below_step HB.out hb); clear HB hb; have HB := n0_; clear n0_))
    go_ret
    exact ⟨rfl, HB.out⟩
  by_cases b2 : (100000 : Int) < (l2.length : Int)
  · go_enter Try.func7, Try.ntmps7
    go_wp2_with (first | (go_at_call 11; (with_reducible refine (seamarklaw08_head.calls true _ rfl).mono ?_); rintro e w1 ⟨rfl, hb⟩; have n0_ := Aside0.mk (below_step HB.out hb); clear HB hb; have HB := n0_; clear n0_))
    go_ret
    exact ⟨rfl, HB.out⟩
  by_cases g0 : ¬ l0.length ≤ 65535
  · have HF0 := Aside0.mk (frame_big g0)
    clear g0
    by_cases g1 : ¬ l1.length ≤ 65535
    · have HF1 := Aside0.mk (frame_big g1)
      clear g1
      go_enter Try.func7, Try.ntmps7
      go_wp2_with (first | (go_at_call 11; (with_reducible refine (seamarklaw08_head.calls true _ rfl).mono ?_); rintro e w1 ⟨rfl, hb⟩; have n0_ := Aside0.mk (below_step HB.out hb); clear HB hb; have HB := n0_; clear n0_) | (go_at_call 17; (with_reducible refine (codec_Frame.calls _ _ l0 _ _ _ (Kd.C_below HR0.out HB.out) HC0.out HF0.out).mono ?_); clear HF0; rintro e _ ⟨_, rfl, _, hb⟩; have n0_ := Aside0.mk (below_step HB.out hb); clear HB hb; have HB := n0_; clear n0_) | (go_at_call 17; (with_reducible refine (codec_Frame.calls _ _ l1 _ _ _ (Kd.C_below HR1.out HB.out) HC1.out HF1.out).mono ?_); clear HF1; rintro e _ ⟨_, rfl, _, hb⟩; have n0_ := Aside0.mk (below_step HB.out hb); clear HB hb; have HB := n0_; clear n0_))
      go_ret
      exact ⟨rfl, HB.out⟩
    · have HF1 := Aside0.mk (frame_f (Decidable.not_not.mp g1))
      clear g1
      go_enter Try.func7, Try.ntmps7
      go_wp2_with (first | (go_at_call 11; (with_reducible refine (seamarklaw08_head.calls true _ rfl).mono ?_); rintro e w1 ⟨rfl, hb⟩; have n0_ := Aside0.mk (below_step HB.out hb); clear HB hb; have HB := n0_; clear n0_) | (go_at_call 17; (with_reducible refine (codec_Frame.calls _ _ l0 _ _ _ (Kd.C_below HR0.out HB.out) HC0.out HF0.out).mono ?_); clear HF0; rintro e _ ⟨_, rfl, _, hb⟩; have n0_ := Aside0.mk (below_step HB.out hb); clear HB hb; have HB := n0_; clear n0_) | (go_at_call 17; (with_reducible refine (codec_Frame.calls _ _ l1 _ _ _ (Kd.C_below HR1.out HB.out) HC1.out HF1.out).mono ?_); clear HF1; rintro e _ ⟨_, rfl, _, hb⟩; have n0_ := Aside0.mk (below_step HB.out hb); clear HB hb; have HB := n0_; clear n0_))
      go_ret
      exact ⟨rfl, HB.out⟩
  replace g0 := Decidable.not_not.mp g0
  by_cases g1 : ¬ l1.length ≤ 65535
  · have HF0 := Aside0.mk (frame_f g0)
    have HF1 := Aside0.mk (frame_big g1)
    clear g0 g1
    go_enter Try.func7, Try.ntmps7
    go_wp2_with (first | (go_at_call 11; (with_reducible refine (seamarklaw08_head.calls true _ rfl).mono ?_); rintro e w1 ⟨rfl, hb⟩; have n0_ := Aside0.mk (below_step HB.out hb); clear HB hb; have HB := n0_; clear n0_) | (go_at_call 17; (with_reducible refine (codec_Frame.calls _ _ l0 _ _ _ (Kd.C_below HR0.out HB.out) HC0.out HF0.out).mono ?_); clear HF0; rintro e _ ⟨_, rfl, _, hb⟩; have n0_ := Aside0.mk (below_step HB.out hb); clear HB hb; have HB := n0_; clear n0_) | (go_at_call 17; (with_reducible refine (codec_Frame.calls _ _ l1 _ _ _ (Kd.C_below HR1.out HB.out) HC1.out HF1.out).mono ?_); clear HF1; rintro e _ ⟨_, rfl, _, hb⟩; have n0_ := Aside0.mk (below_step HB.out hb); clear HB hb; have HB := n0_; clear n0_))
    go_ret
    exact ⟨rfl, HB.out⟩
  replace g1 := Decidable.not_not.mp g1
  exact seamarklaw08_CodecFrames.main A0 c0 l0 A1 c1 l1 A2 c2 l2 a3 w HR0.out HC0.out HR1.out HC1.out HR2.out HC2.out h0 h3 HU0.out HU1.out HU2.out g0 g1 (by omega)
end Go.Proofs.YtonhinepgkommaaH
