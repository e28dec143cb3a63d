/- The walk of the law CodecDamage: what it returns, for bytes, a place and four bytes of change. -/
import Derived.Test.YtonhinepgkommaaHHead
import Derived.Test.YtonhinepgkommaaMFrame
set_option linter.unusedVariables false
set_option linter.unusedSimpArgs false
namespace Go.Proofs.YtonhinepgkommaaH
open Go Go.RowKit Go.Proofs.YtonhinepgkommaaW.PrintWords Go.Proofs.YtonhinepgkommaaW.PrintLast Go.Proofs.YtonhinepgkommaaW.PrintMore Go.Proofs.Ytonhinepgkommaa.Q Go.Proofs.YtonhinepgkommaaM

/-- The bytes behind k rounds. -/
def dmg (x : List Int) (f : Nat) (b : List Int) : Nat → List Int
  | 0 => x
  | k + 1 => (dmg x f b k).set (f + k) (Go.bits .xor .u8 (rd (dmg x f b k) ((f + k : Nat) : Int)) (rd b (k : Int)))
theorem dmg_len (x : List Int) (f : Nat) (b : List Int) (k : Nat) : (dmg x f b k).length = x.length := by
  induction k with
  | zero => rfl
  | succ k ih => rw [dmg, List.length_set, ih]
def chg (b : List Int) : Nat → Bool
  | 0 => false
  | k + 1 => chg b k || (rd b (k : Int) != 0)
def rounds (n f : Nat) : Nat := min 4 (n - f)
theorem iadd (a b : Nat) (h : a + b ≤ 4611686018427387904) : IntKind.i64.wrap ((a : Int) + (b : Int)) = (a : Int) + (b : Int) := IntWalk.i64_in _ (by omega)
theorem wone' (a : Nat) (h : a ≤ 4611686018427387904) : wrap64 ((a : Int) + 1) = ((a + 1 : Nat) : Int) := by unfold wrap64; omega
theorem wadd' (a b : Nat) (h : a + b ≤ 4611686018427387904) : wrap64 ((a : Int) + (b : Int)) = (a : Int) + (b : Int) := IntWalk.wrap64_in _ (by omega)
set_option maxHeartbeats 4000000 in
set_option maxRecDepth 100000 in
theorem seamarklaw08_CodecDamage.walk (A0 : Option Addr) (c0 : Nat) (l0 : List Int) (a1 b0 b1 b2 b3 : Int) (w : World) (hr0 : Kd.C (Kd.int .u8) w A0 l0.length l0) (hc0 : l0.length ≤ c0) (h1 : 0 ≤ a1) (h2 : a1 ≤ 65535)
    (hU : U8 l0)
    (P : ∀ f : Nat, l0.length ≤ 65535 → f = 2 + a1.toNat % (l0.length + 4) → ∃ o, codec_Open.f (dmg (frameOf l0) f [b0, b1, b2, b3] (rounds (l0.length + 6) f)) = some o ∧ (o.2.2 == 9) = chg [b0, b1, b2, b3] (rounds (l0.length + 6) f) ∧ (o.2.2 == 0) = !chg [b0, b1, b2, b3] (rounds (l0.length + 6) f)) :
    Calls Try.prog 8 #[.slice A0 l0.length c0, .int .u16 a1, .agg #[.int .u8 b0, .int .u8 b1, .int .u8 b2, .int .u8 b3]] w fun e w' => e = .returned (.bool true) ∧ Below w.heap.size w w' := by
  have HR0 := Aside0.mk hr0
  have HC0 := Aside0.mk hc0
  have HU := Aside0.mk hU
  have HP := Aside0.mk P
  clear hr0 hc0 hU P
  by_cases hl : (l0.length : Int) > 100000
  · go_enter Try.func8, Try.ntmps8
    have HB := Aside0.mk (below_alloc (Below.refl w.heap.size w) (.cells #[.int .u8 b0, .int .u8 b1, .int .u8 b2, .int .u8 b3] 43))
    go_wp2_with (first | (go_at_call 11; (with_reducible refine (seamarklaw08_head.calls true _ rfl).mono ?_); rintro e w1 ⟨rfl, hb⟩; have n0_ := Aside0.mk (below_step HB.out hb); clear HB hb; have HB := n0_; clear n0_))
    go_ret
    exact ⟨rfl, HB.out⟩
  · by_cases hb : ¬ l0.length ≤ 65535
    · have HF := Aside0.mk (frame_big hb)
      go_enter Try.func8, Try.ntmps8
      have HB := Aside0.mk (below_alloc (Below.refl w.heap.size w) (.cells #[.int .u8 b0, .int .u8 b1, .int .u8 b2, .int .u8 b3] 43))
      go_wp2_with (first | (go_at_call 11; (with_reducible refine (seamarklaw08_head.calls true _ rfl).mono ?_); rintro e w1 ⟨rfl, hb⟩; have n0_ := Aside0.mk (below_step HB.out hb); clear HB hb; have HB := n0_; clear n0_) | (go_at_call 17; (with_reducible refine (codec_Frame.calls _ _ l0 _ _ _ (Kd.C_below HR0.out HB.out) HC0.out HF.out).mono ?_); rintro e w2 ⟨v0, rfl, ho, hb⟩; have n0_ := Aside0.mk (below_step HB.out hb); clear HB hb; have HB := n0_; clear n0_))
      go_ret
      exact ⟨rfl, HB.out⟩
    · have hb' := Decidable.not_not.mp hb
      clear hb
      have HF := Aside0.mk (frame_f hb')
      go_enter Try.func8, Try.ntmps8
      obtain ⟨wA, hwA⟩ : ∃ wA, w.alloc (.cells #[.int .u8 b0, .int .u8 b1, .int .u8 b2, .int .u8 b3] 43) = wA := ⟨_, rfl⟩
      have HB0 := Aside0.mk (hwA ▸ below_alloc (Below.refl w.heap.size w) (.cells #[.int .u8 b0, .int .u8 b1, .int .u8 b2, .int .u8 b3] 43))
      have HRA := Aside0.mk (Kd.C_below HR0.out HB0.out)
      have hsA : Aside0 (wA.heap.size = w.heap.size + 1) := ⟨by rw [← hwA]; simp⟩
      have hbox : Aside0 (∀ j : Nat, j < 4 → wA.cell? ⟨w.heap.size, j, none⟩ = some (.int .u8 (rd [b0, b1, b2, b3] (j : Int)))) := ⟨by
        have := C_row (k := .u8) (e := 43) (W := w) [b0, b1, b2, b3] (0, 0) (by simp)
        intro j hj
        obtain ⟨ad, e, hc⟩ := Kd.at_int this (j : Int) (by omega) (by simp; omega)
        cases e
        have hadd : (⟨w.heap.size, 0, none⟩ : Addr).add j = ⟨w.heap.size, j, none⟩ := by unfold Addr.add; split <;> simp_all
        rw [Int.toNat_natCast, hadd] at hc
        rw [← hwA]
        exact hc⟩
      clear HR0
      have HB := Aside0.mk (Below.refl wA.heap.size wA)
      have hmax : l0.length + 6 ≤ 65541 := by omega
      go_wp2_with (first | (go_at_call 11; (with_reducible refine (seamarklaw08_head.calls true _ rfl).mono ?_); rintro e w1 ⟨rfl, hb⟩; have n0_ := Aside0.mk (below_step HB.out hb); clear HB hb; have HB := n0_; clear n0_) | (go_at_call 17; (with_reducible refine (codec_Frame.calls _ _ l0 _ _ _ (Kd.C_below HRA.out HB.out) HC0.out HF.out).mono ?_); rintro e w2 ⟨v0, rfl, ho, hb⟩; obtain ⟨AX, cX, rfl, hcX, hCX⟩ := Kd.R_reads ho; rw [frameOf_len] at hcX hCX ⊢; have HCX := Aside0.mk hCX; have HcX := Aside0.mk hcX; clear ho hCX hcX; have n0_ := Aside0.mk (below_step HB.out hb); clear HB hb; have HB := n0_; clear n0_) | ((with_reducible refine gate_builtin (b := .append) (xs := #[.tmp 39, .tmp 40]) rfl ?_); at_builtin; have HB2 := Aside0.mk (Below.alloc HB.out HB.out.size (.cells #[] 5)); refine Kd.R_append_rows (Kd.int .u8) (w0 := wA) wA.heap.size rfl (.tmp 39) (.tmp 40) 23 5 (.int .u8 0) 1 rfl Try.underlying23 info_u8 rfl (by decide) (by omega) _ ([] : List Int) (frameOf l0) _ _ _ (fun _ => True) (fun _ => False) rfl rfl (Kd.R_lower (R_lit0 (Kd.int .u8) 5 w2) HB.out.size) (Kd.C_below HCX.out ((Below.refl _ _).alloc (Nat.le_refl _) _)) (fun _ _ h => h) (fun _ h => h.elim) (fun _ _ => trivial) HB2.out HB2.out.size ?aL ?_; (case aL => simp; omega); intro v3 w3 ho hb _ _; rw [List.nil_append] at ho; have HO := Aside0.mk ho; clear ho HB HB2; have HB := Aside0.mk hb; clear hb))
      obtain ⟨n, hn⟩ : ∃ n, n = l0.length + 6 := ⟨_, rfl⟩
      obtain ⟨f, hf⟩ : ∃ f : Nat, f = 2 + a1.toNat % (l0.length + 4) := ⟨_, rfl⟩
      have hP := HP.out f hb' hf
      rw [← hn] at hP
      have HP2 := Aside0.mk hP
      clear HP hP
      have hfn : f < n ∧ 2 ≤ f := by have := Nat.mod_lt a1.toNat (show 0 < l0.length + 4 by omega); omega
      have hwf : wrap64 (2 + a1 % (↑l0.length + 6 - 2)) = (f : Int) := by
        have e1 : (a1 % ((l0.length : Int) + 6 - 2)) = ((a1.toNat % (l0.length + 4) : Nat) : Int) := by
          have : (l0.length : Int) + 6 - 2 = ((l0.length + 4 : Nat) : Int) := by omega
          obtain ⟨m, rfl⟩ := Int.eq_ofNat_of_zero_le h1
          rw [this, Int.toNat_natCast]; rfl
        rw [e1, hf]
        have := Nat.mod_lt a1.toNat (show 0 < l0.length + 4 by omega)
        unfold wrap64
        omega
      rw [hwf]
      clear hwf hf
      have hfl := frameOf_len l0
      obtain ⟨g, cap, rfl, hg, _⟩ := Kd.R_form HO.out (by rw [hfl]; omega)
      rw [hfl, ← hn] at HO
      rw [hfl, ← hn]
      obtain ⟨F, hF⟩ : ∃ F, F = frameOf l0 := ⟨_, rfl⟩
      rw [← hF] at HO HP2 hfl
      obtain ⟨bs, hbs⟩ : ∃ bs : List Int, bs = [b0, b1, b2, b3] := ⟨_, rfl⟩
      rw [← hbs] at hbox HP2
      rw [← hn] at hfl
      have hnb : n ≤ 65541 := by omega
      clear hF HF hn hbs
      go_loopw [12, 13] (fun v12 v13 wr => ∃ k : Nat, v13 = .int .i64 (k : Int) ∧ v12 = .bool (chg bs k) ∧ Aside0 (k ≤ 4 ∧ f + k ≤ n) ∧ Aside0 (Kd.R (Kd.int .u8) 5 wr wA.heap.size (fun x => True) (.slice (some ⟨g, 0, none⟩) n cap) (dmg F f bs k)) ∧ Aside0 (Below wA.heap.size wA wr)) (fun _ v13 wr => 4 - (intOf v13).toNat)
      case atStart => exact ⟨0, rfl, rfl, ⟨by omega⟩, HO, HB⟩
      case round =>
        clear HO HB
        obtain ⟨k, rfl, rfl, HK, HO, HB⟩ := hrel
        have hk := HK.out
        by_cases h4 : k < 4
        · by_cases hn2 : f + k < n
          · have hi4 : (k : Int) < 4 := by omega
            have hlt : (f : Int) + (k : Int) < (n : Int) := by omega
            have h0 : 0 ≤ (f : Int) + (k : Int) := by omega
            have hlen : (dmg F f bs k).length = n := by rw [dmg_len]; exact hfl
            have hC := (Kd.R_reads' HO.out).2.2
            obtain ⟨ad, e, hcx⟩ := Kd.at_int hC ((f : Int) + (k : Int)) h0 (by rw [hlen]; exact hlt)
            cases e
            have hcb := (HB.out.cell (p := ⟨w.heap.size, k, none⟩) (by have := hsA.out; simp; omega)).trans (hbox.out k h4)
            have hfk : f + k ≤ 4611686018427387904 := by omega
            have hadd : (⟨g, 0, none⟩ : Addr).add ((f : Int) + (k : Int)).toNat = ⟨g, f + k, none⟩ := by
              have : ((f : Int) + (k : Int)).toNat = f + k := by omega
              rw [this]; unfold Addr.add; split <;> simp_all
            rw [hadd] at hcx
            generalize hX : rd (dmg F f bs k) ((f : Int) + (k : Int)) = X at hcx
            generalize hY : rd bs (k : Int) = Y at hcb
            have HX := Aside0.mk hX
            have HY := Aside0.mk hY
            clear hX hY hC
            have hfk0 : 0 ≤ (f : Int) + (k : Int) := h0
            have hk0 : (0 : Int) ≤ (k : Int) := by omega
            have htn : ((f : Int) + (k : Int)).toNat = f + k := by omega
            have hwk := iadd f k hfk
            have hwk2 := wadd' f k hfk
            go_wp2_with fail
            go_still_tail 11, (by kernel_rfl)
            clear hwk hwk2 htn
            change wpList _ _ _ _ _ wr.drew
            refine Kd.R_store (Kd.int .u8) (w0 := wA) (W := wr.drew) wA.heap.size rfl rfl 5 (.tmp 71) (.tmp 70) rfl 5 ((f + k : Nat) : Int) 0 (dmg F f bs k) (Go.bits .xor .u8 X Y) (.int .u8 (Go.bits .xor .u8 X Y)) [.int .u8 (Go.bits .xor .u8 X Y)] [.int .u8 X] (fun _ => True) (fun _ => False) (o' := f + k) rfl (by show f + k = ((f + k : Nat) : Int).toNat * 1 + 0; omega) rfl rfl size_u8 (by simp [Value.oneCell']) (Kd.R_drew HO.out) (by omega) (by omega) rfl ?hcc (by show 0 + 1 ≤ 1; omega) rfl (fun _ h => h.elim) (below_drew HB.out) ?_
            case hcc =>
              intro j u hu
              cases j with
              | zero =>
                obtain rfl : Value.int .u8 X = u := by simpa using hu
                have : ((f + k : Nat) : Int).toNat * 1 + 0 = f + k := by omega
                show wr.drew.cell? ⟨g, ((f + k : Nat) : Int).toNat * 1 + 0, none⟩ = _
                rw [this]
                exact hcx
              | succ j => simp at hu
            intro w4 ho4 hb4 _
            have e4 : ((f + k : Nat) : Int).toNat = f + k := by omega
            rw [e4] at ho4
            have HO4 := Aside0.mk ho4
            have HB4 := Aside0.mk hb4
            have hcb4 := (hb4.cell (p := ⟨w.heap.size, k, none⟩) (by have := hsA.out; simp; omega)).trans (hbox.out k h4)
            clear ho4 hb4 hcx hcb
            have hk1 : k + 1 ≤ 4 ∧ f + (k + 1) ≤ n := by omega
            have hone : Value.int .i64 (wrap64 ((k : Int) + 1)) = Value.int .i64 ((k + 1 : Nat) : Int) := by rw [wone' k (by omega)]
            have HONE := Aside0.mk hone
            clear hone
            have HYr := HY.out
            have HD : Aside0 (dmg F f bs (k + 1) = (dmg F f bs k).set (f + k) (Go.bits .xor .u8 X Y)) := ⟨by rw [dmg, Int.natCast_add, HX.out, HYr]⟩
            cases hch : chg bs k
            · by_cases hz : Y = 0
              · subst hz
                go_wp2_with fail
                go_roundw
                case rel => exact ⟨k + 1, by first | rfl | exact HONE.out, by simp only [chg, hch, HYr]; rfl, ⟨hk1⟩, by rw [HD.out]; exact HO4, HB4⟩
                case measure => simp [intOf]; omega
              · have hzb : (Y != 0) = true := by simpa using hz
                go_wp2_with fail
                go_roundw
                case rel => exact ⟨k + 1, by first | rfl | exact HONE.out, by simp only [chg, hch, HYr, hzb]; rfl, ⟨hk1⟩, by rw [HD.out]; exact HO4, HB4⟩
                case measure => simp [intOf]; omega
            · go_wp2_with fail
              go_roundw
              case rel => exact ⟨k + 1, by first | rfl | exact HONE.out, by simp only [chg, hch, HYr]; rfl, ⟨hk1⟩, by rw [HD.out]; exact HO4, HB4⟩
              case measure => simp [intOf]; omega
          · have hkr : rounds n f = k := by unfold rounds; omega
            have hi4 : (k : Int) < 4 := by omega
            have hlt : ¬ (f : Int) + (k : Int) < (n : Int) := by omega
            have hlt2 : (n : Int) ≤ (f : Int) + (k : Int) := by omega
            obtain ⟨o, ho, hs, h0'⟩ := HP2.out
            rw [hkr] at ho hs h0'
            obtain ⟨r1, r2, r3⟩ := o
            simp only at hs h0'
            have hR := Kd.R_reads' HO.out
            have hlen : (dmg F f bs k).length = n := by rw [dmg_len]; exact hfl
            have hC : Kd.C (Kd.int .u8) wr (some ⟨g, 0, none⟩) (dmg F f bs k).length (dmg F f bs k) := hR.2.2
            have hcall := codec_Open.calls (some ⟨g, 0, none⟩) cap (dmg F f bs k) r1 r2 r3 wr hC (by rw [hlen]; exact hR.2.1) ho
            rw [hlen] at hcall
            clear hC hR ho
            cases hch : chg bs k
            · rw [hch] at hs h0'
              go_wp2_with (first | (go_at_call 18; (with_reducible refine hcall.mono ?_); clear hcall; rintro e w6 ⟨v6, rfl, _, hb⟩; have HB6 := Aside0.mk (below_then HB0.out HB0.out.size (below_then HB.out HB.out.size hb)); clear hb))
              go_ret
              exact ⟨rfl, HB6.out⟩
            · rw [hch] at hs h0'
              go_wp2_with (first | (go_at_call 18; (with_reducible refine hcall.mono ?_); clear hcall; rintro e w6 ⟨v6, rfl, _, hb⟩; have HB6 := Aside0.mk (below_then HB0.out HB0.out.size (below_then HB.out HB.out.size hb)); clear hb))
              go_ret
              exact ⟨rfl, HB6.out⟩
        · have hkr : rounds n f = k := by unfold rounds; omega
          have hi4 : ¬ (k : Int) < 4 := by omega
          have hi5 : 4 ≤ (k : Int) := by omega
          obtain ⟨o, ho, hs, h0'⟩ := HP2.out
          rw [hkr] at ho hs h0'
          obtain ⟨r1, r2, r3⟩ := o
          simp only at hs h0'
          have hR := Kd.R_reads' HO.out
          have hlen : (dmg F f bs k).length = n := by rw [dmg_len]; exact hfl
          have hC : Kd.C (Kd.int .u8) wr (some ⟨g, 0, none⟩) (dmg F f bs k).length (dmg F f bs k) := hR.2.2
          have hcall := codec_Open.calls (some ⟨g, 0, none⟩) cap (dmg F f bs k) r1 r2 r3 wr hC (by rw [hlen]; exact hR.2.1) ho
          rw [hlen] at hcall
          clear hC hR ho
          cases hch : chg bs k
          · rw [hch] at hs h0'
            go_wp2_with (first | (go_at_call 18; (with_reducible refine hcall.mono ?_); clear hcall; rintro e w6 ⟨v6, rfl, _, hb⟩; have HB6 := Aside0.mk (below_then HB0.out HB0.out.size (below_then HB.out HB.out.size hb)); clear hb))
            go_ret
            exact ⟨rfl, HB6.out⟩
          · rw [hch] at hs h0'
            go_wp2_with (first | (go_at_call 18; (with_reducible refine hcall.mono ?_); clear hcall; rintro e w6 ⟨v6, rfl, _, hb⟩; have HB6 := Aside0.mk (below_then HB0.out HB0.out.size (below_then HB.out HB.out.size hb)); clear hb))
            go_ret
            exact ⟨rfl, HB6.out⟩
end Go.Proofs.YtonhinepgkommaaH
