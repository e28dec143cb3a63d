/- The contract of codec.Get. -/
import Derived.Test.YtonhinepgkommaaHCodec3
set_option linter.unusedVariables false
set_option linter.unusedSimpArgs false
namespace Go.Proofs.YtonhinepgkommaaH
open Go Go.RowKit Go.Proofs.YtonhinepgkommaaW.PrintWords Go.Proofs.YtonhinepgkommaaW.PrintLast Go.Proofs.YtonhinepgkommaaW.PrintMore

theorem info_int : (Try.prog.info? 3).map (fun i => (i.zero, i.size, i.bytes)) = some (some (.int .i64 0), 1, 8) := by kernel_rfl

/-- The number of the first k digits. -/
def digTo (b : List Int) : Nat → Int
  | 0 => 0
  | k + 1 => Go.bits .or .u64 (digTo b k) (IntKind.u64.wrap (IntKind.u64.wrap (Go.bits .and .u8 (rd b k) 127) * 2 ^ (7 * k)))
def unzig (n : Int) : Int := Go.bits .xor .i64 (wrap64 (n / 2)) (wrap64 (-(wrap64 (Go.bits .and .u64 n 1))))
def codec_Get.l0 : Nat → List Int → List Int → Option (List Int × Int)
  | 0, _, _ => none
  | k + 1, acc, b => if b.length = 0 then some (acc, 0) else
    match lastAt b with
    | none => if 9 < b.length ∧ 1 < rd b 9 then some ([], 7) else some ([], 8)
    | some i => if 9 < i + 1 ∧ 1 < rd b 9 then some ([], 7) else if 1 < i + 1 ∧ rd b i = 0 then some ([], 7) else
      if acc.length < 17592186044416 then codec_Get.l0 k (acc ++ [unzig (digTo b (i + 1))]) (b.drop (i + 1)) else none
def codec_Get.f (l0 : List Int) : Option (List Int × Int) := codec_Get.l0 (l0.length + 1) [] l0

set_option maxHeartbeats 2000000 in
set_option maxRecDepth 100000 in
theorem codec_Get.calls (A0 : Option Addr) (c0 : Nat) (l0 : List Int) (r1 : List Int) (r2 : Int) (w : World) (hr0 : Kd.C (Kd.int .u8) w A0 l0.length l0) (hc0 : l0.length ≤ c0) (h : codec_Get.f l0 = some (r1, r2)) :
    Calls Try.prog 12 #[.slice A0 l0.length c0] w fun e w' => ∃ v0_ : Value, e = .returned (.tuple #[v0_, .int .i64 r2]) ∧ Kd.R (Kd.int .i64) 3 w' w.heap.size (fun _ => True) v0_ r1 ∧ Below w.heap.size w w' := by
  have HR0 := Aside0.mk hr0
  have HC0 := Aside0.mk hc0
  have H0 := Aside0.mk h
  clear hr0 hc0 h
  go_enter Try.func12, Try.ntmps12
  go_wp2_with fail
  go_loopg [0, 5] (l0.length + 1) (fun kq v0 v5 w' => ∃ (A : Option Addr) (c : Nat) (b acc : List Int), v0 = .slice A b.length c ∧ Aside0 (codec_Get.l0 kq acc b = some (r1, r2)) ∧ Aside0 (b.length ≤ c) ∧ Aside0 (Kd.C (Kd.int .u8) w A b.length b) ∧ Aside0 (Kd.R (Kd.int .i64) 3 w' w.heap.size (fun _ => True) v5 acc) ∧ Aside0 (Below w.heap.size w w'))
  case atStart => exact ⟨_, _, _, _, rfl, H0, HC0, HR0, ⟨Kd.R_nil _ _ _ _ _⟩, ⟨Below.refl _ _⟩⟩
  case round =>
    clear H0 HC0 HR0
    obtain ⟨A, c, b, acc, rfl, H, HC, HR, HO, HB⟩ := hrel
    cases gk with
    | zero => exact absurd H.out (by simp [codec_Get.l0])
    | succ k1 =>
      have hlen : b.length ≤ 9223372036854775807 := HR.out.2.1
      have h := H.out
      clear H
      unfold codec_Get.l0 at h
      by_cases hz : b.length = 0
      · rw [if_pos hz] at h
        obtain ⟨rfl, rfl⟩ := Prod.mk.inj (Option.some.inj h)
        have hz2 : b = [] := List.eq_nil_of_length_eq_zero hz
        subst hz2
        clear hz h
        go_wp2_with fail
        go_ret2
        exact ⟨_, rfl, HO.out, HB.out⟩
      · rw [if_neg hz] at h
        have hpos : 0 < b.length := by omega
        clear hz
        obtain ⟨ad, e, _⟩ := Kd.at_int HR.out 0 (by omega) (by omega)
        cases e
        have hcells : Aside0 (∀ j : Nat, j < b.length → wr.cell? (ad.add j) = some (.int .u8 (rd b j))) := ⟨fun j hj => by
          obtain ⟨ad', e, hx⟩ := Kd.at_int HR.out j (by omega) (by omega)
          cases e
          exact (HB.out.cell (World.block_lt_of_cell? w _ hx)).trans hx⟩
        have HRr : Aside0 (Kd.C (Kd.int .u8) wr (some ad) b.length b) := ⟨Kd.C_below HR.out (HB.out.mono (Nat.le_refl _))⟩
        cases hlast : lastAt b with
        | none =>
          rw [hlast] at h
          dsimp only at h
          have HL := Aside0.mk hlast
          clear hlast
          by_cases h9 : 9 < b.length
          · by_cases h1 : 1 < rd b 9
            · rw [if_pos ⟨h9, h1⟩] at h
              obtain ⟨rfl, rfl⟩ := Prod.mk.inj (Option.some.inj h)
              clear h
              have hx9 : wr.cell? ⟨ad.block, ad.off + 9, none⟩ = some (.int .u8 (rd b (9 : Nat))) := hcells.out 9 h9
              obtain ⟨x, hx⟩ : ∃ x, x = rd b (9 : Nat) := ⟨_, rfl⟩
              have h1' : 1 < x := by rw [hx]; exact h1
              rw [← hx] at hx9
              clear hx h1
              go_wp2_with (first | (go_at_call 29; (with_reducible refine (cut_calls _ _ _ _ HRr.out HC.out).mono ?_); intro e w2 hcut; unfold CutGives at hcut; rw [HL.out] at hcut; obtain ⟨rfl, ⟨n2, rfl⟩⟩ := hcut))
              go_ret2
              exact ⟨_, rfl, Kd.R_nil _ _ _ _ _, pw_below_drewN HB.out _⟩
            · rw [if_neg (fun hh => h1 hh.2)] at h
              obtain ⟨rfl, rfl⟩ := Prod.mk.inj (Option.some.inj h)
              clear h
              have hx9 : wr.cell? ⟨ad.block, ad.off + 9, none⟩ = some (.int .u8 (rd b (9 : Nat))) := hcells.out 9 h9
              obtain ⟨x, hx⟩ : ∃ x, x = rd b (9 : Nat) := ⟨_, rfl⟩
              have h1' : ¬ 1 < x := by rw [hx]; exact h1
              rw [← hx] at hx9
              clear hx h1
              go_wp2_with (first | (go_at_call 29; (with_reducible refine (cut_calls _ _ _ _ HRr.out HC.out).mono ?_); intro e w2 hcut; unfold CutGives at hcut; rw [HL.out] at hcut; obtain ⟨rfl, ⟨n2, rfl⟩⟩ := hcut))
              go_ret2
              exact ⟨_, rfl, Kd.R_nil _ _ _ _ _, pw_below_drewN HB.out _⟩
          · rw [if_neg (fun hh => h9 hh.1)] at h
            obtain ⟨rfl, rfl⟩ := Prod.mk.inj (Option.some.inj h)
            clear h
            go_wp2_with (first | (go_at_call 29; (with_reducible refine (cut_calls _ _ _ _ HRr.out HC.out).mono ?_); intro e w2 hcut; unfold CutGives at hcut; rw [HL.out] at hcut; obtain ⟨rfl, ⟨n2, rfl⟩⟩ := hcut))
            go_ret2
            exact ⟨_, rfl, Kd.R_nil _ _ _ _ _, pw_below_drewN HB.out _⟩
        | some i =>
          rw [hlast] at h
          dsimp only at h
          have hi := lastAt_lt hlast
          have HL := Aside0.mk hlast
          clear hlast
          by_cases hA : 9 < i + 1 ∧ 1 < rd b 9
          · rw [if_pos hA] at h
            obtain ⟨rfl, rfl⟩ := Prod.mk.inj (Option.some.inj h)
            clear h
            have hx9 : wr.cell? ⟨ad.block, ad.off + 9, none⟩ = some (.int .u8 (rd b (9 : Nat))) := hcells.out 9 (by omega)
            obtain ⟨x, hx⟩ : ∃ x, x = rd b (9 : Nat) := ⟨_, rfl⟩
            have h1' : 1 < x := by rw [hx]; exact hA.2
            have h9 := hA.1
            rw [← hx] at hx9
            clear hx hA
            go_wp2_with (first | (go_at_call 29; (with_reducible refine (cut_calls _ _ _ _ HRr.out HC.out).mono ?_); intro e w2 hcut; unfold CutGives at hcut; rw [HL.out] at hcut; obtain ⟨A2, rfl, ⟨n2, rfl⟩, hC2⟩ := hcut; have HC2 := Aside0.mk hC2; clear hC2))
            go_ret2
            exact ⟨_, rfl, Kd.R_nil _ _ _ _ _, pw_below_drewN HB.out _⟩
          · rw [if_neg hA] at h
            by_cases hD : 1 < i + 1 ∧ rd b i = 0
            · rw [if_pos hD] at h
              obtain ⟨rfl, rfl⟩ := Prod.mk.inj (Option.some.inj h)
              clear h
              have hxi := hcells.out i hi
              obtain ⟨x, hx⟩ : ∃ x, x = rd b (i : Nat) := ⟨_, rfl⟩
              have h1' : (x == 0) = true := by rw [hx, hD.2]; rfl
              have h2' := hD.1
              rw [← hx] at hxi
              clear hx hD
              by_cases h9 : 9 < i + 1
              · have hx9 : wr.cell? ⟨ad.block, ad.off + 9, none⟩ = some (.int .u8 (rd b (9 : Nat))) := hcells.out 9 (by omega)
                have hn9 : ¬ 1 < rd b (9 : Nat) := fun hh => hA ⟨h9, hh⟩
                generalize rd b (9 : Nat) = y at hx9 hn9
                clear hA
                go_wp2_with (first | (go_at_call 29; (with_reducible refine (cut_calls _ _ _ _ HRr.out HC.out).mono ?_); intro e w2 hcut; unfold CutGives at hcut; rw [HL.out] at hcut; obtain ⟨A2, rfl, ⟨n2, rfl⟩, hC2⟩ := hcut; have HC2 := Aside0.mk hC2; clear hC2))
                go_ret2
                exact ⟨_, rfl, Kd.R_nil _ _ _ _ _, pw_below_drewN HB.out _⟩
              · clear hA
                go_wp2_with (first | (go_at_call 29; (with_reducible refine (cut_calls _ _ _ _ HRr.out HC.out).mono ?_); intro e w2 hcut; unfold CutGives at hcut; rw [HL.out] at hcut; obtain ⟨A2, rfl, ⟨n2, rfl⟩, hC2⟩ := hcut; have HC2 := Aside0.mk hC2; clear hC2))
                go_ret2
                exact ⟨_, rfl, Kd.R_nil _ _ _ _ _, pw_below_drewN HB.out _⟩
            · rw [if_neg hD] at h
              by_cases hlim : acc.length < 17592186044416
              case neg => rw [if_neg hlim] at h; cases h
              rw [if_pos hlim] at h
              have HLIM := Aside0.mk hlim
              have HD := Aside0.mk hD
              have HA := Aside0.mk hA
              have H := Aside0.mk h
              clear h hD hA hlim
              have hi9 : Aside0 (i ≤ 9) := ⟨by
                by_cases h9 : 9 < i + 1
                · by_cases e : i = 9
                  · omega
                  · exfalso
                    have := lastAt_before HL.out 9 (by omega)
                    refine HA.out ⟨h9, ?_⟩
                    have e : ((9 : Nat) : Int) = 9 := rfl
                    rw [e] at this
                    omega
                · omega⟩
              by_cases h9 : 9 < i + 1
              · have hx9 : wr.cell? ⟨ad.block, ad.off + 9, none⟩ = some (.int .u8 (rd b (9 : Nat))) := hcells.out 9 (by omega)
                have hn9 : ¬ 1 < rd b (9 : Nat) := fun hh => HA.out ⟨h9, hh⟩
                generalize rd b (9 : Nat) = y at hx9 hn9
                have hxi := hcells.out i hi
                have hni : (rd b (i : Nat) == 0) = false := beq_eq_false_iff_ne.2 fun hh => HD.out ⟨by omega, hh⟩
                generalize rd b (i : Nat) = z at hxi hni
                go_wp2_with (first | (go_at_call 29; (with_reducible refine (cut_calls _ _ _ _ HRr.out HC.out).mono ?_); intro e w2 hcut; unfold CutGives at hcut; rw [HL.out] at hcut; obtain ⟨A2, rfl, ⟨n2, rfl⟩, hC2⟩ := hcut; have HC2 := Aside0.mk hC2; clear hC2))
                go_loop [50, 10] (fun v n => ∃ k : Nat, k ≤ i + 1 ∧ v = .int .i64 k ∧ n = .int .u64 (digTo b k)) (fun v _ => i + 1 - (intOf v).toNat)
                case atStart => exact ⟨0, by omega, rfl, rfl⟩
                case round =>
                  obtain ⟨k, hk, rfl, rfl⟩ := hrel
                  have hi9' := hi9.out
                  by_cases hlt : k < i + 1
                  · have hxk := hcells.out k (by omega)
                    obtain ⟨x, hx⟩ : ∃ x, x = rd b (k : Nat) := ⟨_, rfl⟩
                    obtain ⟨m, hm⟩ : ∃ m, m = digTo b k := ⟨_, rfl⟩
                    have Hm : Aside0 (digTo b (k + 1) = Go.bits .or .u64 m (IntKind.u64.wrap (IntKind.u64.wrap (Go.bits .and .u8 x 127) * 2 ^ (7 * k)))) := ⟨by rw [hm, hx]; rfl⟩
                    rw [← hx] at hxk
                    rw [← hm]
                    clear hx hm
                    go_wp2_with fail
                    go_round
                    case rel => exact ⟨k + 1, by omega, by go_num, by rw [Hm.out]⟩
                    case measure => simp [intOf]; omega
                  · obtain ⟨m, hm⟩ : ∃ m, m = digTo b k := ⟨_, rfl⟩
                    have Hm : Aside0 (m = digTo b (i + 1)) := ⟨by rw [hm]; congr 1; omega⟩
                    rw [← hm]
                    clear hm
                    obtain ⟨x, hx⟩ : ∃ x, x = unzig m := ⟨_, rfl⟩
                    have HX := Aside0.mk hx
                    clear hx
                    have HB2 : Aside0 (Below w.heap.size w (wr.drewN n2)) := ⟨pw_below_drewN HB.out _⟩
                    go_wp2_with (first | ((with_reducible refine gate_builtin (b := .append) (xs := #[.tmp 64, .tmp 73]) rfl ?_); at_builtin; refine Kd.R_append (Kd.int .i64) (w0 := w) w.heap.size rfl (.tmp 64) (.tmp 73) 22 3 (.int .i64 0) 8 rfl Try.underlying22 info_int rfl (by decide) (by omega) u5 acc (unzig m) [.int .i64 (unzig m)] (fun _ => True) (fun _ => False) rfl rfl ?aP (fun _ hk => hk.elim) ?aF ?aO ?aB ?aS ?aL ?_; (case aP => exact rfl); (case aB => exact HB2.out); (case aF => exact (fun _ _ => trivial)); (case aO => exact Kd.R_drewN HO.out _); (case aS => exact below_size HB2.out); (case aL => have := HLIM.out; omega); intro v103 w7 ho hb hg hat; have HO7 := Aside0.mk ho; have HB7 := Aside0.mk hb; clear ho hb hg hat))
                    have hd1 : (b.drop (i + 1)).length = b.length - (i + 1) := List.length_drop
                    go_roundg k1
                    case measure => omega
                    case rel => exact ⟨A2, c - (i + 1), b.drop (i + 1), acc ++ [unzig m], by rw [hd1], by rw [Hm.out]; exact H, ⟨by rw [hd1]; have := HC.out; omega⟩, ⟨by rw [hd1]; exact HC2.out w HR.out⟩, HO7, HB7⟩
              · by_cases h1 : 1 < i + 1
                · have hxi := hcells.out i hi
                  have hni : (rd b (i : Nat) == 0) = false := beq_eq_false_iff_ne.2 fun hh => HD.out ⟨by omega, hh⟩
                  generalize rd b (i : Nat) = z at hxi hni
                  go_wp2_with (first | (go_at_call 29; (with_reducible refine (cut_calls _ _ _ _ HRr.out HC.out).mono ?_); intro e w2 hcut; unfold CutGives at hcut; rw [HL.out] at hcut; obtain ⟨A2, rfl, ⟨n2, rfl⟩, hC2⟩ := hcut; have HC2 := Aside0.mk hC2; clear hC2))
                  go_loop [50, 10] (fun v n => ∃ k : Nat, k ≤ i + 1 ∧ v = .int .i64 k ∧ n = .int .u64 (digTo b k)) (fun v _ => i + 1 - (intOf v).toNat)
                  case atStart => exact ⟨0, by omega, rfl, rfl⟩
                  case round =>
                    obtain ⟨k, hk, rfl, rfl⟩ := hrel
                    have hi9' := hi9.out
                    by_cases hlt : k < i + 1
                    · have hxk := hcells.out k (by omega)
                      obtain ⟨x, hx⟩ : ∃ x, x = rd b (k : Nat) := ⟨_, rfl⟩
                      obtain ⟨m, hm⟩ : ∃ m, m = digTo b k := ⟨_, rfl⟩
                      have Hm : Aside0 (digTo b (k + 1) = Go.bits .or .u64 m (IntKind.u64.wrap (IntKind.u64.wrap (Go.bits .and .u8 x 127) * 2 ^ (7 * k)))) := ⟨by rw [hm, hx]; rfl⟩
                      rw [← hx] at hxk
                      rw [← hm]
                      clear hx hm
                      go_wp2_with fail
                      go_round
                      case rel => exact ⟨k + 1, by omega, by go_num, by rw [Hm.out]⟩
                      case measure => simp [intOf]; omega
                    · obtain ⟨m, hm⟩ : ∃ m, m = digTo b k := ⟨_, rfl⟩
                      have Hm : Aside0 (m = digTo b (i + 1)) := ⟨by rw [hm]; congr 1; omega⟩
                      rw [← hm]
                      clear hm
                      obtain ⟨x, hx⟩ : ∃ x, x = unzig m := ⟨_, rfl⟩
                      have HX := Aside0.mk hx
                      clear hx
                      have HB2 : Aside0 (Below w.heap.size w (wr.drewN n2)) := ⟨pw_below_drewN HB.out _⟩
                      go_wp2_with (first | ((with_reducible refine gate_builtin (b := .append) (xs := #[.tmp 64, .tmp 73]) rfl ?_); at_builtin; refine Kd.R_append (Kd.int .i64) (w0 := w) w.heap.size rfl (.tmp 64) (.tmp 73) 22 3 (.int .i64 0) 8 rfl Try.underlying22 info_int rfl (by decide) (by omega) u5 acc (unzig m) [.int .i64 (unzig m)] (fun _ => True) (fun _ => False) rfl rfl ?aP (fun _ hk => hk.elim) ?aF ?aO ?aB ?aS ?aL ?_; (case aP => exact rfl); (case aB => exact HB2.out); (case aF => exact (fun _ _ => trivial)); (case aO => exact Kd.R_drewN HO.out _); (case aS => exact below_size HB2.out); (case aL => have := HLIM.out; omega); intro v103 w7 ho hb hg hat; have HO7 := Aside0.mk ho; have HB7 := Aside0.mk hb; clear ho hb hg hat))
                      have hd1 : (b.drop (i + 1)).length = b.length - (i + 1) := List.length_drop
                      go_roundg k1
                      case measure => omega
                      case rel => exact ⟨A2, c - (i + 1), b.drop (i + 1), acc ++ [unzig m], by rw [hd1], by rw [Hm.out]; exact H, ⟨by rw [hd1]; have := HC.out; omega⟩, ⟨by rw [hd1]; exact HC2.out w HR.out⟩, HO7, HB7⟩
                · go_wp2_with (first | (go_at_call 29; (with_reducible refine (cut_calls _ _ _ _ HRr.out HC.out).mono ?_); intro e w2 hcut; unfold CutGives at hcut; rw [HL.out] at hcut; obtain ⟨A2, rfl, ⟨n2, rfl⟩, hC2⟩ := hcut; have HC2 := Aside0.mk hC2; clear hC2))
                  go_loop [50, 10] (fun v n => ∃ k : Nat, k ≤ i + 1 ∧ v = .int .i64 k ∧ n = .int .u64 (digTo b k)) (fun v _ => i + 1 - (intOf v).toNat)
                  case atStart => exact ⟨0, by omega, rfl, rfl⟩
                  case round =>
                    obtain ⟨k, hk, rfl, rfl⟩ := hrel
                    have hi9' := hi9.out
                    by_cases hlt : k < i + 1
                    · have hxk := hcells.out k (by omega)
                      obtain ⟨x, hx⟩ : ∃ x, x = rd b (k : Nat) := ⟨_, rfl⟩
                      obtain ⟨m, hm⟩ : ∃ m, m = digTo b k := ⟨_, rfl⟩
                      have Hm : Aside0 (digTo b (k + 1) = Go.bits .or .u64 m (IntKind.u64.wrap (IntKind.u64.wrap (Go.bits .and .u8 x 127) * 2 ^ (7 * k)))) := ⟨by rw [hm, hx]; rfl⟩
                      rw [← hx] at hxk
                      rw [← hm]
                      clear hx hm
                      go_wp2_with fail
                      go_round
                      case rel => exact ⟨k + 1, by omega, by go_num, by rw [Hm.out]⟩
                      case measure => simp [intOf]; omega
                    · obtain ⟨m, hm⟩ : ∃ m, m = digTo b k := ⟨_, rfl⟩
                      have Hm : Aside0 (m = digTo b (i + 1)) := ⟨by rw [hm]; congr 1; omega⟩
                      rw [← hm]
                      clear hm
                      obtain ⟨x, hx⟩ : ∃ x, x = unzig m := ⟨_, rfl⟩
                      have HX := Aside0.mk hx
                      clear hx
                      have HB2 : Aside0 (Below w.heap.size w (wr.drewN n2)) := ⟨pw_below_drewN HB.out _⟩
                      go_wp2_with (first | ((with_reducible refine gate_builtin (b := .append) (xs := #[.tmp 64, .tmp 73]) rfl ?_); at_builtin; refine Kd.R_append (Kd.int .i64) (w0 := w) w.heap.size rfl (.tmp 64) (.tmp 73) 22 3 (.int .i64 0) 8 rfl Try.underlying22 info_int rfl (by decide) (by omega) u5 acc (unzig m) [.int .i64 (unzig m)] (fun _ => True) (fun _ => False) rfl rfl ?aP (fun _ hk => hk.elim) ?aF ?aO ?aB ?aS ?aL ?_; (case aP => exact rfl); (case aB => exact HB2.out); (case aF => exact (fun _ _ => trivial)); (case aO => exact Kd.R_drewN HO.out _); (case aS => exact below_size HB2.out); (case aL => have := HLIM.out; omega); intro v103 w7 ho hb hg hat; have HO7 := Aside0.mk ho; have HB7 := Aside0.mk hb; clear ho hb hg hat))
                      have hd1 : (b.drop (i + 1)).length = b.length - (i + 1) := List.length_drop
                      go_roundg k1
                      case measure => omega
                      case rel => exact ⟨A2, c - (i + 1), b.drop (i + 1), acc ++ [unzig m], by rw [hd1], by rw [Hm.out]; exact H, ⟨by rw [hd1]; have := HC.out; omega⟩, ⟨by rw [hd1]; exact HC2.out w HR.out⟩, HO7, HB7⟩
end Go.Proofs.YtonhinepgkommaaH
