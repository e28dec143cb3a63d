/- The contract of codec.Open. -/
import Derived.Test.YtonhinepgkommaaHCodec4
import Derived.StillTailTactics
import Derived.Laws.BitsLemmas
set_option linter.unusedVariables false
set_option linter.unusedSimpArgs false
namespace Go.Proofs.YtonhinepgkommaaH
open Go Go.RowKit Go.Proofs.YtonhinepgkommaaW.PrintWords Go.Proofs.YtonhinepgkommaaW.PrintLast Go.Proofs.YtonhinepgkommaaW.PrintMore

def bytesOk (l : List Int) : Bool := l.all fun x => decide (0 ≤ x ∧ x ≤ 255)
theorem bytesOk_rd {l : List Int} (h : bytesOk l = true) (i : Nat) (hi : i < l.length) : 0 ≤ rd l i ∧ rd l i ≤ 255 := by
  unfold bytesOk at h
  rw [List.all_eq_true] at h
  have := h l[i] (List.getElem_mem hi)
  unfold rd
  rw [Int.toNat_natCast, List.getD_eq_getElem?_getD, List.getElem?_eq_getElem hi]
  simpa using this
def crcSum (l : List Int) : Int := Go.bits .xor .u32 4294967295 (crcFold 4294967295 l)
def fourOf (s : Int) : List Int := [s % 256, s / 256 % 256, s / 65536 % 256, s / 16777216 % 256]
def frameLen (l : List Int) : Nat := (256 * rd l 0 + rd l 1).toNat
def codec_Open.f (l0 : List Int) : Option (List Int × Int × Int) :=
  if bytesOk l0 = true then
    if l0.length < 2 then some ([], 0, 8)
    else if l0.length < frameLen l0 + 6 then some ([], 0, 8)
    else if (l0.drop (frameLen l0 + 2)).take 4 = fourOf (crcSum (l0.take (frameLen l0 + 2))) then some ((l0.take (frameLen l0 + 2)).drop 2, (frameLen l0 : Int) + 6, 0)
    else some ([], 0, 9)
  else none
theorem or_len (x y : Int) (h0 : 0 ≤ x) (h1 : x ≤ 255) (h2 : 0 ≤ y) (h3 : y ≤ 255) : Go.bits .or .i64 (x * 256) y = 256 * x + y := by
  have := bits_join .i64 63 (by decide) (fun n a b => by rw [show IntKind.i64.wrap n = n from by unfold IntKind.wrap; simp [IntKind.bits, IntKind.signed]; omega]) 8 
  rw [this (x * 256) y (by omega) (by omega) (by omega) h2 (by omega) (by omega)]
  omega
theorem neq4 (w : World) (a0 a1 a2 a3 b0 b1 b2 b3 : Int) :
    (Op.equalIn 10000 43 (.agg #[.int .u8 a0, .int .u8 a1, .int .u8 a2, .int .u8 a3]) (.agg #[.int .u8 b0, .int .u8 b1, .int .u8 b2, .int .u8 b3])).run Try.prog w = .ok (a0 == b0 && (a1 == b1 && (a2 == b2 && a3 == b3))) w := by
  obtain ⟨i0, hi0, _, hsz, _⟩ := info_parts info_u8
  exact run_equal_arr4 Try.underlying43 hi0 Try.underlying5 (by kernel_rfl) a0 a1 a2 a3 b0 b1 b2 b3
theorem guard4 : Try.prog.eqGuardType Try.prog.depth 43 = false := by kernel_rfl

theorem size_u8 : (Try.prog.info? 5).map (·.size) = some 1 := by kernel_rfl
theorem nums_one (k : IntKind) (l : List Int) : ∀ v ∈ nums k l, v.oneCell' = true := by
  intro v hv
  unfold nums at hv
  obtain ⟨x, _, rfl⟩ := List.mem_map.1 hv
  rfl
theorem slice4 (G : Nat) (W : World) : (Instr.sliceAt 43 (.pointer (some ⟨G, 0, none⟩)) none none none).run Try.prog W = .ok (.slice (some ⟨G, 0, none⟩) 4 4) W := by
  obtain ⟨i0, hi0, _, hsz, _⟩ := info_parts info_u8
  simp [Instr.sliceAt, run_underlying Try.underlying43, Instr.sureAddr, Instr.sliceBounds, sizeOf, typeInfo, hi0, hsz, Addr.add, Result.andThen]

set_option maxHeartbeats 2000000 in
set_option maxRecDepth 100000 in
theorem codec_Open.calls (A0 : Option Addr) (c0 : Nat) (l0 : List Int) (r1 : List Int) (r2 r3 : Int) (w : World) (hr0 : Kd.C (Kd.int .u8) w A0 l0.length l0) (hc0 : l0.length ≤ c0) (h : codec_Open.f l0 = some (r1, r2, r3)) :
    Calls Try.prog 18 #[.slice A0 l0.length c0] w fun e w' => ∃ v0_ : Value, e = .returned (.tuple #[v0_, .int .i64 r2, .int .i64 r3]) ∧ Kd.R (Kd.int .u8) 5 w' w.heap.size (fun _ => True) v0_ r1 ∧ Below w.heap.size w w' := by
  have HR := Aside0.mk hr0
  have HC := Aside0.mk hc0
  clear hr0 hc0
  unfold codec_Open.f at h
  by_cases hbok : bytesOk l0 = true
  case neg => rw [if_neg hbok] at h; cases h
  rw [if_pos hbok] at h
  have HBO := Aside0.mk hbok
  clear hbok
  have hlen : l0.length ≤ 9223372036854775807 := HR.out.2.1
  by_cases h2 : l0.length < 2
  · rw [if_pos h2] at h
    obtain ⟨rfl, rfl, rfl⟩ : [] = r1 ∧ 0 = r2 ∧ 8 = r3 := by simpa using h
    clear h
    go_enter Try.func18, Try.ntmps18
    go_wp2_with fail
    go_ret3
    exact ⟨_, rfl, Kd.R_nil _ _ _ _ _, Below.refl _ _⟩
  · rw [if_neg h2] at h
    obtain ⟨hx00, hx01⟩ := bytesOk_rd HBO.out 0 (by omega)
    obtain ⟨hx10, hx11⟩ := bytesOk_rd HBO.out 1 (by omega)
    obtain ⟨ad, e, hc0⟩ := Kd.at_int HR.out 0 (by omega) (by omega)
    cases e
    obtain ⟨ad', e, hc1⟩ := Kd.at_int HR.out 1 (by omega) (by omega)
    cases e
    obtain ⟨N, hN⟩ : ∃ N, N = frameLen l0 := ⟨_, rfl⟩
    rw [← hN] at h
    have hN2 : (N : Int) = 256 * rd l0 0 + rd l0 1 := by rw [hN]; unfold frameLen; simp only [Int.ofNat_eq_natCast, Int.cast_ofNat_Int] at hx00 hx10; omega
    have hNb : N ≤ 65535 := by simp only [Int.ofNat_eq_natCast, Int.cast_ofNat_Int] at hx00 hx10 hx01 hx11; omega
    have hor := or_len _ _ hx00 hx01 hx10 hx11
    simp only [Int.ofNat_eq_natCast, Int.cast_ofNat_Int] at hor hx00 hx10 hx01 hx11
    rw [← hN2] at hor
    clear hN hN2
    generalize rd l0 0 = x0 at *
    generalize rd l0 1 = x1 at *
    have hc0' : w.cell? ad = some (.int .u8 x0) := by simpa [Addr.add] using hc0
    have hc1' : w.cell? ⟨ad.block, ad.off + 1, none⟩ = some (.int .u8 x1) := hc1
    clear hc0 hc1
    by_cases h6 : l0.length < N + 6
    · rw [if_pos h6] at h
      obtain ⟨rfl, rfl, rfl⟩ : [] = r1 ∧ 0 = r2 ∧ 8 = r3 := by simpa using h
      clear h
      have g1 : (1 : Int) < (l0.length : Int) := by omega
      have g0 : (0 : Int) < (l0.length : Int) := by omega
      go_enter Try.func18, Try.ntmps18
      go_wp2_with fail
      go_quiet (fail)
      go_wp2_with fail
      go_ret3
      exact ⟨_, rfl, Kd.R_nil _ _ _ _ _, pw_below_drewN (Below.refl _ _) _⟩
    · rw [if_neg h6] at h
      have g1 : (1 : Int) < (l0.length : Int) := by omega
      have g0 : (0 : Int) < (l0.length : Int) := by omega
      have H := Aside0.mk h
      clear h
      go_enter Try.func18, Try.ntmps18
      go_wp2_with fail
      go_quiet (fail)
      go_wp2_with fail
      obtain ⟨i0, hi0, _, hsz, _⟩ := info_parts info_u8
      obtain ⟨A2, hcut2, hC2, hc2⟩ := print_drop_of (P := Try.prog) (Value.int .u8) (0 : Int) 23 5 .i64 Try.underlying23 hi0 hsz (some ad) c0 l0 ((N : Int) + 2) (by omega) (by omega) HC.out
      have e3 : ((N : Int) + 2).toNat = N + 2 := by omega
      have e4 : (l0.drop (N + 2)).length = l0.length - (N + 2) := List.length_drop
      rw [e3] at hcut2 hC2
      rw [e4] at hcut2
      have HC2 := Aside0.mk hC2
      clear hC2 hc2 e3 e4
      clear hor hc0' hc1' hx00 hx01 hx10 hx11
      have HG := Aside0.mk (heap_alloc_new (w.drewN nq) (.cells #[.int .u8 0, .int .u8 0, .int .u8 0, .int .u8 0] 43))
      have HB1 := Aside0.mk (below_alloc (pw_below_drewN (Below.refl w.heap.size w) nq) (.cells #[.int .u8 0, .int .u8 0, .int .u8 0, .int .u8 0] 43))
      have eG : (w.drewN nq).heap.size = w.heap.size := rfl
      rw [eG] at HG
      generalize (w.drewN nq).alloc (.cells #[.int .u8 0, .int .u8 0, .int .u8 0, .int .u8 0] 43) = W1 at *
      clear eG
      have hsl4 := slice4 w.heap.size
      have hwr : IntKind.i64.wrap ((N : Int) + 2) = (N : Int) + 2 := IntWalk.i64_in _ (by omega)
      go_still_tail 5, (by kernel_rfl)
      clear hwr
      change wpList _ _ _ _ _ W1.drew
      have HG2 : Aside0 (W1.drew.heap[w.heap.size]? = some (.cells #[.int .u8 0, .int .u8 0, .int .u8 0, .int .u8 0] 43 (0, 0))) := HG
      have HB2 : Aside0 (Below w.heap.size w W1.drew) := ⟨below_drew HB1.out⟩
      generalize W1.drew = W2 at *
      clear HG HB1
      obtain ⟨F, hF⟩ : ∃ F, F = (l0.drop (N + 2)).take 4 := ⟨_, rfl⟩
      have hFl : F.length = 4 := by rw [hF, List.length_take, List.length_drop]; omega
      have HF := Aside0.mk hF
      have HFl := Aside0.mk hFl
      clear hF hFl
      have HC2F : Aside0 (0 < (nums .u8 F).length → ∃ ad, A2 = some ad ∧ ∀ j v, (nums .u8 F)[j]? = some v → W2.cell? (ad.add j) = some v) := ⟨fun hp => by
        have hrd := HC2.out w (Kd.reads_of_C (d := (0 : Int)) HR.out)
        obtain ⟨ad2, e, hc⟩ := hrd.2.2 (by rw [List.length_drop]; omega)
        refine ⟨ad2, e, fun j v hv => ?_⟩
        have hj : j < 4 := by
          have := (List.getElem?_eq_some_iff.1 hv).1
          rw [nums_length, HFl.out] at this
          exact this
        have h3 := hc j (by rw [List.length_drop]; omega)
        have h4 : v = .int .u8 ((l0.drop (N + 2)).getD j 0) := by
          unfold nums at hv
          rw [List.getElem?_map, HF.out, List.getElem?_take, if_pos hj, List.getElem?_eq_getElem (by rw [List.length_drop]; omega)] at hv
          rw [List.getD_eq_getElem?_getD, List.getElem?_eq_getElem (by rw [List.length_drop]; omega)]
          simpa using hv.symm
        rw [h4]
        exact (HB2.out.cell (World.block_lt_of_cell? w _ h3)).trans h3⟩
      have hmin : (nums .u8 F).length = Nat.min (l0.length - (N + 2)) 4 := by
        rw [nums_length, HFl.out]
        show 4 = min (l0.length - (N + 2)) 4
        omega
      refine wpList_copy_splice rfl (.tmp 26) (.tmp 30) 23 23 rfl 5 Try.underlying23 size_u8 (some ⟨w.heap.size, 0, none⟩) A2 4 4 (l0.length - (N + 2)) (c0 - (N + 2)) rfl rfl w.heap.size 0 [.int .u8 0, .int .u8 0, .int .u8 0, .int .u8 0] 43 HG2.out (nums .u8 F) hmin (fun hp => ⟨rfl, HC2F.out hp⟩) (by rw [nums_length, HFl.out]; decide) (nums_one _ _) w.heap.size w HB2.out (Nat.le_refl _) ?_
      clear hmin
      intro W3 hg3 hb3
      have HG3 : Aside0 (W3.heap[w.heap.size]? = some (.cells (nums .u8 F).toArray 43 (0, 0))) := ⟨by rw [hg3.out]; unfold splice; rw [nums_length, HFl.out]; simp⟩
      have HB3 := Aside0.mk hb3
      clear hg3 hb3 HG2 HB2
      obtain ⟨T, hT⟩ : ∃ T, T = l0.take (N + 2) := ⟨_, rfl⟩
      obtain ⟨M, hM⟩ : ∃ M, M = (l0.take (N + 2)).drop 2 := ⟨_, rfl⟩
      have hTl : T.length = N + 2 := by rw [hT, List.length_take]; omega
      have hMl : M.length = N := by rw [hM, List.length_drop, List.length_take]; omega
      obtain ⟨hcut3, hC3, hc3⟩ := print_take_of (P := Try.prog) (Value.int .u8) (0 : Int) 23 5 .i64 Try.underlying23 hi0 hsz (some ad) c0 l0 ((N : Int) + 2) (by omega) (by omega) HC.out
      obtain ⟨A4, hcut4, hC4, hc4⟩ := print_mid_of (P := Try.prog) (Value.int .u8) (0 : Int) 23 5 .i64 .i64 Try.underlying23 hi0 hsz (some ad) c0 l0 2 ((N : Int) + 2) (by omega) (by omega) (by omega) HC.out
      have e3 : ((N : Int) + 2).toNat = N + 2 := by omega
      have e2 : (2 : Int).toNat = 2 := rfl
      rw [e3, ← hT] at hcut3 hC3 hc3
      rw [e3, e2, ← hM] at hcut4 hC4 hc4
      have HT := Aside0.mk hT
      have HM := Aside0.mk hM
      have HTl := Aside0.mk hTl
      have HMl := Aside0.mk hMl
      have HC3 : Aside0 (Kd.C (Kd.int .u8) w (some ad) T.length T) := Aside0.mk (Kd.C_of_reads (d := (0 : Int)) (h1 := fun _ => rfl) (hC3 w (Kd.reads_of_C (d := (0 : Int)) HR.out)))
      have HC4 : Aside0 (Kd.C (Kd.int .u8) w A4 M.length M) := Aside0.mk (Kd.C_of_reads (d := (0 : Int)) (h1 := fun _ => rfl) (hC4 w (Kd.reads_of_C (d := (0 : Int)) HR.out)))
      have Hc3 := Aside0.mk hc3
      have Hc4 := Aside0.mk hc4
      clear hT hM hTl hMl hC3 hC4 hc3 hc4 e2 e3 hcut2 hsl4 hi0 hsz
      obtain ⟨f0, f1, f2, f3, hf⟩ : ∃ f0 f1 f2 f3, F = [f0, f1, f2, f3] := by
        have := HFl.out
        match F, this with
        | [a, b, c, d], _ => exact ⟨a, b, c, d, rfl⟩
      rw [hf] at HG3
      have HF2 := Aside0.mk hf
      clear hf
      obtain ⟨s, hs⟩ : ∃ s, s = crcSum T := ⟨_, rfl⟩
      have HS : Aside0 (codec_Sum.f T = some s) := ⟨by rw [hs]; rfl⟩
      have HS2 := Aside0.mk hs
      clear hs
      have HG3' : Aside0 (W3.heap[w.heap.size]? = some (.cells #[.int .u8 f0, .int .u8 f1, .int .u8 f2, .int .u8 f3] 43 (0, 0))) := HG3
      clear HG3
      have hgd := guard4
      have hnat : N + 2 ≤ l0.length := by omega
      by_cases hq : F = fourOf s
      · have hbq : (f0 == s % 256 && (f1 == s / 256 % 256 && (f2 == s / 65536 % 256 && f3 == s / 16777216 % 256))) = true := by
          have := HF2.out.symm.trans hq
          unfold fourOf at this
          simp only [List.cons.injEq, and_true] at this
          obtain ⟨a, b, c, d⟩ := this
          simp [← a, ← b, ← c, ← d]
        have hneq := fun wx => (neq4 wx f0 f1 f2 f3 (s % 256) (s / 256 % 256) (s / 65536 % 256) (s / 16777216 % 256)).trans (by rw [hbq])
        have HQ := Aside0.mk hq
        clear hbq hq
        go_wp2_with (first
          | (go_at_call 16; (with_reducible refine (codec_Sum.calls _ _ T s _ (Kd.C_below HC3.out HB3.out) Hc3.out HS.out).mono ?_); rintro e W4 ⟨rfl, hb4⟩; have HG4 := Aside0.mk ((hb4.block w.heap.size (blk_lt HG3'.out)).trans HG3'.out); have HB4 := Aside0.mk (below_then HB3.out HB3.out.size hb4); clear hb4)
          | (refine wpList_load_row rfl 43 _ rfl w.heap.size rfl 43 _ _ _ HG4.out Try.underlying43 rfl (by kernel_rfl) ?_)
          | (go_at_call 31; (with_reducible refine (bytes_Clone.calls _ _ M M _ (Kd.C_below HC4.out HB4.out) Hc4.out (by have := HMl.out; unfold bytes_Clone.f; rw [if_pos (by omega)])).mono ?_); rintro e W5 ⟨v5, rfl, ho5, hb5⟩; have HO5 := Aside0.mk ho5; have HB5 := Aside0.mk hb5; clear ho5 hb5))
        have h := H.out
        rw [← HF.out, ← HT.out, ← HS2.out, if_pos HQ.out] at h
        obtain ⟨rfl, rfl, rfl⟩ : (List.take (N + 2) l0).drop 2 = r1 ∧ (N : Int) + 6 = r2 ∧ 0 = r3 := by simpa [HT.out] using h
        go_ret3
        exact ⟨_, rfl, by rw [← HM.out]; exact Kd.R_lower HO5.out HB4.out.size, below_then HB4.out HB4.out.size HB5.out⟩
      · have hbq : (f0 == s % 256 && (f1 == s / 256 % 256 && (f2 == s / 65536 % 256 && f3 == s / 16777216 % 256))) = false := by
          rw [Bool.eq_false_iff]
          intro hh
          simp only [Bool.and_eq_true, beq_iff_eq] at hh
          obtain ⟨a, b, c, d⟩ := hh
          exact hq (HF2.out.trans (by unfold fourOf; rw [a, b, c, d]))
        have hneq := fun wx => (neq4 wx f0 f1 f2 f3 (s % 256) (s / 256 % 256) (s / 65536 % 256) (s / 16777216 % 256)).trans (by rw [hbq])
        have HQ := Aside0.mk hq
        clear hbq hq
        go_wp2_with (first
          | (go_at_call 16; (with_reducible refine (codec_Sum.calls _ _ T s _ (Kd.C_below HC3.out HB3.out) Hc3.out HS.out).mono ?_); rintro e W4 ⟨rfl, hb4⟩; have HG4 := Aside0.mk ((hb4.block w.heap.size (blk_lt HG3'.out)).trans HG3'.out); have HB4 := Aside0.mk (below_then HB3.out HB3.out.size hb4); clear hb4)
          | (refine wpList_load_row rfl 43 _ rfl w.heap.size rfl 43 _ _ _ HG4.out Try.underlying43 rfl (by kernel_rfl) ?_))
        have h := H.out
        rw [← HF.out, ← HT.out, ← HS2.out, if_neg HQ.out] at h
        obtain ⟨rfl, rfl, rfl⟩ : [] = r1 ∧ 0 = r2 ∧ 9 = r3 := by simpa using h
        go_ret3
        exact ⟨_, rfl, Kd.R_nil _ _ _ _ _, HB4.out⟩
end Go.Proofs.YtonhinepgkommaaH
