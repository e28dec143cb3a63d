-- Printed by this session's driver (xprint.py) over the kit's printer, out of the translation; some callees' contracts are proved by hand.
import Derived.Test.YtonhinepgkommaaQ0
import Derived.Test.YtonhinepgkommaaHHead
namespace Go.Proofs.Ytonhinepgkommaa.Q
open Go.RowKit Go.Proofs.YtonhinepgkommaaH Go.Proofs.YtonhinepgkommaaW.PrintWords Go.Proofs.YtonhinepgkommaaW.PrintLast Go.Proofs.YtonhinepgkommaaW.PrintMore
attribute [local go_sem] max2_int min2_int max_two min_two max_three min_three max_four min_four   -- for this text's walks alone
set_option linter.unusedVariables false
set_option linter.unusedSimpArgs false

/-! ### codec_Digest: function 19 -/
def codec_Digest.l0 : Nat → Int → List Int → Int → Int → Option (Int)
  | 0, _, _, _, _ => none
  | k + 1, x3, x10, x11, x12 => if x12 < x11 then (if 0 ≤ x12 then (if x12 < (x10.length : Int) then (codec_Digest.l0 k (Go.bits .xor .u64 (IntKind.u64.wrap ((Go.bits .xor .u64 x3 (IntKind.u64.wrap (rd x10 x12))) * 11507291218515648293)) ((IntKind.u64.wrap ((Go.bits .xor .u64 x3 (IntKind.u64.wrap (rd x10 x12))) * 11507291218515648293)) / 4294967296)) x10 x11 (wrap64 (x12 + 1))) else (none)) else (none)) else (some x3)
def codec_Digest.f (k : Nat) (l0 : List Int) : Option (Int) := codec_Digest.l0 k (IntKind.u64.wrap (11400714819323198485 + (IntKind.u64.wrap ((l0.length : Int))))) l0 (l0.length : Int) 0
theorem codec_Digest.mono_l : ∀ k, (∀ y0 y1 y2 y3, LeO (codec_Digest.l0 k y0 y1 y2 y3) (codec_Digest.l0 (k + 1) y0 y1 y2 y3))
  | 0 => fun _ _ _ _ r h => by simp [codec_Digest.l0] at h
  | k + 1 => by
    have ih0 := codec_Digest.mono_l k
    · intro y0 y1 y2 y3
      unfold codec_Digest.l0
      repeat' first
      | (with_reducible exact ih0 _ _ _ _)
      | (with_reducible exact LeO.refl _)
      | (with_reducible exact LeO.none _)
      | (with_reducible refine LeO.ite ?_ ?_)
      | (with_reducible refine LeO.bind ?_ (fun _ => ?_))
      | exact ih0 _ _ _ _
      | exact LeO.none _
      | refine LeO.ite ?_ ?_
      | refine LeO.bind ?_ (fun _ => ?_)
theorem codec_Digest.mono : ∀ a0 k, LeO (codec_Digest.f k a0) (codec_Digest.f (k + 1) a0) := by
  intro a0 k
  have ih0 := codec_Digest.mono_l k
  unfold codec_Digest.f
  repeat' first
      | (with_reducible exact ih0 _ _ _ _)
      | (with_reducible exact LeO.refl _)
      | (with_reducible exact LeO.none _)
      | (with_reducible refine LeO.ite ?_ ?_)
      | (with_reducible refine LeO.bind ?_ (fun _ => ?_))
      | exact ih0 _ _ _ _
      | exact LeO.none _
      | refine LeO.ite ?_ ?_
      | refine LeO.bind ?_ (fun _ => ?_)
set_option maxHeartbeats 8000000 in
set_option maxRecDepth 100000 in
theorem codec_Digest.calls (k : Nat) (A0 : Option Addr) (c0 : Nat) (l0 : List Int) (r : Int) (w : World) (hr0 : Kd.C (Kd.int .i64) w A0 l0.length l0) (hc0 : l0.length ≤ c0) (h : codec_Digest.f k l0 = some r) :
    Calls Try.prog 19 #[.slice A0 l0.length c0] w fun e w' => e = .returned (.int .u64 r) ∧ Drawn0 w w' := by
  have HR0 := Aside0.mk hr0
  have HC0 := Aside0.mk hc0
  clear hr0 hc0
  have H : (codec_Digest.l0 k (IntKind.u64.wrap (11400714819323198485 + (IntKind.u64.wrap ((l0.length : Int))))) l0 (l0.length : Int) 0) = some r := h
  clear h
  have H' := Aside0.mk H
  clear H
  go_enter Try.func19, Try.ntmps19
  go_wp2
  go_loopg [3, 12] k (fun kq v3 v12 w' => ∃ (x3_1 : Int) (x12_1 : Int), v3 = .int .u64 x3_1 ∧ v12 = .int .i64 x12_1 ∧ Aside0 (codec_Digest.l0 kq x3_1 l0 (l0.length : Int) x12_1 = some r) ∧ Aside0 (kq ≤ k) ∧ Drawn0 w w')
  case atStart => exact ⟨(IntKind.u64.wrap (11400714819323198485 + (IntKind.u64.wrap ((l0.length : Int))))), (0), (by first | rfl | (simp; done) | (simp [*]; done)), (by first | rfl | (simp; done) | (simp [*]; done)), H', ⟨Nat.le_refl _⟩, by repeat (first | exact Drawn0.refl _ | apply Drawn0.step)⟩
  case round =>
    clear H'
    try clear c1
    obtain ⟨x3_1, x12_1, rfl, rfl, HA, HK1, ⟨m1, rfl⟩⟩ := hrel
    cases gk with
    | zero => exact absurd HA.out (by simp [codec_Digest.l0])
    | succ k1 =>
      have H := HA.out
      clear HA
      simp only [codec_Digest.l0] at H
      by_cases c2 : x12_1 < (l0.length : Int)
      · rw [if_pos c2] at H
        have c2b0 : decide (x12_1 < (l0.length : Int)) = true := decide_eq_true c2
        clear c2
        by_cases c3 : 0 ≤ x12_1
        · rw [if_pos c3] at H
          have c3b0 : decide (0 ≤ x12_1) = true := decide_eq_true c3
          clear c3
          by_cases c4 : x12_1 < (l0.length : Int)
          · rw [if_pos c4] at H
            have c4b0 : decide (x12_1 < (l0.length : Int)) = true := decide_eq_true c4
            clear c4
            have H' := Aside0.mk H
            clear H
            have p277 : 0 ≤ (x12_1 : Int) := of_decide_eq_true (by first | (with_reducible assumption) | assumption)
            have q277 : x12_1 < (l0.length : Int) := of_decide_eq_true (by first | (with_reducible assumption) | assumption)
            obtain ⟨ad277, e277, hx277_0⟩ := Kd.at_int HR0.out x12_1 p277 q277
            cases e277
            replace p277 := eq_true p277
            replace q277 := eq_true q277
            go_wp2
            go_roundg k1
            case measure => have := HK1.out; omega
            case rel => exact ⟨(Go.bits .xor .u64 (IntKind.u64.wrap ((Go.bits .xor .u64 x3_1 (IntKind.u64.wrap (rd l0 x12_1))) * 11507291218515648293)) ((IntKind.u64.wrap ((Go.bits .xor .u64 x3_1 (IntKind.u64.wrap (rd l0 x12_1))) * 11507291218515648293)) / 4294967296)), (wrap64 (x12_1 + 1)), (by first | rfl | (simp; done) | (simp [*]; done)), (by first | rfl | (simp; done) | (simp [*]; done)), H', ⟨by have := HK1.out; omega⟩, by repeat (first | exact Drawn0.refl _ | apply Drawn0.step)⟩
          · rw [if_neg c4] at H
            exact absurd H (by simp)
        · rw [if_neg c3] at H
          exact absurd H (by simp)
      · rw [if_neg c2] at H
        have c2b0 : decide (x12_1 < (l0.length : Int)) = false := decide_eq_false c2
        clear c2
        obtain rfl := Option.some.inj H
        go_wp2
        go_ret
        exact ⟨by first | rfl | (simp; done) | (simp [*]; done), by repeat (first | exact Drawn0.refl _ | apply Drawn0.step)⟩

/-! ### codec_Join: function 20 -/
def codec_Join.f (k : Nat) (a0 : Int) (a1 : Int) : Option (Int) := (codec_Digest.f k (([2, wrap64 (a0), wrap64 (a1)] : List Int))).bind fun t281 => (some t281)
theorem codec_Join.mono : ∀ a0 a1 k, LeO (codec_Join.f k a0 a1) (codec_Join.f (k + 1) a0 a1) := by
  intro a0 a1 k
  unfold codec_Join.f
  repeat' first
      | (with_reducible exact codec_Digest.mono _ _)
      | (with_reducible exact LeO.refl _)
      | (with_reducible exact LeO.none _)
      | (with_reducible refine LeO.ite ?_ ?_)
      | (with_reducible refine LeO.bind ?_ (fun _ => ?_))
      | exact codec_Digest.mono _ _
      | exact LeO.none _
      | refine LeO.ite ?_ ?_
      | refine LeO.bind ?_ (fun _ => ?_)
set_option maxHeartbeats 8000000 in
set_option maxRecDepth 100000 in
theorem codec_Join.calls (k : Nat) (a0 : Int) (a1 : Int) (r : Int) (w : World) (h : codec_Join.f k a0 a1 = some r) :
    Calls Try.prog 20 #[.int .u64 a0, .int .u64 a1] w fun e w' => e = .returned (.int .u64 r) ∧ Below w.heap.size w w' := by
  have HB := Aside0.mk (Below.refl w.heap.size w)
  have H : ((codec_Digest.f k (([2, wrap64 (a0), wrap64 (a1)] : List Int))).bind fun t281 => (some t281)) = some r := h
  clear h
  obtain ⟨y278, hy278⟩ : ∃ y_ : List Int, y_ = (([2, wrap64 (a0), wrap64 (a1)] : List Int)) := ⟨_, rfl⟩
  replace H : ((codec_Digest.f k y278).bind fun t281 => (some t281)) = some r := by first | (rw [hy278]; with_reducible exact H) | (have H2_ := (Option.bind_some _ _).symm.trans H; rw [hy278]; with_reducible exact H2_) | (have H2_ := (Option.bind_some _ _).symm.trans H; with_reducible exact H2_) | with_reducible exact H | (rw [hy278]; exact H) | exact H
  have Ny278 := Aside0.mk hy278
  clear hy278
  replace H := Option.bind_eq_some_iff.mp H
  obtain ⟨t281, A30, H⟩ := H
  replace H : (some t281) = some r := H
  have A3 := Aside0.mk A30
  clear A30
  obtain rfl := Option.some.inj H
  go_enter Try.func20, Try.ntmps20
  go_wp2_with (first | ((with_reducible refine gate_dst (N := 9) rfl ?_); refine Kd.R_lit (Kd.int .i64) _ 3 ?hg (N := 9) ?hd (xs := ([2, wrap64 (a0), wrap64 (a1)] : List Int)) (inner := [.int .i64 2, .int .i64 (wrap64 (a0)), .int .i64 (wrap64 (a1))]) (ok := fun _ => True) (okp := fun _ => True) ?hr ?hp (fun _ hk => hk) trivial (Below.refl _ _) (Nat.le_refl _) (by simp) ?_; (case hd => rfl); (case hg => rfl); (case hr => first | (go_simp; done) | (go_simp; rfl)); (case hp => exact (Reps.one (show Kd.M (Kd.int .i64) _ _ _ 2 [.int .i64 2] from rfl) (Reps.one (show Kd.M (Kd.int .i64) _ _ _ (wrap64 (a0)) [.int .i64 (wrap64 (a0))] from rfl) (Reps.one (show Kd.M (Kd.int .i64) _ _ _ (wrap64 (a1)) [.int .i64 (wrap64 (a1))] from rfl) (Reps.none _ _))))); intro v279 w4 ho5 hb hg_ hnew_; clear hg_ hnew_; (first | rw [← Ny278.out] at ho5 | (simp only [Int.reduceToNat] at ho5; rw [← Ny278.out] at ho5)); have n0_ := Aside0.mk (Kd.R_lower ho5 (below_size (by repeat (first | (with_reducible first | exact HB.out | apply below_alloc | apply pw_below_drewN | apply below_drew1) | exact HB.out)))); have n1_ := Aside0.mk (below_step (by repeat (first | (with_reducible first | exact HB.out | apply below_alloc | apply pw_below_drewN | apply below_drew1) | exact HB.out)) hb); clear HB; have HO280 := n0_; have HB := n1_; clear n0_ n1_; clear hb ho5; obtain ⟨Ao6, co6, eo6⟩ := Kd.R_slice HO280.out; subst eo6) | ((with_reducible refine gate_callee (f := 19) rfl ?_); refine goesL_ (some 10) rfl rfl Try.func19 (by kernel_rfl) rfl #[.slice Ao6 y278.length co6] rfl (by (try simp only [List.map_toArray, List.map_cons, List.map_nil]); first | done | rfl | (simp only [List.length_drop, List.length_take]; rfl)) ?_; (with_reducible refine (codec_Digest.calls k _ _ y278 t281 _ ?side1 ?side2 A3.out).mono ?_); (case side1 => repeat (first | exact (Kd.R_reads' HO280.out).2.2 | (with_reducible refine Kd.C_alloc ?_ _) | (with_reducible refine Kd.C_drewN ?_ _) | (with_reducible refine Kd.C_drew ?_))); (case side2 => exact (Kd.R_reads' HO280.out).2.1); rintro e w' ⟨rfl, ⟨nd, rfl⟩⟩; refine ⟨_, rfl, ?_⟩))
  go_ret
  exact ⟨by first | rfl | (simp [errW_none, errW_some] <;> rfl) | (simp [*, errW_none, errW_some] <;> rfl) | (simp [Option.some.inj (A36.out.symm.trans A39.out)]), by repeat (first | (with_reducible first | exact HB.out | apply below_alloc | apply pw_below_drewN | apply below_drew1) | exact HB.out)⟩

/-! ### seamarklaw08_CodecDigests: function 9 -/
mutual
def seamarklaw08_CodecDigests.j0 : Nat → List Int → Int → Int → List Int → Int → Int → Int → Bool → Bool → Option (Bool)
  | 0, _, _, _, _, _, _, _, _, _ => none
  | k + 1, x0, x1, x2, x3, x4, x5, x6, x15, x26 => if x26 = true then (some x15) else ((some (([] : List Int) : List Int)).bind fun y283 => (if y283.length + x0.length < 17592186044416 then ((some (y283 ++ x0 : List Int)).bind fun y286 => (if y286.length < 17592186044416 then ((some (y286 ++ [x1] : List Int)).bind fun y289 => (if y289.length + x3.length < 17592186044416 then ((some (([] : List Int) : List Int)).bind fun y295 => (if y295.length + x0.length < 17592186044416 then ((some (y295 ++ x0 : List Int)).bind fun y298 => (if y298.length < 17592186044416 then ((some (y298 ++ [x2] : List Int)).bind fun y301 => (if y301.length + x3.length < 17592186044416 then (if x15 = true then ((codec_Digest.f k (y289 ++ x3)).bind fun t307 => ((codec_Digest.f k (y301 ++ x3)).bind fun t308 => (seamarklaw08_CodecDigests.j1 k x4 x5 x6 ((t307 == t308) == (x1 == x2))))) else (seamarklaw08_CodecDigests.j1 k x4 x5 x6 false)) else (none))) else (none))) else (none))) else (none))) else (none))) else (none)))
def seamarklaw08_CodecDigests.j1 : Nat → Int → Int → Int → Bool → Option (Bool)
  | 0, _, _, _, _ => none
  | k + 1, x4, x5, x6, x15 => if x15 = true then ((codec_Join.f k x4 x5).bind fun t309 => ((codec_Join.f k x6 x5).bind fun t310 => (if ((t309 == t310) == (x4 == x6)) = true then ((codec_Join.f k x4 x5).bind fun t311 => ((codec_Join.f k x4 x6).bind fun t312 => (some ((t311 == t312) == (x5 == x6))))) else (some false)))) else (some false)
end
def seamarklaw08_CodecDigests.f (k : Nat) (l0 : List Int) (a1 : Int) (a2 : Int) (l3 : List Int) (a4 : Int) (a5 : Int) (a6 : Int) : Option (Bool) := (seamarklaw08_head.f).bind fun t282 => (if (l0.length : Int) > 100000 then (seamarklaw08_CodecDigests.j0 k l0 a1 a2 l3 a4 a5 a6 t282 true) else (seamarklaw08_CodecDigests.j0 k l0 a1 a2 l3 a4 a5 a6 t282 (decide ((l3.length : Int) > 100000))))
theorem seamarklaw08_CodecDigests.mono_l : ∀ k, (∀ y0 y1 y2 y3 y4 y5 y6 y7 y8, LeO (seamarklaw08_CodecDigests.j0 k y0 y1 y2 y3 y4 y5 y6 y7 y8) (seamarklaw08_CodecDigests.j0 (k + 1) y0 y1 y2 y3 y4 y5 y6 y7 y8)) ∧ (∀ y0 y1 y2 y3, LeO (seamarklaw08_CodecDigests.j1 k y0 y1 y2 y3) (seamarklaw08_CodecDigests.j1 (k + 1) y0 y1 y2 y3))
  | 0 => ⟨fun _ _ _ _ _ _ _ _ _ r h => by simp [seamarklaw08_CodecDigests.j0] at h, fun _ _ _ _ r h => by simp [seamarklaw08_CodecDigests.j1] at h⟩
  | k + 1 => by
    obtain ⟨ih0, ih1⟩ := seamarklaw08_CodecDigests.mono_l k
    refine ⟨?_, ?_⟩
    · intro y0 y1 y2 y3 y4 y5 y6 y7 y8
      unfold seamarklaw08_CodecDigests.j0
      repeat' first
      | (with_reducible exact ih0 _ _ _ _ _ _ _ _ _)
      | (with_reducible exact ih1 _ _ _ _)
      | (with_reducible exact codec_Digest.mono _ _)
      | (with_reducible exact codec_Join.mono _ _ _)
      | (with_reducible exact LeO.refl _)
      | (with_reducible exact LeO.none _)
      | (with_reducible refine LeO.ite ?_ ?_)
      | (with_reducible refine LeO.bind ?_ (fun _ => ?_))
      | exact ih0 _ _ _ _ _ _ _ _ _
      | exact ih1 _ _ _ _
      | exact codec_Digest.mono _ _
      | exact codec_Join.mono _ _ _
      | exact LeO.none _
      | refine LeO.ite ?_ ?_
      | refine LeO.bind ?_ (fun _ => ?_)
    · intro y0 y1 y2 y3
      unfold seamarklaw08_CodecDigests.j1
      repeat' first
      | (with_reducible exact ih0 _ _ _ _ _ _ _ _ _)
      | (with_reducible exact ih1 _ _ _ _)
      | (with_reducible exact codec_Digest.mono _ _)
      | (with_reducible exact codec_Join.mono _ _ _)
      | (with_reducible exact LeO.refl _)
      | (with_reducible exact LeO.none _)
      | (with_reducible refine LeO.ite ?_ ?_)
      | (with_reducible refine LeO.bind ?_ (fun _ => ?_))
      | exact ih0 _ _ _ _ _ _ _ _ _
      | exact ih1 _ _ _ _
      | exact codec_Digest.mono _ _
      | exact codec_Join.mono _ _ _
      | exact LeO.none _
      | refine LeO.ite ?_ ?_
      | refine LeO.bind ?_ (fun _ => ?_)
theorem seamarklaw08_CodecDigests.mono : ∀ a0 a1 a2 a3 a4 a5 a6 k, LeO (seamarklaw08_CodecDigests.f k a0 a1 a2 a3 a4 a5 a6) (seamarklaw08_CodecDigests.f (k + 1) a0 a1 a2 a3 a4 a5 a6) := by
  intro a0 a1 a2 a3 a4 a5 a6 k
  obtain ⟨ih0, ih1⟩ := seamarklaw08_CodecDigests.mono_l k
  unfold seamarklaw08_CodecDigests.f
  repeat' first
      | (with_reducible exact ih0 _ _ _ _ _ _ _ _ _)
      | (with_reducible exact ih1 _ _ _ _)
      | (with_reducible exact codec_Digest.mono _ _)
      | (with_reducible exact codec_Join.mono _ _ _)
      | (with_reducible exact LeO.refl _)
      | (with_reducible exact LeO.none _)
      | (with_reducible refine LeO.ite ?_ ?_)
      | (with_reducible refine LeO.bind ?_ (fun _ => ?_))
      | exact ih0 _ _ _ _ _ _ _ _ _
      | exact ih1 _ _ _ _
      | exact codec_Digest.mono _ _
      | exact codec_Join.mono _ _ _
      | exact LeO.none _
      | refine LeO.ite ?_ ?_
      | refine LeO.bind ?_ (fun _ => ?_)
set_option maxHeartbeats 8000000 in
set_option maxRecDepth 100000 in
theorem seamarklaw08_CodecDigests.calls (k : Nat) (A0 : Option Addr) (c0 : Nat) (l0 : List Int) (a1 : Int) (a2 : Int) (A3 : Option Addr) (c3 : Nat) (l3 : List Int) (a4 : Int) (a5 : Int) (a6 : Int) (r : Bool) (w : World) (hr0 : Kd.C (Kd.int .i64) w A0 l0.length l0) (hc0 : l0.length ≤ c0) (hr3 : Kd.C (Kd.int .i64) w A3 l3.length l3) (hc3 : l3.length ≤ c3) (h : seamarklaw08_CodecDigests.f k l0 a1 a2 l3 a4 a5 a6 = some r) :
    Calls Try.prog 9 #[.slice A0 l0.length c0, .int .i64 a1, .int .i64 a2, .slice A3 l3.length c3, .int .u64 a4, .int .u64 a5, .int .u64 a6] w fun e w' => e = .returned (.bool r) ∧ Below w.heap.size w w' := by
  have HR0 := Aside0.mk hr0
  have HC0 := Aside0.mk hc0
  clear hr0 hc0
  have HR3 := Aside0.mk hr3
  have HC3 := Aside0.mk hc3
  clear hr3 hc3
  have HB := Aside0.mk (Below.refl w.heap.size w)
  have H : ((seamarklaw08_head.f).bind fun t282 => (if (l0.length : Int) > 100000 then (seamarklaw08_CodecDigests.j0 k l0 a1 a2 l3 a4 a5 a6 t282 true) else (seamarklaw08_CodecDigests.j0 k l0 a1 a2 l3 a4 a5 a6 t282 (decide ((l3.length : Int) > 100000))))) = some r := h
  clear h
  replace H := Option.bind_eq_some_iff.mp H
  obtain ⟨t282, A80, H⟩ := H
  replace H : (if (l0.length : Int) > 100000 then (seamarklaw08_CodecDigests.j0 k l0 a1 a2 l3 a4 a5 a6 t282 true) else (seamarklaw08_CodecDigests.j0 k l0 a1 a2 l3 a4 a5 a6 t282 (decide ((l3.length : Int) > 100000)))) = some r := H
  have A8 := Aside0.mk A80
  clear A80
  have HC9 := Aside0.mk H
  clear H
  go_enter Try.func9, Try.ntmps9
  go_upto_region 2 with (first | ((with_reducible refine gate_callee (f := 11) rfl ?_); refine goesL_ (some 18) rfl rfl Try.func11 (by kernel_rfl) rfl #[] rfl (by (try simp only [List.map_toArray, List.map_cons, List.map_nil]); first | done | rfl | (simp only [List.length_drop, List.length_take]; rfl)) ?_; (with_reducible refine (seamarklaw08_head.calls  t282 _ A8.out).mono ?_); rintro e w10 ⟨rfl, hb⟩; refine ⟨_, rfl, ?_⟩; have n0_ := Aside0.mk (below_step (by repeat (first | (with_reducible first | exact HB.out | apply below_alloc | apply pw_below_drewN | apply below_drew1) | exact HB.out)) hb); clear HB; have HB := n0_; clear n0_; (try clear hb); (try clear hb2); (try clear hk); (try clear hi)))
  (try simp only [Act.put, List.setIfInBounds_toArray, List.set_cons_zero, List.set_cons_succ])
  go_cut [26] (fun v26 wc => ∃ (kq : Nat) (x26_8 : Bool), v26 = .bool x26_8 ∧ Aside0 (seamarklaw08_CodecDigests.j0 kq l0 a1 a2 l3 a4 a5 a6 t282 x26_8 = some r) ∧ Aside0 (kq ≤ k) ∧ Aside0 (Below w.heap.size w wc))
  case first =>
    have H := HC9.out
    clear HC9
    by_cases c11 : (l0.length : Int) > 100000
    · rw [if_pos c11] at H
      have c11b0 : decide (100000 < (l0.length : Int)) = true := decide_eq_true c11
      have c11b1 : decide (100000 < l0.length) = true := decide_eq_true (by omega)
      clear c11
      (first | rw [c11b0] | (simp only [i64_w, i32_w]; rw [c11b0]) | skip)
      have H' := Aside0.mk H
      clear H
      go_wp2
      go_meet
      case rel => exact ⟨_, (true), (by first | rfl | (simp; done) | (simp [*]; done)), H', ⟨by first | omega | exact Nat.le_refl _⟩, ⟨by repeat (first | (with_reducible first | exact HB.out | apply below_alloc | apply pw_below_drewN | apply below_drew1) | exact HB.out)⟩⟩
    · rw [if_neg c11] at H
      have c11b0 : decide (100000 < (l0.length : Int)) = false := decide_eq_false c11
      have c11b1 : decide (100000 < l0.length) = false := decide_eq_false (by omega)
      clear c11
      (first | rw [c11b0] | (simp only [i64_w, i32_w]; rw [c11b0]) | skip)
      have H' := Aside0.mk H
      clear H
      go_wp2
      go_meet
      case rel => exact ⟨_, (decide ((l3.length : Int) > 100000)), (by first | rfl | (simp; done) | (simp [*]; done)), H', ⟨by first | omega | exact Nat.le_refl _⟩, ⟨by repeat (first | (with_reducible first | exact HB.out | apply below_alloc | apply pw_below_drewN | apply below_drew1) | exact HB.out)⟩⟩
  case rest =>
    clear HC9
    try clear c1
    try clear p2
    try clear c3
    try clear c9
    try clear c11
    try clear c11b0
    try clear c11b1
    obtain ⟨kq, x26_8, rfl, HA, HJ8, HB⟩ := hcut
    cases kq with
    | zero => exact absurd HA.out (by simp [seamarklaw08_CodecDigests.j0])
    | succ kj8 =>
      have H := HA.out
      clear HA
      simp only [seamarklaw08_CodecDigests.j0] at H
      by_cases c12 : x26_8 = true
      · subst c12
        have H1 : (some t282) = some r := by rw [if_pos rfl] at H; exact H
        clear H
        have H := H1
        clear H1
        obtain rfl := Option.some.inj H
        go_wp2
        go_ret
        exact ⟨by first | rfl | (simp [errW_none, errW_some] <;> rfl) | (simp [*, errW_none, errW_some] <;> rfl) | (simp [Option.some.inj (A36.out.symm.trans A39.out)]), by repeat (first | (with_reducible first | exact HB.out | apply below_alloc | apply pw_below_drewN | apply below_drew1) | exact HB.out)⟩
      · replace c12 := Bool.eq_false_iff.mpr c12
        subst c12
        have H1 : ((some (([] : List Int) : List Int)).bind fun y283 => (if y283.length + l0.length < 17592186044416 then ((some (y283 ++ l0 : List Int)).bind fun y286 => (if y286.length < 17592186044416 then ((some (y286 ++ [a1] : List Int)).bind fun y289 => (if y289.length + l3.length < 17592186044416 then ((some (([] : List Int) : List Int)).bind fun y295 => (if y295.length + l0.length < 17592186044416 then ((some (y295 ++ l0 : List Int)).bind fun y298 => (if y298.length < 17592186044416 then ((some (y298 ++ [a2] : List Int)).bind fun y301 => (if y301.length + l3.length < 17592186044416 then (if t282 = true then ((codec_Digest.f kj8 (y289 ++ l3)).bind fun t307 => ((codec_Digest.f kj8 (y301 ++ l3)).bind fun t308 => (seamarklaw08_CodecDigests.j1 kj8 a4 a5 a6 ((t307 == t308) == (a1 == a2))))) else (seamarklaw08_CodecDigests.j1 kj8 a4 a5 a6 false)) else (none))) else (none))) else (none))) else (none))) else (none))) else (none))) = some r := by rw [if_neg (show ¬ (false = true) by decide)] at H; exact H
        clear H
        have H := H1
        clear H1
        obtain ⟨y283, hy283⟩ : ∃ y_ : List Int, y_ = (([] : List Int)) := ⟨_, rfl⟩
        replace H : (if y283.length + l0.length < 17592186044416 then ((some (y283 ++ l0 : List Int)).bind fun y286 => (if y286.length < 17592186044416 then ((some (y286 ++ [a1] : List Int)).bind fun y289 => (if y289.length + l3.length < 17592186044416 then ((some (([] : List Int) : List Int)).bind fun y295 => (if y295.length + l0.length < 17592186044416 then ((some (y295 ++ l0 : List Int)).bind fun y298 => (if y298.length < 17592186044416 then ((some (y298 ++ [a2] : List Int)).bind fun y301 => (if y301.length + l3.length < 17592186044416 then (if t282 = true then ((codec_Digest.f kj8 (y289 ++ l3)).bind fun t307 => ((codec_Digest.f kj8 (y301 ++ l3)).bind fun t308 => (seamarklaw08_CodecDigests.j1 kj8 a4 a5 a6 ((t307 == t308) == (a1 == a2))))) else (seamarklaw08_CodecDigests.j1 kj8 a4 a5 a6 false)) else (none))) else (none))) else (none))) else (none))) else (none))) else (none)) = some r := by first | (rw [hy283]; with_reducible exact H) | (have H2_ := (Option.bind_some _ _).symm.trans H; rw [hy283]; with_reducible exact H2_) | (have H2_ := (Option.bind_some _ _).symm.trans H; with_reducible exact H2_) | with_reducible exact H | (rw [hy283]; exact H) | exact H
        have Ny283 := Aside0.mk hy283
        clear hy283
        by_cases c13 : y283.length + l0.length < 17592186044416
        · rw [if_pos c13] at H
          have LMc13 := Aside0.mk c13
          clear c13
          obtain ⟨y286, hy286⟩ : ∃ y_ : List Int, y_ = (y283 ++ l0) := ⟨_, rfl⟩
          replace H : (if y286.length < 17592186044416 then ((some (y286 ++ [a1] : List Int)).bind fun y289 => (if y289.length + l3.length < 17592186044416 then ((some (([] : List Int) : List Int)).bind fun y295 => (if y295.length + l0.length < 17592186044416 then ((some (y295 ++ l0 : List Int)).bind fun y298 => (if y298.length < 17592186044416 then ((some (y298 ++ [a2] : List Int)).bind fun y301 => (if y301.length + l3.length < 17592186044416 then (if t282 = true then ((codec_Digest.f kj8 (y289 ++ l3)).bind fun t307 => ((codec_Digest.f kj8 (y301 ++ l3)).bind fun t308 => (seamarklaw08_CodecDigests.j1 kj8 a4 a5 a6 ((t307 == t308) == (a1 == a2))))) else (seamarklaw08_CodecDigests.j1 kj8 a4 a5 a6 false)) else (none))) else (none))) else (none))) else (none))) else (none)) = some r := by first | (rw [hy286]; with_reducible exact H) | (have H2_ := (Option.bind_some _ _).symm.trans H; rw [hy286]; with_reducible exact H2_) | (have H2_ := (Option.bind_some _ _).symm.trans H; with_reducible exact H2_) | with_reducible exact H | (rw [hy286]; exact H) | exact H
          have Ny286 := Aside0.mk hy286
          clear hy286
          by_cases c14 : y286.length < 17592186044416
          · rw [if_pos c14] at H
            have LMc14 := Aside0.mk c14
            clear c14
            obtain ⟨y289, hy289⟩ : ∃ y_ : List Int, y_ = (y286 ++ [a1]) := ⟨_, rfl⟩
            replace H : (if y289.length + l3.length < 17592186044416 then ((some (([] : List Int) : List Int)).bind fun y295 => (if y295.length + l0.length < 17592186044416 then ((some (y295 ++ l0 : List Int)).bind fun y298 => (if y298.length < 17592186044416 then ((some (y298 ++ [a2] : List Int)).bind fun y301 => (if y301.length + l3.length < 17592186044416 then (if t282 = true then ((codec_Digest.f kj8 (y289 ++ l3)).bind fun t307 => ((codec_Digest.f kj8 (y301 ++ l3)).bind fun t308 => (seamarklaw08_CodecDigests.j1 kj8 a4 a5 a6 ((t307 == t308) == (a1 == a2))))) else (seamarklaw08_CodecDigests.j1 kj8 a4 a5 a6 false)) else (none))) else (none))) else (none))) else (none)) = some r := by first | (rw [hy289]; with_reducible exact H) | (have H2_ := (Option.bind_some _ _).symm.trans H; rw [hy289]; with_reducible exact H2_) | (have H2_ := (Option.bind_some _ _).symm.trans H; with_reducible exact H2_) | with_reducible exact H | (rw [hy289]; exact H) | exact H
            have Ny289 := Aside0.mk hy289
            clear hy289
            by_cases c15 : y289.length + l3.length < 17592186044416
            · rw [if_pos c15] at H
              have LMc15 := Aside0.mk c15
              clear c15
              obtain ⟨y292, hy292⟩ : ∃ y_ : List Int, y_ = (y289 ++ l3) := ⟨_, rfl⟩
              replace H : ((some (([] : List Int) : List Int)).bind fun y295 => (if y295.length + l0.length < 17592186044416 then ((some (y295 ++ l0 : List Int)).bind fun y298 => (if y298.length < 17592186044416 then ((some (y298 ++ [a2] : List Int)).bind fun y301 => (if y301.length + l3.length < 17592186044416 then (if t282 = true then ((codec_Digest.f kj8 y292).bind fun t307 => ((codec_Digest.f kj8 (y301 ++ l3)).bind fun t308 => (seamarklaw08_CodecDigests.j1 kj8 a4 a5 a6 ((t307 == t308) == (a1 == a2))))) else (seamarklaw08_CodecDigests.j1 kj8 a4 a5 a6 false)) else (none))) else (none))) else (none))) = some r := by first | (rw [hy292]; with_reducible exact H) | (have H2_ := (Option.bind_some _ _).symm.trans H; rw [hy292]; with_reducible exact H2_) | (have H2_ := (Option.bind_some _ _).symm.trans H; with_reducible exact H2_) | with_reducible exact H | (rw [hy292]; exact H) | exact H
              have Ny292 := Aside0.mk hy292
              clear hy292
              obtain ⟨y295, hy295⟩ : ∃ y_ : List Int, y_ = (([] : List Int)) := ⟨_, rfl⟩
              replace H : (if y295.length + l0.length < 17592186044416 then ((some (y295 ++ l0 : List Int)).bind fun y298 => (if y298.length < 17592186044416 then ((some (y298 ++ [a2] : List Int)).bind fun y301 => (if y301.length + l3.length < 17592186044416 then (if t282 = true then ((codec_Digest.f kj8 y292).bind fun t307 => ((codec_Digest.f kj8 (y301 ++ l3)).bind fun t308 => (seamarklaw08_CodecDigests.j1 kj8 a4 a5 a6 ((t307 == t308) == (a1 == a2))))) else (seamarklaw08_CodecDigests.j1 kj8 a4 a5 a6 false)) else (none))) else (none))) else (none)) = some r := by first | (rw [hy295]; with_reducible exact H) | (have H2_ := (Option.bind_some _ _).symm.trans H; rw [hy295]; with_reducible exact H2_) | (have H2_ := (Option.bind_some _ _).symm.trans H; with_reducible exact H2_) | with_reducible exact H | (rw [hy295]; exact H) | exact H
              have Ny295 := Aside0.mk hy295
              clear hy295
              by_cases c16 : y295.length + l0.length < 17592186044416
              · rw [if_pos c16] at H
                have LMc16 := Aside0.mk c16
                clear c16
                obtain ⟨y298, hy298⟩ : ∃ y_ : List Int, y_ = (y295 ++ l0) := ⟨_, rfl⟩
                replace H : (if y298.length < 17592186044416 then ((some (y298 ++ [a2] : List Int)).bind fun y301 => (if y301.length + l3.length < 17592186044416 then (if t282 = true then ((codec_Digest.f kj8 y292).bind fun t307 => ((codec_Digest.f kj8 (y301 ++ l3)).bind fun t308 => (seamarklaw08_CodecDigests.j1 kj8 a4 a5 a6 ((t307 == t308) == (a1 == a2))))) else (seamarklaw08_CodecDigests.j1 kj8 a4 a5 a6 false)) else (none))) else (none)) = some r := by first | (rw [hy298]; with_reducible exact H) | (have H2_ := (Option.bind_some _ _).symm.trans H; rw [hy298]; with_reducible exact H2_) | (have H2_ := (Option.bind_some _ _).symm.trans H; with_reducible exact H2_) | with_reducible exact H | (rw [hy298]; exact H) | exact H
                have Ny298 := Aside0.mk hy298
                clear hy298
                by_cases c17 : y298.length < 17592186044416
                · rw [if_pos c17] at H
                  have LMc17 := Aside0.mk c17
                  clear c17
                  obtain ⟨y301, hy301⟩ : ∃ y_ : List Int, y_ = (y298 ++ [a2]) := ⟨_, rfl⟩
                  replace H : (if y301.length + l3.length < 17592186044416 then (if t282 = true then ((codec_Digest.f kj8 y292).bind fun t307 => ((codec_Digest.f kj8 (y301 ++ l3)).bind fun t308 => (seamarklaw08_CodecDigests.j1 kj8 a4 a5 a6 ((t307 == t308) == (a1 == a2))))) else (seamarklaw08_CodecDigests.j1 kj8 a4 a5 a6 false)) else (none)) = some r := by first | (rw [hy301]; with_reducible exact H) | (have H2_ := (Option.bind_some _ _).symm.trans H; rw [hy301]; with_reducible exact H2_) | (have H2_ := (Option.bind_some _ _).symm.trans H; with_reducible exact H2_) | with_reducible exact H | (rw [hy301]; exact H) | exact H
                  have Ny301 := Aside0.mk hy301
                  clear hy301
                  by_cases c18 : y301.length + l3.length < 17592186044416
                  · rw [if_pos c18] at H
                    have LMc18 := Aside0.mk c18
                    clear c18
                    obtain ⟨y304, hy304⟩ : ∃ y_ : List Int, y_ = (y301 ++ l3) := ⟨_, rfl⟩
                    replace H : (if t282 = true then ((codec_Digest.f kj8 y292).bind fun t307 => ((codec_Digest.f kj8 y304).bind fun t308 => (seamarklaw08_CodecDigests.j1 kj8 a4 a5 a6 ((t307 == t308) == (a1 == a2))))) else (seamarklaw08_CodecDigests.j1 kj8 a4 a5 a6 false)) = some r := by first | (rw [hy304]; with_reducible exact H) | (have H2_ := (Option.bind_some _ _).symm.trans H; rw [hy304]; with_reducible exact H2_) | (have H2_ := (Option.bind_some _ _).symm.trans H; with_reducible exact H2_) | with_reducible exact H | (rw [hy304]; exact H) | exact H
                    have Ny304 := Aside0.mk hy304
                    clear hy304
                    have HC19 := Aside0.mk H
                    clear H
                    go_upto_region 6 with (first | ((with_reducible refine gate_dst (N := 28) rfl ?_); (try (refine gate_guard (by rfl) ?_; dsimp only)); refine Kd.R_lit (Kd.int .i64) _ 3 ?hg (N := 28) ?hd (xs := ([] : List Int)) (inner := []) (ok := fun _ => True) (okp := fun _ => True) ?hr ?hp (fun _ hk => hk) trivial (Below.refl _ _) (Nat.le_refl _) (by simp) ?_; (case hd => rfl); (case hg => rfl); (case hr => first | (go_simp; done) | (go_simp; rfl)); (case hp => exact (Reps.none _ _)); intro v284 w20 ho21 hb hg_ hnew_; clear hg_ hnew_; (first | rw [← Ny283.out] at ho21 | (simp only [Int.reduceToNat] at ho21; rw [← Ny283.out] at ho21)); have n0_ := Aside0.mk (Kd.R_lower ho21 (below_size (by repeat (first | (with_reducible first | exact HB.out | apply below_alloc | apply pw_below_drewN | apply below_drew1) | exact HB.out)))); have n1_ := Aside0.mk (below_step (by repeat (first | (with_reducible first | exact HB.out | apply below_alloc | apply pw_below_drewN | apply below_drew1) | exact HB.out)) hb); clear HB; have HO285 := n0_; have HB := n1_; clear n0_ n1_; clear hb ho21) | ((with_reducible refine gate_builtin (b := .append) (xs := #[.tmp 28, .tmp 29]) rfl ?_); (try (refine gate_guard (by rfl) ?_; dsimp only)); at_builtin; refine Kd.R_append_rows (Kd.int .i64) (w0 := w) w.heap.size rfl (.tmp 28) (.tmp 29) 22 3 (.int .i64 0) 8 rfl Try.underlying22 info3 rfl (by decide) (by omega) v284 y283 l0 _ _ _ (fun _ => True) (fun _ => False) rfl rfl ?aO ?aR (fun _ _ h => h) (fun _ h => h.elim) ?aF ?aB ?aS ?aL ?_; (case aR => repeat (first | exact (Kd.C_below HR0.out HB.out) | (with_reducible refine Kd.C_alloc ?_ _) | (with_reducible refine Kd.C_drewN ?_ _) | (with_reducible refine Kd.C_drew ?_))); (case aB => exact (by repeat (first | (with_reducible first | exact HB.out | apply below_alloc | apply pw_below_drewN | apply below_drew1) | exact HB.out))); (case aF => exact (fun _ _ => trivial)); (case aO => exact (by (with_reducible repeat (first | apply Kd.R_alloc | apply Kd.R_drewN | apply Kd.R_drew)); exact HO285.out)); (case aS => exact (below_size (by repeat (first | (with_reducible first | exact HB.out | apply below_alloc | apply pw_below_drewN | apply below_drew1) | exact HB.out)))); (case aL => have := LMc13.out; omega); intro v287 w22 ho hb hg hat; rw [← Ny286.out] at ho; have n0_ := Aside0.mk (hb); have n1_ := Aside0.mk (ho); clear HB; clear HO285; have HB := n0_; have HO288 := n1_; clear n0_ n1_; clear ho hb hg hat) | ((with_reducible refine gate_builtin (b := .append) (xs := #[.tmp 30, .tmp 32]) rfl ?_); (try (refine gate_guard (by rfl) ?_; dsimp only)); at_builtin; refine Kd.R_append (Kd.int .i64) (w0 := w) w.heap.size rfl (.tmp 30) (.tmp 32) 22 3 (.int .i64 0) 8 rfl Try.underlying22 info3 rfl (by decide) (by omega) v287 y286 a1 [.int .i64 a1] (fun _ => True) (fun _ => False) rfl rfl ?aP (fun _ hk => hk.elim) ?aF ?aO ?aB ?aS ?aL ?_; (case aP => exact rfl); (case aB => exact (by repeat (first | (with_reducible first | exact HB.out | apply below_alloc | apply pw_below_drewN | apply below_drew1) | exact HB.out))); (case aF => exact (fun _ _ => trivial)); (case aO => exact (by (with_reducible repeat (first | apply Kd.R_alloc | apply Kd.R_drewN | apply Kd.R_drew)); exact HO288.out)); (case aS => exact (below_size (by repeat (first | (with_reducible first | exact HB.out | apply below_alloc | apply pw_below_drewN | apply below_drew1) | exact HB.out)))); (case aL => have := LMc14.out; omega); intro v290 w23 ho hb hg hat; rw [← Ny289.out] at ho; have n0_ := Aside0.mk (hb); have n1_ := Aside0.mk (ho); clear HB; clear HO288; have HB := n0_; have HO291 := n1_; clear n0_ n1_; clear ho hb hg hat) | ((with_reducible refine gate_builtin (b := .append) (xs := #[.tmp 33, .tmp 34]) rfl ?_); (try (refine gate_guard (by rfl) ?_; dsimp only)); at_builtin; refine Kd.R_append_rows (Kd.int .i64) (w0 := w) w.heap.size rfl (.tmp 33) (.tmp 34) 22 3 (.int .i64 0) 8 rfl Try.underlying22 info3 rfl (by decide) (by omega) v290 y289 l3 _ _ _ (fun _ => True) (fun _ => False) rfl rfl ?aO ?aR (fun _ _ h => h) (fun _ h => h.elim) ?aF ?aB ?aS ?aL ?_; (case aR => repeat (first | exact (Kd.C_below HR3.out HB.out) | (with_reducible refine Kd.C_alloc ?_ _) | (with_reducible refine Kd.C_drewN ?_ _) | (with_reducible refine Kd.C_drew ?_))); (case aB => exact (by repeat (first | (with_reducible first | exact HB.out | apply below_alloc | apply pw_below_drewN | apply below_drew1) | exact HB.out))); (case aF => exact (fun _ _ => trivial)); (case aO => exact (by (with_reducible repeat (first | apply Kd.R_alloc | apply Kd.R_drewN | apply Kd.R_drew)); exact HO291.out)); (case aS => exact (below_size (by repeat (first | (with_reducible first | exact HB.out | apply below_alloc | apply pw_below_drewN | apply below_drew1) | exact HB.out)))); (case aL => have := LMc15.out; omega); intro v293 w24 ho hb hg hat; rw [← Ny292.out] at ho; have n0_ := Aside0.mk (hb); have n1_ := Aside0.mk (ho); clear HB; clear HO291; have HB := n0_; have HO294 := n1_; clear n0_ n1_; clear ho hb hg hat) | ((with_reducible refine gate_dst (N := 36) rfl ?_); (try (refine gate_guard (by rfl) ?_; dsimp only)); refine Kd.R_lit (Kd.int .i64) _ 3 ?hg (N := 36) ?hd (xs := ([] : List Int)) (inner := []) (ok := fun _ => True) (okp := fun _ => True) ?hr ?hp (fun _ hk => hk) trivial (Below.refl _ _) (Nat.le_refl _) (by simp) ?_; (case hd => rfl); (case hg => rfl); (case hr => first | (go_simp; done) | (go_simp; rfl)); (case hp => exact (Reps.none _ _)); intro v296 w25 ho26 hb hg_ hnew_; clear hg_ hnew_; (first | rw [← Ny295.out] at ho26 | (simp only [Int.reduceToNat] at ho26; rw [← Ny295.out] at ho26)); have n0_ := Aside0.mk (Kd.R_elder' (by (with_reducible repeat (first | apply Kd.R_alloc | apply Kd.R_drewN | apply Kd.R_drew)); exact HO294.out) (Kd.R_base ho26) hb); have n1_ := Aside0.mk (Kd.R_lower (Kd.R_new' ho26 (Kd.R_lt (by (with_reducible repeat (first | apply Kd.R_alloc | apply Kd.R_drewN | apply Kd.R_drew)); exact HO294.out))) (below_size (by repeat (first | (with_reducible first | exact HB.out | apply below_alloc | apply pw_below_drewN | apply below_drew1) | exact HB.out)))); have n2_ := Aside0.mk (below_step (by repeat (first | (with_reducible first | exact HB.out | apply below_alloc | apply pw_below_drewN | apply below_drew1) | exact HB.out)) hb); clear HO294; clear HB; have HO294 := n0_; have HO297 := n1_; have HB := n2_; clear n0_ n1_ n2_; clear hb ho26) | ((with_reducible refine gate_builtin (b := .append) (xs := #[.tmp 36, .tmp 37]) rfl ?_); (try (refine gate_guard (by rfl) ?_; dsimp only)); at_builtin; refine Kd.R_append_rows (Kd.int .i64) (w0 := w) w.heap.size rfl (.tmp 36) (.tmp 37) 22 3 (.int .i64 0) 8 rfl Try.underlying22 info3 rfl (by decide) (by omega) v296 y295 l0 _ _ _ (fun k_ => some k_ ≠ (v293 : Value).ownBlock) (fun _ => False) rfl rfl ?aO ?aR (fun _ _ h => h) (fun _ h => h.elim) ?aF ?aB ?aS ?aL ?_; (case aR => repeat (first | exact (Kd.C_below HR0.out HB.out) | (with_reducible refine Kd.C_alloc ?_ _) | (with_reducible refine Kd.C_drewN ?_ _) | (with_reducible refine Kd.C_drew ?_))); (case aB => exact (by repeat (first | (with_reducible first | exact HB.out | apply below_alloc | apply pw_below_drewN | apply below_drew1) | exact HB.out))); (case aF => exact (fun k_ hk => Kd.fresh' (Kd.R_lt (by (with_reducible repeat (first | apply Kd.R_alloc | apply Kd.R_drewN | apply Kd.R_drew)); exact HO294.out)) k_ hk)); (case aO => exact (by (with_reducible repeat (first | apply Kd.R_alloc | apply Kd.R_drewN | apply Kd.R_drew)); exact Kd.R_mono HO297.out (fun _ hk => hk.2))); (case aS => exact (below_size (by repeat (first | (with_reducible first | exact HB.out | apply below_alloc | apply pw_below_drewN | apply below_drew1) | exact HB.out)))); (case aL => have := LMc16.out; omega); intro v299 w27 ho hb hg hat; rw [← Ny298.out] at ho; have n0_ := Aside0.mk (Kd.R_after (ok := (fun _ => True)) (by (with_reducible repeat (first | apply Kd.R_alloc | apply Kd.R_drewN | apply Kd.R_drew)); exact HO294.out) hg hat); have n1_ := Aside0.mk (hb); have n2_ := Aside0.mk (ho); clear HO294; clear HB; clear HO297; have HO294 := n0_; have HB := n1_; have HO300 := n2_; clear n0_ n1_ n2_; clear ho hb hg hat) | ((with_reducible refine gate_builtin (b := .append) (xs := #[.tmp 38, .tmp 40]) rfl ?_); (try (refine gate_guard (by rfl) ?_; dsimp only)); at_builtin; refine Kd.R_append (Kd.int .i64) (w0 := w) w.heap.size rfl (.tmp 38) (.tmp 40) 22 3 (.int .i64 0) 8 rfl Try.underlying22 info3 rfl (by decide) (by omega) v299 y298 a2 [.int .i64 a2] (fun k_ => some k_ ≠ (v293 : Value).ownBlock) (fun _ => False) rfl rfl ?aP (fun _ hk => hk.elim) ?aF ?aO ?aB ?aS ?aL ?_; (case aP => exact rfl); (case aB => exact (by repeat (first | (with_reducible first | exact HB.out | apply below_alloc | apply pw_below_drewN | apply below_drew1) | exact HB.out))); (case aF => exact (fun k_ hk => Kd.fresh' (Kd.R_lt (by (with_reducible repeat (first | apply Kd.R_alloc | apply Kd.R_drewN | apply Kd.R_drew)); exact HO294.out)) k_ hk)); (case aO => exact (by (with_reducible repeat (first | apply Kd.R_alloc | apply Kd.R_drewN | apply Kd.R_drew)); exact HO300.out)); (case aS => exact (below_size (by repeat (first | (with_reducible first | exact HB.out | apply below_alloc | apply pw_below_drewN | apply below_drew1) | exact HB.out)))); (case aL => have := LMc17.out; omega); intro v302 w28 ho hb hg hat; rw [← Ny301.out] at ho; have n0_ := Aside0.mk (Kd.R_after (ok := (fun _ => True)) (by (with_reducible repeat (first | apply Kd.R_alloc | apply Kd.R_drewN | apply Kd.R_drew)); exact HO294.out) hg hat); have n1_ := Aside0.mk (hb); have n2_ := Aside0.mk (ho); clear HO294; clear HB; clear HO300; have HO294 := n0_; have HB := n1_; have HO303 := n2_; clear n0_ n1_ n2_; clear ho hb hg hat) | ((with_reducible refine gate_builtin (b := .append) (xs := #[.tmp 41, .tmp 42]) rfl ?_); (try (refine gate_guard (by rfl) ?_; dsimp only)); at_builtin; refine Kd.R_append_rows (Kd.int .i64) (w0 := w) w.heap.size rfl (.tmp 41) (.tmp 42) 22 3 (.int .i64 0) 8 rfl Try.underlying22 info3 rfl (by decide) (by omega) v302 y301 l3 _ _ _ (fun k_ => some k_ ≠ (v293 : Value).ownBlock) (fun _ => False) rfl rfl ?aO ?aR (fun _ _ h => h) (fun _ h => h.elim) ?aF ?aB ?aS ?aL ?_; (case aR => repeat (first | exact (Kd.C_below HR3.out HB.out) | (with_reducible refine Kd.C_alloc ?_ _) | (with_reducible refine Kd.C_drewN ?_ _) | (with_reducible refine Kd.C_drew ?_))); (case aB => exact (by repeat (first | (with_reducible first | exact HB.out | apply below_alloc | apply pw_below_drewN | apply below_drew1) | exact HB.out))); (case aF => exact (fun k_ hk => Kd.fresh' (Kd.R_lt (by (with_reducible repeat (first | apply Kd.R_alloc | apply Kd.R_drewN | apply Kd.R_drew)); exact HO294.out)) k_ hk)); (case aO => exact (by (with_reducible repeat (first | apply Kd.R_alloc | apply Kd.R_drewN | apply Kd.R_drew)); exact HO303.out)); (case aS => exact (below_size (by repeat (first | (with_reducible first | exact HB.out | apply below_alloc | apply pw_below_drewN | apply below_drew1) | exact HB.out)))); (case aL => have := LMc18.out; omega); intro v305 w29 ho hb hg hat; rw [← Ny304.out] at ho; have n0_ := Aside0.mk (Kd.R_after (ok := (fun _ => True)) (by (with_reducible repeat (first | apply Kd.R_alloc | apply Kd.R_drewN | apply Kd.R_drew)); exact HO294.out) hg hat); have n1_ := Aside0.mk (hb); have n2_ := Aside0.mk (ho); clear HO294; clear HB; clear HO303; have HO294 := n0_; have HB := n1_; have HO306 := n2_; clear n0_ n1_ n2_; clear ho hb hg hat))
                    (try simp only [Act.put, List.setIfInBounds_toArray, List.set_cons_zero, List.set_cons_succ])
                    go_cut [15] (fun v15 wc => ∃ (kq : Nat) (x15_18 : Bool), v15 = .bool x15_18 ∧ Aside0 (seamarklaw08_CodecDigests.j1 kq a4 a5 a6 x15_18 = some r) ∧ Aside0 (kq ≤ kj8) ∧ Aside0 (Below w.heap.size w wc))
                    case first =>
                      have H := HC19.out
                      clear HC19
                      by_cases c30 : t282 = true
                      · subst c30
                        have H1 : ((codec_Digest.f kj8 y292).bind fun t307 => ((codec_Digest.f kj8 y304).bind fun t308 => (seamarklaw08_CodecDigests.j1 kj8 a4 a5 a6 ((t307 == t308) == (a1 == a2))))) = some r := by rw [if_pos rfl] at H; exact H
                        clear H
                        have H := H1
                        clear H1
                        replace H := Option.bind_eq_some_iff.mp H
                        obtain ⟨t307, A310, H⟩ := H
                        replace H : ((codec_Digest.f kj8 y304).bind fun t308 => (seamarklaw08_CodecDigests.j1 kj8 a4 a5 a6 ((t307 == t308) == (a1 == a2)))) = some r := H
                        have A31 := Aside0.mk A310
                        clear A310
                        replace H := Option.bind_eq_some_iff.mp H
                        obtain ⟨t308, A320, H⟩ := H
                        replace H : (seamarklaw08_CodecDigests.j1 kj8 a4 a5 a6 ((t307 == t308) == (a1 == a2))) = some r := H
                        have A32 := Aside0.mk A320
                        clear A320
                        have H' := Aside0.mk H
                        clear H
                        obtain ⟨Ao33, co33, eo33⟩ := Kd.R_slice HO294.out
                        subst eo33
                        go_wp2_with (first | (go_at_call 19; (with_reducible refine (codec_Digest.calls kj8 _ _ y292 t307 _ ?side1 ?side2 A31.out).mono ?_); (case side1 => repeat (first | exact (Kd.R_reads' HO294.out).2.2 | (with_reducible refine Kd.C_alloc ?_ _) | (with_reducible refine Kd.C_drewN ?_ _) | (with_reducible refine Kd.C_drew ?_))); (case side2 => exact (Kd.R_reads' HO294.out).2.1); rintro e w' ⟨rfl, ⟨nd, rfl⟩⟩; obtain ⟨Ao34, co34, eo34⟩ := Kd.R_slice HO306.out; subst eo34) | (go_at_call 19; (with_reducible refine (codec_Digest.calls kj8 _ _ y304 t308 _ ?side1 ?side2 A32.out).mono ?_); (case side1 => repeat (first | exact (Kd.R_reads' HO306.out).2.2 | (with_reducible refine Kd.C_alloc ?_ _) | (with_reducible refine Kd.C_drewN ?_ _) | (with_reducible refine Kd.C_drew ?_))); (case side2 => exact (Kd.R_reads' HO306.out).2.1); rintro e w' ⟨rfl, ⟨nd, rfl⟩⟩))
                        go_meet
                        case rel => exact ⟨_, (((t307 == t308) == (a1 == a2))), (by first | rfl | (simp; done) | (simp [*]; done)), H', ⟨by have := HJ8.out; first | omega | exact Nat.le_refl _⟩, ⟨by repeat (first | (with_reducible first | exact HB.out | apply below_alloc | apply pw_below_drewN | apply below_drew1) | exact HB.out)⟩⟩
                      · replace c30 := Bool.eq_false_iff.mpr c30
                        subst c30
                        have H1 : (seamarklaw08_CodecDigests.j1 kj8 a4 a5 a6 false) = some r := by rw [if_neg (show ¬ (false = true) by decide)] at H; exact H
                        clear H
                        have H := H1
                        clear H1
                        have H' := Aside0.mk H
                        clear H
                        go_wp2
                        go_meet
                        case rel => exact ⟨_, (false), (by first | rfl | (simp; done) | (simp [*]; done)), H', ⟨by have := HJ8.out; first | omega | exact Nat.le_refl _⟩, ⟨by repeat (first | (with_reducible first | exact HB.out | apply below_alloc | apply pw_below_drewN | apply below_drew1) | exact HB.out)⟩⟩
                    case rest =>
                      clear HC19
                      try clear c1
                      try clear p2
                      try clear c3
                      try clear c9
                      try clear c11
                      try clear c11b0
                      try clear c11b1
                      try clear c12
                      try clear c13
                      try clear c14
                      try clear c15
                      try clear c16
                      try clear c17
                      try clear c18
                      try clear c30
                      try clear p2
                      obtain ⟨kq, x15_18, rfl, HA, HJ18, HB⟩ := hcut
                      cases kq with
                      | zero => exact absurd HA.out (by simp [seamarklaw08_CodecDigests.j1])
                      | succ kj18 =>
                        have H := HA.out
                        clear HA
                        simp only [seamarklaw08_CodecDigests.j1] at H
                        by_cases c35 : x15_18 = true
                        · subst c35
                          have H1 : ((codec_Join.f kj18 a4 a5).bind fun t309 => ((codec_Join.f kj18 a6 a5).bind fun t310 => (if ((t309 == t310) == (a4 == a6)) = true then ((codec_Join.f kj18 a4 a5).bind fun t311 => ((codec_Join.f kj18 a4 a6).bind fun t312 => (some ((t311 == t312) == (a5 == a6))))) else (some false)))) = some r := by rw [if_pos rfl] at H; exact H
                          clear H
                          have H := H1
                          clear H1
                          replace H := Option.bind_eq_some_iff.mp H
                          obtain ⟨t309, A360, H⟩ := H
                          replace H : ((codec_Join.f kj18 a6 a5).bind fun t310 => (if ((t309 == t310) == (a4 == a6)) = true then ((codec_Join.f kj18 a4 a5).bind fun t311 => ((codec_Join.f kj18 a4 a6).bind fun t312 => (some ((t311 == t312) == (a5 == a6))))) else (some false))) = some r := H
                          have A36 := Aside0.mk A360
                          clear A360
                          replace H := Option.bind_eq_some_iff.mp H
                          obtain ⟨t310, A370, H⟩ := H
                          replace H : (if ((t309 == t310) == (a4 == a6)) = true then ((codec_Join.f kj18 a4 a5).bind fun t311 => ((codec_Join.f kj18 a4 a6).bind fun t312 => (some ((t311 == t312) == (a5 == a6))))) else (some false)) = some r := H
                          have A37 := Aside0.mk A370
                          clear A370
                          by_cases c38 : ((t309 == t310) == (a4 == a6)) = true
                          · rw [if_pos c38] at H
                            have c38b0 : ((t309 == t310) == (a4 == a6)) = true := c38
                            (try (have c38b1 : decide ((t309 == t310) = (a4 == a6)) = true := by simpa using c38))
                            (try (have c38b2 : ((t309 == t310) == (a4 == a6)) = true := by simpa using c38))
                            clear c38
                            replace H := Option.bind_eq_some_iff.mp H
                            obtain ⟨t311, A390, H⟩ := H
                            replace H : ((codec_Join.f kj18 a4 a6).bind fun t312 => (some ((t311 == t312) == (a5 == a6)))) = some r := H
                            have A39 := Aside0.mk A390
                            clear A390
                            replace H := Option.bind_eq_some_iff.mp H
                            obtain ⟨t312, A400, H⟩ := H
                            replace H : (some ((t311 == t312) == (a5 == a6))) = some r := H
                            have A40 := Aside0.mk A400
                            clear A400
                            obtain rfl := Option.some.inj H
                            go_wp2_with (first | (go_at_call 20; (with_reducible refine (codec_Join.calls kj18 a4 a5 t309 _ A36.out).mono ?_); rintro e w41 ⟨rfl, hb⟩; have n0_ := Aside0.mk (below_step (by repeat (first | (with_reducible first | exact HB.out | apply below_alloc | apply pw_below_drewN | apply below_drew1) | exact HB.out)) hb); clear HB; have HB := n0_; clear n0_; (try clear hb); (try clear hb2); (try clear hk); (try clear hi)) | (go_at_call 20; (with_reducible refine (codec_Join.calls kj18 a6 a5 t310 _ A37.out).mono ?_); rintro e w42 ⟨rfl, hb⟩; have n0_ := Aside0.mk (below_step (by repeat (first | (with_reducible first | exact HB.out | apply below_alloc | apply pw_below_drewN | apply below_drew1) | exact HB.out)) hb); clear HB; have HB := n0_; clear n0_; (try clear hb); (try clear hb2); (try clear hk); (try clear hi)) | (go_at_call 20; (with_reducible refine (codec_Join.calls kj18 a4 a5 t311 _ A39.out).mono ?_); rintro e w43 ⟨rfl, hb⟩; have n0_ := Aside0.mk (below_step (by repeat (first | (with_reducible first | exact HB.out | apply below_alloc | apply pw_below_drewN | apply below_drew1) | exact HB.out)) hb); clear HB; have HB := n0_; clear n0_; (try clear hb); (try clear hb2); (try clear hk); (try clear hi)) | (go_at_call 20; (with_reducible refine (codec_Join.calls kj18 a4 a6 t312 _ A40.out).mono ?_); rintro e w44 ⟨rfl, hb⟩; have n0_ := Aside0.mk (below_step (by repeat (first | (with_reducible first | exact HB.out | apply below_alloc | apply pw_below_drewN | apply below_drew1) | exact HB.out)) hb); clear HB; have HB := n0_; clear n0_; (try clear hb); (try clear hb2); (try clear hk); (try clear hi)))
                            go_ret
                            exact ⟨by first | rfl | (simp [errW_none, errW_some] <;> rfl) | (simp [*, errW_none, errW_some] <;> rfl) | (simp [Option.some.inj (A36.out.symm.trans A39.out)]), by repeat (first | (with_reducible first | exact HB.out | apply below_alloc | apply pw_below_drewN | apply below_drew1) | exact HB.out)⟩
                          · rw [if_neg c38] at H
                            have c38b0 : ((t309 == t310) == (a4 == a6)) = false := by simpa using c38
                            (try (have c38b1 : decide ((t309 == t310) = (a4 == a6)) = false := by simpa using c38))
                            (try (have c38b2 : ((t309 == t310) == (a4 == a6)) = false := by simpa using c38))
                            (try (have c38b3 : ¬ ((t309 == t310) = (a4 == a6)) := by simpa using c38))
                            clear c38
                            obtain rfl := Option.some.inj H
                            go_wp2_with (first | (go_at_call 20; (with_reducible refine (codec_Join.calls kj18 a4 a5 t309 _ A36.out).mono ?_); rintro e w45 ⟨rfl, hb⟩; have n0_ := Aside0.mk (below_step (by repeat (first | (with_reducible first | exact HB.out | apply below_alloc | apply pw_below_drewN | apply below_drew1) | exact HB.out)) hb); clear HB; have HB := n0_; clear n0_; (try clear hb); (try clear hb2); (try clear hk); (try clear hi)) | (go_at_call 20; (with_reducible refine (codec_Join.calls kj18 a6 a5 t310 _ A37.out).mono ?_); rintro e w46 ⟨rfl, hb⟩; have n0_ := Aside0.mk (below_step (by repeat (first | (with_reducible first | exact HB.out | apply below_alloc | apply pw_below_drewN | apply below_drew1) | exact HB.out)) hb); clear HB; have HB := n0_; clear n0_; (try clear hb); (try clear hb2); (try clear hk); (try clear hi)))
                            go_ret
                            exact ⟨by first | rfl | (simp [errW_none, errW_some] <;> rfl) | (simp [*, errW_none, errW_some] <;> rfl) | (simp [Option.some.inj (A36.out.symm.trans A39.out)]), by repeat (first | (with_reducible first | exact HB.out | apply below_alloc | apply pw_below_drewN | apply below_drew1) | exact HB.out)⟩
                        · replace c35 := Bool.eq_false_iff.mpr c35
                          subst c35
                          have H1 : (some false) = some r := by rw [if_neg (show ¬ (false = true) by decide)] at H; exact H
                          clear H
                          have H := H1
                          clear H1
                          obtain rfl := Option.some.inj H
                          go_wp2
                          go_ret
                          exact ⟨by first | rfl | (simp [errW_none, errW_some] <;> rfl) | (simp [*, errW_none, errW_some] <;> rfl) | (simp [Option.some.inj (A36.out.symm.trans A39.out)]), by repeat (first | (with_reducible first | exact HB.out | apply below_alloc | apply pw_below_drewN | apply below_drew1) | exact HB.out)⟩
                  · rw [if_neg c18] at H
                    exact absurd H (by simp)
                · rw [if_neg c17] at H
                  exact absurd H (by simp)
              · rw [if_neg c16] at H
                exact absurd H (by simp)
            · rw [if_neg c15] at H
              exact absurd H (by simp)
          · rw [if_neg c14] at H
            exact absurd H (by simp)
        · rw [if_neg c13] at H
          exact absurd H (by simp)

/-- THE ONE PURE STATEMENT of seamarklaw08_CodecDigests: yours. -/
def seamarklaw08_CodecDigests.Pure : Prop := ∀ (l0 : List Int) (a1 : Int) (a2 : Int) (l3 : List Int) (a4 : Int) (a5 : Int) (a6 : Int), l0.length ≤ maxLen → l0.length * 8 ≤ 140737488351232 → (∀ x ∈ l0, (Lit.int .i64 x).wf = true) → (Lit.int .i64 a1).wf = true → (Lit.int .i64 a2).wf = true → l3.length ≤ maxLen → l3.length * 8 ≤ 140737488351232 → (∀ x ∈ l3, (Lit.int .i64 x).wf = true) → (Lit.int .u64 a4).wf = true → (Lit.int .u64 a5).wf = true → (Lit.int .u64 a6).wf = true → ∃ k, seamarklaw08_CodecDigests.f k l0 a1 a2 l3 a4 a5 a6 = some true
theorem seamarklaw08_CodecDigests.walk (P : seamarklaw08_CodecDigests.Pure) (a0 : Option Addr) (len0 cap0 : Nat) (z0 : List Int) (a1 : Int) (a2 : Int) (a3 : Option Addr) (len3 cap3 : Nat) (z3 : List Int) (a4 : Int) (a5 : Int) (a6 : Int) (w : World) (w0 : (a0 = none ∧ len0 = 0 ∧ cap0 = 0 ∧ z0 = []) ∨ ∃ x, a0 = some x ∧ len0 ≤ cap0 ∧ cap0 ≤ maxLen ∧ z0.length = cap0 ∧ (∀ i, i < z0.length → w.cell? (x.add i) = some (.int .i64 (z0.getD i 0))) ∧ ∀ n ∈ z0, (Lit.int .i64 n).wf = true) (y0 : len0 * 8 ≤ 140737488351232) (w1 : (Lit.int .i64 a1).wf = true) (w2 : (Lit.int .i64 a2).wf = true) (w3 : (a3 = none ∧ len3 = 0 ∧ cap3 = 0 ∧ z3 = []) ∨ ∃ x, a3 = some x ∧ len3 ≤ cap3 ∧ cap3 ≤ maxLen ∧ z3.length = cap3 ∧ (∀ i, i < z3.length → w.cell? (x.add i) = some (.int .i64 (z3.getD i 0))) ∧ ∀ n ∈ z3, (Lit.int .i64 n).wf = true) (y3 : len3 * 8 ≤ 140737488351232) (w4 : (Lit.int .u64 a4).wf = true) (w5 : (Lit.int .u64 a5).wf = true) (w6 : (Lit.int .u64 a6).wf = true) :
    Calls Try.prog 9 #[.slice a0 len0 cap0, .int .i64 a1, .int .i64 a2, .slice a3 len3 cap3, .int .u64 a4, .int .u64 a5, .int .u64 a6] w fun e w' => e = .returned (.bool true) ∧ Below w.heap.size w w' := by
  obtain ⟨l0, rfl, hr0, hm0, hw0, hc0⟩ := ReadsInt.ofRowC w0
  obtain ⟨l3, rfl, hr3, hm3, hw3, hc3⟩ := ReadsInt.ofRowC w3
  obtain ⟨k, h⟩ := P l0 a1 a2 l3 a4 a5 a6 hm0 y0 hw0 w1 w2 hm3 y3 hw3 w4 w5 w6
  refine (seamarklaw08_CodecDigests.calls k _ _ l0 a1 a2 _ _ l3 a4 a5 a6 true w (Kd.C_of_reads (d := (0 : Int)) (h1 := fun _ => rfl) hr0) hc0 (Kd.C_of_reads (d := (0 : Int)) (h1 := fun _ => rfl) hr3) hc3 h).mono ?_
  rintro e w' ⟨rfl, hd⟩
  exact ⟨rfl, hd⟩

/-! ### seamarkref08_Digits: function 32 -/
def seamarkref08_Digits.l0 : Nat → Int → List Int → Option (List Int)
  | 0, _, _ => none
  | k + 1, x0, x3 => if x0 ≥ 128 then (if x3.length < 140737488355328 then (seamarkref08_Digits.l0 k (IntKind.u64.wrap (Int.tdiv x0 128)) (x3 ++ [(IntKind.u64.wrap ((Int.tmod x0 128) + 128)) % 256])) else (none)) else (if x3.length < 140737488355328 then (some (x3 ++ [(x0) % 256])) else (none))
def seamarkref08_Digits.f (k : Nat) (a0 : Int) : Option (List Int) := seamarkref08_Digits.l0 k a0 ([] : List Int)
theorem seamarkref08_Digits.mono_l : ∀ k, (∀ y0 y1, LeO (seamarkref08_Digits.l0 k y0 y1) (seamarkref08_Digits.l0 (k + 1) y0 y1))
  | 0 => fun _ _ r h => by simp [seamarkref08_Digits.l0] at h
  | k + 1 => by
    have ih0 := seamarkref08_Digits.mono_l k
    · intro y0 y1
      unfold seamarkref08_Digits.l0
      repeat' first
      | (with_reducible exact ih0 _ _)
      | (with_reducible exact LeO.refl _)
      | (with_reducible exact LeO.none _)
      | (with_reducible refine LeO.ite ?_ ?_)
      | (with_reducible refine LeO.bind ?_ (fun _ => ?_))
      | exact ih0 _ _
      | exact LeO.none _
      | refine LeO.ite ?_ ?_
      | refine LeO.bind ?_ (fun _ => ?_)
theorem seamarkref08_Digits.mono : ∀ a0 k, LeO (seamarkref08_Digits.f k a0) (seamarkref08_Digits.f (k + 1) a0) := by
  intro a0 k
  have ih0 := seamarkref08_Digits.mono_l k
  unfold seamarkref08_Digits.f
  repeat' first
      | (with_reducible exact ih0 _ _)
      | (with_reducible exact LeO.refl _)
      | (with_reducible exact LeO.none _)
      | (with_reducible refine LeO.ite ?_ ?_)
      | (with_reducible refine LeO.bind ?_ (fun _ => ?_))
      | exact ih0 _ _
      | exact LeO.none _
      | refine LeO.ite ?_ ?_
      | refine LeO.bind ?_ (fun _ => ?_)
set_option maxHeartbeats 8000000 in
set_option maxRecDepth 100000 in
theorem seamarkref08_Digits.calls (k : Nat) (a0 : Int) (r : List Int) (w : World) (h : seamarkref08_Digits.f k a0 = some r) :
    Calls Try.prog 32 #[.int .u64 a0] w fun e w' => ∃ v0_ : Value, e = .returned (v0_) ∧ Kd.R (Kd.int .u8) 5 w' w.heap.size (fun _ => True) v0_ r ∧ Below w.heap.size w w' := by
  have HB := Aside0.mk (Below.refl w.heap.size w)
  have H : (seamarkref08_Digits.l0 k a0 ([] : List Int)) = some r := h
  clear h
  have H' := Aside0.mk H
  clear H
  go_enter Try.func32, Try.ntmps32
  go_wp2
  go_loopg [0, 3] k (fun kq v0 v3 w' => ∃ (x0_1 : Int) (x3_1 : List Int), v0 = .int .u64 x0_1 ∧ Aside0 (seamarkref08_Digits.l0 kq x0_1 x3_1 = some r) ∧ Aside0 (kq ≤ k) ∧ Aside0 (Kd.R (Kd.int .u8) 5 w' w.heap.size (fun _ => True) v3 x3_1) ∧ Aside0 (Below w.heap.size w w'))
  case atStart => exact ⟨(a0), (([] : List Int)), (by first | rfl | (simp; done) | (simp [*]; done)), H', ⟨Nat.le_refl _⟩, ⟨by first | exact Kd.R_nil _ _ _ _ _ | exact Kd.N_nil _ _ _ _ _ | exact Kd.V_nil _ _ _ _ _ | exact Kd.Q_nil _ _ _ _ _ | exact Kd.S_nil _ _ _ _ _⟩, ⟨by repeat (first | (with_reducible first | exact HB.out | apply below_alloc | apply pw_below_drewN | apply below_drew1) | exact HB.out)⟩⟩
  case round =>
    clear H'
    obtain ⟨x0_1, x3_1, rfl, HA, HK1, HO_3, HB⟩ := hrel
    cases gk with
    | zero => exact absurd HA.out (by simp [seamarkref08_Digits.l0])
    | succ k1 =>
      have H := HA.out
      clear HA
      simp only [seamarkref08_Digits.l0] at H
      by_cases c2 : x0_1 ≥ 128
      · rw [if_pos c2] at H
        have c2b0 : decide (128 ≤ x0_1) = true := decide_eq_true c2
        clear c2
        by_cases c3 : x3_1.length < 140737488355328
        · rw [if_pos c3] at H
          have LMc3 := Aside0.mk c3
          clear c3
          obtain ⟨y313, hy313⟩ : ∃ y_ : List Int, y_ = (x3_1 ++ [(IntKind.u64.wrap ((Int.tmod x0_1 128) + 128)) % 256]) := ⟨_, rfl⟩
          replace H : (seamarkref08_Digits.l0 k1 (IntKind.u64.wrap (Int.tdiv x0_1 128)) y313) = some r := by first | (rw [hy313]; with_reducible exact H) | (have H2_ := (Option.bind_some _ _).symm.trans H; rw [hy313]; with_reducible exact H2_) | (have H2_ := (Option.bind_some _ _).symm.trans H; with_reducible exact H2_) | with_reducible exact H | (rw [hy313]; exact H) | exact H
          have Ny313 := Aside0.mk hy313
          clear hy313
          have H' := Aside0.mk H
          clear H
          go_wp2_with (first | ((with_reducible refine gate_builtin (b := .append) (xs := #[.tmp 6, .tmp 11]) rfl ?_); at_builtin; refine Kd.R_append (Kd.int .u8) (w0 := w) w.heap.size rfl (.tmp 6) (.tmp 11) 23 5 (.int .u8 0) 1 rfl Try.underlying23 info5 rfl (by decide) (by omega) u3 x3_1 ((IntKind.u64.wrap ((Int.tmod x0_1 128) + 128)) % 256) [.int .u8 ((IntKind.u64.wrap ((Int.tmod x0_1 128) + 128)) % 256)] (fun _ => True) (fun _ => False) rfl rfl ?aP (fun _ hk => hk.elim) ?aF ?aO ?aB ?aS ?aL ?_; (case aP => exact rfl); (case aB => exact (by repeat (first | (with_reducible first | exact HB.out | apply below_alloc | apply pw_below_drewN | apply below_drew1) | exact HB.out))); (case aF => exact (fun _ _ => trivial)); (case aO => exact (by (with_reducible repeat (first | apply Kd.R_alloc | apply Kd.R_drewN | apply Kd.R_drew)); exact HO_3.out)); (case aS => exact (below_size (by repeat (first | (with_reducible first | exact HB.out | apply below_alloc | apply pw_below_drewN | apply below_drew1) | exact HB.out)))); (case aL => have := LMc3.out; omega); intro v314 w4 ho hb hg hat; rw [← Ny313.out] at ho; have n0_ := Aside0.mk (hb); have n1_ := Aside0.mk (ho); clear HB; clear HO_3; have HB := n0_; have HO315 := n1_; clear n0_ n1_; clear ho hb hg hat))
          go_roundg k1
          case measure => have := HK1.out; omega
          case rel => exact ⟨(IntKind.u64.wrap (Int.tdiv x0_1 128)), (y313), (by first | rfl | (simp; done) | (simp [*]; done)), H', ⟨by have := HK1.out; omega⟩, ⟨by (with_reducible repeat (first | apply Kd.R_alloc | apply Kd.R_drewN | apply Kd.R_drew)); exact HO315.out⟩, ⟨by repeat (first | (with_reducible first | exact HB.out | apply below_alloc | apply pw_below_drewN | apply below_drew1) | exact HB.out)⟩⟩
        · rw [if_neg c3] at H
          exact absurd H (by simp)
      · rw [if_neg c2] at H
        have c2b0 : decide (128 ≤ x0_1) = false := decide_eq_false c2
        clear c2
        by_cases c5 : x3_1.length < 140737488355328
        · rw [if_pos c5] at H
          have LMc5 := Aside0.mk c5
          clear c5
          obtain ⟨y316, hy316⟩ : ∃ y_ : List Int, y_ = (x3_1 ++ [(x0_1) % 256]) := ⟨_, rfl⟩
          replace H : (some y316) = some r := by first | (rw [hy316]; with_reducible exact H) | (have H2_ := (Option.bind_some _ _).symm.trans H; rw [hy316]; with_reducible exact H2_) | (have H2_ := (Option.bind_some _ _).symm.trans H; with_reducible exact H2_) | with_reducible exact H | (rw [hy316]; exact H) | exact H
          have Ny316 := Aside0.mk hy316
          clear hy316
          obtain rfl := Option.some.inj H
          go_wp2_with (first | ((with_reducible refine gate_builtin (b := .append) (xs := #[.tmp 15, .tmp 18]) rfl ?_); at_builtin; refine Kd.R_append (Kd.int .u8) (w0 := w) w.heap.size rfl (.tmp 15) (.tmp 18) 23 5 (.int .u8 0) 1 rfl Try.underlying23 info5 rfl (by decide) (by omega) u3 x3_1 ((x0_1) % 256) [.int .u8 ((x0_1) % 256)] (fun _ => True) (fun _ => False) rfl rfl ?aP (fun _ hk => hk.elim) ?aF ?aO ?aB ?aS ?aL ?_; (case aP => exact rfl); (case aB => exact (by repeat (first | (with_reducible first | exact HB.out | apply below_alloc | apply pw_below_drewN | apply below_drew1) | exact HB.out))); (case aF => exact (fun _ _ => trivial)); (case aO => exact (by (with_reducible repeat (first | apply Kd.R_alloc | apply Kd.R_drewN | apply Kd.R_drew)); exact HO_3.out)); (case aS => exact (below_size (by repeat (first | (with_reducible first | exact HB.out | apply below_alloc | apply pw_below_drewN | apply below_drew1) | exact HB.out)))); (case aL => have := LMc5.out; omega); intro v317 w6 ho hb hg hat; rw [← Ny316.out] at ho; have n0_ := Aside0.mk (hb); have n1_ := Aside0.mk (ho); clear HB; clear HO_3; have HB := n0_; have HO318 := n1_; clear n0_ n1_; clear ho hb hg hat))
          go_ret
          exact ⟨_, by first | rfl | (simp [errW_none, errW_some] <;> rfl) | (simp [*, errW_none, errW_some] <;> rfl), by (with_reducible repeat (first | apply Kd.R_alloc | apply Kd.R_drewN | apply Kd.R_drew)); exact HO318.out, by repeat (first | (with_reducible first | exact HB.out | apply below_alloc | apply pw_below_drewN | apply below_drew1) | exact HB.out)⟩
        · rw [if_neg c5] at H
          exact absurd H (by simp)

/-! ### seamarkref08_Natural: function 33 -/
def seamarkref08_Natural.f (a0 : Int) : Option (Int) := if a0 ≥ 0 then (some (IntKind.u64.wrap (2 * (IntKind.u64.wrap (a0))))) else (some (IntKind.u64.wrap ((IntKind.u64.wrap (2 * (IntKind.u64.wrap (wrap64 (-(wrap64 (a0 + 1))))))) + 1)))
set_option maxHeartbeats 8000000 in
set_option maxRecDepth 100000 in
theorem seamarkref08_Natural.calls (a0 : Int) (r : Int) (w : World) (h : seamarkref08_Natural.f a0 = some r) :
    Calls Try.prog 33 #[.int .i64 a0] w fun e w' => e = .returned (.int .u64 r) ∧ Drawn0 w w' := by
  have H : (if a0 ≥ 0 then (some (IntKind.u64.wrap (2 * (IntKind.u64.wrap (a0))))) else (some (IntKind.u64.wrap ((IntKind.u64.wrap (2 * (IntKind.u64.wrap (wrap64 (-(wrap64 (a0 + 1))))))) + 1)))) = some r := h
  clear h
  by_cases c2 : a0 ≥ 0
  · rw [if_pos c2] at H
    have c2b0 : decide (0 ≤ a0) = true := decide_eq_true c2
    clear c2
    obtain rfl := Option.some.inj H
    go_enter Try.func33, Try.ntmps33
    go_wp2
    go_ret
    exact ⟨by first | rfl | (simp; done) | (simp [*]; done), by repeat (first | exact Drawn0.refl _ | apply Drawn0.step)⟩
  · rw [if_neg c2] at H
    have c2b0 : decide (0 ≤ a0) = false := decide_eq_false c2
    clear c2
    obtain rfl := Option.some.inj H
    go_enter Try.func33, Try.ntmps33
    go_wp2
    go_ret
    exact ⟨by first | rfl | (simp; done) | (simp [*]; done), by repeat (first | exact Drawn0.refl _ | apply Drawn0.step)⟩

/-! ### seamarkref08_Put: function 21 -/
def seamarkref08_Put.l0 : Nat → List Int → List Int → Int → Option (List Int)
  | 0, _, _, _ => none
  | k + 1, x0, x3, x4 => if x4 < (x0.length : Int) then (if 0 ≤ x4 then ((seamarkref08_Natural.f (rd x0 x4)).bind fun t320 => ((seamarkref08_Digits.f k t320).bind fun t321 => (if x3.length + t321.length < 140737488355328 then (seamarkref08_Put.l0 k x0 (x3 ++ t321) (wrap64 (x4 + 1))) else (none)))) else (none)) else (some x3)
def seamarkref08_Put.f (k : Nat) (l0 : List Int) : Option (List Int) := seamarkref08_Put.l0 k l0 ([] : List Int) 0
theorem seamarkref08_Put.mono_l : ∀ k, (∀ y0 y1 y2, LeO (seamarkref08_Put.l0 k y0 y1 y2) (seamarkref08_Put.l0 (k + 1) y0 y1 y2))
  | 0 => fun _ _ _ r h => by simp [seamarkref08_Put.l0] at h
  | k + 1 => by
    have ih0 := seamarkref08_Put.mono_l k
    · intro y0 y1 y2
      unfold seamarkref08_Put.l0
      repeat' first
      | (with_reducible exact ih0 _ _ _)
      | (with_reducible exact seamarkref08_Digits.mono _ _)
      | (with_reducible exact LeO.refl _)
      | (with_reducible exact LeO.none _)
      | (with_reducible refine LeO.ite ?_ ?_)
      | (with_reducible refine LeO.bind ?_ (fun _ => ?_))
      | exact ih0 _ _ _
      | exact seamarkref08_Digits.mono _ _
      | exact LeO.none _
      | refine LeO.ite ?_ ?_
      | refine LeO.bind ?_ (fun _ => ?_)
theorem seamarkref08_Put.mono : ∀ a0 k, LeO (seamarkref08_Put.f k a0) (seamarkref08_Put.f (k + 1) a0) := by
  intro a0 k
  have ih0 := seamarkref08_Put.mono_l k
  unfold seamarkref08_Put.f
  repeat' first
      | (with_reducible exact ih0 _ _ _)
      | (with_reducible exact seamarkref08_Digits.mono _ _)
      | (with_reducible exact LeO.refl _)
      | (with_reducible exact LeO.none _)
      | (with_reducible refine LeO.ite ?_ ?_)
      | (with_reducible refine LeO.bind ?_ (fun _ => ?_))
      | exact ih0 _ _ _
      | exact seamarkref08_Digits.mono _ _
      | exact LeO.none _
      | refine LeO.ite ?_ ?_
      | refine LeO.bind ?_ (fun _ => ?_)
set_option maxHeartbeats 8000000 in
set_option maxRecDepth 100000 in
theorem seamarkref08_Put.calls (k : Nat) (A0 : Option Addr) (c0 : Nat) (l0 : List Int) (r : List Int) (w : World) (hr0 : Kd.C (Kd.int .i64) w A0 l0.length l0) (hc0 : l0.length ≤ c0) (h : seamarkref08_Put.f k l0 = some r) :
    Calls Try.prog 21 #[.slice A0 l0.length c0] w fun e w' => ∃ v0_ : Value, e = .returned (v0_) ∧ Kd.R (Kd.int .u8) 5 w' w.heap.size (fun _ => True) v0_ r ∧ Below w.heap.size w w' := by
  have HR0 := Aside0.mk hr0
  have HC0 := Aside0.mk hc0
  clear hr0 hc0
  have HB := Aside0.mk (Below.refl w.heap.size w)
  have H : (seamarkref08_Put.l0 k l0 ([] : List Int) 0) = some r := h
  clear h
  have H' := Aside0.mk H
  clear H
  go_enter Try.func21, Try.ntmps21
  go_wp2
  go_loopg [3, 4] k (fun kq v3 v4 w' => ∃ (x3_1 : List Int) (x4_1 : Int), v4 = .int .i64 x4_1 ∧ Aside0 (seamarkref08_Put.l0 kq l0 x3_1 x4_1 = some r) ∧ Aside0 (kq ≤ k) ∧ Aside0 (Kd.R (Kd.int .u8) 5 w' w.heap.size (fun _ => True) v3 x3_1) ∧ Aside0 (Below w.heap.size w w'))
  case atStart => exact ⟨(([] : List Int)), (0), (by first | rfl | (simp; done) | (simp [*]; done)), H', ⟨Nat.le_refl _⟩, ⟨by first | exact Kd.R_nil _ _ _ _ _ | exact Kd.N_nil _ _ _ _ _ | exact Kd.V_nil _ _ _ _ _ | exact Kd.Q_nil _ _ _ _ _ | exact Kd.S_nil _ _ _ _ _⟩, ⟨by repeat (first | (with_reducible first | exact HB.out | apply below_alloc | apply pw_below_drewN | apply below_drew1) | exact HB.out)⟩⟩
  case round =>
    clear H'
    obtain ⟨x3_1, x4_1, rfl, HA, HK1, HO_3, HB⟩ := hrel
    cases gk with
    | zero => exact absurd HA.out (by simp [seamarkref08_Put.l0])
    | succ k1 =>
      have H := HA.out
      clear HA
      simp only [seamarkref08_Put.l0] at H
      by_cases c2 : x4_1 < (l0.length : Int)
      · rw [if_pos c2] at H
        have c2b0 : decide (x4_1 < (l0.length : Int)) = true := decide_eq_true c2
        clear c2
        by_cases c3 : 0 ≤ x4_1
        · rw [if_pos c3] at H
          have c3b0 : decide (0 ≤ x4_1) = true := decide_eq_true c3
          clear c3
          replace H := Option.bind_eq_some_iff.mp H
          obtain ⟨t320, A40, H⟩ := H
          replace H : ((seamarkref08_Digits.f k1 t320).bind fun t321 => (if x3_1.length + t321.length < 140737488355328 then (seamarkref08_Put.l0 k1 l0 (x3_1 ++ t321) (wrap64 (x4_1 + 1))) else (none))) = some r := H
          have A4 := Aside0.mk A40
          clear A40
          replace H := Option.bind_eq_some_iff.mp H
          obtain ⟨t321, A50, H⟩ := H
          replace H : (if x3_1.length + t321.length < 140737488355328 then (seamarkref08_Put.l0 k1 l0 (x3_1 ++ t321) (wrap64 (x4_1 + 1))) else (none)) = some r := H
          have A5 := Aside0.mk A50
          clear A50
          by_cases c6 : x3_1.length + t321.length < 140737488355328
          · rw [if_pos c6] at H
            have LMc6 := Aside0.mk c6
            clear c6
            obtain ⟨y324, hy324⟩ : ∃ y_ : List Int, y_ = (x3_1 ++ t321) := ⟨_, rfl⟩
            replace H : (seamarkref08_Put.l0 k1 l0 y324 (wrap64 (x4_1 + 1))) = some r := by first | (rw [hy324]; with_reducible exact H) | (have H2_ := (Option.bind_some _ _).symm.trans H; rw [hy324]; with_reducible exact H2_) | (have H2_ := (Option.bind_some _ _).symm.trans H; with_reducible exact H2_) | with_reducible exact H | (rw [hy324]; exact H) | exact H
            have Ny324 := Aside0.mk hy324
            clear hy324
            have H' := Aside0.mk H
            clear H
            have p319 : 0 ≤ (x4_1 : Int) := of_decide_eq_true (by first | (with_reducible assumption) | assumption)
            have q319 : x4_1 < (l0.length : Int) := of_decide_eq_true (by first | (with_reducible assumption) | assumption)
            obtain ⟨ad319, e319, hx319_0⟩ := Kd.at_int HR0.out x4_1 p319 q319
            cases e319
            replace hx319_0 := (HB.out.cell (World.block_lt_of_cell? w _ hx319_0)).trans hx319_0
            replace p319 := eq_true p319
            replace q319 := eq_true q319
            go_wp2_with (first | ((with_reducible refine gate_callee (f := 33) rfl ?_); refine goesL_ (some 16) rfl rfl Try.func33 (by kernel_rfl) rfl #[.int .i64 (rd l0 x4_1)] rfl (by (try simp only [List.map_toArray, List.map_cons, List.map_nil]); first | done | rfl | (simp only [List.length_drop, List.length_take]; rfl)) ?_; (with_reducible refine (seamarkref08_Natural.calls (rd l0 x4_1) t320 _ A4.out).mono ?_); rintro e w' ⟨rfl, ⟨nd, rfl⟩⟩; refine ⟨_, rfl, ?_⟩) | ((with_reducible refine gate_callee (f := 32) rfl ?_); refine goesL_ (some 17) rfl rfl Try.func32 (by kernel_rfl) rfl #[.int .u64 t320] rfl (by (try simp only [List.map_toArray, List.map_cons, List.map_nil]); first | done | rfl | (simp only [List.length_drop, List.length_take]; rfl)) ?_; (with_reducible refine (seamarkref08_Digits.calls k1 t320 t321 _ A5.out).mono ?_); rintro e w7 ⟨v322, rfl, ho0, hb⟩; refine ⟨_, rfl, ?_⟩; have n0_ := Aside0.mk (Kd.R_elder' (by (with_reducible repeat (first | apply Kd.R_alloc | apply Kd.R_drewN | apply Kd.R_drew)); exact HO_3.out) (Kd.R_base ho0) hb); have n1_ := Aside0.mk (Kd.R_lower (Kd.R_new' ho0 (Kd.R_lt (by (with_reducible repeat (first | apply Kd.R_alloc | apply Kd.R_drewN | apply Kd.R_drew)); exact HO_3.out))) (below_size (by repeat (first | (with_reducible first | exact HB.out | apply below_alloc | apply pw_below_drewN | apply below_drew1) | exact HB.out)))); have n2_ := Aside0.mk (below_step (by repeat (first | (with_reducible first | exact HB.out | apply below_alloc | apply pw_below_drewN | apply below_drew1) | exact HB.out)) hb); clear HO_3; clear HB; have HO_3 := n0_; have HO323 := n1_; have HB := n2_; clear n0_ n1_ n2_; (try clear hb); (try clear hb2); (try clear hk); (try clear hi); (try clear ho0); obtain ⟨Ao9, co9, eo9⟩ := Kd.R_slice HO323.out; subst eo9) | ((with_reducible refine gate_builtin (b := .append) (xs := #[.tmp 11, .tmp 17]) rfl ?_); at_builtin; refine Kd.R_append_rows (Kd.int .u8) (w0 := w) w.heap.size rfl (.tmp 11) (.tmp 17) 23 5 (.int .u8 0) 1 rfl Try.underlying23 info5 rfl (by decide) (by omega) u3 x3_1 t321 _ _ _ (fun k_ => some k_ ≠ (.slice Ao9 t321.length co9 : Value).ownBlock) (fun _ => False) rfl rfl ?aO ?aR (fun _ _ h => h) (fun _ h => h.elim) ?aF ?aB ?aS ?aL ?_; (case aR => repeat (first | exact (Kd.R_reads' HO323.out).2.2 | (with_reducible refine Kd.C_alloc ?_ _) | (with_reducible refine Kd.C_drewN ?_ _) | (with_reducible refine Kd.C_drew ?_))); (case aB => exact (by repeat (first | (with_reducible first | exact HB.out | apply below_alloc | apply pw_below_drewN | apply below_drew1) | exact HB.out))); (case aF => exact (fun k_ hk => Kd.fresh' (Kd.R_lt (by (with_reducible repeat (first | apply Kd.R_alloc | apply Kd.R_drewN | apply Kd.R_drew)); exact HO323.out)) k_ hk)); (case aO => exact (by (with_reducible repeat (first | apply Kd.R_alloc | apply Kd.R_drewN | apply Kd.R_drew)); exact Kd.R_mono HO_3.out (fun _ hk => hk.2))); (case aS => exact (below_size (by repeat (first | (with_reducible first | exact HB.out | apply below_alloc | apply pw_below_drewN | apply below_drew1) | exact HB.out)))); (case aL => have := LMc6.out; omega); intro v325 w8 ho hb hg hat; rw [← Ny324.out] at ho; have n0_ := Aside0.mk (Kd.R_after (ok := (fun _ => True)) (by (with_reducible repeat (first | apply Kd.R_alloc | apply Kd.R_drewN | apply Kd.R_drew)); exact HO323.out) hg hat); have n1_ := Aside0.mk (hb); have n2_ := Aside0.mk (ho); clear HO323; clear HB; clear HO_3; have HO323 := n0_; have HB := n1_; have HO326 := n2_; clear n0_ n1_ n2_; clear ho hb hg hat))
            go_roundg k1
            case measure => have := HK1.out; omega
            case rel => exact ⟨(y324), (wrap64 (x4_1 + 1)), (by first | rfl | (simp; done) | (simp [*]; done)), H', ⟨by have := HK1.out; omega⟩, ⟨by (with_reducible repeat (first | apply Kd.R_alloc | apply Kd.R_drewN | apply Kd.R_drew)); exact Kd.R_mono HO326.out (fun _ hk => trivial)⟩, ⟨by repeat (first | (with_reducible first | exact HB.out | apply below_alloc | apply pw_below_drewN | apply below_drew1) | exact HB.out)⟩⟩
          · rw [if_neg c6] at H
            exact absurd H (by simp)
        · rw [if_neg c3] at H
          exact absurd H (by simp)
      · rw [if_neg c2] at H
        have c2b0 : decide (x4_1 < (l0.length : Int)) = false := decide_eq_false c2
        clear c2
        obtain rfl := Option.some.inj H
        go_wp2
        go_ret
        exact ⟨_, by first | rfl | (simp [errW_none, errW_some] <;> rfl) | (simp [*, errW_none, errW_some] <;> rfl), by (with_reducible repeat (first | apply Kd.R_alloc | apply Kd.R_drewN | apply Kd.R_drew)); exact HO_3.out, by repeat (first | (with_reducible first | exact HB.out | apply below_alloc | apply pw_below_drewN | apply below_drew1) | exact HB.out)⟩

/-! ### seamarkref08_Sum: function 22 -/
mutual
def seamarkref08_Sum.l0 : Nat → List Int → Int → Int → Option (Int)
  | 0, _, _, _ => none
  | k + 1, x0, x3, x4 => if x4 < (x0.length : Int) then (if 0 ≤ x4 then (seamarkref08_Sum.l1 k x0 (Go.bits .xor .u32 x3 ((rd x0 x4) % 4294967296)) x4 0) else (none)) else (some (Go.bits .xor .u32 x3 4294967295))
def seamarkref08_Sum.l1 : Nat → List Int → Int → Int → Int → Option (Int)
  | 0, _, _, _, _ => none
  | k + 1, x0, x3, x4, x5 => if x5 < 8 then (if (Int.tmod x3 2) = 1 then (seamarkref08_Sum.l1 k x0 (Go.bits .xor .u32 ((Int.tdiv x3 2) % 4294967296) 3988292384) x4 (wrap64 (x5 + 1))) else (seamarkref08_Sum.l1 k x0 ((Int.tdiv x3 2) % 4294967296) x4 (wrap64 (x5 + 1)))) else (seamarkref08_Sum.l0 k x0 x3 (wrap64 (x4 + 1)))
end
def seamarkref08_Sum.f (k : Nat) (l0 : List Int) : Option (Int) := seamarkref08_Sum.l0 k l0 4294967295 0
theorem seamarkref08_Sum.mono_l : ∀ k, (∀ y0 y1 y2, LeO (seamarkref08_Sum.l0 k y0 y1 y2) (seamarkref08_Sum.l0 (k + 1) y0 y1 y2)) ∧ (∀ y0 y1 y2 y3, LeO (seamarkref08_Sum.l1 k y0 y1 y2 y3) (seamarkref08_Sum.l1 (k + 1) y0 y1 y2 y3))
  | 0 => ⟨fun _ _ _ r h => by simp [seamarkref08_Sum.l0] at h, fun _ _ _ _ r h => by simp [seamarkref08_Sum.l1] at h⟩
  | k + 1 => by
    obtain ⟨ih0, ih1⟩ := seamarkref08_Sum.mono_l k
    refine ⟨?_, ?_⟩
    · intro y0 y1 y2
      unfold seamarkref08_Sum.l0
      repeat' first
      | (with_reducible exact ih0 _ _ _)
      | (with_reducible exact ih1 _ _ _ _)
      | (with_reducible exact LeO.refl _)
      | (with_reducible exact LeO.none _)
      | (with_reducible refine LeO.ite ?_ ?_)
      | (with_reducible refine LeO.bind ?_ (fun _ => ?_))
      | exact ih0 _ _ _
      | exact ih1 _ _ _ _
      | exact LeO.none _
      | refine LeO.ite ?_ ?_
      | refine LeO.bind ?_ (fun _ => ?_)
    · intro y0 y1 y2 y3
      unfold seamarkref08_Sum.l1
      repeat' first
      | (with_reducible exact ih0 _ _ _)
      | (with_reducible exact ih1 _ _ _ _)
      | (with_reducible exact LeO.refl _)
      | (with_reducible exact LeO.none _)
      | (with_reducible refine LeO.ite ?_ ?_)
      | (with_reducible refine LeO.bind ?_ (fun _ => ?_))
      | exact ih0 _ _ _
      | exact ih1 _ _ _ _
      | exact LeO.none _
      | refine LeO.ite ?_ ?_
      | refine LeO.bind ?_ (fun _ => ?_)
theorem seamarkref08_Sum.mono : ∀ a0 k, LeO (seamarkref08_Sum.f k a0) (seamarkref08_Sum.f (k + 1) a0) := by
  intro a0 k
  obtain ⟨ih0, ih1⟩ := seamarkref08_Sum.mono_l k
  unfold seamarkref08_Sum.f
  repeat' first
      | (with_reducible exact ih0 _ _ _)
      | (with_reducible exact ih1 _ _ _ _)
      | (with_reducible exact LeO.refl _)
      | (with_reducible exact LeO.none _)
      | (with_reducible refine LeO.ite ?_ ?_)
      | (with_reducible refine LeO.bind ?_ (fun _ => ?_))
      | exact ih0 _ _ _
      | exact ih1 _ _ _ _
      | exact LeO.none _
      | refine LeO.ite ?_ ?_
      | refine LeO.bind ?_ (fun _ => ?_)
set_option maxHeartbeats 8000000 in
set_option maxRecDepth 100000 in
theorem seamarkref08_Sum.calls (k : Nat) (A0 : Option Addr) (c0 : Nat) (l0 : List Int) (r : Int) (w : World) (hr0 : Kd.C (Kd.int .u8) w A0 l0.length l0) (hc0 : l0.length ≤ c0) (h : seamarkref08_Sum.f k l0 = some r) :
    Calls Try.prog 22 #[.slice A0 l0.length c0] w fun e w' => e = .returned (.int .u32 r) ∧ Drawn0 w w' := by
  have HR0 := Aside0.mk hr0
  have HC0 := Aside0.mk hc0
  clear hr0 hc0
  have H : (seamarkref08_Sum.l0 k l0 4294967295 0) = some r := h
  clear h
  have H' := Aside0.mk H
  clear H
  go_enter Try.func22, Try.ntmps22
  go_wp2
  go_loopg [3, 4] k (fun kq v3 v4 w' => ∃ (x3_1 : Int) (x4_1 : Int), v3 = .int .u32 x3_1 ∧ v4 = .int .i64 x4_1 ∧ Aside0 (seamarkref08_Sum.l0 kq l0 x3_1 x4_1 = some r) ∧ Aside0 (kq ≤ k) ∧ Drawn0 w w')
  case atStart => exact ⟨(4294967295), (0), (by first | rfl | (simp; done) | (simp [*]; done)), (by first | rfl | (simp; done) | (simp [*]; done)), H', ⟨Nat.le_refl _⟩, by repeat (first | exact Drawn0.refl _ | apply Drawn0.step)⟩
  case round =>
    clear H'
    obtain ⟨x3_1, x4_1, rfl, rfl, HA, HK1, ⟨m1, rfl⟩⟩ := hrel
    cases gk with
    | zero => exact absurd HA.out (by simp [seamarkref08_Sum.l0])
    | succ k1 =>
      have H := HA.out
      clear HA
      simp only [seamarkref08_Sum.l0] at H
      by_cases c2 : x4_1 < (l0.length : Int)
      · rw [if_pos c2] at H
        have c2b0 : decide (x4_1 < (l0.length : Int)) = true := decide_eq_true c2
        clear c2
        by_cases c3 : 0 ≤ x4_1
        · rw [if_pos c3] at H
          have c3b0 : decide (0 ≤ x4_1) = true := decide_eq_true c3
          clear c3
          have H' := Aside0.mk H
          clear H
          have p327 : 0 ≤ (x4_1 : Int) := of_decide_eq_true (by first | (with_reducible assumption) | assumption)
          have q327 : x4_1 < (l0.length : Int) := of_decide_eq_true (by first | (with_reducible assumption) | assumption)
          obtain ⟨ad327, e327, hx327_0⟩ := Kd.at_int HR0.out x4_1 p327 q327
          cases e327
          replace p327 := eq_true p327
          replace q327 := eq_true q327
          go_wp2
          go_loopg [3, 5] k1 (fun kq v3 v5 w' => ∃ (x3_2 : Int) (x5_2 : Int), v3 = .int .u32 x3_2 ∧ v5 = .int .i64 x5_2 ∧ Aside0 (seamarkref08_Sum.l1 kq l0 x3_2 x4_1 x5_2 = some r) ∧ Aside0 (kq ≤ k1) ∧ Drawn0 w w')
          case atStart => exact ⟨(Go.bits .xor .u32 x3_1 ((rd l0 x4_1) % 4294967296)), (0), (by first | rfl | (simp; done) | (simp [*]; done)), (by first | rfl | (simp; done) | (simp [*]; done)), H', ⟨Nat.le_refl _⟩, by repeat (first | exact Drawn0.refl _ | apply Drawn0.step)⟩
          case round =>
            clear H'
            try clear c2
            try clear c2b0
            try clear p2
            try clear c3
            try clear c3b0
            try clear p3
            try clear q3
            try clear hx3
            try clear hx327_0
            try clear p327
            try clear q327
            obtain ⟨x3_2, x5_2, rfl, rfl, HA, HK2, ⟨m2, rfl⟩⟩ := hrel
            cases gk with
            | zero => exact absurd HA.out (by simp [seamarkref08_Sum.l1])
            | succ k2 =>
              have H := HA.out
              clear HA
              simp only [seamarkref08_Sum.l1] at H
              by_cases c4 : x5_2 < 8
              · rw [if_pos c4] at H
                have c4b0 : decide (x5_2 < 8) = true := decide_eq_true c4
                clear c4
                by_cases c5 : (Int.tmod x3_2 2) = 1
                · rw [if_pos c5] at H
                  have c5b0 : ((Int.tmod x3_2 2) == 1) = true := beq_iff_eq.mpr c5
                  have c5b1 : ((Int.tmod x3_2 2) != 1) = false := bne_eq_false_iff_eq.mpr c5
                  clear c5
                  have H' := Aside0.mk H
                  clear H
                  go_wp2
                  go_roundg k2
                  case measure => have := HK1.out; have := HK2.out; omega
                  case rel => exact ⟨(Go.bits .xor .u32 ((Int.tdiv x3_2 2) % 4294967296) 3988292384), (wrap64 (x5_2 + 1)), (by first | rfl | (simp; done) | (simp [*]; done)), (by first | rfl | (simp; done) | (simp [*]; done)), H', ⟨by have := HK1.out; have := HK2.out; omega⟩, by repeat (first | exact Drawn0.refl _ | apply Drawn0.step)⟩
                · rw [if_neg c5] at H
                  have c5b0 : ((Int.tmod x3_2 2) == 1) = false := beq_eq_false_iff_ne.mpr c5
                  have c5b1 : ((Int.tmod x3_2 2) != 1) = true := bne_iff_ne.mpr c5
                  have H' := Aside0.mk H
                  clear H
                  go_wp2
                  go_roundg k2
                  case measure => have := HK1.out; have := HK2.out; omega
                  case rel => exact ⟨((Int.tdiv x3_2 2) % 4294967296), (wrap64 (x5_2 + 1)), (by first | rfl | (simp; done) | (simp [*]; done)), (by first | rfl | (simp; done) | (simp [*]; done)), H', ⟨by have := HK1.out; have := HK2.out; omega⟩, by repeat (first | exact Drawn0.refl _ | apply Drawn0.step)⟩
              · rw [if_neg c4] at H
                have c4b0 : decide (x5_2 < 8) = false := decide_eq_false c4
                clear c4
                have H' := Aside0.mk H
                clear H
                go_wp2
                go_roundg k2
                case measure => have := HK1.out; have := HK2.out; omega
                case rel => exact ⟨(x3_2), (wrap64 (x4_1 + 1)), (by first | rfl | (simp; done) | (simp [*]; done)), (by first | rfl | (simp; done) | (simp [*]; done)), H', ⟨by have := HK1.out; have := HK2.out; omega⟩, by repeat (first | exact Drawn0.refl _ | apply Drawn0.step)⟩
        · rw [if_neg c3] at H
          exact absurd H (by simp)
      · rw [if_neg c2] at H
        have c2b0 : decide (x4_1 < (l0.length : Int)) = false := decide_eq_false c2
        clear c2
        obtain rfl := Option.some.inj H
        go_wp2
        go_ret
        exact ⟨by first | rfl | (simp; done) | (simp [*]; done), by repeat (first | exact Drawn0.refl _ | apply Drawn0.step)⟩

end Go.Proofs.Ytonhinepgkommaa.Q
