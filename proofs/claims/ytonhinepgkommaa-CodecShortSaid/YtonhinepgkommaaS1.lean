-- Printed by this session's driver (xprint.py) over the kit's printer, out of the translation; some callees' contracts are proved by hand.
import Derived.Test.YtonhinepgkommaaS0
import Derived.Test.YtonhinepgkommaaHHead
import Derived.Test.YtonhinepgkommaaQ1
namespace Go.Proofs.Ytonhinepgkommaa.S
open Go.RowKit Go.Proofs.YtonhinepgkommaaH Go.Proofs.Ytonhinepgkommaa.Q Go.Proofs.YtonhinepgkommaaW.PrintWords Go.Proofs.YtonhinepgkommaaW.PrintLast Go.Proofs.YtonhinepgkommaaW.PrintMore
attribute [local go_sem] max2_int min2_int max_two min_two max_three min_three max_four min_four   -- for this text's walks alone
set_option linter.unusedVariables false
set_option linter.unusedSimpArgs false

-- A contract by hand: function 11 (seamarklaw08_head)

-- A contract by hand: function 13 (codec_Put)

/-! ### seamarklaw08_CodecShort: function 5 -/
mutual
def seamarklaw08_CodecShort.j0 : Nat → Int → Int → Bool → Int → Int → Option (Bool)
  | 0, _, _, _, _, _ => none
  | k + 1, x0, x1, x5, x6, x7 => if x0 ≥ 0 then (if x1 ≥ x0 then (seamarklaw08_CodecShort.j1 k x5 x6 x7 true) else (if x0 < 0 then (seamarklaw08_CodecShort.j1 k x5 x6 x7 (decide (x1 ≤ x0))) else (seamarklaw08_CodecShort.j1 k x5 x6 x7 false))) else (if x0 < 0 then (seamarklaw08_CodecShort.j1 k x5 x6 x7 (decide (x1 ≤ x0))) else (seamarklaw08_CodecShort.j1 k x5 x6 x7 false))
def seamarklaw08_CodecShort.j1 : Nat → Bool → Int → Int → Bool → Option (Bool)
  | 0, _, _, _, _ => none
  | k + 1, x5, x6, x7, x52 => if x52 = true then (if x5 = true then (some (decide (x6 ≤ x7))) else (some false)) else (some x5)
end
def seamarklaw08_CodecShort.f (k : Nat) (a0 : Int) (a1 : Int) : Option (Bool) := (seamarklaw08_head.f).bind fun t101 => ((codec_Put.f k (([a0] : List Int))).bind fun t105 => ((codec_Put.f k (([a1] : List Int))).bind fun t111 => (if t101 = true then (if a0 ≥ (-64) then (if (((t105.length : Int) == 1) == (decide (a0 ≤ 63))) = true then (if (t105.length : Int) ≥ 1 then (seamarklaw08_CodecShort.j0 k a0 a1 (decide ((t105.length : Int) ≤ 10)) (t105.length : Int) (t111.length : Int)) else (seamarklaw08_CodecShort.j0 k a0 a1 false (t105.length : Int) (t111.length : Int))) else (seamarklaw08_CodecShort.j0 k a0 a1 false (t105.length : Int) (t111.length : Int))) else (if (((t105.length : Int) == 1) == false) = true then (if (t105.length : Int) ≥ 1 then (seamarklaw08_CodecShort.j0 k a0 a1 (decide ((t105.length : Int) ≤ 10)) (t105.length : Int) (t111.length : Int)) else (seamarklaw08_CodecShort.j0 k a0 a1 false (t105.length : Int) (t111.length : Int))) else (seamarklaw08_CodecShort.j0 k a0 a1 false (t105.length : Int) (t111.length : Int)))) else (seamarklaw08_CodecShort.j0 k a0 a1 false (t105.length : Int) (t111.length : Int)))))
theorem seamarklaw08_CodecShort.mono_l : ∀ k, (∀ y0 y1 y2 y3 y4, LeO (seamarklaw08_CodecShort.j0 k y0 y1 y2 y3 y4) (seamarklaw08_CodecShort.j0 (k + 1) y0 y1 y2 y3 y4)) ∧ (∀ y0 y1 y2 y3, LeO (seamarklaw08_CodecShort.j1 k y0 y1 y2 y3) (seamarklaw08_CodecShort.j1 (k + 1) y0 y1 y2 y3))
  | 0 => ⟨fun _ _ _ _ _ r h => by simp [seamarklaw08_CodecShort.j0] at h, fun _ _ _ _ r h => by simp [seamarklaw08_CodecShort.j1] at h⟩
  | k + 1 => by
    obtain ⟨ih0, ih1⟩ := seamarklaw08_CodecShort.mono_l k
    refine ⟨?_, ?_⟩
    · intro y0 y1 y2 y3 y4
      unfold seamarklaw08_CodecShort.j0
      repeat' first
      | (with_reducible exact ih0 _ _ _ _ _)
      | (with_reducible exact ih1 _ _ _ _)
      | (with_reducible exact codec_Put.mono _ _)
      | (with_reducible exact LeO.refl _)
      | (with_reducible exact LeO.none _)
      | (with_reducible refine LeO.ite ?_ ?_)
      | (with_reducible refine LeO.bind ?_ (fun _ => ?_))
      | exact ih0 _ _ _ _ _
      | exact ih1 _ _ _ _
      | exact codec_Put.mono _ _
      | exact LeO.none _
      | refine LeO.ite ?_ ?_
      | refine LeO.bind ?_ (fun _ => ?_)
    · intro y0 y1 y2 y3
      unfold seamarklaw08_CodecShort.j1
      repeat' first
      | (with_reducible exact ih0 _ _ _ _ _)
      | (with_reducible exact ih1 _ _ _ _)
      | (with_reducible exact codec_Put.mono _ _)
      | (with_reducible exact LeO.refl _)
      | (with_reducible exact LeO.none _)
      | (with_reducible refine LeO.ite ?_ ?_)
      | (with_reducible refine LeO.bind ?_ (fun _ => ?_))
      | exact ih0 _ _ _ _ _
      | exact ih1 _ _ _ _
      | exact codec_Put.mono _ _
      | exact LeO.none _
      | refine LeO.ite ?_ ?_
      | refine LeO.bind ?_ (fun _ => ?_)
theorem seamarklaw08_CodecShort.mono : ∀ a0 a1 k, LeO (seamarklaw08_CodecShort.f k a0 a1) (seamarklaw08_CodecShort.f (k + 1) a0 a1) := by
  intro a0 a1 k
  obtain ⟨ih0, ih1⟩ := seamarklaw08_CodecShort.mono_l k
  unfold seamarklaw08_CodecShort.f
  repeat' first
      | (with_reducible exact ih0 _ _ _ _ _)
      | (with_reducible exact ih1 _ _ _ _)
      | (with_reducible exact codec_Put.mono _ _)
      | (with_reducible exact LeO.refl _)
      | (with_reducible exact LeO.none _)
      | (with_reducible refine LeO.ite ?_ ?_)
      | (with_reducible refine LeO.bind ?_ (fun _ => ?_))
      | exact ih0 _ _ _ _ _
      | exact ih1 _ _ _ _
      | exact codec_Put.mono _ _
      | exact LeO.none _
      | refine LeO.ite ?_ ?_
      | refine LeO.bind ?_ (fun _ => ?_)
set_option maxHeartbeats 8000000 in
set_option maxRecDepth 100000 in
theorem seamarklaw08_CodecShort.calls (k : Nat) (a0 : Int) (a1 : Int) (r : Bool) (w : World) (h : seamarklaw08_CodecShort.f k a0 a1 = some r) :
    Calls Try.prog 5 #[.int .i64 a0, .int .i64 a1] w fun e w' => e = .returned (.bool r) ∧ Below w.heap.size w w' := by
  have HB := Aside0.mk (Below.refl w.heap.size w)
  have H : ((seamarklaw08_head.f).bind fun t101 => ((codec_Put.f k (([a0] : List Int))).bind fun t105 => ((codec_Put.f k (([a1] : List Int))).bind fun t111 => (if t101 = true then (if a0 ≥ (-64) then (if (((t105.length : Int) == 1) == (decide (a0 ≤ 63))) = true then (if (t105.length : Int) ≥ 1 then (seamarklaw08_CodecShort.j0 k a0 a1 (decide ((t105.length : Int) ≤ 10)) (t105.length : Int) (t111.length : Int)) else (seamarklaw08_CodecShort.j0 k a0 a1 false (t105.length : Int) (t111.length : Int))) else (seamarklaw08_CodecShort.j0 k a0 a1 false (t105.length : Int) (t111.length : Int))) else (if (((t105.length : Int) == 1) == false) = true then (if (t105.length : Int) ≥ 1 then (seamarklaw08_CodecShort.j0 k a0 a1 (decide ((t105.length : Int) ≤ 10)) (t105.length : Int) (t111.length : Int)) else (seamarklaw08_CodecShort.j0 k a0 a1 false (t105.length : Int) (t111.length : Int))) else (seamarklaw08_CodecShort.j0 k a0 a1 false (t105.length : Int) (t111.length : Int)))) else (seamarklaw08_CodecShort.j0 k a0 a1 false (t105.length : Int) (t111.length : Int)))))) = some r := h
  clear h
  replace H := Option.bind_eq_some_iff.mp H
  obtain ⟨t101, A30, H⟩ := H
  replace H : ((codec_Put.f k (([a0] : List Int))).bind fun t105 => ((codec_Put.f k (([a1] : List Int))).bind fun t111 => (if t101 = true then (if a0 ≥ (-64) then (if (((t105.length : Int) == 1) == (decide (a0 ≤ 63))) = true then (if (t105.length : Int) ≥ 1 then (seamarklaw08_CodecShort.j0 k a0 a1 (decide ((t105.length : Int) ≤ 10)) (t105.length : Int) (t111.length : Int)) else (seamarklaw08_CodecShort.j0 k a0 a1 false (t105.length : Int) (t111.length : Int))) else (seamarklaw08_CodecShort.j0 k a0 a1 false (t105.length : Int) (t111.length : Int))) else (if (((t105.length : Int) == 1) == false) = true then (if (t105.length : Int) ≥ 1 then (seamarklaw08_CodecShort.j0 k a0 a1 (decide ((t105.length : Int) ≤ 10)) (t105.length : Int) (t111.length : Int)) else (seamarklaw08_CodecShort.j0 k a0 a1 false (t105.length : Int) (t111.length : Int))) else (seamarklaw08_CodecShort.j0 k a0 a1 false (t105.length : Int) (t111.length : Int)))) else (seamarklaw08_CodecShort.j0 k a0 a1 false (t105.length : Int) (t111.length : Int))))) = some r := H
  have A3 := Aside0.mk A30
  clear A30
  obtain ⟨y102, hy102⟩ : ∃ y_ : List Int, y_ = (([a0] : List Int)) := ⟨_, rfl⟩
  replace H : ((codec_Put.f k y102).bind fun t105 => ((codec_Put.f k (([a1] : List Int))).bind fun t111 => (if t101 = true then (if a0 ≥ (-64) then (if (((t105.length : Int) == 1) == (decide (a0 ≤ 63))) = true then (if (t105.length : Int) ≥ 1 then (seamarklaw08_CodecShort.j0 k a0 a1 (decide ((t105.length : Int) ≤ 10)) (t105.length : Int) (t111.length : Int)) else (seamarklaw08_CodecShort.j0 k a0 a1 false (t105.length : Int) (t111.length : Int))) else (seamarklaw08_CodecShort.j0 k a0 a1 false (t105.length : Int) (t111.length : Int))) else (if (((t105.length : Int) == 1) == false) = true then (if (t105.length : Int) ≥ 1 then (seamarklaw08_CodecShort.j0 k a0 a1 (decide ((t105.length : Int) ≤ 10)) (t105.length : Int) (t111.length : Int)) else (seamarklaw08_CodecShort.j0 k a0 a1 false (t105.length : Int) (t111.length : Int))) else (seamarklaw08_CodecShort.j0 k a0 a1 false (t105.length : Int) (t111.length : Int)))) else (seamarklaw08_CodecShort.j0 k a0 a1 false (t105.length : Int) (t111.length : Int))))) = some r := by first | (rw [hy102]; with_reducible exact H) | (have H2_ := (Option.bind_some _ _).symm.trans H; rw [hy102]; with_reducible exact H2_) | (have H2_ := (Option.bind_some _ _).symm.trans H; with_reducible exact H2_) | with_reducible exact H | (rw [hy102]; exact H) | exact H
  have Ny102 := Aside0.mk hy102
  clear hy102
  replace H := Option.bind_eq_some_iff.mp H
  obtain ⟨t105, A40, H⟩ := H
  replace H : ((codec_Put.f k (([a1] : List Int))).bind fun t111 => (if t101 = true then (if a0 ≥ (-64) then (if (((t105.length : Int) == 1) == (decide (a0 ≤ 63))) = true then (if (t105.length : Int) ≥ 1 then (seamarklaw08_CodecShort.j0 k a0 a1 (decide ((t105.length : Int) ≤ 10)) (t105.length : Int) (t111.length : Int)) else (seamarklaw08_CodecShort.j0 k a0 a1 false (t105.length : Int) (t111.length : Int))) else (seamarklaw08_CodecShort.j0 k a0 a1 false (t105.length : Int) (t111.length : Int))) else (if (((t105.length : Int) == 1) == false) = true then (if (t105.length : Int) ≥ 1 then (seamarklaw08_CodecShort.j0 k a0 a1 (decide ((t105.length : Int) ≤ 10)) (t105.length : Int) (t111.length : Int)) else (seamarklaw08_CodecShort.j0 k a0 a1 false (t105.length : Int) (t111.length : Int))) else (seamarklaw08_CodecShort.j0 k a0 a1 false (t105.length : Int) (t111.length : Int)))) else (seamarklaw08_CodecShort.j0 k a0 a1 false (t105.length : Int) (t111.length : Int)))) = some r := H
  have A4 := Aside0.mk A40
  clear A40
  obtain ⟨y108, hy108⟩ : ∃ y_ : List Int, y_ = (([a1] : List Int)) := ⟨_, rfl⟩
  replace H : ((codec_Put.f k y108).bind fun t111 => (if t101 = true then (if a0 ≥ (-64) then (if (((t105.length : Int) == 1) == (decide (a0 ≤ 63))) = true then (if (t105.length : Int) ≥ 1 then (seamarklaw08_CodecShort.j0 k a0 a1 (decide ((t105.length : Int) ≤ 10)) (t105.length : Int) (t111.length : Int)) else (seamarklaw08_CodecShort.j0 k a0 a1 false (t105.length : Int) (t111.length : Int))) else (seamarklaw08_CodecShort.j0 k a0 a1 false (t105.length : Int) (t111.length : Int))) else (if (((t105.length : Int) == 1) == false) = true then (if (t105.length : Int) ≥ 1 then (seamarklaw08_CodecShort.j0 k a0 a1 (decide ((t105.length : Int) ≤ 10)) (t105.length : Int) (t111.length : Int)) else (seamarklaw08_CodecShort.j0 k a0 a1 false (t105.length : Int) (t111.length : Int))) else (seamarklaw08_CodecShort.j0 k a0 a1 false (t105.length : Int) (t111.length : Int)))) else (seamarklaw08_CodecShort.j0 k a0 a1 false (t105.length : Int) (t111.length : Int)))) = some r := by first | (rw [hy108]; with_reducible exact H) | (have H2_ := (Option.bind_some _ _).symm.trans H; rw [hy108]; with_reducible exact H2_) | (have H2_ := (Option.bind_some _ _).symm.trans H; with_reducible exact H2_) | with_reducible exact H | (rw [hy108]; exact H) | exact H
  have Ny108 := Aside0.mk hy108
  clear hy108
  replace H := Option.bind_eq_some_iff.mp H
  obtain ⟨t111, A50, H⟩ := H
  replace H : (if t101 = true then (if a0 ≥ (-64) then (if (((t105.length : Int) == 1) == (decide (a0 ≤ 63))) = true then (if (t105.length : Int) ≥ 1 then (seamarklaw08_CodecShort.j0 k a0 a1 (decide ((t105.length : Int) ≤ 10)) (t105.length : Int) (t111.length : Int)) else (seamarklaw08_CodecShort.j0 k a0 a1 false (t105.length : Int) (t111.length : Int))) else (seamarklaw08_CodecShort.j0 k a0 a1 false (t105.length : Int) (t111.length : Int))) else (if (((t105.length : Int) == 1) == false) = true then (if (t105.length : Int) ≥ 1 then (seamarklaw08_CodecShort.j0 k a0 a1 (decide ((t105.length : Int) ≤ 10)) (t105.length : Int) (t111.length : Int)) else (seamarklaw08_CodecShort.j0 k a0 a1 false (t105.length : Int) (t111.length : Int))) else (seamarklaw08_CodecShort.j0 k a0 a1 false (t105.length : Int) (t111.length : Int)))) else (seamarklaw08_CodecShort.j0 k a0 a1 false (t105.length : Int) (t111.length : Int))) = some r := H
  have A5 := Aside0.mk A50
  clear A50
  have HC6 := Aside0.mk H
  clear H
  go_enter Try.func5, Try.ntmps5
  go_upto_region 4 with (first | ((with_reducible refine gate_callee (f := 11) rfl ?_); refine goesL_ (some 8) rfl rfl Try.func11 (by kernel_rfl) rfl #[] rfl (by (try simp only [List.map_toArray, List.map_cons, List.map_nil]); first | done | rfl | (simp only [List.length_drop, List.length_take]; rfl)) ?_; (with_reducible refine (seamarklaw08_head.calls  t101 _ A3.out).mono ?_); rintro e w7 ⟨rfl, hb⟩; refine ⟨_, rfl, ?_⟩; have n0_ := Aside0.mk (below_step (by repeat (first | (with_reducible first | exact HB.out | apply below_alloc | apply pw_below_drewN | apply below_drew1) | exact HB.out)) hb); clear HB; have HB := n0_; clear n0_; (try clear hb); (try clear hb2); (try clear hk); (try clear hi)) | ((with_reducible refine gate_dst (N := 10) rfl ?_); refine Kd.R_lit (Kd.int .i64) _ 3 ?hg (N := 10) ?hd (xs := ([a0] : List Int)) (inner := [.int .i64 a0]) (ok := fun _ => True) (okp := fun _ => True) ?hr ?hp (fun _ hk => hk) trivial (Below.refl _ _) (Nat.le_refl _) (by simp) ?_; (case hd => rfl); (case hg => rfl); (case hr => first | (go_simp; done) | (go_simp; rfl)); (case hp => exact (Reps.one (show Kd.M (Kd.int .i64) _ _ _ a0 [.int .i64 a0] from rfl) (Reps.none _ _))); intro v103 w8 ho9 hb hg_ hnew_; clear hg_ hnew_; (first | rw [← Ny102.out] at ho9 | (simp only [Int.reduceToNat] at ho9; rw [← Ny102.out] at ho9)); have n0_ := Aside0.mk (Kd.R_lower ho9 (below_size (by repeat (first | (with_reducible first | exact HB.out | apply below_alloc | apply pw_below_drewN | apply below_drew1) | exact HB.out)))); have n1_ := Aside0.mk (below_step (by repeat (first | (with_reducible first | exact HB.out | apply below_alloc | apply pw_below_drewN | apply below_drew1) | exact HB.out)) hb); clear HB; have HO104 := n0_; have HB := n1_; clear n0_ n1_; clear hb ho9; obtain ⟨Ao10, co10, eo10⟩ := Kd.R_slice HO104.out; subst eo10) | ((with_reducible refine gate_callee (f := 13) rfl ?_); refine goesL_ (some 11) rfl rfl Try.func13 (by kernel_rfl) rfl #[.slice Ao10 y102.length co10] rfl (by (try simp only [List.map_toArray, List.map_cons, List.map_nil]); first | done | rfl | (simp only [List.length_drop, List.length_take]; rfl)) ?_; (with_reducible refine (codec_Put.calls k _ _ y102 t105 _ ?side1 ?side2 A4.out).mono ?_); (case side1 => repeat (first | exact (Kd.R_reads' HO104.out).2.2 | (with_reducible refine Kd.C_alloc ?_ _) | (with_reducible refine Kd.C_drewN ?_ _) | (with_reducible refine Kd.C_drew ?_))); (case side2 => exact (Kd.R_reads' HO104.out).2.1); rintro e w11 ⟨v106, rfl, ho0, hb⟩; refine ⟨_, rfl, ?_⟩; have n0_ := Aside0.mk (Kd.R_below (by (with_reducible repeat (first | apply Kd.R_alloc | apply Kd.R_drewN | apply Kd.R_drew)); exact HO104.out) hb); have n1_ := Aside0.mk (Kd.R_lower ho0 (below_size (by repeat (first | (with_reducible first | exact HB.out | apply below_alloc | apply pw_below_drewN | apply below_drew1) | exact HB.out)))); have n2_ := Aside0.mk (below_step (by repeat (first | (with_reducible first | exact HB.out | apply below_alloc | apply pw_below_drewN | apply below_drew1) | exact HB.out)) hb); clear HO104; clear HB; have HO104 := n0_; have HO107 := n1_; have HB := n2_; clear n0_ n1_ n2_; (try clear hb); (try clear hb2); (try clear hk); (try clear hi); (try clear ho0); obtain ⟨Ao12, co12, eo12⟩ := Kd.R_slice HO107.out; subst eo12) | ((with_reducible refine gate_dst (N := 14) rfl ?_); refine Kd.R_lit (Kd.int .i64) _ 3 ?hg (N := 14) ?hd (xs := ([a1] : List Int)) (inner := [.int .i64 a1]) (ok := fun _ => True) (okp := fun _ => True) ?hr ?hp (fun _ hk => hk) trivial (Below.refl _ _) (Nat.le_refl _) (by simp) ?_; (case hd => rfl); (case hg => rfl); (case hr => first | (go_simp; done) | (go_simp; rfl)); (case hp => exact (Reps.one (show Kd.M (Kd.int .i64) _ _ _ a1 [.int .i64 a1] from rfl) (Reps.none _ _))); intro v109 w13 ho14 hb hg_ hnew_; clear hg_ hnew_; (first | rw [← Ny108.out] at ho14 | (simp only [Int.reduceToNat] at ho14; rw [← Ny108.out] at ho14)); have n0_ := Aside0.mk (Kd.R_elder' (by (with_reducible repeat (first | apply Kd.R_alloc | apply Kd.R_drewN | apply Kd.R_drew)); exact HO104.out) (Kd.R_base ho14) hb); have n1_ := Aside0.mk (Kd.R_below (by (with_reducible repeat (first | apply Kd.R_alloc | apply Kd.R_drewN | apply Kd.R_drew)); exact HO107.out) hb); have n2_ := Aside0.mk (Kd.R_lower (Kd.R_new' ho14 (Kd.R_lt (by (with_reducible repeat (first | apply Kd.R_alloc | apply Kd.R_drewN | apply Kd.R_drew)); exact HO104.out))) (below_size (by repeat (first | (with_reducible first | exact HB.out | apply below_alloc | apply pw_below_drewN | apply below_drew1) | exact HB.out)))); have n3_ := Aside0.mk (below_step (by repeat (first | (with_reducible first | exact HB.out | apply below_alloc | apply pw_below_drewN | apply below_drew1) | exact HB.out)) hb); clear HO104; clear HO107; clear HB; have HO104 := n0_; have HO107 := n1_; have HO110 := n2_; have HB := n3_; clear n0_ n1_ n2_ n3_; clear hb ho14; obtain ⟨Ao15, co15, eo15⟩ := Kd.R_slice HO110.out; subst eo15) | ((with_reducible refine gate_callee (f := 13) rfl ?_); refine goesL_ (some 15) rfl rfl Try.func13 (by kernel_rfl) rfl #[.slice Ao15 y108.length co15] rfl (by (try simp only [List.map_toArray, List.map_cons, List.map_nil]); first | done | rfl | (simp only [List.length_drop, List.length_take]; rfl)) ?_; (with_reducible refine (codec_Put.calls k _ _ y108 t111 _ ?side1 ?side2 A5.out).mono ?_); (case side1 => repeat (first | exact (Kd.R_reads' HO110.out).2.2 | (with_reducible refine Kd.C_alloc ?_ _) | (with_reducible refine Kd.C_drewN ?_ _) | (with_reducible refine Kd.C_drew ?_))); (case side2 => exact (Kd.R_reads' HO110.out).2.1); rintro e w16 ⟨v112, rfl, ho0, hb⟩; refine ⟨_, rfl, ?_⟩; have n0_ := Aside0.mk (Kd.R_below (by (with_reducible repeat (first | apply Kd.R_alloc | apply Kd.R_drewN | apply Kd.R_drew)); exact HO104.out) hb); have n1_ := Aside0.mk (Kd.R_elder' (by (with_reducible repeat (first | apply Kd.R_alloc | apply Kd.R_drewN | apply Kd.R_drew)); exact HO107.out) (Kd.R_base ho0) hb); have n2_ := Aside0.mk (Kd.R_below (by (with_reducible repeat (first | apply Kd.R_alloc | apply Kd.R_drewN | apply Kd.R_drew)); exact HO110.out) hb); have n3_ := Aside0.mk (Kd.R_lower (Kd.R_new' ho0 (Kd.R_lt (by (with_reducible repeat (first | apply Kd.R_alloc | apply Kd.R_drewN | apply Kd.R_drew)); exact HO107.out))) (below_size (by repeat (first | (with_reducible first | exact HB.out | apply below_alloc | apply pw_below_drewN | apply below_drew1) | exact HB.out)))); have n4_ := Aside0.mk (below_step (by repeat (first | (with_reducible first | exact HB.out | apply below_alloc | apply pw_below_drewN | apply below_drew1) | exact HB.out)) hb); clear HO104; clear HO107; clear HO110; clear HB; have HO104 := n0_; have HO107 := n1_; have HO110 := n2_; have HO113 := n3_; have HB := n4_; clear n0_ n1_ n2_ n3_ n4_; (try clear hb); (try clear hb2); (try clear hk); (try clear hi); (try clear ho0); obtain ⟨Ao17, co17, eo17⟩ := Kd.R_slice HO113.out; subst eo17))
  (try simp only [Act.put, List.setIfInBounds_toArray, List.set_cons_zero, List.set_cons_succ])
  go_cut [5] (fun v5 wc => ∃ (kq : Nat) (x5_5 : Bool), v5 = .bool x5_5 ∧ Aside0 (seamarklaw08_CodecShort.j0 kq a0 a1 x5_5 (t105.length : Int) (t111.length : Int) = some r) ∧ Aside0 (kq ≤ k) ∧ Aside0 (Below w.heap.size w wc))
  case first =>
    have H := HC6.out
    clear HC6
    by_cases c18 : t101 = true
    · subst c18
      have H1 : (if a0 ≥ (-64) then (if (((t105.length : Int) == 1) == (decide (a0 ≤ 63))) = true then (if (t105.length : Int) ≥ 1 then (seamarklaw08_CodecShort.j0 k a0 a1 (decide ((t105.length : Int) ≤ 10)) (t105.length : Int) (t111.length : Int)) else (seamarklaw08_CodecShort.j0 k a0 a1 false (t105.length : Int) (t111.length : Int))) else (seamarklaw08_CodecShort.j0 k a0 a1 false (t105.length : Int) (t111.length : Int))) else (if (((t105.length : Int) == 1) == false) = true then (if (t105.length : Int) ≥ 1 then (seamarklaw08_CodecShort.j0 k a0 a1 (decide ((t105.length : Int) ≤ 10)) (t105.length : Int) (t111.length : Int)) else (seamarklaw08_CodecShort.j0 k a0 a1 false (t105.length : Int) (t111.length : Int))) else (seamarklaw08_CodecShort.j0 k a0 a1 false (t105.length : Int) (t111.length : Int)))) = some r := by rw [if_pos rfl] at H; exact H
      clear H
      have H := H1
      clear H1
      by_cases c19 : a0 ≥ (-64)
      · rw [if_pos c19] at H
        have c19b0 : decide ((-64) ≤ a0) = true := decide_eq_true c19
        clear c19
        (first | rw [c19b0] | (simp only [i64_w, i32_w]; rw [c19b0]) | skip)
        by_cases c20 : (((t105.length : Int) == 1) == (decide (a0 ≤ 63))) = true
        · rw [if_pos c20] at H
          have c20b0 : (((t105.length : Int) == 1) == (decide (a0 ≤ 63))) = true := c20
          (try (have c20b1 : decide (((t105.length : Int) == 1) = (decide (a0 ≤ 63))) = true := by simpa using c20))
          (try (have c20b2 : (((t105.length : Int) == 1) == (decide (a0 ≤ 63))) = true := by simpa using c20))
          clear c20
          by_cases c21 : (t105.length : Int) ≥ 1
          · rw [if_pos c21] at H
            have c21b0 : decide (1 ≤ (t105.length : Int)) = true := decide_eq_true c21
            have c21b1 : decide (1 ≤ t105.length) = true := decide_eq_true (by omega)
            clear c21
            have H' := Aside0.mk H
            clear H
            go_wp2
            go_meet
            case rel => exact ⟨_, (decide ((t105.length : Int) ≤ 10)), (by first | rfl | (simp; done) | (simp [*]; done)), H', ⟨by first | omega | exact Nat.le_refl _⟩, ⟨by repeat (first | (with_reducible first | exact HB.out | apply below_alloc | apply pw_below_drewN | apply below_drew1) | exact HB.out)⟩⟩
          · rw [if_neg c21] at H
            have c21b0 : decide (1 ≤ (t105.length : Int)) = false := decide_eq_false c21
            have c21b1 : decide (1 ≤ t105.length) = false := decide_eq_false (by omega)
            clear c21
            have H' := Aside0.mk H
            clear H
            go_wp2
            go_meet
            case rel => exact ⟨_, (false), (by first | rfl | (simp; done) | (simp [*]; done)), H', ⟨by first | omega | exact Nat.le_refl _⟩, ⟨by repeat (first | (with_reducible first | exact HB.out | apply below_alloc | apply pw_below_drewN | apply below_drew1) | exact HB.out)⟩⟩
        · rw [if_neg c20] at H
          have c20b0 : (((t105.length : Int) == 1) == (decide (a0 ≤ 63))) = false := by simpa using c20
          (try (have c20b1 : decide (((t105.length : Int) == 1) = (decide (a0 ≤ 63))) = false := by simpa using c20))
          (try (have c20b2 : (((t105.length : Int) == 1) == (decide (a0 ≤ 63))) = false := by simpa using c20))
          (try (have c20b3 : ¬ (((t105.length : Int) == 1) = (decide (a0 ≤ 63))) := by simpa using c20))
          clear c20
          have H' := Aside0.mk H
          clear H
          go_wp2
          go_meet
          case rel => exact ⟨_, (false), (by first | rfl | (simp; done) | (simp [*]; done)), H', ⟨by first | omega | exact Nat.le_refl _⟩, ⟨by repeat (first | (with_reducible first | exact HB.out | apply below_alloc | apply pw_below_drewN | apply below_drew1) | exact HB.out)⟩⟩
      · rw [if_neg c19] at H
        have c19b0 : decide ((-64) ≤ a0) = false := decide_eq_false c19
        clear c19
        (first | rw [c19b0] | (simp only [i64_w, i32_w]; rw [c19b0]) | skip)
        by_cases c22 : (((t105.length : Int) == 1) == false) = true
        · rw [if_pos c22] at H
          have c22b0 : (((t105.length : Int) == 1) == false) = true := c22
          (try (have c22b1 : decide (((t105.length : Int) == 1) = false) = true := by simpa using c22))
          (try (have c22b2 : (((t105.length : Int) == 1) == false) = true := by simpa using c22))
          clear c22
          by_cases c23 : (t105.length : Int) ≥ 1
          · rw [if_pos c23] at H
            have c23b0 : decide (1 ≤ (t105.length : Int)) = true := decide_eq_true c23
            have c23b1 : decide (1 ≤ t105.length) = true := decide_eq_true (by omega)
            clear c23
            have H' := Aside0.mk H
            clear H
            go_wp2
            go_meet
            case rel => exact ⟨_, (decide ((t105.length : Int) ≤ 10)), (by first | rfl | (simp; done) | (simp [*]; done)), H', ⟨by first | omega | exact Nat.le_refl _⟩, ⟨by repeat (first | (with_reducible first | exact HB.out | apply below_alloc | apply pw_below_drewN | apply below_drew1) | exact HB.out)⟩⟩
          · rw [if_neg c23] at H
            have c23b0 : decide (1 ≤ (t105.length : Int)) = false := decide_eq_false c23
            have c23b1 : decide (1 ≤ t105.length) = false := decide_eq_false (by omega)
            clear c23
            have H' := Aside0.mk H
            clear H
            go_wp2
            go_meet
            case rel => exact ⟨_, (false), (by first | rfl | (simp; done) | (simp [*]; done)), H', ⟨by first | omega | exact Nat.le_refl _⟩, ⟨by repeat (first | (with_reducible first | exact HB.out | apply below_alloc | apply pw_below_drewN | apply below_drew1) | exact HB.out)⟩⟩
        · rw [if_neg c22] at H
          have c22b0 : (((t105.length : Int) == 1) == false) = false := by simpa using c22
          (try (have c22b1 : decide (((t105.length : Int) == 1) = false) = false := by simpa using c22))
          (try (have c22b2 : (((t105.length : Int) == 1) == false) = false := by simpa using c22))
          (try (have c22b3 : ¬ (((t105.length : Int) == 1) = false) := by simpa using c22))
          clear c22
          have H' := Aside0.mk H
          clear H
          go_wp2
          go_meet
          case rel => exact ⟨_, (false), (by first | rfl | (simp; done) | (simp [*]; done)), H', ⟨by first | omega | exact Nat.le_refl _⟩, ⟨by repeat (first | (with_reducible first | exact HB.out | apply below_alloc | apply pw_below_drewN | apply below_drew1) | exact HB.out)⟩⟩
    · replace c18 := Bool.eq_false_iff.mpr c18
      subst c18
      have H1 : (seamarklaw08_CodecShort.j0 k a0 a1 false (t105.length : Int) (t111.length : Int)) = some r := by rw [if_neg (show ¬ (false = true) by decide)] at H; exact H
      clear H
      have H := H1
      clear H1
      have H' := Aside0.mk H
      clear H
      go_wp2
      go_meet
      case rel => exact ⟨_, (false), (by first | rfl | (simp; done) | (simp [*]; done)), H', ⟨by first | omega | exact Nat.le_refl _⟩, ⟨by repeat (first | (with_reducible first | exact HB.out | apply below_alloc | apply pw_below_drewN | apply below_drew1) | exact HB.out)⟩⟩
  case rest =>
    clear HC6
    try clear c1
    try clear c2
    try clear p2
    try clear c5
    try clear c11
    try clear c13
    try clear c18
    try clear c19
    try clear c19b0
    try clear c20
    try clear c20b0
    try clear c20b1
    try clear c20b2
    try clear c21
    try clear c21b0
    try clear c21b1
    try clear c22
    try clear c22b0
    try clear c22b1
    try clear c22b2
    try clear c23
    try clear c23b0
    try clear c23b1
    obtain ⟨kq, x5_5, rfl, HA, HJ5, HB⟩ := hcut
    cases kq with
    | zero => exact absurd HA.out (by simp [seamarklaw08_CodecShort.j0])
    | succ kj5 =>
      have H := HA.out
      clear HA
      simp only [seamarklaw08_CodecShort.j0] at H
      have HC24 := Aside0.mk H
      clear H
      go_upto_region 5 with (fail)
      go_cut [52] (fun v52 wc => ∃ (kq : Nat) (x52_23 : Bool), v52 = .bool x52_23 ∧ Aside0 (seamarklaw08_CodecShort.j1 kq x5_5 (t105.length : Int) (t111.length : Int) x52_23 = some r) ∧ Aside0 (kq ≤ kj5) ∧ Aside0 (Below w.heap.size w wc))
      case first =>
        have H := HC24.out
        clear HC24
        by_cases c25 : a0 ≥ 0
        · rw [if_pos c25] at H
          have c25b0 : decide (0 ≤ a0) = true := decide_eq_true c25
          clear c25
          (first | rw [c25b0] | (simp only [i64_w, i32_w]; rw [c25b0]) | skip)
          by_cases c26 : a1 ≥ a0
          · rw [if_pos c26] at H
            have c26b0 : decide (a0 ≤ a1) = true := decide_eq_true c26
            clear c26
            have H' := Aside0.mk H
            clear H
            go_wp2
            go_meet
            case rel => exact ⟨_, (true), (by first | rfl | (simp; done) | (simp [*]; done)), H', ⟨by have := HJ5.out; first | omega | exact Nat.le_refl _⟩, ⟨by repeat (first | (with_reducible first | exact HB.out | apply below_alloc | apply pw_below_drewN | apply below_drew1) | exact HB.out)⟩⟩
          · rw [if_neg c26] at H
            have c26b0 : decide (a0 ≤ a1) = false := decide_eq_false c26
            clear c26
            by_cases c27 : a0 < 0
            · rw [if_pos c27] at H
              have c27b0 : decide (a0 < 0) = true := decide_eq_true c27
              clear c27
              have H' := Aside0.mk H
              clear H
              go_wp2
              go_meet
              case rel => exact ⟨_, (decide (a1 ≤ a0)), (by first | rfl | (simp; done) | (simp [*]; done)), H', ⟨by have := HJ5.out; first | omega | exact Nat.le_refl _⟩, ⟨by repeat (first | (with_reducible first | exact HB.out | apply below_alloc | apply pw_below_drewN | apply below_drew1) | exact HB.out)⟩⟩
            · rw [if_neg c27] at H
              have c27b0 : decide (a0 < 0) = false := decide_eq_false c27
              clear c27
              have H' := Aside0.mk H
              clear H
              go_wp2
              go_meet
              case rel => exact ⟨_, (false), (by first | rfl | (simp; done) | (simp [*]; done)), H', ⟨by have := HJ5.out; first | omega | exact Nat.le_refl _⟩, ⟨by repeat (first | (with_reducible first | exact HB.out | apply below_alloc | apply pw_below_drewN | apply below_drew1) | exact HB.out)⟩⟩
        · rw [if_neg c25] at H
          have c25b0 : decide (0 ≤ a0) = false := decide_eq_false c25
          clear c25
          (first | rw [c25b0] | (simp only [i64_w, i32_w]; rw [c25b0]) | skip)
          by_cases c28 : a0 < 0
          · rw [if_pos c28] at H
            have c28b0 : decide (a0 < 0) = true := decide_eq_true c28
            clear c28
            have H' := Aside0.mk H
            clear H
            go_wp2
            go_meet
            case rel => exact ⟨_, (decide (a1 ≤ a0)), (by first | rfl | (simp; done) | (simp [*]; done)), H', ⟨by have := HJ5.out; first | omega | exact Nat.le_refl _⟩, ⟨by repeat (first | (with_reducible first | exact HB.out | apply below_alloc | apply pw_below_drewN | apply below_drew1) | exact HB.out)⟩⟩
          · rw [if_neg c28] at H
            have c28b0 : decide (a0 < 0) = false := decide_eq_false c28
            clear c28
            have H' := Aside0.mk H
            clear H
            go_wp2
            go_meet
            case rel => exact ⟨_, (false), (by first | rfl | (simp; done) | (simp [*]; done)), H', ⟨by have := HJ5.out; first | omega | exact Nat.le_refl _⟩, ⟨by repeat (first | (with_reducible first | exact HB.out | apply below_alloc | apply pw_below_drewN | apply below_drew1) | exact HB.out)⟩⟩
      case rest =>
        clear HC24
        try clear c1
        try clear c2
        try clear p2
        try clear c5
        try clear c11
        try clear c13
        try clear c18
        try clear c19
        try clear c19b0
        try clear c20
        try clear c20b0
        try clear c20b1
        try clear c20b2
        try clear c21
        try clear c21b0
        try clear c21b1
        try clear c22
        try clear c22b0
        try clear c22b1
        try clear c22b2
        try clear c23
        try clear c23b0
        try clear c23b1
        try clear c25
        try clear c25b0
        try clear c26
        try clear c26b0
        try clear c27
        try clear c27b0
        try clear c28
        try clear c28b0
        try clear p2
        obtain ⟨kq, x52_23, rfl, HA, HJ23, HB⟩ := hcut
        cases kq with
        | zero => exact absurd HA.out (by simp [seamarklaw08_CodecShort.j1])
        | succ kj23 =>
          have H := HA.out
          clear HA
          simp only [seamarklaw08_CodecShort.j1] at H
          by_cases c29 : x52_23 = true
          · subst c29
            have H1 : (if x5_5 = true then (some (decide ((t105.length : Int) ≤ (t111.length : Int)))) else (some false)) = some r := by rw [if_pos rfl] at H; exact H
            clear H
            have H := H1
            clear H1
            by_cases c30 : x5_5 = true
            · subst c30
              have H1 : (some (decide ((t105.length : Int) ≤ (t111.length : Int)))) = some r := by rw [if_pos rfl] at H; exact H
              clear H
              have H := H1
              clear H1
              obtain rfl := Option.some.inj H
              go_wp2
              go_ret
              exact ⟨by first | rfl | (simp [errW_none, errW_some] <;> rfl) | (simp [*, errW_none, errW_some] <;> rfl) | (simp [Option.some.inj (A36.out.symm.trans A39.out)]), by repeat (first | (with_reducible first | exact HB.out | apply below_alloc | apply pw_below_drewN | apply below_drew1) | exact HB.out)⟩
            · replace c30 := Bool.eq_false_iff.mpr c30
              subst c30
              have H1 : (some false) = some r := by rw [if_neg (show ¬ (false = true) by decide)] at H; exact H
              clear H
              have H := H1
              clear H1
              obtain rfl := Option.some.inj H
              go_wp2
              go_ret
              exact ⟨by first | rfl | (simp [errW_none, errW_some] <;> rfl) | (simp [*, errW_none, errW_some] <;> rfl) | (simp [Option.some.inj (A36.out.symm.trans A39.out)]), by repeat (first | (with_reducible first | exact HB.out | apply below_alloc | apply pw_below_drewN | apply below_drew1) | exact HB.out)⟩
          · replace c29 := Bool.eq_false_iff.mpr c29
            subst c29
            have H1 : (some x5_5) = some r := by rw [if_neg (show ¬ (false = true) by decide)] at H; exact H
            clear H
            have H := H1
            clear H1
            obtain rfl := Option.some.inj H
            go_wp2
            go_ret
            exact ⟨by first | rfl | (simp [errW_none, errW_some] <;> rfl) | (simp [*, errW_none, errW_some] <;> rfl) | (simp [Option.some.inj (A36.out.symm.trans A39.out)]), by repeat (first | (with_reducible first | exact HB.out | apply below_alloc | apply pw_below_drewN | apply below_drew1) | exact HB.out)⟩

/-- THE ONE PURE STATEMENT of seamarklaw08_CodecShort: yours. -/
def seamarklaw08_CodecShort.Pure : Prop := ∀ (a0 : Int) (a1 : Int), (Lit.int .i64 a0).wf = true → (Lit.int .i64 a1).wf = true → ∃ k, seamarklaw08_CodecShort.f k a0 a1 = some true
theorem seamarklaw08_CodecShort.walk (P : seamarklaw08_CodecShort.Pure) (a0 : Int) (a1 : Int) (w : World) (w0 : (Lit.int .i64 a0).wf = true) (w1 : (Lit.int .i64 a1).wf = true) :
    Calls Try.prog 5 #[.int .i64 a0, .int .i64 a1] w fun e w' => e = .returned (.bool true) ∧ Below w.heap.size w w' := by
  obtain ⟨k, h⟩ := P a0 a1 w0 w1
  refine (seamarklaw08_CodecShort.calls k a0 a1 true w h).mono ?_
  rintro e w' ⟨rfl, hd⟩
  exact ⟨rfl, hd⟩

-- A contract by hand: function 15 (seamarkref08_Bytes)

-- A contract by hand: function 17 (codec_Frame)

-- A contract by hand: function 18 (codec_Open)

end Go.Proofs.Ytonhinepgkommaa.S
