/- Lemmas and contracts that the laws of this seat share, part 5 (put together by this session's program out of its own texts and of the words that print.sh wrote for this seat). -/
import Derived.ChangeOld
import Derived.Lib.SmallJoins
import Derived.OpenShut
import Derived.ProofKit
import Derived.WalkKit
import Derived.Test.YthiealhmcfdakaaB4
section
namespace Go.Proofs.Ythiealhmcfdakaa.E
open Go.RowKit Go.Proofs.YthiealhmcfdakaaH Go.Proofs.YthiealhmcfdakaaW.PrintWords Go.Proofs.YthiealhmcfdakaaW.PrintLast Go.Proofs.YthiealhmcfdakaaW.PrintMore
attribute [local go_sem] max2_int min2_int max_two min_two max_three min_three max_four min_four   -- for this text's walks alone
set_option linter.unusedVariables false
set_option linter.unusedSimpArgs false
def erasure_recovered.l0 : Nat → Int → List Int → List (List Int) → List (List Int) → List Int → Int → Int → Option ((List (List Int)) × Int)
  | 0, _, _, _, _, _, _, _ => none
  | k + 1, x0, x1, x2, x10, x24, x25, x26 => if x26 < x25 then (if 0 ≤ x26 then (if x26 < (x24.length : Int) then (if 0 ≤ x0 then (if x0 ≤ (x1.length : Int) then (if x0 ≤ (x2.length : Int) then ((erasure_value.f (x1.take (x0 : Int).toNat) (x2.take (x0 : Int).toNat) (rd x24 x26)).bind fun t151 => (if x10.length < 5864062014805 then (erasure_recovered.l0 k x0 x1 x2 (x10 ++ [t151]) x24 x25 (wrap64 (x26 + 1))) else (none))) else (none)) else (none)) else (none)) else (none)) else (none)) else (some (x10, 0))
def erasure_recovered.f (k : Nat) (a0 : Int) (l1 : List Int) (l2 : List (List Int)) (l3 : List Int) : Option ((List (List Int)) × Int) := if (l1.length : Int) < a0 then (some (([] : List (List Int)), 4)) else ((erasure_fit.f k a0 l1 l2).bind fun t144 => (if t144 = true then (erasure_recovered.l0 k a0 l1 l2 ([] : List (List Int)) l3 (l3.length : Int) 0) else (some (([] : List (List Int)), 18))))
theorem erasure_recovered.mono_l : ∀ k, (∀ y0 y1 y2 y3 y4 y5 y6, LeO (erasure_recovered.l0 k y0 y1 y2 y3 y4 y5 y6) (erasure_recovered.l0 (k + 1) y0 y1 y2 y3 y4 y5 y6))
  | 0 => fun _ _ _ _ _ _ _ r h => by simp [erasure_recovered.l0] at h
  | k + 1 => by
    have ih0 := erasure_recovered.mono_l k
    · intro y0 y1 y2 y3 y4 y5 y6
      unfold erasure_recovered.l0
      repeat' first
      | (with_reducible exact ih0 _ _ _ _ _ _ _)
      | (with_reducible exact erasure_fit.mono _ _ _ _)
      | (with_reducible exact LeO.refl _)
      | (with_reducible exact LeO.none _)
      | (with_reducible refine LeO.ite ?_ ?_)
      | (with_reducible refine LeO.bind ?_ (fun _ => ?_))
      | exact ih0 _ _ _ _ _ _ _
      | exact erasure_fit.mono _ _ _ _
      | exact LeO.none _
      | refine LeO.ite ?_ ?_
      | refine LeO.bind ?_ (fun _ => ?_)
theorem erasure_recovered.mono : ∀ a0 a1 a2 a3 k, LeO (erasure_recovered.f k a0 a1 a2 a3) (erasure_recovered.f (k + 1) a0 a1 a2 a3) := by
  intro a0 a1 a2 a3 k
  have ih0 := erasure_recovered.mono_l k
  unfold erasure_recovered.f
  repeat' first
      | (with_reducible exact ih0 _ _ _ _ _ _ _)
      | (with_reducible exact erasure_fit.mono _ _ _ _)
      | (with_reducible exact LeO.refl _)
      | (with_reducible exact LeO.none _)
      | (with_reducible refine LeO.ite ?_ ?_)
      | (with_reducible refine LeO.bind ?_ (fun _ => ?_))
      | exact ih0 _ _ _ _ _ _ _
      | exact erasure_fit.mono _ _ _ _
      | exact LeO.none _
      | refine LeO.ite ?_ ?_
      | refine LeO.bind ?_ (fun _ => ?_)
def erasure_recovered.T9 : Bool × List (List Nat × List Nat) := (true, [([], []), ([], []), ([], []), ([1, 2], [1, 2]), ([], []), ([], []), ([4, 5], [4, 5]), ([], []), ([3, 6, 7], [3, 6, 7]), ([8], [8]), ([0, 9, 8], [0, 9]), ([10, 10, 0, 1, 2, 3, 4, 5, 6, 7, 8, 9, 10], [0, 10])])
def erasure_recovered.B9 : List Nat := [0, 0, 0, 6, 0, 0, 48, 0, 254, 510, 1023, 2047]
theorem erasure_recovered.tab9 : rtab .any (opsOf Try.f63 9) = erasure_recovered.T9 := by kernel_rfl
theorem erasure_recovered.bits9 : waitsOk erasure_recovered.T9.2 erasure_recovered.B9 = true := by kernel_rfl
set_option maxHeartbeats 8000000 in
set_option maxRecDepth 100000 in
theorem erasure_recovered.calls (k : Nat) (a0 : Int) (A1 : Option Addr) (c1 : Nat) (l1 : List Int) (A2 : Option Addr) (c2 : Nat) (l2 : List (List Int)) (A3 : Option Addr) (c3 : Nat) (l3 : List Int) (r1 : List (List Int)) (r2 : Int) (w : World) (hr1 : Kd.C (Kd.int .i64) w A1 l1.length l1) (hc1 : l1.length ≤ c1) (hr2 : Kd.C (Kd.slice 5 (Kd.int .u8)) w A2 l2.length l2) (hc2 : l2.length ≤ c2) (hr3 : Kd.C (Kd.int .i64) w A3 l3.length l3) (hc3 : l3.length ≤ c3) (h : erasure_recovered.f k a0 l1 l2 l3 = some (r1, r2)) :
    Calls Try.prog 63 #[.int .i64 a0, .slice A1 l1.length c1, .slice A2 l2.length c2, .slice A3 l3.length c3] w fun e w' => ∃ v0_ : Value, e = .returned (.tuple #[v0_, .int .i64 r2]) ∧ Kd.S (Kd.slice 5 (Kd.int .u8)) 28 w' w.heap.size (fun _ => True) v0_ r1 ∧ Below w.heap.size w w' := by
  have HR1 := Aside0.mk hr1
  have HC1 := Aside0.mk hc1
  clear hr1 hc1
  have HR2 := Aside0.mk hr2
  have HC2 := Aside0.mk hc2
  clear hr2 hc2
  have HR3 := Aside0.mk hr3
  have HC3 := Aside0.mk hc3
  clear hr3 hc3
  have HB := Aside0.mk (Below.refl w.heap.size w)
  have H : (if (l1.length : Int) < a0 then (some (([] : List (List Int)), 4)) else ((erasure_fit.f k a0 l1 l2).bind fun t144 => (if t144 = true then (erasure_recovered.l0 k a0 l1 l2 ([] : List (List Int)) l3 (l3.length : Int) 0) else (some (([] : List (List Int)), 18))))) = some (r1, r2) := h
  clear h
  by_cases c5 : (l1.length : Int) < a0
  · rw [if_pos c5] at H
    have c5b0 : decide ((l1.length : Int) < a0) = true := decide_eq_true c5
    clear c5
    simp only [Option.some.injEq, Prod.mk.injEq] at H
    obtain ⟨rfl, rfl⟩ := H
    go_enter Try.func63, Try.ntmps63
    go_wp2
    go_ret2
    exact ⟨_, by first | rfl | (simp [errW_none, errW_some] <;> rfl) | (simp [*, errW_none, errW_some] <;> rfl), by first | exact Kd.S_nil _ _ _ _ _ | exact Kd.N_nil _ _ _ _ _ | exact Kd.V_nil _ _ _ _ _ | exact Kd.Q_nil _ _ _ _ _ | exact Kd.R_nil _ _ _ _ _, by repeat (first | (with_reducible first | exact HB.out | apply below_alloc | apply pw_below_drewN | apply below_drew1) | exact HB.out)⟩
  · rw [if_neg c5] at H
    have c5b0 : decide ((l1.length : Int) < a0) = false := decide_eq_false c5
    clear c5
    replace H := Option.bind_eq_some_iff.mp H
    obtain ⟨t144, A60, H⟩ := H
    replace H : (if t144 = true then (erasure_recovered.l0 k a0 l1 l2 ([] : List (List Int)) l3 (l3.length : Int) 0) else (some (([] : List (List Int)), 18))) = some (r1, r2) := H
    have A6 := Aside0.mk A60
    clear A60
    by_cases c7 : t144 = true
    · subst c7
      have H1 : (erasure_recovered.l0 k a0 l1 l2 ([] : List (List Int)) l3 (l3.length : Int) 0) = some (r1, r2) := by rw [if_pos rfl] at H; exact H
      clear H
      have H := H1
      clear H1
      have H' := Aside0.mk H
      clear H
      go_enter Try.func63, Try.ntmps63
      go_wp2_with (first | ((with_reducible refine gate_callee (f := 70) rfl ?_); refine goesL_ (some 22) rfl rfl Try.func70 (by kernel_rfl) rfl #[.int .i64 a0, .slice A1 l1.length c1, .slice A2 l2.length c2] rfl (by (try simp only [List.map_toArray, List.map_cons, List.map_nil]); first | done | rfl | (simp only [List.length_drop, List.length_take]; rfl)) ?_; (with_reducible refine (erasure_fit.calls k a0 _ _ l1 _ _ l2 true _ ?side1 ?side2 ?side3 ?side4 A6.out).mono ?_); (case side1 => repeat (first | exact HR1.out | (with_reducible refine Kd.C_alloc ?_ _) | (with_reducible refine Kd.C_drewN ?_ _) | (with_reducible refine Kd.C_drew ?_))); (case side2 => exact HC1.out); (case side3 => repeat (first | exact HR2.out | (with_reducible refine Kd.C_alloc ?_ _) | (with_reducible refine Kd.C_drewN ?_ _) | (with_reducible refine Kd.C_drew ?_))); (case side4 => exact HC2.out); rintro e w8 ⟨rfl, hb⟩; refine ⟨_, rfl, ?_⟩; have n0_ := Aside0.mk (below_step (by repeat (first | (with_reducible first | exact HB.out | apply below_alloc | apply pw_below_drewN | apply below_drew1) | exact HB.out)) hb); clear HB; have HB := n0_; clear n0_; (try clear hb); (try clear hb2); (try clear hk); (try clear hi)))
      go_loopg [10, 26] k (fun kq v10 v26 w' => ∃ (x10_1 : List (List Int)) (x26_1 : Int), v26 = .int .i64 x26_1 ∧ Aside0 (erasure_recovered.l0 kq a0 l1 l2 x10_1 l3 (l3.length : Int) x26_1 = some (r1, r2)) ∧ Aside0 (kq ≤ k) ∧ Aside0 (Kd.S (Kd.slice 5 (Kd.int .u8)) 28 w' w.heap.size (fun _ => True) v10 x10_1) ∧ Aside0 (Below w.heap.size w w'))
      case atStart => exact ⟨(([] : List (List Int))), (0), (by first | rfl | (simp; done) | (simp [*]; done)), H', ⟨Nat.le_refl _⟩, ⟨by first | exact Kd.S_nil _ _ _ _ _ | exact Kd.N_nil _ _ _ _ _ | exact Kd.V_nil _ _ _ _ _ | exact Kd.Q_nil _ _ _ _ _ | exact Kd.R_nil _ _ _ _ _⟩, ⟨by repeat (first | (with_reducible first | exact HB.out | apply below_alloc | apply pw_below_drewN | apply below_drew1) | exact HB.out)⟩⟩
      case round =>
        clear H'
        try clear c1
        try clear c2
        try clear p2
        try clear c3
        try clear c5
        try clear c5b0
        try clear c6
        try clear c7
        obtain ⟨x10_1, x26_1, rfl, HA, HK1, HO_10, HB⟩ := hrel
        cases gk with
        | zero => exact absurd HA.out (by simp [erasure_recovered.l0])
        | succ k1 =>
          have H := HA.out
          clear HA
          simp only [erasure_recovered.l0] at H
          by_cases c9 : x26_1 < (l3.length : Int)
          · rw [if_pos c9] at H
            have c9b0 : decide (x26_1 < (l3.length : Int)) = true := decide_eq_true c9
            clear c9
            by_cases c10 : 0 ≤ x26_1
            · rw [if_pos c10] at H
              have c10b0 : decide (0 ≤ x26_1) = true := decide_eq_true c10
              clear c10
              by_cases c11 : x26_1 < (l3.length : Int)
              · rw [if_pos c11] at H
                have c11b0 : decide (x26_1 < (l3.length : Int)) = true := decide_eq_true c11
                clear c11
                by_cases c12 : 0 ≤ a0
                · rw [if_pos c12] at H
                  have c12b0 := eq_true c12
                  have c12b1 : decide (0 ≤ a0) = true := decide_eq_true c12
                  clear c12
                  by_cases c13 : a0 ≤ (l1.length : Int)
                  · rw [if_pos c13] at H
                    have c13b0 := eq_true c13
                    have c13b1 : decide (a0 ≤ (l1.length : Int)) = true := decide_eq_true c13
                    clear c13
                    have c14b0 := eq_true (of_decide_eq_true (by first | (with_reducible assumption) | assumption) : 0 ≤ a0)
                    by_cases c15 : a0 ≤ (l2.length : Int)
                    · rw [if_pos c15] at H
                      have c15b0 := eq_true c15
                      have c15b1 : decide (a0 ≤ (l2.length : Int)) = true := decide_eq_true c15
                      clear c15
                      obtain ⟨y147, hy147⟩ : ∃ y_ : List (List Int), y_ = (l2.take (a0 : Int).toNat) := ⟨_, rfl⟩
                      replace H : ((erasure_value.f (l1.take (a0 : Int).toNat) y147 (rd l3 x26_1)).bind fun t151 => (if x10_1.length < 5864062014805 then (erasure_recovered.l0 k1 a0 l1 l2 (x10_1 ++ [t151]) l3 (l3.length : Int) (wrap64 (x26_1 + 1))) else (none))) = some (r1, r2) := by first | (rw [hy147]; with_reducible exact H) | (have H2_ := (Option.bind_some _ _).symm.trans H; rw [hy147]; with_reducible exact H2_) | (have H2_ := (Option.bind_some _ _).symm.trans H; with_reducible exact H2_) | with_reducible exact H | (rw [hy147]; exact H) | exact H
                      have Ny147 := Aside0.mk hy147
                      clear hy147
                      replace H := Option.bind_eq_some_iff.mp H
                      obtain ⟨t151, A160, H⟩ := H
                      replace H : (if x10_1.length < 5864062014805 then (erasure_recovered.l0 k1 a0 l1 l2 (x10_1 ++ [t151]) l3 (l3.length : Int) (wrap64 (x26_1 + 1))) else (none)) = some (r1, r2) := H
                      have A16 := Aside0.mk A160
                      clear A160
                      by_cases c17 : x10_1.length < 5864062014805
                      · rw [if_pos c17] at H
                        have LMc17 := Aside0.mk c17
                        clear c17
                        obtain ⟨y154, hy154⟩ : ∃ y_ : List (List Int), y_ = (x10_1 ++ [t151]) := ⟨_, rfl⟩
                        replace H : (erasure_recovered.l0 k1 a0 l1 l2 y154 l3 (l3.length : Int) (wrap64 (x26_1 + 1))) = some (r1, r2) := by first | (rw [hy154]; with_reducible exact H) | (have H2_ := (Option.bind_some _ _).symm.trans H; rw [hy154]; with_reducible exact H2_) | (have H2_ := (Option.bind_some _ _).symm.trans H; with_reducible exact H2_) | with_reducible exact H | (rw [hy154]; exact H) | exact H
                        have Ny154 := Aside0.mk hy154
                        clear hy154
                        have H' := Aside0.mk H
                        clear H
                        have p145 : 0 ≤ (x26_1 : Int) := of_decide_eq_true (by first | (with_reducible assumption) | assumption)
                        have q145 : x26_1 < (l3.length : Int) := of_decide_eq_true (by first | (with_reducible assumption) | assumption)
                        obtain ⟨ad145, e145, hx145_0⟩ := Kd.at_int HR3.out x26_1 p145 q145
                        cases e145
                        replace hx145_0 := (HB.out.cell (World.block_lt_of_cell? w _ hx145_0)).trans hx145_0
                        replace p145 := eq_true p145
                        replace q145 := eq_true q145
                        try go_wp2
                        have n0_ := Aside0.mk (Kd.S_drew HO_10.out)
                        have n1_ := Aside0.mk (below_drew1 HB.out)
                        clear HO_10
                        clear HB
                        have HO_10 := n0_
                        have HB := n1_
                        clear n0_ n1_
                        obtain ⟨i019, hi019, _, hsz19, _⟩ := info_parts info3
                        obtain ⟨hcut19, hA19, hC19⟩ := print_take_of (P := Try.prog) (Value.int .i64) 0 65 3 .i64 Try.underlying65 hi019 hsz19 A1 c1 l1 a0 (of_decide_eq_true (by first | (with_reducible assumption) | assumption)) (of_decide_eq_true (by first | (with_reducible assumption) | assumption)) HC1.out
                        have HR146 := Aside0.mk (Kd.C_of_reads (h1 := fun _ => rfl) (hA19 _ (Kd.reads_of_C HR1.out)))
                        have HC146 := Aside0.mk hC19
                        clear hA19 hC19 hi019 hsz19
                        have q20 : (a0 : Int) ≤ ((l2.length : Int) : Int) := of_decide_eq_true (by first | (with_reducible assumption) | assumption)
                        obtain ⟨i020, hi020, _, hsz20, _⟩ := info_parts info28
                        have hroom20 : l2.length ≤ c2 := HC2.out
                        have hC20 : Kd.C (Kd.slice 5 (Kd.int .u8)) _ A2 l2.length l2 := HR2.out
                        have hcut20 := cut_to (P := Try.prog) 79 28 .i64 Try.underlying79 hi020 A2 l2.length c2 a0 (of_decide_eq_true (by first | (with_reducible assumption) | assumption)) q20 hroom20
                        have hr20 := Kd.C_take (m := (a0 : Int).toNat) hC20 (by omega)
                        have hy20 : y147.length = (a0 : Int).toNat := (by rw [Ny147.out, List.length_take]; omega)
                        rw [← Ny147.out] at hr20
                        rw [← hy20] at hcut20
                        have HR150 := Aside0.mk hr20
                        have HC150 := Aside0.mk (show y147.length ≤ c2 from by omega)
                        clear hr20 hC20 hroom20 hi020 hsz20
                        have KY20 := Aside0.mk hy20
                        clear hy20
                        replace q20 := eq_true q20
                        refine start_ (n := 12) (S := fun w' => True) (ds := []) #[false, false, false, false, false, false, false, false, false, false, false, false] (by kernel_rfl) rfl rfl trivial (fun hHeld => ?_); refine with_tabW erasure_recovered.tab9 erasure_recovered.bits9 (fun HT_ HW_ => ?_)
                        generalize wr.drew = w18 at HO_10 HB HR146 HR150 hHeld ⊢
                        refine pure_ (i := 0) (N := some 30) (v := ?_) (a' := ?_) #[true, false, false, false, false, false, false, false, false, false, false, false] rfl rfl (any_of HT_.out (by kernel_rfl)) (fun _ _ _ h => h) (Or.inl ⟨by rfl, ?_⟩) ?_ ?_
                        rotate_left
                        · intro w'
                          go_simp
                          with_reducible rfl
                        rotate_left
                        · simp only [Act.put, List.setIfInBounds_toArray, List.set_cons_zero, List.set_cons_succ, i64_w, i32_w]
                          rfl
                        refine pure_ (i := 1) (N := some 31) (v := ?_) (a' := ?_) #[true, true, false, false, false, false, false, false, false, false, false, false] rfl rfl (any_of HT_.out (by kernel_rfl)) (fun _ _ _ h => h) (Or.inl ⟨by rfl, ?_⟩) ?_ ?_
                        rotate_left
                        · intro w'
                          go_simp
                          with_reducible rfl
                        rotate_left
                        · simp only [Act.put, List.setIfInBounds_toArray, List.set_cons_zero, List.set_cons_succ, i64_w, i32_w]
                          rfl
                        refine pure_ (i := 2) (N := some 32) (v := ?_) (a' := ?_) #[true, true, true, false, false, false, false, false, false, false, false, false] rfl rfl (any_of HT_.out (by kernel_rfl)) (fun _ _ _ h => h) (Or.inl ⟨by rfl, ?_⟩) ?_ ?_
                        rotate_left
                        · intro w'
                          go_simp
                          with_reducible rfl
                        rotate_left
                        · simp only [Act.put, List.setIfInBounds_toArray, List.set_cons_zero, List.set_cons_succ, i64_w, i32_w]
                          rfl
                        refine pure_ (i := 3) (N := some 33) (v := ?_) (a' := ?_) #[true, true, true, true, false, false, false, false, false, false, false, false] rfl rfl (any_of HT_.out (by kernel_rfl)) (fun _ _ _ h => h) (Or.inl ⟨by rfl, ?_⟩) ?_ ?_
                        rotate_left
                        · intro w'
                          go_simp
                          with_reducible rfl
                        rotate_left
                        · simp only [Act.put, List.setIfInBounds_toArray, List.set_cons_zero, List.set_cons_succ, i64_w, i32_w]
                          rfl
                        refine pure_ (i := 4) (N := some 34) (v := ?_) (a' := ?_) #[true, true, true, true, true, false, false, false, false, false, false, false] rfl rfl (any_of HT_.out (by kernel_rfl)) (fun _ _ _ h => h) (Or.inl ⟨by rfl, ?_⟩) ?_ ?_
                        rotate_left
                        · intro w'
                          go_simp
                          with_reducible rfl
                        rotate_left
                        · simp only [Act.put, List.setIfInBounds_toArray, List.set_cons_zero, List.set_cons_succ, i64_w, i32_w]
                          rfl
                        refine pure_ (i := 5) (N := some 35) (v := ?_) (a' := ?_) #[true, true, true, true, true, true, false, false, false, false, false, false] rfl rfl (any_of HT_.out (by kernel_rfl)) (fun _ _ _ h => h) (Or.inl ⟨by rfl, ?_⟩) ?_ ?_
                        rotate_left
                        · intro w'
                          go_simp
                          with_reducible rfl
                        rotate_left
                        · simp only [Act.put, List.setIfInBounds_toArray, List.set_cons_zero, List.set_cons_succ, i64_w, i32_w]
                          rfl
                        refine pure_ (i := 6) (N := some 36) (v := ?_) (a' := ?_) #[true, true, true, true, true, true, true, false, false, false, false, false] rfl rfl (any_of HT_.out (by kernel_rfl)) (fun _ _ _ h => h) (Or.inl ⟨by rfl, ?_⟩) ?_ ?_
                        rotate_left
                        · intro w'
                          go_simp
                          with_reducible rfl
                        rotate_left
                        · simp only [Act.put, List.setIfInBounds_toArray, List.set_cons_zero, List.set_cons_succ, i64_w, i32_w]
                          rfl
                        refine pure_ (i := 7) (N := some 37) (v := ?_) (a' := ?_) #[true, true, true, true, true, true, true, true, false, false, false, false] rfl rfl (any_of HT_.out (by kernel_rfl)) (fun _ _ _ h => h) (Or.inl ⟨by rfl, ?_⟩) ?_ ?_
                        rotate_left
                        · intro w'
                          go_simp
                          with_reducible rfl
                        rotate_left
                        · simp only [Act.put, List.setIfInBounds_toArray, List.set_cons_zero, List.set_cons_succ, i64_w, i32_w]
                          rfl
                        refine one_ (i := 8) (N := some 38) #[true, true, true, true, true, true, true, true, true, false, false, false] rfl rfl (one_of HT_.out (by kernel_rfl)) (by decide) (fun K hK => ?_)
                        refine goes_ Try.func56 (by kernel_rfl) rfl #[.slice A1 (l1.take (a0 : Int).toNat).length c1, .slice A2 y147.length c2, .int .i64 (rd l3 x26_1)] (by rfl) rfl rfl (by (try simp only [List.map_toArray, List.map_cons, List.map_nil]); first | done | (rw [show (l1.take (a0 : Int).toNat).length = a0.toNat from (by rw [List.length_take]; have h_ : (a0 : Int) ≤ (l1.length : Int) := of_decide_eq_true (by first | (with_reducible assumption) | assumption); omega)] <;> rfl) | rfl | (simp only [List.length_drop, List.length_take]; rfl)) ?_
                        with_reducible refine (erasure_value.calls _ _ (l1.take (a0 : Int).toNat) _ _ y147 (rd l3 x26_1) t151 _ ?side1 ?side2 ?side3 ?side4 A16.out).mono ?_
                        (case side1 => repeat (first | exact (Kd.C_below HR146.out HB.out) | (with_reducible refine Kd.C_alloc ?_ _) | (with_reducible refine Kd.C_drewN ?_ _) | (with_reducible refine Kd.C_drew ?_)))
                        (case side2 => exact HC146.out)
                        (case side3 => repeat (first | exact (Kd.C_below HR150.out HB.out) | (with_reducible refine Kd.C_alloc ?_ _) | (with_reducible refine Kd.C_drewN ?_ _) | (with_reducible refine Kd.C_drew ?_)))
                        (case side4 => exact HC150.out)
                        rintro e w21 ⟨v152, rfl, ho0, hb⟩
                        refine ⟨_, rfl, ?_⟩
                        have n0_ := Aside0.mk (Kd.S_elder' (by (with_reducible repeat (first | apply Kd.S_alloc | apply Kd.S_drewN | apply Kd.S_drew)); exact HO_10.out) (Kd.R_base ho0) hb)
                        have n1_ := Aside0.mk (Kd.R_lower ho0 (below_size (by repeat (first | (with_reducible first | exact HB.out | apply below_alloc | apply pw_below_drewN | apply below_drew1) | exact HB.out))))
                        have n2_ := Aside0.mk (below_step (by repeat (first | (with_reducible first | exact HB.out | apply below_alloc | apply pw_below_drewN | apply below_drew1) | exact HB.out)) hb)
                        clear HO_10
                        clear HB
                        have HO_10 := n0_
                        have HO153 := n1_
                        have HB := n2_
                        clear n0_ n1_ n2_
                        (try clear hb)
                        (try clear hb2)
                        (try clear hk)
                        (try clear hi)
                        (try clear ho0)
                        obtain ⟨Ao23, co23, eo23⟩ := Kd.R_slice HO153.out
                        (first | subst eo23 | (injection eo23 with f1_ f2_ f3_; have f4_ := f1_.symm; have f5_ := f3_.symm; clear f1_ f2_ f3_; subst f4_; subst f5_))
                        refine hK.out _ _ trivial (fun hHeld => ?_)
                        clear hK K
                        refine norm_ (a' := ?_) ?_ ?_
                        rotate_left
                        · show Act.put _ (some 38) _ = _
                          simp only [Act.put, List.setIfInBounds_toArray, List.set_cons_zero, List.set_cons_succ, i64_w, i32_w]
                          rfl
                        refine one_ (i := 9) (N := some 39) #[true, true, true, true, true, true, true, true, true, true, false, false] rfl rfl (one_of HT_.out (by kernel_rfl)) (by decide) (fun K hK => ?_)
                        refine value_ (w1 := ?_) (v := ?_) (by rfl) rfl ?_ ?_
                        rotate_left 2
                        · go_simp
                          constructor
                          · rfl
                          · rfl
                        refine hK.out _ _ trivial (fun hHeld => ?_)
                        clear hK K
                        refine norm_ (a' := ?_) ?_ ?_
                        rotate_left
                        · show Act.put _ (some 39) _ = _
                          simp only [Act.put, List.setIfInBounds_toArray, List.set_cons_zero, List.set_cons_succ, i64_w, i32_w]
                          rfl
                        refine one_ (i := 10) (N := some 40) #[true, true, true, true, true, true, true, true, true, true, true, false] rfl rfl (one_of HT_.out (by kernel_rfl)) (by decide) (fun K hK => ?_)
                        refine Kd.S_append_step (Kd.slice 5 (Kd.int .u8)) (w0 := w) w.heap.size (by rfl) (.tmp 30) (.tmp 39) 79 28 (.slice none 0 0) 24 rfl Try.underlying79 info28 rfl (by decide) (by omega) u10 x10_1 t151 [.slice Ao23 t151.length co23] (fun _ => True) (fun k_ => some k_ = (.slice Ao23 t151.length co23 : Value).ownBlock) rfl rfl ?aP (fun k_ hk_ => ((Kd.R_mono (ok' := fun k_ => ((fun _ => True)) k_ ∧ some k_ ≠ (u10 : Value).ownBlock) (Kd.R_apart' (HO153.out) (Kd.S_typed HO_10.out) (by decide)) (fun k_ hk => ⟨trivial, hk.2⟩))).1 k_ hk_.symm) ?aF ?aO ?aB ?aS ?aL ?_
                        (case aP => exact Kd.M_row (Kd.R_mono (Kd.R_tight rfl (Kd.R_mono (ok' := fun k_ => ((fun _ => True)) k_ ∧ some k_ ≠ (u10 : Value).ownBlock) (Kd.R_apart' (HO153.out) (Kd.S_typed HO_10.out) (by decide)) (fun k_ hk => ⟨trivial, hk.2⟩))) (fun _ h_ => h_)))
                        (case aB => exact (by repeat (first | (with_reducible first | exact HB.out | apply below_alloc | apply pw_below_drewN | apply below_drew1) | exact HB.out)))
                        (case aF => exact (fun _ _ => trivial))
                        (case aO => exact (by (with_reducible repeat (first | apply Kd.S_alloc | apply Kd.S_drewN | apply Kd.S_drew)); exact Kd.S_mono HO_10.out (fun k_ hk => ⟨trivial, fun e_ => hk.2 e_⟩)))
                        (case aS => exact (below_size (by repeat (first | (with_reducible first | exact HB.out | apply below_alloc | apply pw_below_drewN | apply below_drew1) | exact HB.out))))
                        (case aL => have := LMc17.out; omega)
                        intro v155 w22 ho hb hg hat
                        rw [← Ny154.out] at ho
                        have n0_ := Aside0.mk (hb)
                        have n1_ := Aside0.mk (ho)
                        clear HB
                        clear HO_10
                        clear HO153
                        have HB := n0_
                        have HO156 := n1_
                        clear n0_ n1_
                        clear ho hb hg hat
                        refine hK.out _ _ trivial (fun hHeld => ?_)
                        clear hK K
                        refine norm_ (a' := ?_) ?_ ?_
                        rotate_left
                        · show Act.put _ (some 40) _ = _
                          simp only [Act.put, List.setIfInBounds_toArray, List.set_cons_zero, List.set_cons_succ, i64_w, i32_w]
                          rfl
                        refine pure_ (i := 11) (N := some 10) (v := ?_) (a' := ?_) #[true, true, true, true, true, true, true, true, true, true, true, true] rfl rfl (any_of HT_.out (by kernel_rfl)) (fun _ _ _ h => h) (Or.inl ⟨by rfl, ?_⟩) ?_ ?_
                        rotate_left
                        · intro w'
                          go_simp
                          with_reducible rfl
                        rotate_left
                        · simp only [Act.put, List.setIfInBounds_toArray, List.set_cons_zero, List.set_cons_succ, i64_w, i32_w]
                          rfl
                        refine done_ (done_of HT_.out (by kernel_rfl)) ?_
                        try go_wp2
                        go_roundg k1
                        case measure => have := HK1.out; omega
                        case rel => exact ⟨(y154), (wrap64 (x26_1 + 1)), (by first | rfl | (simp; done) | (simp [*]; done)), H', ⟨by have := HK1.out; omega⟩, ⟨by (with_reducible repeat (first | apply Kd.S_alloc | apply Kd.S_drewN | apply Kd.S_drew)); exact HO156.out⟩, ⟨by repeat (first | (with_reducible first | exact HB.out | apply below_alloc | apply pw_below_drewN | apply below_drew1) | exact HB.out)⟩⟩
                      · rw [if_neg c17] at H
                        exact absurd H (by simp)
                    · rw [if_neg c15] at H
                      exact absurd H (by simp)
                  · rw [if_neg c13] at H
                    exact absurd H (by simp)
                · rw [if_neg c12] at H
                  exact absurd H (by simp)
              · rw [if_neg c11] at H
                exact absurd H (by simp)
            · rw [if_neg c10] at H
              exact absurd H (by simp)
          · rw [if_neg c9] at H
            have c9b0 : decide (x26_1 < (l3.length : Int)) = false := decide_eq_false c9
            clear c9
            simp only [Option.some.injEq, Prod.mk.injEq] at H
            obtain ⟨rfl, rfl⟩ := H
            go_wp2
            go_ret2
            exact ⟨_, by first | rfl | (simp [errW_none, errW_some] <;> rfl) | (simp [*, errW_none, errW_some] <;> rfl), by (with_reducible repeat (first | apply Kd.S_alloc | apply Kd.S_drewN | apply Kd.S_drew)); exact HO_10.out, by repeat (first | (with_reducible first | exact HB.out | apply below_alloc | apply pw_below_drewN | apply below_drew1) | exact HB.out)⟩
    · replace c7 := Bool.eq_false_iff.mpr c7
      subst c7
      have H1 : (some (([] : List (List Int)), 18)) = some (r1, r2) := by rw [if_neg (show ¬ (false = true) by decide)] at H; exact H
      clear H
      have H := H1
      clear H1
      simp only [Option.some.injEq, Prod.mk.injEq] at H
      obtain ⟨rfl, rfl⟩ := H
      go_enter Try.func63, Try.ntmps63
      go_wp2_with (first | ((with_reducible refine gate_callee (f := 70) rfl ?_); refine goesL_ (some 22) rfl rfl Try.func70 (by kernel_rfl) rfl #[.int .i64 a0, .slice A1 l1.length c1, .slice A2 l2.length c2] rfl (by (try simp only [List.map_toArray, List.map_cons, List.map_nil]); first | done | rfl | (simp only [List.length_drop, List.length_take]; rfl)) ?_; (with_reducible refine (erasure_fit.calls k a0 _ _ l1 _ _ l2 false _ ?side1 ?side2 ?side3 ?side4 A6.out).mono ?_); (case side1 => repeat (first | exact HR1.out | (with_reducible refine Kd.C_alloc ?_ _) | (with_reducible refine Kd.C_drewN ?_ _) | (with_reducible refine Kd.C_drew ?_))); (case side2 => exact HC1.out); (case side3 => repeat (first | exact HR2.out | (with_reducible refine Kd.C_alloc ?_ _) | (with_reducible refine Kd.C_drewN ?_ _) | (with_reducible refine Kd.C_drew ?_))); (case side4 => exact HC2.out); rintro e w24 ⟨rfl, hb⟩; refine ⟨_, rfl, ?_⟩; have n0_ := Aside0.mk (below_step (by repeat (first | (with_reducible first | exact HB.out | apply below_alloc | apply pw_below_drewN | apply below_drew1) | exact HB.out)) hb); clear HB; have HB := n0_; clear n0_; (try clear hb); (try clear hb2); (try clear hk); (try clear hi)))
      go_ret2
      exact ⟨_, by first | rfl | (simp [errW_none, errW_some] <;> rfl) | (simp [*, errW_none, errW_some] <;> rfl), by first | exact Kd.S_nil _ _ _ _ _ | exact Kd.N_nil _ _ _ _ _ | exact Kd.V_nil _ _ _ _ _ | exact Kd.Q_nil _ _ _ _ _ | exact Kd.R_nil _ _ _ _ _, by repeat (first | (with_reducible first | exact HB.out | apply below_alloc | apply pw_below_drewN | apply below_drew1) | exact HB.out)⟩
def erasure_Decode.j0 : Nat → Int → List Int → List (List Int) → Bool → Option ((List (List Int)) × Int)
  | 0, _, _, _, _ => none
  | k + 1, x0, x2, x3, x27 => if x27 = true then (some (([] : List (List Int)), 1)) else ((erasure_indices.f k x0).bind fun t159 => ((erasure_recovered.f k x0 x2 x3 t159).bind fun bt162 => (some (bt162.1, bt162.2))))
def erasure_Decode.f (k : Nat) (a0 : Int) (a1 : Int) (l2 : List Int) (l3 : List (List Int)) : Option ((List (List Int)) × Int) := (erasure_given.f k a0 l2 l3).bind fun t157 => (if t157 = true then (if (l3.length : Int) > 0 then (if 0 < (l3.length : Int) then (erasure_Decode.j0 k a0 l2 l3 (((rd_L2 l3 0).length : Int) != a1)) else (none)) else (erasure_Decode.j0 k a0 l2 l3 false)) else (erasure_Decode.j0 k a0 l2 l3 true))
theorem erasure_Decode.mono_l : ∀ k, (∀ y0 y1 y2 y3, LeO (erasure_Decode.j0 k y0 y1 y2 y3) (erasure_Decode.j0 (k + 1) y0 y1 y2 y3))
  | 0 => fun _ _ _ _ r h => by simp [erasure_Decode.j0] at h
  | k + 1 => by
    have ih0 := erasure_Decode.mono_l k
    · intro y0 y1 y2 y3
      unfold erasure_Decode.j0
      repeat' first
      | (with_reducible exact ih0 _ _ _ _)
      | (with_reducible exact erasure_given.mono _ _ _ _)
      | (with_reducible exact erasure_indices.mono _ _)
      | (with_reducible exact erasure_recovered.mono _ _ _ _ _)
      | (with_reducible exact LeO.refl _)
      | (with_reducible exact LeO.none _)
      | (with_reducible refine LeO.ite ?_ ?_)
      | (with_reducible refine LeO.bind ?_ (fun _ => ?_))
      | exact ih0 _ _ _ _
      | exact erasure_given.mono _ _ _ _
      | exact erasure_indices.mono _ _
      | exact erasure_recovered.mono _ _ _ _ _
      | exact LeO.none _
      | refine LeO.ite ?_ ?_
      | refine LeO.bind ?_ (fun _ => ?_)
theorem erasure_Decode.mono : ∀ a0 a1 a2 a3 k, LeO (erasure_Decode.f k a0 a1 a2 a3) (erasure_Decode.f (k + 1) a0 a1 a2 a3) := by
  intro a0 a1 a2 a3 k
  have ih0 := erasure_Decode.mono_l k
  unfold erasure_Decode.f
  repeat' first
      | (with_reducible exact ih0 _ _ _ _)
      | (with_reducible exact erasure_given.mono _ _ _ _)
      | (with_reducible exact erasure_indices.mono _ _)
      | (with_reducible exact erasure_recovered.mono _ _ _ _ _)
      | (with_reducible exact LeO.refl _)
      | (with_reducible exact LeO.none _)
      | (with_reducible refine LeO.ite ?_ ?_)
      | (with_reducible refine LeO.bind ?_ (fun _ => ?_))
      | exact ih0 _ _ _ _
      | exact erasure_given.mono _ _ _ _
      | exact erasure_indices.mono _ _
      | exact erasure_recovered.mono _ _ _ _ _
      | exact LeO.none _
      | refine LeO.ite ?_ ?_
      | refine LeO.bind ?_ (fun _ => ?_)
set_option maxHeartbeats 8000000 in
set_option maxRecDepth 100000 in
theorem erasure_Decode.calls (k : Nat) (a0 : Int) (a1 : Int) (A2 : Option Addr) (c2 : Nat) (l2 : List Int) (A3 : Option Addr) (c3 : Nat) (l3 : List (List Int)) (r1 : List (List Int)) (r2 : Int) (w : World) (hr2 : Kd.C (Kd.int .i64) w A2 l2.length l2) (hc2 : l2.length ≤ c2) (hr3 : Kd.C (Kd.slice 5 (Kd.int .u8)) w A3 l3.length l3) (hc3 : l3.length ≤ c3) (h : erasure_Decode.f k a0 a1 l2 l3 = some (r1, r2)) :
    Calls Try.prog 44 #[.int .i64 a0, .int .i64 a1, .slice A2 l2.length c2, .slice A3 l3.length c3] w fun e w' => ∃ v0_ : Value, e = .returned (.tuple #[v0_, .int .i64 r2]) ∧ Kd.S (Kd.slice 5 (Kd.int .u8)) 28 w' w.heap.size (fun _ => True) v0_ r1 ∧ Below w.heap.size w w' := by
  have HR2 := Aside0.mk hr2
  have HC2 := Aside0.mk hc2
  clear hr2 hc2
  have HR3 := Aside0.mk hr3
  have HC3 := Aside0.mk hc3
  clear hr3 hc3
  have HB := Aside0.mk (Below.refl w.heap.size w)
  have H : ((erasure_given.f k a0 l2 l3).bind fun t157 => (if t157 = true then (if (l3.length : Int) > 0 then (if 0 < (l3.length : Int) then (erasure_Decode.j0 k a0 l2 l3 (((rd_L2 l3 0).length : Int) != a1)) else (none)) else (erasure_Decode.j0 k a0 l2 l3 false)) else (erasure_Decode.j0 k a0 l2 l3 true))) = some (r1, r2) := h
  clear h
  have HC5 := Aside0.mk H
  clear H
  go_enter Try.func44, Try.ntmps44
  go_upto_region 1 with (fail)
  go_cut [27] (fun v27 wc => ∃ (kq : Nat) (x27_4 : Bool), v27 = .bool x27_4 ∧ Aside0 (erasure_Decode.j0 kq a0 l2 l3 x27_4 = some (r1, r2)) ∧ Aside0 (kq ≤ k) ∧ Aside0 (Below w.heap.size w wc))
  case first =>
    have H := HC5.out
    clear HC5
    replace H := Option.bind_eq_some_iff.mp H
    obtain ⟨t157, A60, H⟩ := H
    replace H : (if t157 = true then (if (l3.length : Int) > 0 then (if 0 < (l3.length : Int) then (erasure_Decode.j0 k a0 l2 l3 (((rd_L2 l3 0).length : Int) != a1)) else (none)) else (erasure_Decode.j0 k a0 l2 l3 false)) else (erasure_Decode.j0 k a0 l2 l3 true)) = some (r1, r2) := H
    have A6 := Aside0.mk A60
    clear A60
    by_cases c7 : t157 = true
    · subst c7
      have H1 : (if (l3.length : Int) > 0 then (if 0 < (l3.length : Int) then (erasure_Decode.j0 k a0 l2 l3 (((rd_L2 l3 0).length : Int) != a1)) else (none)) else (erasure_Decode.j0 k a0 l2 l3 false)) = some (r1, r2) := by rw [if_pos rfl] at H; exact H
      clear H
      have H := H1
      clear H1
      by_cases c8 : (l3.length : Int) > 0
      · rw [if_pos c8] at H
        have c8b0 : decide (0 < (l3.length : Int)) = true := decide_eq_true c8
        have c8b1 : decide (0 < l3.length) = true := decide_eq_true (by omega)
        clear c8
        (first | rw [c8b0] | (simp only [i64_w, i32_w]; rw [c8b0]) | skip)
        by_cases c9 : 0 < (l3.length : Int)
        · rw [if_pos c9] at H
          have c9b0 : decide (0 < (l3.length : Int)) = true := decide_eq_true c9
          have c9b1 : decide (0 < l3.length) = true := decide_eq_true (by omega)
          clear c9
          have H' := Aside0.mk H
          clear H
          go_wp2_with (first | ((with_reducible refine gate_callee (f := 62) rfl ?_); refine goesL_ (some 13) rfl rfl Try.func62 (by kernel_rfl) rfl #[.int .i64 a0, .slice A2 l2.length c2, .slice A3 l3.length c3] rfl (by (try simp only [List.map_toArray, List.map_cons, List.map_nil]); first | done | rfl | (simp only [List.length_drop, List.length_take]; rfl)) ?_; (with_reducible refine (erasure_given.calls k a0 _ _ l2 _ _ l3 true _ ?side1 ?side2 ?side3 ?side4 A6.out).mono ?_); (case side1 => repeat (first | exact (Kd.C_below HR2.out HB.out) | (with_reducible refine Kd.C_alloc ?_ _) | (with_reducible refine Kd.C_drewN ?_ _) | (with_reducible refine Kd.C_drew ?_))); (case side2 => exact HC2.out); (case side3 => repeat (first | exact (Kd.C_below HR3.out HB.out) | (with_reducible refine Kd.C_alloc ?_ _) | (with_reducible refine Kd.C_drewN ?_ _) | (with_reducible refine Kd.C_drew ?_))); (case side4 => exact HC3.out); rintro e w10 ⟨rfl, hb⟩; refine ⟨_, rfl, ?_⟩; have n0_ := Aside0.mk (below_step (by repeat (first | (with_reducible first | exact HB.out | apply below_alloc | apply pw_below_drewN | apply below_drew1) | exact HB.out)) hb); clear HB; have HB := n0_; clear n0_; (try clear hb); (try clear hb2); (try clear hk); (try clear hi); have p158 : 0 ≤ (0 : Int) := (by omega); have q158 : 0 < (l3.length : Int) := of_decide_eq_true (by first | (with_reducible assumption) | assumption); obtain ⟨ad158, A158_0, c158_0, e158, hx158_0, hl158_0, hi158_0⟩ := at_L2 HR3.out 0 p158 q158; cases e158; have qi158 : (0 < l3.length) = True := eq_true (by omega); (try rw [show ((0 : Int)).toNat = 0 from rfl] at hx158_0); (try rw [Addr.add_zero'] at hx158_0); replace hx158_0 := (HB.out.cell (World.block_lt_of_cell? w _ hx158_0)).trans hx158_0; have HR158_0 := Aside0.mk hi158_0; have HC158_0 := Aside0.mk hl158_0; clear hi158_0 hl158_0; replace p158 := eq_true p158; replace q158 := eq_true q158))
          go_meet
          case rel => exact ⟨_, ((((rd_L2 l3 0).length : Int) != a1)), (by first | rfl | (simp; done) | (simp [*]; done)), H', ⟨by first | omega | exact Nat.le_refl _⟩, ⟨by repeat (first | (with_reducible first | exact HB.out | apply below_alloc | apply pw_below_drewN | apply below_drew1) | exact HB.out)⟩⟩
        · rw [if_neg c9] at H
          exact absurd H (by simp)
      · rw [if_neg c8] at H
        have c8b0 : decide (0 < (l3.length : Int)) = false := decide_eq_false c8
        have c8b1 : decide (0 < l3.length) = false := decide_eq_false (by omega)
        clear c8
        (first | rw [c8b0] | (simp only [i64_w, i32_w]; rw [c8b0]) | skip)
        have H' := Aside0.mk H
        clear H
        go_wp2_with (first | ((with_reducible refine gate_callee (f := 62) rfl ?_); refine goesL_ (some 13) rfl rfl Try.func62 (by kernel_rfl) rfl #[.int .i64 a0, .slice A2 l2.length c2, .slice A3 l3.length c3] rfl (by (try simp only [List.map_toArray, List.map_cons, List.map_nil]); first | done | rfl | (simp only [List.length_drop, List.length_take]; rfl)) ?_; (with_reducible refine (erasure_given.calls k a0 _ _ l2 _ _ l3 true _ ?side1 ?side2 ?side3 ?side4 A6.out).mono ?_); (case side1 => repeat (first | exact (Kd.C_below HR2.out HB.out) | (with_reducible refine Kd.C_alloc ?_ _) | (with_reducible refine Kd.C_drewN ?_ _) | (with_reducible refine Kd.C_drew ?_))); (case side2 => exact HC2.out); (case side3 => repeat (first | exact (Kd.C_below HR3.out HB.out) | (with_reducible refine Kd.C_alloc ?_ _) | (with_reducible refine Kd.C_drewN ?_ _) | (with_reducible refine Kd.C_drew ?_))); (case side4 => exact HC3.out); rintro e w11 ⟨rfl, hb⟩; refine ⟨_, rfl, ?_⟩; have n0_ := Aside0.mk (below_step (by repeat (first | (with_reducible first | exact HB.out | apply below_alloc | apply pw_below_drewN | apply below_drew1) | exact HB.out)) hb); clear HB; have HB := n0_; clear n0_; (try clear hb); (try clear hb2); (try clear hk); (try clear hi)))
        go_meet
        case rel => exact ⟨_, (false), (by first | rfl | (simp; done) | (simp [*]; done)), H', ⟨by first | omega | exact Nat.le_refl _⟩, ⟨by repeat (first | (with_reducible first | exact HB.out | apply below_alloc | apply pw_below_drewN | apply below_drew1) | exact HB.out)⟩⟩
    · replace c7 := Bool.eq_false_iff.mpr c7
      subst c7
      have H1 : (erasure_Decode.j0 k a0 l2 l3 true) = some (r1, r2) := by rw [if_neg (show ¬ (false = true) by decide)] at H; exact H
      clear H
      have H := H1
      clear H1
      have H' := Aside0.mk H
      clear H
      go_wp2_with (first | ((with_reducible refine gate_callee (f := 62) rfl ?_); refine goesL_ (some 13) rfl rfl Try.func62 (by kernel_rfl) rfl #[.int .i64 a0, .slice A2 l2.length c2, .slice A3 l3.length c3] rfl (by (try simp only [List.map_toArray, List.map_cons, List.map_nil]); first | done | rfl | (simp only [List.length_drop, List.length_take]; rfl)) ?_; (with_reducible refine (erasure_given.calls k a0 _ _ l2 _ _ l3 false _ ?side1 ?side2 ?side3 ?side4 A6.out).mono ?_); (case side1 => repeat (first | exact (Kd.C_below HR2.out HB.out) | (with_reducible refine Kd.C_alloc ?_ _) | (with_reducible refine Kd.C_drewN ?_ _) | (with_reducible refine Kd.C_drew ?_))); (case side2 => exact HC2.out); (case side3 => repeat (first | exact (Kd.C_below HR3.out HB.out) | (with_reducible refine Kd.C_alloc ?_ _) | (with_reducible refine Kd.C_drewN ?_ _) | (with_reducible refine Kd.C_drew ?_))); (case side4 => exact HC3.out); rintro e w12 ⟨rfl, hb⟩; refine ⟨_, rfl, ?_⟩; have n0_ := Aside0.mk (below_step (by repeat (first | (with_reducible first | exact HB.out | apply below_alloc | apply pw_below_drewN | apply below_drew1) | exact HB.out)) hb); clear HB; have HB := n0_; clear n0_; (try clear hb); (try clear hb2); (try clear hk); (try clear hi)))
      go_meet
      case rel => exact ⟨_, (true), (by first | rfl | (simp; done) | (simp [*]; done)), H', ⟨by first | omega | exact Nat.le_refl _⟩, ⟨by repeat (first | (with_reducible first | exact HB.out | apply below_alloc | apply pw_below_drewN | apply below_drew1) | exact HB.out)⟩⟩
  case rest =>
    clear HC5
    try clear c1
    try clear p1
    try clear q1
    try clear hx1
    try clear qi1
    try clear c2
    try clear p2
    try clear c3
    try clear c4
    try clear c6
    try clear c7
    try clear c8
    try clear c8b0
    try clear c8b1
    try clear c9
    try clear c9b0
    try clear c9b1
    try clear hx158_0
    try clear p158
    try clear q158
    obtain ⟨kq, x27_4, rfl, HA, HJ4, HB⟩ := hcut
    cases kq with
    | zero => exact absurd HA.out (by simp [erasure_Decode.j0])
    | succ kj4 =>
      have H := HA.out
      clear HA
      simp only [erasure_Decode.j0] at H
      by_cases c13 : x27_4 = true
      · subst c13
        have H1 : (some (([] : List (List Int)), 1)) = some (r1, r2) := by rw [if_pos rfl] at H; exact H
        clear H
        have H := H1
        clear H1
        simp only [Option.some.injEq, Prod.mk.injEq] at H
        obtain ⟨rfl, rfl⟩ := H
        go_wp2
        go_ret2
        exact ⟨_, by first | rfl | (simp [errW_none, errW_some] <;> rfl) | (simp [*, errW_none, errW_some] <;> rfl), by first | exact Kd.S_nil _ _ _ _ _ | exact Kd.N_nil _ _ _ _ _ | exact Kd.V_nil _ _ _ _ _ | exact Kd.Q_nil _ _ _ _ _ | exact Kd.R_nil _ _ _ _ _, by repeat (first | (with_reducible first | exact HB.out | apply below_alloc | apply pw_below_drewN | apply below_drew1) | exact HB.out)⟩
      · replace c13 := Bool.eq_false_iff.mpr c13
        subst c13
        have H1 : ((erasure_indices.f kj4 a0).bind fun t159 => ((erasure_recovered.f kj4 a0 l2 l3 t159).bind fun bt162 => (some (bt162.1, bt162.2)))) = some (r1, r2) := by rw [if_neg (show ¬ (false = true) by decide)] at H; exact H
        clear H
        have H := H1
        clear H1
        replace H := Option.bind_eq_some_iff.mp H
        obtain ⟨t159, A140, H⟩ := H
        replace H : ((erasure_recovered.f kj4 a0 l2 l3 t159).bind fun bt162 => (some (bt162.1, bt162.2))) = some (r1, r2) := H
        have A14 := Aside0.mk A140
        clear A140
        replace H := Option.bind_eq_some_iff.mp H
        obtain ⟨⟨t162, t163⟩, A150, H⟩ := H
        replace H : (some (t162, t163)) = some (r1, r2) := H
        have A15 := Aside0.mk A150
        clear A150
        simp only [Option.some.injEq, Prod.mk.injEq] at H
        obtain ⟨rfl, rfl⟩ := H
        go_wp2_with (first | ((with_reducible refine gate_callee (f := 55) rfl ?_); refine goesL_ (some 32) rfl rfl Try.func55 (by kernel_rfl) rfl #[.int .i64 a0] rfl (by (try simp only [List.map_toArray, List.map_cons, List.map_nil]); first | done | rfl | (simp only [List.length_drop, List.length_take]; rfl)) ?_; (with_reducible refine (erasure_indices.calls kj4 a0 t159 _ A14.out).mono ?_); rintro e w16 ⟨v160, rfl, ho0, hb⟩; refine ⟨_, rfl, ?_⟩; have n0_ := Aside0.mk (Kd.R_lower ho0 (below_size (by repeat (first | (with_reducible first | exact HB.out | apply below_alloc | apply pw_below_drewN | apply below_drew1) | exact HB.out)))); have n1_ := Aside0.mk (below_step (by repeat (first | (with_reducible first | exact HB.out | apply below_alloc | apply pw_below_drewN | apply below_drew1) | exact HB.out)) hb); clear HB; have HO161 := n0_; have HB := n1_; clear n0_ n1_; (try clear hb); (try clear hb2); (try clear hk); (try clear hi); (try clear ho0); obtain ⟨Ao17, co17, eo17⟩ := Kd.R_slice HO161.out; subst eo17) | ((with_reducible refine gate_callee (f := 63) rfl ?_); refine goesL_ (some 33) rfl rfl Try.func63 (by kernel_rfl) rfl #[.int .i64 a0, .slice A2 l2.length c2, .slice A3 l3.length c3, .slice Ao17 t159.length co17] rfl (by (try simp only [List.map_toArray, List.map_cons, List.map_nil]); first | done | rfl | (simp only [List.length_drop, List.length_take]; rfl)) ?_; (with_reducible refine (erasure_recovered.calls kj4 a0 _ _ l2 _ _ l3 _ _ t159 t162 t163 _ ?side1 ?side2 ?side3 ?side4 ?side5 ?side6 A15.out).mono ?_); (case side1 => repeat (first | exact (Kd.C_below HR2.out HB.out) | (with_reducible refine Kd.C_alloc ?_ _) | (with_reducible refine Kd.C_drewN ?_ _) | (with_reducible refine Kd.C_drew ?_))); (case side2 => exact HC2.out); (case side3 => repeat (first | exact (Kd.C_below HR3.out HB.out) | (with_reducible refine Kd.C_alloc ?_ _) | (with_reducible refine Kd.C_drewN ?_ _) | (with_reducible refine Kd.C_drew ?_))); (case side4 => exact HC3.out); (case side5 => repeat (first | exact (Kd.R_reads' HO161.out).2.2 | (with_reducible refine Kd.C_alloc ?_ _) | (with_reducible refine Kd.C_drewN ?_ _) | (with_reducible refine Kd.C_drew ?_))); (case side6 => exact (Kd.R_reads' HO161.out).2.1); rintro e w18 ⟨v164, rfl, ho0, hb⟩; refine ⟨_, rfl, ?_⟩; have n0_ := Aside0.mk (Kd.R_below (by (with_reducible repeat (first | apply Kd.R_alloc | apply Kd.R_drewN | apply Kd.R_drew)); exact HO161.out) hb); have n1_ := Aside0.mk (Kd.S_lower ho0 (below_size (by repeat (first | (with_reducible first | exact HB.out | apply below_alloc | apply pw_below_drewN | apply below_drew1) | exact HB.out)))); have n2_ := Aside0.mk (below_step (by repeat (first | (with_reducible first | exact HB.out | apply below_alloc | apply pw_below_drewN | apply below_drew1) | exact HB.out)) hb); clear HO161; clear HB; have HO161 := n0_; have HO165 := n1_; have HB := n2_; clear n0_ n1_ n2_; (try clear hb); (try clear hb2); (try clear hk); (try clear hi); (try clear ho0)))
        go_ret2
        exact ⟨_, by first | rfl | (simp [errW_none, errW_some] <;> rfl) | (simp [*, errW_none, errW_some] <;> rfl), by (with_reducible repeat (first | apply Kd.S_alloc | apply Kd.S_drewN | apply Kd.S_drew)); exact HO165.out, by repeat (first | (with_reducible first | exact HB.out | apply below_alloc | apply pw_below_drewN | apply below_drew1) | exact HB.out)⟩
mutual
def erasure_Code.j0 : Nat → List (List Int) → Int → Bool → Option ((List (List Int)) × Int)
  | 0, _, _, _ => none
  | k + 1, x0, x1, x29 => if x29 = true then (some (([] : List (List Int)), 1)) else ((erasure_indices.f k (x0.length : Int)).bind fun t167 => (erasure_Code.l0 k x0 t167 ([] : List (List Int)) x1 0))
def erasure_Code.l0 : Nat → List (List Int) → List Int → List (List Int) → Int → Int → Option ((List (List Int)) × Int)
  | 0, _, _, _, _, _ => none
  | k + 1, x0, x6, x7, x33, x34 => if x34 < x33 then ((erasure_value.f x6 x0 x34).bind fun t170 => (if x7.length < 5864062014805 then (erasure_Code.l0 k x0 x6 (x7 ++ [t170]) x33 (wrap64 (x34 + 1))) else (none))) else (some (x7, 0))
end
def erasure_Code.f (k : Nat) (l0 : List (List Int)) (a1 : Int) : Option ((List (List Int)) × Int) := if (l0.length : Int) < 1 then (erasure_Code.j0 k l0 a1 true) else (if (l0.length : Int) > 32 then (erasure_Code.j0 k l0 a1 true) else ((erasure_equal.f k l0).bind fun t166 => (if t166 = true then (if a1 < 0 then (erasure_Code.j0 k l0 a1 true) else (erasure_Code.j0 k l0 a1 (decide (a1 > 32)))) else (erasure_Code.j0 k l0 a1 true))))
theorem erasure_Code.mono_l : ∀ k, (∀ y0 y1 y2, LeO (erasure_Code.j0 k y0 y1 y2) (erasure_Code.j0 (k + 1) y0 y1 y2)) ∧ (∀ y0 y1 y2 y3 y4, LeO (erasure_Code.l0 k y0 y1 y2 y3 y4) (erasure_Code.l0 (k + 1) y0 y1 y2 y3 y4))
  | 0 => ⟨fun _ _ _ r h => by simp [erasure_Code.j0] at h, fun _ _ _ _ _ r h => by simp [erasure_Code.l0] at h⟩
  | k + 1 => by
    obtain ⟨ih0, ih1⟩ := erasure_Code.mono_l k
    refine ⟨?_, ?_⟩
    · intro y0 y1 y2
      unfold erasure_Code.j0
      repeat' first
      | (with_reducible exact ih0 _ _ _)
      | (with_reducible exact ih1 _ _ _ _ _)
      | (with_reducible exact erasure_equal.mono _ _)
      | (with_reducible exact erasure_indices.mono _ _)
      | (with_reducible exact LeO.refl _)
      | (with_reducible exact LeO.none _)
      | (with_reducible refine LeO.ite ?_ ?_)
      | (with_reducible refine LeO.bind ?_ (fun _ => ?_))
      | exact ih0 _ _ _
      | exact ih1 _ _ _ _ _
      | exact erasure_equal.mono _ _
      | exact erasure_indices.mono _ _
      | exact LeO.none _
      | refine LeO.ite ?_ ?_
      | refine LeO.bind ?_ (fun _ => ?_)
    · intro y0 y1 y2 y3 y4
      unfold erasure_Code.l0
      repeat' first
      | (with_reducible exact ih0 _ _ _)
      | (with_reducible exact ih1 _ _ _ _ _)
      | (with_reducible exact erasure_equal.mono _ _)
      | (with_reducible exact erasure_indices.mono _ _)
      | (with_reducible exact LeO.refl _)
      | (with_reducible exact LeO.none _)
      | (with_reducible refine LeO.ite ?_ ?_)
      | (with_reducible refine LeO.bind ?_ (fun _ => ?_))
      | exact ih0 _ _ _
      | exact ih1 _ _ _ _ _
      | exact erasure_equal.mono _ _
      | exact erasure_indices.mono _ _
      | exact LeO.none _
      | refine LeO.ite ?_ ?_
      | refine LeO.bind ?_ (fun _ => ?_)
theorem erasure_Code.mono : ∀ a0 a1 k, LeO (erasure_Code.f k a0 a1) (erasure_Code.f (k + 1) a0 a1) := by
  intro a0 a1 k
  obtain ⟨ih0, ih1⟩ := erasure_Code.mono_l k
  unfold erasure_Code.f
  repeat' first
      | (with_reducible exact ih0 _ _ _)
      | (with_reducible exact ih1 _ _ _ _ _)
      | (with_reducible exact erasure_equal.mono _ _)
      | (with_reducible exact erasure_indices.mono _ _)
      | (with_reducible exact LeO.refl _)
      | (with_reducible exact LeO.none _)
      | (with_reducible refine LeO.ite ?_ ?_)
      | (with_reducible refine LeO.bind ?_ (fun _ => ?_))
      | exact ih0 _ _ _
      | exact ih1 _ _ _ _ _
      | exact erasure_equal.mono _ _
      | exact erasure_indices.mono _ _
      | exact LeO.none _
      | refine LeO.ite ?_ ?_
      | refine LeO.bind ?_ (fun _ => ?_)
set_option maxHeartbeats 8000000 in
set_option maxRecDepth 100000 in
theorem erasure_Code.calls (k : Nat) (A0 : Option Addr) (c0 : Nat) (l0 : List (List Int)) (a1 : Int) (r1 : List (List Int)) (r2 : Int) (w : World) (hr0 : Kd.C (Kd.slice 5 (Kd.int .u8)) w A0 l0.length l0) (hc0 : l0.length ≤ c0) (h : erasure_Code.f k l0 a1 = some (r1, r2)) :
    Calls Try.prog 37 #[.slice A0 l0.length c0, .int .i64 a1] w fun e w' => ∃ v0_ : Value, e = .returned (.tuple #[v0_, .int .i64 r2]) ∧ Kd.S (Kd.slice 5 (Kd.int .u8)) 28 w' w.heap.size (fun _ => True) v0_ r1 ∧ Below w.heap.size w w' := by
  have HR0 := Aside0.mk hr0
  have HC0 := Aside0.mk hc0
  clear hr0 hc0
  have HB := Aside0.mk (Below.refl w.heap.size w)
  have H : (if (l0.length : Int) < 1 then (erasure_Code.j0 k l0 a1 true) else (if (l0.length : Int) > 32 then (erasure_Code.j0 k l0 a1 true) else ((erasure_equal.f k l0).bind fun t166 => (if t166 = true then (if a1 < 0 then (erasure_Code.j0 k l0 a1 true) else (erasure_Code.j0 k l0 a1 (decide (a1 > 32)))) else (erasure_Code.j0 k l0 a1 true))))) = some (r1, r2) := h
  clear h
  have HC3 := Aside0.mk H
  clear H
  go_enter Try.func37, Try.ntmps37
  go_upto_region 1 with (fail)
  go_cut [29] (fun v29 wc => ∃ (kq : Nat) (x29_2 : Bool), v29 = .bool x29_2 ∧ Aside0 (erasure_Code.j0 kq l0 a1 x29_2 = some (r1, r2)) ∧ Aside0 (kq ≤ k) ∧ Aside0 (Below w.heap.size w wc))
  case first =>
    have H := HC3.out
    clear HC3
    by_cases c4 : (l0.length : Int) < 1
    · rw [if_pos c4] at H
      have c4b0 : decide ((l0.length : Int) < 1) = true := decide_eq_true c4
      have c4b1 : decide (l0.length < 1) = true := decide_eq_true (by omega)
      clear c4
      (first | rw [c4b0] | (simp only [i64_w, i32_w]; rw [c4b0]) | skip)
      have H' := Aside0.mk H
      clear H
      go_wp2
      go_meet
      case rel => exact ⟨_, (true), (by first | rfl | (simp; done) | (simp [*]; done)), H', ⟨by first | omega | exact Nat.le_refl _⟩, ⟨by repeat (first | (with_reducible first | exact HB.out | apply below_alloc | apply pw_below_drewN | apply below_drew1) | exact HB.out)⟩⟩
    · rw [if_neg c4] at H
      have c4b0 : decide ((l0.length : Int) < 1) = false := decide_eq_false c4
      have c4b1 : decide (l0.length < 1) = false := decide_eq_false (by omega)
      clear c4
      (first | rw [c4b0] | (simp only [i64_w, i32_w]; rw [c4b0]) | skip)
      by_cases c5 : (l0.length : Int) > 32
      · rw [if_pos c5] at H
        have c5b0 : decide (32 < (l0.length : Int)) = true := decide_eq_true c5
        have c5b1 : decide (32 < l0.length) = true := decide_eq_true (by omega)
        clear c5
        have H' := Aside0.mk H
        clear H
        go_wp2
        go_meet
        case rel => exact ⟨_, (true), (by first | rfl | (simp; done) | (simp [*]; done)), H', ⟨by first | omega | exact Nat.le_refl _⟩, ⟨by repeat (first | (with_reducible first | exact HB.out | apply below_alloc | apply pw_below_drewN | apply below_drew1) | exact HB.out)⟩⟩
      · rw [if_neg c5] at H
        have c5b0 : decide (32 < (l0.length : Int)) = false := decide_eq_false c5
        have c5b1 : decide (32 < l0.length) = false := decide_eq_false (by omega)
        clear c5
        replace H := Option.bind_eq_some_iff.mp H
        obtain ⟨t166, A60, H⟩ := H
        replace H : (if t166 = true then (if a1 < 0 then (erasure_Code.j0 k l0 a1 true) else (erasure_Code.j0 k l0 a1 (decide (a1 > 32)))) else (erasure_Code.j0 k l0 a1 true)) = some (r1, r2) := H
        have A6 := Aside0.mk A60
        clear A60
        by_cases c7 : t166 = true
        · subst c7
          have H1 : (if a1 < 0 then (erasure_Code.j0 k l0 a1 true) else (erasure_Code.j0 k l0 a1 (decide (a1 > 32)))) = some (r1, r2) := by rw [if_pos rfl] at H; exact H
          clear H
          have H := H1
          clear H1
          by_cases c8 : a1 < 0
          · rw [if_pos c8] at H
            have c8b0 : decide (a1 < 0) = true := decide_eq_true c8
            clear c8
            have H' := Aside0.mk H
            clear H
            go_wp2_with (first | (go_at_call 54; (with_reducible refine (erasure_equal.calls k _ _ l0 true _ ?side1 ?side2 A6.out).mono ?_); (case side1 => repeat (first | exact (Kd.C_below HR0.out HB.out) | (with_reducible refine Kd.C_alloc ?_ _) | (with_reducible refine Kd.C_drewN ?_ _) | (with_reducible refine Kd.C_drew ?_))); (case side2 => exact HC0.out); rintro e w' ⟨rfl, ⟨nd, rfl⟩⟩))
            go_meet
            case rel => exact ⟨_, (true), (by first | rfl | (simp; done) | (simp [*]; done)), H', ⟨by first | omega | exact Nat.le_refl _⟩, ⟨by repeat (first | (with_reducible first | exact HB.out | apply below_alloc | apply pw_below_drewN | apply below_drew1) | exact HB.out)⟩⟩
          · rw [if_neg c8] at H
            have c8b0 : decide (a1 < 0) = false := decide_eq_false c8
            clear c8
            have H' := Aside0.mk H
            clear H
            go_wp2_with (first | (go_at_call 54; (with_reducible refine (erasure_equal.calls k _ _ l0 true _ ?side1 ?side2 A6.out).mono ?_); (case side1 => repeat (first | exact (Kd.C_below HR0.out HB.out) | (with_reducible refine Kd.C_alloc ?_ _) | (with_reducible refine Kd.C_drewN ?_ _) | (with_reducible refine Kd.C_drew ?_))); (case side2 => exact HC0.out); rintro e w' ⟨rfl, ⟨nd, rfl⟩⟩))
            go_meet
            case rel => exact ⟨_, (decide (a1 > 32)), (by first | rfl | (simp; done) | (simp [*]; done)), H', ⟨by first | omega | exact Nat.le_refl _⟩, ⟨by repeat (first | (with_reducible first | exact HB.out | apply below_alloc | apply pw_below_drewN | apply below_drew1) | exact HB.out)⟩⟩
        · replace c7 := Bool.eq_false_iff.mpr c7
          subst c7
          have H1 : (erasure_Code.j0 k l0 a1 true) = some (r1, r2) := by rw [if_neg (show ¬ (false = true) by decide)] at H; exact H
          clear H
          have H := H1
          clear H1
          have H' := Aside0.mk H
          clear H
          go_wp2_with (first | (go_at_call 54; (with_reducible refine (erasure_equal.calls k _ _ l0 false _ ?side1 ?side2 A6.out).mono ?_); (case side1 => repeat (first | exact (Kd.C_below HR0.out HB.out) | (with_reducible refine Kd.C_alloc ?_ _) | (with_reducible refine Kd.C_drewN ?_ _) | (with_reducible refine Kd.C_drew ?_))); (case side2 => exact HC0.out); rintro e w' ⟨rfl, ⟨nd, rfl⟩⟩))
          go_meet
          case rel => exact ⟨_, (true), (by first | rfl | (simp; done) | (simp [*]; done)), H', ⟨by first | omega | exact Nat.le_refl _⟩, ⟨by repeat (first | (with_reducible first | exact HB.out | apply below_alloc | apply pw_below_drewN | apply below_drew1) | exact HB.out)⟩⟩
  case rest =>
    clear HC3
    try clear p2
    try clear c3
    try clear c4
    try clear c4b0
    try clear c4b1
    try clear c5
    try clear c5b0
    try clear c5b1
    try clear c7
    try clear c8
    try clear c8b0
    obtain ⟨kq, x29_2, rfl, HA, HJ2, HB⟩ := hcut
    cases kq with
    | zero => exact absurd HA.out (by simp [erasure_Code.j0])
    | succ kj2 =>
      have H := HA.out
      clear HA
      simp only [erasure_Code.j0] at H
      by_cases c9 : x29_2 = true
      · subst c9
        have H1 : (some (([] : List (List Int)), 1)) = some (r1, r2) := by rw [if_pos rfl] at H; exact H
        clear H
        have H := H1
        clear H1
        simp only [Option.some.injEq, Prod.mk.injEq] at H
        obtain ⟨rfl, rfl⟩ := H
        go_wp2
        go_ret2
        exact ⟨_, by first | rfl | (simp [errW_none, errW_some] <;> rfl) | (simp [*, errW_none, errW_some] <;> rfl), by first | exact Kd.S_nil _ _ _ _ _ | exact Kd.N_nil _ _ _ _ _ | exact Kd.V_nil _ _ _ _ _ | exact Kd.Q_nil _ _ _ _ _ | exact Kd.R_nil _ _ _ _ _, by repeat (first | (with_reducible first | exact HB.out | apply below_alloc | apply pw_below_drewN | apply below_drew1) | exact HB.out)⟩
      · replace c9 := Bool.eq_false_iff.mpr c9
        subst c9
        have H1 : ((erasure_indices.f kj2 (l0.length : Int)).bind fun t167 => (erasure_Code.l0 kj2 l0 t167 ([] : List (List Int)) a1 0)) = some (r1, r2) := by rw [if_neg (show ¬ (false = true) by decide)] at H; exact H
        clear H
        have H := H1
        clear H1
        replace H := Option.bind_eq_some_iff.mp H
        obtain ⟨t167, A100, H⟩ := H
        replace H : (erasure_Code.l0 kj2 l0 t167 ([] : List (List Int)) a1 0) = some (r1, r2) := H
        have A10 := Aside0.mk A100
        clear A100
        have H' := Aside0.mk H
        clear H
        go_wp2_with (first | ((with_reducible refine gate_callee (f := 55) rfl ?_); refine goesL_ (some 32) rfl rfl Try.func55 (by kernel_rfl) rfl #[.int .i64 (l0.length : Int)] rfl (by (try simp only [List.map_toArray, List.map_cons, List.map_nil]); first | done | rfl | (simp only [List.length_drop, List.length_take]; rfl)) ?_; (with_reducible refine (erasure_indices.calls kj2 (l0.length : Int) t167 _ A10.out).mono ?_); rintro e w11 ⟨v168, rfl, ho0, hb⟩; refine ⟨_, rfl, ?_⟩; have n0_ := Aside0.mk (Kd.R_lower ho0 (below_size (by repeat (first | (with_reducible first | exact HB.out | apply below_alloc | apply pw_below_drewN | apply below_drew1) | exact HB.out)))); have n1_ := Aside0.mk (below_step (by repeat (first | (with_reducible first | exact HB.out | apply below_alloc | apply pw_below_drewN | apply below_drew1) | exact HB.out)) hb); clear HB; have HO169 := n0_; have HB := n1_; clear n0_ n1_; (try clear hb); (try clear hb2); (try clear hk); (try clear hi); (try clear ho0)))
        go_loopg [7, 34] kj2 (fun kq v7 v34 w' => ∃ (x7_2 : List (List Int)) (x34_2 : Int), v34 = .int .i64 x34_2 ∧ Aside0 (erasure_Code.l0 kq l0 t167 x7_2 a1 x34_2 = some (r1, r2)) ∧ Aside0 (kq ≤ kj2) ∧ Aside0 (Kd.R (Kd.int .i64) 3 w' w.heap.size (fun _ => True) v168 t167) ∧ Aside0 (Kd.S (Kd.slice 5 (Kd.int .u8)) 28 w' w.heap.size (fun _ => True) v7 x7_2) ∧ Aside0 (Below w.heap.size w w'))
        case atStart => exact ⟨(([] : List (List Int))), (0), (by first | rfl | (simp; done) | (simp [*]; done)), H', ⟨Nat.le_refl _⟩, ⟨by (with_reducible repeat (first | apply Kd.R_alloc | apply Kd.R_drewN | apply Kd.R_drew)); exact HO169.out⟩, ⟨by first | exact Kd.S_nil _ _ _ _ _ | exact Kd.N_nil _ _ _ _ _ | exact Kd.V_nil _ _ _ _ _ | exact Kd.Q_nil _ _ _ _ _ | exact Kd.R_nil _ _ _ _ _⟩, ⟨by repeat (first | (with_reducible first | exact HB.out | apply below_alloc | apply pw_below_drewN | apply below_drew1) | exact HB.out)⟩⟩
        case round =>
          clear H'
          try clear p2
          try clear c3
          try clear c4
          try clear c4b0
          try clear c4b1
          try clear c5
          try clear c5b0
          try clear c5b1
          try clear c7
          try clear c8
          try clear c8b0
          try clear c9
          try clear p2
          obtain ⟨x7_2, x34_2, rfl, HA, HK2, HO_6, HO_7, HB⟩ := hrel
          cases gk with
          | zero => exact absurd HA.out (by simp [erasure_Code.l0])
          | succ k2 =>
            have H := HA.out
            clear HA
            simp only [erasure_Code.l0] at H
            by_cases c12 : x34_2 < a1
            · rw [if_pos c12] at H
              have c12b0 : decide (x34_2 < a1) = true := decide_eq_true c12
              clear c12
              replace H := Option.bind_eq_some_iff.mp H
              obtain ⟨t170, A130, H⟩ := H
              replace H : (if x7_2.length < 5864062014805 then (erasure_Code.l0 k2 l0 t167 (x7_2 ++ [t170]) a1 (wrap64 (x34_2 + 1))) else (none)) = some (r1, r2) := H
              have A13 := Aside0.mk A130
              clear A130
              by_cases c14 : x7_2.length < 5864062014805
              · rw [if_pos c14] at H
                have LMc14 := Aside0.mk c14
                clear c14
                obtain ⟨y173, hy173⟩ : ∃ y_ : List (List Int), y_ = (x7_2 ++ [t170]) := ⟨_, rfl⟩
                replace H : (erasure_Code.l0 k2 l0 t167 y173 a1 (wrap64 (x34_2 + 1))) = some (r1, r2) := by first | (rw [hy173]; with_reducible exact H) | (have H2_ := (Option.bind_some _ _).symm.trans H; rw [hy173]; with_reducible exact H2_) | (have H2_ := (Option.bind_some _ _).symm.trans H; with_reducible exact H2_) | with_reducible exact H | (rw [hy173]; exact H) | exact H
                have Ny173 := Aside0.mk hy173
                clear hy173
                have H' := Aside0.mk H
                clear H
                obtain ⟨Ao15, co15, eo15⟩ := Kd.R_slice HO_6.out
                subst eo15
                go_wp2_with (first | ((with_reducible refine gate_callee (f := 56) rfl ?_); refine goesL_ (some 41) rfl rfl Try.func56 (by kernel_rfl) rfl #[.slice Ao15 t167.length co15, .slice A0 l0.length c0, .int .i64 x34_2] rfl (by (try simp only [List.map_toArray, List.map_cons, List.map_nil]); first | done | rfl | (simp only [List.length_drop, List.length_take]; rfl)) ?_; (with_reducible refine (erasure_value.calls _ _ t167 _ _ l0 x34_2 t170 _ ?side1 ?side2 ?side3 ?side4 A13.out).mono ?_); (case side1 => repeat (first | exact (Kd.R_reads' HO_6.out).2.2 | (with_reducible refine Kd.C_alloc ?_ _) | (with_reducible refine Kd.C_drewN ?_ _) | (with_reducible refine Kd.C_drew ?_))); (case side2 => exact (Kd.R_reads' HO_6.out).2.1); (case side3 => repeat (first | exact (Kd.C_below HR0.out HB.out) | (with_reducible refine Kd.C_alloc ?_ _) | (with_reducible refine Kd.C_drewN ?_ _) | (with_reducible refine Kd.C_drew ?_))); (case side4 => exact HC0.out); rintro e w16 ⟨v171, rfl, ho0, hb⟩; refine ⟨_, rfl, ?_⟩; have n0_ := Aside0.mk (Kd.R_below (by (with_reducible repeat (first | apply Kd.R_alloc | apply Kd.R_drewN | apply Kd.R_drew)); exact HO_6.out) hb); have n1_ := Aside0.mk (Kd.S_elder' (by (with_reducible repeat (first | apply Kd.S_alloc | apply Kd.S_drewN | apply Kd.S_drew)); exact HO_7.out) (Kd.R_base ho0) hb); have n2_ := Aside0.mk (Kd.R_lower ho0 (below_size (by repeat (first | (with_reducible first | exact HB.out | apply below_alloc | apply pw_below_drewN | apply below_drew1) | exact HB.out)))); have n3_ := Aside0.mk (below_step (by repeat (first | (with_reducible first | exact HB.out | apply below_alloc | apply pw_below_drewN | apply below_drew1) | exact HB.out)) hb); clear HO_6; clear HO_7; clear HB; have HO_6 := n0_; have HO_7 := n1_; have HO172 := n2_; have HB := n3_; clear n0_ n1_ n2_ n3_; (try clear hb); (try clear hb2); (try clear hk); (try clear hi); (try clear ho0); obtain ⟨Ao18, co18, eo18⟩ := Kd.R_slice HO172.out; subst eo18) | ((with_reducible refine gate_builtin (b := .append) (xs := #[.tmp 37, .tmp 42]) rfl ?_); (try (refine gate_guard (by rfl) ?_; dsimp only)); at_builtin; refine Kd.S_append (Kd.slice 5 (Kd.int .u8)) (w0 := w) w.heap.size rfl (.tmp 37) (.tmp 42) 79 28 (.slice none 0 0) 24 rfl Try.underlying79 info28 rfl (by decide) (by omega) u7 x7_2 t170 [.slice Ao18 t170.length co18] (fun _ => True) (fun k_ => some k_ = (.slice Ao18 t170.length co18 : Value).ownBlock) rfl rfl ?aP (fun k_ hk_ => ((Kd.R_mono (ok' := fun k_ => ((fun _ => True)) k_ ∧ some k_ ≠ (u7 : Value).ownBlock) (Kd.R_apart' (HO172.out) (Kd.S_typed HO_7.out) (by decide)) (fun k_ hk => ⟨trivial, hk.2⟩))).1 k_ hk_.symm) ?aF ?aO ?aB ?aS ?aL ?_; (case aP => exact Kd.M_row (Kd.R_mono (Kd.R_tight rfl (Kd.R_mono (ok' := fun k_ => ((fun _ => True)) k_ ∧ some k_ ≠ (u7 : Value).ownBlock) (Kd.R_apart' (HO172.out) (Kd.S_typed HO_7.out) (by decide)) (fun k_ hk => ⟨trivial, hk.2⟩))) (fun _ h_ => h_))); (case aB => exact (by repeat (first | (with_reducible first | exact HB.out | apply below_alloc | apply pw_below_drewN | apply below_drew1) | exact HB.out))); (case aF => exact (fun _ _ => trivial)); (case aO => exact (by (with_reducible repeat (first | apply Kd.S_alloc | apply Kd.S_drewN | apply Kd.S_drew)); exact Kd.S_mono HO_7.out (fun k_ hk => ⟨trivial, fun e_ => hk.2 e_⟩))); (case aS => exact (below_size (by repeat (first | (with_reducible first | exact HB.out | apply below_alloc | apply pw_below_drewN | apply below_drew1) | exact HB.out)))); (case aL => have := LMc14.out; omega); intro v174 w17 ho hb hg hat; rw [← Ny173.out] at ho; have n0_ := Aside0.mk (Kd.R_over' (by (with_reducible repeat (first | apply Kd.R_alloc | apply Kd.R_drewN | apply Kd.R_drew)); exact HO_6.out) (Kd.S_typed (by (with_reducible repeat (first | apply Kd.S_alloc | apply Kd.S_drewN | apply Kd.S_drew)); exact HO_7.out)) (by decide) hg); have n1_ := Aside0.mk (hb); have n2_ := Aside0.mk (ho); clear HO_6; clear HB; clear HO_7; clear HO172; have HO_6 := n0_; have HB := n1_; have HO175 := n2_; clear n0_ n1_ n2_; clear ho hb hg hat))
                go_roundg k2
                case measure => have := HJ2.out; have := HK2.out; omega
                case rel => exact ⟨(y173), (wrap64 (x34_2 + 1)), (by first | rfl | (simp; done) | (simp [*]; done)), H', ⟨by have := HJ2.out; have := HK2.out; omega⟩, ⟨by (with_reducible repeat (first | apply Kd.R_alloc | apply Kd.R_drewN | apply Kd.R_drew)); exact HO_6.out⟩, ⟨by (with_reducible repeat (first | apply Kd.S_alloc | apply Kd.S_drewN | apply Kd.S_drew)); exact HO175.out⟩, ⟨by repeat (first | (with_reducible first | exact HB.out | apply below_alloc | apply pw_below_drewN | apply below_drew1) | exact HB.out)⟩⟩
              · rw [if_neg c14] at H
                exact absurd H (by simp)
            · rw [if_neg c12] at H
              have c12b0 : decide (x34_2 < a1) = false := decide_eq_false c12
              clear c12
              simp only [Option.some.injEq, Prod.mk.injEq] at H
              obtain ⟨rfl, rfl⟩ := H
              go_wp2
              go_ret2
              exact ⟨_, by first | rfl | (simp [errW_none, errW_some] <;> rfl) | (simp [*, errW_none, errW_some] <;> rfl), by (with_reducible repeat (first | apply Kd.S_alloc | apply Kd.S_drewN | apply Kd.S_drew)); exact HO_7.out, by repeat (first | (with_reducible first | exact HB.out | apply below_alloc | apply pw_below_drewN | apply below_drew1) | exact HB.out)⟩
end Go.Proofs.Ythiealhmcfdakaa.E
end
section
set_option linter.unusedVariables false
set_option linter.unusedSimpArgs false
namespace Go.Proofs.YthiealhmcfdakaaH
open Go Go.RowKit Go.Proofs.YthiealhmcfdakaaW.PrintWords Go.Proofs.YthiealhmcfdakaaW.PrintLast Go.Proofs.YthiealhmcfdakaaW.PrintMore Go.Proofs.Ythiealhmcfdakaa.E
theorem info_piece : (Try.prog.info? 49).map (fun i => (i.zero, i.size, i.bytes)) = some (some (.agg #[.int .i64 0, .int .i64 0, .int .i64 0, .int .i64 0, .int .i64 0, .int .i64 0, .int .i64 0, .slice none 0 0]), 8, 80) := by kernel_rfl
def rawKd (n : Nat) : Kd (List Value) where
  sz := n
  E := []
  K := fun _ x cs => cs = x ∧ x.length = n ∧ ∀ u ∈ x, u.oneCell' = true
  M := fun _ _ _ x cs => cs = x ∧ x.length = n ∧ ∀ u ∈ x, u.oneCell' = true
  K_len := by rintro w x cs ⟨rfl, h, _⟩; exact h
  K_one := by rintro w x cs ⟨rfl, _, h⟩; exact h
  K_below := fun _ h => h
  K_of_M := fun h => h
  M_mono := fun _ h => h
  M_bound := fun h => h
  M_move := fun _ h => h
  M_lower := fun _ h => h
theorem C_of_raw {α : Type} {d : Kd α} {w : World} {A : Option Addr} {n : Nat} {xs : List (List Value)} {ps : List α} (h : (rawKd d.sz).C w A n xs) (hl : ps.length = xs.length) (hK : ∀ (j : Nat) (p : α) (x : List Value), ps[j]? = some p → xs[j]? = some x → d.K w p x) : d.C w A n ps := by
  refine ⟨by rw [hl]; exact h.1, h.2.1, fun hn => ?_⟩
  obtain ⟨ad, e, hc⟩ := h.2.2 hn
  refine ⟨ad, e, fun j p hj => ?_⟩
  have hlt : j < xs.length := by rw [← hl]; exact (List.getElem?_eq_some_iff.1 hj).1
  obtain ⟨c, h1, h2, h3⟩ := hc j _ (List.getElem?_eq_getElem hlt)
  obtain ⟨rfl, h4, h5⟩ := h2
  exact ⟨_, h4, hK j p _ hj (List.getElem?_eq_getElem hlt), h3⟩
theorem length_f2 (a5 a4 : Int) (h4 : 1 ≤ a4) (h5 : 1 ≤ a5) (hb : a5 ≤ 1000000) (h32 : a4 ≤ 32) : piece_length.f a5 a4 = some ((a5 + a4 - 1) / a4) := by
  unfold piece_length.f
  rw [if_neg (by omega)]
  have e1 : wrap64 (a5 + a4) = a5 + a4 := by unfold wrap64; omega
  rw [e1]
  have e2 : wrap64 (a5 + a4 - 1) = a5 + a4 - 1 := by unfold wrap64; omega
  rw [e2, Int.tdiv_eq_ediv_of_nonneg (by omega)]
  have h1 : 0 ≤ (a5 + a4 - 1) / a4 := Int.ediv_nonneg (by omega) (by omega)
  have h2 : (a5 + a4 - 1) / a4 ≤ a5 + a4 - 1 := Int.ediv_le_self _ (by omega)
  have e3 : wrap64 ((a5 + a4 - 1) / a4) = (a5 + a4 - 1) / a4 := by
    generalize (a5 + a4 - 1) / a4 = q at *
    unfold wrap64; omega
  rw [e3]
def lenOf (b : List Int) (need : Int) : Nat := (b.length + need.toNat - 1) / need.toNat
def rowsOf (b : List Int) (need : Int) : List (List Int) := cutR (b ++ List.replicate (lenOf b need * need.toNat - b.length) 0) (lenOf b need) need.toNat
def sumOf (b : List Int) : Int := Go.bits .xor .u32 4294967295 (crcFold 4294967295 b)
theorem sumOf_range (b : List Int) : 0 ≤ sumOf b ∧ sumOf b < 4294967296 := by
  unfold sumOf Go.bits
  simp only [IntKind.wrap_u32]
  omega
def pieceAt (w : Wn) (b : List Int) (need : Int) (i : Nat) (d : List Int) : S49 := ⟨⟨w.st, w.ki, w.nu⟩, (i : Int), need, (b.length : Int), sumOf b, d⟩
def piecesOf (w : Wn) (b : List Int) (need : Int) (ds : List (List Int)) : List S49 := (List.range ds.length).map fun i => pieceAt w b need i (ds.getD i [])
def bytesF (k : Nat) (w : Wn) : Option (List Int × Int) := piece_Bytes.f k w.st w.ki w.nu w.iss w.unt w.xlo w.xhi w.ylo w.yhi w.pri w.wd w.text
def piece_Cut.f (k : Nat) (w : Wn) (need n : Int) : Option (List S49 × Int) :=
  (bytesF k w).bind fun t => if t.2 ≠ 0 ∨ need < 1 ∨ need > 32 ∨ n < 0 ∨ n > 32 then some ([], 1)
    else if 1 ≤ t.1.length ∧ t.1.length ≤ 1000000 then (if lenOf t.1 need > 200 then some ([], 2)
      else (erasure_Code.f k (rowsOf t.1 need) n).bind fun u => if u.2 ≠ 0 then some ([], u.2) else if u.1.length ≤ 32 then some (piecesOf w t.1 need u.1, 0) else none) else none
set_option maxHeartbeats 8000000 in
set_option maxRecDepth 100000 in
theorem piece_Cut.calls (k : Nat) (p : Wn) (Ap : Option Addr) (cp : Nat) (need n : Int) (r1 : List S49) (r2 : Int) (w : World) (hrt : Kd.C (Kd.int .u8) w Ap p.text.length p.text) (hct : p.text.length ≤ cp) (h : piece_Cut.f k p need n = some (r1, r2)) :
    Calls Try.prog 18 #[vWn p (.slice Ap p.text.length cp), .int .i64 need, .int .i64 n] w fun e w' => ∃ A' c', e = .returned (.tuple #[.slice A' r1.length c', .int .i64 r2]) ∧ r1.length ≤ c' ∧ Kd.C k49 w' A' r1.length r1 ∧ Below w.heap.size w w' := by
  have hu30 := Try.underlying30
  have hu49 := Try.underlying49
  have hu23 := Try.underlying23
  unfold piece_Cut.f at h
  obtain ⟨⟨b, eb⟩, hb, h⟩ := Option.bind_eq_some_iff.1 h
  dsimp only at h
  have hby := fun W (hB : Below w.heap.size w W) => piece_Bytes.calls k _ _ _ _ _ _ _ _ _ _ _ Ap cp p.text b eb W (Kd.C_below hrt hB) hct hb
  obtain ⟨st, ki, nu, iss, unt, xlo, xhi, ylo, yhi, pri, wd, text⟩ := p
  dsimp only at *
  simp only [vWn]
  have hmix : Try.prog.follows .mixedOrders = true := by kernel_rfl
  go_enter Try.func18, Try.ntmps18
  go_wp2_with (first | ((with_reducible refine gate_dst (N := 3) rfl ?_); (try (refine gate_guard (by rfl) ?_; dsimp only)); refine box_event ?hg (N := 3) ?hd (cs := #[.int .i64 st, .int .i64 ki, .int .i64 nu, .int .i64 iss, .int .i64 unt, .int .i64 xlo, .int .i64 xhi, .int .i64 ylo, .int .i64 yhi, .int .i64 pri, .bool wd, .slice Ap text.length cp]) (t := 30) ?hr ?_; (case hd => rfl); (case hg => rfl); (case hr => first | (go_simp; done) | (go_simp; rfl)); intro gb hg w1 hbox hbb; have hc0 : w1.cell? ⟨gb, 0, none⟩ = some (.int .i64 st) := (blk_cell hbox 0).trans rfl; have hc1 : w1.cell? ⟨gb, 1, none⟩ = some (.int .i64 ki) := (blk_cell hbox 1).trans rfl; have hc2 : w1.cell? ⟨gb, 2, none⟩ = some (.int .i64 nu) := (blk_cell hbox 2).trans rfl; have hc3 : w1.cell? ⟨gb, 3, none⟩ = some (.int .i64 iss) := (blk_cell hbox 3).trans rfl; have hc4 : w1.cell? ⟨gb, 4, none⟩ = some (.int .i64 unt) := (blk_cell hbox 4).trans rfl; have hc5 : w1.cell? ⟨gb, 5, none⟩ = some (.int .i64 xlo) := (blk_cell hbox 5).trans rfl; have hc6 : w1.cell? ⟨gb, 6, none⟩ = some (.int .i64 xhi) := (blk_cell hbox 6).trans rfl; have hc7 : w1.cell? ⟨gb, 7, none⟩ = some (.int .i64 ylo) := (blk_cell hbox 7).trans rfl; have hc8 : w1.cell? ⟨gb, 8, none⟩ = some (.int .i64 yhi) := (blk_cell hbox 8).trans rfl; have hc9 : w1.cell? ⟨gb, 9, none⟩ = some (.int .i64 pri) := (blk_cell hbox 9).trans rfl; have hc10 : w1.cell? ⟨gb, 10, none⟩ = some (.bool wd) := (blk_cell hbox 10).trans rfl; have hc11 : w1.cell? ⟨gb, 11, none⟩ = some (.slice Ap text.length cp) := (blk_cell hbox 11).trans rfl; have HG := Aside0.mk hg; have HBX := Aside0.mk hbox; clear hg hbox))
  (with_reducible refine (hby _ hbb).mono ?_)
  rintro e w2 ⟨v0, rfl, hR, hb2⟩
  have hgb : gb = w.heap.size := HG.out
  have hlt1 : gb < w1.heap.size := blk_lt HBX.out
  have HBX2 := Aside0.mk ((hb2.block _ hlt1).trans HBX.out)
  have hB2 : Below w.heap.size w w2 := hbb.trans (hb2.mono hbb.size)
  have hs2 := hb2.size
  clear hby hc0 hc1 hc2 hc3 hc4 hc5 hc6 hc7 hc8 hc9 hc10 hc11 hb2 hbb HBX
  obtain ⟨A1, c1, rfl, hc1, hC⟩ := Kd.R_reads hR
  have HGB := Aside0.mk hgb
  clear hgb HG
  by_cases e1 : eb = 0
  case neg =>
    rw [if_pos (.inl e1)] at h
    have HH := Aside0.mk (Prod.mk.inj (Option.some.inj h))
    clear h
    have k1 : ((eb : Int) == 0) = false := beq_eq_false_iff_ne.mpr e1
    go_wp2_with fail
    go_ret2
    obtain ⟨rfl, rfl⟩ := HH.out
    exact ⟨none, 0, rfl, Nat.le_refl _, Kd.C_nil _ _, hB2⟩
  subst e1
  by_cases hq : need < 1
  · rw [if_pos (.inr (.inl hq))] at h
    have HH := Aside0.mk (Prod.mk.inj (Option.some.inj h))
    clear h
    have k1 : decide (need < 1) = true := decide_eq_true hq
    go_wp2_with fail
    go_ret2
    obtain ⟨rfl, rfl⟩ := HH.out
    exact ⟨none, 0, rfl, Nat.le_refl _, Kd.C_nil _ _, hB2⟩
  have dneed1 : decide (need < 1) = false := decide_eq_false hq
  have qneed1 := hq
  clear hq
  by_cases hq : need > 32
  · rw [if_pos (.inr (.inr (.inl hq)))] at h
    have HH := Aside0.mk (Prod.mk.inj (Option.some.inj h))
    clear h
    have k1 : decide (32 < need) = true := decide_eq_true hq
    go_wp2_with fail
    go_ret2
    obtain ⟨rfl, rfl⟩ := HH.out
    exact ⟨none, 0, rfl, Nat.le_refl _, Kd.C_nil _ _, hB2⟩
  have dneed32 : decide (32 < need) = false := decide_eq_false hq
  have qneed32 := hq
  clear hq
  by_cases hq : n < 0
  · rw [if_pos (.inr (.inr (.inr (.inl hq))))] at h
    have HH := Aside0.mk (Prod.mk.inj (Option.some.inj h))
    clear h
    have k1 : decide (n < 0) = true := decide_eq_true hq
    go_wp2_with fail
    go_ret2
    obtain ⟨rfl, rfl⟩ := HH.out
    exact ⟨none, 0, rfl, Nat.le_refl _, Kd.C_nil _ _, hB2⟩
  have dn0 : decide (n < 0) = false := decide_eq_false hq
  have qn0 := hq
  clear hq
  by_cases hq : n > 32
  · rw [if_pos (.inr (.inr (.inr (.inr hq))))] at h
    have HH := Aside0.mk (Prod.mk.inj (Option.some.inj h))
    clear h
    have k1 : decide (32 < n) = true := decide_eq_true hq
    go_wp2_with fail
    go_ret2
    obtain ⟨rfl, rfl⟩ := HH.out
    exact ⟨none, 0, rfl, Nat.le_refl _, Kd.C_nil _ _, hB2⟩
  have dn32 : decide (32 < n) = false := decide_eq_false hq
  have qn32 := hq
  clear hq
  rw [if_neg (by rintro (h | h | h | h | h); exact h rfl; exact qneed1 h; exact qneed32 h; exact qn0 h; exact qn32 h)] at h
  by_cases hb1 : 1 ≤ b.length ∧ b.length ≤ 1000000
  case neg => rw [if_neg hb1] at h; cases h
  rw [if_pos hb1] at h
  obtain ⟨nd, rfl⟩ := Int.eq_ofNat_of_zero_le (show 0 ≤ need by omega)
  have hlf : piece_length.f (b.length : Int) (nd : Int) = some ((lenOf b (nd : Int) : Nat) : Int) := by
    rw [length_f2 _ _ (by omega) (by omega) (by omega) (by omega)]
    have e1 : (b.length : Int) + (nd : Int) - 1 = ((b.length + nd - 1 : Nat) : Int) := by omega
    rw [e1, lenOf, Int.toNat_natCast, Int.natCast_ediv]
  obtain ⟨nl, hnl⟩ : ∃ nl, nl = lenOf b (nd : Int) := ⟨_, rfl⟩
  rw [← hnl] at hlf h
  have hlen := fun W => piece_length.calls (b.length : Int) (nd : Int) _ W hlf
  have HNL := Aside0.mk hnl
  clear hnl hlf
  by_cases e3 : nl > 200
  · rw [if_pos e3] at h
    have HH := Aside0.mk (Prod.mk.inj (Option.some.inj h))
    clear h
    have k3 : (200 : Int) < (nl : Int) := by omega
    go_wp2_with fail
    (with_reducible refine (hlen _).mono ?_)
    rintro e w' ⟨rfl, ⟨n1, rfl⟩⟩
    go_wp2_with fail
    go_ret2
    obtain ⟨rfl, rfl⟩ := HH.out
    exact ⟨none, 0, rfl, Nat.le_refl _, Kd.C_nil _ _, pw_below_drewN hB2 _⟩
  rw [if_neg e3] at h
  obtain ⟨⟨ds, e4⟩, hcode, h⟩ := Option.bind_eq_some_iff.1 h
  dsimp only at h
  have k3 : ¬ (200 : Int) < (nl : Int) := by omega
  go_wp2_with fail
  (with_reducible refine (hlen _).mono ?_)
  rintro e w' ⟨rfl, ⟨n1, rfl⟩⟩
  go_wp2_with fail
  (with_reducible refine (rows_calls A1 b.length c1 (nd : Int) _).mono ?_)
  rintro e w' ⟨rfl, rfl⟩
  obtain ⟨W3, hW3⟩ : ∃ W3, W3 = (((w2.drewN n1).alloc (.cells #[.slice A1 b.length c1] 28)).alloc (.cells #[.int .i64 (nd : Int)] 3)) := ⟨_, rfl⟩
  have hx1 : W3.cell? ⟨w2.heap.size, 0, none⟩ = some (.slice A1 b.length c1) := by
    rw [hW3]
    exact ((Boxed.new (w2.drewN n1) 28 _).alloc _).cell
  have hx2 : W3.cell? ⟨w2.heap.size + 1, 0, none⟩ = some (.int .i64 (nd : Int)) := by
    rw [hW3]
    have := (Boxed.new ((w2.drewN n1).alloc (.cells #[.slice A1 b.length c1] 28)) 3 (.int .i64 (nd : Int))).cell
    rw [World.size_alloc] at this
    exact this
  have hB23 : Below w2.heap.size w2 W3 := by
    rw [hW3]
    exact ((pw_below_drewN (Below.refl _ _) n1).alloc (Nat.le_refl _) _).alloc (by simp) _
  have hC3 := Kd.C_below hC hB23
  rw [← hW3]
  clear hW3
  have hB3 := hB2.trans (hB23.mono hB2.size)
  have hnl2 : nl = (b.length + nd - 1) / nd := by rw [HNL.out, lenOf, Int.toNat_natCast]
  have hcol := collect_rows A1 c1 b nd nl w2.heap.size (w2.heap.size + 1) W3 hx1 hx2 hC3 hc1 (by omega) (by omega) hb1.1 hnl2 (by omega)
  have hcut : cutR (b ++ List.replicate (nl * nd - b.length) 0) nl nd = rowsOf b (nd : Int) := by rw [rowsOf, ← HNL.out, Int.toNat_natCast]
  rw [hcut] at hcol
  have hrl : (rowsOf b (nd : Int)).length = nd := by rw [rowsOf, cutR, List.length_map, List.length_range, Int.toNat_natCast]
  clear hcut hnl2 hx1 hx2
  go_wp2_with fail
  (with_reducible refine hcol.mono ?_)
  rintro e W4 ⟨A4, c4, rfl, hc4, hC4, hB34⟩
  have hcd := erasure_Code.calls k A4 c4 (rowsOf b (nd : Int)) n ds e4 W4 (by rw [hrl]; exact hC4) (by rw [hrl]; exact hc4) hcode
  rw [hrl] at hcd
  have HCD := Aside0.mk hcode
  clear hcol hC4 hcode
  go_wp2_with fail
  (with_reducible refine hcd.mono ?_)
  rintro e W5 ⟨v5, rfl, hS5, hB45⟩
  clear hcd
  obtain ⟨A5, c5, rfl, hc5, hC5⟩ := Kd.R_reads (Kd.S_R hS5)
  have hB5 := (hB3.trans (hB34.mono hB3.size)).trans (hB45.mono (hB3.trans (hB34.mono hB3.size)).size)
  have hB25 := (hB23.trans (hB34.mono hB23.size)).trans (hB45.mono (hB23.trans (hB34.mono hB23.size)).size)
  have HBX5 := Aside0.mk ((hB25.block _ (by omega)).trans HBX2.out)
  have hC15 := Kd.C_below hC hB25
  have hb5s := hB25.size
  have hgbW : gb < W5.heap.size := by omega
  clear hS5 hB34 hB45 hB23 hC3 hlen hB3 hR HBX2
  by_cases e5 : e4 = 0
  case neg =>
    rw [if_pos e5] at h
    have HH := Aside0.mk (Prod.mk.inj (Option.some.inj h))
    clear h
    have k5 : ((e4 : Int) == 0) = false := beq_eq_false_iff_ne.mpr e5
    go_wp2_with fail
    go_ret2
    obtain ⟨rfl, rfl⟩ := HH.out
    exact ⟨none, 0, rfl, Nat.le_refl _, Kd.C_nil _ _, hB5⟩
  subst e5
  rw [if_neg (by simp)] at h
  by_cases e6 : ds.length ≤ 32
  case neg => rw [if_neg e6] at h; cases h
  rw [if_pos e6] at h
  have HH := Aside0.mk (Prod.mk.inj (Option.some.inj h))
  clear h
  obtain ⟨dv, hdv⟩ : ∃ dv : Nat → Value, ∀ i, i < ds.length → ∃ ad Ai ci, A5 = some ad ∧ W5.cell? (ad.add i) = some (dv i) ∧ dv i = .slice Ai (ds.getD i []).length ci ∧ (ds.getD i []).length ≤ ci ∧ (Kd.int .u8).C W5 Ai (ds.getD i []).length (ds.getD i []) := by
    refine ⟨fun i => (W5.cell? ((A5.getD default).add i)).getD undef, fun i hi => ?_⟩
    obtain ⟨ad, Ai, ci, e7, h8, h9, h10⟩ := at_rows hC5 (i : Int) (by omega) (by omega)
    subst e7
    rw [Int.toNat_natCast] at h8
    have e8 : rowAt ds (i : Int) = ds.getD i [] := by rw [rowAt, Int.toNat_natCast]
    rw [e8] at h8 h9 h10
    refine ⟨ad, Ai, ci, rfl, ?_, ?_, h9, h10⟩
    · simp only [Option.getD_some, h8]
    · simp only [Option.getD_some, h8]
  have hsm := fun W (hB : Below w2.heap.size w2 W) => codec_Sum.calls A1 c1 b (sumOf b) W (Kd.C_below hC hB) hc1 rfl
  clear hB2 hs2 hC5
  go_wp2_with fail
  go_loopw [56, 11] (fun q tv wr => ∃ i : Nat, q = .int .i64 (i : Int) ∧ i ≤ ds.length ∧ (rawKd 8).R 49 wr W5.heap.size (fun _ => True) tv ((List.range i).map fun (i : Nat) => [.int .i64 st, .int .i64 ki, .int .i64 nu, .int .i64 (i : Int), .int .i64 (nd : Int), .int .i64 (b.length : Int), .int .i64 (wrap64 (sumOf b)), dv i]) ∧ Below W5.heap.size W5 wr) (fun q _ _ => ds.length - (intOf q).toNat)
  case atStart => exact ⟨0, rfl, Nat.zero_le _, Kd.R_nil _ _ _ _ _, Below.refl _ _⟩
  case round =>
    obtain ⟨i, rfl, hi, hRr, hBr⟩ := hrel
    by_cases hil : i < ds.length
    · have hi2 : (i : Int) < (ds.length : Int) := by omega
      have hi3 : (0 : Int) ≤ (i : Int) := by omega
      obtain ⟨ad, Ai, ci, e7, h8, h9, h10, h11⟩ := hdv i hil
      subst e7
      have h8' : wr.cell? (ad.add i) = some (.slice Ai (ds.getD i []).length ci) := by
        rw [← h9, ← h8]
        exact hBr.cell (p := ad.add i) (Nat.lt_of_not_le (fun hge => by have := Array.getElem?_eq_none hge; rw [World.cell?, this] at h8; cases h8))
      have hn0 : wr.cell? ⟨gb, 0, none⟩ = some (.int .i64 st) := ((hBr.cell (p := ⟨gb, 0, none⟩) hgbW).trans (blk_cell HBX5.out 0)).trans rfl
      have hn1 : wr.cell? ⟨gb, 1, none⟩ = some (.int .i64 ki) := ((hBr.cell (p := ⟨gb, 1, none⟩) hgbW).trans (blk_cell HBX5.out 1)).trans rfl
      have hn2 : wr.cell? ⟨gb, 2, none⟩ = some (.int .i64 nu) := ((hBr.cell (p := ⟨gb, 2, none⟩) hgbW).trans (blk_cell HBX5.out 2)).trans rfl
      obtain ⟨dl, hdl⟩ : ∃ dl, dl = (ds.getD i []).length := ⟨_, rfl⟩
      rw [← hdl] at h8' h9
      have H9 := Aside0.mk h9
      clear hdl h9 h8 h10 h11
      go_wp2_with fail
      have hS0 : (fun w' : World => w'.cell? ⟨gb, 0, none⟩ = some (.int .i64 st) ∧ w'.cell? ⟨gb, 1, none⟩ = some (.int .i64 ki) ∧ w'.cell? ⟨gb, 2, none⟩ = some (.int .i64 nu)) wr.drew := ⟨hn0, hn1, hn2⟩
      refine start_ (n := 15) (S := fun w' => w'.cell? ⟨gb, 0, none⟩ = some (.int .i64 st) ∧ w'.cell? ⟨gb, 1, none⟩ = some (.int .i64 ki) ∧ w'.cell? ⟨gb, 2, none⟩ = some (.int .i64 nu)) (ds := []) #[false, false, false, false, false, false, false, false, false, false, false, false, false, false, false] hmix rfl rfl hS0 (fun hHeld => ?_)
      refine pure_ (i := 0) (N := (some 61)) (v := ?_) (a' := ?_) #[true, false, false, false, false, false, false, false, false, false, false, false, false, false, false] rfl rfl (by kernel_rfl) (fun _ _ _ h => h) (Or.inl ⟨by rfl, ?_⟩) ?_ ?_
      rotate_left
      · intro w'
        go_simp
        with_reducible rfl
      rotate_left
      · simp only [Act.put, List.setIfInBounds_toArray, List.set_cons_zero, List.set_cons_succ, i64_w, i32_w]
        rfl
      refine pure_ (i := 1) (N := (some 62)) (v := ?_) (a' := ?_) #[true, true, false, false, false, false, false, false, false, false, false, false, false, false, false] rfl rfl (by kernel_rfl) (fun _ _ _ h => h) (Or.inl ⟨by rfl, ?_⟩) ?_ ?_
      rotate_left
      · intro w'
        go_simp
        with_reducible rfl
      rotate_left
      · simp only [Act.put, List.setIfInBounds_toArray, List.set_cons_zero, List.set_cons_succ, i64_w, i32_w]
        rfl
      refine take_ (i := 2) (N := (some 63)) (v := ?_) (a' := ?_) #[true, true, true, false, false, false, false, false, false, false, false, false, false, false, false] rfl rfl (by kernel_rfl) (fun _ _ _ h => h) (Or.inl ⟨by rfl, ?_⟩) hHeld ?_ ?_
      rotate_left
      · rintro w' ⟨s0, s1, s2⟩
        go_simp
        with_reducible rfl
      rotate_left
      · simp only [Act.put, List.setIfInBounds_toArray, List.set_cons_zero, List.set_cons_succ, i64_w, i32_w]
        rfl
      refine pure_ (i := 3) (N := (some 64)) (v := ?_) (a' := ?_) #[true, true, true, true, false, false, false, false, false, false, false, false, false, false, false] rfl rfl (by kernel_rfl) (fun _ _ _ h => h) (Or.inl ⟨by rfl, ?_⟩) ?_ ?_
      rotate_left
      · intro w'
        go_simp
        with_reducible rfl
      rotate_left
      · simp only [Act.put, List.setIfInBounds_toArray, List.set_cons_zero, List.set_cons_succ, i64_w, i32_w]
        rfl
      refine pure_ (i := 4) (N := (some 65)) (v := ?_) (a' := ?_) #[true, true, true, true, true, false, false, false, false, false, false, false, false, false, false] rfl rfl (by kernel_rfl) (fun _ _ _ h => h) (Or.inl ⟨by rfl, ?_⟩) ?_ ?_
      rotate_left
      · intro w'
        go_simp
        with_reducible rfl
      rotate_left
      · simp only [Act.put, List.setIfInBounds_toArray, List.set_cons_zero, List.set_cons_succ, i64_w, i32_w]
        rfl
      refine pure_ (i := 5) (N := (some 66)) (v := ?_) (a' := ?_) #[true, true, true, true, true, true, false, false, false, false, false, false, false, false, false] rfl rfl (by kernel_rfl) (fun _ _ _ h => h) (Or.inl ⟨by rfl, ?_⟩) ?_ ?_
      rotate_left
      · intro w'
        go_simp
        with_reducible rfl
      rotate_left
      · simp only [Act.put, List.setIfInBounds_toArray, List.set_cons_zero, List.set_cons_succ, i64_w, i32_w]
        rfl
      refine pure_ (i := 6) (N := (some 67)) (v := ?_) (a' := ?_) #[true, true, true, true, true, true, true, false, false, false, false, false, false, false, false] rfl rfl (by kernel_rfl) (fun _ _ _ h => h) (Or.inl ⟨by rfl, ?_⟩) ?_ ?_
      rotate_left
      · intro w'
        go_simp
        with_reducible rfl
      rotate_left
      · simp only [Act.put, List.setIfInBounds_toArray, List.set_cons_zero, List.set_cons_succ, i64_w, i32_w]
        rfl
      refine pure_ (i := 7) (N := (some 68)) (v := ?_) (a' := ?_) #[true, true, true, true, true, true, true, true, false, false, false, false, false, false, false] rfl rfl (by kernel_rfl) (fun _ _ _ h => h) (Or.inl ⟨by rfl, ?_⟩) ?_ ?_
      rotate_left
      · intro w'
        go_simp
        with_reducible rfl
      rotate_left
      · simp only [Act.put, List.setIfInBounds_toArray, List.set_cons_zero, List.set_cons_succ, i64_w, i32_w]
        rfl
      refine pure_ (i := 10) (N := (some 71)) (v := ?_) (a' := ?_) #[true, true, true, true, true, true, true, true, false, false, true, false, false, false, false] rfl rfl (by kernel_rfl) (fun _ _ _ h => h) (Or.inl ⟨by rfl, ?_⟩) ?_ ?_
      rotate_left
      · intro w'
        go_simp
        with_reducible rfl
      rotate_left
      · simp only [Act.put, List.setIfInBounds_toArray, List.set_cons_zero, List.set_cons_succ, i64_w, i32_w]
        rfl
      refine one_ (i := 8) (N := some 69) #[true, true, true, true, true, true, true, true, true, false, true, false, false, false, false] rfl rfl (by kernel_rfl) (by decide) (fun K hK => ?_)
      go_simp
      (with_reducible refine (hsm _ (hB25.trans ((hBr.drew).mono hb5s))).mono ?_)
      rintro e W6 ⟨rfl, hb6⟩
      have hsD : wr.drew.heap.size = wr.heap.size := rfl
      rw [hsD] at hb6
      have hbs := hBr.size
      have hg6 : ∀ j, W6.cell? ⟨gb, j, none⟩ = wr.cell? ⟨gb, j, none⟩ := fun j => hb6.cell (p := ⟨gb, j, none⟩) (show gb < wr.heap.size by omega)
      refine hK.out _ _ ⟨(hg6 0).trans hn0, (hg6 1).trans hn1, (hg6 2).trans hn2⟩ (fun hHeld => ?_)
      clear hK K
      refine pure_ (i := 9) (N := (some 70)) (v := ?_) (a' := ?_) #[true, true, true, true, true, true, true, true, true, true, true, false, false, false, false] rfl rfl (by kernel_rfl) (fun _ _ _ h => h) (Or.inl ⟨by rfl, ?_⟩) ?_ ?_
      rotate_left
      · intro w'
        go_simp
        with_reducible rfl
      rotate_left
      · simp only [Act.put, List.setIfInBounds_toArray, List.set_cons_zero, List.set_cons_succ, i64_w, i32_w]
        rfl
      refine pure_ (i := 11) (N := (some 72)) (v := ?_) (a' := ?_) #[true, true, true, true, true, true, true, true, true, true, true, true, false, false, false] rfl rfl (by kernel_rfl) (fun _ _ _ h => h) (Or.inl ⟨by rfl, ?_⟩) ?_ ?_
      rotate_left
      · intro w'
        go_simp
        with_reducible rfl
      rotate_left
      · simp only [Act.put, List.setIfInBounds_toArray, List.set_cons_zero, List.set_cons_succ, i64_w, i32_w]
        rfl
      have hB6 : Below W5.heap.size W5 W6 := hBr.drew.trans (hb6.mono hbs)
      have hR6 := Kd.R_below (Kd.R_drew hRr) hb6
      refine one_ (i := 12) (N := some 73) #[true, true, true, true, true, true, true, true, true, true, true, true, true, false, false] rfl rfl (by kernel_rfl) (by decide) (fun K hK => ?_)
      go_simp
      have hgS : ∀ W, Below W5.heap.size W5 W → W.cell? ⟨gb, 0, none⟩ = some (.int .i64 st) ∧ W.cell? ⟨gb, 1, none⟩ = some (.int .i64 ki) ∧ W.cell? ⟨gb, 2, none⟩ = some (.int .i64 nu) := fun W hW =>
        ⟨((hW.cell (p := ⟨gb, 0, none⟩) hgbW).trans (blk_cell HBX5.out 0)).trans rfl, ((hW.cell (p := ⟨gb, 1, none⟩) hgbW).trans (blk_cell HBX5.out 1)).trans rfl, ((hW.cell (p := ⟨gb, 2, none⟩) hgbW).trans (blk_cell HBX5.out 2)).trans rfl⟩
      refine hK.out _ _ (hgS _ (hB6.alloc hB6.size _)) (fun hHeld => ?_)
      clear hK K
      have hlr : ((List.range i).map fun (i : Nat) => [Value.int .i64 st, .int .i64 ki, .int .i64 nu, .int .i64 (i : Int), .int .i64 (nd : Int), .int .i64 (b.length : Int), .int .i64 (wrap64 (sumOf b)), dv i]).length = i := by rw [List.length_map, List.length_range]
      refine one_ (i := 13) (N := some 74) #[true, true, true, true, true, true, true, true, true, true, true, true, true, true, false] rfl rfl (by kernel_rfl) (by decide) (fun K hK => ?_)
      refine Kd.R_append_step (rawKd 8) (w0 := W5) W5.heap.size (by rfl) (.tmp 61) (.tmp 73) 41 49 (.agg #[.int .i64 0, .int .i64 0, .int .i64 0, .int .i64 0, .int .i64 0, .int .i64 0, .int .i64 0, .slice none 0 0]) 80 rfl Try.underlying41 info_piece rfl (by decide) (by omega) u11 _ [.int .i64 st, .int .i64 ki, .int .i64 nu, .int .i64 (i : Int), .int .i64 (nd : Int), .int .i64 (b.length : Int), .int .i64 (wrap64 (sumOf b)), .slice Ai dl ci] [.int .i64 st, .int .i64 ki, .int .i64 nu, .int .i64 (i : Int), .int .i64 (nd : Int), .int .i64 (b.length : Int), .int .i64 (wrap64 (sumOf b)), .slice Ai dl ci] (fun _ => True) (fun _ => False) rfl rfl ⟨rfl, rfl, by simp [Value.oneCell']⟩ (fun _ hk => hk.elim) (fun _ _ => trivial) hR6 hB6 hB6.size (by rw [hlr]; omega) ?_
      intro v7 w7 ho7 hb7 hg7 hat7
      refine hK.out _ _ (hgS _ hb7) (fun hHeld => ?_)
      clear hK K hHeld hS0
      refine norm_ (a' := ?_) ?_ ?_
      rotate_left
      · show Act.put _ (some 74) _ = _
        simp only [Act.put, List.setIfInBounds_toArray, List.set_cons_zero, List.set_cons_succ, i64_w, i32_w]
        rfl
      refine pure_ (i := 14) (N := (some 11)) (v := ?_) (a' := ?_) #[true, true, true, true, true, true, true, true, true, true, true, true, true, true, true] rfl rfl (by kernel_rfl) (fun _ _ _ h => h) (Or.inl ⟨by rfl, ?_⟩) ?_ ?_
      rotate_left
      · intro w'
        go_simp
        with_reducible rfl
      rotate_left
      · simp only [Act.put, List.setIfInBounds_toArray, List.set_cons_zero, List.set_cons_succ, i64_w, i32_w]
        rfl
      refine done_ (by kernel_rfl) ?_
      clear hR6 hB6 hb6 hg7 hat7 hn0 hn1 hn2 hg6 hRr hBr h8' hgS
      go_wp2_with fail
      go_roundw
      case rel =>
        refine ⟨i + 1, rfl, by omega, ?_, hb7⟩
        rw [List.range_succ, List.map_append, List.map_singleton, H9.out]
        exact ho7
      case measure => first | (simp [intOf]; done) | (simp [intOf]; omega)
    · have hie : i = ds.length := by omega
      subst hie
      have hlr : ((List.range ds.length).map fun (i : Nat) => [Value.int .i64 st, .int .i64 ki, .int .i64 nu, .int .i64 (i : Int), .int .i64 (nd : Int), .int .i64 (b.length : Int), .int .i64 (wrap64 (sumOf b)), dv i]).length = ds.length := by rw [List.length_map, List.length_range]
      obtain ⟨A', c', hv', hcap, hCraw⟩ := Kd.R_reads hRr
      rw [hlr] at hv' hcap hCraw
      subst hv'
      have hws : wrap64 (sumOf b) = sumOf b := by have := sumOf_range b; unfold wrap64; omega
      have hCf : Kd.C k49 wr A' ds.length (piecesOf ⟨st, ki, nu, iss, unt, xlo, xhi, ylo, yhi, pri, wd, text⟩ b (nd : Int) ds) := by
        refine C_of_raw (d := k49) hCraw (by rw [hlr, piecesOf, List.length_map, List.length_range]) (fun j q x hj hx => ?_)
        have hjl : j < ds.length := by
          have := (List.getElem?_eq_some_iff.1 hx).1
          rwa [hlr] at this
        rw [piecesOf, List.getElem?_map, List.getElem?_range hjl] at hj
        rw [List.getElem?_map, List.getElem?_range hjl] at hx
        obtain rfl := Option.some.inj hj
        obtain rfl := Option.some.inj hx
        obtain ⟨ad, Ai, ci, e7, h8, h9, h10, h11⟩ := hdv j hjl
        dsimp only
        rw [h9, hws]
        exact k49_mk wr (pieceAt ⟨st, ki, nu, iss, unt, xlo, xhi, ylo, yhi, pri, wd, text⟩ b (nd : Int) j (ds.getD j [])) h10 (Kd.C_below h11 hBr)
      have hpl : (piecesOf ⟨st, ki, nu, iss, unt, xlo, xhi, ylo, yhi, pri, wd, text⟩ b (nd : Int) ds).length = ds.length := by rw [piecesOf, List.length_map, List.length_range]
      rw [← hpl] at hcap hCf
      have HF := Aside0.mk hCf
      have HCAP := Aside0.mk hcap
      have HPL := Aside0.mk hpl
      have HB := Aside0.mk (hB5.trans (hBr.mono hB5.size))
      clear hws hcap hCf hpl hdv hRr hBr hCraw hlr hi hil
      go_wp2_with fail
      go_ret2
      obtain ⟨rfl, rfl⟩ := HH.out
      exact ⟨A', c', by rw [HPL.out]; rfl, HCAP.out, HF.out, HB.out⟩
end Go.Proofs.YthiealhmcfdakaaH
end
section
set_option linter.unusedVariables false
set_option linter.unusedSimpArgs false
namespace Go.Proofs.YthiealhmcfdakaaH
open Go Go.RowKit Go.Proofs.YthiealhmcfdakaaW.PrintWords Go.Proofs.YthiealhmcfdakaaW.PrintLast Go.Proofs.YthiealhmcfdakaaW.PrintMore
set_option maxHeartbeats 4000000 in
set_option maxRecDepth 100000 in
theorem grow_calls (n : Nat) (hn : n ≤ 1000000) (w : World) : Calls Try.prog 64 #[.slice none 0 0, .int .i64 (n : Int)] w fun e w' =>
    ∃ v : Value, e = .returned v ∧ Kd.R (Kd.int .u8) 5 w' w.heap.size (fun _ => True) v [] ∧ Below w.heap.size w w' := by
  by_cases h0 : n = 0
  · subst h0
    go_enter Try.func64, Try.ntmps64
    go_wp2_with fail
    go_ret
    exact ⟨_, rfl, Kd.R_nil _ _ _ _ _, Below.refl _ _⟩
  have h1 : (0 : Int) < (n : Int) := by omega
  have h2 : ¬ (n : Int) < 0 := by omega
  go_enter Try.func64, Try.ntmps64
  go_wp2_with (first | ((with_reducible refine gate_builtin (b := .append) (xs := #[.tmp 20, .tmp 21]) rfl ?_); at_builtin; refine Kd.R_append_zeros (Kd.int .u8) (w0 := w) w.heap.size rfl (.tmp 20) (.tmp 21) 28 3 5 (.int .u8 0) 1 rfl Try.underlying28 Try.underlying3 info_u8 rfl (by decide) (by omega) (.slice none 0 0) ([] : List Int) (0 : Int) (n : Int) (fun _ => True) rfl rfl rfl (fun _ _ => trivial) (Kd.R_nil _ _ _ _ _) (by omega) (Below.refl _ _) (Nat.le_refl _) (by simp; omega) ?_; intro v3 w3 ho hb3 _ _; obtain ⟨A3, c3, rfl, hc3, _⟩ := Kd.R_reads ho; have HO := Aside0.mk ho; clear ho; simp only [List.nil_append, Int.toNat_natCast, List.length_replicate] at hc3; have hc3' : (0 : Int) ≤ (c3 : Int) := by omega))
  go_ret
  have h3 := Kd.R_take (m := 0) HO.out (Nat.zero_le _)
  exact ⟨_, rfl, h3, hb3⟩
def slices_Concat_byte_byte.f (l0 : List (List Int)) : Option (List Int) := if l0.length ≤ 1000 ∧ ∀ r ∈ l0, r.length ≤ 1000 then some l0.flatten else none
theorem flat_le (l : List (List Int)) (h : ∀ r ∈ l, r.length ≤ 1000) : l.flatten.length ≤ 1000 * l.length := by
  induction l with
  | nil => simp
  | cons a l ih =>
    have h1 := h a (List.mem_cons_self ..)
    have h2 := ih (fun r hr => h r (List.mem_cons_of_mem _ hr))
    simp only [List.flatten_cons, List.length_append, List.length_cons]
    omega
theorem flat_take (l : List (List Int)) (i : Nat) (hi : i < l.length) : (l.take (i + 1)).flatten = (l.take i).flatten ++ l.getD i [] := by
  rw [List.take_succ_eq_append_getElem hi, List.flatten_append, List.flatten_cons, List.flatten_nil, List.append_nil, List.getD_eq_getElem?_getD, List.getElem?_eq_getElem hi, Option.getD_some]
set_option maxHeartbeats 4000000 in
set_option maxRecDepth 100000 in
theorem slices_Concat_byte_byte.calls (A0 : Option Addr) (c0 : Nat) (l0 : List (List Int)) (r : List Int) (w : World) (hr0 : Kd.C (Kd.slice 5 (Kd.int .u8)) w A0 l0.length l0) (hc0 : l0.length ≤ c0) (h : slices_Concat_byte_byte.f l0 = some r) :
    Calls Try.prog 45 #[.slice A0 l0.length c0] w fun e w' => ∃ v : Value, e = .returned v ∧ Kd.R (Kd.int .u8) 5 w' w.heap.size (fun _ => True) v r ∧ Below w.heap.size w w' := by
  unfold slices_Concat_byte_byte.f at h
  by_cases hl : l0.length ≤ 1000 ∧ ∀ r ∈ l0, r.length ≤ 1000
  case neg => rw [if_neg hl] at h; cases h
  rw [if_pos hl] at h
  obtain rfl := Option.some.inj h
  clear h
  obtain ⟨hl1, hl2⟩ := hl
  have hfl : ∀ i, (l0.take i).flatten.length ≤ 1000 * 1000 := fun i => by
    have h1 := flat_le (l0.take i) (fun r hr => hl2 r (List.mem_of_mem_take hr))
    have h2 : (l0.take i).length ≤ l0.length := by rw [List.length_take]; omega
    omega
  have hrow : ∀ i, i < l0.length → (l0.getD i []).length ≤ 1000 := fun i hi => by
    rw [List.getD_eq_getElem?_getD, List.getElem?_eq_getElem hi, Option.getD_some]
    exact hl2 _ (List.getElem_mem hi)
  have HR0 := Aside0.mk hr0
  have HL2 := Aside0.mk hl2
  clear hr0 hl2
  go_enter Try.func45, Try.ntmps45
  go_wp2_with fail
  go_loopw [11, 3] (fun p sz wr => ∃ i : Nat, p = .int .i64 (i : Int) ∧ i ≤ l0.length ∧ sz = .int .i64 ((l0.take i).flatten.length : Int) ∧ wr = w) (fun p _ _ => l0.length - (intOf p).toNat)
  case atStart => exact ⟨0, rfl, Nat.zero_le _, by simp, rfl⟩
  case round =>
    obtain ⟨i, rfl, hi, rfl, hwr⟩ := hrel
    have hwr2 : w = wr := hwr.symm
    subst hwr2
    by_cases hil : i < l0.length
    · have hi2 : (i : Int) < (l0.length : Int) := by omega
      have hi3 : (0 : Int) ≤ (i : Int) := by omega
      obtain ⟨ad, Ai, ci, e7, h8, h9, h10⟩ := at_rows HR0.out (i : Int) hi3 hi2
      subst e7
      have e8 : rowAt l0 (i : Int) = l0.getD i [] := by rw [rowAt, Int.toNat_natCast]
      rw [Int.toNat_natCast, e8] at h8
      obtain ⟨rw_, hrw⟩ : ∃ q, q = l0.getD i [] := ⟨_, rfl⟩
      rw [← hrw] at h8
      have hrl := hrow i hil
      rw [← hrw] at hrl
      have hf1 := hfl i
      have hfs : (l0.take (i + 1)).flatten.length = (l0.take i).flatten.length + rw_.length := by rw [flat_take l0 i hil, List.length_append, hrw]
      obtain ⟨acc, hacc⟩ : ∃ acc, acc = (l0.take i).flatten.length := ⟨_, rfl⟩
      rw [← hacc] at hf1 hfs ⊢
      have HFS := Aside0.mk hfs
      have HRW := Aside0.mk hrw
      clear hfs hrw hacc h9 h10 e8
      go_wp2_with fail
      go_roundw
      case rel => exact ⟨i + 1, rfl, by omega, by rw [HFS.out, Int.natCast_add], by first | rfl | trivial⟩
      case measure => first | (simp [intOf]; done) | (simp [intOf]; omega)
    · have hie : i = l0.length := by omega
      have hf1 := hfl i
      obtain ⟨acc, hacc⟩ : ∃ acc, acc = (l0.take i).flatten.length := ⟨_, rfl⟩
      rw [← hacc] at hf1 ⊢
      clear hacc
      have HIE := Aside0.mk hie
      clear hie
      go_wp2_with fail
      (with_reducible refine (grow_calls acc (by omega) _).mono ?_)
      rintro e w1 ⟨v, rfl, hR, hB⟩
      go_wp2_with fail
      clear hf1 hi hil
      go_loopw [27, 6] (fun p tv wr => ∃ i : Nat, p = .int .i64 (i : Int) ∧ i ≤ l0.length ∧ Kd.R (Kd.int .u8) 5 wr w.heap.size (fun _ => True) tv (l0.take i).flatten ∧ Below w.heap.size w wr) (fun p _ _ => l0.length - (intOf p).toNat)
      case atStart => exact ⟨0, rfl, Nat.zero_le _, by simpa using hR, hB⟩
      case round =>
        clear hR hB
        obtain ⟨i, rfl, hi, hRr, hBr⟩ := hrel
        by_cases hil : i < l0.length
        · have hi2 : (i : Int) < (l0.length : Int) := by omega
          have hi3 : (0 : Int) ≤ (i : Int) := by omega
          obtain ⟨ad, Ai, ci, e7, h8, h9, h10⟩ := at_rows (Kd.C_below HR0.out hBr) (i : Int) hi3 hi2
          subst e7
          have e8 : rowAt l0 (i : Int) = l0.getD i [] := by rw [rowAt, Int.toNat_natCast]
          rw [Int.toNat_natCast, e8] at h8
          rw [e8] at h9 h10
          obtain ⟨rw_, hrw⟩ : ∃ q, q = l0.getD i [] := ⟨_, rfl⟩
          rw [← hrw] at h8 h9 h10
          have hrl := hrow i hil
          rw [← hrw] at hrl
          have hf1 := hfl i
          have hfs : (l0.take (i + 1)).flatten = (l0.take i).flatten ++ rw_ := by rw [flat_take l0 i hil, hrw]
          obtain ⟨acc, hacc⟩ : ∃ acc, acc = (l0.take i).flatten := ⟨_, rfl⟩
          rw [← hacc] at hf1 hfs hRr
          have HFS := Aside0.mk hfs
          have HO := Aside0.mk hRr
          have HC10 := Aside0.mk h10
          have HBr := Aside0.mk hBr
          clear hfs hrw hacc h9 h10 e8 hRr
          go_wp2_with (first | ((with_reducible refine gate_builtin (b := .append) (xs := #[.tmp 31, .tmp 32]) rfl ?_); at_builtin; refine Kd.R_append_row (Value.int .u8) (0 : Int) (w0 := w) w.heap.size rfl (.tmp 31) (.tmp 32) 28 5 (.int .u8 0) 1 rfl Try.underlying28 info_u8 rfl (by decide) u6 acc rw_ Ai rw_.length ci (fun _ => True) rfl rfl (fun _ _ => trivial) HO.out HC10.out HBr.out HBr.out.size ?_ ?_; (case _ => simp; omega); intro v2 w2 ho2 hb2 _ _; have HO2 := Aside0.mk ho2; have HB2 := Aside0.mk hb2; clear ho2 hb2))
          go_roundw
          case rel => exact ⟨i + 1, rfl, by omega, by rw [HFS.out]; exact HO2.out, HB2.out⟩
          case measure => first | (simp [intOf]; done) | (simp [intOf]; omega)
        · have hie : i = l0.length := by omega
          rw [hie, List.take_length] at hRr
          have HIE := Aside0.mk hie
          clear hie
          go_wp2_with fail
          go_ret
          exact ⟨_, rfl, hRr, hBr⟩
end Go.Proofs.YthiealhmcfdakaaH
end
section
set_option linter.unusedVariables false
set_option linter.unusedSimpArgs false
namespace Go.Proofs.YthiealhmcfdakaaH
open Go Go.RowKit Go.Proofs.YthiealhmcfdakaaW.PrintWords Go.Proofs.YthiealhmcfdakaaW.PrintLast Go.Proofs.YthiealhmcfdakaaW.PrintMore Go.Proofs.Ythiealhmcfdakaa.E Go.Proofs.YthiealhmcfdakaaM
def idxOf (f : Int → Option (List Int)) (n : Nat) : List Int := ((List.range n).filter fun (i : Nat) => (f (i : Int)).isSome).map fun (i : Nat) => (i : Int)
def datOf (f : Int → Option (List Int)) (n : Nat) : List (List Int) := (idxOf f n).map fun i => (f i).getD []
theorem idxOf_succ (f : Int → Option (List Int)) (i : Nat) : idxOf f (i + 1) = if (f (i : Int)).isSome = true then idxOf f i ++ [(i : Int)] else idxOf f i := by
  unfold idxOf
  rw [List.range_succ, List.filter_append, List.map_append]
  by_cases h : (f (i : Int)).isSome = true
  · rw [if_pos h]; simp [h]
  · rw [if_neg h]; simp [h]
theorem idxOf_len (f : Int → Option (List Int)) (i : Nat) : (idxOf f i).length ≤ i := by
  unfold idxOf
  rw [List.length_map]
  have := List.length_filter_le (fun (i : Nat) => (f (i : Int)).isSome) (List.range i)
  rw [List.length_range] at this
  exact this
def sameName (w : Wn) (p : S49) : Prop := w.st = p.f0.f0 ∧ w.ki = p.f0.f1 ∧ w.nu = p.f0.f2
instance (w : Wn) (p : S49) : Decidable (sameName w p) := by unfold sameName; infer_instance
def piece_Gather.f (k : Nat) (l : List S49) : Option (Wn × Int) :=
  if l.length = 0 ∨ l.length > 64 ∨ allOk l = false then some (zWn, 1)
  else match gathB (l.getD 0 z49) (fun _ => none) l with
    | none => some (zWn, 18)
    | some f => (erasure_Decode.f k (l.getD 0 z49).f2 ((l.getD 0 z49).f5.length : Int) (idxOf f 32) (datOf f 32)).bind fun t =>
      if t.2 ≠ 0 then some (zWn, t.2) else (slices_Concat_byte_byte.f t.1).bind fun cc =>
        if cc.length < (l.getD 0 z49).f3.toNat then none
        else if sumOf (cc.take (l.getD 0 z49).f3.toNat) ≠ (l.getD 0 z49).f4 then some (zWn, 9)
        else (piece_From.f (cc.take (l.getD 0 z49).f3.toNat)).bind fun u => if u.2 ≠ 0 ∨ ¬ sameName u.1 (l.getD 0 z49) then some (zWn, 7) else some (u.1, 0)
set_option maxHeartbeats 8000000 in
set_option maxRecDepth 100000 in
theorem piece_Gather.calls (k : Nat) (A0 : Option Addr) (c0 : Nat) (l : List S49) (p : Wn) (er : Int) (w : World) (hr : Kd.C k49 w A0 l.length l) (hc : l.length ≤ c0) (h : piece_Gather.f k l = some (p, er)) :
    Calls Try.prog 20 #[.slice A0 l.length c0] w fun e w' => ∃ v : Value, e = .returned (.tuple #[vWn p v, .int .i64 er]) ∧ Kd.R (Kd.int .u8) 5 w' w.heap.size (fun _ => True) v p.text ∧ Below w.heap.size w w' := by
  have hu30 := Try.underlying30
  have hu49 := Try.underlying49
  have hu23 := Try.underlying23
  have hi30 : (Try.prog.info? 30).map (·.size) = some 12 := by kernel_rfl
  have hi49 : (Try.prog.info? 49).map (·.size) = some 8 := by kernel_rfl
  have hmix : Try.prog.follows .mixedOrders = true := by kernel_rfl
  unfold piece_Gather.f at h
  obtain ⟨W0, hW0⟩ : ∃ W0, w.alloc (.cells #[.int .i64 0, .int .i64 0, .int .i64 0, .int .i64 0, .int .i64 0, .int .i64 0, .int .i64 0, .int .i64 0, .int .i64 0, .int .i64 0, .bool false, .slice none 0 0] 30) = W0 := ⟨_, rfl⟩
  have hB0 : Below w.heap.size w W0 := by rw [← hW0]; exact (Below.refl _ _).alloc (Nat.le_refl _) _
  have hs0 : W0.heap.size = w.heap.size + 1 := by rw [← hW0]; simp
  have HK0 : Aside0 (W0.heap[w.heap.size]? = some (.cells #[.int .i64 0, .int .i64 0, .int .i64 0, .int .i64 0, .int .i64 0, .int .i64 0, .int .i64 0, .int .i64 0, .int .i64 0, .int .i64 0, .bool false, .slice none 0 0] 30 (0, 0))) := ⟨by rw [← hW0]; exact World.alloc_heap_new _ _⟩
  have hC0 := Kd.C_below hr hB0
  have hcont := contains_calls A0 c0 l W0 hC0 hc
  by_cases hbad : l.length = 0 ∨ l.length > 64 ∨ allOk l = false
  · rw [if_pos hbad] at h
    have HH := Aside0.mk (Prod.mk.inj (Option.some.inj h))
    clear h
    by_cases b1 : l.length = 0
    · have k1 : ((l.length : Int) == 0) = true := beq_iff_eq.mpr (by omega)
      clear hbad hcont hC0 hW0 hB0 hs0 HK0 hr hc
      go_enter Try.func20, Try.ntmps20
      go_wp2_with (first | (refine wpList_store_row rfl 30 (.tmp 2) (.tmp 30) rfl w.heap.size rfl #[.int .i64 0, .int .i64 0, .int .i64 0, .int .i64 0, .int .i64 0, .int .i64 0, .int .i64 0, .int .i64 0, .int .i64 0, .int .i64 0, .bool false, .slice none 0 0] rfl 30 #[.int .i64 0, .int .i64 0, .int .i64 0, .int .i64 0, .int .i64 0, .int .i64 0, .int .i64 0, .int .i64 0, .int .i64 0, .int .i64 0, .bool false, .slice none 0 0] (World.alloc_heap_new w _) rfl ?h1 hi30 ?_; (case h1 => simp [Value.oneCell'])))
      refine bodyPost_ret (results_list (rs := [.cell 2 30, .tmp 3]) rfl (by simp) (.cell w.heap.size 30 #[.int .i64 0, .int .i64 0, .int .i64 0, .int .i64 0, .int .i64 0, .int .i64 0, .int .i64 0, .int .i64 0, .int .i64 0, .int .i64 0, .bool false, .slice none 0 0] (0, 0) _ rfl (setRow_heap _ _ _ _ _ _ (World.alloc_heap_new w _)) hu30 rfl hi30 (.tmp .nil))) rfl ?_
      obtain ⟨rfl, rfl⟩ := HH.out
      exact ⟨_, rfl, Kd.R_nil _ _ _ _ _, below_setRow ((Below.refl _ _).alloc (Nat.le_refl _) _) (Nat.le_refl _) _⟩
    have k1 : ((l.length : Int) == 0) = false := beq_eq_false_iff_ne.mpr (by omega)
    by_cases b2 : l.length > 64
    · have k2 : decide ((64 : Int) < (l.length : Int)) = true := decide_eq_true (by omega)
      clear hbad hcont hC0 hW0 hB0 hs0 HK0 hr hc
      go_enter Try.func20, Try.ntmps20
      go_wp2_with (first | (refine wpList_store_row rfl 30 (.tmp 2) (.tmp 30) rfl w.heap.size rfl #[.int .i64 0, .int .i64 0, .int .i64 0, .int .i64 0, .int .i64 0, .int .i64 0, .int .i64 0, .int .i64 0, .int .i64 0, .int .i64 0, .bool false, .slice none 0 0] rfl 30 #[.int .i64 0, .int .i64 0, .int .i64 0, .int .i64 0, .int .i64 0, .int .i64 0, .int .i64 0, .int .i64 0, .int .i64 0, .int .i64 0, .bool false, .slice none 0 0] (World.alloc_heap_new w _) rfl ?h1 hi30 ?_; (case h1 => simp [Value.oneCell'])))
      refine bodyPost_ret (results_list (rs := [.cell 2 30, .tmp 3]) rfl (by simp) (.cell w.heap.size 30 #[.int .i64 0, .int .i64 0, .int .i64 0, .int .i64 0, .int .i64 0, .int .i64 0, .int .i64 0, .int .i64 0, .int .i64 0, .int .i64 0, .bool false, .slice none 0 0] (0, 0) _ rfl (setRow_heap _ _ _ _ _ _ (World.alloc_heap_new w _)) hu30 rfl hi30 (.tmp .nil))) rfl ?_
      obtain ⟨rfl, rfl⟩ := HH.out
      exact ⟨_, rfl, Kd.R_nil _ _ _ _ _, below_setRow ((Below.refl _ _).alloc (Nat.le_refl _) _) (Nat.le_refl _) _⟩
    have k2 : decide ((64 : Int) < (l.length : Int)) = false := decide_eq_false (by omega)
    have b3 : allOk l = false := by
      rcases hbad with h | h | h
      · exact absurd h b1
      · exact absurd h b2
      · exact h
    rw [b3] at hcont
    clear hbad b3
    go_enter Try.func20, Try.ntmps20
    go_wp2_with fail
    (with_reducible refine hcont.mono ?_)
    rintro e w1 ⟨rfl, hb1⟩
    have HK1 := Aside0.mk ((hb1.block _ (by omega)).trans HK0.out)
    have HB1 := Aside0.mk (hB0.trans (hb1.mono hB0.size))
    clear hb1 hB0 HK0 hcont
    go_wp2_with (first | (refine wpList_store_row rfl 30 (.tmp 2) (.tmp 30) rfl w.heap.size rfl #[.int .i64 0, .int .i64 0, .int .i64 0, .int .i64 0, .int .i64 0, .int .i64 0, .int .i64 0, .int .i64 0, .int .i64 0, .int .i64 0, .bool false, .slice none 0 0] rfl 30 #[.int .i64 0, .int .i64 0, .int .i64 0, .int .i64 0, .int .i64 0, .int .i64 0, .int .i64 0, .int .i64 0, .int .i64 0, .int .i64 0, .bool false, .slice none 0 0] HK1.out rfl ?h1 hi30 ?_; (case h1 => simp [Value.oneCell'])))
    refine bodyPost_ret (results_list (rs := [.cell 2 30, .tmp 3]) rfl (by simp) (.cell w.heap.size 30 #[.int .i64 0, .int .i64 0, .int .i64 0, .int .i64 0, .int .i64 0, .int .i64 0, .int .i64 0, .int .i64 0, .int .i64 0, .int .i64 0, .bool false, .slice none 0 0] (0, 0) _ rfl (setRow_heap _ _ _ _ _ _ HK1.out) hu30 rfl hi30 (.tmp .nil))) rfl ?_
    obtain ⟨rfl, rfl⟩ := HH.out
    exact ⟨_, rfl, Kd.R_nil _ _ _ _ _, below_setRow (HB1.out) (Nat.le_refl _) _⟩
  rw [if_neg hbad] at h
  have b1 : 0 < l.length := by
    rcases Nat.eq_zero_or_pos l.length with h | h
    · exact absurd (.inl h) hbad
    · exact h
  have b2 : l.length ≤ 64 := by
    rcases Nat.lt_or_ge 64 l.length with h | h
    · exact absurd (.inr (.inl h)) hbad
    · exact h
  have b3 : allOk l = true := by
    cases h : allOk l with
    | true => rfl
    | false => exact absurd (.inr (.inr h)) hbad
  have k1 : ((l.length : Int) == 0) = false := beq_eq_false_iff_ne.mpr (by omega)
  have k2 : decide ((64 : Int) < (l.length : Int)) = false := decide_eq_false (by omega)
  have HOK := Aside0.mk b3
  rw [b3] at hcont
  clear hbad b3
  go_enter Try.func20, Try.ntmps20
  go_wp2_with fail
  (with_reducible refine hcont.mono ?_)
  rintro e w1 ⟨rfl, hb1⟩
  have HK1 := Aside0.mk ((hb1.block w.heap.size (by omega)).trans HK0.out)
  have hB1 := hB0.trans (hb1.mono hB0.size)
  clear hb1 hB0 HK0 hcont hW0
  have hg := gathered_calls A0 c0 l w1 (Kd.C_below hr hB1) hc HOK.out b1 (by omega)
  have hs1 : w.heap.size < w1.heap.size := (Array.getElem?_eq_some_iff.1 HK1.out).1
  go_wp2_with fail
  (with_reducible refine hg.mono ?_)
  rintro e w2 ⟨hp, hb2⟩
  have HK2 := Aside0.mk ((hb2.block w.heap.size hs1).trans HK1.out)
  have hB2 := hB1.trans (hb2.mono hB1.size)
  have hB12 := hb2
  clear hg hb2 HK1
  cases hgb : gathB (l.getD 0 z49) (fun _ => none) l with
  | none =>
    rw [hgb] at h hp
    obtain rfl : e = .returned (.tuple #[.map none, .bool false]) := hp
    have HH := Aside0.mk (Prod.mk.inj (Option.some.inj h))
    clear h hgb
    go_wp2_with (first | (refine wpList_store_row rfl 30 (.tmp 2) (.tmp 38) rfl w.heap.size rfl #[.int .i64 0, .int .i64 0, .int .i64 0, .int .i64 0, .int .i64 0, .int .i64 0, .int .i64 0, .int .i64 0, .int .i64 0, .int .i64 0, .bool false, .slice none 0 0] rfl 30 #[.int .i64 0, .int .i64 0, .int .i64 0, .int .i64 0, .int .i64 0, .int .i64 0, .int .i64 0, .int .i64 0, .int .i64 0, .int .i64 0, .bool false, .slice none 0 0] HK2.out rfl ?h1 hi30 ?_; (case h1 => simp [Value.oneCell'])))
    refine bodyPost_ret (results_list (rs := [.cell 2 30, .tmp 3]) rfl (by simp) (.cell w.heap.size 30 #[.int .i64 0, .int .i64 0, .int .i64 0, .int .i64 0, .int .i64 0, .int .i64 0, .int .i64 0, .int .i64 0, .int .i64 0, .int .i64 0, .bool false, .slice none 0 0] (0, 0) _ rfl (setRow_heap _ _ _ _ _ _ HK2.out) hu30 rfl hi30 (.tmp .nil))) rfl ?_
    obtain ⟨rfl, rfl⟩ := HH.out
    exact ⟨_, rfl, Kd.R_nil _ _ _ _ _, below_setRow (hB2) (Nat.le_refl _) _⟩
  | some f =>
    rw [hgb] at h hp
    obtain ⟨b, rfl, hM⟩ : ∃ b, e = .returned (.tuple #[.map (some b), .bool true]) ∧ MapOK w1 w2 b 1000 f := hp
    clear hgb
    dsimp only at h
    obtain ⟨D, hown, hD⟩ := hM
    obtain ⟨sv, hsv⟩ : ∃ sv : Int → Value, ∀ k v, D.atKey (.int .i64 k) .nil = .held v → sv k = v := by
      refine ⟨fun k => match D.atKey (.int .i64 k) .nil with | .held v => v | _ => undef, fun k v hk => ?_⟩
      dsimp only
      rw [hk]
    go_wp2_with fail
    go_loopw [39, 7, 8] (fun q iv pv wr => ∃ i : Nat, q = .int .i64 (i : Int) ∧ i ≤ 32 ∧ Kd.R (Kd.int .i64) 3 wr w2.heap.size (fun _ => True) iv (idxOf f i) ∧ (rawKd 1).R 28 wr w2.heap.size (fun _ => True) pv ((idxOf f i).map fun k => [sv k]) ∧ Below w2.heap.size w2 wr) (fun q _ _ _ => 32 - (intOf q).toNat)
    case atStart => exact ⟨0, rfl, by omega, Kd.R_nil _ _ _ _ _, Kd.R_nil _ _ _ _ _, Below.refl _ _⟩
    case round =>
      obtain ⟨i, rfl, hi, hRi, hRp, hBr⟩ := hrel
      by_cases hil : i < 32
      · have hi2 : (i : Int) < 32 := by omega
        have hi3 : (0 : Int) ≤ (i : Int) := by omega
        have hDk := hD (i : Int) hi3 hi2
        have hkey : keyOf Try.prog 3 (.int .i64 (i : Int)) = some (.int .i64 (i : Int)) := Maps.keyOf_int_mk Try.underlying3 (wf_idx (i : Int) hi3 hi2)
        have hownr : wr.ownsMap Try.prog 3 heldR b 1000 D := by
          obtain ⟨es, cl, q1, q2, q3, q4⟩ := hown
          exact ⟨es, cl, (hBr.block _ (Array.getElem?_eq_some_iff.1 q1).1).trans q1, q2, q3, q4⟩
        cases hf : f (i : Int) with
        | none =>
          rw [hf] at hDk
          have hhas : Maps.has D (.int .i64 (i : Int)) = false := hDk
          have HF := Aside0.mk hf
          have HRI := Aside0.mk hRi
          have HRP := Aside0.mk hRp
          clear hf hDk hRi hRp
          go_wp2_with (first | (at_lookup; refine wpList_lookup_own_ok _ rfl (.tmp 43) (.tmp 44) 89 rfl 3 28 (Maps.int_keyed Try.underlying3) Try.underlying89 heldR (zero_row _) (.held (.slice none 0 0)) [] rfl b 1000 D rfl hownr (.int .i64 (i : Int)) (.int .i64 (i : Int)) rfl hkey ?_; intro v ps hv; rw [hhas]))
          go_roundw
          case rel =>
            have e : idxOf f (i + 1) = idxOf f i := by rw [idxOf_succ, HF.out]; rfl
            exact ⟨i + 1, rfl, by omega, by rw [e]; exact HRI.out, by rw [e]; exact HRP.out, hBr⟩
          case measure => first | (simp [intOf]; done) | (simp [intOf]; omega)
        | some d =>
          rw [hf] at hDk
          obtain ⟨hhas, Ad, cd, hat, hcd, hCd, hd200⟩ := hDk
          have hsi : sv (i : Int) = .slice Ad d.length cd := hsv _ _ (hat _)
          have hli := idxOf_len f i
          have hlp : ((idxOf f i).map fun k => [sv k]).length ≤ i := by rw [List.length_map]; exact hli
          have HF := Aside0.mk hf
          have HSI := Aside0.mk hsi
          have HRI := Aside0.mk hRi
          have HRP := Aside0.mk hRp
          have HBR := Aside0.mk hBr
          clear hf hRi hRp hsi hBr
          go_wp2_with (first | (at_lookup; refine wpList_lookup_held rfl (.tmp 43) (.tmp 44) rfl b 1000 D rfl hownr (.int .i64 (i : Int)) (.int .i64 (i : Int)) rfl hkey (.slice Ad d.length cd) hat hhas ?_) | ((with_reducible refine gate_builtin (b := .append) (xs := #[.tmp 49, .tmp 51]) rfl ?_); at_builtin; refine Kd.R_append (Kd.int .i64) (w0 := w2) w2.heap.size rfl (.tmp 49) (.tmp 51) 65 3 (.int .i64 0) 8 rfl Try.underlying65 info_int rfl (by decide) (by omega) u7 (idxOf f i) (i : Int) [.int .i64 (i : Int)] (fun _ => True) (fun _ => False) rfl rfl rfl (fun _ hk => hk.elim) (fun _ _ => trivial) HRI.out HBR.out HBR.out.size (by omega) ?_; intro v7 w7 ho7 hb7 hg7 _; have HO7 := Aside0.mk ho7; have HB7 := Aside0.mk hb7; have HP7 := Aside0.mk (Kd.R_grown2 HRP.out rfl hg7 (fun k hk e => by obtain ⟨cs1, hc1⟩ := Kd.R_typed HRI.out k hk; obtain ⟨cs2, hc2⟩ := Kd.R_typed HRP.out k e.symm; rw [hc1] at hc2; cases hc2)); clear ho7 hb7 hg7) | ((with_reducible refine gate_builtin (b := .append) (xs := #[.tmp 53, .tmp 55]) rfl ?_); at_builtin; refine Kd.R_append (rawKd 1) (w0 := w2) w2.heap.size rfl (.tmp 53) (.tmp 55) 79 28 (.slice none 0 0) 24 rfl Try.underlying79 info_row rfl (by decide) (by omega) u8 ((idxOf f i).map fun k => [sv k]) [.slice Ad d.length cd] [.slice Ad d.length cd] (fun _ => True) (fun _ => False) rfl rfl ⟨rfl, rfl, by simp [Value.oneCell']⟩ (fun _ hk => hk.elim) (fun _ _ => trivial) HP7.out HB7.out HB7.out.size (by omega) ?_; intro v8 w8 ho8 hb8 hg8 _; have HO8 := Aside0.mk ho8; have HB8 := Aside0.mk hb8; have HI8 := Aside0.mk (Kd.R_grown2 HO7.out rfl hg8 (fun k hk e => by obtain ⟨cs1, hc1⟩ := Kd.R_typed HP7.out k hk; obtain ⟨cs2, hc2⟩ := Kd.R_typed HO7.out k e.symm; rw [hc1] at hc2; cases hc2)); clear ho8 hb8 hg8))
          go_roundw
          case rel =>
            have e : idxOf f (i + 1) = idxOf f i ++ [(i : Int)] := by rw [idxOf_succ, HF.out]; rfl
            refine ⟨i + 1, rfl, by omega, by rw [e]; exact HI8.out, ?_, HB8.out⟩
            rw [e, List.map_append, List.map_singleton, HSI.out]
            exact HO8.out
          case measure => first | (simp [intOf]; done) | (simp [intOf]; omega)
      · have hie : i = 32 := by omega
        clear hil hi
        subst hie
        obtain ⟨Ai, ci, rfl, hci, hCi⟩ := Kd.R_reads hRi
        obtain ⟨Ap, cp, rfl, hcp, hCp⟩ := Kd.R_reads hRp
        have hl1 : ((idxOf f 32).map fun k => [sv k]).length = (datOf f 32).length := by simp [datOf]
        have hix : ∀ k ∈ idxOf f 32, ∃ d, f k = some d ∧ 0 ≤ k ∧ k < 32 := by
          intro k hk
          unfold idxOf at hk
          obtain ⟨m, hm, rfl⟩ := List.mem_map.1 hk
          obtain ⟨h1, h2⟩ := List.mem_filter.1 hm
          obtain ⟨d, hd⟩ := Option.isSome_iff_exists.1 h2
          have h3 := List.mem_range.1 h1
          exact ⟨d, hd, by omega, by omega⟩
        have hCd : Kd.C (Kd.slice 5 (Kd.int .u8)) wr Ap (datOf f 32).length (datOf f 32) := by
          rw [hl1] at hCp
          refine C_of_raw (d := Kd.slice 5 (Kd.int .u8)) hCp hl1.symm (fun j q x hj hx => ?_)
          rw [datOf, List.getElem?_map] at hj
          rw [List.getElem?_map] at hx
          obtain ⟨kk, hk1, hk2⟩ := Option.map_eq_some_iff.1 hj
          rw [hk1] at hx
          obtain rfl := Option.some.inj hx
          subst hk2
          obtain ⟨d, hfd, hk3, hk4⟩ := hix kk (List.mem_of_getElem? hk1)
          have hDk := hD kk hk3 hk4
          rw [hfd] at hDk
          obtain ⟨_, Ad, cd, hat, hcd, hCd, _⟩ := hDk
          rw [hfd]
          dsimp only [Option.getD_some]
          rw [hsv _ _ (hat _)]
          exact ⟨Ad, cd, rfl, hcd, Kd.C_below hCd ((hB12).trans (hBr.mono hB12.size))⟩
        rw [hl1] at hcp
        have hlen : (datOf f 32).length = (idxOf f 32).length := by simp [datOf]
        have hBw := hB2.trans (hBr.mono hB2.size)
        obtain ⟨ad, A7, c7, e0, g0, g1, g2, g3, g4, g5, g6, g7, g8, g9⟩ := at_T49 (Kd.C_below hr hBw) 0 (by omega) (by omega)
        subst e0
        have hr0 : rd_T49 l 0 = l.getD 0 z49 := rfl
        rw [hr0] at g0 g1 g2 g3 g4 g5 g6 g7 g8 g9
        simp only [Int.toNat_zero, Nat.zero_mul, show ad.add 0 = ad from rfl] at g0 g1 g2 g3 g4 g5 g6 g7
        obtain ⟨p0, hp0⟩ : ∃ p0, p0 = l.getD 0 z49 := ⟨_, rfl⟩
        rw [← hp0] at g0 g1 g2 g3 g4 g5 g6 g7 g8 g9 h
        have hok0 : okP p0 := by
          have h1 := List.all_eq_true.1 HOK.out p0 (by rw [hp0, List.getD_eq_getElem?_getD, List.getElem?_eq_getElem b1, Option.getD_some]; exact List.getElem_mem b1)
          exact of_decide_eq_true h1
        have HOK0 := Aside0.mk hok0
        clear hp0 hr0 hok0
        obtain ⟨⟨n0, n1, n2⟩, ix, nd, sz, sm, dat⟩ := p0
        dsimp only at *
        obtain ⟨⟨out, e4⟩, hdc, h⟩ := Option.bind_eq_some_iff.1 h
        dsimp only at h
        have HK3 := Aside0.mk ((hBr.block w.heap.size (Array.getElem?_eq_some_iff.1 HK2.out).1).trans HK2.out)
        have hdec := fun W (hW : Below wr.heap.size wr W) => erasure_Decode.calls k nd (dat.length : Int) Ai ci (idxOf f 32) Ap cp (datOf f 32) out e4 W (Kd.C_below hCi hW) hci (Kd.C_below hCd hW) hcp hdc
        simp only [hlen] at hdec
        have hC9 := g9
        have HH0 := Aside0.mk h
        clear h hdc hix hsv hD hRi hRp hCp hl1 hCd hCi hlen
        go_wp2_with (first | (refine wpList_store_row rfl 49 (.tmp 12) (.tmp 60) rfl wr.heap.size rfl #[.int .i64 n0, .int .i64 n1, .int .i64 n2, .int .i64 ix, .int .i64 nd, .int .i64 sz, .int .i64 sm, .slice A7 dat.length c7] rfl 49 #[.int .i64 0, .int .i64 0, .int .i64 0, .int .i64 0, .int .i64 0, .int .i64 0, .int .i64 0, .slice none 0 0] (World.alloc_heap_new _ _) rfl ?h1 hi49 ?_; (case h1 => simp [Value.oneCell']); rw [World.setRow_alloc_new]))
        have hba : Below wr.heap.size wr (wr.alloc (.cells #[.int .i64 n0, .int .i64 n1, .int .i64 n2, .int .i64 ix, .int .i64 nd, .int .i64 sz, .int .i64 sm, .slice A7 dat.length c7] 49)) := (Below.refl _ _).alloc (Nat.le_refl _) _
        have hbx0 := World.alloc_heap_new wr (.cells #[.int .i64 n0, .int .i64 n1, .int .i64 n2, .int .i64 ix, .int .i64 nd, .int .i64 sz, .int .i64 sm, .slice A7 dat.length c7] 49)
        (with_reducible refine (hdec _ hba).mono ?_)
        rintro e w5 ⟨v5, rfl, hS5, hb5⟩
        have hb5' : Below wr.heap.size wr w5 := hba.trans (hb5.mono hba.size)
        have HBX5 := Aside0.mk ((hb5.block wr.heap.size (by simp)).trans hbx0)
        have hlw : w.heap.size < wr.heap.size := (Array.getElem?_eq_some_iff.1 HK3.out).1
        have HK5 := Aside0.mk ((hb5'.block w.heap.size hlw).trans HK3.out)
        have hBw5 := hBw.trans (hb5'.mono hBw.size)
        obtain ⟨A5, c5, rfl, hc5, hC5⟩ := Kd.R_reads (Kd.S_R hS5)
        have h := HH0.out
        clear HH0 hdec hba hbx0 hb5 hS5 g0 g1 g2 g3 g4 g5 g6 g7
        by_cases e5 : e4 = 0
        case neg =>
          rw [if_pos e5] at h
          have HH := Aside0.mk (Prod.mk.inj (Option.some.inj h))
          clear h
          have k5 : ((e4 : Int) == 0) = false := beq_eq_false_iff_ne.mpr e5
          go_wp2_with (first | (refine wpList_store_row rfl 30 (.tmp 2) (.tmp 74) rfl w.heap.size rfl #[.int .i64 0, .int .i64 0, .int .i64 0, .int .i64 0, .int .i64 0, .int .i64 0, .int .i64 0, .int .i64 0, .int .i64 0, .int .i64 0, .bool false, .slice none 0 0] rfl 30 #[.int .i64 0, .int .i64 0, .int .i64 0, .int .i64 0, .int .i64 0, .int .i64 0, .int .i64 0, .int .i64 0, .int .i64 0, .int .i64 0, .bool false, .slice none 0 0] HK5.out rfl ?h1 hi30 ?_; (case h1 => simp [Value.oneCell'])))
          refine bodyPost_ret (results_list (rs := [.cell 2 30, .tmp 3]) rfl (by simp) (.cell w.heap.size 30 #[.int .i64 0, .int .i64 0, .int .i64 0, .int .i64 0, .int .i64 0, .int .i64 0, .int .i64 0, .int .i64 0, .int .i64 0, .int .i64 0, .bool false, .slice none 0 0] (0, 0) _ rfl (setRow_heap _ _ _ _ _ _ HK5.out) hu30 rfl hi30 (.tmp .nil))) rfl ?_
          obtain ⟨rfl, rfl⟩ := HH.out
          exact ⟨_, rfl, Kd.R_nil _ _ _ _ _, below_setRow (hBw5) (Nat.le_refl _) _⟩
        subst e5
        rw [if_neg (by simp)] at h
        obtain ⟨cc, hcc, h⟩ := Option.bind_eq_some_iff.1 h
        obtain ⟨m, rfl⟩ : ∃ m : Nat, sz = (m : Int) := Int.eq_ofNat_of_zero_le (by have := HOK0.out.2.2.2.2.2.1; dsimp only at this; omega)
        rw [Int.toNat_natCast] at h
        by_cases e6 : cc.length < m
        · rw [if_pos e6] at h; cases h
        rw [if_neg e6] at h
        have HH6 := Aside0.mk h
        clear h
        have hcon := fun W (hW : Below w5.heap.size w5 W) => slices_Concat_byte_byte.calls A5 c5 out cc W (Kd.C_below hC5 hW) hc5 hcc
        have hx5 : w5.cell? ⟨wr.heap.size, 5, none⟩ = some (.int .i64 (m : Int)) := (blk_cell HBX5.out 5).trans rfl
        have hlt5 : wr.heap.size < w5.heap.size := blk_lt HBX5.out
        go_wp2_with fail
        have hBd : Below w5.heap.size w5 w5.drew := (Below.refl _ _).drew
        have hS0 : (fun w' : World => w'.cell? ⟨wr.heap.size, 5, none⟩ = some (.int .i64 (m : Int))) w5.drew := hx5
        refine start_ (n := 6) (S := fun w' => w'.cell? ⟨wr.heap.size, 5, none⟩ = some (.int .i64 (m : Int))) (ds := []) #[false, false, false, false, false, false] hmix rfl rfl hS0 (fun hHeld => ?_)
        refine pure_ (i := 0) (N := (some 76)) (v := ?_) (a' := ?_) #[true, false, false, false, false, false] rfl rfl (by kernel_rfl) (fun _ _ _ h => h) (Or.inl ⟨by rfl, ?_⟩) ?_ ?_
        rotate_left
        · intro w'
          go_simp
          with_reducible rfl
        rotate_left
        · simp only [Act.put, List.setIfInBounds_toArray, List.set_cons_zero, List.set_cons_succ, i64_w, i32_w]
          rfl
        refine pure_ (i := 2) (N := (some 78)) (v := ?_) (a' := ?_) #[true, false, true, false, false, false] rfl rfl (by kernel_rfl) (fun _ _ _ h => h) (Or.inl ⟨by rfl, ?_⟩) ?_ ?_
        rotate_left
        · intro w'
          go_simp
          with_reducible rfl
        rotate_left
        · simp only [Act.put, List.setIfInBounds_toArray, List.set_cons_zero, List.set_cons_succ, i64_w, i32_w]
          rfl
        refine take_ (i := 3) (N := (some 79)) (v := ?_) (a' := ?_) #[true, false, true, true, false, false] rfl rfl (by kernel_rfl) (fun _ _ _ h => h) (Or.inl ⟨by rfl, ?_⟩) hHeld ?_ ?_
        rotate_left
        · rintro w' s0
          go_simp
          with_reducible rfl
        rotate_left
        · simp only [Act.put, List.setIfInBounds_toArray, List.set_cons_zero, List.set_cons_succ, i64_w, i32_w]
          rfl
        refine one_ (i := 1) (N := some 77) #[true, true, true, true, false, false] rfl rfl (by kernel_rfl) (by decide) (fun K hK => ?_)
        go_simp
        (with_reducible refine (hcon _ hBd).mono ?_)
        rintro e w6 ⟨v6, rfl, hR6, hb6⟩
        have hB6 : Below w5.heap.size w5 w6 := hBd.trans (hb6.mono hBd.size)
        obtain ⟨A6, c6, rfl, hc6, hC6⟩ := Kd.R_reads hR6
        refine hK.out _ _ ((hB6.cell (p := ⟨wr.heap.size, 5, none⟩) hlt5).trans hx5) (fun hHeld => ?_)
        clear hK K
        have hm1 : (m : Int) ≤ (c6 : Int) := by omega
        have hm2 : m ≤ c6 := by omega
        refine pure_ (i := 4) (N := (some 80)) (v := ?_) (a' := ?_) #[true, true, true, true, true, false] rfl rfl (by kernel_rfl) (fun _ _ _ h => h) (Or.inl ⟨by rfl, ?_⟩) ?_ ?_
        rotate_left
        · intro w'
          go_simp
          with_reducible rfl
        rotate_left
        · simp only [Act.put, List.setIfInBounds_toArray, List.set_cons_zero, List.set_cons_succ, i64_w, i32_w]
          rfl
        refine pure_ (i := 5) (N := (some 15)) (v := ?_) (a' := ?_) #[true, true, true, true, true, true] rfl rfl (by kernel_rfl) (fun _ _ _ h => h) (Or.inl ⟨by rfl, ?_⟩) ?_ ?_
        rotate_left
        · intro w'
          go_simp
          with_reducible rfl
        rotate_left
        · simp only [Act.put, List.setIfInBounds_toArray, List.set_cons_zero, List.set_cons_succ, i64_w, i32_w]
          rfl
        refine done_ (by kernel_rfl) ?_
        clear hS0 hHeld hcon hx5
        have hR6' := Kd.R_take (m := m) hR6 (by omega)
        have hlb : (cc.take m).length = m := by rw [List.length_take]; omega
        obtain ⟨Ax, cx, ex, hcx, hCx⟩ := Kd.R_reads hR6'
        simp only [Value.slice.injEq] at ex
        obtain ⟨rfl, hxx, rfl⟩ := ex
        clear hxx
        have hsum := fun W (hW : Below w6.heap.size w6 W) => codec_Sum.calls A6 c6 (cc.take m) (sumOf (cc.take m)) W (Kd.C_below hCx hW) hcx rfl
        have hfrom := fun W (hW : Below w6.heap.size w6 W) (u : Wn × Int) (hu : piece_From.f (cc.take m) = some u) => piece_From.calls A6 c6 (cc.take m) u.1 u.2 W (Kd.C_below hCx hW) hcx hu
        simp only [hlb] at hsum hfrom
        have hx6 : w6.cell? ⟨wr.heap.size, 6, none⟩ = some (.int .i64 sm) := (hB6.cell (p := ⟨wr.heap.size, 6, none⟩) hlt5).trans ((blk_cell HBX5.out 6).trans rfl)
        have hlt6 : wr.heap.size < w6.heap.size := Nat.lt_of_lt_of_le hlt5 hB6.size
        have hwsum : wrap64 (sumOf (cc.take m)) = sumOf (cc.take m) := by have := sumOf_range (cc.take m); unfold wrap64; omega
        obtain ⟨sv6, hsv6⟩ : ∃ q, q = sumOf (cc.take m) := ⟨_, rfl⟩
        rw [← hsv6] at hsum hwsum
        have HSV := Aside0.mk hsv6
        have HWS := Aside0.mk hwsum
        have HLB := Aside0.mk hlb
        clear hsv6 hC6 hCx hR6 hwsum hlb
        go_wp2_with fail
        have hBd6 : Below w6.heap.size w6 w6.drew := (Below.refl _ _).drew
        have hS6 : (fun w' : World => w'.cell? ⟨wr.heap.size, 6, none⟩ = some (.int .i64 sm)) w6.drew := hx6
        refine start_ (n := 6) (S := fun w' => w'.cell? ⟨wr.heap.size, 6, none⟩ = some (.int .i64 sm)) (ds := []) #[false, false, false, false, false, false] hmix rfl rfl hS6 (fun hHeld => ?_)
        refine pure_ (i := 0) (N := (some 81)) (v := ?_) (a' := ?_) #[true, false, false, false, false, false] rfl rfl (by kernel_rfl) (fun _ _ _ h => h) (Or.inl ⟨by rfl, ?_⟩) ?_ ?_
        rotate_left
        · intro w'
          go_simp
          with_reducible rfl
        rotate_left
        · simp only [Act.put, List.setIfInBounds_toArray, List.set_cons_zero, List.set_cons_succ, i64_w, i32_w]
          rfl
        refine pure_ (i := 3) (N := (some 84)) (v := ?_) (a' := ?_) #[true, false, false, true, false, false] rfl rfl (by kernel_rfl) (fun _ _ _ h => h) (Or.inl ⟨by rfl, ?_⟩) ?_ ?_
        rotate_left
        · intro w'
          go_simp
          with_reducible rfl
        rotate_left
        · simp only [Act.put, List.setIfInBounds_toArray, List.set_cons_zero, List.set_cons_succ, i64_w, i32_w]
          rfl
        refine take_ (i := 4) (N := (some 85)) (v := ?_) (a' := ?_) #[true, false, false, true, true, false] rfl rfl (by kernel_rfl) (fun _ _ _ h => h) (Or.inl ⟨by rfl, ?_⟩) hHeld ?_ ?_
        rotate_left
        · rintro w' s0
          go_simp
          with_reducible rfl
        rotate_left
        · simp only [Act.put, List.setIfInBounds_toArray, List.set_cons_zero, List.set_cons_succ, i64_w, i32_w]
          rfl
        refine one_ (i := 1) (N := some 82) #[true, true, false, true, true, false] rfl rfl (by kernel_rfl) (by decide) (fun K hK => ?_)
        go_simp
        (with_reducible refine (hsum _ hBd6).mono ?_)
        rintro e w7 ⟨rfl, hb7⟩
        have hB7 : Below w6.heap.size w6 w7 := hBd6.trans (hb7.mono hBd6.size)
        refine hK.out _ _ ((hB7.cell (p := ⟨wr.heap.size, 6, none⟩) hlt6).trans hx6) (fun hHeld => ?_)
        clear hK K
        refine pure_ (i := 2) (N := (some 83)) (v := ?_) (a' := ?_) #[true, true, true, true, true, false] rfl rfl (by kernel_rfl) (fun _ _ _ h => h) (Or.inl ⟨by rfl, ?_⟩) ?_ ?_
        rotate_left
        · intro w'
          go_simp
          with_reducible rfl
        rotate_left
        · simp only [Act.put, List.setIfInBounds_toArray, List.set_cons_zero, List.set_cons_succ, i64_w, i32_w]
          rfl
        refine pure_ (i := 5) (N := (some 86)) (v := ?_) (a' := ?_) #[true, true, true, true, true, true] rfl rfl (by kernel_rfl) (fun _ _ _ h => h) (Or.inl ⟨by rfl, ?_⟩) ?_ ?_
        rotate_left
        · intro w'
          go_simp
          with_reducible rfl
        rotate_left
        · simp only [Act.put, List.setIfInBounds_toArray, List.set_cons_zero, List.set_cons_succ, i64_w, i32_w]
          rfl
        refine done_ (by kernel_rfl) ?_
        clear hS6 hHeld hsum hx6
        have h := HH6.out
        clear HH6
        rw [← HSV.out] at h
        have HB67 := hB7
        have hBw7 := (hBw5.trans (hB6.mono hBw5.size)).trans (hB7.mono (Nat.le_trans hBw5.size hB6.size))
        have HK7 := Aside0.mk ((hB7.block w.heap.size (Nat.lt_of_lt_of_le (Array.getElem?_eq_some_iff.1 HK5.out).1 hB6.size)).trans ((hB6.block w.heap.size (Array.getElem?_eq_some_iff.1 HK5.out).1).trans HK5.out))
        by_cases e7 : sv6 = sm
        case neg =>
          rw [if_pos e7] at h
          have HH := Aside0.mk (Prod.mk.inj (Option.some.inj h))
          clear h
          have k7 : (wrap64 sv6 == sm) = false := beq_eq_false_iff_ne.mpr (by rw [HWS.out]; exact e7)
          have k7' : (sv6 == sm) = false := beq_eq_false_iff_ne.mpr e7
          go_wp2_with (first | (refine wpList_store_row rfl 30 (.tmp 2) (.tmp 87) rfl w.heap.size rfl #[.int .i64 0, .int .i64 0, .int .i64 0, .int .i64 0, .int .i64 0, .int .i64 0, .int .i64 0, .int .i64 0, .int .i64 0, .int .i64 0, .bool false, .slice none 0 0] rfl 30 #[.int .i64 0, .int .i64 0, .int .i64 0, .int .i64 0, .int .i64 0, .int .i64 0, .int .i64 0, .int .i64 0, .int .i64 0, .int .i64 0, .bool false, .slice none 0 0] HK7.out rfl ?h1 hi30 ?_; (case h1 => simp [Value.oneCell'])))
          refine bodyPost_ret (results_list (rs := [.cell 2 30, .tmp 3]) rfl (by simp) (.cell w.heap.size 30 #[.int .i64 0, .int .i64 0, .int .i64 0, .int .i64 0, .int .i64 0, .int .i64 0, .int .i64 0, .int .i64 0, .int .i64 0, .int .i64 0, .bool false, .slice none 0 0] (0, 0) _ rfl (setRow_heap _ _ _ _ _ _ HK7.out) hu30 rfl hi30 (.tmp .nil))) rfl ?_
          obtain ⟨rfl, rfl⟩ := HH.out
          exact ⟨_, rfl, Kd.R_nil _ _ _ _ _, below_setRow (hBw7) (Nat.le_refl _) _⟩
        rw [if_neg (fun c => c e7)] at h
        have k7 : (wrap64 sv6 == sm) = true := beq_iff_eq.mpr (by rw [HWS.out]; exact e7)
        have k7' : (sv6 == sm) = true := beq_iff_eq.mpr e7
        obtain ⟨⟨q, e8⟩, hq, h⟩ := Option.bind_eq_some_iff.1 h
        dsimp only at h
        have hfr := hfrom _ hB7 _ hq
        dsimp only [vWn] at hfr
        have HH7 := Aside0.mk h
        have HE7 := Aside0.mk e7
        clear h e7 hq hfrom
        go_wp2_with fail
        (with_reducible refine hfr.mono ?_)
        rintro e w8 ⟨v8, rfl, hR8, hb8⟩
        have HB8 := Aside0.mk (hBw7.trans (hb8.mono hBw7.size))
        have HK8 := Aside0.mk ((hb8.block w.heap.size (Array.getElem?_eq_some_iff.1 HK7.out).1).trans HK7.out)
        have HBX8 := Aside0.mk ((hb8.block wr.heap.size (Nat.lt_of_lt_of_le hlt6 hB7.size)).trans ((hB7.block wr.heap.size hlt6).trans ((hB6.block wr.heap.size hlt5).trans HBX5.out)))
        clear hfr
        obtain ⟨A8, c8, rfl, hc8, hC8⟩ := Kd.R_reads hR8
        have HR8 := Aside0.mk hR8
        have hb9 : Below w8.heap.size w8 (w8.alloc (.cells #[.int .i64 q.st, .int .i64 q.ki, .int .i64 q.nu, .int .i64 q.iss, .int .i64 q.unt, .int .i64 q.xlo, .int .i64 q.xhi, .int .i64 q.ylo, .int .i64 q.yhi, .int .i64 q.pri, .bool q.wd, .slice A8 q.text.length c8] 30)) := (Below.refl _ _).alloc (Nat.le_refl _) _
        have HK9 := Aside0.mk ((hb9.block w.heap.size (Array.getElem?_eq_some_iff.1 HK8.out).1).trans HK8.out)
        have HX9 := Aside0.mk ((hb9.block wr.heap.size (Array.getElem?_eq_some_iff.1 HBX8.out).1).trans HBX8.out)
        have HB9 := Aside0.mk (HB8.out.trans (hb9.mono HB8.out.size))
        have y0 := (blk_cell HX9.out 0).trans rfl
        have y1 := (blk_cell HX9.out 1).trans rfl
        have y2 := (blk_cell HX9.out 2).trans rfl
        have HW9 := Aside0.mk (World.alloc_heap_new w8 (.cells #[.int .i64 q.st, .int .i64 q.ki, .int .i64 q.nu, .int .i64 q.iss, .int .i64 q.unt, .int .i64 q.xlo, .int .i64 q.xhi, .int .i64 q.ylo, .int .i64 q.yhi, .int .i64 q.pri, .bool q.wd, .slice A8 q.text.length c8] 30))
        clear hb9 hR8 hC8
        have h := HH7.out
        clear HH7
        have heq : ∀ wx, (Op.equalIn 10000 23 (.agg #[.int .i64 q.st, .int .i64 q.ki, .int .i64 q.nu]) (.agg #[.int .i64 n0, .int .i64 n1, .int .i64 n2])).run Try.prog wx = .ok (q.st == n0 && (q.ki == n1 && (q.nu == n2))) wx := fun wx => eqName 9998 wx _ _ _ _ _ _
        have hg23 : Try.prog.eqGuardType Try.prog.depth 23 = false := by kernel_rfl
        by_cases e9 : e8 = 0
        case neg =>
          rw [if_pos (.inl e9)] at h
          have HH := Aside0.mk (Prod.mk.inj (Option.some.inj h))
          clear h
          have k9 : (e8 == 0) = false := beq_eq_false_iff_ne.mpr e9
          go_wp2_with (first | (refine wpList_store_row rfl 30 (.tmp 16) (.tmp 91) rfl w8.heap.size rfl #[.int .i64 q.st, .int .i64 q.ki, .int .i64 q.nu, .int .i64 q.iss, .int .i64 q.unt, .int .i64 q.xlo, .int .i64 q.xhi, .int .i64 q.ylo, .int .i64 q.yhi, .int .i64 q.pri, .bool q.wd, .slice A8 q.text.length c8] rfl 30 #[.int .i64 0, .int .i64 0, .int .i64 0, .int .i64 0, .int .i64 0, .int .i64 0, .int .i64 0, .int .i64 0, .int .i64 0, .int .i64 0, .bool false, .slice none 0 0] (World.alloc_heap_new _ _) rfl ?h1 hi30 ?_; (case h1 => simp [Value.oneCell']); rw [World.setRow_alloc_new]) | (refine wpList_store_row rfl 30 (.tmp 2) (.tmp 102) rfl w.heap.size rfl #[.int .i64 0, .int .i64 0, .int .i64 0, .int .i64 0, .int .i64 0, .int .i64 0, .int .i64 0, .int .i64 0, .int .i64 0, .int .i64 0, .bool false, .slice none 0 0] rfl 30 #[.int .i64 0, .int .i64 0, .int .i64 0, .int .i64 0, .int .i64 0, .int .i64 0, .int .i64 0, .int .i64 0, .int .i64 0, .int .i64 0, .bool false, .slice none 0 0] HK9.out rfl ?h1 hi30 ?_; (case h1 => simp [Value.oneCell'])))
          refine bodyPost_ret (results_list (rs := [.cell 2 30, .tmp 3]) rfl (by simp) (.cell w.heap.size 30 #[.int .i64 0, .int .i64 0, .int .i64 0, .int .i64 0, .int .i64 0, .int .i64 0, .int .i64 0, .int .i64 0, .int .i64 0, .int .i64 0, .bool false, .slice none 0 0] (0, 0) _ rfl (setRow_heap _ _ _ _ _ _ HK9.out) hu30 rfl hi30 (.tmp .nil))) rfl ?_
          obtain ⟨rfl, rfl⟩ := HH.out
          exact ⟨_, rfl, Kd.R_nil _ _ _ _ _, below_setRow (HB9.out) (Nat.le_refl _) _⟩
        subst e9
        have hse : (q.st == n0 && (q.ki == n1 && (q.nu == n2))) = decide (sameName q ⟨⟨n0, n1, n2⟩, ix, nd, (m : Int), sm, dat⟩) := by
          rw [Bool.eq_iff_iff, decide_eq_true_iff]
          simp [sameName]
        rw [hse] at heq
        clear hse
        by_cases e10 : sameName q ⟨⟨n0, n1, n2⟩, ix, nd, (m : Int), sm, dat⟩
        case neg =>
          rw [if_pos (.inr e10)] at h
          rw [decide_eq_false e10] at heq
          have HH := Aside0.mk (Prod.mk.inj (Option.some.inj h))
          clear h e10
          go_wp2_with (first | (refine wpList_store_row rfl 30 (.tmp 16) (.tmp 91) rfl w8.heap.size rfl #[.int .i64 q.st, .int .i64 q.ki, .int .i64 q.nu, .int .i64 q.iss, .int .i64 q.unt, .int .i64 q.xlo, .int .i64 q.xhi, .int .i64 q.ylo, .int .i64 q.yhi, .int .i64 q.pri, .bool q.wd, .slice A8 q.text.length c8] rfl 30 #[.int .i64 0, .int .i64 0, .int .i64 0, .int .i64 0, .int .i64 0, .int .i64 0, .int .i64 0, .int .i64 0, .int .i64 0, .int .i64 0, .bool false, .slice none 0 0] (World.alloc_heap_new _ _) rfl ?h1 hi30 ?_; (case h1 => simp [Value.oneCell']); rw [World.setRow_alloc_new]) | (refine wpList_store_row rfl 30 (.tmp 2) (.tmp 102) rfl w.heap.size rfl #[.int .i64 0, .int .i64 0, .int .i64 0, .int .i64 0, .int .i64 0, .int .i64 0, .int .i64 0, .int .i64 0, .int .i64 0, .int .i64 0, .bool false, .slice none 0 0] rfl 30 #[.int .i64 0, .int .i64 0, .int .i64 0, .int .i64 0, .int .i64 0, .int .i64 0, .int .i64 0, .int .i64 0, .int .i64 0, .int .i64 0, .bool false, .slice none 0 0] HK9.out rfl ?h1 hi30 ?_; (case h1 => simp [Value.oneCell'])))
          refine bodyPost_ret (results_list (rs := [.cell 2 30, .tmp 3]) rfl (by simp) (.cell w.heap.size 30 #[.int .i64 0, .int .i64 0, .int .i64 0, .int .i64 0, .int .i64 0, .int .i64 0, .int .i64 0, .int .i64 0, .int .i64 0, .int .i64 0, .bool false, .slice none 0 0] (0, 0) _ rfl (setRow_heap _ _ _ _ _ _ HK9.out) hu30 rfl hi30 (.tmp .nil))) rfl ?_
          obtain ⟨rfl, rfl⟩ := HH.out
          exact ⟨_, rfl, Kd.R_nil _ _ _ _ _, below_setRow (HB9.out) (Nat.le_refl _) _⟩
        rw [if_neg (fun hh => hh.elim (fun c => c rfl) (fun c => c e10))] at h
        rw [decide_eq_true e10] at heq
        have HH := Aside0.mk (Prod.mk.inj (Option.some.inj h))
        clear h e10
        go_wp2_with (first | (refine wpList_store_row rfl 30 (.tmp 16) (.tmp 91) rfl w8.heap.size rfl #[.int .i64 q.st, .int .i64 q.ki, .int .i64 q.nu, .int .i64 q.iss, .int .i64 q.unt, .int .i64 q.xlo, .int .i64 q.xhi, .int .i64 q.ylo, .int .i64 q.yhi, .int .i64 q.pri, .bool q.wd, .slice A8 q.text.length c8] rfl 30 #[.int .i64 0, .int .i64 0, .int .i64 0, .int .i64 0, .int .i64 0, .int .i64 0, .int .i64 0, .int .i64 0, .int .i64 0, .int .i64 0, .bool false, .slice none 0 0] (World.alloc_heap_new _ _) rfl ?h1 hi30 ?_; (case h1 => simp [Value.oneCell']); rw [World.setRow_alloc_new]) | (refine wpList_store_row rfl 30 (.tmp 2) (.tmp 103) rfl w.heap.size rfl #[.int .i64 q.st, .int .i64 q.ki, .int .i64 q.nu, .int .i64 q.iss, .int .i64 q.unt, .int .i64 q.xlo, .int .i64 q.xhi, .int .i64 q.ylo, .int .i64 q.yhi, .int .i64 q.pri, .bool q.wd, .slice A8 q.text.length c8] rfl 30 #[.int .i64 0, .int .i64 0, .int .i64 0, .int .i64 0, .int .i64 0, .int .i64 0, .int .i64 0, .int .i64 0, .int .i64 0, .int .i64 0, .bool false, .slice none 0 0] HK9.out rfl ?h1 hi30 ?_; (case h1 => simp [Value.oneCell'])))
        refine bodyPost_ret (results_list (rs := [.cell 2 30, .tmp 3]) rfl (by simp) (.cell w.heap.size 30 #[.int .i64 q.st, .int .i64 q.ki, .int .i64 q.nu, .int .i64 q.iss, .int .i64 q.unt, .int .i64 q.xlo, .int .i64 q.xhi, .int .i64 q.ylo, .int .i64 q.yhi, .int .i64 q.pri, .bool q.wd, .slice A8 q.text.length c8] (0, 0) _ rfl (setRow_heap _ _ _ _ _ _ HK9.out) hu30 rfl hi30 (.tmp .nil))) rfl ?_
        obtain ⟨rfl, rfl⟩ := HH.out
        have hlt7 : w.heap.size < w7.heap.size := (Array.getElem?_eq_some_iff.1 HK7.out).1
        have hA := Kd.R_alloc HR8.out (.cells #[.int .i64 q.st, .int .i64 q.ki, .int .i64 q.nu, .int .i64 q.iss, .int .i64 q.unt, .int .i64 q.xlo, .int .i64 q.xhi, .int .i64 q.ylo, .int .i64 q.yhi, .int .i64 q.pri, .bool q.wd, .slice A8 q.text.length c8] 30)
        refine ⟨_, rfl, Kd.R_mono (Kd.R_lower (Kd.R_step (Kd.R_bound hA) (fun k hk _ => ?_)) (by omega)) (fun _ _ => trivial), below_setRow HB9.out (Nat.le_refl _) _⟩
        have hk2 := hk.2.1
        exact setRow_other _ _ _ _ (by omega)
end Go.Proofs.YthiealhmcfdakaaH
end
section
set_option linter.unusedVariables false
set_option linter.unusedSimpArgs false
namespace Go.Proofs.YthiealhmcfdakaaH
open Go Go.RowKit Go.Proofs.YthiealhmcfdakaaW.PrintWords Go.Proofs.YthiealhmcfdakaaW.PrintLast Go.Proofs.YthiealhmcfdakaaW.PrintMore Go.Proofs.Ythiealhmcfdakaa.E
def orderB (l : List S49) (at' : List Int) : List S49 := at'.map fun i => l.getD (i.toNat % l.length) z49
def rawPiece (p : S49) (v : Value) : List Value := [.int .i64 p.f0.f0, .int .i64 p.f0.f1, .int .i64 p.f0.f2, .int .i64 p.f1, .int .i64 p.f2, .int .i64 p.f3, .int .i64 p.f4, v]
theorem raws_of {w : World} {A : Option Addr} {l : List S49} (h : Kd.C k49 w A l.length l) : ∃ sv : Nat → Value, ∀ m, m < l.length → ∃ A7 c7, sv m = .slice A7 (l.getD m z49).f5.length c7 ∧ (l.getD m z49).f5.length ≤ c7 ∧ (Kd.int .u8).C w A7 (l.getD m z49).f5.length (l.getD m z49).f5 ∧
    ∃ ad, A = some ad ∧ ∀ j v, (rawPiece (l.getD m z49) (sv m))[j]? = some v → w.cell? (ad.add (m * 8 + j)) = some v := by
  obtain ⟨sv, hsv⟩ : ∃ sv : Nat → Value, ∀ m, sv m = (w.cell? ((A.getD default).add (m * 8 + 7))).getD undef := ⟨_, fun _ => rfl⟩
  refine ⟨sv, fun m hm => ?_⟩
  obtain ⟨ad, c, e, _, hK, hc0⟩ := Kd.C_get h z49 (m : Int) (by omega) (by omega)
  rw [Int.toNat_natCast] at hK hc0
  obtain ⟨A7, c7, rfl, l7, g7⟩ := k49_open hK
  subst e
  have h7 : w.cell? (ad.add (m * 8 + 7)) = _ := hc0 7 _ rfl
  have hs : sv m = .slice A7 (l.getD m z49).f5.length c7 := by rw [hsv, Option.getD_some, h7]; rfl
  refine ⟨A7, c7, hs, l7, g7, ad, rfl, fun j v hj => hc0 j v ?_⟩
  rw [← hj, rawPiece, hs]
theorem byte_rem (a : Int) (n : Nat) (h0 : 0 ≤ a) (h1 : a ≤ 255) (hn : 0 < n) : Int.tmod (wrap64 a) (n : Int) = ((a.toNat % n : Nat) : Int) := by
  have e : wrap64 a = a := by unfold wrap64; omega
  rw [e, Int.tmod_eq_emod_of_nonneg h0, Int.natCast_emod, Int.toNat_of_nonneg h0]
set_option maxHeartbeats 8000000 in
set_option maxRecDepth 100000 in
theorem order_calls (A : Option Addr) (c : Nat) (l : List S49) (A1 : Option Addr) (c1 : Nat) (at' : List Int) (w : World) (hr : Kd.C k49 w A l.length l) (hc : l.length ≤ c) (hr1 : Kd.C (Kd.int .u8) w A1 at'.length at') (hc1 : at'.length ≤ c1) (hne : 0 < l.length) (hl : l.length ≤ 1000) (hl1 : at'.length ≤ 1000) (hu : ∀ a ∈ at', 0 ≤ a ∧ a ≤ 255) :
    Calls Try.prog 19 #[.slice A l.length c, .slice A1 at'.length c1] w fun e w' => ∃ A' c', e = .returned (.slice A' (orderB l at').length c') ∧ (orderB l at').length ≤ c' ∧ Kd.C k49 w' A' (orderB l at').length (orderB l at') ∧ Below w.heap.size w w' := by
  have hu49 := Try.underlying49
  have hu23 := Try.underlying23
  have hi49 : (Try.prog.info? 49).map (·.size) = some 8 := by kernel_rfl
  obtain ⟨sv, hsv⟩ := raws_of hr
  go_enter Try.func19, Try.ntmps19
  go_wp2_with fail
  go_loopw [10, 5] (fun q ov wr => ∃ i : Nat, q = .int .i64 (i : Int) ∧ i ≤ at'.length ∧ (rawKd 8).R 49 wr w.heap.size (fun _ => True) ov ((List.range i).map fun (i : Nat) => rawPiece (l.getD ((rd at' (i : Int)).toNat % l.length) z49) (sv ((rd at' (i : Int)).toNat % l.length))) ∧ Below w.heap.size w wr) (fun q _ _ => at'.length - (intOf q).toNat)
  case atStart => exact ⟨0, rfl, Nat.zero_le _, Kd.R_nil _ _ _ _ _, Below.refl _ _⟩
  case round =>
    obtain ⟨i, rfl, hi, hRr, hBr⟩ := hrel
    by_cases hil : i < at'.length
    · have hi2 : (i : Int) < (at'.length : Int) := by omega
      have hi3 : (0 : Int) ≤ (i : Int) := by omega
      have hrdm : 0 ≤ rd at' (i : Int) ∧ rd at' (i : Int) ≤ 255 := hu _ (by
        rw [rd, Int.toNat_natCast, List.getD_eq_getElem?_getD, List.getElem?_eq_getElem hil, Option.getD_some]; exact List.getElem_mem hil)
      obtain ⟨m, hm⟩ : ∃ m, m = (rd at' (i : Int)).toNat % l.length := ⟨_, rfl⟩
      have hml : m < l.length := by rw [hm]; exact Nat.mod_lt _ hne
      obtain ⟨ad1, e1, hbyte⟩ := Kd.at_int (Kd.C_below hr1 hBr) (i : Int) hi3 hi2
      subst e1
      rw [Int.toNat_natCast] at hbyte
      obtain ⟨A7, c7, hs, l7, g7, ad, rfl, hcell⟩ := hsv m hml
      obtain ⟨q, hq⟩ : ∃ q, q = rd at' (i : Int) := ⟨_, rfl⟩
      rw [← hq] at hrdm hbyte
      obtain ⟨p, hp⟩ : ∃ p, p = l.getD m z49 := ⟨_, rfl⟩
      rw [← hp] at hs l7 g7 hcell
      have hlow : ∀ {a : Addr} {v : Value}, w.cell? a = some v → wr.cell? a = some v := fun {a v} h => (hBr.cell (block_lt_of_cell h)).trans h
      have j0 : wr.cell? (ad.add (m * 8)) = some (.int .i64 p.f0.f0) := hlow (hcell 0 _ rfl)
      have j1 : wr.cell? ⟨(ad.add (m * 8)).block, (ad.add (m * 8)).off + 1, none⟩ = some (.int .i64 p.f0.f1) := hlow (by rw [← add_field _ _ 1 (by omega)]; exact hcell 1 _ rfl)
      have j2 : wr.cell? ⟨(ad.add (m * 8)).block, (ad.add (m * 8)).off + 2, none⟩ = some (.int .i64 p.f0.f2) := hlow (by rw [← add_field _ _ 2 (by omega)]; exact hcell 2 _ rfl)
      have j3 : wr.cell? ⟨(ad.add (m * 8)).block, (ad.add (m * 8)).off + 3, none⟩ = some (.int .i64 p.f1) := hlow (by rw [← add_field _ _ 3 (by omega)]; exact hcell 3 _ rfl)
      have j4 : wr.cell? ⟨(ad.add (m * 8)).block, (ad.add (m * 8)).off + 4, none⟩ = some (.int .i64 p.f2) := hlow (by rw [← add_field _ _ 4 (by omega)]; exact hcell 4 _ rfl)
      have j5 : wr.cell? ⟨(ad.add (m * 8)).block, (ad.add (m * 8)).off + 5, none⟩ = some (.int .i64 p.f3) := hlow (by rw [← add_field _ _ 5 (by omega)]; exact hcell 5 _ rfl)
      have j6 : wr.cell? ⟨(ad.add (m * 8)).block, (ad.add (m * 8)).off + 6, none⟩ = some (.int .i64 p.f4) := hlow (by rw [← add_field _ _ 6 (by omega)]; exact hcell 6 _ rfl)
      have j7 : wr.cell? ⟨(ad.add (m * 8)).block, (ad.add (m * 8)).off + 7, none⟩ = some (.slice A7 p.f5.length c7) := hlow (by rw [← add_field _ _ 7 (by omega)]; exact hcell 7 _ (by rw [← hs]; rfl))
      have hm' : m = (q % (l.length : Int)).toNat := by
        obtain ⟨qn, rfl⟩ := Int.eq_ofNat_of_zero_le hrdm.1
        rw [hm, ← hq, Int.toNat_natCast, ← Int.natCast_emod, Int.toNat_natCast]
      rw [hm'] at j0 j1 j2 j3 j4 j5 j6 j7
      have hx0 : 0 ≤ q % (l.length : Int) := Int.emod_nonneg _ (by omega)
      have hx1 : q % (l.length : Int) < (l.length : Int) := Int.emod_lt_of_pos _ (by omega)
      have HM := Aside0.mk hm
      have HQ := Aside0.mk hq
      have HP := Aside0.mk hp
      have HS := Aside0.mk hs
      have HRR := Aside0.mk hRr
      have HBR := Aside0.mk hBr
      have hq0 := hrdm.1
      have hq1 := hrdm.2
      clear hm hm' hq hp hs hcell hlow hsv hRr hBr hrdm
      have hll : ((List.range i).map fun (i : Nat) => rawPiece (l.getD ((rd at' (i : Int)).toNat % l.length) z49) (sv ((rd at' (i : Int)).toNat % l.length))).length = i := by rw [List.length_map, List.length_range]
      have HLL := Aside0.mk hll
      clear hll
      go_wp2_with (first | ((with_reducible refine gate_builtin (b := .append) (xs := #[.tmp 14, .tmp 23]) rfl ?_); at_builtin; refine Kd.R_append (rawKd 8) (w0 := w) w.heap.size rfl (.tmp 14) (.tmp 23) 41 49 (.agg #[.int .i64 0, .int .i64 0, .int .i64 0, .int .i64 0, .int .i64 0, .int .i64 0, .int .i64 0, .slice none 0 0]) 80 rfl Try.underlying41 info_piece rfl (by decide) (by omega) u5 _ (rawPiece p (.slice A7 p.f5.length c7)) [.int .i64 p.f0.f0, .int .i64 p.f0.f1, .int .i64 p.f0.f2, .int .i64 p.f1, .int .i64 p.f2, .int .i64 p.f3, .int .i64 p.f4, .slice A7 p.f5.length c7] (fun _ => True) (fun _ => False) rfl rfl ⟨rfl, rfl, by simp [rawPiece, Value.oneCell']⟩ (fun _ hk => hk.elim) (fun _ _ => trivial) HRR.out HBR.out HBR.out.size (by rw [HLL.out]; omega) ?_; intro v7 w7 ho7 hb7 _ _; have HO7 := Aside0.mk ho7; have HB7 := Aside0.mk hb7; clear ho7 hb7))
      go_roundw
      case rel =>
        refine ⟨i + 1, rfl, by omega, ?_, HB7.out⟩
        rw [List.range_succ, List.map_append, List.map_singleton, ← HQ.out, HQ.out, ← HM.out, ← HP.out, HS.out]
        exact HO7.out
      case measure => first | (simp [intOf]; done) | (simp [intOf]; omega)
    · have hie : i = at'.length := by omega
      subst hie
      have hll : ((List.range at'.length).map fun (i : Nat) => rawPiece (l.getD ((rd at' (i : Int)).toNat % l.length) z49) (sv ((rd at' (i : Int)).toNat % l.length))).length = at'.length := by rw [List.length_map, List.length_range]
      obtain ⟨A', c', hv', hcap, hCraw⟩ := Kd.R_reads hRr
      rw [hll] at hv' hcap hCraw
      subst hv'
      have hol : (orderB l at').length = at'.length := by rw [orderB, List.length_map]
      have hCf : Kd.C k49 wr A' at'.length (orderB l at') := by
        refine C_of_raw (d := k49) hCraw (by rw [hll, hol]) (fun j q x hj hx => ?_)
        have hjl : j < at'.length := by
          have := (List.getElem?_eq_some_iff.1 hx).1
          rwa [hll] at this
        rw [orderB, List.getElem?_map, List.getElem?_eq_getElem hjl] at hj
        rw [List.getElem?_map, List.getElem?_range hjl] at hx
        obtain rfl := Option.some.inj hj
        obtain rfl := Option.some.inj hx
        have hrj : rd at' (j : Int) = at'[j] := by rw [rd, Int.toNat_natCast, List.getD_eq_getElem?_getD, List.getElem?_eq_getElem hjl, Option.getD_some]
        dsimp only
        rw [hrj]
        obtain ⟨A7, c7, hs, l7, g7, _⟩ := hsv (at'[j].toNat % l.length) (Nat.mod_lt _ hne)
        rw [hs]
        exact k49_mk wr _ l7 (Kd.C_below g7 hBr)
      rw [← hol] at hCf hcap
      have HF := Aside0.mk hCf
      have HCAP := Aside0.mk hcap
      have HPL := Aside0.mk hol
      have HB := Aside0.mk hBr
      clear hCf hcap hol hBr hll hsv hCraw hRr hi hil
      go_wp2_with fail
      go_ret
      exact ⟨A', c', by rw [HPL.out]; rfl, HCAP.out, HF.out, HB.out⟩
end Go.Proofs.YthiealhmcfdakaaH
end
section
set_option linter.unusedVariables false
set_option linter.unusedSimpArgs false
namespace Go.Proofs.YthiealhmcfdakaaH
open Go Go.RowKit Go.Proofs.YthiealhmcfdakaaW.PrintWords Go.Proofs.YthiealhmcfdakaaW.PrintLast Go.Proofs.YthiealhmcfdakaaW.PrintMore Go.Proofs.Ythiealhmcfdakaa.E Go.Proofs.YthiealhmcfdakaaM
theorem beqI (a b : Int) (h : a = b) : (a == b) = true := beq_iff_eq.mpr h
theorem beqI' (a b : Int) (h : ¬ a = b) : (a == b) = false := beq_eq_false_iff_ne.mpr h
set_option maxHeartbeats 8000000 in
set_option maxRecDepth 100000 in
theorem same_calls (a b : Wn) (Aa : Option Addr) (ca : Nat) (Ab : Option Addr) (cb : Nat) (w : World) (hra : Kd.C (Kd.int .u8) w Aa a.text.length a.text) (hca : a.text.length ≤ ca) (hrb : Kd.C (Kd.int .u8) w Ab b.text.length b.text) (hcb : b.text.length ≤ cb) (hl : a.text.length ≤ 1000000000) :
    Calls Try.prog 14 #[vWn a (.slice Aa a.text.length ca), vWn b (.slice Ab b.text.length cb)] w fun e w' => e = .returned (.bool (decide (a = b))) ∧ Below w.heap.size w w' := by
  have hu30 := Try.underlying30
  have hu23 := Try.underlying23
  have hu25 := Try.underlying25
  have hu27 := Try.underlying27
  have heqn : ∀ wx, (Op.equalIn 10000 23 (.agg #[.int .i64 a.st, .int .i64 a.ki, .int .i64 a.nu]) (.agg #[.int .i64 b.st, .int .i64 b.ki, .int .i64 b.nu])).run Try.prog wx = .ok (a.st == b.st && (a.ki == b.ki && (a.nu == b.nu))) wx := fun wx => eqName 9998 wx _ _ _ _ _ _
  have heqb : ∀ wx, (Op.equalIn 10000 27 (.agg #[.int .i64 a.xlo, .int .i64 a.xhi, .int .i64 a.ylo, .int .i64 a.yhi]) (.agg #[.int .i64 b.xlo, .int .i64 b.xhi, .int .i64 b.ylo, .int .i64 b.yhi])).run Try.prog wx = .ok ((a.xlo == b.xlo && (a.xhi == b.xhi)) && ((a.ylo == b.ylo && (a.yhi == b.yhi)))) wx := fun wx => eqBox 9997 wx _ _ _ _ _ _ _ _
  have hgn : Try.prog.eqGuardType Try.prog.depth 23 = false := by kernel_rfl
  have hgb : Try.prog.eqGuardType Try.prog.depth 27 = false := by kernel_rfl
  have hcall := fun W (hB : Below w.heap.size w W) => slices_Equal_byte_byte.calls (a.text.length + 1) Aa ca a.text Ab cb b.text _ W (Kd.C_below hra hB) hca (Kd.C_below hrb hB) hcb (equal_f a.text b.text hl)
  obtain ⟨bt, hbt⟩ : ∃ bt, bt = decide (a.text = b.text) := ⟨_, rfl⟩
  rw [← hbt] at hcall
  have HBT := Aside0.mk hbt
  obtain ⟨bn, hbn⟩ : ∃ bn, bn = (a.st == b.st && (a.ki == b.ki && (a.nu == b.nu))) := ⟨_, rfl⟩
  rw [← hbn] at heqn
  have HBN := Aside0.mk hbn
  obtain ⟨bb, hbb⟩ : ∃ bb, bb = ((a.xlo == b.xlo && (a.xhi == b.xhi)) && ((a.ylo == b.ylo && (a.yhi == b.yhi)))) := ⟨_, rfl⟩
  rw [← hbb] at heqb
  have HBB := Aside0.mk hbb
  have HS : ∀ x : Bool, ((bt && (bn && (decide (a.iss = b.iss) && (decide (a.unt = b.unt) && (bb && (decide (a.pri = b.pri) && (a.wd == b.wd)))))))) = x → decide (a = b) = x := by
    rintro x rfl
    rw [HBT.out, HBN.out, HBB.out, Bool.eq_iff_iff]
    cases a; cases b
    simp only [decide_eq_true_eq, Bool.and_eq_true, beq_iff_eq, Wn.mk.injEq]
    constructor
    · rintro ⟨h0, h1, h2, h3, h4, h5, h6, h7, h8, h9, h10, h11⟩
      exact ⟨h11, ⟨h0, h1, h2⟩, h3, h4, ⟨⟨h5, h6⟩, h7, h8⟩, h9, h10⟩
    · rintro ⟨h11, ⟨h0, h1, h2⟩, h3, h4, ⟨⟨h5, h6⟩, h7, h8⟩, h9, h10⟩
      exact ⟨h0, h1, h2, h3, h4, h5, h6, h7, h8, h9, h10, h11⟩
  clear hbt hbn hbb hra hca hrb hcb hl
  simp only [vWn]
  go_enter Try.func14, Try.ntmps14
  go_wp2_with (first | ((with_reducible refine gate_dst (N := 2) rfl ?_); (try (refine gate_guard (by rfl) ?_; dsimp only)); refine box_event ?hg (N := 2) ?hd (cs := #[.int .i64 a.st, .int .i64 a.ki, .int .i64 a.nu, .int .i64 a.iss, .int .i64 a.unt, .int .i64 a.xlo, .int .i64 a.xhi, .int .i64 a.ylo, .int .i64 a.yhi, .int .i64 a.pri, .bool a.wd, .slice Aa a.text.length ca]) (t := 30) ?hr ?_; (case hd => rfl); (case hg => rfl); (case hr => first | (go_simp; done) | (go_simp; rfl)); intro ga hg w1 hbox hbga; have x11 : w1.cell? ⟨ga, 11, none⟩ = some (.slice Aa a.text.length ca) := (blk_cell hbox 11).trans rfl; have HBga := Aside0.mk hbox; clear hbox hg) | ((with_reducible refine gate_dst (N := 3) rfl ?_); (try (refine gate_guard (by rfl) ?_; dsimp only)); refine box_event ?hg (N := 3) ?hd (cs := #[.int .i64 b.st, .int .i64 b.ki, .int .i64 b.nu, .int .i64 b.iss, .int .i64 b.unt, .int .i64 b.xlo, .int .i64 b.xhi, .int .i64 b.ylo, .int .i64 b.yhi, .int .i64 b.pri, .bool b.wd, .slice Ab b.text.length cb]) (t := 30) ?hr ?_; (case hd => rfl); (case hg => rfl); (case hr => first | (go_simp; done) | (go_simp; rfl)); intro gb hg w2 hbox hbgb; have hsz2 : ga < w1.heap.size := blk_lt HBga.out; have hblk := Aside0.mk ((hbgb.block _ hsz2).trans HBga.out); have x11b : w2.cell? ⟨ga, 11, none⟩ = some (.slice Aa a.text.length ca) := (blk_cell hblk.out 11).trans rfl; have y11 : w2.cell? ⟨gb, 11, none⟩ = some (.slice Ab b.text.length cb) := (blk_cell hbox 11).trans rfl; clear x11; have hB2 : Below w.heap.size w w2 := hbga.trans (hbgb.mono hbga.size); have HBgb := Aside0.mk hbox; clear hbox hg))
  (with_reducible refine (hcall _ hB2).mono ?_)
  clear hcall
  rintro e w3 ⟨rfl, hd⟩
  replace hd := hd.below
  have HA3 := Aside0.mk ((hd.block _ (blk_lt hblk.out)).trans hblk.out)
  have HB3 := Aside0.mk ((hd.block _ (blk_lt HBgb.out)).trans HBgb.out)
  have hB3 : Below w.heap.size w w3 := hB2.trans (hd.mono hB2.size)
  clear x11b y11 hd
  have x0 : w3.cell? ⟨ga, 0, none⟩ = some (.int .i64 a.st) := (blk_cell HA3.out 0).trans rfl
  have x1 : w3.cell? ⟨ga, 1, none⟩ = some (.int .i64 a.ki) := (blk_cell HA3.out 1).trans rfl
  have x2 : w3.cell? ⟨ga, 2, none⟩ = some (.int .i64 a.nu) := (blk_cell HA3.out 2).trans rfl
  have x3 : w3.cell? ⟨ga, 3, none⟩ = some (.int .i64 a.iss) := (blk_cell HA3.out 3).trans rfl
  have x4 : w3.cell? ⟨ga, 4, none⟩ = some (.int .i64 a.unt) := (blk_cell HA3.out 4).trans rfl
  have x5 : w3.cell? ⟨ga, 5, none⟩ = some (.int .i64 a.xlo) := (blk_cell HA3.out 5).trans rfl
  have x6 : w3.cell? ⟨ga, 6, none⟩ = some (.int .i64 a.xhi) := (blk_cell HA3.out 6).trans rfl
  have x7 : w3.cell? ⟨ga, 7, none⟩ = some (.int .i64 a.ylo) := (blk_cell HA3.out 7).trans rfl
  have x8 : w3.cell? ⟨ga, 8, none⟩ = some (.int .i64 a.yhi) := (blk_cell HA3.out 8).trans rfl
  have x9 : w3.cell? ⟨ga, 9, none⟩ = some (.int .i64 a.pri) := (blk_cell HA3.out 9).trans rfl
  have x10 : w3.cell? ⟨ga, 10, none⟩ = some (.bool a.wd) := (blk_cell HA3.out 10).trans rfl
  have x11 : w3.cell? ⟨ga, 11, none⟩ = some (.slice Aa a.text.length ca) := (blk_cell HA3.out 11).trans rfl
  have y0 : w3.cell? ⟨gb, 0, none⟩ = some (.int .i64 b.st) := (blk_cell HB3.out 0).trans rfl
  have y1 : w3.cell? ⟨gb, 1, none⟩ = some (.int .i64 b.ki) := (blk_cell HB3.out 1).trans rfl
  have y2 : w3.cell? ⟨gb, 2, none⟩ = some (.int .i64 b.nu) := (blk_cell HB3.out 2).trans rfl
  have y3 : w3.cell? ⟨gb, 3, none⟩ = some (.int .i64 b.iss) := (blk_cell HB3.out 3).trans rfl
  have y4 : w3.cell? ⟨gb, 4, none⟩ = some (.int .i64 b.unt) := (blk_cell HB3.out 4).trans rfl
  have y5 : w3.cell? ⟨gb, 5, none⟩ = some (.int .i64 b.xlo) := (blk_cell HB3.out 5).trans rfl
  have y6 : w3.cell? ⟨gb, 6, none⟩ = some (.int .i64 b.xhi) := (blk_cell HB3.out 6).trans rfl
  have y7 : w3.cell? ⟨gb, 7, none⟩ = some (.int .i64 b.ylo) := (blk_cell HB3.out 7).trans rfl
  have y8 : w3.cell? ⟨gb, 8, none⟩ = some (.int .i64 b.yhi) := (blk_cell HB3.out 8).trans rfl
  have y9 : w3.cell? ⟨gb, 9, none⟩ = some (.int .i64 b.pri) := (blk_cell HB3.out 9).trans rfl
  have y10 : w3.cell? ⟨gb, 10, none⟩ = some (.bool b.wd) := (blk_cell HB3.out 10).trans rfl
  have y11 : w3.cell? ⟨gb, 11, none⟩ = some (.slice Ab b.text.length cb) := (blk_cell HB3.out 11).trans rfl
  cases bt with
  | false =>
    go_wp2_with fail
    go_ret
    exact ⟨by rw [HS false (by simp [])]; rfl, hB3⟩
  | true =>
  cases bn with
  | false =>
    go_wp2_with fail
    go_ret
    exact ⟨by rw [HS false (by simp [])]; rfl, hB3⟩
  | true =>
  by_cases n1 : a.iss = b.iss
  case neg =>
    have k_ : (a.iss == b.iss) = false := beqI' _ _ n1
    go_wp2_with fail
    go_ret
    exact ⟨by rw [HS false (by simp [n1])]; rfl, hB3⟩
  have kn1 : (a.iss == b.iss) = true := beqI _ _ n1
  by_cases n2 : a.unt = b.unt
  case neg =>
    have k_ : (a.unt == b.unt) = false := beqI' _ _ n2
    go_wp2_with fail
    go_ret
    exact ⟨by rw [HS false (by simp [n2])]; rfl, hB3⟩
  have kn2 : (a.unt == b.unt) = true := beqI _ _ n2
  cases bb with
  | false =>
    go_wp2_with fail
    go_ret
    exact ⟨by rw [HS false (by simp [n1, n2])]; rfl, hB3⟩
  | true =>
  by_cases n3 : a.pri = b.pri
  case neg =>
    have k_ : (a.pri == b.pri) = false := beqI' _ _ n3
    go_wp2_with fail
    go_ret
    exact ⟨by rw [HS false (by simp [n1, n2, n3])]; rfl, hB3⟩
  have k3 : (a.pri == b.pri) = true := beqI _ _ n3
  obtain ⟨bw, hbw⟩ : ∃ bw, bw = (a.wd == b.wd) := ⟨_, rfl⟩
  have HBW := Aside0.mk hbw
  clear hbw
  go_wp2_with fail
  go_ret
  exact ⟨by rw [HS (a.wd == b.wd) (by simp [n1, n2, n3])]; rfl, hB3⟩
set_option maxHeartbeats 8000000 in
set_option maxRecDepth 100000 in
theorem rsame_calls (a b : Wn) (Aa : Option Addr) (ca : Nat) (Ab : Option Addr) (cb : Nat) (w : World) (hra : Kd.C (Kd.int .u8) w Aa a.text.length a.text) (hca : a.text.length ≤ ca) (hrb : Kd.C (Kd.int .u8) w Ab b.text.length b.text) (hcb : b.text.length ≤ cb) (hl : a.text.length ≤ 1000000000) :
    Calls Try.prog 16 #[vWn a (.slice Aa a.text.length ca), vWn b (.slice Ab b.text.length cb)] w fun e w' => e = .returned (.bool (decide (a = b))) ∧ Below w.heap.size w w' := by
  have hu30 := Try.underlying30
  have hu23 := Try.underlying23
  have hu25 := Try.underlying25
  have hu27 := Try.underlying27
  have heqn : ∀ wx, (Op.equalIn 10000 23 (.agg #[.int .i64 a.st, .int .i64 a.ki, .int .i64 a.nu]) (.agg #[.int .i64 b.st, .int .i64 b.ki, .int .i64 b.nu])).run Try.prog wx = .ok (a.st == b.st && (a.ki == b.ki && (a.nu == b.nu))) wx := fun wx => eqName 9998 wx _ _ _ _ _ _
  have heqb : ∀ wx, (Op.equalIn 10000 27 (.agg #[.int .i64 a.xlo, .int .i64 a.xhi, .int .i64 a.ylo, .int .i64 a.yhi]) (.agg #[.int .i64 b.xlo, .int .i64 b.xhi, .int .i64 b.ylo, .int .i64 b.yhi])).run Try.prog wx = .ok ((a.xlo == b.xlo && (a.xhi == b.xhi)) && ((a.ylo == b.ylo && (a.yhi == b.yhi)))) wx := fun wx => eqBox 9997 wx _ _ _ _ _ _ _ _
  have hgn : Try.prog.eqGuardType Try.prog.depth 23 = false := by kernel_rfl
  have hgb : Try.prog.eqGuardType Try.prog.depth 27 = false := by kernel_rfl
  have hcall := fun W (hB : Below w.heap.size w W) => seamarkref08_Bytes.calls (a.text.length + 1) Aa ca a.text Ab cb b.text _ W (Kd.C_below hra hB) hca (Kd.C_below hrb hB) hcb (bytes_f a.text b.text hl)
  obtain ⟨bt, hbt⟩ : ∃ bt, bt = decide (a.text = b.text) := ⟨_, rfl⟩
  rw [← hbt] at hcall
  have HBT := Aside0.mk hbt
  obtain ⟨bn, hbn⟩ : ∃ bn, bn = (a.st == b.st && (a.ki == b.ki && (a.nu == b.nu))) := ⟨_, rfl⟩
  rw [← hbn] at heqn
  have HBN := Aside0.mk hbn
  obtain ⟨bb, hbb⟩ : ∃ bb, bb = ((a.xlo == b.xlo && (a.xhi == b.xhi)) && ((a.ylo == b.ylo && (a.yhi == b.yhi)))) := ⟨_, rfl⟩
  rw [← hbb] at heqb
  have HBB := Aside0.mk hbb
  have HS : ∀ x : Bool, ((bt && (bn && (decide (a.iss = b.iss) && (decide (a.unt = b.unt) && (bb && (decide (a.pri = b.pri) && (a.wd == b.wd)))))))) = x → decide (a = b) = x := by
    rintro x rfl
    rw [HBT.out, HBN.out, HBB.out, Bool.eq_iff_iff]
    cases a; cases b
    simp only [decide_eq_true_eq, Bool.and_eq_true, beq_iff_eq, Wn.mk.injEq]
    constructor
    · rintro ⟨h0, h1, h2, h3, h4, h5, h6, h7, h8, h9, h10, h11⟩
      exact ⟨h11, ⟨h0, h1, h2⟩, h3, h4, ⟨⟨h5, h6⟩, h7, h8⟩, h9, h10⟩
    · rintro ⟨h11, ⟨h0, h1, h2⟩, h3, h4, ⟨⟨h5, h6⟩, h7, h8⟩, h9, h10⟩
      exact ⟨h0, h1, h2, h3, h4, h5, h6, h7, h8, h9, h10, h11⟩
  clear hbt hbn hbb hra hca hrb hcb hl
  simp only [vWn]
  go_enter Try.func16, Try.ntmps16
  go_wp2_with (first | ((with_reducible refine gate_dst (N := 2) rfl ?_); (try (refine gate_guard (by rfl) ?_; dsimp only)); refine box_event ?hg (N := 2) ?hd (cs := #[.int .i64 a.st, .int .i64 a.ki, .int .i64 a.nu, .int .i64 a.iss, .int .i64 a.unt, .int .i64 a.xlo, .int .i64 a.xhi, .int .i64 a.ylo, .int .i64 a.yhi, .int .i64 a.pri, .bool a.wd, .slice Aa a.text.length ca]) (t := 30) ?hr ?_; (case hd => rfl); (case hg => rfl); (case hr => first | (go_simp; done) | (go_simp; rfl)); intro ga hg w1 hbox hbga; have x11 : w1.cell? ⟨ga, 11, none⟩ = some (.slice Aa a.text.length ca) := (blk_cell hbox 11).trans rfl; have HBga := Aside0.mk hbox; clear hbox hg) | ((with_reducible refine gate_dst (N := 3) rfl ?_); (try (refine gate_guard (by rfl) ?_; dsimp only)); refine box_event ?hg (N := 3) ?hd (cs := #[.int .i64 b.st, .int .i64 b.ki, .int .i64 b.nu, .int .i64 b.iss, .int .i64 b.unt, .int .i64 b.xlo, .int .i64 b.xhi, .int .i64 b.ylo, .int .i64 b.yhi, .int .i64 b.pri, .bool b.wd, .slice Ab b.text.length cb]) (t := 30) ?hr ?_; (case hd => rfl); (case hg => rfl); (case hr => first | (go_simp; done) | (go_simp; rfl)); intro gb hg w2 hbox hbgb; have hsz2 : ga < w1.heap.size := blk_lt HBga.out; have hblk := Aside0.mk ((hbgb.block _ hsz2).trans HBga.out); have x11b : w2.cell? ⟨ga, 11, none⟩ = some (.slice Aa a.text.length ca) := (blk_cell hblk.out 11).trans rfl; have y11 : w2.cell? ⟨gb, 11, none⟩ = some (.slice Ab b.text.length cb) := (blk_cell hbox 11).trans rfl; clear x11; have hB2 : Below w.heap.size w w2 := hbga.trans (hbgb.mono hbga.size); have HBgb := Aside0.mk hbox; clear hbox hg))
  (with_reducible refine (hcall _ hB2).mono ?_)
  clear hcall
  rintro e w3 ⟨rfl, hd⟩
  replace hd := hd.below
  have HA3 := Aside0.mk ((hd.block _ (blk_lt hblk.out)).trans hblk.out)
  have HB3 := Aside0.mk ((hd.block _ (blk_lt HBgb.out)).trans HBgb.out)
  have hB3 : Below w.heap.size w w3 := hB2.trans (hd.mono hB2.size)
  clear x11b y11 hd
  have x0 : w3.cell? ⟨ga, 0, none⟩ = some (.int .i64 a.st) := (blk_cell HA3.out 0).trans rfl
  have x1 : w3.cell? ⟨ga, 1, none⟩ = some (.int .i64 a.ki) := (blk_cell HA3.out 1).trans rfl
  have x2 : w3.cell? ⟨ga, 2, none⟩ = some (.int .i64 a.nu) := (blk_cell HA3.out 2).trans rfl
  have x3 : w3.cell? ⟨ga, 3, none⟩ = some (.int .i64 a.iss) := (blk_cell HA3.out 3).trans rfl
  have x4 : w3.cell? ⟨ga, 4, none⟩ = some (.int .i64 a.unt) := (blk_cell HA3.out 4).trans rfl
  have x5 : w3.cell? ⟨ga, 5, none⟩ = some (.int .i64 a.xlo) := (blk_cell HA3.out 5).trans rfl
  have x6 : w3.cell? ⟨ga, 6, none⟩ = some (.int .i64 a.xhi) := (blk_cell HA3.out 6).trans rfl
  have x7 : w3.cell? ⟨ga, 7, none⟩ = some (.int .i64 a.ylo) := (blk_cell HA3.out 7).trans rfl
  have x8 : w3.cell? ⟨ga, 8, none⟩ = some (.int .i64 a.yhi) := (blk_cell HA3.out 8).trans rfl
  have x9 : w3.cell? ⟨ga, 9, none⟩ = some (.int .i64 a.pri) := (blk_cell HA3.out 9).trans rfl
  have x10 : w3.cell? ⟨ga, 10, none⟩ = some (.bool a.wd) := (blk_cell HA3.out 10).trans rfl
  have x11 : w3.cell? ⟨ga, 11, none⟩ = some (.slice Aa a.text.length ca) := (blk_cell HA3.out 11).trans rfl
  have y0 : w3.cell? ⟨gb, 0, none⟩ = some (.int .i64 b.st) := (blk_cell HB3.out 0).trans rfl
  have y1 : w3.cell? ⟨gb, 1, none⟩ = some (.int .i64 b.ki) := (blk_cell HB3.out 1).trans rfl
  have y2 : w3.cell? ⟨gb, 2, none⟩ = some (.int .i64 b.nu) := (blk_cell HB3.out 2).trans rfl
  have y3 : w3.cell? ⟨gb, 3, none⟩ = some (.int .i64 b.iss) := (blk_cell HB3.out 3).trans rfl
  have y4 : w3.cell? ⟨gb, 4, none⟩ = some (.int .i64 b.unt) := (blk_cell HB3.out 4).trans rfl
  have y5 : w3.cell? ⟨gb, 5, none⟩ = some (.int .i64 b.xlo) := (blk_cell HB3.out 5).trans rfl
  have y6 : w3.cell? ⟨gb, 6, none⟩ = some (.int .i64 b.xhi) := (blk_cell HB3.out 6).trans rfl
  have y7 : w3.cell? ⟨gb, 7, none⟩ = some (.int .i64 b.ylo) := (blk_cell HB3.out 7).trans rfl
  have y8 : w3.cell? ⟨gb, 8, none⟩ = some (.int .i64 b.yhi) := (blk_cell HB3.out 8).trans rfl
  have y9 : w3.cell? ⟨gb, 9, none⟩ = some (.int .i64 b.pri) := (blk_cell HB3.out 9).trans rfl
  have y10 : w3.cell? ⟨gb, 10, none⟩ = some (.bool b.wd) := (blk_cell HB3.out 10).trans rfl
  have y11 : w3.cell? ⟨gb, 11, none⟩ = some (.slice Ab b.text.length cb) := (blk_cell HB3.out 11).trans rfl
  cases bt with
  | false =>
    go_wp2_with fail
    go_ret
    exact ⟨by rw [HS false (by simp [])]; rfl, hB3⟩
  | true =>
  cases bn with
  | false =>
    go_wp2_with fail
    go_ret
    exact ⟨by rw [HS false (by simp [])]; rfl, hB3⟩
  | true =>
  by_cases n1 : a.iss = b.iss
  case neg =>
    have k_ : (a.iss == b.iss) = false := beqI' _ _ n1
    go_wp2_with fail
    go_ret
    exact ⟨by rw [HS false (by simp [n1])]; rfl, hB3⟩
  have kn1 : (a.iss == b.iss) = true := beqI _ _ n1
  by_cases n2 : a.unt = b.unt
  case neg =>
    have k_ : (a.unt == b.unt) = false := beqI' _ _ n2
    go_wp2_with fail
    go_ret
    exact ⟨by rw [HS false (by simp [n2])]; rfl, hB3⟩
  have kn2 : (a.unt == b.unt) = true := beqI _ _ n2
  cases bb with
  | false =>
    go_wp2_with fail
    go_ret
    exact ⟨by rw [HS false (by simp [n1, n2])]; rfl, hB3⟩
  | true =>
  by_cases n3 : a.pri = b.pri
  case neg =>
    have k_ : (a.pri == b.pri) = false := beqI' _ _ n3
    go_wp2_with fail
    go_ret
    exact ⟨by rw [HS false (by simp [n1, n2, n3])]; rfl, hB3⟩
  have k3 : (a.pri == b.pri) = true := beqI _ _ n3
  obtain ⟨bw, hbw⟩ : ∃ bw, bw = (a.wd == b.wd) := ⟨_, rfl⟩
  have HBW := Aside0.mk hbw
  clear hbw
  go_wp2_with fail
  go_ret
  exact ⟨by rw [HS (a.wd == b.wd) (by simp [n1, n2, n3])]; rfl, hB3⟩
set_option maxHeartbeats 8000000 in
set_option maxRecDepth 100000 in
theorem tog_calls (p q : S49) (Ap : Option Addr) (cp : Nat) (Aq : Option Addr) (cq : Nat) (w : World) :
    Calls Try.prog 26 #[.agg #[.int .i64 p.f0.f0, .int .i64 p.f0.f1, .int .i64 p.f0.f2, .int .i64 p.f1, .int .i64 p.f2, .int .i64 p.f3, .int .i64 p.f4, .slice Ap p.f5.length cp], .agg #[.int .i64 q.f0.f0, .int .i64 q.f0.f1, .int .i64 q.f0.f2, .int .i64 q.f1, .int .i64 q.f2, .int .i64 q.f3, .int .i64 q.f4, .slice Aq q.f5.length cq]] w fun e w' => e = .returned (.bool (wholeEq p q)) ∧ Below w.heap.size w w' := by
  have hu49 := Try.underlying49
  have hu23 := Try.underlying23
  have heqn : ∀ wx, (Op.equalIn 10000 23 (.agg #[.int .i64 p.f0.f0, .int .i64 p.f0.f1, .int .i64 p.f0.f2]) (.agg #[.int .i64 q.f0.f0, .int .i64 q.f0.f1, .int .i64 q.f0.f2])).run Try.prog wx = .ok (p.f0.f0 == q.f0.f0 && (p.f0.f1 == q.f0.f1 && (p.f0.f2 == q.f0.f2))) wx := fun wx => eqName 9998 wx _ _ _ _ _ _
  have hgn : Try.prog.eqGuardType Try.prog.depth 23 = false := by kernel_rfl
  obtain ⟨bn, hbn⟩ : ∃ bn, bn = (p.f0.f0 == q.f0.f0 && (p.f0.f1 == q.f0.f1 && (p.f0.f2 == q.f0.f2))) := ⟨_, rfl⟩
  rw [← hbn] at heqn
  have HBN := Aside0.mk hbn
  have HS : ∀ x : Bool, (bn && (decide (p.f2 = q.f2) && (decide (p.f3 = q.f3) && (p.f4 == q.f4)))) = x → wholeEq p q = x := by
    rintro x rfl
    rw [HBN.out, wholeEq, Bool.eq_iff_iff]
    simp only [decide_eq_true_eq, Bool.and_eq_true, beq_iff_eq]
  clear hbn
  go_enter Try.func26, Try.ntmps26
  go_wp2_with (first | ((with_reducible refine gate_dst (N := 2) rfl ?_); (try (refine gate_guard (by rfl) ?_; dsimp only)); refine box_event ?hg (N := 2) ?hd (cs := #[.int .i64 p.f0.f0, .int .i64 p.f0.f1, .int .i64 p.f0.f2, .int .i64 p.f1, .int .i64 p.f2, .int .i64 p.f3, .int .i64 p.f4, .slice Ap p.f5.length cp]) (t := 49) ?hr ?_; (case hd => rfl); (case hg => rfl); (case hr => first | (go_simp; done) | (go_simp; rfl)); intro ga hg w1 hbox hbga; have x0_ : w1.cell? ⟨ga, 0, none⟩ = some (.int .i64 p.f0.f0) := (blk_cell hbox 0).trans rfl; have HBga := Aside0.mk hbox; clear hbox hg) | ((with_reducible refine gate_dst (N := 3) rfl ?_); (try (refine gate_guard (by rfl) ?_; dsimp only)); refine box_event ?hg (N := 3) ?hd (cs := #[.int .i64 q.f0.f0, .int .i64 q.f0.f1, .int .i64 q.f0.f2, .int .i64 q.f1, .int .i64 q.f2, .int .i64 q.f3, .int .i64 q.f4, .slice Aq q.f5.length cq]) (t := 49) ?hr ?_; (case hd => rfl); (case hg => rfl); (case hr => first | (go_simp; done) | (go_simp; rfl)); intro gb hg w2 hbox hbgb; have hsz2 : ga < w1.heap.size := blk_lt HBga.out; have hblk := Aside0.mk ((hbgb.block _ hsz2).trans HBga.out); have x0 : w2.cell? ⟨ga, 0, none⟩ = some (.int .i64 p.f0.f0) := (blk_cell hblk.out 0).trans rfl; have y0 : w2.cell? ⟨gb, 0, none⟩ = some (.int .i64 q.f0.f0) := (blk_cell hbox 0).trans rfl; have x1 : w2.cell? ⟨ga, 1, none⟩ = some (.int .i64 p.f0.f1) := (blk_cell hblk.out 1).trans rfl; have y1 : w2.cell? ⟨gb, 1, none⟩ = some (.int .i64 q.f0.f1) := (blk_cell hbox 1).trans rfl; have x2 : w2.cell? ⟨ga, 2, none⟩ = some (.int .i64 p.f0.f2) := (blk_cell hblk.out 2).trans rfl; have y2 : w2.cell? ⟨gb, 2, none⟩ = some (.int .i64 q.f0.f2) := (blk_cell hbox 2).trans rfl; have x4 : w2.cell? ⟨ga, 4, none⟩ = some (.int .i64 p.f2) := (blk_cell hblk.out 4).trans rfl; have y4 : w2.cell? ⟨gb, 4, none⟩ = some (.int .i64 q.f2) := (blk_cell hbox 4).trans rfl; have x5 : w2.cell? ⟨ga, 5, none⟩ = some (.int .i64 p.f3) := (blk_cell hblk.out 5).trans rfl; have y5 : w2.cell? ⟨gb, 5, none⟩ = some (.int .i64 q.f3) := (blk_cell hbox 5).trans rfl; have x6 : w2.cell? ⟨ga, 6, none⟩ = some (.int .i64 p.f4) := (blk_cell hblk.out 6).trans rfl; have y6 : w2.cell? ⟨gb, 6, none⟩ = some (.int .i64 q.f4) := (blk_cell hbox 6).trans rfl; clear x0_; have hB2 : Below w.heap.size w w2 := hbga.trans (hbgb.mono hbga.size); have HBgb := Aside0.mk hbox; clear hbox hg))
  all_goals go_ret
  all_goals first | exact ⟨by rw [HS (p.f4 == q.f4) (by simp_all)]; rfl, hB2⟩ | exact ⟨by rw [HS false (by simp_all)]; rfl, hB2⟩ | exact ⟨by rw [HS true (by simp_all)]; rfl, hB2⟩
def eqPiece (p q : S49) : Bool := decide (p.f5 = q.f5) && (wholeEq p q && (p.f1 == q.f1))
set_option maxHeartbeats 8000000 in
set_option maxRecDepth 100000 in
theorem requal_calls (p q : S49) (Ap : Option Addr) (cp : Nat) (Aq : Option Addr) (cq : Nat) (w : World) (hrp : Kd.C (Kd.int .u8) w Ap p.f5.length p.f5) (hcp : p.f5.length ≤ cp) (hrq : Kd.C (Kd.int .u8) w Aq q.f5.length q.f5) (hcq : q.f5.length ≤ cq) (hl : p.f5.length ≤ 1000000000) :
    Calls Try.prog 24 #[.agg #[.int .i64 p.f0.f0, .int .i64 p.f0.f1, .int .i64 p.f0.f2, .int .i64 p.f1, .int .i64 p.f2, .int .i64 p.f3, .int .i64 p.f4, .slice Ap p.f5.length cp], .agg #[.int .i64 q.f0.f0, .int .i64 q.f0.f1, .int .i64 q.f0.f2, .int .i64 q.f1, .int .i64 q.f2, .int .i64 q.f3, .int .i64 q.f4, .slice Aq q.f5.length cq]] w fun e w' => e = .returned (.bool (eqPiece p q)) ∧ Below w.heap.size w w' := by
  have hu49 := Try.underlying49
  have hu23 := Try.underlying23
  have hcall := fun W (hB : Below w.heap.size w W) => seamarkref08_Bytes.calls (p.f5.length + 1) Ap cp p.f5 Aq cq q.f5 _ W (Kd.C_below hrp hB) hcp (Kd.C_below hrq hB) hcq (bytes_f p.f5 q.f5 hl)
  have htog := fun W => tog_calls p q Ap cp Aq cq W
  obtain ⟨bt, hbt⟩ : ∃ bt, bt = decide (p.f5 = q.f5) := ⟨_, rfl⟩
  rw [← hbt] at hcall
  obtain ⟨bg, hbg⟩ : ∃ bg, bg = wholeEq p q := ⟨_, rfl⟩
  rw [← hbg] at htog
  have HS : ∀ x : Bool, (bt && (bg && (p.f1 == q.f1))) = x → eqPiece p q = x := by
    rintro x rfl
    rw [hbt, hbg, eqPiece]
  clear hbt hbg hrp hcp hrq hcq hl
  go_enter Try.func24, Try.ntmps24
  go_wp2_with (first | ((with_reducible refine gate_dst (N := 2) rfl ?_); (try (refine gate_guard (by rfl) ?_; dsimp only)); refine box_event ?hg (N := 2) ?hd (cs := #[.int .i64 p.f0.f0, .int .i64 p.f0.f1, .int .i64 p.f0.f2, .int .i64 p.f1, .int .i64 p.f2, .int .i64 p.f3, .int .i64 p.f4, .slice Ap p.f5.length cp]) (t := 49) ?hr ?_; (case hd => rfl); (case hg => rfl); (case hr => first | (go_simp; done) | (go_simp; rfl)); intro ga hg w1 hbox hbga; have x0_ : w1.cell? ⟨ga, 0, none⟩ = some (.int .i64 p.f0.f0) := (blk_cell hbox 0).trans rfl; have HBga := Aside0.mk hbox; clear hbox hg) | ((with_reducible refine gate_dst (N := 3) rfl ?_); (try (refine gate_guard (by rfl) ?_; dsimp only)); refine box_event ?hg (N := 3) ?hd (cs := #[.int .i64 q.f0.f0, .int .i64 q.f0.f1, .int .i64 q.f0.f2, .int .i64 q.f1, .int .i64 q.f2, .int .i64 q.f3, .int .i64 q.f4, .slice Aq q.f5.length cq]) (t := 49) ?hr ?_; (case hd => rfl); (case hg => rfl); (case hr => first | (go_simp; done) | (go_simp; rfl)); intro gb hg w2 hbox hbgb; have hsz2 : ga < w1.heap.size := blk_lt HBga.out; have hblk := Aside0.mk ((hbgb.block _ hsz2).trans HBga.out); have x7 : w2.cell? ⟨ga, 7, none⟩ = some (.slice Ap p.f5.length cp) := (blk_cell hblk.out 7).trans rfl; have y7 : w2.cell? ⟨gb, 7, none⟩ = some (.slice Aq q.f5.length cq) := (blk_cell hbox 7).trans rfl; clear x0_; have hB2 : Below w.heap.size w w2 := hbga.trans (hbgb.mono hbga.size); have HBgb := Aside0.mk hbox; clear hbox hg))
  (with_reducible refine (hcall _ hB2).mono ?_)
  clear hcall
  rintro e w3 ⟨rfl, hd⟩
  replace hd := hd.below
  have HA3 := Aside0.mk ((hd.block _ (blk_lt hblk.out)).trans hblk.out)
  have HB3 := Aside0.mk ((hd.block _ (blk_lt HBgb.out)).trans HBgb.out)
  have hB3 : Below w.heap.size w w3 := hB2.trans (hd.mono hB2.size)
  clear x7 y7 hd
  have x0 : w3.cell? ⟨ga, 0, none⟩ = some (.int .i64 p.f0.f0) := (blk_cell HA3.out 0).trans rfl
  have x1 : w3.cell? ⟨ga, 1, none⟩ = some (.int .i64 p.f0.f1) := (blk_cell HA3.out 1).trans rfl
  have x2 : w3.cell? ⟨ga, 2, none⟩ = some (.int .i64 p.f0.f2) := (blk_cell HA3.out 2).trans rfl
  have x3 : w3.cell? ⟨ga, 3, none⟩ = some (.int .i64 p.f1) := (blk_cell HA3.out 3).trans rfl
  have x4 : w3.cell? ⟨ga, 4, none⟩ = some (.int .i64 p.f2) := (blk_cell HA3.out 4).trans rfl
  have x5 : w3.cell? ⟨ga, 5, none⟩ = some (.int .i64 p.f3) := (blk_cell HA3.out 5).trans rfl
  have x6 : w3.cell? ⟨ga, 6, none⟩ = some (.int .i64 p.f4) := (blk_cell HA3.out 6).trans rfl
  have x7 : w3.cell? ⟨ga, 7, none⟩ = some (.slice Ap p.f5.length cp) := (blk_cell HA3.out 7).trans rfl
  have y0 : w3.cell? ⟨gb, 0, none⟩ = some (.int .i64 q.f0.f0) := (blk_cell HB3.out 0).trans rfl
  have y1 : w3.cell? ⟨gb, 1, none⟩ = some (.int .i64 q.f0.f1) := (blk_cell HB3.out 1).trans rfl
  have y2 : w3.cell? ⟨gb, 2, none⟩ = some (.int .i64 q.f0.f2) := (blk_cell HB3.out 2).trans rfl
  have y3 : w3.cell? ⟨gb, 3, none⟩ = some (.int .i64 q.f1) := (blk_cell HB3.out 3).trans rfl
  have y4 : w3.cell? ⟨gb, 4, none⟩ = some (.int .i64 q.f2) := (blk_cell HB3.out 4).trans rfl
  have y5 : w3.cell? ⟨gb, 5, none⟩ = some (.int .i64 q.f3) := (blk_cell HB3.out 5).trans rfl
  have y6 : w3.cell? ⟨gb, 6, none⟩ = some (.int .i64 q.f4) := (blk_cell HB3.out 6).trans rfl
  have y7 : w3.cell? ⟨gb, 7, none⟩ = some (.slice Aq q.f5.length cq) := (blk_cell HB3.out 7).trans rfl
  go_wp2_with fail
  (with_reducible refine (htog _).mono ?_)
  clear htog
  rintro e w4 ⟨rfl, hd⟩
  have hB4 : Below w.heap.size w w4 := hB3.trans (hd.mono hB3.size)
  replace x3 := (hd.cell (p := ⟨ga, 3, none⟩) (blk_lt HA3.out)).trans x3
  replace y3 := (hd.cell (p := ⟨gb, 3, none⟩) (blk_lt HB3.out)).trans y3
  clear x0 x1 x2 x4 x5 x6 x7 y0 y1 y2 y4 y5 y6 y7 hd
  cases bt with
  | false =>
    go_wp2_with fail
    go_ret
    exact ⟨by rw [HS false (by simp [])]; rfl, hB4⟩
  | true =>
  cases bg with
  | false =>
    go_wp2_with fail
    go_ret
    exact ⟨by rw [HS false (by simp [])]; rfl, hB4⟩
  | true =>
  go_wp2_with fail
  go_ret
  exact ⟨by rw [HS (p.f1 == q.f1) (by simp)]; rfl, hB4⟩
end Go.Proofs.YthiealhmcfdakaaH
end
section
set_option linter.unusedVariables false
set_option linter.unusedSimpArgs false
namespace Go.Proofs.YthiealhmcfdakaaM
open Go Go.RowKit Go.Proofs.YthiealhmcfdakaaH Go.Proofs.Ythiealhmcfdakaa.E Go.Proofs.YthiealhmcfdakaaW.PrintWords
def digs (n : Nat) : List Int := if 127 < n then ((n % 128 + 128 : Nat) : Int) :: digs (n / 128) else [(n : Int)]
termination_by n
decreasing_by omega
theorem digs_small {n : Nat} (h : n ≤ 127) : digs n = [(n : Int)] := by rw [digs, if_neg (by omega)]
theorem digs_big {n : Nat} (h : 127 < n) : digs n = ((n % 128 + 128 : Nat) : Int) :: digs (n / 128) := by rw [digs, if_pos h]
theorem digs_pos (n : Nat) : 0 < (digs n).length := by
  rw [digs]; split <;> simp
theorem digs_le : ∀ (k n : Nat), n < 128 ^ (k + 1) → (digs n).length ≤ k + 1
  | 0, n, h => by rw [digs_small (by omega)]; simp
  | k + 1, n, h => by
    by_cases hn : 127 < n
    · rw [digs_big hn]
      have : n / 128 < 128 ^ (k + 1) := by rw [Nat.div_lt_iff_lt_mul (by decide), ← Nat.pow_succ]; exact h
      have := digs_le k (n / 128) this
      simp; omega
    · rw [digs_small (by omega)]; simp
theorem digs_le10 {n : Nat} (h : n < 2 ^ 64) : (digs n).length ≤ 10 := digs_le 9 n (by omega)
theorem digs_bytes (n : Nat) : ∀ x ∈ digs n, 0 ≤ x ∧ x ≤ 255 := by
  induction n using Nat.strongRecOn with
  | ind n ih =>
    intro x hx
    by_cases hn : 127 < n
    · rw [digs_big hn] at hx
      rcases List.mem_cons.1 hx with rfl | hx
      · omega
      · exact ih _ (by omega) x hx
    · rw [digs_small (by omega)] at hx
      simp at hx; omega
def zig (x : Int) : Nat := if 0 ≤ x then (2 * x).toNat else (-2 * x - 1).toNat
theorem zig_lt {x : Int} (h0 : -9223372036854775808 ≤ x) (h1 : x ≤ 9223372036854775807) : zig x < 2 ^ 64 := by
  unfold zig; split <;> omega
theorem i64_bounds {x : Int} (h : (Lit.int .i64 x).wf = true) : -9223372036854775808 ≤ x ∧ x ≤ 9223372036854775807 := by
  simp only [Lit.wf, IntKind.min, IntKind.max, IntKind.signed, IntKind.bits, Bool.and_eq_true, decide_eq_true_eq, if_true] at h
  omega
theorem u8_bounds {x : Int} (h : (Lit.int .u8 x).wf = true) : 0 ≤ x ∧ x ≤ 255 := by
  simp [Lit.wf, IntKind.min, IntKind.max, IntKind.signed, IntKind.bits] at h
  omega
theorem u16_bounds {x : Int} (h : (Lit.int .u16 x).wf = true) : 0 ≤ x ∧ x ≤ 65535 := by
  simp [Lit.wf, IntKind.min, IntKind.max, IntKind.signed, IntKind.bits] at h
  omega
theorem u64_bounds {x : Int} (h : (Lit.int .u64 x).wf = true) : 0 ≤ x ∧ x ≤ 18446744073709551615 := by
  simp [Lit.wf, IntKind.min, IntKind.max, IntKind.signed, IntKind.bits] at h
  omega
theorem xor_ones (y : Nat) (h : y < 18446744073709551616) : y ^^^ 18446744073709551615 = 18446744073709551615 - y := by
  have h1 := BitVec.toNat_not (x := BitVec.ofNat 64 y)
  have h2 : ~~~ BitVec.ofNat 64 y = BitVec.ofNat 64 y ^^^ BitVec.allOnes 64 := (BitVec.xor_allOnes).symm
  rw [h2, BitVec.toNat_xor, BitVec.toNat_allOnes, BitVec.toNat_ofNat, Nat.mod_eq_of_lt (by omega)] at h1
  simpa using h1
theorem zig_bits {x : Int} (h0 : -9223372036854775808 ≤ x) (h1 : x ≤ 9223372036854775807) :
    Go.bits .xor .u64 (IntKind.u64.wrap ((IntKind.u64.wrap x) * 2)) (IntKind.u64.wrap (x / 9223372036854775808)) = (zig x : Int) := by
  unfold zig
  split
  · next h =>
    have e1 : IntKind.u64.wrap (IntKind.u64.wrap x * 2) = (((2 * x).toNat : Nat) : Int) := by rw [IntKind.wrap_u64, IntKind.wrap_u64]; omega
    have e2 : IntKind.u64.wrap (x / 9223372036854775808) = ((0 : Nat) : Int) := by rw [IntKind.wrap_u64]; omega
    rw [e1, e2, bits_xor_u64_nat _ _ (by omega) (by omega), Nat.xor_zero]
  · next h =>
    have e1 : IntKind.u64.wrap (IntKind.u64.wrap x * 2) = (((2 * x + 18446744073709551616).toNat : Nat) : Int) := by rw [IntKind.wrap_u64, IntKind.wrap_u64]; omega
    have e2 : IntKind.u64.wrap (x / 9223372036854775808) = ((18446744073709551615 : Nat) : Int) := by rw [IntKind.wrap_u64]; omega
    rw [e1, e2, bits_xor_u64_nat _ _ (by omega) (by omega), xor_ones _ (by omega)]
    omega
set_option maxRecDepth 20000 in
theorem or128 (m : Nat) (h : m < 256) : m ||| 128 = m % 128 + 128 := by
  have : ∀ m : Fin 256, m.val ||| 128 = m.val % 128 + 128 := by decide
  exact this ⟨m, h⟩
theorem or128_bits (n : Nat) : Go.bits .or .u8 ((n : Int) % 256) 128 = ((n % 128 + 128 : Nat) : Int) := by
  have h := (bits_nat .u8 8 (by decide) wraps_u8 (n % 256) 128 (by omega) (by decide)).2
  have e : ((n % 256 : Nat) : Int) = (n : Int) % 256 := by omega
  have e2 : ((128 : Nat) : Int) = 128 := rfl
  rw [e, e2] at h
  rw [h, or128 _ (by omega)]
  congr 1
  omega
def enc (l : List Int) : List Int := l.flatMap fun x => digs (zig x)
theorem enc_nil : enc [] = [] := rfl
theorem enc_cons (x : Int) (l : List Int) : enc (x :: l) = digs (zig x) ++ enc l := by simp [enc]
theorem enc_append (a b : List Int) : enc (a ++ b) = enc a ++ enc b := by simp [enc]
def I64 (l : List Int) : Prop := ∀ x ∈ l, -9223372036854775808 ≤ x ∧ x ≤ 9223372036854775807
theorem I64.of {l : List Int} (h : ∀ x ∈ l, (Lit.int .i64 x).wf = true) : I64 l := fun x hx => i64_bounds (h x hx)
def U8 (l : List Int) : Prop := ∀ x ∈ l, 0 ≤ x ∧ x ≤ 255
theorem U8.of {l : List Int} (h : ∀ x ∈ l, (Lit.int .u8 x).wf = true) : U8 l := fun x hx => u8_bounds (h x hx)
theorem enc_len {l : List Int} (h : I64 l) : (enc l).length ≤ 10 * l.length := by
  induction l with
  | nil => simp [enc]
  | cons x l ih =>
    rw [enc_cons, List.length_append]
    have h1 := ih (fun y hy => h y (List.mem_cons_of_mem _ hy))
    have hx := h x (List.mem_cons_self ..)
    have h2 := digs_le10 (zig_lt hx.1 hx.2)
    simp; omega
theorem enc_U8 (l : List Int) : U8 (enc l) := by
  intro x hx
  obtain ⟨y, _, hy⟩ := List.mem_flatMap.1 hx
  exact digs_bytes _ x hy
theorem put_l1 (xs : List Int) (L i : Int) (k : Nat) : ∀ (n : Nat) (acc : List Int), acc.length + (digs n).length ≤ 140737488355328 →
    codec_Put.l1 (k + (digs n).length) acc (n : Int) xs L i = codec_Put.l0 k (acc ++ digs n) xs L (wrap64 (i + 1)) := by
  intro n
  induction n using Nat.strongRecOn with
  | ind n ih =>
    intro acc hl
    by_cases hn : 127 < n
    · rw [digs_big hn] at hl ⊢
      rw [List.length_cons] at hl
      rw [List.length_cons, show k + ((digs (n / 128)).length + 1) = (k + (digs (n / 128)).length) + 1 from rfl, codec_Put.l1, if_pos (by omega), if_pos (by omega), or128_bits]
      have e : (n : Int) / 128 = ((n / 128 : Nat) : Int) := by omega
      rw [e, ih (n / 128) (by omega) _ (by rw [List.length_append]; simp; omega)]
      simp
    · rw [digs_small (by omega)] at hl ⊢
      simp only [List.length_cons, List.length_nil, Nat.zero_add] at hl ⊢
      rw [codec_Put.l1, if_neg (by omega), if_pos (by omega)]
      have e : (n : Int) % 256 = n := by omega
      rw [e]
theorem rd_mid (a : List Int) (x : Int) (b : List Int) : rd (a ++ x :: b) (a.length : Int) = x := by
  unfold rd; rw [Int.toNat_natCast]; simp
theorem put_l0 (k : Nat) : ∀ (b a acc : List Int), I64 b → (a ++ b).length < 9223372036854775807 → acc.length + (enc b).length ≤ 140737488355328 →
    codec_Put.l0 (k + (b.length + (enc b).length) + 1) acc (a ++ b) ((a ++ b).length : Int) (a.length : Int) = some (acc ++ enc b)
  | [], a, acc, _, _, _ => by
    rw [codec_Put.l0, if_neg (by simp)]
    simp [enc]
  | x :: b, a, acc, hi, hs, hl => by
    have hx := hi x (List.mem_cons_self ..)
    rw [enc_cons, List.length_append] at hl
    rw [codec_Put.l0, if_pos (by simp; omega), if_pos (by omega), if_pos (by simp; omega), rd_mid, zig_bits hx.1 hx.2, enc_cons, List.length_append]
    have e : k + ((x :: b).length + ((digs (zig x)).length + (enc b).length)) = (k + (b.length + (enc b).length) + 1) + (digs (zig x)).length := by simp; omega
    rw [e, put_l1 _ _ _ _ _ _ (by omega)]
    have e2 : wrap64 ((a.length : Int) + 1) = ((a ++ [x]).length : Int) := by
      rw [List.length_append] at hs
      unfold wrap64; rw [List.length_append]; simp at hs ⊢; omega
    have e3 : a ++ x :: b = (a ++ [x]) ++ b := by simp
    have := put_l0 k b (a ++ [x]) (acc ++ digs (zig x)) (fun y hy => hi y (List.mem_cons_of_mem _ hy)) (by rw [← e3]; exact hs) (by rw [List.length_append]; omega)
    rw [e2, e3, this]
    simp
theorem put_f {l : List Int} (h : I64 l) (hl : l.length ≤ 1000000000) {k : Nat} (hk : 11 * l.length + 1 ≤ k) : codec_Put.f k l = some (enc l) := by
  have he := enc_len h
  have := put_l0 (k - (l.length + (enc l).length) - 1) l [] [] h (by simp; omega) (by simp; omega)
  rw [show k - (l.length + (enc l).length) - 1 + (l.length + (enc l).length) + 1 = k by omega] at this
  simpa [codec_Put.f] using this
end Go.Proofs.YthiealhmcfdakaaM
end
section
set_option linter.unusedVariables false
set_option linter.unusedSimpArgs false
namespace Go.Proofs.YthiealhmcfdakaaH
open Go Go.RowKit Go.ChangeShapes Go.WideShapes Go.ChangeAt Go.Proofs.YthiealhmcfdakaaW.PrintWords Go.Proofs.Ythiealhmcfdakaa.E Go.Proofs.YthiealhmcfdakaaM
section
variable {H : Type} {enc : TypeId × Value → H} {W : World} {base : Nat} {held : Bool} {fuel : Nat}
def IsRowU (w : World) (a : Option Addr) (len cap : Nat) (zs : List Int) : Prop :=
  (a = none ∧ len = 0 ∧ cap = 0 ∧ zs = []) ∨
  ∃ x, a = some x ∧ len ≤ cap ∧ cap ≤ maxLen ∧ zs.length = cap ∧ (∀ i, i < zs.length → w.cell? (x.add i) = some (.int .u8 (zs.getD i 0))) ∧ ∀ n ∈ zs, (Lit.int .u8 n).wf = true
theorem open_u8s {cs : List Value} {x : DataW H × List MemPlace} (h : DataW.trod enc Try.prog W base (fun _ => true) held fuel 28 cs = some x) :
    ∃ A c, ∃ l : List Int, cs = [.slice A l.length c] ∧ l.length ≤ c ∧ (Kd.int .u8).C W A l.length l ∧ U8 l := by
  obtain ⟨a0, len0, cap0, rfl, w0⟩ : ∃ a0 len0 cap0, cs = [.slice a0 len0 cap0] ∧ ∃ zs, IsRowU W a0 len0 cap0 zs := by
    rcases open_ints Try.underlying28 Try.underlying5 (by kernel_rfl) h with ⟨hcs, _⟩ | ⟨x, l, c, zs, hcs, _, hl, hm, hz, _, hcell, hwz⟩
    · exact ⟨none, 0, 0, hcs, [], .inl ⟨rfl, rfl, rfl, rfl⟩⟩
    · exact ⟨_, _, _, hcs, zs, .inr ⟨_, rfl, hl, hm, by simpa using hz, hcell, hwz⟩⟩
  obtain ⟨z0, w0⟩ := w0
  obtain ⟨l0, rfl, hr0, hm0, hw0, hc0⟩ := ReadsInt.ofRowC w0
  exact ⟨a0, cap0, l0, rfl, hc0, Kd.C_of_reads (d := (0 : Int)) (h1 := fun _ => rfl) hr0, U8.of hw0⟩
theorem open_i64 {cs : List Value} {x : DataW H × List MemPlace} (h : DataW.trod enc Try.prog W base (fun _ => true) held fuel 3 cs = some x) : ∃ a : Int, cs = [.int .i64 a] ∧ (Lit.int .i64 a).wf = true := by
  obtain ⟨n, hn, _, hw⟩ := DataW.trod_int Try.underlying3 h
  exact ⟨n, hn, hw⟩
theorem open_bool' {cs : List Value} {x : DataW H × List MemPlace} (h : DataW.trod enc Try.prog W base (fun _ => true) held fuel 4 cs = some x) : ∃ a : Bool, cs = [.bool a] := by
  obtain ⟨n, hn, _⟩ := DataW.trod_bool Try.underlying4 h
  exact ⟨n, hn⟩
set_option maxRecDepth 100000 in
theorem open_name {cs : List Value} {x : DataW H × List MemPlace} (h : DataW.trod enc Try.prog W base (fun _ => true) held fuel 23 cs = some x) :
    ∃ n : S23, cs = [.int .i64 n.f0, .int .i64 n.f1, .int .i64 n.f2] := by
  obtain ⟨xs, n, _, _, hl, hlen, hf⟩ := DataW.trod_struct Try.underlying23 h
  have h3 : Try.prog.cellsOf 23 = 3 := by kernel_rfl
  have h1 : Try.prog.cellsOf 3 = 1 := by kernel_rfl
  rw [h3] at hl
  match cs, hl, xs, hlen with
  | [a, b, c], _, [x0, x1, x2], _ =>
    have f0 : DataW.trod enc Try.prog W base (fun _ => true) held n 3 [a] = some x0 := by
      have h : DataW.trod enc Try.prog W base (fun _ => true) held n 3 (([a, b, c].drop 0).take (Try.prog.cellsOf 3)) = [x0, x1, x2][0]? := hf 0 _ rfl
      rw [h1] at h
      exact h
    have f1 : DataW.trod enc Try.prog W base (fun _ => true) held n 3 [b] = some x1 := by
      have h : DataW.trod enc Try.prog W base (fun _ => true) held n 3 (([a, b, c].drop 1).take (Try.prog.cellsOf 3)) = [x0, x1, x2][1]? := hf 1 _ rfl
      rw [h1] at h
      exact h
    have f2 : DataW.trod enc Try.prog W base (fun _ => true) held n 3 [c] = some x2 := by
      have h : DataW.trod enc Try.prog W base (fun _ => true) held n 3 (([a, b, c].drop 2).take (Try.prog.cellsOf 3)) = [x0, x1, x2][2]? := hf 2 _ rfl
      rw [h1] at h
      exact h
    obtain ⟨a0, e0, _⟩ := open_i64 f0
    obtain ⟨a1, e1, _⟩ := open_i64 f1
    obtain ⟨a2, e2, _⟩ := open_i64 f2
    simp at e0 e1 e2
    subst e0 e1 e2
    exact ⟨⟨a0, a1, a2⟩, rfl⟩
set_option maxRecDepth 100000 in
theorem open_span {cs : List Value} {x : DataW H × List MemPlace} (h : DataW.trod enc Try.prog W base (fun _ => true) held fuel 25 cs = some x) :
    ∃ a b : Int, cs = [.int .i64 a, .int .i64 b] := by
  obtain ⟨xs, n, _, _, hl, hlen, hf⟩ := DataW.trod_struct Try.underlying25 h
  have h3 : Try.prog.cellsOf 25 = 2 := by kernel_rfl
  have h1 : Try.prog.cellsOf 3 = 1 := by kernel_rfl
  rw [h3] at hl
  match cs, hl, xs, hlen with
  | [a, b], _, [x0, x1], _ =>
    have f0 : DataW.trod enc Try.prog W base (fun _ => true) held n 3 [a] = some x0 := by
      have h : DataW.trod enc Try.prog W base (fun _ => true) held n 3 (([a, b].drop 0).take (Try.prog.cellsOf 3)) = [x0, x1][0]? := hf 0 _ rfl
      rw [h1] at h
      exact h
    have f1 : DataW.trod enc Try.prog W base (fun _ => true) held n 3 [b] = some x1 := by
      have h : DataW.trod enc Try.prog W base (fun _ => true) held n 3 (([a, b].drop 1).take (Try.prog.cellsOf 3)) = [x0, x1][1]? := hf 1 _ rfl
      rw [h1] at h
      exact h
    obtain ⟨a0, e0, _⟩ := open_i64 f0
    obtain ⟨a1, e1, _⟩ := open_i64 f1
    simp at e0 e1
    subst e0 e1
    exact ⟨a0, a1, rfl⟩
set_option maxRecDepth 100000 in
theorem open_box {cs : List Value} {x : DataW H × List MemPlace} (h : DataW.trod enc Try.prog W base (fun _ => true) held fuel 27 cs = some x) :
    ∃ a b c d : Int, cs = [.int .i64 a, .int .i64 b, .int .i64 c, .int .i64 d] := by
  obtain ⟨xs, n, _, _, hl, hlen, hf⟩ := DataW.trod_struct Try.underlying27 h
  have h3 : Try.prog.cellsOf 27 = 4 := by kernel_rfl
  have h1 : Try.prog.cellsOf 25 = 2 := by kernel_rfl
  rw [h3] at hl
  match cs, hl, xs, hlen with
  | [a, b, c, d], _, [x0, x1], _ =>
    have f0 : DataW.trod enc Try.prog W base (fun _ => true) held n 25 [a, b] = some x0 := by
      have h : DataW.trod enc Try.prog W base (fun _ => true) held n 25 (([a, b, c, d].drop 0).take (Try.prog.cellsOf 25)) = [x0, x1][0]? := hf 0 _ rfl
      rw [h1] at h
      exact h
    have f1 : DataW.trod enc Try.prog W base (fun _ => true) held n 25 [c, d] = some x1 := by
      have h : DataW.trod enc Try.prog W base (fun _ => true) held n 25 (([a, b, c, d].drop 2).take (Try.prog.cellsOf 25)) = [x0, x1][1]? := hf 1 _ rfl
      rw [h1] at h
      exact h
    obtain ⟨a0, b0, e0⟩ := open_span f0
    obtain ⟨a1, b1, e1⟩ := open_span f1
    simp at e0 e1
    obtain ⟨rfl, rfl⟩ := e0
    obtain ⟨rfl, rfl⟩ := e1
    exact ⟨a0, b0, a1, b1, rfl⟩
set_option maxRecDepth 100000 in
theorem open_piece {cs : List Value} {x : DataW H × List MemPlace} (h : DataW.trod enc Try.prog W base (fun _ => true) held fuel 49 cs = some x) :
    ∃ (p : S49) (A : Option Addr) (c : Nat), cs = [.int .i64 p.f0.f0, .int .i64 p.f0.f1, .int .i64 p.f0.f2, .int .i64 p.f1, .int .i64 p.f2, .int .i64 p.f3, .int .i64 p.f4, .slice A p.f5.length c] ∧ p.f5.length ≤ c ∧ (Kd.int .u8).C W A p.f5.length p.f5 ∧ U8 p.f5 := by
  obtain ⟨xs, n, _, _, hl, hlen, hf⟩ := DataW.trod_struct Try.underlying49 h
  have h8 : Try.prog.cellsOf 49 = 8 := by kernel_rfl
  have h3 : Try.prog.cellsOf 23 = 3 := by kernel_rfl
  have h1 : Try.prog.cellsOf 3 = 1 := by kernel_rfl
  have hs : Try.prog.cellsOf 28 = 1 := by kernel_rfl
  rw [h8] at hl
  match cs, hl, xs, hlen with
  | [a, b, c, d, e, f, g, i], _, [x0, x1, x2, x3, x4, x5], _ =>
    have f0 : DataW.trod enc Try.prog W base (fun _ => true) held n 23 [a, b, c] = some x0 := by
      have h : DataW.trod enc Try.prog W base (fun _ => true) held n 23 (([a, b, c, d, e, f, g, i].drop 0).take (Try.prog.cellsOf 23)) = [x0, x1, x2, x3, x4, x5][0]? := hf 0 _ rfl
      rw [h3] at h
      exact h
    have f1 : DataW.trod enc Try.prog W base (fun _ => true) held n 3 [d] = some x1 := by
      have h : DataW.trod enc Try.prog W base (fun _ => true) held n 3 (([a, b, c, d, e, f, g, i].drop 3).take (Try.prog.cellsOf 3)) = [x0, x1, x2, x3, x4, x5][1]? := hf 1 _ rfl
      rw [h1] at h
      exact h
    have f2 : DataW.trod enc Try.prog W base (fun _ => true) held n 3 [e] = some x2 := by
      have h : DataW.trod enc Try.prog W base (fun _ => true) held n 3 (([a, b, c, d, e, f, g, i].drop 4).take (Try.prog.cellsOf 3)) = [x0, x1, x2, x3, x4, x5][2]? := hf 2 _ rfl
      rw [h1] at h
      exact h
    have f3 : DataW.trod enc Try.prog W base (fun _ => true) held n 3 [f] = some x3 := by
      have h : DataW.trod enc Try.prog W base (fun _ => true) held n 3 (([a, b, c, d, e, f, g, i].drop 5).take (Try.prog.cellsOf 3)) = [x0, x1, x2, x3, x4, x5][3]? := hf 3 _ rfl
      rw [h1] at h
      exact h
    have f4 : DataW.trod enc Try.prog W base (fun _ => true) held n 3 [g] = some x4 := by
      have h : DataW.trod enc Try.prog W base (fun _ => true) held n 3 (([a, b, c, d, e, f, g, i].drop 6).take (Try.prog.cellsOf 3)) = [x0, x1, x2, x3, x4, x5][4]? := hf 4 _ rfl
      rw [h1] at h
      exact h
    have f5 : DataW.trod enc Try.prog W base (fun _ => true) held n 28 [i] = some x5 := by
      have h : DataW.trod enc Try.prog W base (fun _ => true) held n 28 (([a, b, c, d, e, f, g, i].drop 7).take (Try.prog.cellsOf 28)) = [x0, x1, x2, x3, x4, x5][5]? := hf 5 _ rfl
      rw [hs] at h
      exact h
    obtain ⟨n0, e0⟩ := open_name f0
    obtain ⟨a1, e1, _⟩ := open_i64 f1
    obtain ⟨a2, e2, _⟩ := open_i64 f2
    obtain ⟨a3, e3, _⟩ := open_i64 f3
    obtain ⟨a4, e4, _⟩ := open_i64 f4
    obtain ⟨A, c', l, e5, hc, hC, hU⟩ := open_u8s f5
    simp at e0 e1 e2 e3 e4 e5
    obtain ⟨rfl, rfl, rfl⟩ := e0
    subst e1 e2 e3 e4 e5
    exact ⟨⟨n0, a1, a2, a3, a4, l⟩, A, c', rfl, hc, hC, hU⟩
set_option maxRecDepth 100000 in
theorem open_warn {cs : List Value} {x : DataW H × List MemPlace} (h : DataW.trod enc Try.prog W base (fun _ => true) held fuel 30 cs = some x) :
    ∃ (p : Wn) (A : Option Addr) (c : Nat), cs = [.int .i64 p.st, .int .i64 p.ki, .int .i64 p.nu, .int .i64 p.iss, .int .i64 p.unt, .int .i64 p.xlo, .int .i64 p.xhi, .int .i64 p.ylo, .int .i64 p.yhi, .int .i64 p.pri, .bool p.wd, .slice A p.text.length c] ∧ p.text.length ≤ c ∧ (Kd.int .u8).C W A p.text.length p.text ∧ U8 p.text := by
  obtain ⟨xs, n, _, _, hl, hlen, hf⟩ := DataW.trod_struct Try.underlying30 h
  have h8 : Try.prog.cellsOf 30 = 12 := by kernel_rfl
  have h3 : Try.prog.cellsOf 23 = 3 := by kernel_rfl
  have h4 : Try.prog.cellsOf 27 = 4 := by kernel_rfl
  have h1 : Try.prog.cellsOf 3 = 1 := by kernel_rfl
  have hb : Try.prog.cellsOf 4 = 1 := by kernel_rfl
  have hs : Try.prog.cellsOf 28 = 1 := by kernel_rfl
  rw [h8] at hl
  match cs, hl, xs, hlen with
  | [c0, c1, c2, c3, c4, c5, c6, c7, c8, c9, c10, c11], _, [x0, x1, x2, x3, x4, x5, x6], _ =>
    have f0 : DataW.trod enc Try.prog W base (fun _ => true) held n 23 [c0, c1, c2] = some x0 := by
      have h : DataW.trod enc Try.prog W base (fun _ => true) held n 23 (([c0, c1, c2, c3, c4, c5, c6, c7, c8, c9, c10, c11].drop 0).take (Try.prog.cellsOf 23)) = [x0, x1, x2, x3, x4, x5, x6][0]? := hf 0 _ rfl
      rw [h3] at h
      exact h
    have f1 : DataW.trod enc Try.prog W base (fun _ => true) held n 3 [c3] = some x1 := by
      have h : DataW.trod enc Try.prog W base (fun _ => true) held n 3 (([c0, c1, c2, c3, c4, c5, c6, c7, c8, c9, c10, c11].drop 3).take (Try.prog.cellsOf 3)) = [x0, x1, x2, x3, x4, x5, x6][1]? := hf 1 _ rfl
      rw [h1] at h
      exact h
    have f2 : DataW.trod enc Try.prog W base (fun _ => true) held n 3 [c4] = some x2 := by
      have h : DataW.trod enc Try.prog W base (fun _ => true) held n 3 (([c0, c1, c2, c3, c4, c5, c6, c7, c8, c9, c10, c11].drop 4).take (Try.prog.cellsOf 3)) = [x0, x1, x2, x3, x4, x5, x6][2]? := hf 2 _ rfl
      rw [h1] at h
      exact h
    have f3 : DataW.trod enc Try.prog W base (fun _ => true) held n 27 [c5, c6, c7, c8] = some x3 := by
      have h : DataW.trod enc Try.prog W base (fun _ => true) held n 27 (([c0, c1, c2, c3, c4, c5, c6, c7, c8, c9, c10, c11].drop 5).take (Try.prog.cellsOf 27)) = [x0, x1, x2, x3, x4, x5, x6][3]? := hf 3 _ rfl
      rw [h4] at h
      exact h
    have f4 : DataW.trod enc Try.prog W base (fun _ => true) held n 3 [c9] = some x4 := by
      have h : DataW.trod enc Try.prog W base (fun _ => true) held n 3 (([c0, c1, c2, c3, c4, c5, c6, c7, c8, c9, c10, c11].drop 9).take (Try.prog.cellsOf 3)) = [x0, x1, x2, x3, x4, x5, x6][4]? := hf 4 _ rfl
      rw [h1] at h
      exact h
    have f5 : DataW.trod enc Try.prog W base (fun _ => true) held n 4 [c10] = some x5 := by
      have h : DataW.trod enc Try.prog W base (fun _ => true) held n 4 (([c0, c1, c2, c3, c4, c5, c6, c7, c8, c9, c10, c11].drop 10).take (Try.prog.cellsOf 4)) = [x0, x1, x2, x3, x4, x5, x6][5]? := hf 5 _ rfl
      rw [hb] at h
      exact h
    have f6 : DataW.trod enc Try.prog W base (fun _ => true) held n 28 [c11] = some x6 := by
      have h : DataW.trod enc Try.prog W base (fun _ => true) held n 28 (([c0, c1, c2, c3, c4, c5, c6, c7, c8, c9, c10, c11].drop 11).take (Try.prog.cellsOf 28)) = [x0, x1, x2, x3, x4, x5, x6][6]? := hf 6 _ rfl
      rw [hs] at h
      exact h
    obtain ⟨n0, e0⟩ := open_name f0
    obtain ⟨a1, e1, _⟩ := open_i64 f1
    obtain ⟨a2, e2, _⟩ := open_i64 f2
    obtain ⟨b0, b1, b2, b3, e3⟩ := open_box f3
    obtain ⟨a4, e4, _⟩ := open_i64 f4
    obtain ⟨a5, e5⟩ := open_bool' f5
    obtain ⟨A, c', l, e6, hc, hC, hU⟩ := open_u8s f6
    simp at e0 e1 e2 e3 e4 e5 e6
    obtain ⟨rfl, rfl, rfl⟩ := e0
    obtain ⟨rfl, rfl, rfl, rfl⟩ := e3
    subst e1 e2 e4 e5 e6
    exact ⟨⟨n0.f0, n0.f1, n0.f2, a1, a2, b0, b1, b2, b3, a4, a5, l⟩, A, c', rfl, hc, hC, hU⟩
end
end Go.Proofs.YthiealhmcfdakaaH
end
section
set_option linter.unusedVariables false
set_option linter.unusedSimpArgs false
namespace Go.Proofs.YthiealhmcfdakaaH
open Go Go.RowKit Go.Proofs.YthiealhmcfdakaaW.PrintWords Go.Proofs.YthiealhmcfdakaaW.PrintLast Go.Proofs.YthiealhmcfdakaaW.PrintMore Go.Proofs.Ythiealhmcfdakaa.E Go.Proofs.YthiealhmcfdakaaM
def smallW : Wn := ⟨5, 2, 7, 10, 100, 0, 60, -2, 5, 3, false, [97]⟩
def smallB : List Int := [10, 4, 14, 20, 200, 1, 0, 120, 3, 10, 6, 0, 194, 1]
def smallP (i : Int) (d : List Int) : S49 := ⟨⟨5, 2, 7⟩, i, 3, 14, 4030454094, d⟩
def smallL : List S49 := [smallP 0 [10, 4, 14, 20, 200], smallP 1 [1, 0, 120, 3, 10], smallP 2 [6, 0, 194, 1, 0], smallP 3 [13, 4, 180, 22, 194]]
def smallF : List Int := [0, 16, 5, 2, 7, 3, 3, 0, 14, 240, 59, 217, 78, 13, 4, 180, 22, 194, 160, 172, 202, 138]
theorem small_bytes : bytesF 30 smallW = some (smallB, 0) := by kernel_rfl
theorem small_cut : piece_Cut.f 400 smallW 3 4 = some (smallL, 0) := by kernel_rfl
theorem small_gather : piece_Gather.f 400 [smallP 1 [1, 0, 120, 3, 10], smallP 3 [13, 4, 180, 22, 194], smallP 1 [1, 0, 120, 3, 10], smallP 2 [6, 0, 194, 1, 0]] = some (smallW, 0) := by kernel_rfl
theorem small_few : piece_Gather.f 400 [smallP 1 [1, 0, 120, 3, 10], smallP 3 [13, 4, 180, 22, 194]] = some (zWn, 4) := by kernel_rfl
theorem small_from : piece_From.f [10, 4] = some (zWn, 7) := by kernel_rfl
theorem small_frame : piece_Frame.f 5 2 7 3 3 14 4030454094 [13, 4, 180, 22, 194] = some (smallF, 0) := by kernel_rfl
theorem small_read : piece_Read.f smallF = some (smallP 3 [13, 4, 180, 22, 194], 0) := by kernel_rfl
theorem C_row {k : IntKind} {e : Nat} {W : World} (xs : List Int) (fr : Nat × Nat) (h : xs.length ≤ 9223372036854775807) :
    Kd.C (Kd.int k) (W.alloc (.cells (nums k xs).toArray e fr)) (some ⟨W.heap.size, 0, none⟩) xs.length xs := by
  refine Kd.C_of_reads (d := (0 : Int)) (h1 := fun _ => rfl) ⟨rfl, h, fun hn => ⟨_, rfl, fun j hj => ?_⟩⟩
  have hadd : (⟨W.heap.size, 0, none⟩ : Addr).add j = ⟨W.heap.size, j, none⟩ := by unfold Addr.add; split <;> simp_all
  rw [hadd, cell_of_row _ _ _ _ _ fr (heap_alloc_new W _)]
  simp [nums, List.getElem?_eq_getElem hj, List.getD_eq_getElem?_getD]
set_option maxHeartbeats 8000000 in
set_option maxRecDepth 100000 in
theorem small_calls (w : World) :
    Calls Try.prog 28 #[] w fun e w' => ∃ A c, e = .returned (vWn smallW (.slice A 1 c)) ∧ 1 ≤ c ∧ Kd.C (Kd.int .u8) w' A 1 [97] ∧ Below w.heap.size w w' := by
  have hu30 := Try.underlying30
  have hu23 := Try.underlying23
  have hu25 := Try.underlying25
  have hu27 := Try.underlying27
  have hi30 : (Try.prog.info? 30).map (·.size) = some 12 := by kernel_rfl
  have kc := Joins.run_convert_bytes_const_at (P := Try.prog) (w.alloc (.cells #[.int .i64 0, .int .i64 0, .int .i64 0, .int .i64 0, .int .i64 0, .int .i64 0, .int .i64 0, .int .i64 0, .int .i64 0, .int .i64 0, .bool false, .slice none 0 0] 30)) 28 5 #[.int .u8 97] 1 1 (w.heap.size + 1) (by simp) Try.underlying28 Try.underlying5
  have hk : ((w.alloc (.cells #[.int .i64 0, .int .i64 0, .int .i64 0, .int .i64 0, .int .i64 0, .int .i64 0, .int .i64 0, .int .i64 0, .int .i64 0, .int .i64 0, .bool false, .slice none 0 0] 30)).alloc (.cells #[.int .u8 97] 5 (1, 2))).heap[w.heap.size]? = some (.cells #[.int .i64 0, .int .i64 0, .int .i64 0, .int .i64 0, .int .i64 0, .int .i64 0, .int .i64 0, .int .i64 0, .int .i64 0, .int .i64 0, .bool false, .slice none 0 0] 30 (0, 0)) :=
    (((Below.refl _ _).alloc (Nat.le_refl _) _ : Below (w.alloc (.cells #[.int .i64 0, .int .i64 0, .int .i64 0, .int .i64 0, .int .i64 0, .int .i64 0, .int .i64 0, .int .i64 0, .int .i64 0, .int .i64 0, .bool false, .slice none 0 0] 30)).heap.size (w.alloc (.cells #[.int .i64 0, .int .i64 0, .int .i64 0, .int .i64 0, .int .i64 0, .int .i64 0, .int .i64 0, .int .i64 0, .int .i64 0, .int .i64 0, .bool false, .slice none 0 0] 30)) ((w.alloc (.cells #[.int .i64 0, .int .i64 0, .int .i64 0, .int .i64 0, .int .i64 0, .int .i64 0, .int .i64 0, .int .i64 0, .int .i64 0, .int .i64 0, .bool false, .slice none 0 0] 30)).alloc (.cells #[.int .u8 97] 5 (1, 2)))).block _ (by simp)).trans (World.alloc_heap_new w _)
  have HK := Aside0.mk hk
  clear hk
  go_enter Try.func28, Try.ntmps28
  go_wp2_with (first | (refine wpList_store_row rfl 30 (.tmp 0) (.tmp 7) rfl w.heap.size rfl #[.int .i64 5, .int .i64 2, .int .i64 7, .int .i64 10, .int .i64 100, .int .i64 0, .int .i64 60, .int .i64 (-2), .int .i64 5, .int .i64 3, .bool false, .slice (some ⟨w.heap.size + 1, 0, none⟩) 1 1] rfl 30 #[.int .i64 0, .int .i64 0, .int .i64 0, .int .i64 0, .int .i64 0, .int .i64 0, .int .i64 0, .int .i64 0, .int .i64 0, .int .i64 0, .bool false, .slice none 0 0] HK.out rfl ?h1 hi30 ?_; (case h1 => simp [Value.oneCell'])))
  refine bodyPost_ret (results_cell_row rfl _ _ w.heap.size 30 #[.int .i64 5, .int .i64 2, .int .i64 7, .int .i64 10, .int .i64 100, .int .i64 0, .int .i64 60, .int .i64 (-2), .int .i64 5, .int .i64 3, .bool false, .slice (some ⟨w.heap.size + 1, 0, none⟩) 1 1] (0, 0) _ rfl (setRow_heap _ _ _ _ _ _ HK.out) hu30 rfl hi30) rfl ?_
  refine ⟨some ⟨w.heap.size + 1, 0, none⟩, 1, rfl, Nat.le_refl _, ?_, ?_⟩
  · refine Kd.C_of_reads (d := (0 : Int)) (h1 := fun _ => rfl) ⟨rfl, by decide, fun hn => ⟨_, rfl, fun j hj => ?_⟩⟩
    obtain rfl : j = 0 := by simp at hj; omega
    have hnew := World.alloc_heap_new (w.alloc (.cells #[.int .i64 0, .int .i64 0, .int .i64 0, .int .i64 0, .int .i64 0, .int .i64 0, .int .i64 0, .int .i64 0, .int .i64 0, .int .i64 0, .bool false, .slice none 0 0] 30)) (.cells #[.int .u8 97] 5 (1, 2))
    rw [World.size_alloc] at hnew
    exact (cell_of_row _ (w.heap.size + 1) 0 #[.int .u8 97] _ (1, 2) ((setRow_other _ _ _ _ (by omega)).trans hnew)).trans rfl
  · exact below_setRow (((Below.refl _ _).alloc (Nat.le_refl _) _).alloc (by simp) _) (Nat.le_refl _) _
end Go.Proofs.YthiealhmcfdakaaH
end
section
set_option linter.unusedVariables false
namespace Go.Proofs.YthiealhmcfdakaaH
open Go Go.RowKit Go.Proofs.YthiealhmcfdakaaW.PrintWords Go.Proofs.YthiealhmcfdakaaW.PrintLast
section
variable {P : Program} {ops : Array Oper} {Q : Exit → Act → World → Prop} {md : Region.Mode} {S : World → Prop} {ds : List Nat}
theorem pureS {i : Nat} {N : Option Tmp} {oi : Oper} {v : Value} {fuel : Nat} {l : Array Bool} {a : Act} {w : World} (hi : ops[i]? = some oi) (hN : oi.dst = N) (hc : (Region.noSelect ops && Region.free md ops l i && (Region.ready md ops l).contains i) = true)
    (hQ : ∀ c a w, Q (.panic c) (a.put oi.dst v) w → Q (.panic c) a w) (hy : Yields P ops oi v a) {a' : Act} (ha : a.put N v = a')
    (h : wpAnyLast P md ops Q S ds fuel (l.setIfInBounds i true) a' w) : wpAnyLast P md ops Q S ds (fuel + 1) l a w :=
  pure_ (l.setIfInBounds i true) hi hN (by simpa [anyB] using hc) hQ hy ha h
theorem takeS {i : Nat} {N : Option Tmp} {oi : Oper} {v : Value} {fuel : Nat} {l : Array Bool} {a : Act} {w : World} (hi : ops[i]? = some oi) (hN : oi.dst = N) (hc : (Region.noSelect ops && Region.free md ops l i && (Region.ready md ops l).contains i && Region.closedB md ops l && Region.lastB md ops l ds i) = true)
    (hQ : ∀ c a w, Q (.panic c) (a.put oi.dst v) w → Q (.panic c) a w) (hy : YieldsIf P ops S oi v a) (hS : S w) {a' : Act} (ha : a.put N v = a')
    (h : wpAnyLast P md ops Q S ds fuel (l.setIfInBounds i true) a' w) : wpAnyLast P md ops Q S ds (fuel + 1) l a w :=
  take_ (l.setIfInBounds i true) hi hN (by simpa [takeB] using hc) hQ hy hS ha h
theorem oneS {i : Nat} {N : Option Tmp} {oi : Oper} {fuel : Nat} {l : Array Bool} {a : Act} {w : World} (hi : ops[i]? = some oi) (hN : oi.dst = N) (hc : (Region.ready md ops l == [i]) = true) (hd : i ∉ ds)
    (h : ∀ K : Act → World → Prop, Shut (∀ a' w', S w' → (S w' → wpAnyLast P md ops Q S ds fuel (l.setIfInBounds i true) a' w') → K a' w') → if Region.wanted oi (yielded ops a.tmps) = true then Oper.wp P oi a w K Q else K (a.put N undef) w) :
    wpAnyLast P md ops Q S ds (fuel + 1) l a w :=
  one_ (l.setIfInBounds i true) hi hN (by simpa [readyB] using hc) hd h
theorem twoS {i j : Nat} {Ni Nj : Option Tmp} {oi oj : Oper} {fuel : Nat} {l : Array Bool} {a : Act} {w : World} (hi : ops[i]? = some oi) (hj : ops[j]? = some oj) (hNi : oi.dst = Ni) (hNj : oj.dst = Nj)
    (hc : (Region.ready md ops l == [i, j]) = true) (hdi : i ∉ ds) (hdj : j ∉ ds)
    (h1 : ∀ K : Act → World → Prop, Shut (∀ a' w', S w' → (S w' → wpAnyLast P md ops Q S ds fuel (l.setIfInBounds i true) a' w') → K a' w') → if Region.wanted oi (yielded ops a.tmps) = true then Oper.wp P oi a w K Q else K (a.put Ni undef) w)
    (h2 : ∀ K : Act → World → Prop, Shut (∀ a' w', S w' → (S w' → wpAnyLast P md ops Q S ds fuel (l.setIfInBounds j true) a' w') → K a' w') → if Region.wanted oj (yielded ops a.tmps) = true then Oper.wp P oj a w K Q else K (a.put Nj undef) w) :
    wpAnyLast P md ops Q S ds (fuel + 1) l a w :=
  two_ (l.setIfInBounds i true) (l.setIfInBounds j true) hi hj hNi hNj (by simpa using hc) hdi hdj h1 h2
theorem lastS {i : Nat} {N : Option Tmp} {oi : Oper} {fuel : Nat} {l : Array Bool} {a : Act} {w : World} (hi : ops[i]? = some oi) (hN : oi.dst = N) (hc : (Region.ready md ops l == [i]) = true) (hd : i ∈ ds)
    (h : ∀ K : Act → World → Prop, Shut (∀ a' w', wpAnyLast P md ops Q S ds fuel (l.setIfInBounds i true) a' w' → K a' w') → if Region.wanted oi (yielded ops a.tmps) = true then Oper.wp P oi a w K Q else K (a.put N undef) w) :
    wpAnyLast P md ops Q S ds (fuel + 1) l a w :=
  last_ (l.setIfInBounds i true) hi hN (by simpa [readyB] using hc) hd h
theorem relist_ {fuel : Nat} {l : Array Bool} {a a' : Act} {w : World} (l' : Array Bool) (hl : l = l') (ha : a = a') (h : wpAnyLast P md ops Q S ds fuel l' a' w) : wpAnyLast P md ops Q S ds fuel l a w := by
  subst hl
  subst ha
  exact h
end
end Go.Proofs.YthiealhmcfdakaaH
end
