-- Printed by this session's driver (xprint.py) over the kit's printer, out of the translation; some callees' contracts are proved by hand.
import Derived.Test.YtonhinepgkommaaQ0
import Derived.Test.YtonhinepgkommaaQ1
import Derived.Test.YtonhinepgkommaaQ4
import Derived.Test.YtonhinepgkommaaQ5
namespace Go.Proofs.Ytonhinepgkommaa.Q
open Go.RowKit Go.Proofs.YtonhinepgkommaaH Go.Proofs.YtonhinepgkommaaW.PrintWords Go.Proofs.YtonhinepgkommaaW.PrintLast Go.Proofs.YtonhinepgkommaaW.PrintMore
attribute [local go_sem] max2_int min2_int max_two min_two max_three min_three max_four min_four   -- for this text's walks alone
set_option linter.unusedVariables false
set_option linter.unusedSimpArgs false

/-! ### seamarkref08_Open: function 27 -/
def seamarkref08_Open.f (k : Nat) (l0 : List Int) : Option (List Int × Int × Int) := if (l0.length : Int) < 2 then (some (([] : List Int), 0, 8)) else (if 0 < (l0.length : Int) then (if 1 < (l0.length : Int) then (if (l0.length : Int) < (wrap64 ((wrap64 ((wrap64 (256 * (wrap64 (rd l0 0)))) + (wrap64 (rd l0 1)))) + 6)) then (some (([] : List Int), 0, 8)) else (if 0 ≤ (wrap64 ((wrap64 ((wrap64 (256 * (wrap64 (rd l0 0)))) + (wrap64 (rd l0 1)))) + 2)) then (if (wrap64 ((wrap64 ((wrap64 (256 * (wrap64 (rd l0 0)))) + (wrap64 (rd l0 1)))) + 2)) ≤ (l0.length : Int) then ((seamarkref08_Sum.f k (l0.take ((wrap64 ((wrap64 ((wrap64 (256 * (wrap64 (rd l0 0)))) + (wrap64 (rd l0 1)))) + 2)) : Int).toNat)).bind fun t361 => ((seamarkref08_Four.f t361).bind fun t362 => (if (wrap64 ((wrap64 ((wrap64 (256 * (wrap64 (rd l0 0)))) + (wrap64 (rd l0 1)))) + 2)) ≤ (wrap64 ((wrap64 ((wrap64 (256 * (wrap64 (rd l0 0)))) + (wrap64 (rd l0 1)))) + 6)) then (if (wrap64 ((wrap64 ((wrap64 (256 * (wrap64 (rd l0 0)))) + (wrap64 (rd l0 1)))) + 6)) ≤ (l0.length : Int) then ((seamarkref08_Bytes.f k t362 ((l0.take ((wrap64 ((wrap64 ((wrap64 (256 * (wrap64 (rd l0 0)))) + (wrap64 (rd l0 1)))) + 6)) : Int).toNat).drop ((wrap64 ((wrap64 ((wrap64 (256 * (wrap64 (rd l0 0)))) + (wrap64 (rd l0 1)))) + 2)) : Int).toNat)).bind fun t366 => (if t366 = true then ((some (([] : List Int) : List Int)).bind fun y367 => (if 2 ≤ (wrap64 ((wrap64 ((wrap64 (256 * (wrap64 (rd l0 0)))) + (wrap64 (rd l0 1)))) + 2)) then (if y367.length + ((l0.take ((wrap64 ((wrap64 ((wrap64 (256 * (wrap64 (rd l0 0)))) + (wrap64 (rd l0 1)))) + 2)) : Int).toNat).drop 2).length < 140737488355328 then (some ((y367 ++ ((l0.take ((wrap64 ((wrap64 ((wrap64 (256 * (wrap64 (rd l0 0)))) + (wrap64 (rd l0 1)))) + 2)) : Int).toNat).drop 2)), wrap64 ((wrap64 ((wrap64 (256 * (wrap64 (rd l0 0)))) + (wrap64 (rd l0 1)))) + 6), 0)) else (none)) else (none))) else (some (([] : List Int), 0, 9)))) else (none)) else (none)))) else (none)) else (none))) else (none)) else (none))
theorem seamarkref08_Open.mono : ∀ a0 k, LeO (seamarkref08_Open.f k a0) (seamarkref08_Open.f (k + 1) a0) := by
  intro a0 k
  unfold seamarkref08_Open.f
  repeat' first
      | (with_reducible exact seamarkref08_Bytes.mono _ _ _)
      | (with_reducible exact seamarkref08_Sum.mono _ _)
      | (with_reducible exact LeO.refl _)
      | (with_reducible exact LeO.none _)
      | (with_reducible refine LeO.ite ?_ ?_)
      | (with_reducible refine LeO.bind ?_ (fun _ => ?_))
      | exact seamarkref08_Bytes.mono _ _ _
      | exact seamarkref08_Sum.mono _ _
      | exact LeO.none _
      | refine LeO.ite ?_ ?_
      | refine LeO.bind ?_ (fun _ => ?_)
def seamarkref08_Open.T3 : Bool × List (List Nat × List Nat) := (true, [([], []), ([0], [0]), ([1], [1]), ([2], [2]), ([3], [3]), ([], []), ([5], [5]), ([6], [6]), ([7], [7]), ([4, 8], [4, 8]), ([9, 0, 1, 2, 3, 4, 5, 6, 7, 8, 9], [9])])
def seamarkref08_Open.B3 : List Nat := [0, 1, 3, 7, 15, 0, 32, 96, 224, 511, 1023]
theorem seamarkref08_Open.tab3 : rtab .any (opsOf Try.f27 3) = seamarkref08_Open.T3 := by kernel_rfl
theorem seamarkref08_Open.bits3 : waitsOk seamarkref08_Open.T3.2 seamarkref08_Open.B3 = true := by kernel_rfl
def seamarkref08_Open.T6 : Bool × List (List Nat × List Nat) := (true, [([], []), ([], []), ([1], [1]), ([0, 2], [0, 2]), ([3], [3]), ([4, 4], [4]), ([], []), ([], []), ([7], [7]), ([], []), ([9], [9]), ([6, 8, 10], [6, 8, 10]), ([5, 11, 5], [5, 11]), ([12, 12, 0, 1, 2, 3, 4, 5, 6, 7, 8, 9, 10, 11, 12], [12])])
def seamarkref08_Open.B6 : List Nat := [0, 0, 2, 7, 15, 31, 0, 0, 128, 0, 512, 1984, 4095, 8191]
theorem seamarkref08_Open.tab6 : rtab .any (opsOf Try.f27 6) = seamarkref08_Open.T6 := by kernel_rfl
theorem seamarkref08_Open.bits6 : waitsOk seamarkref08_Open.T6.2 seamarkref08_Open.B6 = true := by kernel_rfl
set_option maxHeartbeats 8000000 in
set_option maxRecDepth 100000 in
theorem seamarkref08_Open.calls (k : Nat) (A0 : Option Addr) (c0 : Nat) (l0 : List Int) (r1 : List Int) (r2 : Int) (r3 : Int) (w : World) (hr0 : Kd.C (Kd.int .u8) w A0 l0.length l0) (hc0 : l0.length ≤ c0) (h : seamarkref08_Open.f k l0 = some (r1, r2, r3)) :
    Calls Try.prog 27 #[.slice A0 l0.length c0] w fun e w' => ∃ v0_ : Value, e = .returned (.tuple #[v0_, .int .i64 r2, .int .i64 r3]) ∧ Kd.R (Kd.int .u8) 5 w' w.heap.size (fun _ => True) v0_ r1 ∧ Below w.heap.size w w' := by
  have HR0 := Aside0.mk hr0
  have HC0 := Aside0.mk hc0
  clear hr0 hc0
  have HB := Aside0.mk (Below.refl w.heap.size w)
  have H : (if (l0.length : Int) < 2 then (some (([] : List Int), 0, 8)) else (if 0 < (l0.length : Int) then (if 1 < (l0.length : Int) then (if (l0.length : Int) < (wrap64 ((wrap64 ((wrap64 (256 * (wrap64 (rd l0 0)))) + (wrap64 (rd l0 1)))) + 6)) then (some (([] : List Int), 0, 8)) else (if 0 ≤ (wrap64 ((wrap64 ((wrap64 (256 * (wrap64 (rd l0 0)))) + (wrap64 (rd l0 1)))) + 2)) then (if (wrap64 ((wrap64 ((wrap64 (256 * (wrap64 (rd l0 0)))) + (wrap64 (rd l0 1)))) + 2)) ≤ (l0.length : Int) then ((seamarkref08_Sum.f k (l0.take ((wrap64 ((wrap64 ((wrap64 (256 * (wrap64 (rd l0 0)))) + (wrap64 (rd l0 1)))) + 2)) : Int).toNat)).bind fun t361 => ((seamarkref08_Four.f t361).bind fun t362 => (if (wrap64 ((wrap64 ((wrap64 (256 * (wrap64 (rd l0 0)))) + (wrap64 (rd l0 1)))) + 2)) ≤ (wrap64 ((wrap64 ((wrap64 (256 * (wrap64 (rd l0 0)))) + (wrap64 (rd l0 1)))) + 6)) then (if (wrap64 ((wrap64 ((wrap64 (256 * (wrap64 (rd l0 0)))) + (wrap64 (rd l0 1)))) + 6)) ≤ (l0.length : Int) then ((seamarkref08_Bytes.f k t362 ((l0.take ((wrap64 ((wrap64 ((wrap64 (256 * (wrap64 (rd l0 0)))) + (wrap64 (rd l0 1)))) + 6)) : Int).toNat).drop ((wrap64 ((wrap64 ((wrap64 (256 * (wrap64 (rd l0 0)))) + (wrap64 (rd l0 1)))) + 2)) : Int).toNat)).bind fun t366 => (if t366 = true then ((some (([] : List Int) : List Int)).bind fun y367 => (if 2 ≤ (wrap64 ((wrap64 ((wrap64 (256 * (wrap64 (rd l0 0)))) + (wrap64 (rd l0 1)))) + 2)) then (if y367.length + ((l0.take ((wrap64 ((wrap64 ((wrap64 (256 * (wrap64 (rd l0 0)))) + (wrap64 (rd l0 1)))) + 2)) : Int).toNat).drop 2).length < 140737488355328 then (some ((y367 ++ ((l0.take ((wrap64 ((wrap64 ((wrap64 (256 * (wrap64 (rd l0 0)))) + (wrap64 (rd l0 1)))) + 2)) : Int).toNat).drop 2)), wrap64 ((wrap64 ((wrap64 (256 * (wrap64 (rd l0 0)))) + (wrap64 (rd l0 1)))) + 6), 0)) else (none)) else (none))) else (some (([] : List Int), 0, 9)))) else (none)) else (none)))) else (none)) else (none))) else (none)) else (none))) = some (r1, r2, r3) := h
  clear h
  by_cases c2 : (l0.length : Int) < 2
  · rw [if_pos c2] at H
    have c2b0 : decide ((l0.length : Int) < 2) = true := decide_eq_true c2
    have c2b1 : decide (l0.length < 2) = true := decide_eq_true (by omega)
    clear c2
    simp only [Option.some.injEq, Prod.mk.injEq] at H
    obtain ⟨rfl, rfl, rfl⟩ := H
    go_enter Try.func27, Try.ntmps27
    go_wp2
    go_ret3
    exact ⟨_, by first | rfl | (simp [errW_none, errW_some] <;> rfl) | (simp [*, errW_none, errW_some] <;> rfl), by first | exact Kd.R_nil _ _ _ _ _ | exact Kd.N_nil _ _ _ _ _ | exact Kd.V_nil _ _ _ _ _ | exact Kd.Q_nil _ _ _ _ _ | exact Kd.S_nil _ _ _ _ _, by repeat (first | (with_reducible first | exact HB.out | apply below_alloc | apply pw_below_drewN | apply below_drew1) | exact HB.out)⟩
  · rw [if_neg c2] at H
    have c2b0 : decide ((l0.length : Int) < 2) = false := decide_eq_false c2
    have c2b1 : decide (l0.length < 2) = false := decide_eq_false (by omega)
    clear c2
    by_cases c3 : 0 < (l0.length : Int)
    · rw [if_pos c3] at H
      have c3b0 : decide (0 < (l0.length : Int)) = true := decide_eq_true c3
      have c3b1 : decide (0 < l0.length) = true := decide_eq_true (by omega)
      clear c3
      by_cases c4 : 1 < (l0.length : Int)
      · rw [if_pos c4] at H
        have c4b0 : decide (1 < (l0.length : Int)) = true := decide_eq_true c4
        have c4b1 : decide (1 < l0.length) = true := decide_eq_true (by omega)
        clear c4
        by_cases c5 : (l0.length : Int) < (wrap64 ((wrap64 ((wrap64 (256 * (wrap64 (rd l0 0)))) + (wrap64 (rd l0 1)))) + 6))
        · rw [if_pos c5] at H
          have c5b0 : decide ((l0.length : Int) < (wrap64 ((wrap64 ((wrap64 (256 * (wrap64 (rd l0 0)))) + (wrap64 (rd l0 1)))) + 6))) = true := decide_eq_true c5
          clear c5
          simp only [Option.some.injEq, Prod.mk.injEq] at H
          obtain ⟨rfl, rfl, rfl⟩ := H
          go_enter Try.func27, Try.ntmps27
          try go_wp2
          have n0_ := Aside0.mk (below_drew1 HB.out)
          clear HB
          have HB := n0_
          clear n0_
          have p358 : 0 ≤ (0 : Int) := (by omega)
          have q358 : 0 < (l0.length : Int) := of_decide_eq_true (by first | (with_reducible assumption) | assumption)
          obtain ⟨ad358, e358, hx358_0⟩ := Kd.at_int HR0.out 0 p358 q358
          have hw358_0 := hx358_0
          (try rw [show ((0 : Int)).toNat = 0 from rfl] at hw358_0)
          (try rw [show 0 * 1 = 0 from rfl] at hw358_0)
          (try rw [Addr.add_zero'] at hw358_0)
          cases e358
          have qi358 : (0 < l0.length) = True := eq_true (by omega)
          (try rw [show ((0 : Int)).toNat = 0 from rfl] at hx358_0)
          (try rw [Addr.add_zero'] at hx358_0)
          replace hx358_0 := (HB.out.cell (World.block_lt_of_cell? w _ hx358_0)).trans hx358_0
          replace p358 := eq_true p358
          replace q358 := eq_true q358
          have p359 : 0 ≤ (1 : Int) := (by omega)
          have q359 : 1 < (l0.length : Int) := of_decide_eq_true (by first | (with_reducible assumption) | assumption)
          obtain ⟨ad359, e359, hx359_0⟩ := Kd.at_int HR0.out 1 p359 q359
          have hw359_0 := hx359_0
          (try rw [show ((1 : Int)).toNat = 1 from rfl] at hw359_0)
          (try rw [show 1 * 1 = 1 from rfl] at hw359_0)
          (try simp only [Nat.reduceMul, Nat.reduceEqDiff, Go.Addr.add, ↓reduceIte] at hw359_0)
          obtain rfl : ad358 = ad359 := (by injection e359)
          (try simp only [show (1 : Int).toNat = 1 from rfl, Nat.reduceMul, Nat.reduceEqDiff, Go.Addr.add, ↓reduceIte] at hx359_0)
          have qi359 : (1 < l0.length) = True := eq_true (by omega)
          (try rw [show ((1 : Int)).toNat = 1 from rfl] at hx359_0)
          replace hx359_0 := (HB.out.cell (World.block_lt_of_cell? w _ hx359_0)).trans hx359_0
          replace p359 := eq_true p359
          replace q359 := eq_true q359
          refine start_ (n := 11) (S := fun w' => w'.cell? ad358 = some (.int .u8 (rd l0 0)) ∧ w'.cell? ⟨ad358.block, ad358.off + 1, none⟩ = some (.int .u8 (rd l0 1))) (ds := []) #[false, false, false, false, false, false, false, false, false, false, false] (by kernel_rfl) rfl rfl ⟨((HB.out.cell (World.block_lt_of_cell? w _ hw358_0)).trans hw358_0), ((HB.out.cell (World.block_lt_of_cell? w _ hw359_0)).trans hw359_0)⟩ (fun hHeld => ?_); refine with_tabW seamarkref08_Open.tab3 seamarkref08_Open.bits3 (fun HT_ HW_ => ?_)
          generalize w.drew = w6 at HB hx358_0 hx359_0 hHeld ⊢
          refine pure_ (i := 0) (N := some 10) (v := ?_) (a' := ?_) #[true, false, false, false, false, false, false, false, false, false, false] rfl rfl (any_of HT_.out (by kernel_rfl)) (fun _ _ _ h => h) (Or.inl ⟨by rfl, ?_⟩) ?_ ?_
          rotate_left
          · intro w'
            go_simp
            with_reducible rfl
          rotate_left
          · simp only [Act.put, List.setIfInBounds_toArray, List.set_cons_zero, List.set_cons_succ, i64_w, i32_w]
            rfl
          refine pure_ (i := 1) (N := some 11) (v := ?_) (a' := ?_) #[true, true, false, false, false, false, false, false, false, false, false] rfl rfl (any_of HT_.out (by kernel_rfl)) (fun _ _ _ h => h) (Or.inl ⟨by rfl, ?_⟩) ?_ ?_
          rotate_left
          · intro w'
            go_simp
            with_reducible rfl
          rotate_left
          · simp only [Act.put, List.setIfInBounds_toArray, List.set_cons_zero, List.set_cons_succ, i64_w, i32_w]
            rfl
          refine pure_ (i := 5) (N := some 15) (v := ?_) (a' := ?_) #[true, true, false, false, false, true, false, false, false, false, false] rfl rfl (any_of HT_.out (by kernel_rfl)) (fun _ _ _ h => h) (Or.inl ⟨by rfl, ?_⟩) ?_ ?_
          rotate_left
          · intro w'
            go_simp
            with_reducible rfl
          rotate_left
          · simp only [Act.put, List.setIfInBounds_toArray, List.set_cons_zero, List.set_cons_succ, i64_w, i32_w]
            rfl
          refine pure_ (i := 6) (N := some 16) (v := ?_) (a' := ?_) #[true, true, false, false, false, true, true, false, false, false, false] rfl rfl (any_of HT_.out (by kernel_rfl)) (fun _ _ _ h => h) (Or.inl ⟨by rfl, ?_⟩) ?_ ?_
          rotate_left
          · intro w'
            go_simp
            with_reducible rfl
          rotate_left
          · simp only [Act.put, List.setIfInBounds_toArray, List.set_cons_zero, List.set_cons_succ, i64_w, i32_w]
            rfl
          refine take_ (i := 2) (N := some 12) (v := ?_) (a' := ?_) #[true, true, true, false, false, true, true, false, false, false, false] rfl rfl (take_ofW HT_.out HW_.out (by kernel_rfl)) (fun _ _ _ h => h) (Or.inl ⟨by rfl, ?_⟩) hHeld ?_ ?_
          rotate_left
          · rintro w' ⟨s0, s1⟩
            go_simp
            with_reducible rfl
          rotate_left
          · simp only [Act.put, List.setIfInBounds_toArray, List.set_cons_zero, List.set_cons_succ, i64_w, i32_w]
            rfl
          refine pure_ (i := 3) (N := some 13) (v := ?_) (a' := ?_) #[true, true, true, true, false, true, true, false, false, false, false] rfl rfl (any_of HT_.out (by kernel_rfl)) (fun _ _ _ h => h) (Or.inl ⟨by rfl, ?_⟩) ?_ ?_
          rotate_left
          · intro w'
            go_simp
            with_reducible rfl
          rotate_left
          · simp only [Act.put, List.setIfInBounds_toArray, List.set_cons_zero, List.set_cons_succ, i64_w, i32_w]
            rfl
          refine pure_ (i := 4) (N := some 14) (v := ?_) (a' := ?_) #[true, true, true, true, true, true, true, false, false, false, false] rfl rfl (any_of HT_.out (by kernel_rfl)) (fun _ _ _ h => h) (Or.inl ⟨by rfl, ?_⟩) ?_ ?_
          rotate_left
          · intro w'
            go_simp
            with_reducible rfl
          rotate_left
          · simp only [Act.put, List.setIfInBounds_toArray, List.set_cons_zero, List.set_cons_succ, i64_w, i32_w]
            rfl
          refine take_ (i := 7) (N := some 17) (v := ?_) (a' := ?_) #[true, true, true, true, true, true, true, true, false, false, false] rfl rfl (take_ofW HT_.out HW_.out (by kernel_rfl)) (fun _ _ _ h => h) (Or.inl ⟨by rfl, ?_⟩) hHeld ?_ ?_
          rotate_left
          · rintro w' ⟨s0, s1⟩
            go_simp
            with_reducible rfl
          rotate_left
          · simp only [Act.put, List.setIfInBounds_toArray, List.set_cons_zero, List.set_cons_succ, i64_w, i32_w]
            rfl
          refine pure_ (i := 8) (N := some 18) (v := ?_) (a' := ?_) #[true, true, true, true, true, true, true, true, true, false, false] rfl rfl (any_of HT_.out (by kernel_rfl)) (fun _ _ _ h => h) (Or.inl ⟨by rfl, ?_⟩) ?_ ?_
          rotate_left
          · intro w'
            go_simp
            with_reducible rfl
          rotate_left
          · simp only [Act.put, List.setIfInBounds_toArray, List.set_cons_zero, List.set_cons_succ, i64_w, i32_w]
            rfl
          refine pure_ (i := 9) (N := some 19) (v := ?_) (a' := ?_) #[true, true, true, true, true, true, true, true, true, true, false] rfl rfl (any_of HT_.out (by kernel_rfl)) (fun _ _ _ h => h) (Or.inl ⟨by rfl, ?_⟩) ?_ ?_
          rotate_left
          · intro w'
            go_simp
            with_reducible rfl
          rotate_left
          · simp only [Act.put, List.setIfInBounds_toArray, List.set_cons_zero, List.set_cons_succ, i64_w, i32_w]
            rfl
          refine pure_ (i := 10) (N := some 5) (v := ?_) (a' := ?_) #[true, true, true, true, true, true, true, true, true, true, true] rfl rfl (any_of HT_.out (by kernel_rfl)) (fun _ _ _ h => h) (Or.inl ⟨by rfl, ?_⟩) ?_ ?_
          rotate_left
          · intro w'
            go_simp
            with_reducible rfl
          rotate_left
          · simp only [Act.put, List.setIfInBounds_toArray, List.set_cons_zero, List.set_cons_succ, i64_w, i32_w]
            rfl
          refine done_ (done_of HT_.out (by kernel_rfl)) ?_
          try go_wp2
          go_ret3
          exact ⟨_, by first | rfl | (simp [errW_none, errW_some] <;> rfl) | (simp [*, errW_none, errW_some] <;> rfl), by first | exact Kd.R_nil _ _ _ _ _ | exact Kd.N_nil _ _ _ _ _ | exact Kd.V_nil _ _ _ _ _ | exact Kd.Q_nil _ _ _ _ _ | exact Kd.S_nil _ _ _ _ _, by repeat (first | (with_reducible first | exact HB.out | apply below_alloc | apply pw_below_drewN | apply below_drew1) | exact HB.out)⟩
        · rw [if_neg c5] at H
          have c5b0 : decide ((l0.length : Int) < (wrap64 ((wrap64 ((wrap64 (256 * (wrap64 (rd l0 0)))) + (wrap64 (rd l0 1)))) + 6))) = false := decide_eq_false c5
          clear c5
          obtain ⟨ji7, hji7⟩ : ∃ j_ : Int, (wrap64 ((wrap64 ((wrap64 (256 * (wrap64 (rd l0 0)))) + (wrap64 (rd l0 1)))) + 2)) = j_ := ⟨_, rfl⟩
          replace H : (if 0 ≤ (ji7) then (if (ji7) ≤ (l0.length : Int) then ((seamarkref08_Sum.f k (l0.take ((ji7) : Int).toNat)).bind fun t361 => ((seamarkref08_Four.f t361).bind fun t362 => (if (ji7) ≤ (wrap64 ((wrap64 ((wrap64 (256 * (wrap64 (rd l0 0)))) + (wrap64 (rd l0 1)))) + 6)) then (if (wrap64 ((wrap64 ((wrap64 (256 * (wrap64 (rd l0 0)))) + (wrap64 (rd l0 1)))) + 6)) ≤ (l0.length : Int) then ((seamarkref08_Bytes.f k t362 ((l0.take ((wrap64 ((wrap64 ((wrap64 (256 * (wrap64 (rd l0 0)))) + (wrap64 (rd l0 1)))) + 6)) : Int).toNat).drop ((ji7) : Int).toNat)).bind fun t366 => (if t366 = true then ((some (([] : List Int) : List Int)).bind fun y367 => (if 2 ≤ (ji7) then (if y367.length + ((l0.take ((ji7) : Int).toNat).drop 2).length < 140737488355328 then (some ((y367 ++ ((l0.take ((ji7) : Int).toNat).drop 2)), wrap64 ((wrap64 ((wrap64 (256 * (wrap64 (rd l0 0)))) + (wrap64 (rd l0 1)))) + 6), 0)) else (none)) else (none))) else (some (([] : List Int), 0, 9)))) else (none)) else (none)))) else (none)) else (none)) = some (r1, r2, r3) := by first | (rw [hji7] at H; exact H) | (simp only [hji7] at H ⊢; exact H)
          have hji7w : (IntKind.i64.wrap ((wrap64 ((wrap64 (256 * (wrap64 (rd l0 0)))) + (wrap64 (rd l0 1)))) + 2)) = ji7 := (i64_w _).trans hji7
          by_cases c8 : 0 ≤ (ji7)
          · rw [if_pos c8] at H
            have c8b0 := eq_true c8
            have c8b1 : decide (0 ≤ (ji7)) = true := decide_eq_true c8
            clear c8
            by_cases c9 : (ji7) ≤ (l0.length : Int)
            · rw [if_pos c9] at H
              have c9b0 := eq_true c9
              have c9b1 : decide ((ji7) ≤ (l0.length : Int)) = true := decide_eq_true c9
              clear c9
              replace H := Option.bind_eq_some_iff.mp H
              obtain ⟨t361, A100, H⟩ := H
              replace H : ((seamarkref08_Four.f t361).bind fun t362 => (if (ji7) ≤ (wrap64 ((wrap64 ((wrap64 (256 * (wrap64 (rd l0 0)))) + (wrap64 (rd l0 1)))) + 6)) then (if (wrap64 ((wrap64 ((wrap64 (256 * (wrap64 (rd l0 0)))) + (wrap64 (rd l0 1)))) + 6)) ≤ (l0.length : Int) then ((seamarkref08_Bytes.f k t362 ((l0.take ((wrap64 ((wrap64 ((wrap64 (256 * (wrap64 (rd l0 0)))) + (wrap64 (rd l0 1)))) + 6)) : Int).toNat).drop ((ji7) : Int).toNat)).bind fun t366 => (if t366 = true then ((some (([] : List Int) : List Int)).bind fun y367 => (if 2 ≤ (ji7) then (if y367.length + ((l0.take ((ji7) : Int).toNat).drop 2).length < 140737488355328 then (some ((y367 ++ ((l0.take ((ji7) : Int).toNat).drop 2)), wrap64 ((wrap64 ((wrap64 (256 * (wrap64 (rd l0 0)))) + (wrap64 (rd l0 1)))) + 6), 0)) else (none)) else (none))) else (some (([] : List Int), 0, 9)))) else (none)) else (none))) = some (r1, r2, r3) := H
              have A10 := Aside0.mk A100
              clear A100
              replace H := Option.bind_eq_some_iff.mp H
              obtain ⟨t362, A110, H⟩ := H
              replace H : (if (ji7) ≤ (wrap64 ((wrap64 ((wrap64 (256 * (wrap64 (rd l0 0)))) + (wrap64 (rd l0 1)))) + 6)) then (if (wrap64 ((wrap64 ((wrap64 (256 * (wrap64 (rd l0 0)))) + (wrap64 (rd l0 1)))) + 6)) ≤ (l0.length : Int) then ((seamarkref08_Bytes.f k t362 ((l0.take ((wrap64 ((wrap64 ((wrap64 (256 * (wrap64 (rd l0 0)))) + (wrap64 (rd l0 1)))) + 6)) : Int).toNat).drop ((ji7) : Int).toNat)).bind fun t366 => (if t366 = true then ((some (([] : List Int) : List Int)).bind fun y367 => (if 2 ≤ (ji7) then (if y367.length + ((l0.take ((ji7) : Int).toNat).drop 2).length < 140737488355328 then (some ((y367 ++ ((l0.take ((ji7) : Int).toNat).drop 2)), wrap64 ((wrap64 ((wrap64 (256 * (wrap64 (rd l0 0)))) + (wrap64 (rd l0 1)))) + 6), 0)) else (none)) else (none))) else (some (([] : List Int), 0, 9)))) else (none)) else (none)) = some (r1, r2, r3) := H
              have A11 := Aside0.mk A110
              clear A110
              have c12b0 := eq_true (of_decide_eq_true (by first | (with_reducible assumption) | assumption) : 0 ≤ (ji7))
              by_cases c13 : (ji7) ≤ (wrap64 ((wrap64 ((wrap64 (256 * (wrap64 (rd l0 0)))) + (wrap64 (rd l0 1)))) + 6))
              · rw [if_pos c13] at H
                have c13b0 := eq_true c13
                have c13b1 : decide ((ji7) ≤ (wrap64 ((wrap64 ((wrap64 (256 * (wrap64 (rd l0 0)))) + (wrap64 (rd l0 1)))) + 6))) = true := decide_eq_true c13
                by_cases c14 : (wrap64 ((wrap64 ((wrap64 (256 * (wrap64 (rd l0 0)))) + (wrap64 (rd l0 1)))) + 6)) ≤ (l0.length : Int)
                · rw [if_pos c14] at H
                  have c14b0 := eq_true c14
                  have c14b1 : decide ((wrap64 ((wrap64 ((wrap64 (256 * (wrap64 (rd l0 0)))) + (wrap64 (rd l0 1)))) + 6)) ≤ (l0.length : Int)) = true := decide_eq_true c14
                  replace H := Option.bind_eq_some_iff.mp H
                  obtain ⟨t366, A150, H⟩ := H
                  replace H : (if t366 = true then ((some (([] : List Int) : List Int)).bind fun y367 => (if 2 ≤ (ji7) then (if y367.length + ((l0.take ((ji7) : Int).toNat).drop 2).length < 140737488355328 then (some ((y367 ++ ((l0.take ((ji7) : Int).toNat).drop 2)), wrap64 ((wrap64 ((wrap64 (256 * (wrap64 (rd l0 0)))) + (wrap64 (rd l0 1)))) + 6), 0)) else (none)) else (none))) else (some (([] : List Int), 0, 9))) = some (r1, r2, r3) := H
                  have A15 := Aside0.mk A150
                  clear A150
                  by_cases c16 : t366 = true
                  · subst c16
                    have H1 : ((some (([] : List Int) : List Int)).bind fun y367 => (if 2 ≤ (ji7) then (if y367.length + ((l0.take ((ji7) : Int).toNat).drop 2).length < 140737488355328 then (some ((y367 ++ ((l0.take ((ji7) : Int).toNat).drop 2)), wrap64 ((wrap64 ((wrap64 (256 * (wrap64 (rd l0 0)))) + (wrap64 (rd l0 1)))) + 6), 0)) else (none)) else (none))) = some (r1, r2, r3) := by rw [if_pos rfl] at H; exact H
                    clear H
                    have H := H1
                    clear H1
                    obtain ⟨y367, hy367⟩ : ∃ y_ : List Int, y_ = (([] : List Int)) := ⟨_, rfl⟩
                    replace H : (if 2 ≤ (ji7) then (if y367.length + ((l0.take ((ji7) : Int).toNat).drop 2).length < 140737488355328 then (some ((y367 ++ ((l0.take ((ji7) : Int).toNat).drop 2)), wrap64 ((wrap64 ((wrap64 (256 * (wrap64 (rd l0 0)))) + (wrap64 (rd l0 1)))) + 6), 0)) else (none)) else (none)) = some (r1, r2, r3) := by first | (rw [hy367]; with_reducible exact H) | (have H2_ := (Option.bind_some _ _).symm.trans H; rw [hy367]; with_reducible exact H2_) | (have H2_ := (Option.bind_some _ _).symm.trans H; with_reducible exact H2_) | with_reducible exact H | (rw [hy367]; exact H) | exact H
                    have Ny367 := Aside0.mk hy367
                    clear hy367
                    by_cases c17 : 2 ≤ (ji7)
                    · rw [if_pos c17] at H
                      have c17b0 := eq_true c17
                      have c17b1 : decide (2 ≤ (ji7)) = true := decide_eq_true c17
                      clear c17
                      have c18b0 := eq_true (of_decide_eq_true (by first | (with_reducible assumption) | assumption) : (ji7) ≤ (l0.length : Int))
                      by_cases c19 : y367.length + ((l0.take ((ji7) : Int).toNat).drop 2).length < 140737488355328
                      · rw [if_pos c19] at H
                        have LMc19 := Aside0.mk c19
                        clear c19
                        obtain ⟨y371, hy371⟩ : ∃ y_ : List Int, y_ = (y367 ++ ((l0.take ((ji7) : Int).toNat).drop 2)) := ⟨_, rfl⟩
                        replace H : (some (y371, wrap64 ((wrap64 ((wrap64 (256 * (wrap64 (rd l0 0)))) + (wrap64 (rd l0 1)))) + 6), 0)) = some (r1, r2, r3) := by first | (rw [hy371]; with_reducible exact H) | (have H2_ := (Option.bind_some _ _).symm.trans H; rw [hy371]; with_reducible exact H2_) | (have H2_ := (Option.bind_some _ _).symm.trans H; with_reducible exact H2_) | with_reducible exact H | (rw [hy371]; exact H) | exact H
                        have Ny371 := Aside0.mk hy371
                        clear hy371
                        simp only [Option.some.injEq, Prod.mk.injEq] at H
                        obtain ⟨rfl, rfl, rfl⟩ := H
                        go_enter Try.func27, Try.ntmps27
                        try go_wp2
                        have n0_ := Aside0.mk (below_drew1 HB.out)
                        clear HB
                        have HB := n0_
                        clear n0_
                        have p358 : 0 ≤ (0 : Int) := (by omega)
                        have q358 : 0 < (l0.length : Int) := of_decide_eq_true (by first | (with_reducible assumption) | assumption)
                        obtain ⟨ad358, e358, hx358_0⟩ := Kd.at_int HR0.out 0 p358 q358
                        have hw358_0 := hx358_0
                        (try rw [show ((0 : Int)).toNat = 0 from rfl] at hw358_0)
                        (try rw [show 0 * 1 = 0 from rfl] at hw358_0)
                        (try rw [Addr.add_zero'] at hw358_0)
                        cases e358
                        have qi358 : (0 < l0.length) = True := eq_true (by omega)
                        (try rw [show ((0 : Int)).toNat = 0 from rfl] at hx358_0)
                        (try rw [Addr.add_zero'] at hx358_0)
                        replace hx358_0 := (HB.out.cell (World.block_lt_of_cell? w _ hx358_0)).trans hx358_0
                        replace p358 := eq_true p358
                        replace q358 := eq_true q358
                        have p359 : 0 ≤ (1 : Int) := (by omega)
                        have q359 : 1 < (l0.length : Int) := of_decide_eq_true (by first | (with_reducible assumption) | assumption)
                        obtain ⟨ad359, e359, hx359_0⟩ := Kd.at_int HR0.out 1 p359 q359
                        have hw359_0 := hx359_0
                        (try rw [show ((1 : Int)).toNat = 1 from rfl] at hw359_0)
                        (try rw [show 1 * 1 = 1 from rfl] at hw359_0)
                        (try simp only [Nat.reduceMul, Nat.reduceEqDiff, Go.Addr.add, ↓reduceIte] at hw359_0)
                        obtain rfl : ad358 = ad359 := (by injection e359)
                        (try simp only [show (1 : Int).toNat = 1 from rfl, Nat.reduceMul, Nat.reduceEqDiff, Go.Addr.add, ↓reduceIte] at hx359_0)
                        have qi359 : (1 < l0.length) = True := eq_true (by omega)
                        (try rw [show ((1 : Int)).toNat = 1 from rfl] at hx359_0)
                        replace hx359_0 := (HB.out.cell (World.block_lt_of_cell? w _ hx359_0)).trans hx359_0
                        replace p359 := eq_true p359
                        replace q359 := eq_true q359
                        refine start_ (n := 11) (S := fun w' => w'.cell? ad358 = some (.int .u8 (rd l0 0)) ∧ w'.cell? ⟨ad358.block, ad358.off + 1, none⟩ = some (.int .u8 (rd l0 1))) (ds := []) #[false, false, false, false, false, false, false, false, false, false, false] (by kernel_rfl) rfl rfl ⟨((HB.out.cell (World.block_lt_of_cell? w _ hw358_0)).trans hw358_0), ((HB.out.cell (World.block_lt_of_cell? w _ hw359_0)).trans hw359_0)⟩ (fun hHeld => ?_); refine with_tabW seamarkref08_Open.tab3 seamarkref08_Open.bits3 (fun HT_ HW_ => ?_)
                        generalize w.drew = w20 at HB hx358_0 hx359_0 hHeld ⊢
                        refine pure_ (i := 0) (N := some 10) (v := ?_) (a' := ?_) #[true, false, false, false, false, false, false, false, false, false, false] rfl rfl (any_of HT_.out (by kernel_rfl)) (fun _ _ _ h => h) (Or.inl ⟨by rfl, ?_⟩) ?_ ?_
                        rotate_left
                        · intro w'
                          go_simp
                          with_reducible rfl
                        rotate_left
                        · simp only [Act.put, List.setIfInBounds_toArray, List.set_cons_zero, List.set_cons_succ, i64_w, i32_w]
                          rfl
                        refine pure_ (i := 1) (N := some 11) (v := ?_) (a' := ?_) #[true, true, false, false, false, false, false, false, false, false, false] rfl rfl (any_of HT_.out (by kernel_rfl)) (fun _ _ _ h => h) (Or.inl ⟨by rfl, ?_⟩) ?_ ?_
                        rotate_left
                        · intro w'
                          go_simp
                          with_reducible rfl
                        rotate_left
                        · simp only [Act.put, List.setIfInBounds_toArray, List.set_cons_zero, List.set_cons_succ, i64_w, i32_w]
                          rfl
                        refine pure_ (i := 5) (N := some 15) (v := ?_) (a' := ?_) #[true, true, false, false, false, true, false, false, false, false, false] rfl rfl (any_of HT_.out (by kernel_rfl)) (fun _ _ _ h => h) (Or.inl ⟨by rfl, ?_⟩) ?_ ?_
                        rotate_left
                        · intro w'
                          go_simp
                          with_reducible rfl
                        rotate_left
                        · simp only [Act.put, List.setIfInBounds_toArray, List.set_cons_zero, List.set_cons_succ, i64_w, i32_w]
                          rfl
                        refine pure_ (i := 6) (N := some 16) (v := ?_) (a' := ?_) #[true, true, false, false, false, true, true, false, false, false, false] rfl rfl (any_of HT_.out (by kernel_rfl)) (fun _ _ _ h => h) (Or.inl ⟨by rfl, ?_⟩) ?_ ?_
                        rotate_left
                        · intro w'
                          go_simp
                          with_reducible rfl
                        rotate_left
                        · simp only [Act.put, List.setIfInBounds_toArray, List.set_cons_zero, List.set_cons_succ, i64_w, i32_w]
                          rfl
                        refine take_ (i := 2) (N := some 12) (v := ?_) (a' := ?_) #[true, true, true, false, false, true, true, false, false, false, false] rfl rfl (take_ofW HT_.out HW_.out (by kernel_rfl)) (fun _ _ _ h => h) (Or.inl ⟨by rfl, ?_⟩) hHeld ?_ ?_
                        rotate_left
                        · rintro w' ⟨s0, s1⟩
                          go_simp
                          with_reducible rfl
                        rotate_left
                        · simp only [Act.put, List.setIfInBounds_toArray, List.set_cons_zero, List.set_cons_succ, i64_w, i32_w]
                          rfl
                        refine pure_ (i := 3) (N := some 13) (v := ?_) (a' := ?_) #[true, true, true, true, false, true, true, false, false, false, false] rfl rfl (any_of HT_.out (by kernel_rfl)) (fun _ _ _ h => h) (Or.inl ⟨by rfl, ?_⟩) ?_ ?_
                        rotate_left
                        · intro w'
                          go_simp
                          with_reducible rfl
                        rotate_left
                        · simp only [Act.put, List.setIfInBounds_toArray, List.set_cons_zero, List.set_cons_succ, i64_w, i32_w]
                          rfl
                        refine pure_ (i := 4) (N := some 14) (v := ?_) (a' := ?_) #[true, true, true, true, true, true, true, false, false, false, false] rfl rfl (any_of HT_.out (by kernel_rfl)) (fun _ _ _ h => h) (Or.inl ⟨by rfl, ?_⟩) ?_ ?_
                        rotate_left
                        · intro w'
                          go_simp
                          with_reducible rfl
                        rotate_left
                        · simp only [Act.put, List.setIfInBounds_toArray, List.set_cons_zero, List.set_cons_succ, i64_w, i32_w]
                          rfl
                        refine take_ (i := 7) (N := some 17) (v := ?_) (a' := ?_) #[true, true, true, true, true, true, true, true, false, false, false] rfl rfl (take_ofW HT_.out HW_.out (by kernel_rfl)) (fun _ _ _ h => h) (Or.inl ⟨by rfl, ?_⟩) hHeld ?_ ?_
                        rotate_left
                        · rintro w' ⟨s0, s1⟩
                          go_simp
                          with_reducible rfl
                        rotate_left
                        · simp only [Act.put, List.setIfInBounds_toArray, List.set_cons_zero, List.set_cons_succ, i64_w, i32_w]
                          rfl
                        refine pure_ (i := 8) (N := some 18) (v := ?_) (a' := ?_) #[true, true, true, true, true, true, true, true, true, false, false] rfl rfl (any_of HT_.out (by kernel_rfl)) (fun _ _ _ h => h) (Or.inl ⟨by rfl, ?_⟩) ?_ ?_
                        rotate_left
                        · intro w'
                          go_simp
                          with_reducible rfl
                        rotate_left
                        · simp only [Act.put, List.setIfInBounds_toArray, List.set_cons_zero, List.set_cons_succ, i64_w, i32_w]
                          rfl
                        refine pure_ (i := 9) (N := some 19) (v := ?_) (a' := ?_) #[true, true, true, true, true, true, true, true, true, true, false] rfl rfl (any_of HT_.out (by kernel_rfl)) (fun _ _ _ h => h) (Or.inl ⟨by rfl, ?_⟩) ?_ ?_
                        rotate_left
                        · intro w'
                          go_simp
                          with_reducible rfl
                        rotate_left
                        · simp only [Act.put, List.setIfInBounds_toArray, List.set_cons_zero, List.set_cons_succ, i64_w, i32_w]
                          rfl
                        refine pure_ (i := 10) (N := some 5) (v := ?_) (a' := ?_) #[true, true, true, true, true, true, true, true, true, true, true] rfl rfl (any_of HT_.out (by kernel_rfl)) (fun _ _ _ h => h) (Or.inl ⟨by rfl, ?_⟩) ?_ ?_
                        rotate_left
                        · intro w'
                          go_simp
                          with_reducible rfl
                        rotate_left
                        · simp only [Act.put, List.setIfInBounds_toArray, List.set_cons_zero, List.set_cons_succ, i64_w, i32_w]
                          rfl
                        refine done_ (done_of HT_.out (by kernel_rfl)) ?_
                        try go_wp2
                        have n0_ := Aside0.mk (below_drew1 HB.out)
                        clear HB
                        have HB := n0_
                        clear n0_
                        obtain ⟨i022, hi022, _, hsz22, _⟩ := info_parts info5
                        obtain ⟨hcut22, hA22, hC22⟩ := print_take_of (P := Try.prog) (Value.int .u8) 0 23 5 .i64 Try.underlying23 hi022 hsz22 (some ad358) c0 l0 (ji7) (of_decide_eq_true (by first | (with_reducible assumption) | assumption)) (of_decide_eq_true (by first | (with_reducible assumption) | assumption)) HC0.out
                        have HR360 := Aside0.mk (Kd.C_of_reads (h1 := fun _ => rfl) (hA22 _ (Kd.reads_of_C HR0.out)))
                        have HC360 := Aside0.mk hC22
                        clear hA22 hC22 hi022 hsz22
                        obtain ⟨i023, hi023, _, hsz23, _⟩ := info_parts info5
                        obtain ⟨A23, hcut23, hA23, hC23⟩ := print_mid_of (P := Try.prog) (Value.int .u8) 0 23 5 .i64 .i64 Try.underlying23 hi023 hsz23 (some ad358) c0 l0 (ji7) (wrap64 ((wrap64 ((wrap64 (256 * (wrap64 (rd l0 0)))) + (wrap64 (rd l0 1)))) + 6)) (of_decide_eq_true (by first | (with_reducible assumption) | assumption)) (by first | omega | exact of_decide_eq_true (by first | (with_reducible assumption) | assumption)) (of_decide_eq_true (by first | (with_reducible assumption) | assumption)) HC0.out
                        have HR365 := Aside0.mk (Kd.C_of_reads (h1 := fun _ => rfl) (hA23 _ (Kd.reads_of_C HR0.out)))
                        have HC365 := Aside0.mk hC23
                        clear hA23 hC23 hi023 hsz23
                        refine start_ (n := 14) (S := fun w' => True) (ds := []) #[false, false, false, false, false, false, false, false, false, false, false, false, false, false] (by kernel_rfl) rfl rfl trivial (fun hHeld => ?_); refine with_tabW seamarkref08_Open.tab6 seamarkref08_Open.bits6 (fun HT_ HW_ => ?_)
                        generalize w20.drew = w21 at HB HR360 HR365 hHeld ⊢
                        refine pure_ (i := 0) (N := some 25) (v := ?_) (a' := ?_) #[true, false, false, false, false, false, false, false, false, false, false, false, false, false] rfl rfl (any_of HT_.out (by kernel_rfl)) (fun _ _ _ h => h) (Or.inl ⟨by rfl, ?_⟩) ?_ ?_
                        rotate_left
                        · intro w'
                          go_simp
                          with_reducible rfl
                        rotate_left
                        · simp only [Act.put, List.setIfInBounds_toArray, List.set_cons_zero, List.set_cons_succ, i64_w, i32_w]
                          rfl
                        refine pure_ (i := 1) (N := some 26) (v := ?_) (a' := ?_) #[true, true, false, false, false, false, false, false, false, false, false, false, false, false] rfl rfl (any_of HT_.out (by kernel_rfl)) (fun _ _ _ h => h) (Or.inl ⟨by rfl, ?_⟩) ?_ ?_
                        rotate_left
                        · intro w'
                          go_simp
                          with_reducible rfl
                        rotate_left
                        · simp only [Act.put, List.setIfInBounds_toArray, List.set_cons_zero, List.set_cons_succ, i64_w, i32_w]
                          rfl
                        refine pure_ (i := 2) (N := some 27) (v := ?_) (a' := ?_) #[true, true, true, false, false, false, false, false, false, false, false, false, false, false] rfl rfl (any_of HT_.out (by kernel_rfl)) (fun _ _ _ h => h) (Or.inl ⟨by rfl, ?_⟩) ?_ ?_
                        rotate_left
                        · intro w'
                          go_simp
                          with_reducible rfl
                        rotate_left
                        · simp only [Act.put, List.setIfInBounds_toArray, List.set_cons_zero, List.set_cons_succ, i64_w, i32_w]
                          rfl
                        refine pure_ (i := 3) (N := some 28) (v := ?_) (a' := ?_) #[true, true, true, true, false, false, false, false, false, false, false, false, false, false] rfl rfl (any_of HT_.out (by kernel_rfl)) (fun _ _ _ h => h) (Or.inl ⟨by rfl, ?_⟩) ?_ ?_
                        rotate_left
                        · intro w'
                          go_simp
                          with_reducible rfl
                        rotate_left
                        · simp only [Act.put, List.setIfInBounds_toArray, List.set_cons_zero, List.set_cons_succ, i64_w, i32_w]
                          rfl
                        refine pure_ (i := 6) (N := some 31) (v := ?_) (a' := ?_) #[true, true, true, true, false, false, true, false, false, false, false, false, false, false] rfl rfl (any_of HT_.out (by kernel_rfl)) (fun _ _ _ h => h) (Or.inl ⟨by rfl, ?_⟩) ?_ ?_
                        rotate_left
                        · intro w'
                          go_simp
                          with_reducible rfl
                        rotate_left
                        · simp only [Act.put, List.setIfInBounds_toArray, List.set_cons_zero, List.set_cons_succ, i64_w, i32_w]
                          rfl
                        refine pure_ (i := 7) (N := some 32) (v := ?_) (a' := ?_) #[true, true, true, true, false, false, true, true, false, false, false, false, false, false] rfl rfl (any_of HT_.out (by kernel_rfl)) (fun _ _ _ h => h) (Or.inl ⟨by rfl, ?_⟩) ?_ ?_
                        rotate_left
                        · intro w'
                          go_simp
                          with_reducible rfl
                        rotate_left
                        · simp only [Act.put, List.setIfInBounds_toArray, List.set_cons_zero, List.set_cons_succ, i64_w, i32_w]
                          rfl
                        refine pure_ (i := 8) (N := some 33) (v := ?_) (a' := ?_) #[true, true, true, true, false, false, true, true, true, false, false, false, false, false] rfl rfl (any_of HT_.out (by kernel_rfl)) (fun _ _ _ h => h) (Or.inl ⟨by rfl, ?_⟩) ?_ ?_
                        rotate_left
                        · intro w'
                          go_simp
                          with_reducible rfl
                        rotate_left
                        · simp only [Act.put, List.setIfInBounds_toArray, List.set_cons_zero, List.set_cons_succ, i64_w, i32_w]
                          rfl
                        refine pure_ (i := 9) (N := some 34) (v := ?_) (a' := ?_) #[true, true, true, true, false, false, true, true, true, true, false, false, false, false] rfl rfl (any_of HT_.out (by kernel_rfl)) (fun _ _ _ h => h) (Or.inl ⟨by rfl, ?_⟩) ?_ ?_
                        rotate_left
                        · intro w'
                          go_simp
                          with_reducible rfl
                        rotate_left
                        · simp only [Act.put, List.setIfInBounds_toArray, List.set_cons_zero, List.set_cons_succ, i64_w, i32_w]
                          rfl
                        refine pure_ (i := 10) (N := some 35) (v := ?_) (a' := ?_) #[true, true, true, true, false, false, true, true, true, true, true, false, false, false] rfl rfl (any_of HT_.out (by kernel_rfl)) (fun _ _ _ h => h) (Or.inl ⟨by rfl, ?_⟩) ?_ ?_
                        rotate_left
                        · intro w'
                          go_simp
                          with_reducible rfl
                        rotate_left
                        · simp only [Act.put, List.setIfInBounds_toArray, List.set_cons_zero, List.set_cons_succ, i64_w, i32_w]
                          rfl
                        refine pure_ (i := 11) (N := some 36) (v := ?_) (a' := ?_) #[true, true, true, true, false, false, true, true, true, true, true, true, false, false] rfl rfl (any_of HT_.out (by kernel_rfl)) (fun _ _ _ h => h) (Or.inl ⟨by rfl, ?_⟩) ?_ ?_
                        rotate_left
                        · intro w'
                          go_simp
                          with_reducible rfl
                        rotate_left
                        · simp only [Act.put, List.setIfInBounds_toArray, List.set_cons_zero, List.set_cons_succ, i64_w, i32_w]
                          rfl
                        refine one_ (i := 4) (N := some 29) #[true, true, true, true, true, false, true, true, true, true, true, true, false, false] rfl rfl (one_of HT_.out (by kernel_rfl)) (by decide) (fun K hK => ?_)
                        refine goes_ Try.func22 (by kernel_rfl) rfl #[.slice (some ad358) (l0.take ((ji7) : Int).toNat).length c0] (by rfl) rfl rfl (by (try simp only [List.map_toArray, List.map_cons, List.map_nil]); first | done | (rw [show (l0.take ((ji7) : Int).toNat).length = (ji7).toNat from (by rw [List.length_take]; have h_ : ((ji7) : Int) ≤ (l0.length : Int) := of_decide_eq_true (by first | (with_reducible assumption) | assumption); omega)] <;> rfl) | (simp only [hji7]; rfl) | rfl | (simp only [List.length_drop, List.length_take]; rfl)) ?_
                        with_reducible refine (seamarkref08_Sum.calls k _ _ (l0.take ((ji7) : Int).toNat) t361 _ ?side1 ?side2 A10.out).mono ?_
                        (case side1 => repeat (first | exact (Kd.C_below HR360.out HB.out) | (with_reducible refine Kd.C_alloc ?_ _) | (with_reducible refine Kd.C_drewN ?_ _) | (with_reducible refine Kd.C_drew ?_)))
                        (case side2 => exact HC360.out)
                        rintro e w' ⟨rfl, ⟨nd, rfl⟩⟩
                        refine ⟨_, rfl, ?_⟩
                        refine hK.out _ _ trivial (fun hHeld => ?_)
                        clear hK K
                        refine norm_ (a' := ?_) ?_ ?_
                        rotate_left
                        · show Act.put _ (some 29) _ = _
                          simp only [Act.put, List.setIfInBounds_toArray, List.set_cons_zero, List.set_cons_succ, i64_w, i32_w]
                          rfl
                        refine one_ (i := 5) (N := some 30) #[true, true, true, true, true, true, true, true, true, true, true, true, false, false] rfl rfl (one_of HT_.out (by kernel_rfl)) (by decide) (fun K hK => ?_)
                        refine goes_ Try.func35 (by kernel_rfl) rfl #[.int .u32 t361] (by rfl) rfl rfl (by (try simp only [List.map_toArray, List.map_cons, List.map_nil]); first | done | rfl | (simp only [List.length_drop, List.length_take]; rfl)) ?_
                        with_reducible refine (seamarkref08_Four.calls t361 t362 _ A11.out).mono ?_
                        rintro e w24 ⟨v363, rfl, ho0, hb⟩
                        refine ⟨_, rfl, ?_⟩
                        have n0_ := Aside0.mk (Kd.R_lower ho0 (below_size (by repeat (first | (with_reducible first | exact HB.out | apply below_alloc | apply pw_below_drewN | apply below_drew1) | exact HB.out))))
                        have n1_ := Aside0.mk (below_step (by repeat (first | (with_reducible first | exact HB.out | apply below_alloc | apply pw_below_drewN | apply below_drew1) | exact HB.out)) hb)
                        clear HB
                        have HO364 := n0_
                        have HB := n1_
                        clear n0_ n1_
                        (try clear hb)
                        (try clear hb2)
                        (try clear hk)
                        (try clear hi)
                        (try clear ho0)
                        obtain ⟨Ao25, co25, eo25⟩ := Kd.R_slice HO364.out
                        (first | subst eo25 | (injection eo25 with f1_ f2_ f3_; have f4_ := f1_.symm; have f5_ := f3_.symm; clear f1_ f2_ f3_; subst f4_; subst f5_))
                        refine hK.out _ _ trivial (fun hHeld => ?_)
                        clear hK K
                        refine norm_ (a' := ?_) ?_ ?_
                        rotate_left
                        · show Act.put _ (some 30) _ = _
                          simp only [Act.put, List.setIfInBounds_toArray, List.set_cons_zero, List.set_cons_succ, i64_w, i32_w]
                          rfl
                        refine one_ (i := 12) (N := some 37) #[true, true, true, true, true, true, true, true, true, true, true, true, true, false] rfl rfl (one_of HT_.out (by kernel_rfl)) (by decide) (fun K hK => ?_)
                        refine goes_ Try.func15 (by kernel_rfl) rfl #[.slice Ao25 t362.length co25, .slice A23 ((l0.take ((wrap64 ((wrap64 ((wrap64 (256 * (wrap64 (rd l0 0)))) + (wrap64 (rd l0 1)))) + 6)) : Int).toNat).drop ((ji7) : Int).toNat).length (c0 - (ji7).toNat)] (by rfl) rfl rfl (by (try simp only [List.map_toArray, List.map_cons, List.map_nil]); first | done | (rw [show ((l0.take ((wrap64 ((wrap64 ((wrap64 (256 * (wrap64 (rd l0 0)))) + (wrap64 (rd l0 1)))) + 6)) : Int).toNat).drop ((ji7) : Int).toNat).length = ((wrap64 ((wrap64 ((wrap64 (256 * (wrap64 (rd l0 0)))) + (wrap64 (rd l0 1)))) + 6)).toNat - (ji7).toNat) from (by rw [List.length_drop, List.length_take]; have h_ : ((wrap64 ((wrap64 ((wrap64 (256 * (wrap64 (rd l0 0)))) + (wrap64 (rd l0 1)))) + 6)) : Int) ≤ (l0.length : Int) := of_decide_eq_true (by first | (with_reducible assumption) | assumption); omega)] <;> rfl) | (simp only [hji7]; rfl) | rfl | (simp only [List.length_drop, List.length_take]; rfl)) ?_
                        with_reducible refine (seamarkref08_Bytes.calls k _ _ t362 _ _ ((l0.take ((wrap64 ((wrap64 ((wrap64 (256 * (wrap64 (rd l0 0)))) + (wrap64 (rd l0 1)))) + 6)) : Int).toNat).drop ((ji7) : Int).toNat) true _ ?side1 ?side2 ?side3 ?side4 A15.out).mono ?_
                        (case side1 => repeat (first | exact (Kd.R_reads' HO364.out).2.2 | (with_reducible refine Kd.C_alloc ?_ _) | (with_reducible refine Kd.C_drewN ?_ _) | (with_reducible refine Kd.C_drew ?_)))
                        (case side2 => exact (Kd.R_reads' HO364.out).2.1)
                        (case side3 => repeat (first | exact (Kd.C_below HR365.out HB.out) | (with_reducible refine Kd.C_alloc ?_ _) | (with_reducible refine Kd.C_drewN ?_ _) | (with_reducible refine Kd.C_drew ?_)))
                        (case side4 => exact HC365.out)
                        rintro e w' ⟨rfl, ⟨nd, rfl⟩⟩
                        refine ⟨_, rfl, ?_⟩
                        refine hK.out _ _ trivial (fun hHeld => ?_)
                        clear hK K
                        refine norm_ (a' := ?_) ?_ ?_
                        rotate_left
                        · show Act.put _ (some 37) _ = _
                          simp only [Act.put, List.setIfInBounds_toArray, List.set_cons_zero, List.set_cons_succ, i64_w, i32_w]
                          rfl
                        refine pure_ (i := 13) (N := some 6) (v := ?_) (a' := ?_) #[true, true, true, true, true, true, true, true, true, true, true, true, true, true] rfl rfl (any_of HT_.out (by kernel_rfl)) (fun _ _ _ h => h) (Or.inl ⟨by rfl, ?_⟩) ?_ ?_
                        rotate_left
                        · intro w'
                          go_simp
                          with_reducible rfl
                        rotate_left
                        · simp only [Act.put, List.setIfInBounds_toArray, List.set_cons_zero, List.set_cons_succ, i64_w, i32_w]
                          rfl
                        refine done_ (done_of HT_.out (by kernel_rfl)) ?_
                        try go_wp2_with (first | ((with_reducible refine gate_dst (N := 40) rfl ?_); refine Kd.R_lit (Kd.int .u8) _ 5 ?hg (N := 40) ?hd (xs := ([] : List Int)) (inner := []) (ok := fun _ => True) (okp := fun _ => True) ?hr ?hp (fun _ hk => hk) trivial (Below.refl _ _) (Nat.le_refl _) (by simp) ?_; (case hd => rfl); (case hg => rfl); (case hr => first | (go_simp; done) | (go_simp; rfl)); (case hp => exact (Reps.none _ _)); intro v368 w26 ho27 hb hg_ hnew_; clear hg_ hnew_; (first | rw [← Ny367.out] at ho27 | (simp only [Int.reduceToNat] at ho27; rw [← Ny367.out] at ho27)); have n0_ := Aside0.mk (Kd.R_elder' (by (with_reducible repeat (first | apply Kd.R_alloc | apply Kd.R_drewN | apply Kd.R_drew)); exact HO364.out) (Kd.R_base ho27) hb); have n1_ := Aside0.mk (Kd.R_lower (Kd.R_new' ho27 (Kd.R_lt (by (with_reducible repeat (first | apply Kd.R_alloc | apply Kd.R_drewN | apply Kd.R_drew)); exact HO364.out))) (below_size (by repeat (first | (with_reducible first | exact HB.out | apply below_alloc | apply pw_below_drewN | apply below_drew1) | exact HB.out)))); have n2_ := Aside0.mk (below_step (by repeat (first | (with_reducible first | exact HB.out | apply below_alloc | apply pw_below_drewN | apply below_drew1) | exact HB.out)) hb); clear HO364; clear HB; have HO364 := n0_; have HO369 := n1_; have HB := n2_; clear n0_ n1_ n2_; clear hb ho27; obtain ⟨i028, hi028, _, hsz28, _⟩ := info_parts info5; obtain ⟨A28, hcut28, hA28, hC28⟩ := print_mid_of (P := Try.prog) (Value.int .u8) 0 23 5 .i64 .i64 Try.underlying23 hi028 hsz28 (some ad358) c0 l0 2 (ji7) (by omega) (by first | omega | exact of_decide_eq_true (by first | (with_reducible assumption) | assumption)) (of_decide_eq_true (by first | (with_reducible assumption) | assumption)) HC0.out; have HR370 := Aside0.mk (Kd.C_of_reads (h1 := fun _ => rfl) (hA28 _ (Kd.reads_of_C HR0.out))); have HC370 := Aside0.mk hC28; clear hA28 hC28 hi028 hsz28) | ((with_reducible refine gate_builtin (b := .append) (xs := #[.tmp 40, .tmp 44]) rfl ?_); at_builtin; refine Kd.R_append_rows (Kd.int .u8) (w0 := w) w.heap.size rfl (.tmp 40) (.tmp 44) 23 5 (.int .u8 0) 1 rfl Try.underlying23 info5 rfl (by decide) (by omega) v368 y367 ((l0.take ((ji7) : Int).toNat).drop 2) _ _ _ (fun k_ => some k_ ≠ (.slice Ao25 t362.length co25 : Value).ownBlock) (fun _ => False) rfl rfl ?aO ?aR (fun _ _ h => h) (fun _ h => h.elim) ?aF ?aB ?aS ?aL ?_; (case aR => first | (rw [← show ((l0.take ((ji7) : Int).toNat).drop 2).length = ((ji7).toNat - 2) from (by rw [List.length_drop, List.length_take]; have h_ : ((ji7) : Int) ≤ (l0.length : Int) := of_decide_eq_true (by first | (with_reducible assumption) | assumption); omega)]; repeat (first | exact (Kd.C_below HR370.out HB.out) | (with_reducible refine Kd.C_alloc ?_ _) | (with_reducible refine Kd.C_drewN ?_ _) | (with_reducible refine Kd.C_drew ?_))) | (repeat (first | exact (Kd.C_below HR370.out HB.out) | (with_reducible refine Kd.C_alloc ?_ _) | (with_reducible refine Kd.C_drewN ?_ _) | (with_reducible refine Kd.C_drew ?_)))); (case aB => exact (by repeat (first | (with_reducible first | exact HB.out | apply below_alloc | apply pw_below_drewN | apply below_drew1) | exact HB.out))); (case aF => exact (fun k_ hk => Kd.fresh' (Kd.R_lt (by (with_reducible repeat (first | apply Kd.R_alloc | apply Kd.R_drewN | apply Kd.R_drew)); exact HO364.out)) k_ hk)); (case aO => exact (by (with_reducible repeat (first | apply Kd.R_alloc | apply Kd.R_drewN | apply Kd.R_drew)); exact Kd.R_mono HO369.out (fun _ hk => hk.2))); (case aS => exact (below_size (by repeat (first | (with_reducible first | exact HB.out | apply below_alloc | apply pw_below_drewN | apply below_drew1) | exact HB.out)))); (case aL => have := LMc19.out; have hlx_ := (show ((l0.take ((ji7) : Int).toNat).drop 2).length = ((ji7).toNat - 2) from (by rw [List.length_drop, List.length_take]; have h_ : ((ji7) : Int) ≤ (l0.length : Int) := of_decide_eq_true (by first | (with_reducible assumption) | assumption); omega)); omega); intro v372 w29 ho hb hg hat; rw [← Ny371.out] at ho; have n0_ := Aside0.mk (Kd.R_after (ok := (fun _ => True)) (by (with_reducible repeat (first | apply Kd.R_alloc | apply Kd.R_drewN | apply Kd.R_drew)); exact HO364.out) hg hat); have n1_ := Aside0.mk (hb); have n2_ := Aside0.mk (ho); clear HO364; clear HB; clear HO369; have HO364 := n0_; have HB := n1_; have HO373 := n2_; clear n0_ n1_ n2_; clear ho hb hg hat))
                        go_ret3
                        exact ⟨_, by first | rfl | (simp [errW_none, errW_some] <;> rfl) | (simp only [← hji7]; first | rfl | (simp [errW_none, errW_some] <;> rfl)) | (simp [*, errW_none, errW_some] <;> rfl), by (with_reducible repeat (first | apply Kd.R_alloc | apply Kd.R_drewN | apply Kd.R_drew)); exact Kd.R_mono HO373.out (fun _ hk => trivial), by repeat (first | (with_reducible first | exact HB.out | apply below_alloc | apply pw_below_drewN | apply below_drew1) | exact HB.out)⟩
                      · rw [if_neg c19] at H
                        exact absurd H (by simp)
                    · rw [if_neg c17] at H
                      exact absurd H (by simp)
                  · replace c16 := Bool.eq_false_iff.mpr c16
                    subst c16
                    have H1 : (some (([] : List Int), 0, 9)) = some (r1, r2, r3) := by rw [if_neg (show ¬ (false = true) by decide)] at H; exact H
                    clear H
                    have H := H1
                    clear H1
                    simp only [Option.some.injEq, Prod.mk.injEq] at H
                    obtain ⟨rfl, rfl, rfl⟩ := H
                    go_enter Try.func27, Try.ntmps27
                    try go_wp2
                    have n0_ := Aside0.mk (below_drew1 HB.out)
                    clear HB
                    have HB := n0_
                    clear n0_
                    have p358 : 0 ≤ (0 : Int) := (by omega)
                    have q358 : 0 < (l0.length : Int) := of_decide_eq_true (by first | (with_reducible assumption) | assumption)
                    obtain ⟨ad358, e358, hx358_0⟩ := Kd.at_int HR0.out 0 p358 q358
                    have hw358_0 := hx358_0
                    (try rw [show ((0 : Int)).toNat = 0 from rfl] at hw358_0)
                    (try rw [show 0 * 1 = 0 from rfl] at hw358_0)
                    (try rw [Addr.add_zero'] at hw358_0)
                    cases e358
                    have qi358 : (0 < l0.length) = True := eq_true (by omega)
                    (try rw [show ((0 : Int)).toNat = 0 from rfl] at hx358_0)
                    (try rw [Addr.add_zero'] at hx358_0)
                    replace hx358_0 := (HB.out.cell (World.block_lt_of_cell? w _ hx358_0)).trans hx358_0
                    replace p358 := eq_true p358
                    replace q358 := eq_true q358
                    have p359 : 0 ≤ (1 : Int) := (by omega)
                    have q359 : 1 < (l0.length : Int) := of_decide_eq_true (by first | (with_reducible assumption) | assumption)
                    obtain ⟨ad359, e359, hx359_0⟩ := Kd.at_int HR0.out 1 p359 q359
                    have hw359_0 := hx359_0
                    (try rw [show ((1 : Int)).toNat = 1 from rfl] at hw359_0)
                    (try rw [show 1 * 1 = 1 from rfl] at hw359_0)
                    (try simp only [Nat.reduceMul, Nat.reduceEqDiff, Go.Addr.add, ↓reduceIte] at hw359_0)
                    obtain rfl : ad358 = ad359 := (by injection e359)
                    (try simp only [show (1 : Int).toNat = 1 from rfl, Nat.reduceMul, Nat.reduceEqDiff, Go.Addr.add, ↓reduceIte] at hx359_0)
                    have qi359 : (1 < l0.length) = True := eq_true (by omega)
                    (try rw [show ((1 : Int)).toNat = 1 from rfl] at hx359_0)
                    replace hx359_0 := (HB.out.cell (World.block_lt_of_cell? w _ hx359_0)).trans hx359_0
                    replace p359 := eq_true p359
                    replace q359 := eq_true q359
                    refine start_ (n := 11) (S := fun w' => w'.cell? ad358 = some (.int .u8 (rd l0 0)) ∧ w'.cell? ⟨ad358.block, ad358.off + 1, none⟩ = some (.int .u8 (rd l0 1))) (ds := []) #[false, false, false, false, false, false, false, false, false, false, false] (by kernel_rfl) rfl rfl ⟨((HB.out.cell (World.block_lt_of_cell? w _ hw358_0)).trans hw358_0), ((HB.out.cell (World.block_lt_of_cell? w _ hw359_0)).trans hw359_0)⟩ (fun hHeld => ?_); refine with_tabW seamarkref08_Open.tab3 seamarkref08_Open.bits3 (fun HT_ HW_ => ?_)
                    generalize w.drew = w30 at HB hx358_0 hx359_0 hHeld ⊢
                    refine pure_ (i := 0) (N := some 10) (v := ?_) (a' := ?_) #[true, false, false, false, false, false, false, false, false, false, false] rfl rfl (any_of HT_.out (by kernel_rfl)) (fun _ _ _ h => h) (Or.inl ⟨by rfl, ?_⟩) ?_ ?_
                    rotate_left
                    · intro w'
                      go_simp
                      with_reducible rfl
                    rotate_left
                    · simp only [Act.put, List.setIfInBounds_toArray, List.set_cons_zero, List.set_cons_succ, i64_w, i32_w]
                      rfl
                    refine pure_ (i := 1) (N := some 11) (v := ?_) (a' := ?_) #[true, true, false, false, false, false, false, false, false, false, false] rfl rfl (any_of HT_.out (by kernel_rfl)) (fun _ _ _ h => h) (Or.inl ⟨by rfl, ?_⟩) ?_ ?_
                    rotate_left
                    · intro w'
                      go_simp
                      with_reducible rfl
                    rotate_left
                    · simp only [Act.put, List.setIfInBounds_toArray, List.set_cons_zero, List.set_cons_succ, i64_w, i32_w]
                      rfl
                    refine pure_ (i := 5) (N := some 15) (v := ?_) (a' := ?_) #[true, true, false, false, false, true, false, false, false, false, false] rfl rfl (any_of HT_.out (by kernel_rfl)) (fun _ _ _ h => h) (Or.inl ⟨by rfl, ?_⟩) ?_ ?_
                    rotate_left
                    · intro w'
                      go_simp
                      with_reducible rfl
                    rotate_left
                    · simp only [Act.put, List.setIfInBounds_toArray, List.set_cons_zero, List.set_cons_succ, i64_w, i32_w]
                      rfl
                    refine pure_ (i := 6) (N := some 16) (v := ?_) (a' := ?_) #[true, true, false, false, false, true, true, false, false, false, false] rfl rfl (any_of HT_.out (by kernel_rfl)) (fun _ _ _ h => h) (Or.inl ⟨by rfl, ?_⟩) ?_ ?_
                    rotate_left
                    · intro w'
                      go_simp
                      with_reducible rfl
                    rotate_left
                    · simp only [Act.put, List.setIfInBounds_toArray, List.set_cons_zero, List.set_cons_succ, i64_w, i32_w]
                      rfl
                    refine take_ (i := 2) (N := some 12) (v := ?_) (a' := ?_) #[true, true, true, false, false, true, true, false, false, false, false] rfl rfl (take_ofW HT_.out HW_.out (by kernel_rfl)) (fun _ _ _ h => h) (Or.inl ⟨by rfl, ?_⟩) hHeld ?_ ?_
                    rotate_left
                    · rintro w' ⟨s0, s1⟩
                      go_simp
                      with_reducible rfl
                    rotate_left
                    · simp only [Act.put, List.setIfInBounds_toArray, List.set_cons_zero, List.set_cons_succ, i64_w, i32_w]
                      rfl
                    refine pure_ (i := 3) (N := some 13) (v := ?_) (a' := ?_) #[true, true, true, true, false, true, true, false, false, false, false] rfl rfl (any_of HT_.out (by kernel_rfl)) (fun _ _ _ h => h) (Or.inl ⟨by rfl, ?_⟩) ?_ ?_
                    rotate_left
                    · intro w'
                      go_simp
                      with_reducible rfl
                    rotate_left
                    · simp only [Act.put, List.setIfInBounds_toArray, List.set_cons_zero, List.set_cons_succ, i64_w, i32_w]
                      rfl
                    refine pure_ (i := 4) (N := some 14) (v := ?_) (a' := ?_) #[true, true, true, true, true, true, true, false, false, false, false] rfl rfl (any_of HT_.out (by kernel_rfl)) (fun _ _ _ h => h) (Or.inl ⟨by rfl, ?_⟩) ?_ ?_
                    rotate_left
                    · intro w'
                      go_simp
                      with_reducible rfl
                    rotate_left
                    · simp only [Act.put, List.setIfInBounds_toArray, List.set_cons_zero, List.set_cons_succ, i64_w, i32_w]
                      rfl
                    refine take_ (i := 7) (N := some 17) (v := ?_) (a' := ?_) #[true, true, true, true, true, true, true, true, false, false, false] rfl rfl (take_ofW HT_.out HW_.out (by kernel_rfl)) (fun _ _ _ h => h) (Or.inl ⟨by rfl, ?_⟩) hHeld ?_ ?_
                    rotate_left
                    · rintro w' ⟨s0, s1⟩
                      go_simp
                      with_reducible rfl
                    rotate_left
                    · simp only [Act.put, List.setIfInBounds_toArray, List.set_cons_zero, List.set_cons_succ, i64_w, i32_w]
                      rfl
                    refine pure_ (i := 8) (N := some 18) (v := ?_) (a' := ?_) #[true, true, true, true, true, true, true, true, true, false, false] rfl rfl (any_of HT_.out (by kernel_rfl)) (fun _ _ _ h => h) (Or.inl ⟨by rfl, ?_⟩) ?_ ?_
                    rotate_left
                    · intro w'
                      go_simp
                      with_reducible rfl
                    rotate_left
                    · simp only [Act.put, List.setIfInBounds_toArray, List.set_cons_zero, List.set_cons_succ, i64_w, i32_w]
                      rfl
                    refine pure_ (i := 9) (N := some 19) (v := ?_) (a' := ?_) #[true, true, true, true, true, true, true, true, true, true, false] rfl rfl (any_of HT_.out (by kernel_rfl)) (fun _ _ _ h => h) (Or.inl ⟨by rfl, ?_⟩) ?_ ?_
                    rotate_left
                    · intro w'
                      go_simp
                      with_reducible rfl
                    rotate_left
                    · simp only [Act.put, List.setIfInBounds_toArray, List.set_cons_zero, List.set_cons_succ, i64_w, i32_w]
                      rfl
                    refine pure_ (i := 10) (N := some 5) (v := ?_) (a' := ?_) #[true, true, true, true, true, true, true, true, true, true, true] rfl rfl (any_of HT_.out (by kernel_rfl)) (fun _ _ _ h => h) (Or.inl ⟨by rfl, ?_⟩) ?_ ?_
                    rotate_left
                    · intro w'
                      go_simp
                      with_reducible rfl
                    rotate_left
                    · simp only [Act.put, List.setIfInBounds_toArray, List.set_cons_zero, List.set_cons_succ, i64_w, i32_w]
                      rfl
                    refine done_ (done_of HT_.out (by kernel_rfl)) ?_
                    try go_wp2
                    have n0_ := Aside0.mk (below_drew1 HB.out)
                    clear HB
                    have HB := n0_
                    clear n0_
                    obtain ⟨i032, hi032, _, hsz32, _⟩ := info_parts info5
                    obtain ⟨hcut32, hA32, hC32⟩ := print_take_of (P := Try.prog) (Value.int .u8) 0 23 5 .i64 Try.underlying23 hi032 hsz32 (some ad358) c0 l0 (ji7) (of_decide_eq_true (by first | (with_reducible assumption) | assumption)) (of_decide_eq_true (by first | (with_reducible assumption) | assumption)) HC0.out
                    have HR360 := Aside0.mk (Kd.C_of_reads (h1 := fun _ => rfl) (hA32 _ (Kd.reads_of_C HR0.out)))
                    have HC360 := Aside0.mk hC32
                    clear hA32 hC32 hi032 hsz32
                    obtain ⟨i033, hi033, _, hsz33, _⟩ := info_parts info5
                    obtain ⟨A33, hcut33, hA33, hC33⟩ := print_mid_of (P := Try.prog) (Value.int .u8) 0 23 5 .i64 .i64 Try.underlying23 hi033 hsz33 (some ad358) c0 l0 (ji7) (wrap64 ((wrap64 ((wrap64 (256 * (wrap64 (rd l0 0)))) + (wrap64 (rd l0 1)))) + 6)) (of_decide_eq_true (by first | (with_reducible assumption) | assumption)) (by first | omega | exact of_decide_eq_true (by first | (with_reducible assumption) | assumption)) (of_decide_eq_true (by first | (with_reducible assumption) | assumption)) HC0.out
                    have HR365 := Aside0.mk (Kd.C_of_reads (h1 := fun _ => rfl) (hA33 _ (Kd.reads_of_C HR0.out)))
                    have HC365 := Aside0.mk hC33
                    clear hA33 hC33 hi033 hsz33
                    refine start_ (n := 14) (S := fun w' => True) (ds := []) #[false, false, false, false, false, false, false, false, false, false, false, false, false, false] (by kernel_rfl) rfl rfl trivial (fun hHeld => ?_); refine with_tabW seamarkref08_Open.tab6 seamarkref08_Open.bits6 (fun HT_ HW_ => ?_)
                    generalize w30.drew = w31 at HB HR360 HR365 hHeld ⊢
                    refine pure_ (i := 0) (N := some 25) (v := ?_) (a' := ?_) #[true, false, false, false, false, false, false, false, false, false, false, false, false, false] rfl rfl (any_of HT_.out (by kernel_rfl)) (fun _ _ _ h => h) (Or.inl ⟨by rfl, ?_⟩) ?_ ?_
                    rotate_left
                    · intro w'
                      go_simp
                      with_reducible rfl
                    rotate_left
                    · simp only [Act.put, List.setIfInBounds_toArray, List.set_cons_zero, List.set_cons_succ, i64_w, i32_w]
                      rfl
                    refine pure_ (i := 1) (N := some 26) (v := ?_) (a' := ?_) #[true, true, false, false, false, false, false, false, false, false, false, false, false, false] rfl rfl (any_of HT_.out (by kernel_rfl)) (fun _ _ _ h => h) (Or.inl ⟨by rfl, ?_⟩) ?_ ?_
                    rotate_left
                    · intro w'
                      go_simp
                      with_reducible rfl
                    rotate_left
                    · simp only [Act.put, List.setIfInBounds_toArray, List.set_cons_zero, List.set_cons_succ, i64_w, i32_w]
                      rfl
                    refine pure_ (i := 2) (N := some 27) (v := ?_) (a' := ?_) #[true, true, true, false, false, false, false, false, false, false, false, false, false, false] rfl rfl (any_of HT_.out (by kernel_rfl)) (fun _ _ _ h => h) (Or.inl ⟨by rfl, ?_⟩) ?_ ?_
                    rotate_left
                    · intro w'
                      go_simp
                      with_reducible rfl
                    rotate_left
                    · simp only [Act.put, List.setIfInBounds_toArray, List.set_cons_zero, List.set_cons_succ, i64_w, i32_w]
                      rfl
                    refine pure_ (i := 3) (N := some 28) (v := ?_) (a' := ?_) #[true, true, true, true, false, false, false, false, false, false, false, false, false, false] rfl rfl (any_of HT_.out (by kernel_rfl)) (fun _ _ _ h => h) (Or.inl ⟨by rfl, ?_⟩) ?_ ?_
                    rotate_left
                    · intro w'
                      go_simp
                      with_reducible rfl
                    rotate_left
                    · simp only [Act.put, List.setIfInBounds_toArray, List.set_cons_zero, List.set_cons_succ, i64_w, i32_w]
                      rfl
                    refine pure_ (i := 6) (N := some 31) (v := ?_) (a' := ?_) #[true, true, true, true, false, false, true, false, false, false, false, false, false, false] rfl rfl (any_of HT_.out (by kernel_rfl)) (fun _ _ _ h => h) (Or.inl ⟨by rfl, ?_⟩) ?_ ?_
                    rotate_left
                    · intro w'
                      go_simp
                      with_reducible rfl
                    rotate_left
                    · simp only [Act.put, List.setIfInBounds_toArray, List.set_cons_zero, List.set_cons_succ, i64_w, i32_w]
                      rfl
                    refine pure_ (i := 7) (N := some 32) (v := ?_) (a' := ?_) #[true, true, true, true, false, false, true, true, false, false, false, false, false, false] rfl rfl (any_of HT_.out (by kernel_rfl)) (fun _ _ _ h => h) (Or.inl ⟨by rfl, ?_⟩) ?_ ?_
                    rotate_left
                    · intro w'
                      go_simp
                      with_reducible rfl
                    rotate_left
                    · simp only [Act.put, List.setIfInBounds_toArray, List.set_cons_zero, List.set_cons_succ, i64_w, i32_w]
                      rfl
                    refine pure_ (i := 8) (N := some 33) (v := ?_) (a' := ?_) #[true, true, true, true, false, false, true, true, true, false, false, false, false, false] rfl rfl (any_of HT_.out (by kernel_rfl)) (fun _ _ _ h => h) (Or.inl ⟨by rfl, ?_⟩) ?_ ?_
                    rotate_left
                    · intro w'
                      go_simp
                      with_reducible rfl
                    rotate_left
                    · simp only [Act.put, List.setIfInBounds_toArray, List.set_cons_zero, List.set_cons_succ, i64_w, i32_w]
                      rfl
                    refine pure_ (i := 9) (N := some 34) (v := ?_) (a' := ?_) #[true, true, true, true, false, false, true, true, true, true, false, false, false, false] rfl rfl (any_of HT_.out (by kernel_rfl)) (fun _ _ _ h => h) (Or.inl ⟨by rfl, ?_⟩) ?_ ?_
                    rotate_left
                    · intro w'
                      go_simp
                      with_reducible rfl
                    rotate_left
                    · simp only [Act.put, List.setIfInBounds_toArray, List.set_cons_zero, List.set_cons_succ, i64_w, i32_w]
                      rfl
                    refine pure_ (i := 10) (N := some 35) (v := ?_) (a' := ?_) #[true, true, true, true, false, false, true, true, true, true, true, false, false, false] rfl rfl (any_of HT_.out (by kernel_rfl)) (fun _ _ _ h => h) (Or.inl ⟨by rfl, ?_⟩) ?_ ?_
                    rotate_left
                    · intro w'
                      go_simp
                      with_reducible rfl
                    rotate_left
                    · simp only [Act.put, List.setIfInBounds_toArray, List.set_cons_zero, List.set_cons_succ, i64_w, i32_w]
                      rfl
                    refine pure_ (i := 11) (N := some 36) (v := ?_) (a' := ?_) #[true, true, true, true, false, false, true, true, true, true, true, true, false, false] rfl rfl (any_of HT_.out (by kernel_rfl)) (fun _ _ _ h => h) (Or.inl ⟨by rfl, ?_⟩) ?_ ?_
                    rotate_left
                    · intro w'
                      go_simp
                      with_reducible rfl
                    rotate_left
                    · simp only [Act.put, List.setIfInBounds_toArray, List.set_cons_zero, List.set_cons_succ, i64_w, i32_w]
                      rfl
                    refine one_ (i := 4) (N := some 29) #[true, true, true, true, true, false, true, true, true, true, true, true, false, false] rfl rfl (one_of HT_.out (by kernel_rfl)) (by decide) (fun K hK => ?_)
                    refine goes_ Try.func22 (by kernel_rfl) rfl #[.slice (some ad358) (l0.take ((ji7) : Int).toNat).length c0] (by rfl) rfl rfl (by (try simp only [List.map_toArray, List.map_cons, List.map_nil]); first | done | (rw [show (l0.take ((ji7) : Int).toNat).length = (ji7).toNat from (by rw [List.length_take]; have h_ : ((ji7) : Int) ≤ (l0.length : Int) := of_decide_eq_true (by first | (with_reducible assumption) | assumption); omega)] <;> rfl) | (simp only [hji7]; rfl) | rfl | (simp only [List.length_drop, List.length_take]; rfl)) ?_
                    with_reducible refine (seamarkref08_Sum.calls k _ _ (l0.take ((ji7) : Int).toNat) t361 _ ?side1 ?side2 A10.out).mono ?_
                    (case side1 => repeat (first | exact (Kd.C_below HR360.out HB.out) | (with_reducible refine Kd.C_alloc ?_ _) | (with_reducible refine Kd.C_drewN ?_ _) | (with_reducible refine Kd.C_drew ?_)))
                    (case side2 => exact HC360.out)
                    rintro e w' ⟨rfl, ⟨nd, rfl⟩⟩
                    refine ⟨_, rfl, ?_⟩
                    refine hK.out _ _ trivial (fun hHeld => ?_)
                    clear hK K
                    refine norm_ (a' := ?_) ?_ ?_
                    rotate_left
                    · show Act.put _ (some 29) _ = _
                      simp only [Act.put, List.setIfInBounds_toArray, List.set_cons_zero, List.set_cons_succ, i64_w, i32_w]
                      rfl
                    refine one_ (i := 5) (N := some 30) #[true, true, true, true, true, true, true, true, true, true, true, true, false, false] rfl rfl (one_of HT_.out (by kernel_rfl)) (by decide) (fun K hK => ?_)
                    refine goes_ Try.func35 (by kernel_rfl) rfl #[.int .u32 t361] (by rfl) rfl rfl (by (try simp only [List.map_toArray, List.map_cons, List.map_nil]); first | done | rfl | (simp only [List.length_drop, List.length_take]; rfl)) ?_
                    with_reducible refine (seamarkref08_Four.calls t361 t362 _ A11.out).mono ?_
                    rintro e w34 ⟨v363, rfl, ho0, hb⟩
                    refine ⟨_, rfl, ?_⟩
                    have n0_ := Aside0.mk (Kd.R_lower ho0 (below_size (by repeat (first | (with_reducible first | exact HB.out | apply below_alloc | apply pw_below_drewN | apply below_drew1) | exact HB.out))))
                    have n1_ := Aside0.mk (below_step (by repeat (first | (with_reducible first | exact HB.out | apply below_alloc | apply pw_below_drewN | apply below_drew1) | exact HB.out)) hb)
                    clear HB
                    have HO364 := n0_
                    have HB := n1_
                    clear n0_ n1_
                    (try clear hb)
                    (try clear hb2)
                    (try clear hk)
                    (try clear hi)
                    (try clear ho0)
                    obtain ⟨Ao35, co35, eo35⟩ := Kd.R_slice HO364.out
                    (first | subst eo35 | (injection eo35 with f1_ f2_ f3_; have f4_ := f1_.symm; have f5_ := f3_.symm; clear f1_ f2_ f3_; subst f4_; subst f5_))
                    refine hK.out _ _ trivial (fun hHeld => ?_)
                    clear hK K
                    refine norm_ (a' := ?_) ?_ ?_
                    rotate_left
                    · show Act.put _ (some 30) _ = _
                      simp only [Act.put, List.setIfInBounds_toArray, List.set_cons_zero, List.set_cons_succ, i64_w, i32_w]
                      rfl
                    refine one_ (i := 12) (N := some 37) #[true, true, true, true, true, true, true, true, true, true, true, true, true, false] rfl rfl (one_of HT_.out (by kernel_rfl)) (by decide) (fun K hK => ?_)
                    refine goes_ Try.func15 (by kernel_rfl) rfl #[.slice Ao35 t362.length co35, .slice A33 ((l0.take ((wrap64 ((wrap64 ((wrap64 (256 * (wrap64 (rd l0 0)))) + (wrap64 (rd l0 1)))) + 6)) : Int).toNat).drop ((ji7) : Int).toNat).length (c0 - (ji7).toNat)] (by rfl) rfl rfl (by (try simp only [List.map_toArray, List.map_cons, List.map_nil]); first | done | (rw [show ((l0.take ((wrap64 ((wrap64 ((wrap64 (256 * (wrap64 (rd l0 0)))) + (wrap64 (rd l0 1)))) + 6)) : Int).toNat).drop ((ji7) : Int).toNat).length = ((wrap64 ((wrap64 ((wrap64 (256 * (wrap64 (rd l0 0)))) + (wrap64 (rd l0 1)))) + 6)).toNat - (ji7).toNat) from (by rw [List.length_drop, List.length_take]; have h_ : ((wrap64 ((wrap64 ((wrap64 (256 * (wrap64 (rd l0 0)))) + (wrap64 (rd l0 1)))) + 6)) : Int) ≤ (l0.length : Int) := of_decide_eq_true (by first | (with_reducible assumption) | assumption); omega)] <;> rfl) | (simp only [hji7]; rfl) | rfl | (simp only [List.length_drop, List.length_take]; rfl)) ?_
                    with_reducible refine (seamarkref08_Bytes.calls k _ _ t362 _ _ ((l0.take ((wrap64 ((wrap64 ((wrap64 (256 * (wrap64 (rd l0 0)))) + (wrap64 (rd l0 1)))) + 6)) : Int).toNat).drop ((ji7) : Int).toNat) false _ ?side1 ?side2 ?side3 ?side4 A15.out).mono ?_
                    (case side1 => repeat (first | exact (Kd.R_reads' HO364.out).2.2 | (with_reducible refine Kd.C_alloc ?_ _) | (with_reducible refine Kd.C_drewN ?_ _) | (with_reducible refine Kd.C_drew ?_)))
                    (case side2 => exact (Kd.R_reads' HO364.out).2.1)
                    (case side3 => repeat (first | exact (Kd.C_below HR365.out HB.out) | (with_reducible refine Kd.C_alloc ?_ _) | (with_reducible refine Kd.C_drewN ?_ _) | (with_reducible refine Kd.C_drew ?_)))
                    (case side4 => exact HC365.out)
                    rintro e w' ⟨rfl, ⟨nd, rfl⟩⟩
                    refine ⟨_, rfl, ?_⟩
                    refine hK.out _ _ trivial (fun hHeld => ?_)
                    clear hK K
                    refine norm_ (a' := ?_) ?_ ?_
                    rotate_left
                    · show Act.put _ (some 37) _ = _
                      simp only [Act.put, List.setIfInBounds_toArray, List.set_cons_zero, List.set_cons_succ, i64_w, i32_w]
                      rfl
                    refine pure_ (i := 13) (N := some 6) (v := ?_) (a' := ?_) #[true, true, true, true, true, true, true, true, true, true, true, true, true, true] rfl rfl (any_of HT_.out (by kernel_rfl)) (fun _ _ _ h => h) (Or.inl ⟨by rfl, ?_⟩) ?_ ?_
                    rotate_left
                    · intro w'
                      go_simp
                      with_reducible rfl
                    rotate_left
                    · simp only [Act.put, List.setIfInBounds_toArray, List.set_cons_zero, List.set_cons_succ, i64_w, i32_w]
                      rfl
                    refine done_ (done_of HT_.out (by kernel_rfl)) ?_
                    try go_wp2
                    go_ret3
                    exact ⟨_, by first | rfl | (simp [errW_none, errW_some] <;> rfl) | (simp only [← hji7]; first | rfl | (simp [errW_none, errW_some] <;> rfl)) | (simp [*, errW_none, errW_some] <;> rfl), by first | exact Kd.R_nil _ _ _ _ _ | exact Kd.N_nil _ _ _ _ _ | exact Kd.V_nil _ _ _ _ _ | exact Kd.Q_nil _ _ _ _ _ | exact Kd.S_nil _ _ _ _ _, by repeat (first | (with_reducible first | exact HB.out | apply below_alloc | apply pw_below_drewN | apply below_drew1) | exact HB.out)⟩
                · rw [if_neg c14] at H
                  exact absurd H (by simp)
              · rw [if_neg c13] at H
                exact absurd H (by simp)
            · rw [if_neg c9] at H
              exact absurd H (by simp)
          · rw [if_neg c8] at H
            exact absurd H (by simp)
      · rw [if_neg c4] at H
        exact absurd H (by simp)
    · rw [if_neg c3] at H
      exact absurd H (by simp)

end Go.Proofs.Ytonhinepgkommaa.Q
