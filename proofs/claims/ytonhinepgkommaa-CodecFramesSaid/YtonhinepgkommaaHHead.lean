/- The examples of codec's chapter: the law's head returns true. -/
import Derived.Test.YtonhinepgkommaaHCodec5
import Derived.Test.YtonhinepgkommaaQ1
import Derived.Lib.SlBytesConst
set_option linter.unusedVariables false
set_option linter.unusedSimpArgs false
namespace Go.Proofs.YtonhinepgkommaaH
open Go Go.RowKit Go.Proofs.YtonhinepgkommaaW.PrintWords Go.Proofs.YtonhinepgkommaaW.PrintLast Go.Proofs.YtonhinepgkommaaW.PrintMore Go.Proofs.Ytonhinepgkommaa.Q

theorem C_row {k : IntKind} {e : Nat} {W : World} (xs : List Int) (fr : Nat × Nat) (h : xs.length ≤ 9223372036854775807) :
    Kd.C (Kd.int k) (W.alloc (.cells (nums k xs).toArray e fr)) (some ⟨W.heap.size, 0, none⟩) xs.length xs := by
  refine Kd.C_of_reads (d := (0 : Int)) (h1 := fun _ => rfl) ⟨rfl, h, fun hn => ⟨_, rfl, fun j hj => ?_⟩⟩
  have hadd : (⟨W.heap.size, 0, none⟩ : Addr).add j = ⟨W.heap.size, j, none⟩ := by unfold Addr.add; split <;> simp_all
  rw [hadd, cell_of_row _ _ _ _ _ fr (heap_alloc_new W _)]
  simp [nums, List.getElem?_eq_getElem hj, List.getD_eq_getElem?_getD]

theorem put_ex (W : World) : Calls Try.prog 13 #[.slice (some ⟨W.heap.size, 0, none⟩) 6 6] (W.alloc (.cells #[.int .i64 0, .int .i64 (-1), .int .i64 1, .int .i64 63, .int .i64 64, .int .i64 (-65)] 3)) fun e w' =>
    ∃ v A c, e = .returned v ∧ v = .slice A 8 c ∧ 8 ≤ c ∧ Kd.C (Kd.int .u8) w' A 8 [0, 1, 2, 126, 128, 1, 129, 1] ∧ Below W.heap.size W w' := by
  refine (codec_Put.calls 40 (some ⟨W.heap.size, 0, none⟩) 6 [0, -1, 1, 63, 64, -65] [0, 1, 2, 126, 128, 1, 129, 1] _ (C_row _ _ (by decide)) (by decide) (by kernel_rfl)).mono ?_
  rintro e w' ⟨v, rfl, ho, hb⟩
  obtain ⟨A, c, hv, hl, hc⟩ := Kd.R_reads ho
  exact ⟨v, A, c, rfl, hv, hl, hc, below_then (below_alloc (Below.refl _ _) _) (below_alloc (Below.refl _ _) _).size hb⟩
theorem get_ex1 (W : World) : Calls Try.prog 12 #[.slice (some ⟨W.heap.size, 0, none⟩) 2 2] (W.alloc (.cells #[.int .u8 128, .int .u8 0] 5)) fun e w' =>
    ∃ v, e = .returned (.tuple #[v, .int .i64 7]) ∧ Below W.heap.size W w' := by
  refine (codec_Get.calls (some ⟨W.heap.size, 0, none⟩) 2 [128, 0] [] 7 _ (C_row _ _ (by decide)) (by decide) (by kernel_rfl)).mono ?_
  rintro e w' ⟨v, rfl, ho, hb⟩
  exact ⟨v, rfl, below_then (below_alloc (Below.refl _ _) _) (below_alloc (Below.refl _ _) _).size hb⟩
theorem get_ex2 (W : World) : Calls Try.prog 12 #[.slice (some ⟨W.heap.size, 0, none⟩) 1 1] (W.alloc (.cells #[.int .u8 128] 5)) fun e w' =>
    ∃ v, e = .returned (.tuple #[v, .int .i64 8]) ∧ Below W.heap.size W w' := by
  refine (codec_Get.calls (some ⟨W.heap.size, 0, none⟩) 1 [128] [] 8 _ (C_row _ _ (by decide)) (by decide) (by kernel_rfl)).mono ?_
  rintro e w' ⟨v, rfl, ho, hb⟩
  exact ⟨v, rfl, below_then (below_alloc (Below.refl _ _) _) (below_alloc (Below.refl _ _) _).size hb⟩
theorem open_ex (W : World) : Calls Try.prog 18 #[.slice (some ⟨W.heap.size, 0, none⟩) 7 7] (W.alloc (.cells #[.int .u8 0, .int .u8 0, .int .u8 255, .int .u8 18, .int .u8 217, .int .u8 65, .int .u8 7] 5)) fun e w' =>
    ∃ A c, e = .returned (.tuple #[.slice A 0 c, .int .i64 6, .int .i64 0]) ∧ Below W.heap.size W w' := by
  refine (codec_Open.calls (some ⟨W.heap.size, 0, none⟩) 7 [0, 0, 255, 18, 217, 65, 7] [] 6 0 _ (C_row _ _ (by decide)) (by decide) (by kernel_rfl)).mono ?_
  rintro e w' ⟨v, rfl, ho, hb⟩
  obtain ⟨A, c, hv, hl, hc⟩ := Kd.R_reads ho
  exact ⟨A, c, by rw [hv]; rfl, below_then (below_alloc (Below.refl _ _) _) (below_alloc (Below.refl _ _) _).size hb⟩
theorem bytes_ex (W w : World) (A : Option Addr) (c : Nat) (hc : Kd.C (Kd.int .u8) W A 8 [0, 1, 2, 126, 128, 1, 129, 1]) (hl : 8 ≤ c) :
    Calls Try.prog 15 #[.slice A 8 c, .slice (some ⟨W.heap.size, 0, none⟩) 8 8] (W.alloc (.cells #[.int .u8 0, .int .u8 1, .int .u8 2, .int .u8 126, .int .u8 128, .int .u8 1, .int .u8 129, .int .u8 1] 5)) fun e w' =>
    e = .returned (.bool true) ∧ Below W.heap.size W w' := by
  refine (seamarkref08_Bytes.calls 40 A c [0, 1, 2, 126, 128, 1, 129, 1] (some ⟨W.heap.size, 0, none⟩) 8 [0, 1, 2, 126, 128, 1, 129, 1] true _ (Kd.C_alloc hc _) hl (C_row _ _ (by decide)) (by decide) (by kernel_rfl)).mono ?_
  rintro e w' ⟨rfl, hd⟩
  exact ⟨rfl, below_then (below_alloc (Below.refl _ _) _) (below_alloc (Below.refl _ _) _).size hd.below⟩
theorem sum_ex1 (W : World) : Calls Try.prog 16 #[.slice (some ⟨W.heap.size, 0, none⟩) 9 9] (W.alloc (.cells #[.int .u8 49, .int .u8 50, .int .u8 51, .int .u8 52, .int .u8 53, .int .u8 54, .int .u8 55, .int .u8 56, .int .u8 57] 5 (9, 10))) fun e w' =>
    e = .returned (.int .u32 3421780262) ∧ Below W.heap.size W w' := by
  refine (codec_Sum.calls (some ⟨W.heap.size, 0, none⟩) 9 [49, 50, 51, 52, 53, 54, 55, 56, 57] 3421780262 _ (C_row _ _ (by decide)) (by decide) (by kernel_rfl)).mono ?_
  rintro e w' ⟨rfl, hb⟩
  exact ⟨rfl, below_then (below_alloc (Below.refl _ _) _) (below_alloc (Below.refl _ _) _).size hb⟩
theorem sum_ex2 (W : World) : Calls Try.prog 16 #[.slice (some ⟨W.heap.size, 0, none⟩) 2 2] (W.alloc (.cells #[.int .u8 0, .int .u8 0] 5)) fun e w' =>
    e = .returned (.int .u32 1104745215) ∧ Below W.heap.size W w' := by
  refine (codec_Sum.calls (some ⟨W.heap.size, 0, none⟩) 2 [0, 0] 1104745215 _ (C_row _ _ (by decide)) (by decide) (by kernel_rfl)).mono ?_
  rintro e w' ⟨rfl, hb⟩
  exact ⟨rfl, below_then (below_alloc (Below.refl _ _) _) (below_alloc (Below.refl _ _) _).size hb⟩

def seamarklaw08_head.f : Option Bool := some true

set_option maxHeartbeats 2000000 in
set_option maxRecDepth 100000 in
theorem seamarklaw08_head.calls (r : Bool) (w : World) (h : seamarklaw08_head.f = some r) :
    Calls Try.prog 11 #[] w fun e w' => e = .returned (.bool r) ∧ Below w.heap.size w w' := by
  obtain rfl := Option.some.inj h
  clear h
  have HB := Aside0.mk (Below.refl w.heap.size w)
  have kc := fun (w : World) (C : Array Value) (n c : Nat) => Lib.run_convert_bytes_const (P := Try.prog) w 23 5 C n c Try.underlying23 Try.underlying5
  go_enter Try.func11, Try.ntmps11
  go_wp2_with (first
    | (go_at_call 13; (with_reducible refine (put_ex _).mono ?_); rintro e w1 ⟨v, A1, c1, rfl, rfl, hl1, hc1, hb1⟩; have HC1 := Aside0.mk hc1; have HL1 := Aside0.mk hl1; have HB1 := Aside0.mk (below_then HB.out HB.out.size hb1); clear hl1 hc1 hb1)
    | (go_at_call 12; (with_reducible refine (get_ex1 _).mono ?_); rintro e w2 ⟨v2, rfl, hb1⟩; have HC2 := Aside0.mk (Kd.C_below HC1.out hb1); have HB2 := Aside0.mk (below_then HB1.out HB1.out.size hb1); clear hb1)
    | (go_at_call 12; (with_reducible refine (get_ex2 _).mono ?_); rintro e w3 ⟨v3, rfl, hb1⟩; have HC3 := Aside0.mk (Kd.C_below HC2.out hb1); have HB3 := Aside0.mk (below_then HB2.out HB2.out.size hb1); clear hb1)
    | (go_at_call 18; (with_reducible refine (open_ex _).mono ?_); rintro e w4 ⟨A4, c4, rfl, hb1⟩; have HC4 := Aside0.mk (Kd.C_below HC3.out hb1); have HB4 := Aside0.mk (below_then HB3.out HB3.out.size hb1); clear hb1)
    | (go_at_call 15; (with_reducible refine (bytes_ex _ w _ _ HC4.out HL1.out).mono ?_); rintro e w5 ⟨rfl, hb1⟩; have HB5 := Aside0.mk (below_then HB4.out HB4.out.size hb1); clear hb1)
    | (go_at_call 16; (with_reducible refine (sum_ex1 _).mono ?_); rintro e w6 ⟨rfl, hb1⟩; have HB6 := Aside0.mk (below_then HB5.out HB5.out.size hb1); clear hb1)
    | (go_at_call 16; (with_reducible refine (sum_ex2 _).mono ?_); rintro e w7 ⟨rfl, hb1⟩; have HB7 := Aside0.mk (below_then HB6.out HB6.out.size hb1); clear hb1))
  go_ret
  exact ⟨rfl, HB7.out⟩
end Go.Proofs.YtonhinepgkommaaH
