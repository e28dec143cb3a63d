/- Lemmas and contracts that the laws of this seat share, part 2 (put together by this session's program out of its own texts and of the words that print.sh wrote for this seat). -/
import Derived.Deep.RegionWith
import Derived.LoopIn
import Derived.LoopNIn
import Derived.OwnWalkIn
import Derived.RangeFuncBound
import Derived.RangeFuncCalls
import Derived.RangeFuncLeaves
import Derived.RangeFuncNested
import Derived.Shelf.Abstract
import Derived.Shelf.RegionOpen
import Derived.TacticsInMore
import Derived.WalkKit
import Derived.Test.YthiealhmcfdakaaB1
section
set_option linter.unusedVariables false
set_option linter.unusedSimpArgs false
namespace Go.Proofs.YthiealhmcfdakaaH
open Go Go.RowKit Go.Shelf Go.Proofs.YthiealhmcfdakaaW.PrintWords Go.Proofs.YthiealhmcfdakaaW.PrintLast Go.Proofs.YthiealhmcfdakaaW.PrintMore
attribute [local go_sem] Oper.semAt_some
set_option maxRecDepth 100000 in
theorem backward_calls (A : Option Addr) (m c : Nat) (w : World) : Calls Try.prog 65 #[.slice A m c] w fun e w' =>
    e = .returned (.func (.func 71) #[] #[.pointer (some ⟨w.heap.size, 0, none⟩)]) ∧ w' = w.alloc (.cells #[.slice A m c] 28) := by
  have hmf : ∀ (fn : Fn) (first cap : Array Value) (w : World), (Instr.makeFunc fn first cap).run Try.prog w = .ok (.func fn first cap) w := fun _ _ _ _ => rfl
  go_enter Try.func65, Try.ntmps65
  go_wp2_with fail
  go_ret
  exact ⟨rfl, rfl⟩
def bigOf (x : Int) (n : Nat) : List Int := (List.range n).map fun i => (x / 256 ^ (n - 1 - i)) % 256
def bigTo (x : Int) (n k : Nat) : List Int := (List.range n).map fun i => if n ≤ i + k then (x / 256 ^ (n - 1 - i)) % 256 else 0
theorem bigTo_len (x : Int) (n k : Nat) : (bigTo x n k).length = n := by simp [bigTo]
theorem bigTo_zero (x : Int) (n : Nat) : bigTo x n 0 = List.replicate n 0 := by
  apply List.ext_getElem (by simp [bigTo])
  intro i h1 h2
  simp only [bigTo, List.getElem_map, List.getElem_range, List.getElem_replicate]
  rw [if_neg]
  simp [bigTo] at h1; omega
theorem bigTo_all (x : Int) (n : Nat) : bigTo x n n = bigOf x n := by
  apply List.ext_getElem (by simp [bigTo, bigOf])
  intro i h1 h2
  simp only [bigTo, bigOf, List.getElem_map, List.getElem_range]
  rw [if_pos (by omega)]
theorem bigTo_succ (x : Int) (n k : Nat) (hk : k < n) : bigTo x n (k + 1) = (bigTo x n k).set (n - 1 - k) ((x / 256 ^ k) % 256) := by
  apply List.ext_getElem (by simp [bigTo])
  intro i h1 h2
  simp only [bigTo, List.length_map, List.length_range] at h1
  rw [List.getElem_set]
  simp only [bigTo, List.getElem_map, List.getElem_range]
  by_cases h : n - 1 - k = i
  · rw [if_pos h, if_pos (by omega), show n - 1 - i = k by omega]
  · rw [if_neg h]
    by_cases h3 : n ≤ i + k
    · rw [if_pos h3, if_pos (by omega)]
    · rw [if_neg h3, if_neg (by omega)]
structure BigI (w : World) (a0 : Int) (n : Nat) (k : Nat) (W : World) : Prop where
  x : Boxed W w.heap.size 3 (.int .i64 (a0 / 256 ^ k))
  b : Boxed W (w.heap.size + 1 + 1) 28 (.slice (some ⟨w.heap.size + 1, 0, none⟩) n n)
  s : Boxed W (w.heap.size + 1 + 1 + 1) 28 (.slice (some ⟨w.heap.size + 1, 0, none⟩) n n)
  row : W.ownsRow w.heap.size 5 1 (.slice (some ⟨w.heap.size + 1, 0, none⟩) n n) n (nums .u8 (bigTo a0 n k))
  low : Below w.heap.size w W
  le : k ≤ n
theorem BigI.kept {w : World} {a0 : Int} {n k : Nat} {W W' : World} {r : Option Nat} (h : BigI w a0 n k W) (hg : W.grownBy W' r) (hr : ∀ j, r = some j → w.heap.size + 1 + 1 + 1 < j) : BigI w a0 n k W' where
  x := h.x.kept hg (fun e => by have := hr _ e.symm; omega)
  b := h.b.kept hg (fun e => by have := hr _ e.symm; omega)
  s := h.s.kept hg (fun e => by have := hr _ e.symm; omega)
  row := h.row.kept hg (.inr (fun e => by have := hr (w.heap.size + 1) (by rw [← e]; rfl); omega))
  low := h.low.grown hg h.low.size (fun j e => by have := hr j e; omega)
  le := h.le
def piece_big.f (x n : Int) : Option (List Int) := if 0 ≤ n ∧ n ≤ 1000 then some (bigOf x n.toNat) else none
set_option maxHeartbeats 2000000 in
set_option maxRecDepth 100000 in
theorem piece_big.calls (a0 a1 : Int) (r : List Int) (w : World) (h : piece_big.f a0 a1 = some r) :
    Calls Try.prog 46 #[.int .i64 a0, .int .i64 a1] w fun e w' => ∃ v0_ : Value, e = .returned v0_ ∧ Kd.R (Kd.int .u8) 5 w' w.heap.size (fun _ => True) v0_ r ∧ Below w.heap.size w w' := by
  unfold piece_big.f at h
  by_cases hn : 0 ≤ a1 ∧ a1 ≤ 1000
  case neg => rw [if_neg hn] at h; cases h
  rw [if_pos hn] at h
  obtain rfl := Option.some.inj h
  clear h
  obtain ⟨n, rfl⟩ := Int.eq_ofNat_of_zero_le hn.1
  refine (callsIn_wide (n := 6)).1 ?_
  refine callsIn_of_wp_marks Try.func46 rfl trivial ?_ rfl
  simp only [Try.ntmps46, List.size_toArray, List.length_cons, List.length_nil, Nat.reduceAdd, Nat.reduceSub, Array.replicate_succ, Array.replicate_zero, List.push_toArray, List.append_toArray, List.nil_append, List.cons_append]
  obtain ⟨i0, hi, hz0, hz1, hz2⟩ := info_parts info_u8
  have hmk := fun W : World => run_make (P := Try.prog) W 28 5 i0 (.int .u8 0) Try.underlying28 hi hz0 .i64 .i64 (n : Int) (n : Int) (by omega) (by omega) (by rw [hz2]; omega) (by omega)
  simp only [hz1, Int.toNat_natCast] at hmk
  gi_wp2
  refine ⟨trivial, (callsIn_wide.2 (backward_calls _ _ _ _)).mono ?_⟩
  rintro e w' ⟨rfl, rfl⟩
  gi_wp2
  obtain ⟨W0, hW0⟩ : ∃ W0, ((((w.alloc (Obj.cells #[Value.int IntKind.i64 a0] 3)).alloc (Obj.cells (madeCells #[Value.int IntKind.u8 0] n) 5)).alloc (Obj.cells #[Value.slice (some { block := w.heap.size + 1, off := 0 }) n n] 28)).alloc (Obj.cells #[Value.slice (some { block := w.heap.size + 1, off := 0 }) n n] 28)) = W0 := ⟨_, rfl⟩
  have hI0 : BigI w a0 n 0 W0 := by
    have e1 : (madeCells #[Value.int IntKind.u8 0] n).toList = nums .u8 (bigTo a0 n 0) := by rw [toList_madeCells_one, bigTo_zero]; simp [nums]
    rw [← hW0]
    refine ⟨?_, ?_, ?_, ?_, ?_, Nat.zero_le _⟩
    · have := (((Boxed.new w 3 (.int .i64 a0)).alloc (Obj.cells (madeCells #[Value.int IntKind.u8 0] n) 5)).alloc (Obj.cells #[Value.slice (some { block := w.heap.size + 1, off := 0 }) n n] 28)).alloc (Obj.cells #[Value.slice (some { block := w.heap.size + 1, off := 0 }) n n] 28)
      simpa using this
    · have := (Boxed.new ((w.alloc (Obj.cells #[Value.int IntKind.i64 a0] 3)).alloc (Obj.cells (madeCells #[Value.int IntKind.u8 0] n) 5)) 28 (.slice (some ⟨w.heap.size + 1, 0, none⟩) n n)).alloc (Obj.cells #[Value.slice (some { block := w.heap.size + 1, off := 0 }) n n] 28)
      simpa using this
    · have := Boxed.new (((w.alloc (Obj.cells #[Value.int IntKind.i64 a0] 3)).alloc (Obj.cells (madeCells #[Value.int IntKind.u8 0] n) 5)).alloc (Obj.cells #[Value.slice (some { block := w.heap.size + 1, off := 0 }) n n] 28)) 28 (.slice (some ⟨w.heap.size + 1, 0, none⟩) n n)
      simpa using this
    · have hs := World.size_alloc w (Obj.cells #[Value.int IntKind.i64 a0] 3)
      have := ((World.ownsRow_lit (base := w.heap.size) (e := 5) (size := 1) (w.alloc (Obj.cells #[Value.int IntKind.i64 a0] 3)) (madeCells #[Value.int IntKind.u8 0] n) n (by rw [hs]; omega) (by unfold maxLen; omega) (by rw [size_madeCells, Nat.mul_one])).alloc (Obj.cells #[Value.slice (some { block := w.heap.size + 1, off := 0 }) n n] 28)).alloc (Obj.cells #[Value.slice (some { block := w.heap.size + 1, off := 0 }) n n] 28)
      rw [e1, hs] at this
      exact this
    · exact ((((Below.refl _ w).alloc (Nat.le_refl _) _).alloc (by simp) _).alloc (by simp; omega) _).alloc (by simp; omega) _
  have hsz : W0.heap.size = w.heap.size + 4 := by rw [← hW0]; simp
  rw [hW0]
  clear hmk
  refine range_all (α := Nat × Int) rfl (by decide) (gf := 71) rfl trivial (enters_of Try.func71 (by kernel_rfl) rfl) (fun x => #[.int .i64 (x.1 : Int), .int .u8 x.2]) (fun _ => rfl)
    (fun pre W => BigI w a0 n pre.length W) (fun pre x W => x.1 + pre.length + 1 = n) (fun W => BigI w a0 n n W) ?turn ?start
    (fun x => { tmps := #[.int .i64 a0, .int .i64 (n : Int), .pointer (some ⟨w.heap.size, 0, none⟩), undef, .slice none 0 0, .pointer (some ⟨w.heap.size + 1 + 1, 0, none⟩), .int .i64 (x.1 : Int), .int .i64 (n : Int), .slice (some ⟨w.heap.size + 1, 0, none⟩) n n, .slice (some ⟨w.heap.size + 1, 0, none⟩) n n, .func (.func 71) #[] #[.pointer (some ⟨w.heap.size + 1 + 1 + 1, 0, none⟩)], .int .i64 (x.1 : Int), .int .u8 x.2, undef, undef, undef, undef, undef, undef, undef, undef], defers := [] }) ?assign ?body ?iter ?done
  case turn =>
    intro W k o o' hk ho hc
    have hg := grownBy_putObj' W k o'
    exact ⟨fun xs h => h.kept hg (fun j e => by cases e; omega), fun _ _ h => h, fun h => h.kept hg (fun j e => by cases e; omega)⟩
  case start =>
    intro o1 o2
    exact (hI0.kept (World.grownBy_alloc W0 o1 none) (fun j e => by cases e)).kept (World.grownBy_alloc _ o2 none) (fun j e => by cases e)
  case assign =>
    intro l x W K hK
    gi_wp2
    exact hK
  case body =>
    rintro l pre ⟨i, v⟩ W hI hp
    have hp' : i + pre.length + 1 = n := hp
    obtain ⟨k, hk⟩ : ∃ k, k = pre.length := ⟨_, rfl⟩
    have hI' : BigI w a0 n k W := by rw [hk]; exact hI
    rw [← hk] at hp'
    have hc1 := hI'.x.cell
    have hf1 := hI'.x.frozen
    have hc2 := hI'.b.cell
    have hlen := bigTo_len a0 n k
    have hcr := hI'.row.cellAt i (by omega)
    have hfr := hI'.row.frozenAt i
    rw [show (nums .u8 (bigTo a0 n k))[i]? = some (.int .u8 (rd (bigTo a0 n k) (i : Int))) from by
      have h1 : i < (bigTo a0 n k).length := by omega
      simp [nums, rd, List.getElem?_eq_getElem h1]] at hcr
    have hi0 : (0 : Int) ≤ (i : Int) := by omega
    have hi1 : (i : Int) < (n : Int) := by omega
    gi_wp2
    refine ⟨((KeepsOthers.setCell _ _ _).trans (KeepsOthers.setCell _ _ _)).from _, ?_⟩
    rw [← hk]
    obtain ⟨hr1, hg1⟩ := own_store (k := .u8) hI'.row (i : Int) (a0 / 256 ^ k % 256)
    rw [Int.toNat_natCast] at hr1 hg1
    have hg2 := grownBy_setCell' (W.setCell { block := w.heap.size + 1, off := i } (Value.int IntKind.u8 (a0 / 256 ^ k % 256))) w.heap.size (Value.int IntKind.i64 (a0 / 256 ^ k / 256))
    have e256 : a0 / 256 ^ k / 256 = a0 / 256 ^ (k + 1) := by
      rw [Int.pow_succ, Int.ediv_ediv_of_nonneg (Int.pow_nonneg (by decide))]
    refine ⟨?_, ?_, ?_, ?_, ?_, by omega⟩
    · rw [← e256]
      exact (hI'.x.kept hg1 (fun e => by have := Option.some.inj e; omega)).set _
    · exact (hI'.b.kept hg1 (fun e => by have := Option.some.inj e; omega)).kept hg2 (fun e => by have := Option.some.inj e; omega)
    · exact (hI'.s.kept hg1 (fun e => by have := Option.some.inj e; omega)).kept hg2 (fun e => by have := Option.some.inj e; omega)
    · rw [bigTo_succ a0 n k (by omega), show n - 1 - k = i by omega]
      exact hr1.kept hg2 (.inr (fun e => by simp [Value.ownBlock] at e))
    · exact (hI'.low.setCell (p := ⟨w.heap.size + 1, i, none⟩) (Nat.le_succ _) _).setCell (p := ⟨w.heap.size, 0, none⟩) (Nat.le_refl _) _
  case iter =>
    intro l W1 R hlow hsz1 hR hY hI1 hR1
    refine callsIn_of_wp Try.func71 rfl trivial ?_ rfl
    simp only [Try.ntmps71, List.size_toArray, List.length_cons, List.length_nil, Nat.reduceAdd, Nat.reduceSub, Array.replicate_succ, Array.replicate_zero, List.push_toArray, List.append_toArray, List.nil_append, List.cons_append]
    have hs0 := hI1.s.cell
    gi_wp2
    gi_loopw [3] (fun p wr => ∃ pre : List (Nat × Int), p = .int .i64 ((n : Int) - 1 - (pre.length : Int)) ∧ BigI w a0 n pre.length wr ∧ R wr) (fun p _ => (intOf p + 1).toNat)
    case atStart => exact ⟨[], by simp, hI1, hR1⟩
    case round =>
      obtain ⟨pre, rfl, hI, hRr⟩ := hrel
      have hs1 := hI.s.cell
      have hle := hI.le
      by_cases hp : pre.length < n
      · obtain ⟨i, hi2⟩ : ∃ i, i + pre.length + 1 = n := ⟨n - 1 - pre.length, by omega⟩
        have hii : (n : Int) - 1 - (pre.length : Int) = (i : Int) := by omega
        have hlen := bigTo_len a0 n pre.length
        have hcr := hI.row.cellAt i (by omega)
        rw [show (nums .u8 (bigTo a0 n pre.length))[i]? = some (.int .u8 (rd (bigTo a0 n pre.length) (i : Int))) from by
          have h1 : i < (bigTo a0 n pre.length).length := by omega
          simp [nums, rd, List.getElem?_eq_getElem h1]] at hcr
        have hi0 : (0 : Int) ≤ (i : Int) := by omega
        have hi1 : (i : Int) < (n : Int) := by omega
        obtain ⟨fn, tmps, assign, body, hy, hRd⟩ := hY pre (i, rd (bigTo a0 n pre.length) (i : Int)) _ hI hRr hi2
        dsimp only at hy
        rw [hii]
        have hlast : (n : Int) - 1 - ((pre.length : Int) + 1) = (i : Int) - 1 := by omega
        have HL := Aside0.mk hlast
        have HII := Aside0.mk hii
        clear hlast hii
        gi_wp2
        refine hRd.mono ?_
        rintro e W3 ⟨rfl, hI3, hR3⟩
        gi_wp2
        go_roundw
        case rel => exact ⟨pre ++ [(i, rd (bigTo a0 n pre.length) (i : Int))], by rw [List.length_append, List.length_singleton, Int.natCast_add]; exact (by rw [show ((1 : Nat) : Int) = 1 from rfl, HL.out]), hI3, hR3⟩
        case measure => first | (simp [intOf]; done) | (simp [intOf]; omega)
      · have hpn : pre.length = n := by omega
        have hneg : (n : Int) - 1 - (pre.length : Int) = -1 := by omega
        rw [hneg]
        rw [hpn] at hI
        clear hneg
        gi_wp2
        go_end0
        exact ⟨⟨_, rfl⟩, hRr, hI⟩
  case done =>
    intro D W hD hF hd
    have hc := hF.b.cell
    gi_wp2
    refine ⟨by simp, .inl ⟨_, _, rfl, run_takeDeferred hd, ?_⟩⟩
    have hE := hF.kept (grownBy_putObj' W D (.deferred none)) (fun j e => by cases e; omega)
    refine ⟨_, results_tmp rfl _ _ _, _, rfl, ?_, hE.low⟩
    rw [Int.toNat_natCast, ← bigTo_all]
    refine Kd.R_of_own (enc := Value.int .u8) ?_ (fun _ _ => trivial)
    rw [bigTo_len]
    exact hE.row
end Go.Proofs.YthiealhmcfdakaaH
end
section
namespace Go.Proofs.Ythiealhmcfdakaa.E
open Go.RowKit Go.Proofs.YthiealhmcfdakaaH Go.Proofs.YthiealhmcfdakaaW.PrintWords Go.Proofs.YthiealhmcfdakaaW.PrintLast Go.Proofs.YthiealhmcfdakaaW.PrintMore
attribute [local go_sem] max2_int min2_int max_two min_two max_three min_three max_four min_four   -- for this text's walks alone
set_option linter.unusedVariables false
set_option linter.unusedSimpArgs false
def codec_Frame.f (l0 : List Int) : Option (List Int × Int) := if (l0.length : Int) > 65535 then (some (([] : List Int), 2)) else ((some (([((l0.length : Int) / 256) % 256, ((l0.length : Int)) % 256] : List Int) : List Int)).bind fun y176 => (if y176.length + l0.length < 140737488355328 then ((some (y176 ++ l0 : List Int)).bind fun y179 => ((codec_Sum.f y179).bind fun t182 => ((some (([(t182) % 256, (t182 / 256) % 256, (t182 / 65536) % 256, (t182 / 16777216) % 256] : List Int) : List Int)).bind fun y183 => (if y179.length + y183.length < 140737488355328 then (some ((y179 ++ y183), 0)) else (none))))) else (none)))
set_option maxHeartbeats 8000000 in
set_option maxRecDepth 100000 in
theorem codec_Frame.calls (A0 : Option Addr) (c0 : Nat) (l0 : List Int) (r1 : List Int) (r2 : Int) (w : World) (hr0 : Kd.C (Kd.int .u8) w A0 l0.length l0) (hc0 : l0.length ≤ c0) (h : codec_Frame.f l0 = some (r1, r2)) :
    Calls Try.prog 47 #[.slice A0 l0.length c0] w fun e w' => ∃ v0_ : Value, e = .returned (.tuple #[v0_, .int .i64 r2]) ∧ Kd.R (Kd.int .u8) 5 w' w.heap.size (fun _ => True) v0_ r1 ∧ Below w.heap.size w w' := by
  have HR0 := Aside0.mk hr0
  have HC0 := Aside0.mk hc0
  clear hr0 hc0
  have HB := Aside0.mk (Below.refl w.heap.size w)
  have H : (if (l0.length : Int) > 65535 then (some (([] : List Int), 2)) else ((some (([((l0.length : Int) / 256) % 256, ((l0.length : Int)) % 256] : List Int) : List Int)).bind fun y176 => (if y176.length + l0.length < 140737488355328 then ((some (y176 ++ l0 : List Int)).bind fun y179 => ((codec_Sum.f y179).bind fun t182 => ((some (([(t182) % 256, (t182 / 256) % 256, (t182 / 65536) % 256, (t182 / 16777216) % 256] : List Int) : List Int)).bind fun y183 => (if y179.length + y183.length < 140737488355328 then (some ((y179 ++ y183), 0)) else (none))))) else (none)))) = some (r1, r2) := h
  clear h
  by_cases c2 : (l0.length : Int) > 65535
  · rw [if_pos c2] at H
    have c2b0 : decide (65535 < (l0.length : Int)) = true := decide_eq_true c2
    have c2b1 : decide (65535 < l0.length) = true := decide_eq_true (by omega)
    clear c2
    simp only [Option.some.injEq, Prod.mk.injEq] at H
    obtain ⟨rfl, rfl⟩ := H
    go_enter Try.func47, Try.ntmps47
    go_wp2
    go_ret2
    exact ⟨_, by first | rfl | (simp [errW_none, errW_some] <;> rfl) | (simp [*, errW_none, errW_some] <;> rfl), by first | exact Kd.R_nil _ _ _ _ _ | exact Kd.N_nil _ _ _ _ _ | exact Kd.V_nil _ _ _ _ _ | exact Kd.Q_nil _ _ _ _ _ | exact Kd.S_nil _ _ _ _ _, by repeat (first | (with_reducible first | exact HB.out | apply below_alloc | apply pw_below_drewN | apply below_drew1) | exact HB.out)⟩
  · rw [if_neg c2] at H
    have c2b0 : decide (65535 < (l0.length : Int)) = false := decide_eq_false c2
    have c2b1 : decide (65535 < l0.length) = false := decide_eq_false (by omega)
    clear c2
    obtain ⟨y176, hy176⟩ : ∃ y_ : List Int, y_ = (([((l0.length : Int) / 256) % 256, ((l0.length : Int)) % 256] : List Int)) := ⟨_, rfl⟩
    replace H : (if y176.length + l0.length < 140737488355328 then ((some (y176 ++ l0 : List Int)).bind fun y179 => ((codec_Sum.f y179).bind fun t182 => ((some (([(t182) % 256, (t182 / 256) % 256, (t182 / 65536) % 256, (t182 / 16777216) % 256] : List Int) : List Int)).bind fun y183 => (if y179.length + y183.length < 140737488355328 then (some ((y179 ++ y183), 0)) else (none))))) else (none)) = some (r1, r2) := by first | (rw [hy176]; with_reducible exact H) | (have H2_ := (Option.bind_some _ _).symm.trans H; rw [hy176]; with_reducible exact H2_) | (have H2_ := (Option.bind_some _ _).symm.trans H; with_reducible exact H2_) | with_reducible exact H | (rw [hy176]; exact H) | exact H
    have Ny176 := Aside0.mk hy176
    clear hy176
    by_cases c3 : y176.length + l0.length < 140737488355328
    · rw [if_pos c3] at H
      have LMc3 := Aside0.mk c3
      clear c3
      obtain ⟨y179, hy179⟩ : ∃ y_ : List Int, y_ = (y176 ++ l0) := ⟨_, rfl⟩
      replace H : ((codec_Sum.f y179).bind fun t182 => ((some (([(t182) % 256, (t182 / 256) % 256, (t182 / 65536) % 256, (t182 / 16777216) % 256] : List Int) : List Int)).bind fun y183 => (if y179.length + y183.length < 140737488355328 then (some ((y179 ++ y183), 0)) else (none)))) = some (r1, r2) := by first | (rw [hy179]; with_reducible exact H) | (have H2_ := (Option.bind_some _ _).symm.trans H; rw [hy179]; with_reducible exact H2_) | (have H2_ := (Option.bind_some _ _).symm.trans H; with_reducible exact H2_) | with_reducible exact H | (rw [hy179]; exact H) | exact H
      have Ny179 := Aside0.mk hy179
      clear hy179
      replace H := Option.bind_eq_some_iff.mp H
      obtain ⟨t182, A40, H⟩ := H
      replace H : ((some (([(t182) % 256, (t182 / 256) % 256, (t182 / 65536) % 256, (t182 / 16777216) % 256] : List Int) : List Int)).bind fun y183 => (if y179.length + y183.length < 140737488355328 then (some ((y179 ++ y183), 0)) else (none))) = some (r1, r2) := H
      have A4 := Aside0.mk A40
      clear A40
      obtain ⟨y183, hy183⟩ : ∃ y_ : List Int, y_ = (([(t182) % 256, (t182 / 256) % 256, (t182 / 65536) % 256, (t182 / 16777216) % 256] : List Int)) := ⟨_, rfl⟩
      replace H : (if y179.length + y183.length < 140737488355328 then (some ((y179 ++ y183), 0)) else (none)) = some (r1, r2) := by first | (rw [hy183]; with_reducible exact H) | (have H2_ := (Option.bind_some _ _).symm.trans H; rw [hy183]; with_reducible exact H2_) | (have H2_ := (Option.bind_some _ _).symm.trans H; with_reducible exact H2_) | with_reducible exact H | (rw [hy183]; exact H) | exact H
      have Ny183 := Aside0.mk hy183
      clear hy183
      by_cases c5 : y179.length + y183.length < 140737488355328
      · rw [if_pos c5] at H
        have LMc5 := Aside0.mk c5
        clear c5
        obtain ⟨y186, hy186⟩ : ∃ y_ : List Int, y_ = (y179 ++ y183) := ⟨_, rfl⟩
        replace H : (some (y186, 0)) = some (r1, r2) := by first | (rw [hy186]; with_reducible exact H) | (have H2_ := (Option.bind_some _ _).symm.trans H; rw [hy186]; with_reducible exact H2_) | (have H2_ := (Option.bind_some _ _).symm.trans H; with_reducible exact H2_) | with_reducible exact H | (rw [hy186]; exact H) | exact H
        have Ny186 := Aside0.mk hy186
        clear hy186
        simp only [Option.some.injEq, Prod.mk.injEq] at H
        obtain ⟨rfl, rfl⟩ := H
        go_enter Try.func47, Try.ntmps47
        go_wp2_with (first | ((with_reducible refine gate_dst (N := 16) rfl ?_); refine Kd.R_lit (Kd.int .u8) _ 5 ?hg (N := 16) ?hd (xs := ([((l0.length : Int) / 256) % 256, ((l0.length : Int)) % 256] : List Int)) (inner := [.int .u8 (((l0.length : Int) / 256) % 256), .int .u8 (((l0.length : Int)) % 256)]) (ok := fun _ => True) (okp := fun _ => True) ?hr ?hp (fun _ hk => hk) trivial (Below.refl _ _) (Nat.le_refl _) (by simp) ?_; (case hd => rfl); (case hg => rfl); (case hr => first | (go_simp; done) | (go_simp; rfl)); (case hp => exact (Reps.one (show Kd.M (Kd.int .u8) _ _ _ (((l0.length : Int) / 256) % 256) [.int .u8 (((l0.length : Int) / 256) % 256)] from rfl) (Reps.one (show Kd.M (Kd.int .u8) _ _ _ (((l0.length : Int)) % 256) [.int .u8 (((l0.length : Int)) % 256)] from rfl) (Reps.none _ _)))); intro v177 w6 ho7 hb hg_ hnew_; clear hg_ hnew_; (first | rw [← Ny176.out] at ho7 | (simp only [Int.reduceToNat] at ho7; rw [← Ny176.out] at ho7)); have n0_ := Aside0.mk (Kd.R_lower ho7 (below_size (by repeat (first | (with_reducible first | exact HB.out | apply below_alloc | apply pw_below_drewN | apply below_drew1) | exact HB.out)))); have n1_ := Aside0.mk (below_step (by repeat (first | (with_reducible first | exact HB.out | apply below_alloc | apply pw_below_drewN | apply below_drew1) | exact HB.out)) hb); clear HB; have HO178 := n0_; have HB := n1_; clear n0_ n1_; clear hb ho7) | ((with_reducible refine gate_builtin (b := .append) (xs := #[.tmp 16, .tmp 17]) rfl ?_); at_builtin; refine Kd.R_append_rows (Kd.int .u8) (w0 := w) w.heap.size rfl (.tmp 16) (.tmp 17) 28 5 (.int .u8 0) 1 rfl Try.underlying28 info5 rfl (by decide) (by omega) v177 y176 l0 _ _ _ (fun _ => True) (fun _ => False) rfl rfl ?aO ?aR (fun _ _ h => h) (fun _ h => h.elim) ?aF ?aB ?aS ?aL ?_; (case aR => repeat (first | exact (Kd.C_below HR0.out HB.out) | (with_reducible refine Kd.C_alloc ?_ _) | (with_reducible refine Kd.C_drewN ?_ _) | (with_reducible refine Kd.C_drew ?_))); (case aB => exact (by repeat (first | (with_reducible first | exact HB.out | apply below_alloc | apply pw_below_drewN | apply below_drew1) | exact HB.out))); (case aF => exact (fun _ _ => trivial)); (case aO => exact (by (with_reducible repeat (first | apply Kd.R_alloc | apply Kd.R_drewN | apply Kd.R_drew)); exact HO178.out)); (case aS => exact (below_size (by repeat (first | (with_reducible first | exact HB.out | apply below_alloc | apply pw_below_drewN | apply below_drew1) | exact HB.out)))); (case aL => have := LMc3.out; omega); intro v180 w8 ho hb hg hat; rw [← Ny179.out] at ho; have n0_ := Aside0.mk (hb); have n1_ := Aside0.mk (ho); clear HB; clear HO178; have HB := n0_; have HO181 := n1_; clear n0_ n1_; clear ho hb hg hat; obtain ⟨Ao9, co9, eo9⟩ := Kd.R_slice HO181.out; subst eo9) | ((with_reducible refine gate_callee (f := 40) rfl ?_); refine goesL_ (some 20) rfl rfl Try.func40 (by kernel_rfl) rfl #[.slice Ao9 y179.length co9] rfl (by (try simp only [List.map_toArray, List.map_cons, List.map_nil]); first | done | rfl | (simp only [List.length_drop, List.length_take]; rfl)) ?_; (with_reducible refine (codec_Sum.calls _ _ y179 t182 _ ?side1 ?side2 A4.out).mono ?_); (case side1 => repeat (first | exact (Kd.R_reads' HO181.out).2.2 | (with_reducible refine Kd.C_alloc ?_ _) | (with_reducible refine Kd.C_drewN ?_ _) | (with_reducible refine Kd.C_drew ?_))); (case side2 => exact (Kd.R_reads' HO181.out).2.1); rintro e w10 ⟨rfl, hb⟩; refine ⟨_, rfl, ?_⟩; have n0_ := Aside0.mk (Kd.R_below (by (with_reducible repeat (first | apply Kd.R_alloc | apply Kd.R_drewN | apply Kd.R_drew)); exact HO181.out) hb); have n1_ := Aside0.mk (below_step (by repeat (first | (with_reducible first | exact HB.out | apply below_alloc | apply pw_below_drewN | apply below_drew1) | exact HB.out)) hb); clear HO181; clear HB; have HO181 := n0_; have HB := n1_; clear n0_ n1_; (try clear hb); (try clear hb2); (try clear hk); (try clear hi)) | ((with_reducible refine gate_dst (N := 33) rfl ?_); refine Kd.R_lit (Kd.int .u8) _ 5 ?hg (N := 33) ?hd (xs := ([(t182) % 256, (t182 / 256) % 256, (t182 / 65536) % 256, (t182 / 16777216) % 256] : List Int)) (inner := [.int .u8 ((t182) % 256), .int .u8 ((t182 / 256) % 256), .int .u8 ((t182 / 65536) % 256), .int .u8 ((t182 / 16777216) % 256)]) (ok := fun _ => True) (okp := fun _ => True) ?hr ?hp (fun _ hk => hk) trivial (Below.refl _ _) (Nat.le_refl _) (by simp) ?_; (case hd => rfl); (case hg => rfl); (case hr => first | (go_simp; done) | (go_simp; rfl)); (case hp => exact (Reps.one (show Kd.M (Kd.int .u8) _ _ _ ((t182) % 256) [.int .u8 ((t182) % 256)] from rfl) (Reps.one (show Kd.M (Kd.int .u8) _ _ _ ((t182 / 256) % 256) [.int .u8 ((t182 / 256) % 256)] from rfl) (Reps.one (show Kd.M (Kd.int .u8) _ _ _ ((t182 / 65536) % 256) [.int .u8 ((t182 / 65536) % 256)] from rfl) (Reps.one (show Kd.M (Kd.int .u8) _ _ _ ((t182 / 16777216) % 256) [.int .u8 ((t182 / 16777216) % 256)] from rfl) (Reps.none _ _)))))); intro v184 w11 ho12 hb hg_ hnew_; clear hg_ hnew_; (first | rw [← Ny183.out] at ho12 | (simp only [Int.reduceToNat] at ho12; rw [← Ny183.out] at ho12)); have n0_ := Aside0.mk (Kd.R_elder' (by (with_reducible repeat (first | apply Kd.R_alloc | apply Kd.R_drewN | apply Kd.R_drew)); exact HO181.out) (Kd.R_base ho12) hb); have n1_ := Aside0.mk (Kd.R_lower (Kd.R_new' ho12 (Kd.R_lt (by (with_reducible repeat (first | apply Kd.R_alloc | apply Kd.R_drewN | apply Kd.R_drew)); exact HO181.out))) (below_size (by repeat (first | (with_reducible first | exact HB.out | apply below_alloc | apply pw_below_drewN | apply below_drew1) | exact HB.out)))); have n2_ := Aside0.mk (below_step (by repeat (first | (with_reducible first | exact HB.out | apply below_alloc | apply pw_below_drewN | apply below_drew1) | exact HB.out)) hb); clear HO181; clear HB; have HO181 := n0_; have HO185 := n1_; have HB := n2_; clear n0_ n1_ n2_; clear hb ho12; obtain ⟨Ao14, co14, eo14⟩ := Kd.R_slice HO185.out; subst eo14) | ((with_reducible refine gate_builtin (b := .append) (xs := #[.tmp 21, .tmp 33]) rfl ?_); at_builtin; refine Kd.R_append_rows (Kd.int .u8) (w0 := w) w.heap.size rfl (.tmp 21) (.tmp 33) 28 5 (.int .u8 0) 1 rfl Try.underlying28 info5 rfl (by decide) (by omega) (.slice Ao9 y179.length co9) y179 y183 _ _ _ (fun k_ => some k_ ≠ (.slice Ao14 y183.length co14 : Value).ownBlock) (fun _ => False) rfl rfl ?aO ?aR (fun _ _ h => h) (fun _ h => h.elim) ?aF ?aB ?aS ?aL ?_; (case aR => repeat (first | exact (Kd.R_reads' HO185.out).2.2 | (with_reducible refine Kd.C_alloc ?_ _) | (with_reducible refine Kd.C_drewN ?_ _) | (with_reducible refine Kd.C_drew ?_))); (case aB => exact (by repeat (first | (with_reducible first | exact HB.out | apply below_alloc | apply pw_below_drewN | apply below_drew1) | exact HB.out))); (case aF => exact (fun k_ hk => Kd.fresh' (Kd.R_lt (by (with_reducible repeat (first | apply Kd.R_alloc | apply Kd.R_drewN | apply Kd.R_drew)); exact HO185.out)) k_ hk)); (case aO => exact (by (with_reducible repeat (first | apply Kd.R_alloc | apply Kd.R_drewN | apply Kd.R_drew)); exact Kd.R_mono HO181.out (fun _ hk => hk.2))); (case aS => exact (below_size (by repeat (first | (with_reducible first | exact HB.out | apply below_alloc | apply pw_below_drewN | apply below_drew1) | exact HB.out)))); (case aL => have := LMc5.out; omega); intro v187 w13 ho hb hg hat; rw [← Ny186.out] at ho; have n0_ := Aside0.mk (Kd.R_after (ok := (fun _ => True)) (by (with_reducible repeat (first | apply Kd.R_alloc | apply Kd.R_drewN | apply Kd.R_drew)); exact HO185.out) hg hat); have n1_ := Aside0.mk (hb); have n2_ := Aside0.mk (ho); clear HO185; clear HB; clear HO181; have HO185 := n0_; have HB := n1_; have HO188 := n2_; clear n0_ n1_ n2_; clear ho hb hg hat))
        go_ret2
        exact ⟨_, by first | rfl | (simp [errW_none, errW_some] <;> rfl) | (simp [*, errW_none, errW_some] <;> rfl), by (with_reducible repeat (first | apply Kd.R_alloc | apply Kd.R_drewN | apply Kd.R_drew)); exact Kd.R_mono HO188.out (fun _ hk => trivial), by repeat (first | (with_reducible first | exact HB.out | apply below_alloc | apply pw_below_drewN | apply below_drew1) | exact HB.out)⟩
      · rw [if_neg c5] at H
        exact absurd H (by simp)
    · rw [if_neg c3] at H
      exact absurd H (by simp)
def piece_Frame.f (a0_0 : Int) (a0_1 : Int) (a0_2 : Int) (a0_3 : Int) (a0_4 : Int) (a0_5 : Int) (a0_6 : Int) (l0_7 : List Int) : Option (List Int × Int) := (piece_Piece.f a0_0 a0_1 a0_2 a0_3 a0_4 a0_5 a0_6 l0_7).bind fun t190 => (if t190 = true then ((some (([(a0_0) % 256, (a0_1) % 256, (a0_2) % 256, (a0_3) % 256, (a0_4) % 256] : List Int) : List Int)).bind fun y191 => ((piece_big.f a0_5 2).bind fun t194 => (if y191.length + t194.length < 140737488355328 then ((some (y191 ++ t194 : List Int)).bind fun y197 => ((piece_big.f a0_6 4).bind fun t200 => (if y197.length + t200.length < 140737488355328 then ((some (y197 ++ t200 : List Int)).bind fun y203 => (if y203.length + l0_7.length < 140737488355328 then ((codec_Frame.f (y203 ++ l0_7)).bind fun bt209 => (some (bt209.1, bt209.2))) else (none))) else (none)))) else (none)))) else (some (([] : List Int), 1)))
set_option maxHeartbeats 8000000 in
set_option maxRecDepth 100000 in
theorem piece_Frame.calls (a0_0 : Int) (a0_1 : Int) (a0_2 : Int) (a0_3 : Int) (a0_4 : Int) (a0_5 : Int) (a0_6 : Int) (A0_7 : Option Addr) (c0_7 : Nat) (l0_7 : List Int) (r1 : List Int) (r2 : Int) (w : World) (hr0_7 : Kd.C (Kd.int .u8) w A0_7 l0_7.length l0_7) (hc0_7 : l0_7.length ≤ c0_7) (h : piece_Frame.f a0_0 a0_1 a0_2 a0_3 a0_4 a0_5 a0_6 l0_7 = some (r1, r2)) :
    Calls Try.prog 22 #[.agg #[.int .i64 a0_0, .int .i64 a0_1, .int .i64 a0_2, .int .i64 a0_3, .int .i64 a0_4, .int .i64 a0_5, .int .i64 a0_6, .slice A0_7 l0_7.length c0_7]] w fun e w' => ∃ v0_ : Value, e = .returned (.tuple #[v0_, .int .i64 r2]) ∧ Kd.R (Kd.int .u8) 5 w' w.heap.size (fun _ => True) v0_ r1 ∧ Below w.heap.size w w' := by
  have hu49 := Try.underlying49
  have HR0_7 := Aside0.mk hr0_7
  have HC0_7 := Aside0.mk hc0_7
  clear hr0_7 hc0_7
  have HB := Aside0.mk (Below.refl w.heap.size w)
  have H : ((piece_Piece.f a0_0 a0_1 a0_2 a0_3 a0_4 a0_5 a0_6 l0_7).bind fun t190 => (if t190 = true then ((some (([(a0_0) % 256, (a0_1) % 256, (a0_2) % 256, (a0_3) % 256, (a0_4) % 256] : List Int) : List Int)).bind fun y191 => ((piece_big.f a0_5 2).bind fun t194 => (if y191.length + t194.length < 140737488355328 then ((some (y191 ++ t194 : List Int)).bind fun y197 => ((piece_big.f a0_6 4).bind fun t200 => (if y197.length + t200.length < 140737488355328 then ((some (y197 ++ t200 : List Int)).bind fun y203 => (if y203.length + l0_7.length < 140737488355328 then ((codec_Frame.f (y203 ++ l0_7)).bind fun bt209 => (some (bt209.1, bt209.2))) else (none))) else (none)))) else (none)))) else (some (([] : List Int), 1)))) = some (r1, r2) := h
  clear h
  replace H := Option.bind_eq_some_iff.mp H
  obtain ⟨t190, A20, H⟩ := H
  replace H : (if t190 = true then ((some (([(a0_0) % 256, (a0_1) % 256, (a0_2) % 256, (a0_3) % 256, (a0_4) % 256] : List Int) : List Int)).bind fun y191 => ((piece_big.f a0_5 2).bind fun t194 => (if y191.length + t194.length < 140737488355328 then ((some (y191 ++ t194 : List Int)).bind fun y197 => ((piece_big.f a0_6 4).bind fun t200 => (if y197.length + t200.length < 140737488355328 then ((some (y197 ++ t200 : List Int)).bind fun y203 => (if y203.length + l0_7.length < 140737488355328 then ((codec_Frame.f (y203 ++ l0_7)).bind fun bt209 => (some (bt209.1, bt209.2))) else (none))) else (none)))) else (none)))) else (some (([] : List Int), 1))) = some (r1, r2) := H
  have A2 := Aside0.mk A20
  clear A20
  by_cases c3 : t190 = true
  · subst c3
    have H1 : ((some (([(a0_0) % 256, (a0_1) % 256, (a0_2) % 256, (a0_3) % 256, (a0_4) % 256] : List Int) : List Int)).bind fun y191 => ((piece_big.f a0_5 2).bind fun t194 => (if y191.length + t194.length < 140737488355328 then ((some (y191 ++ t194 : List Int)).bind fun y197 => ((piece_big.f a0_6 4).bind fun t200 => (if y197.length + t200.length < 140737488355328 then ((some (y197 ++ t200 : List Int)).bind fun y203 => (if y203.length + l0_7.length < 140737488355328 then ((codec_Frame.f (y203 ++ l0_7)).bind fun bt209 => (some (bt209.1, bt209.2))) else (none))) else (none)))) else (none)))) = some (r1, r2) := by rw [if_pos rfl] at H; exact H
    clear H
    have H := H1
    clear H1
    obtain ⟨y191, hy191⟩ : ∃ y_ : List Int, y_ = (([(a0_0) % 256, (a0_1) % 256, (a0_2) % 256, (a0_3) % 256, (a0_4) % 256] : List Int)) := ⟨_, rfl⟩
    replace H : ((piece_big.f a0_5 2).bind fun t194 => (if y191.length + t194.length < 140737488355328 then ((some (y191 ++ t194 : List Int)).bind fun y197 => ((piece_big.f a0_6 4).bind fun t200 => (if y197.length + t200.length < 140737488355328 then ((some (y197 ++ t200 : List Int)).bind fun y203 => (if y203.length + l0_7.length < 140737488355328 then ((codec_Frame.f (y203 ++ l0_7)).bind fun bt209 => (some (bt209.1, bt209.2))) else (none))) else (none)))) else (none))) = some (r1, r2) := by first | (rw [hy191]; with_reducible exact H) | (have H2_ := (Option.bind_some _ _).symm.trans H; rw [hy191]; with_reducible exact H2_) | (have H2_ := (Option.bind_some _ _).symm.trans H; with_reducible exact H2_) | with_reducible exact H | (rw [hy191]; exact H) | exact H
    have Ny191 := Aside0.mk hy191
    clear hy191
    replace H := Option.bind_eq_some_iff.mp H
    obtain ⟨t194, A40, H⟩ := H
    replace H : (if y191.length + t194.length < 140737488355328 then ((some (y191 ++ t194 : List Int)).bind fun y197 => ((piece_big.f a0_6 4).bind fun t200 => (if y197.length + t200.length < 140737488355328 then ((some (y197 ++ t200 : List Int)).bind fun y203 => (if y203.length + l0_7.length < 140737488355328 then ((codec_Frame.f (y203 ++ l0_7)).bind fun bt209 => (some (bt209.1, bt209.2))) else (none))) else (none)))) else (none)) = some (r1, r2) := H
    have A4 := Aside0.mk A40
    clear A40
    by_cases c5 : y191.length + t194.length < 140737488355328
    · rw [if_pos c5] at H
      have LMc5 := Aside0.mk c5
      clear c5
      obtain ⟨y197, hy197⟩ : ∃ y_ : List Int, y_ = (y191 ++ t194) := ⟨_, rfl⟩
      replace H : ((piece_big.f a0_6 4).bind fun t200 => (if y197.length + t200.length < 140737488355328 then ((some (y197 ++ t200 : List Int)).bind fun y203 => (if y203.length + l0_7.length < 140737488355328 then ((codec_Frame.f (y203 ++ l0_7)).bind fun bt209 => (some (bt209.1, bt209.2))) else (none))) else (none))) = some (r1, r2) := by first | (rw [hy197]; with_reducible exact H) | (have H2_ := (Option.bind_some _ _).symm.trans H; rw [hy197]; with_reducible exact H2_) | (have H2_ := (Option.bind_some _ _).symm.trans H; with_reducible exact H2_) | with_reducible exact H | (rw [hy197]; exact H) | exact H
      have Ny197 := Aside0.mk hy197
      clear hy197
      replace H := Option.bind_eq_some_iff.mp H
      obtain ⟨t200, A60, H⟩ := H
      replace H : (if y197.length + t200.length < 140737488355328 then ((some (y197 ++ t200 : List Int)).bind fun y203 => (if y203.length + l0_7.length < 140737488355328 then ((codec_Frame.f (y203 ++ l0_7)).bind fun bt209 => (some (bt209.1, bt209.2))) else (none))) else (none)) = some (r1, r2) := H
      have A6 := Aside0.mk A60
      clear A60
      by_cases c7 : y197.length + t200.length < 140737488355328
      · rw [if_pos c7] at H
        have LMc7 := Aside0.mk c7
        clear c7
        obtain ⟨y203, hy203⟩ : ∃ y_ : List Int, y_ = (y197 ++ t200) := ⟨_, rfl⟩
        replace H : (if y203.length + l0_7.length < 140737488355328 then ((codec_Frame.f (y203 ++ l0_7)).bind fun bt209 => (some (bt209.1, bt209.2))) else (none)) = some (r1, r2) := by first | (rw [hy203]; with_reducible exact H) | (have H2_ := (Option.bind_some _ _).symm.trans H; rw [hy203]; with_reducible exact H2_) | (have H2_ := (Option.bind_some _ _).symm.trans H; with_reducible exact H2_) | with_reducible exact H | (rw [hy203]; exact H) | exact H
        have Ny203 := Aside0.mk hy203
        clear hy203
        by_cases c8 : y203.length + l0_7.length < 140737488355328
        · rw [if_pos c8] at H
          have LMc8 := Aside0.mk c8
          clear c8
          obtain ⟨y206, hy206⟩ : ∃ y_ : List Int, y_ = (y203 ++ l0_7) := ⟨_, rfl⟩
          replace H : ((codec_Frame.f y206).bind fun bt209 => (some (bt209.1, bt209.2))) = some (r1, r2) := by first | (rw [hy206]; with_reducible exact H) | (have H2_ := (Option.bind_some _ _).symm.trans H; rw [hy206]; with_reducible exact H2_) | (have H2_ := (Option.bind_some _ _).symm.trans H; with_reducible exact H2_) | with_reducible exact H | (rw [hy206]; exact H) | exact H
          have Ny206 := Aside0.mk hy206
          clear hy206
          replace H := Option.bind_eq_some_iff.mp H
          obtain ⟨⟨t209, t210⟩, A90, H⟩ := H
          replace H : (some (t209, t210)) = some (r1, r2) := H
          have A9 := Aside0.mk A90
          clear A90
          simp only [Option.some.injEq, Prod.mk.injEq] at H
          obtain ⟨rfl, rfl⟩ := H
          go_enter Try.func22, Try.ntmps22
          go_wp2_with (first | ((with_reducible refine gate_dst (N := 1) rfl ?_); refine box_event ?hg (N := 1) ?hd (cs := #[.int .i64 a0_0, .int .i64 a0_1, .int .i64 a0_2, .int .i64 a0_3, .int .i64 a0_4, .int .i64 a0_5, .int .i64 a0_6, .slice A0_7 l0_7.length c0_7]) (t := 49) ?hr ?_; (case hd => rfl); (case hg => rfl); (case hr => first | (go_simp; done) | (go_simp; rfl)); intro gb189 hg w10 hbox hb; have n0_ := Aside0.mk (below_step (by repeat (first | (with_reducible first | exact HB.out | apply below_alloc | apply pw_below_drewN | apply below_drew1) | exact HB.out)) hb); have n1_ := Aside0.mk (hbox); have n2_ := Aside0.mk ((by rw [hg]; exact (below_size (by repeat (first | (with_reducible first | exact HB.out | apply below_alloc | apply pw_below_drewN | apply below_drew1) | exact HB.out))) : w.heap.size ≤ gb189)); have n3_ := Aside0.mk ((by rw [hg]; exact (below_size (by repeat (first | (with_reducible first | exact HB.out | apply below_alloc | apply pw_below_drewN | apply below_drew1) | exact HB.out))) : w.heap.size ≤ gb189)); clear HB; have HB := n0_; have BK189 := n1_; have GW189 := n2_; have GE189 := n3_; clear n0_ n1_ n2_ n3_; clear hb hbox hg; have hcz11_0 : w10.cell? ⟨gb189, 0, none⟩ = some (.int .i64 a0_0) := (blk_cell BK189.out 0).trans rfl; have hcz11_1 : w10.cell? ⟨gb189, 1, none⟩ = some (.int .i64 a0_1) := (blk_cell BK189.out 1).trans rfl; have hcz11_2 : w10.cell? ⟨gb189, 2, none⟩ = some (.int .i64 a0_2) := (blk_cell BK189.out 2).trans rfl; have hcz11_3 : w10.cell? ⟨gb189, 3, none⟩ = some (.int .i64 a0_3) := (blk_cell BK189.out 3).trans rfl; have hcz11_4 : w10.cell? ⟨gb189, 4, none⟩ = some (.int .i64 a0_4) := (blk_cell BK189.out 4).trans rfl; have hcz11_5 : w10.cell? ⟨gb189, 5, none⟩ = some (.int .i64 a0_5) := (blk_cell BK189.out 5).trans rfl; have hcz11_6 : w10.cell? ⟨gb189, 6, none⟩ = some (.int .i64 a0_6) := (blk_cell BK189.out 6).trans rfl; have hcz11_7 : w10.cell? ⟨gb189, 7, none⟩ = some (.slice A0_7 l0_7.length c0_7) := (blk_cell BK189.out 7).trans rfl; have hfz11_0 := blk_frozen BK189.out 0; have hfz11_1 := blk_frozen BK189.out 1; have hfz11_2 := blk_frozen BK189.out 2; have hfz11_3 := blk_frozen BK189.out 3; have hfz11_4 := blk_frozen BK189.out 4; have hfz11_5 := blk_frozen BK189.out 5; have hfz11_6 := blk_frozen BK189.out 6; have hfz11_7 := blk_frozen BK189.out 7) | ((with_reducible refine gate_callee (f := 25) rfl ?_); refine goesL_ (some 6) rfl rfl Try.func25 (by kernel_rfl) rfl #[.agg #[.int .i64 a0_0, .int .i64 a0_1, .int .i64 a0_2, .int .i64 a0_3, .int .i64 a0_4, .int .i64 a0_5, .int .i64 a0_6, .slice A0_7 l0_7.length c0_7]] rfl (by (try simp only [List.map_toArray, List.map_cons, List.map_nil]); first | done | rfl | (simp only [List.length_drop, List.length_take]; rfl)) ?_; (with_reducible refine (piece_Piece.calls a0_0 a0_1 a0_2 a0_3 a0_4 a0_5 a0_6 _ _ l0_7 true _ ?side1 ?side2 A2.out).mono ?_); (case side1 => repeat (first | exact (Kd.C_below HR0_7.out HB.out) | (with_reducible refine Kd.C_alloc ?_ _) | (with_reducible refine Kd.C_drewN ?_ _) | (with_reducible refine Kd.C_drew ?_))); (case side2 => exact HC0_7.out); rintro e w12 ⟨rfl, hb⟩; refine ⟨_, rfl, ?_⟩; have n0_ := Aside0.mk (blk_below (g := gb189) (o := .cells #[.int .i64 a0_0, .int .i64 a0_1, .int .i64 a0_2, .int .i64 a0_3, .int .i64 a0_4, .int .i64 a0_5, .int .i64 a0_6, .slice A0_7 l0_7.length c0_7] 49 (0, 0)) (by (with_reducible repeat (first | refine blk_drewN ?_ _ | refine blk_drew ?_ | refine blk_alloc ?_ _)); exact BK189.out) hb); have n1_ := Aside0.mk (below_step (by repeat (first | (with_reducible first | exact HB.out | apply below_alloc | apply pw_below_drewN | apply below_drew1 | refine below_set ?_ GE189.out) | exact HB.out)) hb); clear BK189; clear HB; have BK189 := n0_; have HB := n1_; clear n0_ n1_; (try clear hb); (try clear hb2); (try clear hk); (try clear hi); have hcz13_0 : w12.cell? ⟨gb189, 0, none⟩ = some (.int .i64 a0_0) := (blk_cell BK189.out 0).trans rfl; have hcz13_1 : w12.cell? ⟨gb189, 1, none⟩ = some (.int .i64 a0_1) := (blk_cell BK189.out 1).trans rfl; have hcz13_2 : w12.cell? ⟨gb189, 2, none⟩ = some (.int .i64 a0_2) := (blk_cell BK189.out 2).trans rfl; have hcz13_3 : w12.cell? ⟨gb189, 3, none⟩ = some (.int .i64 a0_3) := (blk_cell BK189.out 3).trans rfl; have hcz13_4 : w12.cell? ⟨gb189, 4, none⟩ = some (.int .i64 a0_4) := (blk_cell BK189.out 4).trans rfl; have hcz13_5 : w12.cell? ⟨gb189, 5, none⟩ = some (.int .i64 a0_5) := (blk_cell BK189.out 5).trans rfl; have hcz13_6 : w12.cell? ⟨gb189, 6, none⟩ = some (.int .i64 a0_6) := (blk_cell BK189.out 6).trans rfl; have hcz13_7 : w12.cell? ⟨gb189, 7, none⟩ = some (.slice A0_7 l0_7.length c0_7) := (blk_cell BK189.out 7).trans rfl; have hfz13_0 := blk_frozen BK189.out 0; have hfz13_1 := blk_frozen BK189.out 1; have hfz13_2 := blk_frozen BK189.out 2; have hfz13_3 := blk_frozen BK189.out 3; have hfz13_4 := blk_frozen BK189.out 4; have hfz13_5 := blk_frozen BK189.out 5; have hfz13_6 := blk_frozen BK189.out 6; have hfz13_7 := blk_frozen BK189.out 7) | ((with_reducible refine gate_dst (N := 26) rfl ?_); refine Kd.R_lit (Kd.int .u8) _ 5 ?hg (N := 26) ?hd (xs := ([(a0_0) % 256, (a0_1) % 256, (a0_2) % 256, (a0_3) % 256, (a0_4) % 256] : List Int)) (inner := [.int .u8 ((a0_0) % 256), .int .u8 ((a0_1) % 256), .int .u8 ((a0_2) % 256), .int .u8 ((a0_3) % 256), .int .u8 ((a0_4) % 256)]) (ok := fun _ => True) (okp := fun _ => True) ?hr ?hp (fun _ hk => hk) trivial (Below.refl _ _) (Nat.le_refl _) (by simp) ?_; (case hd => rfl); (case hg => rfl); (case hr => first | (go_simp; done) | (go_simp; rfl)); (case hp => exact (Reps.one (show Kd.M (Kd.int .u8) _ _ _ ((a0_0) % 256) [.int .u8 ((a0_0) % 256)] from rfl) (Reps.one (show Kd.M (Kd.int .u8) _ _ _ ((a0_1) % 256) [.int .u8 ((a0_1) % 256)] from rfl) (Reps.one (show Kd.M (Kd.int .u8) _ _ _ ((a0_2) % 256) [.int .u8 ((a0_2) % 256)] from rfl) (Reps.one (show Kd.M (Kd.int .u8) _ _ _ ((a0_3) % 256) [.int .u8 ((a0_3) % 256)] from rfl) (Reps.one (show Kd.M (Kd.int .u8) _ _ _ ((a0_4) % 256) [.int .u8 ((a0_4) % 256)] from rfl) (Reps.none _ _))))))); intro v192 w14 ho15 hb hg_ hnew_; clear hg_ hnew_; (first | rw [← Ny191.out] at ho15 | (simp only [Int.reduceToNat] at ho15; rw [← Ny191.out] at ho15)); have n0_ := Aside0.mk (Kd.R_lower ho15 (below_size (by repeat (first | (with_reducible first | exact HB.out | apply below_alloc | apply pw_below_drewN | apply below_drew1 | refine below_set ?_ GE189.out) | exact HB.out)))); have n1_ := Aside0.mk (blk_below (g := gb189) (o := .cells #[.int .i64 a0_0, .int .i64 a0_1, .int .i64 a0_2, .int .i64 a0_3, .int .i64 a0_4, .int .i64 a0_5, .int .i64 a0_6, .slice A0_7 l0_7.length c0_7] 49 (0, 0)) (by (with_reducible repeat (first | refine blk_drewN ?_ _ | refine blk_drew ?_ | refine blk_alloc ?_ _)); exact BK189.out) hb); have n2_ := Aside0.mk (below_step (by repeat (first | (with_reducible first | exact HB.out | apply below_alloc | apply pw_below_drewN | apply below_drew1 | refine below_set ?_ GE189.out) | exact HB.out)) hb); clear BK189; clear HB; have HO193 := n0_; have BK189 := n1_; have HB := n2_; clear n0_ n1_ n2_; clear hb ho15; have hcz16_0 : w14.cell? ⟨gb189, 0, none⟩ = some (.int .i64 a0_0) := (blk_cell BK189.out 0).trans rfl; have hcz16_1 : w14.cell? ⟨gb189, 1, none⟩ = some (.int .i64 a0_1) := (blk_cell BK189.out 1).trans rfl; have hcz16_2 : w14.cell? ⟨gb189, 2, none⟩ = some (.int .i64 a0_2) := (blk_cell BK189.out 2).trans rfl; have hcz16_3 : w14.cell? ⟨gb189, 3, none⟩ = some (.int .i64 a0_3) := (blk_cell BK189.out 3).trans rfl; have hcz16_4 : w14.cell? ⟨gb189, 4, none⟩ = some (.int .i64 a0_4) := (blk_cell BK189.out 4).trans rfl; have hcz16_5 : w14.cell? ⟨gb189, 5, none⟩ = some (.int .i64 a0_5) := (blk_cell BK189.out 5).trans rfl; have hcz16_6 : w14.cell? ⟨gb189, 6, none⟩ = some (.int .i64 a0_6) := (blk_cell BK189.out 6).trans rfl; have hcz16_7 : w14.cell? ⟨gb189, 7, none⟩ = some (.slice A0_7 l0_7.length c0_7) := (blk_cell BK189.out 7).trans rfl; have hfz16_0 := blk_frozen BK189.out 0; have hfz16_1 := blk_frozen BK189.out 1; have hfz16_2 := blk_frozen BK189.out 2; have hfz16_3 := blk_frozen BK189.out 3; have hfz16_4 := blk_frozen BK189.out 4; have hfz16_5 := blk_frozen BK189.out 5; have hfz16_6 := blk_frozen BK189.out 6; have hfz16_7 := blk_frozen BK189.out 7) | ((with_reducible refine gate_callee (f := 46) rfl ?_); refine goesL_ (some 30) rfl rfl Try.func46 (by kernel_rfl) rfl #[.int .i64 a0_5, .int .i64 2] rfl (by (try simp only [List.map_toArray, List.map_cons, List.map_nil]); first | done | rfl | (simp only [List.length_drop, List.length_take]; rfl)) ?_; (with_reducible refine (piece_big.calls a0_5 2 t194 _ A4.out).mono ?_); rintro e w17 ⟨v195, rfl, ho0, hb⟩; refine ⟨_, rfl, ?_⟩; have n0_ := Aside0.mk (Kd.R_elder' (by (with_reducible repeat (first | apply Kd.R_alloc | apply Kd.R_drewN | apply Kd.R_drew)); exact HO193.out) (Kd.R_base ho0) hb); have n1_ := Aside0.mk (Kd.R_lower (Kd.R_new' ho0 (Kd.R_lt (by (with_reducible repeat (first | apply Kd.R_alloc | apply Kd.R_drewN | apply Kd.R_drew)); exact HO193.out))) (below_size (by repeat (first | (with_reducible first | exact HB.out | apply below_alloc | apply pw_below_drewN | apply below_drew1 | refine below_set ?_ GE189.out) | exact HB.out)))); have n2_ := Aside0.mk (blk_below (g := gb189) (o := .cells #[.int .i64 a0_0, .int .i64 a0_1, .int .i64 a0_2, .int .i64 a0_3, .int .i64 a0_4, .int .i64 a0_5, .int .i64 a0_6, .slice A0_7 l0_7.length c0_7] 49 (0, 0)) (by (with_reducible repeat (first | refine blk_drewN ?_ _ | refine blk_drew ?_ | refine blk_alloc ?_ _)); exact BK189.out) hb); have n3_ := Aside0.mk (below_step (by repeat (first | (with_reducible first | exact HB.out | apply below_alloc | apply pw_below_drewN | apply below_drew1 | refine below_set ?_ GE189.out) | exact HB.out)) hb); clear HO193; clear BK189; clear HB; have HO193 := n0_; have HO196 := n1_; have BK189 := n2_; have HB := n3_; clear n0_ n1_ n2_ n3_; (try clear hb); (try clear hb2); (try clear hk); (try clear hi); (try clear ho0); obtain ⟨Ao19, co19, eo19⟩ := Kd.R_slice HO196.out; subst eo19) | ((with_reducible refine gate_builtin (b := .append) (xs := #[.tmp 27, .tmp 30]) rfl ?_); at_builtin; refine Kd.R_append_rows (Kd.int .u8) (w0 := w) w.heap.size rfl (.tmp 27) (.tmp 30) 28 5 (.int .u8 0) 1 rfl Try.underlying28 info5 rfl (by decide) (by omega) v192 y191 t194 _ _ _ (fun k_ => some k_ ≠ (.slice Ao19 t194.length co19 : Value).ownBlock) (fun _ => False) rfl rfl ?aO ?aR (fun _ _ h => h) (fun _ h => h.elim) ?aF ?aB ?aS ?aL ?_; (case aR => repeat (first | exact (Kd.R_reads' HO196.out).2.2 | (with_reducible refine Kd.C_alloc ?_ _) | (with_reducible refine Kd.C_drewN ?_ _) | (with_reducible refine Kd.C_drew ?_))); (case aB => exact (by repeat (first | (with_reducible first | exact HB.out | apply below_alloc | apply pw_below_drewN | apply below_drew1 | refine below_set ?_ GE189.out) | exact HB.out))); (case aF => exact (fun k_ hk => Kd.fresh' (Kd.R_lt (by (with_reducible repeat (first | apply Kd.R_alloc | apply Kd.R_drewN | apply Kd.R_drew)); exact HO196.out)) k_ hk)); (case aO => exact (by (with_reducible repeat (first | apply Kd.R_alloc | apply Kd.R_drewN | apply Kd.R_drew)); exact Kd.R_mono HO193.out (fun _ hk => hk.2))); (case aS => exact (below_size (by repeat (first | (with_reducible first | exact HB.out | apply below_alloc | apply pw_below_drewN | apply below_drew1 | refine below_set ?_ GE189.out) | exact HB.out)))); (case aL => have := LMc5.out; omega); intro v198 w18 ho hb hg hat; rw [← Ny197.out] at ho; have n0_ := Aside0.mk (blk_grown (g := gb189) (o := .cells #[.int .i64 a0_0, .int .i64 a0_1, .int .i64 a0_2, .int .i64 a0_3, .int .i64 a0_4, .int .i64 a0_5, .int .i64 a0_6, .slice A0_7 l0_7.length c0_7] 49 (0, 0)) (by (with_reducible repeat (first | refine blk_drewN ?_ _ | refine blk_drew ?_ | refine blk_alloc ?_ _)); exact BK189.out) hg (Kd.R_ne HO193.out BK189.out (by decide))); have n1_ := Aside0.mk (Kd.R_after (ok := (fun _ => True)) (by (with_reducible repeat (first | apply Kd.R_alloc | apply Kd.R_drewN | apply Kd.R_drew)); exact HO196.out) hg hat); have n2_ := Aside0.mk (hb); have n3_ := Aside0.mk (ho); clear BK189; clear HO196; clear HB; clear HO193; have BK189 := n0_; have HO196 := n1_; have HB := n2_; have HO199 := n3_; clear n0_ n1_ n2_ n3_; clear ho hb hg hat; have hcz20_0 : w18.cell? ⟨gb189, 0, none⟩ = some (.int .i64 a0_0) := (blk_cell BK189.out 0).trans rfl; have hcz20_1 : w18.cell? ⟨gb189, 1, none⟩ = some (.int .i64 a0_1) := (blk_cell BK189.out 1).trans rfl; have hcz20_2 : w18.cell? ⟨gb189, 2, none⟩ = some (.int .i64 a0_2) := (blk_cell BK189.out 2).trans rfl; have hcz20_3 : w18.cell? ⟨gb189, 3, none⟩ = some (.int .i64 a0_3) := (blk_cell BK189.out 3).trans rfl; have hcz20_4 : w18.cell? ⟨gb189, 4, none⟩ = some (.int .i64 a0_4) := (blk_cell BK189.out 4).trans rfl; have hcz20_5 : w18.cell? ⟨gb189, 5, none⟩ = some (.int .i64 a0_5) := (blk_cell BK189.out 5).trans rfl; have hcz20_6 : w18.cell? ⟨gb189, 6, none⟩ = some (.int .i64 a0_6) := (blk_cell BK189.out 6).trans rfl; have hcz20_7 : w18.cell? ⟨gb189, 7, none⟩ = some (.slice A0_7 l0_7.length c0_7) := (blk_cell BK189.out 7).trans rfl; have hfz20_0 := blk_frozen BK189.out 0; have hfz20_1 := blk_frozen BK189.out 1; have hfz20_2 := blk_frozen BK189.out 2; have hfz20_3 := blk_frozen BK189.out 3; have hfz20_4 := blk_frozen BK189.out 4; have hfz20_5 := blk_frozen BK189.out 5; have hfz20_6 := blk_frozen BK189.out 6; have hfz20_7 := blk_frozen BK189.out 7) | ((with_reducible refine gate_callee (f := 46) rfl ?_); refine goesL_ (some 35) rfl rfl Try.func46 (by kernel_rfl) rfl #[.int .i64 a0_6, .int .i64 4] rfl (by (try simp only [List.map_toArray, List.map_cons, List.map_nil]); first | done | rfl | (simp only [List.length_drop, List.length_take]; rfl)) ?_; (with_reducible refine (piece_big.calls a0_6 4 t200 _ A6.out).mono ?_); rintro e w21 ⟨v201, rfl, ho0, hb⟩; refine ⟨_, rfl, ?_⟩; have n0_ := Aside0.mk (Kd.R_elder' (by (with_reducible repeat (first | apply Kd.R_alloc | apply Kd.R_drewN | apply Kd.R_drew)); exact HO196.out) (Kd.R_base ho0) hb); have n1_ := Aside0.mk (Kd.R_elder' (by (with_reducible repeat (first | apply Kd.R_alloc | apply Kd.R_drewN | apply Kd.R_drew)); exact HO199.out) (Kd.R_base ho0) hb); have n2_ := Aside0.mk (Kd.R_lower (Kd.R_new' (Kd.R_new' ho0 (Kd.R_lt (by (with_reducible repeat (first | apply Kd.R_alloc | apply Kd.R_drewN | apply Kd.R_drew)); exact HO196.out))) (Kd.R_lt (by (with_reducible repeat (first | apply Kd.R_alloc | apply Kd.R_drewN | apply Kd.R_drew)); exact HO199.out))) (below_size (by repeat (first | (with_reducible first | exact HB.out | apply below_alloc | apply pw_below_drewN | apply below_drew1 | refine below_set ?_ GE189.out) | exact HB.out)))); have n3_ := Aside0.mk (blk_below (g := gb189) (o := .cells #[.int .i64 a0_0, .int .i64 a0_1, .int .i64 a0_2, .int .i64 a0_3, .int .i64 a0_4, .int .i64 a0_5, .int .i64 a0_6, .slice A0_7 l0_7.length c0_7] 49 (0, 0)) (by (with_reducible repeat (first | refine blk_drewN ?_ _ | refine blk_drew ?_ | refine blk_alloc ?_ _)); exact BK189.out) hb); have n4_ := Aside0.mk (below_step (by repeat (first | (with_reducible first | exact HB.out | apply below_alloc | apply pw_below_drewN | apply below_drew1 | refine below_set ?_ GE189.out) | exact HB.out)) hb); clear HO196; clear HO199; clear BK189; clear HB; have HO196 := n0_; have HO199 := n1_; have HO202 := n2_; have BK189 := n3_; have HB := n4_; clear n0_ n1_ n2_ n3_ n4_; (try clear hb); (try clear hb2); (try clear hk); (try clear hi); (try clear ho0); obtain ⟨Ao23, co23, eo23⟩ := Kd.R_slice HO202.out; subst eo23) | ((with_reducible refine gate_builtin (b := .append) (xs := #[.tmp 32, .tmp 35]) rfl ?_); at_builtin; refine Kd.R_append_rows (Kd.int .u8) (w0 := w) w.heap.size rfl (.tmp 32) (.tmp 35) 28 5 (.int .u8 0) 1 rfl Try.underlying28 info5 rfl (by decide) (by omega) v198 y197 t200 _ _ _ (fun k_ => some k_ ≠ (.slice Ao19 t194.length co19 : Value).ownBlock ∧ some k_ ≠ (.slice Ao23 t200.length co23 : Value).ownBlock) (fun _ => False) rfl rfl ?aO ?aR (fun _ _ h => h) (fun _ h => h.elim) ?aF ?aB ?aS ?aL ?_; (case aR => repeat (first | exact (Kd.R_reads' HO202.out).2.2 | (with_reducible refine Kd.C_alloc ?_ _) | (with_reducible refine Kd.C_drewN ?_ _) | (with_reducible refine Kd.C_drew ?_))); (case aB => exact (by repeat (first | (with_reducible first | exact HB.out | apply below_alloc | apply pw_below_drewN | apply below_drew1 | refine below_set ?_ GE189.out) | exact HB.out))); (case aF => exact (fun k_ hk => ⟨Kd.fresh' (Kd.R_lt (by (with_reducible repeat (first | apply Kd.R_alloc | apply Kd.R_drewN | apply Kd.R_drew)); exact HO196.out)) k_ hk, Kd.fresh' (Kd.R_lt (by (with_reducible repeat (first | apply Kd.R_alloc | apply Kd.R_drewN | apply Kd.R_drew)); exact HO202.out)) k_ hk⟩)); (case aO => exact (by (with_reducible repeat (first | apply Kd.R_alloc | apply Kd.R_drewN | apply Kd.R_drew)); exact HO199.out)); (case aS => exact (below_size (by repeat (first | (with_reducible first | exact HB.out | apply below_alloc | apply pw_below_drewN | apply below_drew1 | refine below_set ?_ GE189.out) | exact HB.out)))); (case aL => have := LMc7.out; omega); intro v204 w22 ho hb hg hat; rw [← Ny203.out] at ho; have n0_ := Aside0.mk (blk_grown (g := gb189) (o := .cells #[.int .i64 a0_0, .int .i64 a0_1, .int .i64 a0_2, .int .i64 a0_3, .int .i64 a0_4, .int .i64 a0_5, .int .i64 a0_6, .slice A0_7 l0_7.length c0_7] 49 (0, 0)) (by (with_reducible repeat (first | refine blk_drewN ?_ _ | refine blk_drew ?_ | refine blk_alloc ?_ _)); exact BK189.out) hg (Kd.R_ne HO199.out BK189.out (by decide))); have n1_ := Aside0.mk (Kd.R_after (ok := (fun k_ => some k_ ≠ (.slice Ao23 t200.length co23 : Value).ownBlock)) (by (with_reducible repeat (first | apply Kd.R_alloc | apply Kd.R_drewN | apply Kd.R_drew)); exact Kd.R_mono HO196.out (fun _ hk => ⟨hk.2, hk.1.2⟩)) hg hat); have n2_ := Aside0.mk (Kd.R_after (ok := (fun k_ => some k_ ≠ (.slice Ao19 t194.length co19 : Value).ownBlock)) (by (with_reducible repeat (first | apply Kd.R_alloc | apply Kd.R_drewN | apply Kd.R_drew)); exact Kd.R_mono HO202.out (fun _ hk => ⟨hk.1.2, hk.2⟩)) hg hat); have n3_ := Aside0.mk (hb); have n4_ := Aside0.mk (ho); clear BK189; clear HO196; clear HO202; clear HB; clear HO199; have BK189 := n0_; have HO196 := n1_; have HO202 := n2_; have HB := n3_; have HO205 := n4_; clear n0_ n1_ n2_ n3_ n4_; clear ho hb hg hat; have hcz24_0 : w22.cell? ⟨gb189, 0, none⟩ = some (.int .i64 a0_0) := (blk_cell BK189.out 0).trans rfl; have hcz24_1 : w22.cell? ⟨gb189, 1, none⟩ = some (.int .i64 a0_1) := (blk_cell BK189.out 1).trans rfl; have hcz24_2 : w22.cell? ⟨gb189, 2, none⟩ = some (.int .i64 a0_2) := (blk_cell BK189.out 2).trans rfl; have hcz24_3 : w22.cell? ⟨gb189, 3, none⟩ = some (.int .i64 a0_3) := (blk_cell BK189.out 3).trans rfl; have hcz24_4 : w22.cell? ⟨gb189, 4, none⟩ = some (.int .i64 a0_4) := (blk_cell BK189.out 4).trans rfl; have hcz24_5 : w22.cell? ⟨gb189, 5, none⟩ = some (.int .i64 a0_5) := (blk_cell BK189.out 5).trans rfl; have hcz24_6 : w22.cell? ⟨gb189, 6, none⟩ = some (.int .i64 a0_6) := (blk_cell BK189.out 6).trans rfl; have hcz24_7 : w22.cell? ⟨gb189, 7, none⟩ = some (.slice A0_7 l0_7.length c0_7) := (blk_cell BK189.out 7).trans rfl; have hfz24_0 := blk_frozen BK189.out 0; have hfz24_1 := blk_frozen BK189.out 1; have hfz24_2 := blk_frozen BK189.out 2; have hfz24_3 := blk_frozen BK189.out 3; have hfz24_4 := blk_frozen BK189.out 4; have hfz24_5 := blk_frozen BK189.out 5; have hfz24_6 := blk_frozen BK189.out 6; have hfz24_7 := blk_frozen BK189.out 7) | ((with_reducible refine gate_builtin (b := .append) (xs := #[.tmp 37, .tmp 39]) rfl ?_); at_builtin; refine Kd.R_append_rows (Kd.int .u8) (w0 := w) w.heap.size rfl (.tmp 37) (.tmp 39) 28 5 (.int .u8 0) 1 rfl Try.underlying28 info5 rfl (by decide) (by omega) v204 y203 l0_7 _ _ _ (fun k_ => some k_ ≠ (.slice Ao19 t194.length co19 : Value).ownBlock ∧ some k_ ≠ (.slice Ao23 t200.length co23 : Value).ownBlock) (fun _ => False) rfl rfl ?aO ?aR (fun _ _ h => h) (fun _ h => h.elim) ?aF ?aB ?aS ?aL ?_; (case aR => repeat (first | exact (Kd.C_below HR0_7.out HB.out) | (with_reducible refine Kd.C_alloc ?_ _) | (with_reducible refine Kd.C_drewN ?_ _) | (with_reducible refine Kd.C_drew ?_))); (case aB => exact (by repeat (first | (with_reducible first | exact HB.out | apply below_alloc | apply pw_below_drewN | apply below_drew1 | refine below_set ?_ GE189.out) | exact HB.out))); (case aF => exact (fun k_ hk => ⟨Kd.fresh' (Kd.R_lt (by (with_reducible repeat (first | apply Kd.R_alloc | apply Kd.R_drewN | apply Kd.R_drew)); exact HO196.out)) k_ hk, Kd.fresh' (Kd.R_lt (by (with_reducible repeat (first | apply Kd.R_alloc | apply Kd.R_drewN | apply Kd.R_drew)); exact HO202.out)) k_ hk⟩)); (case aO => exact (by (with_reducible repeat (first | apply Kd.R_alloc | apply Kd.R_drewN | apply Kd.R_drew)); exact HO205.out)); (case aS => exact (below_size (by repeat (first | (with_reducible first | exact HB.out | apply below_alloc | apply pw_below_drewN | apply below_drew1 | refine below_set ?_ GE189.out) | exact HB.out)))); (case aL => have := LMc8.out; omega); intro v207 w25 ho hb hg hat; rw [← Ny206.out] at ho; have n0_ := Aside0.mk (blk_grown (g := gb189) (o := .cells #[.int .i64 a0_0, .int .i64 a0_1, .int .i64 a0_2, .int .i64 a0_3, .int .i64 a0_4, .int .i64 a0_5, .int .i64 a0_6, .slice A0_7 l0_7.length c0_7] 49 (0, 0)) (by (with_reducible repeat (first | refine blk_drewN ?_ _ | refine blk_drew ?_ | refine blk_alloc ?_ _)); exact BK189.out) hg (Kd.R_ne HO205.out BK189.out (by decide))); have n1_ := Aside0.mk (Kd.R_after (ok := (fun k_ => some k_ ≠ (.slice Ao23 t200.length co23 : Value).ownBlock)) (by (with_reducible repeat (first | apply Kd.R_alloc | apply Kd.R_drewN | apply Kd.R_drew)); exact HO196.out) hg hat); have n2_ := Aside0.mk (Kd.R_after (ok := (fun k_ => some k_ ≠ (.slice Ao19 t194.length co19 : Value).ownBlock)) (by (with_reducible repeat (first | apply Kd.R_alloc | apply Kd.R_drewN | apply Kd.R_drew)); exact HO202.out) hg hat); have n3_ := Aside0.mk (hb); have n4_ := Aside0.mk (ho); clear BK189; clear HO196; clear HO202; clear HB; clear HO205; have BK189 := n0_; have HO196 := n1_; have HO202 := n2_; have HB := n3_; have HO208 := n4_; clear n0_ n1_ n2_ n3_ n4_; clear ho hb hg hat; obtain ⟨Ao26, co26, eo26⟩ := Kd.R_slice HO208.out; subst eo26) | ((with_reducible refine gate_callee (f := 47) rfl ?_); refine goesL_ (some 41) rfl rfl Try.func47 (by kernel_rfl) rfl #[.slice Ao26 y206.length co26] rfl (by (try simp only [List.map_toArray, List.map_cons, List.map_nil]); first | done | rfl | (simp only [List.length_drop, List.length_take]; rfl)) ?_; (with_reducible refine (codec_Frame.calls _ _ y206 t209 t210 _ ?side1 ?side2 A9.out).mono ?_); (case side1 => repeat (first | exact (Kd.R_reads' HO208.out).2.2 | (with_reducible refine Kd.C_alloc ?_ _) | (with_reducible refine Kd.C_drewN ?_ _) | (with_reducible refine Kd.C_drew ?_))); (case side2 => exact (Kd.R_reads' HO208.out).2.1); rintro e w27 ⟨v211, rfl, ho0, hb⟩; refine ⟨_, rfl, ?_⟩; have n0_ := Aside0.mk (Kd.R_elder' (by (with_reducible repeat (first | apply Kd.R_alloc | apply Kd.R_drewN | apply Kd.R_drew)); exact HO196.out) (Kd.R_base ho0) hb); have n1_ := Aside0.mk (Kd.R_elder' (by (with_reducible repeat (first | apply Kd.R_alloc | apply Kd.R_drewN | apply Kd.R_drew)); exact HO202.out) (Kd.R_base ho0) hb); have n2_ := Aside0.mk (Kd.R_elder' (by (with_reducible repeat (first | apply Kd.R_alloc | apply Kd.R_drewN | apply Kd.R_drew)); exact HO208.out) (Kd.R_base ho0) hb); have n3_ := Aside0.mk (Kd.R_lower (Kd.R_new' (Kd.R_new' (Kd.R_new' ho0 (Kd.R_lt (by (with_reducible repeat (first | apply Kd.R_alloc | apply Kd.R_drewN | apply Kd.R_drew)); exact HO196.out))) (Kd.R_lt (by (with_reducible repeat (first | apply Kd.R_alloc | apply Kd.R_drewN | apply Kd.R_drew)); exact HO202.out))) (Kd.R_lt (by (with_reducible repeat (first | apply Kd.R_alloc | apply Kd.R_drewN | apply Kd.R_drew)); exact HO208.out))) (below_size (by repeat (first | (with_reducible first | exact HB.out | apply below_alloc | apply pw_below_drewN | apply below_drew1 | refine below_set ?_ GE189.out) | exact HB.out)))); have n4_ := Aside0.mk (blk_below (g := gb189) (o := .cells #[.int .i64 a0_0, .int .i64 a0_1, .int .i64 a0_2, .int .i64 a0_3, .int .i64 a0_4, .int .i64 a0_5, .int .i64 a0_6, .slice A0_7 l0_7.length c0_7] 49 (0, 0)) (by (with_reducible repeat (first | refine blk_drewN ?_ _ | refine blk_drew ?_ | refine blk_alloc ?_ _)); exact BK189.out) hb); have n5_ := Aside0.mk (below_step (by repeat (first | (with_reducible first | exact HB.out | apply below_alloc | apply pw_below_drewN | apply below_drew1 | refine below_set ?_ GE189.out) | exact HB.out)) hb); clear HO196; clear HO202; clear HO208; clear BK189; clear HB; have HO196 := n0_; have HO202 := n1_; have HO208 := n2_; have HO212 := n3_; have BK189 := n4_; have HB := n5_; clear n0_ n1_ n2_ n3_ n4_ n5_; (try clear hb); (try clear hb2); (try clear hk); (try clear hi); (try clear ho0)))
          go_ret2
          exact ⟨_, by first | rfl | (simp [errW_none, errW_some] <;> rfl) | (simp [*, errW_none, errW_some] <;> rfl), by (with_reducible repeat (first | apply Kd.R_alloc | apply Kd.R_drewN | apply Kd.R_drew)); exact Kd.R_mono HO212.out (fun _ hk => trivial), by repeat (first | (with_reducible first | exact HB.out | apply below_alloc | apply pw_below_drewN | apply below_drew1 | refine below_set ?_ GE189.out) | exact HB.out)⟩
        · rw [if_neg c8] at H
          exact absurd H (by simp)
      · rw [if_neg c7] at H
        exact absurd H (by simp)
    · rw [if_neg c5] at H
      exact absurd H (by simp)
  · replace c3 := Bool.eq_false_iff.mpr c3
    subst c3
    have H1 : (some (([] : List Int), 1)) = some (r1, r2) := by rw [if_neg (show ¬ (false = true) by decide)] at H; exact H
    clear H
    have H := H1
    clear H1
    simp only [Option.some.injEq, Prod.mk.injEq] at H
    obtain ⟨rfl, rfl⟩ := H
    go_enter Try.func22, Try.ntmps22
    go_wp2_with (first | ((with_reducible refine gate_dst (N := 1) rfl ?_); refine box_event ?hg (N := 1) ?hd (cs := #[.int .i64 a0_0, .int .i64 a0_1, .int .i64 a0_2, .int .i64 a0_3, .int .i64 a0_4, .int .i64 a0_5, .int .i64 a0_6, .slice A0_7 l0_7.length c0_7]) (t := 49) ?hr ?_; (case hd => rfl); (case hg => rfl); (case hr => first | (go_simp; done) | (go_simp; rfl)); intro gb189 hg w28 hbox hb; have n0_ := Aside0.mk (below_step (by repeat (first | (with_reducible first | exact HB.out | apply below_alloc | apply pw_below_drewN | apply below_drew1) | exact HB.out)) hb); have n1_ := Aside0.mk (hbox); have n2_ := Aside0.mk ((by rw [hg]; exact (below_size (by repeat (first | (with_reducible first | exact HB.out | apply below_alloc | apply pw_below_drewN | apply below_drew1) | exact HB.out))) : w.heap.size ≤ gb189)); have n3_ := Aside0.mk ((by rw [hg]; exact (below_size (by repeat (first | (with_reducible first | exact HB.out | apply below_alloc | apply pw_below_drewN | apply below_drew1) | exact HB.out))) : w.heap.size ≤ gb189)); clear HB; have HB := n0_; have BK189 := n1_; have GW189 := n2_; have GE189 := n3_; clear n0_ n1_ n2_ n3_; clear hb hbox hg; have hcz29_0 : w28.cell? ⟨gb189, 0, none⟩ = some (.int .i64 a0_0) := (blk_cell BK189.out 0).trans rfl; have hcz29_1 : w28.cell? ⟨gb189, 1, none⟩ = some (.int .i64 a0_1) := (blk_cell BK189.out 1).trans rfl; have hcz29_2 : w28.cell? ⟨gb189, 2, none⟩ = some (.int .i64 a0_2) := (blk_cell BK189.out 2).trans rfl; have hcz29_3 : w28.cell? ⟨gb189, 3, none⟩ = some (.int .i64 a0_3) := (blk_cell BK189.out 3).trans rfl; have hcz29_4 : w28.cell? ⟨gb189, 4, none⟩ = some (.int .i64 a0_4) := (blk_cell BK189.out 4).trans rfl; have hcz29_5 : w28.cell? ⟨gb189, 5, none⟩ = some (.int .i64 a0_5) := (blk_cell BK189.out 5).trans rfl; have hcz29_6 : w28.cell? ⟨gb189, 6, none⟩ = some (.int .i64 a0_6) := (blk_cell BK189.out 6).trans rfl; have hcz29_7 : w28.cell? ⟨gb189, 7, none⟩ = some (.slice A0_7 l0_7.length c0_7) := (blk_cell BK189.out 7).trans rfl; have hfz29_0 := blk_frozen BK189.out 0; have hfz29_1 := blk_frozen BK189.out 1; have hfz29_2 := blk_frozen BK189.out 2; have hfz29_3 := blk_frozen BK189.out 3; have hfz29_4 := blk_frozen BK189.out 4; have hfz29_5 := blk_frozen BK189.out 5; have hfz29_6 := blk_frozen BK189.out 6; have hfz29_7 := blk_frozen BK189.out 7) | ((with_reducible refine gate_callee (f := 25) rfl ?_); refine goesL_ (some 6) rfl rfl Try.func25 (by kernel_rfl) rfl #[.agg #[.int .i64 a0_0, .int .i64 a0_1, .int .i64 a0_2, .int .i64 a0_3, .int .i64 a0_4, .int .i64 a0_5, .int .i64 a0_6, .slice A0_7 l0_7.length c0_7]] rfl (by (try simp only [List.map_toArray, List.map_cons, List.map_nil]); first | done | rfl | (simp only [List.length_drop, List.length_take]; rfl)) ?_; (with_reducible refine (piece_Piece.calls a0_0 a0_1 a0_2 a0_3 a0_4 a0_5 a0_6 _ _ l0_7 false _ ?side1 ?side2 A2.out).mono ?_); (case side1 => repeat (first | exact (Kd.C_below HR0_7.out HB.out) | (with_reducible refine Kd.C_alloc ?_ _) | (with_reducible refine Kd.C_drewN ?_ _) | (with_reducible refine Kd.C_drew ?_))); (case side2 => exact HC0_7.out); rintro e w30 ⟨rfl, hb⟩; refine ⟨_, rfl, ?_⟩; have n0_ := Aside0.mk (blk_below (g := gb189) (o := .cells #[.int .i64 a0_0, .int .i64 a0_1, .int .i64 a0_2, .int .i64 a0_3, .int .i64 a0_4, .int .i64 a0_5, .int .i64 a0_6, .slice A0_7 l0_7.length c0_7] 49 (0, 0)) (by (with_reducible repeat (first | refine blk_drewN ?_ _ | refine blk_drew ?_ | refine blk_alloc ?_ _)); exact BK189.out) hb); have n1_ := Aside0.mk (below_step (by repeat (first | (with_reducible first | exact HB.out | apply below_alloc | apply pw_below_drewN | apply below_drew1 | refine below_set ?_ GE189.out) | exact HB.out)) hb); clear BK189; clear HB; have BK189 := n0_; have HB := n1_; clear n0_ n1_; (try clear hb); (try clear hb2); (try clear hk); (try clear hi)))
    go_ret2
    exact ⟨_, by first | rfl | (simp [errW_none, errW_some] <;> rfl) | (simp [*, errW_none, errW_some] <;> rfl), by first | exact Kd.R_nil _ _ _ _ _ | exact Kd.N_nil _ _ _ _ _ | exact Kd.V_nil _ _ _ _ _ | exact Kd.Q_nil _ _ _ _ _ | exact Kd.S_nil _ _ _ _ _, by repeat (first | (with_reducible first | exact HB.out | apply below_alloc | apply pw_below_drewN | apply below_drew1 | refine below_set ?_ GE189.out) | exact HB.out)⟩
def piece_small.l0 : Nat → Int → List Int → Int → Int → Option (Int)
  | 0, _, _, _, _ => none
  | k + 1, x3, x6, x7, x8 => if x8 < x7 then (if 0 ≤ x8 then (if x8 < (x6.length : Int) then (piece_small.l0 k (Go.bits .or .i64 (wrap64 (x3 * 256)) (wrap64 (rd x6 x8))) x6 x7 (wrap64 (x8 + 1))) else (none)) else (none)) else (some x3)
def piece_small.f (k : Nat) (l0 : List Int) : Option (Int) := piece_small.l0 k 0 l0 (l0.length : Int) 0
theorem piece_small.mono_l : ∀ k, (∀ y0 y1 y2 y3, LeO (piece_small.l0 k y0 y1 y2 y3) (piece_small.l0 (k + 1) y0 y1 y2 y3))
  | 0 => fun _ _ _ _ r h => by simp [piece_small.l0] at h
  | k + 1 => by
    have ih0 := piece_small.mono_l k
    · intro y0 y1 y2 y3
      unfold piece_small.l0
      repeat' first
      | (with_reducible exact ih0 _ _ _ _)
      | (with_reducible exact LeO.refl _)
      | (with_reducible exact LeO.none _)
      | (with_reducible refine LeO.ite ?_ ?_)
      | (with_reducible refine LeO.bind ?_ (fun _ => ?_))
      | exact ih0 _ _ _ _
      | exact LeO.none _
      | refine LeO.ite ?_ ?_
      | refine LeO.bind ?_ (fun _ => ?_)
theorem piece_small.mono : ∀ a0 k, LeO (piece_small.f k a0) (piece_small.f (k + 1) a0) := by
  intro a0 k
  have ih0 := piece_small.mono_l k
  unfold piece_small.f
  repeat' first
      | (with_reducible exact ih0 _ _ _ _)
      | (with_reducible exact LeO.refl _)
      | (with_reducible exact LeO.none _)
      | (with_reducible refine LeO.ite ?_ ?_)
      | (with_reducible refine LeO.bind ?_ (fun _ => ?_))
      | exact ih0 _ _ _ _
      | exact LeO.none _
      | refine LeO.ite ?_ ?_
      | refine LeO.bind ?_ (fun _ => ?_)
set_option maxHeartbeats 8000000 in
set_option maxRecDepth 100000 in
theorem piece_small.calls (k : Nat) (A0 : Option Addr) (c0 : Nat) (l0 : List Int) (r : Int) (w : World) (hr0 : Kd.C (Kd.int .u8) w A0 l0.length l0) (hc0 : l0.length ≤ c0) (h : piece_small.f k l0 = some r) :
    Calls Try.prog 49 #[.slice A0 l0.length c0] w fun e w' => e = .returned (.int .i64 r) ∧ Drawn0 w w' := by
  have HR0 := Aside0.mk hr0
  have HC0 := Aside0.mk hc0
  clear hr0 hc0
  have H : (piece_small.l0 k 0 l0 (l0.length : Int) 0) = some r := h
  clear h
  have H' := Aside0.mk H
  clear H
  go_enter Try.func49, Try.ntmps49
  go_wp2
  go_loopg [3, 8] k (fun kq v3 v8 w' => ∃ (x3_1 : Int) (x8_1 : Int), v3 = .int .i64 x3_1 ∧ v8 = .int .i64 x8_1 ∧ Aside0 (piece_small.l0 kq x3_1 l0 (l0.length : Int) x8_1 = some r) ∧ Aside0 (kq ≤ k) ∧ Drawn0 w w')
  case atStart => exact ⟨(0), (0), (by first | rfl | (simp; done) | (simp [*]; done)), (by first | rfl | (simp; done) | (simp [*]; done)), H', ⟨Nat.le_refl _⟩, by repeat (first | exact Drawn0.refl _ | apply Drawn0.step)⟩
  case round =>
    clear H'
    obtain ⟨x3_1, x8_1, rfl, rfl, HA, HK1, ⟨m1, rfl⟩⟩ := hrel
    cases gk with
    | zero => exact absurd HA.out (by simp [piece_small.l0])
    | succ k1 =>
      have H := HA.out
      clear HA
      simp only [piece_small.l0] at H
      by_cases c2 : x8_1 < (l0.length : Int)
      · rw [if_pos c2] at H
        have c2b0 : decide (x8_1 < (l0.length : Int)) = true := decide_eq_true c2
        clear c2
        by_cases c3 : 0 ≤ x8_1
        · rw [if_pos c3] at H
          have c3b0 : decide (0 ≤ x8_1) = true := decide_eq_true c3
          clear c3
          by_cases c4 : x8_1 < (l0.length : Int)
          · rw [if_pos c4] at H
            have c4b0 : decide (x8_1 < (l0.length : Int)) = true := decide_eq_true c4
            clear c4
            have H' := Aside0.mk H
            clear H
            have p213 : 0 ≤ (x8_1 : Int) := of_decide_eq_true (by first | (with_reducible assumption) | assumption)
            have q213 : x8_1 < (l0.length : Int) := of_decide_eq_true (by first | (with_reducible assumption) | assumption)
            obtain ⟨ad213, e213, hx213_0⟩ := Kd.at_int HR0.out x8_1 p213 q213
            cases e213
            replace p213 := eq_true p213
            replace q213 := eq_true q213
            go_wp2
            go_roundg k1
            case measure => have := HK1.out; omega
            case rel => exact ⟨(Go.bits .or .i64 (wrap64 (x3_1 * 256)) (wrap64 (rd l0 x8_1))), (wrap64 (x8_1 + 1)), (by first | rfl | (simp; done) | (simp [*]; done)), (by first | rfl | (simp; done) | (simp [*]; done)), H', ⟨by have := HK1.out; omega⟩, by repeat (first | exact Drawn0.refl _ | apply Drawn0.step)⟩
          · rw [if_neg c4] at H
            exact absurd H (by simp)
        · rw [if_neg c3] at H
          exact absurd H (by simp)
      · rw [if_neg c2] at H
        have c2b0 : decide (x8_1 < (l0.length : Int)) = false := decide_eq_false c2
        clear c2
        obtain rfl := Option.some.inj H
        go_wp2
        go_ret
        exact ⟨by first | rfl | (simp; done) | (simp [*]; done), by repeat (first | exact Drawn0.refl _ | apply Drawn0.step)⟩
end Go.Proofs.Ythiealhmcfdakaa.E
end
section
set_option linter.unusedVariables false
set_option linter.unusedSimpArgs false
namespace Go.Proofs.YthiealhmcfdakaaH
open Go Go.RowKit Go.Proofs.YthiealhmcfdakaaW.PrintWords Go.Proofs.YthiealhmcfdakaaW.PrintLast Go.Proofs.YthiealhmcfdakaaW.PrintMore Go.Proofs.Ythiealhmcfdakaa.E
theorem run_store_row {P : Program} {w : World} {o : Oper} {a : Act} (ty : TypeId) (x y : Operand) (ho : o.op = .store ty x y) (g : Nat) (hx : a.eval x = .pointer (some ⟨g, 0, none⟩)) (cs : Array Value) (hy : a.eval y = .agg cs)
    (t : TypeId) (cur : Array Value) (hg : w.heap[g]? = some (.cells cur t (0, 0))) (hs : cs.size = cur.size) (h1 : ∀ v ∈ cs, v.oneCell' = true)
    (hi : (P.info? ty).map (·.size) = some cs.size) : (execOp a.eval o).run P w = .ok .skip (w.setRow g cs) := by
  unfold execOp
  simp only [ho, hx, hy, Instr.storeAt, Instr.sureAddr, Sem.run_bind, Sem.run_pure, Result.andThen_ok, run_storeVar_row ty g t cur cs hg hs h1 hi]
theorem or_byte (x y : Int) (h0 : 0 ≤ x) (h1 : x ≤ 1099511627776) (h2 : 0 ≤ y) (h3 : y ≤ 255) : Go.bits .or .i64 (wrap64 (x * 256)) (wrap64 y) = x * 256 + y := by
  have := bits_join .i64 63 (by decide) (fun n a b => by rw [show IntKind.i64.wrap n = n from by unfold IntKind.wrap; simp [IntKind.bits, IntKind.signed]; omega]) 8
  have e1 : wrap64 (x * 256) = x * 256 := by unfold wrap64; omega
  have e2 : wrap64 y = y := by unfold wrap64; omega
  rw [e1, e2, this (x * 256) y (by omega) (by omega) (by omega) h2 (by omega) (by omega)]
  try omega
theorem small_step (k : Nat) (x : Int) (l : List Int) (i : Nat) (hi : i < l.length) (hl : l.length ≤ 100) (h0 : 0 ≤ x) (h1 : x ≤ 1099511627776) (h2 : 0 ≤ rd l (i : Int)) (h3 : rd l (i : Int) ≤ 255) :
    piece_small.l0 (k + 1) x l (l.length : Int) (i : Int) = piece_small.l0 k (x * 256 + rd l (i : Int)) l (l.length : Int) ((i + 1 : Nat) : Int) := by
  have e : wrap64 ((i : Int) + 1) = ((i + 1 : Nat) : Int) := by unfold wrap64; omega
  rw [piece_small.l0, if_pos (by omega), if_pos (by omega), if_pos (by omega), or_byte x _ h0 h1 h2 h3, e]
theorem small_end (k : Nat) (x : Int) (l : List Int) : piece_small.l0 (k + 1) x l (l.length : Int) (l.length : Int) = some x := by
  rw [piece_small.l0, if_neg (by omega)]
theorem small2 (a b : Int) (ha : 0 ≤ a ∧ a ≤ 255) (hb : 0 ≤ b ∧ b ≤ 255) : piece_small.f 3 [a, b] = some (a * 256 + b) := by
  unfold piece_small.f
  have s0 := small_step 2 0 [a, b] 0 (by simp) (by simp) (by decide) (by decide) ha.1 ha.2
  have s1 := small_step 1 (0 * 256 + a) [a, b] 1 (by simp) (by simp) (by omega) (by omega) hb.1 hb.2
  have s2 := small_end 0 ((0 * 256 + a) * 256 + b) [a, b]
  refine (s0.trans (s1.trans s2)).trans ?_
  congr 1; omega
theorem small4 (a b c d : Int) (ha : 0 ≤ a ∧ a ≤ 255) (hb : 0 ≤ b ∧ b ≤ 255) (hc : 0 ≤ c ∧ c ≤ 255) (hd : 0 ≤ d ∧ d ≤ 255) : piece_small.f 5 [a, b, c, d] = some (((a * 256 + b) * 256 + c) * 256 + d) := by
  unfold piece_small.f
  have s0 := small_step 4 0 [a, b, c, d] 0 (by simp) (by simp) (by decide) (by decide) ha.1 ha.2
  have s1 := small_step 3 (0 * 256 + a) [a, b, c, d] 1 (by simp) (by simp) (by omega) (by omega) hb.1 hb.2
  have s2 := small_step 2 ((0 * 256 + a) * 256 + b) [a, b, c, d] 2 (by simp) (by simp) (by omega) (by omega) hc.1 hc.2
  have s3 := small_step 1 (((0 * 256 + a) * 256 + b) * 256 + c) [a, b, c, d] 3 (by simp) (by simp) (by omega) (by omega) hd.1 hd.2
  have s4 := small_end 0 ((((0 * 256 + a) * 256 + b) * 256 + c) * 256 + d) [a, b, c, d]
  refine (s0.trans (s1.trans (s2.trans (s3.trans s4)))).trans ?_
  congr 1; omega
theorem mid2 (l : List Int) (i : Nat) (h : i + 2 ≤ l.length) : (l.take (i + 2)).drop i = [rd l (i : Int), rd l ((i + 1 : Nat) : Int)] := by
  apply List.ext_getElem
  · simp; omega
  · intro j h1 h2
    simp only [List.length_cons, List.length_nil] at h2
    have e : ((l.take (i + 2)).drop i)[j] = l[i + j]'(by omega) := by simp
    rw [e]
    obtain rfl | rfl : j = 0 ∨ j = 1 := by omega
    · simp only [List.getElem_cons_zero, List.getElem_cons_succ, rd, Int.toNat_natCast, Nat.add_zero, List.getD_eq_getElem?_getD, List.getElem?_eq_getElem (show i < l.length by omega), Option.getD_some]
    · simp only [List.getElem_cons_zero, List.getElem_cons_succ, rd, Int.toNat_natCast, Nat.add_zero, List.getD_eq_getElem?_getD, List.getElem?_eq_getElem (show i + 1 < l.length by omega), Option.getD_some]
theorem mid4 (l : List Int) (i : Nat) (h : i + 4 ≤ l.length) : (l.take (i + 4)).drop i = [rd l (i : Int), rd l ((i + 1 : Nat) : Int), rd l ((i + 2 : Nat) : Int), rd l ((i + 3 : Nat) : Int)] := by
  apply List.ext_getElem
  · simp; omega
  · intro j h1 h2
    simp only [List.length_cons, List.length_nil] at h2
    have e : ((l.take (i + 4)).drop i)[j] = l[i + j]'(by omega) := by simp
    rw [e]
    obtain rfl | rfl | rfl | rfl : j = 0 ∨ j = 1 ∨ j = 2 ∨ j = 3 := by omega
    · simp only [List.getElem_cons_zero, List.getElem_cons_succ, rd, Int.toNat_natCast, Nat.add_zero, List.getD_eq_getElem?_getD, List.getElem?_eq_getElem (show i < l.length by omega), Option.getD_some]
    · simp only [List.getElem_cons_zero, List.getElem_cons_succ, rd, Int.toNat_natCast, Nat.add_zero, List.getD_eq_getElem?_getD, List.getElem?_eq_getElem (show i + 1 < l.length by omega), Option.getD_some]
    · simp only [List.getElem_cons_zero, List.getElem_cons_succ, rd, Int.toNat_natCast, Nat.add_zero, List.getD_eq_getElem?_getD, List.getElem?_eq_getElem (show i + 2 < l.length by omega), Option.getD_some]
    · simp only [List.getElem_cons_zero, List.getElem_cons_succ, rd, Int.toNat_natCast, Nat.add_zero, List.getD_eq_getElem?_getD, List.getElem?_eq_getElem (show i + 3 < l.length by omega), Option.getD_some]
def v49 (p : S49) (v : Value) : Value := .agg #[.int .i64 p.f0.f0, .int .i64 p.f0.f1, .int .i64 p.f0.f2, .int .i64 p.f1, .int .i64 p.f2, .int .i64 p.f3, .int .i64 p.f4, v]
def okP (p : S49) : Prop := pieceOk p.f0.f0 p.f0.f1 p.f0.f2 p.f1 p.f2 p.f3 p.f4 p.f5.length
instance (p : S49) : Decidable (okP p) := by unfold okP; infer_instance
def readP (c : List Int) : S49 := ⟨⟨rd c 0, rd c 1, rd c 2⟩, rd c 3, rd c 4, rd c 5 * 256 + rd c 6, ((rd c 7 * 256 + rd c 8) * 256 + rd c 9) * 256 + rd c 10, c.drop 11⟩
def piece_Read.f (l0 : List Int) : Option (S49 × Int) :=
  (codec_Open.f l0).bind fun t => if t.2.2 ≠ 0 then some (z49, t.2.2) else if t.2.1 ≠ (l0.length : Int) ∨ t.1.length < 11 then some (z49, 7)
    else if l0.length < 100000 then (if okP (readP t.1) then some (readP t.1, 0) else some (z49, 7)) else none
theorem open_bytes {l0 r1 : List Int} {r2 r3 : Int} (h : codec_Open.f l0 = some (r1, r2, r3)) : bytesOk r1 = true ∧ r1.length ≤ l0.length := by
  unfold codec_Open.f at h
  by_cases hb : bytesOk l0 = true
  · rw [if_pos hb] at h
    split at h
    · cases h; exact ⟨rfl, by simp⟩
    split at h
    · cases h; exact ⟨rfl, by simp⟩
    split at h
    · cases h
      refine ⟨?_, by simp; omega⟩
      unfold bytesOk at *
      rw [List.all_eq_true] at *
      exact fun x hx => hb x (List.mem_of_mem_take (List.mem_of_mem_drop hx))
    · cases h; exact ⟨rfl, by simp⟩
  · rw [if_neg hb] at h; cases h
set_option maxHeartbeats 8000000 in
set_option maxRecDepth 100000 in
theorem piece_Read.calls (A0 : Option Addr) (c0 : Nat) (l0 : List Int) (p : S49) (er : Int) (w : World) (hr0 : Kd.C (Kd.int .u8) w A0 l0.length l0) (hc0 : l0.length ≤ c0) (h : piece_Read.f l0 = some (p, er)) :
    Calls Try.prog 23 #[.slice A0 l0.length c0] w fun e w' => ∃ v : Value, e = .returned (.tuple #[v49 p v, .int .i64 er]) ∧ Kd.R (Kd.int .u8) 5 w' w.heap.size (fun _ => True) v p.f5 ∧ Below w.heap.size w w' := by
  have hu49 := Try.underlying49
  have hu23 := Try.underlying23
  unfold piece_Read.f at h
  obtain ⟨⟨r1, r2, r3⟩, ho, h⟩ := Option.bind_eq_some_iff.1 h
  dsimp only at h
  have hopen := fun W (hB : Below w.heap.size w W) => codec_Open.calls A0 c0 l0 r1 r2 r3 W (Kd.C_below hr0 hB) hc0 ho
  obtain ⟨hby, hle⟩ := open_bytes ho
  have HO := Aside0.mk ho
  clear ho
  have hmix : Try.prog.follows .mixedOrders = true := by kernel_rfl
  have hi49 : (Try.prog.info? 49).map (·.size) = some 8 := by kernel_rfl
  go_enter Try.func23, Try.ntmps23
  go_wp2_with fail
  obtain ⟨W0, hW0⟩ : ∃ W0, w.alloc (.cells #[.int .i64 0, .int .i64 0, .int .i64 0, .int .i64 0, .int .i64 0, .int .i64 0, .int .i64 0, .slice none 0 0] 49) = W0 := ⟨_, rfl⟩
  have hB0 : Below w.heap.size w W0 := by rw [← hW0]; exact (Below.refl _ _).alloc (Nat.le_refl _) _
  have hs0 : W0.heap.size = w.heap.size + 1 := by rw [← hW0]; simp
  have hk0 : W0.heap[w.heap.size]? = some (.cells #[.int .i64 0, .int .i64 0, .int .i64 0, .int .i64 0, .int .i64 0, .int .i64 0, .int .i64 0, .slice none 0 0] 49 (0, 0)) := by rw [← hW0]; exact World.alloc_heap_new _ _
  rw [hW0]
  clear hW0
  (with_reducible refine (hopen W0 hB0).mono ?_)
  rintro e w1 ⟨v0, rfl, hR, hb⟩
  have hk1 : w1.heap[w.heap.size]? = some (.cells #[.int .i64 0, .int .i64 0, .int .i64 0, .int .i64 0, .int .i64 0, .int .i64 0, .int .i64 0, .slice none 0 0] 49 (0, 0)) := (hb.block _ (by omega)).trans hk0
  have HB1 := Aside0.mk (hB0.trans (hb.mono (by omega)))
  clear hb hB0 hk0 hopen
  have HK1 := Aside0.mk hk1
  clear hk1
  obtain ⟨A1, c1, rfl, hc1, hC⟩ := Kd.R_reads hR
  by_cases c1' : r3 = 0
  case neg =>
    rw [if_pos c1'] at h
    obtain ⟨rfl, rfl⟩ := Prod.mk.inj (Option.some.inj h)
    have k1 : ((r3 : Int) == 0) = false := beq_eq_false_iff_ne.mpr c1'
    go_wp2_with (first | (refine wpList_store_row rfl 49 (.tmp 2) (.tmp 16) rfl w.heap.size rfl #[.int .i64 0, .int .i64 0, .int .i64 0, .int .i64 0, .int .i64 0, .int .i64 0, .int .i64 0, .slice none 0 0] rfl 49 #[.int .i64 0, .int .i64 0, .int .i64 0, .int .i64 0, .int .i64 0, .int .i64 0, .int .i64 0, .slice none 0 0] HK1.out rfl ?h1 hi49 ?_; (case h1 => simp [Value.oneCell'])))
    refine bodyPost_ret (results_list (rs := [.cell 2 49, .tmp 3]) rfl (by simp) (.cell w.heap.size 49 #[.int .i64 0, .int .i64 0, .int .i64 0, .int .i64 0, .int .i64 0, .int .i64 0, .int .i64 0, .slice none 0 0] (0, 0) _ rfl (setRow_heap _ _ _ _ _ _ HK1.out) hu49 rfl hi49 (.tmp .nil))) rfl ?_
    exact ⟨_, rfl, Kd.R_nil _ _ _ _ _, below_setRow HB1.out (Nat.le_refl _) _⟩
  subst c1'
  rw [if_neg (by simp)] at h
  by_cases c2 : r2 = (l0.length : Int)
  case neg =>
    rw [if_pos (.inl c2)] at h
    obtain ⟨rfl, rfl⟩ := Prod.mk.inj (Option.some.inj h)
    have k2 : (r2 == (l0.length : Int)) = false := beq_eq_false_iff_ne.mpr c2
    go_wp2_with (first | (refine wpList_store_row rfl 49 (.tmp 2) (.tmp 27) rfl w.heap.size rfl #[.int .i64 0, .int .i64 0, .int .i64 0, .int .i64 0, .int .i64 0, .int .i64 0, .int .i64 0, .slice none 0 0] rfl 49 #[.int .i64 0, .int .i64 0, .int .i64 0, .int .i64 0, .int .i64 0, .int .i64 0, .int .i64 0, .slice none 0 0] HK1.out rfl ?h1 hi49 ?_; (case h1 => simp [Value.oneCell'])))
    refine bodyPost_ret (results_list (rs := [.cell 2 49, .tmp 3]) rfl (by simp) (.cell w.heap.size 49 #[.int .i64 0, .int .i64 0, .int .i64 0, .int .i64 0, .int .i64 0, .int .i64 0, .int .i64 0, .slice none 0 0] (0, 0) _ rfl (setRow_heap _ _ _ _ _ _ HK1.out) hu49 rfl hi49 (.tmp .nil))) rfl ?_
    exact ⟨_, rfl, Kd.R_nil _ _ _ _ _, below_setRow HB1.out (Nat.le_refl _) _⟩
  subst c2
  by_cases c3 : r1.length < 11
  · rw [if_pos (.inr c3)] at h
    obtain ⟨rfl, rfl⟩ := Prod.mk.inj (Option.some.inj h)
    have k3 : (r1.length : Int) < 11 := by omega
    go_wp2_with (first | (refine wpList_store_row rfl 49 (.tmp 2) (.tmp 27) rfl w.heap.size rfl #[.int .i64 0, .int .i64 0, .int .i64 0, .int .i64 0, .int .i64 0, .int .i64 0, .int .i64 0, .slice none 0 0] rfl 49 #[.int .i64 0, .int .i64 0, .int .i64 0, .int .i64 0, .int .i64 0, .int .i64 0, .int .i64 0, .slice none 0 0] HK1.out rfl ?h1 hi49 ?_; (case h1 => simp [Value.oneCell'])))
    refine bodyPost_ret (results_list (rs := [.cell 2 49, .tmp 3]) rfl (by simp) (.cell w.heap.size 49 #[.int .i64 0, .int .i64 0, .int .i64 0, .int .i64 0, .int .i64 0, .int .i64 0, .int .i64 0, .slice none 0 0] (0, 0) _ rfl (setRow_heap _ _ _ _ _ _ HK1.out) hu49 rfl hi49 (.tmp .nil))) rfl ?_
    exact ⟨_, rfl, Kd.R_nil _ _ _ _ _, below_setRow HB1.out (Nat.le_refl _) _⟩
  rw [if_neg (by rintro (h | h); exact h rfl; exact c3 h)] at h
  by_cases c4 : l0.length < 100000
  case neg => rw [if_neg c4] at h; cases h
  rw [if_pos c4] at h
  have k3 : ¬ (r1.length : Int) < 11 := by omega
  obtain ⟨ad, rfl, hx0⟩ := Kd.at_int hC 0 (by omega) (by omega)
  have hxx := fun (i : Nat) (hi : i < r1.length) => (Kd.at_int hC (i : Int) (by omega) (by omega))
  have hcell : ∀ i : Nat, i < r1.length → w1.cell? (ad.add i) = some (.int .u8 (rd r1 (i : Int))) := by
    intro i hi
    obtain ⟨ad', e, hx⟩ := hxx i hi
    obtain rfl := Option.some.inj e
    rw [Int.toNat_natCast] at hx
    exact hx
  clear hxx hx0
  have hx0 := hcell 0 (by omega)
  have hx1 := hcell 1 (by omega)
  have hx2 := hcell 2 (by omega)
  have hx3 := hcell 3 (by omega)
  have hx4 := hcell 4 (by omega)
  obtain ⟨b0, hb0⟩ : ∃ b, b = rd r1 ((0 : Nat) : Int) := ⟨_, rfl⟩
  obtain ⟨b1, hb1⟩ : ∃ b, b = rd r1 ((1 : Nat) : Int) := ⟨_, rfl⟩
  obtain ⟨b2, hb2⟩ : ∃ b, b = rd r1 ((2 : Nat) : Int) := ⟨_, rfl⟩
  obtain ⟨b3, hb3⟩ : ∃ b, b = rd r1 ((3 : Nat) : Int) := ⟨_, rfl⟩
  obtain ⟨b4, hb4⟩ : ∃ b, b = rd r1 ((4 : Nat) : Int) := ⟨_, rfl⟩
  rw [← hb0] at hx0
  rw [← hb1] at hx1
  rw [← hb2] at hx2
  rw [← hb3] at hx3
  rw [← hb4] at hx4
  have q0 : 0 ≤ b0 ∧ b0 ≤ 255 := by rw [hb0]; exact bytesOk_rd hby 0 (by omega)
  have q1 : 0 ≤ b1 ∧ b1 ≤ 255 := by rw [hb1]; exact bytesOk_rd hby 1 (by omega)
  have q2 : 0 ≤ b2 ∧ b2 ≤ 255 := by rw [hb2]; exact bytesOk_rd hby 2 (by omega)
  have q3 : 0 ≤ b3 ∧ b3 ≤ 255 := by rw [hb3]; exact bytesOk_rd hby 3 (by omega)
  have q4 : 0 ≤ b4 ∧ b4 ≤ 255 := by rw [hb4]; exact bytesOk_rd hby 4 (by omega)
  have HB0 := Aside0.mk hb0
  have HB1' := Aside0.mk hb1
  have HB2 := Aside0.mk hb2
  have HB3 := Aside0.mk hb3
  have HB4 := Aside0.mk hb4
  clear hb0 hb1 hb2 hb3 hb4
  have hl1 : (1 : Int) < (r1.length : Int) := by omega
  have hl2 : (2 : Int) < (r1.length : Int) := by omega
  have hl3 : (3 : Int) < (r1.length : Int) := by omega
  have hl4 : (4 : Int) < (r1.length : Int) := by omega
  have hl0 : (0 : Int) < (r1.length : Int) := by omega
  have hn0 : 0 < r1.length := by omega
  have hn1 : 1 < r1.length := by omega
  have hn2 : 2 < r1.length := by omega
  have hn3 : 3 < r1.length := by omega
  have hn4 : 4 < r1.length := by omega
  go_wp2_with fail
  have hS0 : (fun w' : World => w'.cell? ad = some (.int .u8 b0) ∧ w'.cell? ⟨ad.block, ad.off + 1, none⟩ = some (.int .u8 b1) ∧ w'.cell? ⟨ad.block, ad.off + 2, none⟩ = some (.int .u8 b2) ∧ w'.cell? ⟨ad.block, ad.off + 3, none⟩ = some (.int .u8 b3) ∧ w'.cell? ⟨ad.block, ad.off + 4, none⟩ = some (.int .u8 b4)) w1.drew := ⟨hx0, hx1, hx2, hx3, hx4⟩
  refine start_ (n := 24) (S := fun w' => w'.cell? ad = some (.int .u8 b0) ∧ w'.cell? ⟨ad.block, ad.off + 1, none⟩ = some (.int .u8 b1) ∧ w'.cell? ⟨ad.block, ad.off + 2, none⟩ = some (.int .u8 b2) ∧ w'.cell? ⟨ad.block, ad.off + 3, none⟩ = some (.int .u8 b3) ∧ w'.cell? ⟨ad.block, ad.off + 4, none⟩ = some (.int .u8 b4)) (ds := [23]) #[false, false, false, false, false, false, false, false, false, false, false, false, false, false, false, false, false, false, false, false, false, false, false, false] hmix rfl rfl hS0 (fun hHeld => ?_)
  refine pure_ (i := 0) (N := (some 28)) (v := ?_) (a' := ?_) #[true, false, false, false, false, false, false, false, false, false, false, false, false, false, false, false, false, false, false, false, false, false, false, false] rfl rfl (by kernel_rfl) (fun _ _ _ h => h) (Or.inl ⟨by rfl, ?_⟩) ?_ ?_
  rotate_left
  · intro w'
    go_simp
    with_reducible rfl
  rotate_left
  · simp only [Act.put, List.setIfInBounds_toArray, List.set_cons_zero, List.set_cons_succ, i64_w, i32_w]
    rfl
  refine pure_ (i := 1) (N := (some 29)) (v := ?_) (a' := ?_) #[true, true, false, false, false, false, false, false, false, false, false, false, false, false, false, false, false, false, false, false, false, false, false, false] rfl rfl (by kernel_rfl) (fun _ _ _ h => h) (Or.inl ⟨by rfl, ?_⟩) ?_ ?_
  rotate_left
  · intro w'
    go_simp
    with_reducible rfl
  rotate_left
  · simp only [Act.put, List.setIfInBounds_toArray, List.set_cons_zero, List.set_cons_succ, i64_w, i32_w]
    rfl
  refine take_ (i := 2) (N := (some 30)) (v := ?_) (a' := ?_) #[true, true, true, false, false, false, false, false, false, false, false, false, false, false, false, false, false, false, false, false, false, false, false, false] rfl rfl (by kernel_rfl) (fun _ _ _ h => h) (Or.inl ⟨by rfl, ?_⟩) hHeld ?_ ?_
  rotate_left
  · rintro w' ⟨s0, s1, s2, s3, s4⟩
    go_simp
    with_reducible rfl
  rotate_left
  · simp only [Act.put, List.setIfInBounds_toArray, List.set_cons_zero, List.set_cons_succ, i64_w, i32_w]
    rfl
  refine pure_ (i := 3) (N := (some 31)) (v := ?_) (a' := ?_) #[true, true, true, true, false, false, false, false, false, false, false, false, false, false, false, false, false, false, false, false, false, false, false, false] rfl rfl (by kernel_rfl) (fun _ _ _ h => h) (Or.inl ⟨by rfl, ?_⟩) ?_ ?_
  rotate_left
  · intro w'
    go_simp
    with_reducible rfl
  rotate_left
  · simp only [Act.put, List.setIfInBounds_toArray, List.set_cons_zero, List.set_cons_succ, i64_w, i32_w]
    rfl
  refine pure_ (i := 4) (N := (some 32)) (v := ?_) (a' := ?_) #[true, true, true, true, true, false, false, false, false, false, false, false, false, false, false, false, false, false, false, false, false, false, false, false] rfl rfl (by kernel_rfl) (fun _ _ _ h => h) (Or.inl ⟨by rfl, ?_⟩) ?_ ?_
  rotate_left
  · intro w'
    go_simp
    with_reducible rfl
  rotate_left
  · simp only [Act.put, List.setIfInBounds_toArray, List.set_cons_zero, List.set_cons_succ, i64_w, i32_w]
    rfl
  refine pure_ (i := 5) (N := (some 33)) (v := ?_) (a' := ?_) #[true, true, true, true, true, true, false, false, false, false, false, false, false, false, false, false, false, false, false, false, false, false, false, false] rfl rfl (by kernel_rfl) (fun _ _ _ h => h) (Or.inl ⟨by rfl, ?_⟩) ?_ ?_
  rotate_left
  · intro w'
    go_simp
    with_reducible rfl
  rotate_left
  · simp only [Act.put, List.setIfInBounds_toArray, List.set_cons_zero, List.set_cons_succ, i64_w, i32_w]
    rfl
  refine take_ (i := 6) (N := (some 34)) (v := ?_) (a' := ?_) #[true, true, true, true, true, true, true, false, false, false, false, false, false, false, false, false, false, false, false, false, false, false, false, false] rfl rfl (by kernel_rfl) (fun _ _ _ h => h) (Or.inl ⟨by rfl, ?_⟩) hHeld ?_ ?_
  rotate_left
  · rintro w' ⟨s0, s1, s2, s3, s4⟩
    go_simp
    with_reducible rfl
  rotate_left
  · simp only [Act.put, List.setIfInBounds_toArray, List.set_cons_zero, List.set_cons_succ, i64_w, i32_w]
    rfl
  refine pure_ (i := 7) (N := (some 35)) (v := ?_) (a' := ?_) #[true, true, true, true, true, true, true, true, false, false, false, false, false, false, false, false, false, false, false, false, false, false, false, false] rfl rfl (by kernel_rfl) (fun _ _ _ h => h) (Or.inl ⟨by rfl, ?_⟩) ?_ ?_
  rotate_left
  · intro w'
    go_simp
    with_reducible rfl
  rotate_left
  · simp only [Act.put, List.setIfInBounds_toArray, List.set_cons_zero, List.set_cons_succ, i64_w, i32_w]
    rfl
  refine pure_ (i := 8) (N := (some 36)) (v := ?_) (a' := ?_) #[true, true, true, true, true, true, true, true, true, false, false, false, false, false, false, false, false, false, false, false, false, false, false, false] rfl rfl (by kernel_rfl) (fun _ _ _ h => h) (Or.inl ⟨by rfl, ?_⟩) ?_ ?_
  rotate_left
  · intro w'
    go_simp
    with_reducible rfl
  rotate_left
  · simp only [Act.put, List.setIfInBounds_toArray, List.set_cons_zero, List.set_cons_succ, i64_w, i32_w]
    rfl
  refine pure_ (i := 9) (N := (some 37)) (v := ?_) (a' := ?_) #[true, true, true, true, true, true, true, true, true, true, false, false, false, false, false, false, false, false, false, false, false, false, false, false] rfl rfl (by kernel_rfl) (fun _ _ _ h => h) (Or.inl ⟨by rfl, ?_⟩) ?_ ?_
  rotate_left
  · intro w'
    go_simp
    with_reducible rfl
  rotate_left
  · simp only [Act.put, List.setIfInBounds_toArray, List.set_cons_zero, List.set_cons_succ, i64_w, i32_w]
    rfl
  refine take_ (i := 10) (N := (some 38)) (v := ?_) (a' := ?_) #[true, true, true, true, true, true, true, true, true, true, true, false, false, false, false, false, false, false, false, false, false, false, false, false] rfl rfl (by kernel_rfl) (fun _ _ _ h => h) (Or.inl ⟨by rfl, ?_⟩) hHeld ?_ ?_
  rotate_left
  · rintro w' ⟨s0, s1, s2, s3, s4⟩
    go_simp
    with_reducible rfl
  rotate_left
  · simp only [Act.put, List.setIfInBounds_toArray, List.set_cons_zero, List.set_cons_succ, i64_w, i32_w]
    rfl
  refine pure_ (i := 11) (N := (some 39)) (v := ?_) (a' := ?_) #[true, true, true, true, true, true, true, true, true, true, true, true, false, false, false, false, false, false, false, false, false, false, false, false] rfl rfl (by kernel_rfl) (fun _ _ _ h => h) (Or.inl ⟨by rfl, ?_⟩) ?_ ?_
  rotate_left
  · intro w'
    go_simp
    with_reducible rfl
  rotate_left
  · simp only [Act.put, List.setIfInBounds_toArray, List.set_cons_zero, List.set_cons_succ, i64_w, i32_w]
    rfl
  refine pure_ (i := 12) (N := (some 40)) (v := ?_) (a' := ?_) #[true, true, true, true, true, true, true, true, true, true, true, true, true, false, false, false, false, false, false, false, false, false, false, false] rfl rfl (by kernel_rfl) (fun _ _ _ h => h) (Or.inl ⟨by rfl, ?_⟩) ?_ ?_
  rotate_left
  · intro w'
    go_simp
    with_reducible rfl
  rotate_left
  · simp only [Act.put, List.setIfInBounds_toArray, List.set_cons_zero, List.set_cons_succ, i64_w, i32_w]
    rfl
  refine pure_ (i := 13) (N := (some 41)) (v := ?_) (a' := ?_) #[true, true, true, true, true, true, true, true, true, true, true, true, true, true, false, false, false, false, false, false, false, false, false, false] rfl rfl (by kernel_rfl) (fun _ _ _ h => h) (Or.inl ⟨by rfl, ?_⟩) ?_ ?_
  rotate_left
  · intro w'
    go_simp
    with_reducible rfl
  rotate_left
  · simp only [Act.put, List.setIfInBounds_toArray, List.set_cons_zero, List.set_cons_succ, i64_w, i32_w]
    rfl
  refine pure_ (i := 14) (N := (some 42)) (v := ?_) (a' := ?_) #[true, true, true, true, true, true, true, true, true, true, true, true, true, true, true, false, false, false, false, false, false, false, false, false] rfl rfl (by kernel_rfl) (fun _ _ _ h => h) (Or.inl ⟨by rfl, ?_⟩) ?_ ?_
  rotate_left
  · intro w'
    go_simp
    with_reducible rfl
  rotate_left
  · simp only [Act.put, List.setIfInBounds_toArray, List.set_cons_zero, List.set_cons_succ, i64_w, i32_w]
    rfl
  refine take_ (i := 15) (N := (some 43)) (v := ?_) (a' := ?_) #[true, true, true, true, true, true, true, true, true, true, true, true, true, true, true, true, false, false, false, false, false, false, false, false] rfl rfl (by kernel_rfl) (fun _ _ _ h => h) (Or.inl ⟨by rfl, ?_⟩) hHeld ?_ ?_
  rotate_left
  · rintro w' ⟨s0, s1, s2, s3, s4⟩
    go_simp
    with_reducible rfl
  rotate_left
  · simp only [Act.put, List.setIfInBounds_toArray, List.set_cons_zero, List.set_cons_succ, i64_w, i32_w]
    rfl
  refine pure_ (i := 16) (N := (some 44)) (v := ?_) (a' := ?_) #[true, true, true, true, true, true, true, true, true, true, true, true, true, true, true, true, true, false, false, false, false, false, false, false] rfl rfl (by kernel_rfl) (fun _ _ _ h => h) (Or.inl ⟨by rfl, ?_⟩) ?_ ?_
  rotate_left
  · intro w'
    go_simp
    with_reducible rfl
  rotate_left
  · simp only [Act.put, List.setIfInBounds_toArray, List.set_cons_zero, List.set_cons_succ, i64_w, i32_w]
    rfl
  refine pure_ (i := 17) (N := (some 45)) (v := ?_) (a' := ?_) #[true, true, true, true, true, true, true, true, true, true, true, true, true, true, true, true, true, true, false, false, false, false, false, false] rfl rfl (by kernel_rfl) (fun _ _ _ h => h) (Or.inl ⟨by rfl, ?_⟩) ?_ ?_
  rotate_left
  · intro w'
    go_simp
    with_reducible rfl
  rotate_left
  · simp only [Act.put, List.setIfInBounds_toArray, List.set_cons_zero, List.set_cons_succ, i64_w, i32_w]
    rfl
  refine pure_ (i := 18) (N := (some 46)) (v := ?_) (a' := ?_) #[true, true, true, true, true, true, true, true, true, true, true, true, true, true, true, true, true, true, true, false, false, false, false, false] rfl rfl (by kernel_rfl) (fun _ _ _ h => h) (Or.inl ⟨by rfl, ?_⟩) ?_ ?_
  rotate_left
  · intro w'
    go_simp
    with_reducible rfl
  rotate_left
  · simp only [Act.put, List.setIfInBounds_toArray, List.set_cons_zero, List.set_cons_succ, i64_w, i32_w]
    rfl
  refine take_ (i := 19) (N := (some 47)) (v := ?_) (a' := ?_) #[true, true, true, true, true, true, true, true, true, true, true, true, true, true, true, true, true, true, true, true, false, false, false, false] rfl rfl (by kernel_rfl) (fun _ _ _ h => h) (Or.inl ⟨by rfl, ?_⟩) hHeld ?_ ?_
  rotate_left
  · rintro w' ⟨s0, s1, s2, s3, s4⟩
    go_simp
    with_reducible rfl
  rotate_left
  · simp only [Act.put, List.setIfInBounds_toArray, List.set_cons_zero, List.set_cons_succ, i64_w, i32_w]
    rfl
  refine pure_ (i := 20) (N := (some 48)) (v := ?_) (a' := ?_) #[true, true, true, true, true, true, true, true, true, true, true, true, true, true, true, true, true, true, true, true, true, false, false, false] rfl rfl (by kernel_rfl) (fun _ _ _ h => h) (Or.inl ⟨by rfl, ?_⟩) ?_ ?_
  rotate_left
  · intro w'
    go_simp
    with_reducible rfl
  rotate_left
  · simp only [Act.put, List.setIfInBounds_toArray, List.set_cons_zero, List.set_cons_succ, i64_w, i32_w]
    rfl
  refine pure_ (i := 21) (N := (some 49)) (v := ?_) (a' := ?_) #[true, true, true, true, true, true, true, true, true, true, true, true, true, true, true, true, true, true, true, true, true, true, false, false] rfl rfl (by kernel_rfl) (fun _ _ _ h => h) (Or.inl ⟨by rfl, ?_⟩) ?_ ?_
  rotate_left
  · intro w'
    go_simp
    with_reducible rfl
  rotate_left
  · simp only [Act.put, List.setIfInBounds_toArray, List.set_cons_zero, List.set_cons_succ, i64_w, i32_w]
    rfl
  refine one_ (i := 22) (N := some 7) #[true, true, true, true, true, true, true, true, true, true, true, true, true, true, true, true, true, true, true, true, true, true, true, false] rfl rfl (by kernel_rfl) (by decide) (fun K hK => ?_)
  go_simp
  have hal : ∀ (o : Obj) (i : Nat), i < 5 → (w1.alloc o).drew.cell? (ad.add i) = some (.int .u8 (rd r1 (i : Int))) := by
    intro o i hi
    have hx := hcell i (by omega)
    have hlt : (ad.add i).block < w1.heap.size := Nat.lt_of_not_le (fun hge => by have := Array.getElem?_eq_none hge; simp [World.cell?, this] at hx)
    exact (((Below.refl _ w1).alloc (Nat.le_refl _) o).drew.cell hlt).trans hx
  refine hK.out _ _ ⟨(hal _ 0 (by omega)).trans (by rw [HB0.out]), (hal _ 1 (by omega)).trans (by rw [HB1'.out]), (hal _ 2 (by omega)).trans (by rw [HB2.out]), (hal _ 3 (by omega)).trans (by rw [HB3.out]), (hal _ 4 (by omega)).trans (by rw [HB4.out])⟩ (fun hHeld => ?_)
  clear hK K hal
  refine last_ (i := 23) (N := none) #[true, true, true, true, true, true, true, true, true, true, true, true, true, true, true, true, true, true, true, true, true, true, true, true] rfl rfl (by kernel_rfl) (by decide) (fun K hK => ?_)
  refine skip_ (by rfl) rfl (run_store_row 49 (.tmp 7) (.tmp 49) rfl w1.heap.size rfl #[.int .i64 (wrap64 b0), .int .i64 (wrap64 b1), .int .i64 (wrap64 b2), .int .i64 (wrap64 b3), .int .i64 (wrap64 b4), .int .i64 0, .int .i64 0, .slice none 0 0] rfl 49 #[.int .i64 0, .int .i64 0, .int .i64 0, .int .i64 0, .int .i64 0, .int .i64 0, .int .i64 0, .slice none 0 0] (World.alloc_heap_new w1 _) rfl (by simp [Value.oneCell']) hi49) ?_
  refine hK.out _ _ ?_
  clear hK K
  refine done_ (by kernel_rfl) ?_
  obtain ⟨W2, hW2⟩ : ∃ W2, W2 = (w1.alloc (.cells #[.int .i64 0, .int .i64 0, .int .i64 0, .int .i64 0, .int .i64 0, .int .i64 0, .int .i64 0, .slice none 0 0] 49)).drew.setRow w1.heap.size #[.int .i64 (wrap64 b0), .int .i64 (wrap64 b1), .int .i64 (wrap64 b2), .int .i64 (wrap64 b3), .int .i64 (wrap64 b4), .int .i64 0, .int .i64 0, .slice none 0 0] := ⟨_, rfl⟩
  have hk2 : W2.heap[w1.heap.size]? = some (.cells #[.int .i64 (wrap64 b0), .int .i64 (wrap64 b1), .int .i64 (wrap64 b2), .int .i64 (wrap64 b3), .int .i64 (wrap64 b4), .int .i64 0, .int .i64 0, .slice none 0 0] 49 (0, 0)) := by rw [hW2]; exact setRow_heap _ _ _ _ _ _ (World.alloc_heap_new w1 _)
  have hb2 : Below w1.heap.size w1 W2 := by rw [hW2]; exact below_setRow ((Below.refl _ _).alloc (Nat.le_refl _) _).drew (Nat.le_refl _) _
  have hs2 : W2.heap.size = w1.heap.size + 1 := by rw [hW2]; simp [World.setRow, World.drew]
  rw [← hW2]
  clear hW2
  have HK2 := Aside0.mk hk2
  clear hk2
  have hcap : r1.length ≤ c1 := hc1
  have hn11 : 11 ≤ r1.length := by omega
  have hc11 : 11 ≤ c1 := by omega
  have hc7 : 7 ≤ c1 := by omega
  have hi7 : (7 : Int) ≤ (c1 : Int) := by omega
  have hi11 : (11 : Int) ≤ (c1 : Int) := by omega
  have hj11 : (11 : Int) ≤ (r1.length : Int) := by omega
  have hsm5 : ∀ W, Below w1.heap.size w1 W → Calls Try.prog 49 #[.slice (some ⟨ad.block, ad.off + 5, none⟩) 2 (c1 - 5)] W fun e w' => e = .returned (.int .i64 (rd r1 5 * 256 + rd r1 6)) ∧ ∃ n, w' = W.drewN n := by
    intro W hW
    have hm := Kd.C_mid (lo := 5) (hi := 7) (c := c1) (Kd.C_below hC hW) (by omega) (by omega) hcap
    rw [if_neg (by omega), mid2 r1 5 (by omega)] at hm
    exact (piece_small.calls 3 _ _ [rd r1 5, rd r1 6] _ W hm (by simp; omega) (small2 _ _ (bytesOk_rd hby 5 (by omega)) (bytesOk_rd hby 6 (by omega)))).mono (fun _ _ h => ⟨h.1, h.2.out⟩)
  have hsm7 : ∀ W, Below w1.heap.size w1 W → Calls Try.prog 49 #[.slice (some ⟨ad.block, ad.off + 7, none⟩) 4 (c1 - 7)] W fun e w' => e = .returned (.int .i64 (((rd r1 7 * 256 + rd r1 8) * 256 + rd r1 9) * 256 + rd r1 10)) ∧ ∃ n, w' = W.drewN n := by
    intro W hW
    have hm := Kd.C_mid (lo := 7) (hi := 11) (c := c1) (Kd.C_below hC hW) (by omega) (by omega) hcap
    rw [if_neg (by omega), mid4 r1 7 (by omega)] at hm
    exact (piece_small.calls 5 _ _ [rd r1 7, rd r1 8, rd r1 9, rd r1 10] _ W hm (by simp; omega) (small4 _ _ _ _ (bytesOk_rd hby 7 (by omega)) (bytesOk_rd hby 8 (by omega)) (bytesOk_rd hby 9 (by omega)) (bytesOk_rd hby 10 (by omega)))).mono (fun _ _ h => ⟨h.1, h.2.out⟩)
  have hC11 := Kd.C_drop (m := 11) hC (by omega) hcap
  have hcl : ∀ A, (Kd.int .u8).C w1 A (r1.drop 11).length (r1.drop 11) → ∀ W, Below w1.heap.size w1 W → Calls Try.prog 50 #[.slice A (r1.length - 11) (c1 - 11)] W fun e w' => ∃ v0_ : Value, e = .returned v0_ ∧ Kd.R (Kd.int .u8) 5 w' W.heap.size (fun _ => True) v0_ (r1.drop 11) ∧ Below W.heap.size W w' := by
    intro A hA W hW
    have := slices_Clone_byte_byte.calls A (c1 - 11) (r1.drop 11) (r1.drop 11) W (Kd.C_below hA hW) (by rw [List.length_drop]; omega) (by unfold slices_Clone_byte_byte.f; rw [if_pos (by rw [List.length_drop]; omega)])
    rw [List.length_drop] at this
    exact this
  have hc5 : ¬ c1 = 5 := by omega
  have hc7' : ¬ c1 = 7 := by omega
  have HBb2 := Aside0.mk hb2
  go_wp2_with fail
  have hC11' : (Kd.int .u8).C w1 (if c1 = 11 then some ad else some ⟨ad.block, ad.off + 11, none⟩) (r1.drop 11).length (r1.drop 11) := hC11
  have hCb := hcl _ hC11'
  refine start_ (n := 15) (S := fun w' => True) (ds := []) #[false, false, false, false, false, false, false, false, false, false, false, false, false, false, false] hmix rfl rfl trivial (fun hHeld => ?_)
  refine pure_ (i := 0) (N := (some 50)) (v := ?_) (a' := ?_) #[true, false, false, false, false, false, false, false, false, false, false, false, false, false, false] rfl rfl (by kernel_rfl) (fun _ _ _ h => h) (Or.inl ⟨by rfl, ?_⟩) ?_ ?_
  rotate_left
  · intro w'
    go_simp
    with_reducible rfl
  rotate_left
  · simp only [Act.put, List.setIfInBounds_toArray, List.set_cons_zero, List.set_cons_succ, i64_w, i32_w]
    rfl
  refine pure_ (i := 1) (N := (some 51)) (v := ?_) (a' := ?_) #[true, true, false, false, false, false, false, false, false, false, false, false, false, false, false] rfl rfl (by kernel_rfl) (fun _ _ _ h => h) (Or.inl ⟨by rfl, ?_⟩) ?_ ?_
  rotate_left
  · intro w'
    go_simp
    with_reducible rfl
  rotate_left
  · simp only [Act.put, List.setIfInBounds_toArray, List.set_cons_zero, List.set_cons_succ, i64_w, i32_w]
    rfl
  refine pure_ (i := 3) (N := (some 53)) (v := ?_) (a' := ?_) #[true, true, false, true, false, false, false, false, false, false, false, false, false, false, false] rfl rfl (by kernel_rfl) (fun _ _ _ h => h) (Or.inl ⟨by rfl, ?_⟩) ?_ ?_
  rotate_left
  · intro w'
    go_simp
    with_reducible rfl
  rotate_left
  · simp only [Act.put, List.setIfInBounds_toArray, List.set_cons_zero, List.set_cons_succ, i64_w, i32_w]
    rfl
  refine pure_ (i := 4) (N := (some 54)) (v := ?_) (a' := ?_) #[true, true, false, true, true, false, false, false, false, false, false, false, false, false, false] rfl rfl (by kernel_rfl) (fun _ _ _ h => h) (Or.inl ⟨by rfl, ?_⟩) ?_ ?_
  rotate_left
  · intro w'
    go_simp
    with_reducible rfl
  rotate_left
  · simp only [Act.put, List.setIfInBounds_toArray, List.set_cons_zero, List.set_cons_succ, i64_w, i32_w]
    rfl
  refine pure_ (i := 6) (N := (some 56)) (v := ?_) (a' := ?_) #[true, true, false, true, true, false, true, false, false, false, false, false, false, false, false] rfl rfl (by kernel_rfl) (fun _ _ _ h => h) (Or.inl ⟨by rfl, ?_⟩) ?_ ?_
  rotate_left
  · intro w'
    go_simp
    with_reducible rfl
  rotate_left
  · simp only [Act.put, List.setIfInBounds_toArray, List.set_cons_zero, List.set_cons_succ, i64_w, i32_w]
    rfl
  refine pure_ (i := 7) (N := (some 57)) (v := ?_) (a' := ?_) #[true, true, false, true, true, false, true, true, false, false, false, false, false, false, false] rfl rfl (by kernel_rfl) (fun _ _ _ h => h) (Or.inl ⟨by rfl, ?_⟩) ?_ ?_
  rotate_left
  · intro w'
    go_simp
    with_reducible rfl
  rotate_left
  · simp only [Act.put, List.setIfInBounds_toArray, List.set_cons_zero, List.set_cons_succ, i64_w, i32_w]
    rfl
  refine one_ (i := 2) (N := some 52) #[true, true, true, true, true, false, true, true, false, false, false, false, false, false, false] rfl rfl (by kernel_rfl) (by decide) (fun K hK => ?_)
  go_simp
  (with_reducible refine (hsm5 _ (by repeat (first | exact hb2 | refine Below.drew ?_ | refine pw_below_drewN ?_ _))).mono ?_)
  rintro e w' ⟨rfl, ⟨nd5, rfl⟩⟩
  refine hK.out _ _ trivial (fun _ => ?_)
  clear hK K
  refine pure_ (i := 9) (N := (some 59)) (v := ?_) (a' := ?_) #[true, true, true, true, true, false, true, true, false, true, false, false, false, false, false] rfl rfl (by kernel_rfl) (fun _ _ _ h => h) (Or.inl ⟨by rfl, ?_⟩) ?_ ?_
  rotate_left
  · intro w'
    go_simp
    with_reducible rfl
  rotate_left
  · simp only [Act.put, List.setIfInBounds_toArray, List.set_cons_zero, List.set_cons_succ, i64_w, i32_w]
    rfl
  refine one_ (i := 5) (N := some 55) #[true, true, true, true, true, true, true, true, false, true, false, false, false, false, false] rfl rfl (by kernel_rfl) (by decide) (fun K hK => ?_)
  go_simp
  (with_reducible refine (hsm7 _ (by repeat (first | exact hb2 | refine Below.drew ?_ | refine pw_below_drewN ?_ _))).mono ?_)
  rintro e w' ⟨rfl, ⟨nd7, rfl⟩⟩
  refine hK.out _ _ trivial (fun _ => ?_)
  clear hK K
  refine one_ (i := 8) (N := some 58) #[true, true, true, true, true, true, true, true, true, true, false, false, false, false, false] rfl rfl (by kernel_rfl) (by decide) (fun K hK => ?_)
  go_simp
  (with_reducible refine (hCb _ (by repeat (first | exact hb2 | refine Below.drew ?_ | refine pw_below_drewN ?_ _))).mono ?_)
  rintro e w' ⟨v3, rfl, hR3, hb3⟩
  refine hK.out _ _ trivial (fun _ => ?_)
  clear hK K
  have hW : Below w1.heap.size w1 ((W2.drewN (1 + nd5 + nd7))) := by repeat (first | exact hb2 | refine Below.drew ?_ | refine pw_below_drewN ?_ _)
  have hb3' : Below w1.heap.size w1 w' := hW.trans (hb3.mono (show w1.heap.size ≤ W2.heap.size by omega))
  have hk3 : w'.heap[w1.heap.size]? = some (.cells #[.int .i64 (wrap64 b0), .int .i64 (wrap64 b1), .int .i64 (wrap64 b2), .int .i64 (wrap64 b3), .int .i64 (wrap64 b4), .int .i64 0, .int .i64 0, .slice none 0 0] 49 (0, 0)) := (hb3.block w1.heap.size (show w1.heap.size < W2.heap.size by omega)).trans HK2.out
  obtain ⟨A3, c3, rfl, hc3, hC3⟩ := Kd.R_reads hR3
  have hbase3 : ∀ k, (Value.slice A3 (r1.drop 11).length c3).ownBlock = some k → w1.heap.size + 1 ≤ k := fun k hk => by have := Kd.R_base hR3 k hk; have h2 : (W2.drewN (1 + nd5 + nd7)).heap.size = W2.heap.size := rfl; omega
  have HK3 := Aside0.mk hk3
  have hfz : ∀ i, w'.frozen? ⟨w1.heap.size, i, none⟩ = false := fun i => blk_frozen HK3.out i
  have hv0 : w'.cell? ⟨w1.heap.size, 0, none⟩ = some (.int .i64 (wrap64 b0)) := blk_cell HK3.out 0
  have hv1 : w'.cell? ⟨w1.heap.size, 1, none⟩ = some (.int .i64 (wrap64 b1)) := blk_cell HK3.out 1
  have hv2 : w'.cell? ⟨w1.heap.size, 2, none⟩ = some (.int .i64 (wrap64 b2)) := blk_cell HK3.out 2
  have hv3 : w'.cell? ⟨w1.heap.size, 3, none⟩ = some (.int .i64 (wrap64 b3)) := blk_cell HK3.out 3
  have hv4 : w'.cell? ⟨w1.heap.size, 4, none⟩ = some (.int .i64 (wrap64 b4)) := blk_cell HK3.out 4
  have hv5 : w'.cell? ⟨w1.heap.size, 5, none⟩ = some (.int .i64 0) := blk_cell HK3.out 5
  have hv6 : w'.cell? ⟨w1.heap.size, 6, none⟩ = some (.int .i64 0) := blk_cell HK3.out 6
  have hv7 : w'.cell? ⟨w1.heap.size, 7, none⟩ = some (.slice none 0 0) := blk_cell HK3.out 7
  clear hk3 hCb hsm5 hsm7 hcl
  refine one_ (i := 10) (N := none) #[true, true, true, true, true, true, true, true, true, true, true, false, false, false, false] rfl rfl (by kernel_rfl) (by decide) (fun K hK => ?_)
  go_simp
  refine hK.out _ _ trivial (fun _ => ?_)
  clear hK K
  refine pure_ (i := 11) (N := (some 60)) (v := ?_) (a' := ?_) #[true, true, true, true, true, true, true, true, true, true, true, true, false, false, false] rfl rfl (by kernel_rfl) (fun _ _ _ h => h) (Or.inl ⟨by rfl, ?_⟩) ?_ ?_
  rotate_left
  · intro w'
    go_simp
    with_reducible rfl
  rotate_left
  · simp only [Act.put, List.setIfInBounds_toArray, List.set_cons_zero, List.set_cons_succ, i64_w, i32_w]
    rfl
  refine one_ (i := 12) (N := none) #[true, true, true, true, true, true, true, true, true, true, true, true, true, false, false] rfl rfl (by kernel_rfl) (by decide) (fun K hK => ?_)
  go_simp
  refine hK.out _ _ trivial (fun _ => ?_)
  clear hK K
  refine pure_ (i := 13) (N := (some 61)) (v := ?_) (a' := ?_) #[true, true, true, true, true, true, true, true, true, true, true, true, true, true, false] rfl rfl (by kernel_rfl) (fun _ _ _ h => h) (Or.inl ⟨by rfl, ?_⟩) ?_ ?_
  rotate_left
  · intro w'
    go_simp
    with_reducible rfl
  rotate_left
  · simp only [Act.put, List.setIfInBounds_toArray, List.set_cons_zero, List.set_cons_succ, i64_w, i32_w]
    rfl
  refine one_ (i := 14) (N := none) #[true, true, true, true, true, true, true, true, true, true, true, true, true, true, true] rfl rfl (by kernel_rfl) (by decide) (fun K hK => ?_)
  go_simp
  refine hK.out _ _ trivial (fun _ => ?_)
  clear hK K
  refine done_ (by kernel_rfl) ?_
  have wb : ∀ b : Int, 0 ≤ b ∧ b ≤ 255 → wrap64 b = b := fun b hb => by unfold wrap64; omega
  have e0 : wrap64 b0 = rd r1 0 := (wb _ q0).trans HB0.out
  have e1 : wrap64 b1 = rd r1 1 := (wb _ q1).trans HB1'.out
  have e2 : wrap64 b2 = rd r1 2 := (wb _ q2).trans HB2.out
  have e3 : wrap64 b3 = rd r1 3 := (wb _ q3).trans HB3.out
  have e4 : wrap64 b4 = rd r1 4 := (wb _ q4).trans HB4.out
  obtain ⟨W4, hW4⟩ : ∃ W4, W4 = (((w'.setCell ⟨w1.heap.size, 5, none⟩ (.int .i64 (rd r1 5 * 256 + rd r1 6))).setCell ⟨w1.heap.size, 6, none⟩ (.int .i64 (((rd r1 7 * 256 + rd r1 8) * 256 + rd r1 9) * 256 + rd r1 10))).setCell ⟨w1.heap.size, 7, none⟩ (.slice A3 (r1.length - 11) c3)) := ⟨_, rfl⟩
  have hk4 : W4.heap[w1.heap.size]? = some (.cells #[.int .i64 (rd r1 0), .int .i64 (rd r1 1), .int .i64 (rd r1 2), .int .i64 (rd r1 3), .int .i64 (rd r1 4), .int .i64 (rd r1 5 * 256 + rd r1 6), .int .i64 (((rd r1 7 * 256 + rd r1 8) * 256 + rd r1 9) * 256 + rd r1 10), .slice A3 (r1.length - 11) c3] 49 (0, 0)) := by
    rw [hW4, ← e0, ← e1, ← e2, ← e3, ← e4]
    exact blk_put (blk_put (blk_put HK3.out 5 _ rfl) 6 _ rfl) 7 _ rfl
  have hb4 : Below w1.heap.size w1 W4 := by rw [hW4]; exact ((hb3'.setCell (p := ⟨w1.heap.size, 5, none⟩) (Nat.le_refl _) _).setCell (p := ⟨w1.heap.size, 6, none⟩) (Nat.le_refl _) _).setCell (p := ⟨w1.heap.size, 7, none⟩) (Nat.le_refl _) _
  have hoth : ∀ k, k ≠ w1.heap.size → W4.heap[k]? = w'.heap[k]? := by
    intro k hk
    rw [hW4, Below.heap_setCell _ _ _ _ hk, Below.heap_setCell _ _ _ _ hk, Below.heap_setCell _ _ _ _ hk]
  have hR4 : Kd.R (Kd.int .u8) 5 W4 (w1.heap.size + 1) (fun k => w1.heap.size + 1 ≤ k) (.slice A3 (r1.drop 11).length c3) (r1.drop 11) := by
    have h1 := Kd.R_mono (Kd.R_bound hR3) (ok' := fun k => w1.heap.size + 1 ≤ k) (fun k hk => by have := hk.2.1; have h2 : (W2.drewN (1 + nd5 + nd7)).heap.size = W2.heap.size := rfl; omega)
    exact Kd.R_step (Kd.R_lower h1 (by have h2 : (W2.drewN (1 + nd5 + nd7)).heap.size = W2.heap.size := rfl; omega)) (fun k hk _ => hoth k (by omega))
  rw [← hW4]
  clear hW4 hoth hR3 hb3 hb3' e0 e1 e2 e3 e4 hC3 hfz hv0 hv1 hv2 hv3 hv4 hv5 hv6 hv7
  obtain ⟨A3', c3', e3', hc3', hC4⟩ := Kd.R_reads hR4
  cases e3'
  have hpc := piece_Piece.calls (rd r1 0) (rd r1 1) (rd r1 2) (rd r1 3) (rd r1 4) (rd r1 5 * 256 + rd r1 6) (((rd r1 7 * 256 + rd r1 8) * 256 + rd r1 9) * 256 + rd r1 10) A3 c3 (r1.drop 11) _ W4 hC4 hc3' rfl
  rw [List.length_drop] at hpc
  have HK4 := Aside0.mk hk4
  have hv0 : W4.cell? ⟨w1.heap.size, 0, none⟩ = some (.int .i64 (rd r1 0)) := blk_cell HK4.out 0
  have hv1 : W4.cell? ⟨w1.heap.size, 1, none⟩ = some (.int .i64 (rd r1 1)) := blk_cell HK4.out 1
  have hv2 : W4.cell? ⟨w1.heap.size, 2, none⟩ = some (.int .i64 (rd r1 2)) := blk_cell HK4.out 2
  have hv3 : W4.cell? ⟨w1.heap.size, 3, none⟩ = some (.int .i64 (rd r1 3)) := blk_cell HK4.out 3
  have hv4 : W4.cell? ⟨w1.heap.size, 4, none⟩ = some (.int .i64 (rd r1 4)) := blk_cell HK4.out 4
  have hv5 : W4.cell? ⟨w1.heap.size, 5, none⟩ = some (.int .i64 (rd r1 5 * 256 + rd r1 6)) := blk_cell HK4.out 5
  have hv6 : W4.cell? ⟨w1.heap.size, 6, none⟩ = some (.int .i64 (((rd r1 7 * 256 + rd r1 8) * 256 + rd r1 9) * 256 + rd r1 10)) := blk_cell HK4.out 6
  have hv7 : W4.cell? ⟨w1.heap.size, 7, none⟩ = some (.slice A3 (r1.length - 11) c3) := blk_cell HK4.out 7
  clear hk4
  generalize (if c1 = 11 then some ad else some (⟨ad.block, ad.off + 11, none⟩ : Addr)) = A11
  go_wp2_with fail
  (with_reducible refine hpc.mono ?_)
  rintro e w5 ⟨rfl, hb5⟩
  have hlt4 : w1.heap.size < W4.heap.size := blk_lt HK4.out
  replace hv0 := (hb5.cell (p := ⟨w1.heap.size, 0, none⟩) hlt4).trans hv0
  replace hv1 := (hb5.cell (p := ⟨w1.heap.size, 1, none⟩) hlt4).trans hv1
  replace hv2 := (hb5.cell (p := ⟨w1.heap.size, 2, none⟩) hlt4).trans hv2
  replace hv3 := (hb5.cell (p := ⟨w1.heap.size, 3, none⟩) hlt4).trans hv3
  replace hv4 := (hb5.cell (p := ⟨w1.heap.size, 4, none⟩) hlt4).trans hv4
  replace hv5 := (hb5.cell (p := ⟨w1.heap.size, 5, none⟩) hlt4).trans hv5
  replace hv6 := (hb5.cell (p := ⟨w1.heap.size, 6, none⟩) hlt4).trans hv6
  replace hv7 := (hb5.cell (p := ⟨w1.heap.size, 7, none⟩) hlt4).trans hv7
  have hlt1 : w.heap.size < w1.heap.size := blk_lt HK1.out
  have hB5 : Below w1.heap.size w1 w5 := hb4.trans (hb5.mono (by omega))
  have HK5 := Aside0.mk ((hB5.block _ hlt1).trans HK1.out)
  have HBw := Aside0.mk (HB1.out.trans (hB5.mono (by omega)))
  have hR5 := Kd.R_below hR4 hb5
  clear hR4 hb4 hb5 hB5 hb2 HBb2 hlt4 hpc hC4
  have hdec : decide (pieceOk (rd r1 0) (rd r1 1) (rd r1 2) (rd r1 3) (rd r1 4) (rd r1 5 * 256 + rd r1 6) (((rd r1 7 * 256 + rd r1 8) * 256 + rd r1 9) * 256 + rd r1 10) (r1.length - 11)) = decide (okP (readP r1)) := by
    rw [decide_eq_decide]
    unfold okP readP
    dsimp only
    rw [List.length_drop]
  rw [hdec]
  clear hdec
  by_cases hok : okP (readP r1)
  case neg =>
    rw [if_neg hok] at h
    obtain ⟨rfl, rfl⟩ := Prod.mk.inj (Option.some.inj h)
    rw [decide_eq_false hok]
    clear hok
    go_wp2_with (first | (refine wpList_store_row rfl 49 (.tmp 2) (.tmp 65) rfl w.heap.size rfl #[.int .i64 0, .int .i64 0, .int .i64 0, .int .i64 0, .int .i64 0, .int .i64 0, .int .i64 0, .slice none 0 0] rfl 49 #[.int .i64 0, .int .i64 0, .int .i64 0, .int .i64 0, .int .i64 0, .int .i64 0, .int .i64 0, .slice none 0 0] HK5.out rfl ?h1 hi49 ?_; (case h1 => simp [Value.oneCell'])))
    refine bodyPost_ret (results_list (rs := [.cell 2 49, .tmp 3]) rfl (by simp) (.cell w.heap.size 49 #[.int .i64 0, .int .i64 0, .int .i64 0, .int .i64 0, .int .i64 0, .int .i64 0, .int .i64 0, .slice none 0 0] (0, 0) _ rfl (setRow_heap _ _ _ _ _ _ HK5.out) hu49 rfl hi49 (.tmp .nil))) rfl ?_
    exact ⟨_, rfl, Kd.R_nil _ _ _ _ _, below_setRow HBw.out (Nat.le_refl _) _⟩
  rw [if_pos hok] at h
  obtain ⟨rfl, rfl⟩ := Prod.mk.inj (Option.some.inj h)
  rw [decide_eq_true hok]
  clear hok
  · skip
    go_wp2_with (first | (refine wpList_store_row rfl 49 (.tmp 2) (.tmp 66) rfl w.heap.size rfl #[.int .i64 (rd r1 0), .int .i64 (rd r1 1), .int .i64 (rd r1 2), .int .i64 (rd r1 3), .int .i64 (rd r1 4), .int .i64 (rd r1 5 * 256 + rd r1 6), .int .i64 (((rd r1 7 * 256 + rd r1 8) * 256 + rd r1 9) * 256 + rd r1 10), .slice A3 (r1.length - 11) c3] rfl 49 #[.int .i64 0, .int .i64 0, .int .i64 0, .int .i64 0, .int .i64 0, .int .i64 0, .int .i64 0, .slice none 0 0] HK5.out rfl ?h1 hi49 ?_; (case h1 => simp [Value.oneCell'])))
    refine bodyPost_ret (results_list (rs := [.cell 2 49, .tmp 3]) rfl (by simp) (.cell w.heap.size 49 #[.int .i64 (rd r1 0), .int .i64 (rd r1 1), .int .i64 (rd r1 2), .int .i64 (rd r1 3), .int .i64 (rd r1 4), .int .i64 (rd r1 5 * 256 + rd r1 6), .int .i64 (((rd r1 7 * 256 + rd r1 8) * 256 + rd r1 9) * 256 + rd r1 10), .slice A3 (r1.length - 11) c3] (0, 0) _ rfl (setRow_heap _ _ _ _ _ _ HK5.out) hu49 rfl hi49 (.tmp .nil))) rfl ?_
    refine ⟨.slice A3 (r1.drop 11).length c3, by rw [List.length_drop]; rfl, ?_, below_setRow HBw.out (Nat.le_refl _) _⟩
    refine Kd.R_mono (Kd.R_lower (Kd.R_step hR5 (fun k hk _ => ?_)) (by omega)) (fun _ _ => trivial)
    exact setRow_other _ _ _ _ (by omega)
end Go.Proofs.YthiealhmcfdakaaH
end
section
set_option linter.unusedVariables false
set_option linter.unusedSimpArgs false
namespace Go.Proofs.YthiealhmcfdakaaH
open Go Go.RowKit Go.Proofs.YthiealhmcfdakaaW.PrintWords Go.Proofs.YthiealhmcfdakaaW.PrintLast Go.Proofs.YthiealhmcfdakaaW.PrintMore Go.Proofs.Ythiealhmcfdakaa.E
set_option maxHeartbeats 4000000 in
set_option maxRecDepth 100000 in
theorem bad_calls (p : S49) (A7 : Option Addr) (c7 : Nat) (w : World) (hr7 : Kd.C (Kd.int .u8) w A7 p.f5.length p.f5) (hc7 : p.f5.length ≤ c7) :
    Calls Try.prog 41 #[v49 p (.slice A7 p.f5.length c7)] w fun e w' => e = .returned (.bool (!decide (okP p))) ∧ Below w.heap.size w w' := by
  have hu49 := Try.underlying49
  have hu23 := Try.underlying23
  have hpc := fun W (hB : Below w.heap.size w W) => piece_Piece.calls p.f0.f0 p.f0.f1 p.f0.f2 p.f1 p.f2 p.f3 p.f4 A7 c7 p.f5 _ W (Kd.C_below hr7 hB) hc7 rfl
  have hdec : decide (pieceOk p.f0.f0 p.f0.f1 p.f0.f2 p.f1 p.f2 p.f3 p.f4 p.f5.length) = decide (okP p) := rfl
  simp only [hdec] at hpc
  clear hdec
  obtain ⟨⟨n0, n1, n2⟩, i, nd, sz, sm, d⟩ := p
  dsimp only [v49] at *
  generalize decide (okP ⟨⟨n0, n1, n2⟩, i, nd, sz, sm, d⟩) = q at *
  go_enter Try.func41, Try.ntmps41
  go_wp2_with (first | ((with_reducible refine gate_dst (N := 1) rfl ?_); (try (refine gate_guard (by rfl) ?_; dsimp only)); refine box_event ?hg (N := 1) ?hd (cs := #[.int .i64 n0, .int .i64 n1, .int .i64 n2, .int .i64 i, .int .i64 nd, .int .i64 sz, .int .i64 sm, .slice A7 d.length c7]) (t := 49) ?hr ?_; (case hd => rfl); (case hg => rfl); (case hr => first | (go_simp; done) | (go_simp; rfl)); intro gb hg w1 hbox hbb; have hc0 : w1.cell? ⟨gb, 0, none⟩ = some (.int .i64 n0) := (blk_cell hbox 0).trans rfl; have hc1 : w1.cell? ⟨gb, 1, none⟩ = some (.int .i64 n1) := (blk_cell hbox 1).trans rfl; have hc2 : w1.cell? ⟨gb, 2, none⟩ = some (.int .i64 n2) := (blk_cell hbox 2).trans rfl; have hc3 : w1.cell? ⟨gb, 3, none⟩ = some (.int .i64 i) := (blk_cell hbox 3).trans rfl; have hc4 : w1.cell? ⟨gb, 4, none⟩ = some (.int .i64 nd) := (blk_cell hbox 4).trans rfl; have hc5 : w1.cell? ⟨gb, 5, none⟩ = some (.int .i64 sz) := (blk_cell hbox 5).trans rfl; have hc6 : w1.cell? ⟨gb, 6, none⟩ = some (.int .i64 sm) := (blk_cell hbox 6).trans rfl; have hc7 : w1.cell? ⟨gb, 7, none⟩ = some (.slice A7 d.length c7) := (blk_cell hbox 7).trans rfl; have HG := Aside0.mk hg; have HBX := Aside0.mk hbox; clear hg hbox))
  (with_reducible refine (hpc _ hbb).mono ?_)
  rintro e w2 ⟨rfl, hb2⟩
  go_wp2_with fail
  go_ret
  exact ⟨rfl, hbb.trans (hb2.mono hbb.size)⟩
def allOk (l : List S49) : Bool := l.all fun p => decide (okP p)
set_option maxHeartbeats 4000000 in
set_option maxRecDepth 100000 in
theorem index_calls (A : Option Addr) (c : Nat) (l : List S49) (w : World) (hr : Kd.C k49 w A l.length l) (hc : l.length ≤ c) :
    Calls Try.prog 60 #[.slice A l.length c, .func (.func 41) #[] #[]] w fun e w' => (∃ i : Int, e = .returned (.int .i64 i) ∧ (allOk l = true → i = -1) ∧ (allOk l = false → 0 ≤ i)) ∧ Below w.heap.size w w' := by
  have hu49 := Try.underlying49
  have hu23 := Try.underlying23
  have HR := Aside0.mk hr
  go_enter Try.func60, Try.ntmps60
  go_wp2_with fail
  go_loopw [8] (fun q wr => ∃ i : Nat, q = .int .i64 (i : Int) ∧ i ≤ l.length ∧ Aside0 (allOk (l.take i) = true) ∧ Below w.heap.size w wr) (fun q _ => l.length - (intOf q).toNat)
  case atStart => exact ⟨0, rfl, Nat.zero_le _, ⟨rfl⟩, Below.refl _ _⟩
  case round =>
    obtain ⟨i, rfl, hi, HA, hB⟩ := hrel
    by_cases hil : i < l.length
    · have hi2 : (i : Int) < (l.length : Int) := by omega
      have hi3 : (0 : Int) ≤ (i : Int) := by omega
      have hmx : i + 1 ≤ 9223372036854775807 := by have := Kd.C_max HR.out; omega
      obtain ⟨ad, A7, c7, e7, h0, h1, h2, h3, h4, h5, h6, h7, h8, h9⟩ := at_T49 (Kd.C_below HR.out hB) (i : Int) hi3 hi2
      subst e7
      rw [Int.toNat_natCast] at h0 h1 h2 h3 h4 h5 h6 h7
      have hpi : rd_T49 l (i : Int) = l[i] := by rw [rd_T49, Int.toNat_natCast, List.getD_eq_getElem?_getD, List.getElem?_eq_getElem hil, Option.getD_some]
      obtain ⟨p, hp⟩ : ∃ p, p = rd_T49 l (i : Int) := ⟨_, rfl⟩
      rw [← hp] at h0 h1 h2 h3 h4 h5 h6 h7 h8 h9 hpi
      have htk : allOk (l.take (i + 1)) = (allOk (l.take i) && decide (okP p)) := by
        rw [List.take_succ_eq_append_getElem hil, ← hpi, allOk, List.all_append]; simp [allOk]
      have hbd := bad_calls p A7 c7 wr h9 h8
      have hmem : p ∈ l := by rw [hpi]; exact List.getElem_mem hil
      have HTK := Aside0.mk htk
      have HMEM := Aside0.mk hmem
      dsimp only [v49] at hbd
      clear hp htk hpi hmem
      by_cases hok : okP p
      · rw [decide_eq_true hok] at hbd
        have HOK := Aside0.mk hok
        clear hok
        go_wp2_with fail
        (with_reducible refine hbd.mono ?_)
        rintro e w2 ⟨rfl, hb2⟩
        go_wp2_with fail
        go_roundw
        case rel => exact ⟨i + 1, rfl, by omega, ⟨by rw [HTK.out, HA.out, decide_eq_true HOK.out]; rfl⟩, hB.trans (hb2.mono hB.size)⟩
        case measure => first | (simp [intOf]; done) | (simp [intOf]; omega)
      · rw [decide_eq_false hok] at hbd
        have hf : allOk l = false := by
          rw [allOk, List.all_eq_false]
          exact ⟨p, HMEM.out, by simpa using hok⟩
        have HF := Aside0.mk hf
        clear hok hf
        go_wp2_with fail
        (with_reducible refine hbd.mono ?_)
        rintro e w2 ⟨rfl, hb2⟩
        go_wp2_with fail
        go_ret
        exact ⟨⟨(i : Int), rfl, fun h => absurd (h.symm.trans HF.out) (by decide), fun _ => hi3⟩, hB.trans (hb2.mono hB.size)⟩
    · have hie : i = l.length := by omega
      have hAl : allOk l = true := by have := HA.out; rwa [hie, List.take_length] at this
      have HAL := Aside0.mk hAl
      clear hAl
      go_wp2_with fail
      go_ret
      exact ⟨⟨-1, rfl, fun _ => rfl, fun h => absurd (h.symm.trans HAL.out) (by decide)⟩, hB⟩
set_option maxHeartbeats 4000000 in
set_option maxRecDepth 100000 in
theorem contains_calls (A : Option Addr) (c : Nat) (l : List S49) (w : World) (hr : Kd.C k49 w A l.length l) (hc : l.length ≤ c) :
    Calls Try.prog 42 #[.slice A l.length c, .func (.func 41) #[] #[]] w fun e w' => e = .returned (.bool (!allOk l)) ∧ Below w.heap.size w w' := by
  have hix := index_calls A c l w hr hc
  clear hr
  go_enter Try.func42, Try.ntmps42
  go_wp2_with fail
  (with_reducible refine hix.mono ?_)
  rintro e w2 ⟨⟨i, rfl, h1, h2⟩, hb2⟩
  go_wp2_with fail
  go_ret
  refine ⟨?_, hb2⟩
  cases h : allOk l
  · have := h2 h
    show Ending.returned (.bool (decide (0 ≤ i))) = _
    rw [decide_eq_true this]; rfl
  · have := h1 h
    show Ending.returned (.bool (decide (0 ≤ i))) = _
    rw [decide_eq_false (by omega)]; rfl
end Go.Proofs.YthiealhmcfdakaaH
end
section
set_option linter.unusedVariables false
set_option linter.unusedSimpArgs false
namespace Go.Proofs.YthiealhmcfdakaaH
open Go Go.RowKit Go.Proofs.YthiealhmcfdakaaW.PrintWords Go.Proofs.YthiealhmcfdakaaW.PrintLast Go.Proofs.YthiealhmcfdakaaW.PrintMore Go.Proofs.Ythiealhmcfdakaa.E
theorem eqName (d : Nat) (w : World) (x0 y0 : Int) (x1 y1 : Int) (x2 y2 : Int) :
    (Op.equalIn (d + 2) 23 (.agg #[.int .i64 x0, .int .i64 x1, .int .i64 x2]) (.agg #[.int .i64 y0, .int .i64 y1, .int .i64 y2])).run Try.prog w = .ok (x0 == y0 && (x1 == y1 && (x2 == y2))) w := by
  refine eqA_of Try.underlying23 (by kernel_rfl) ?_
  refine eqf_cons (by rfl) (by go_simp; rfl) (by go_simp; rfl) (by go_simp) ?_
  refine eqf_cons (by rfl) (by go_simp; rfl) (by go_simp; rfl) (by go_simp) ?_
  exact eqf_last (by rfl) (by go_simp; rfl) (by go_simp; rfl) (by go_simp)
theorem eqBox (d : Nat) (w : World) (x0 y0 : Int) (x1 y1 : Int) (x2 y2 : Int) (x3 y3 : Int) :
    (Op.equalIn (d + 3) 27 (.agg #[.int .i64 x0, .int .i64 x1, .int .i64 x2, .int .i64 x3]) (.agg #[.int .i64 y0, .int .i64 y1, .int .i64 y2, .int .i64 y3])).run Try.prog w = .ok ((x0 == y0 && (x1 == y1)) && ((x2 == y2 && (x3 == y3)))) w := by
  refine eqA_of Try.underlying27 (by kernel_rfl) ?_
  refine eqf_cons (by rfl) (by go_simp) (by go_simp) (eqA25 (d + 0) w _ _ _ _) ?_
  exact eqf_last (by rfl) (by go_simp) (by go_simp) (eqA25 (d + 0) w _ _ _ _)
def wholeEq (p q : S49) : Bool := (p.f0.f0 == q.f0.f0 && (p.f0.f1 == q.f0.f1 && (p.f0.f2 == q.f0.f2))) && (p.f2 == q.f2 && (p.f3 == q.f3 && (p.f4 == q.f4)))
end Go.Proofs.YthiealhmcfdakaaH
end
section
namespace Go.Proofs.Ythiealhmcfdakaa.E
open Go.RowKit Go.Proofs.YthiealhmcfdakaaH Go.Proofs.YthiealhmcfdakaaW.PrintWords Go.Proofs.YthiealhmcfdakaaW.PrintLast Go.Proofs.YthiealhmcfdakaaW.PrintMore
attribute [local go_sem] max2_int min2_int max_two min_two max_three min_three max_four min_four   -- for this text's walks alone
set_option linter.unusedVariables false
set_option linter.unusedSimpArgs false
def seamarkref30_Few.l0 : Nat → List (S49) → Int → Option (Bool)
  | 0, _, _ => none
  | k + 1, x0, x3 => if x3 < (x0.length : Int) then (if 0 ≤ x3 then (if (((rd_T49 x0 x3).f5).length : Int) > 40 then (some false) else (if ((rd_T49 x0 x3).f2) > 8 then (some false) else (seamarkref30_Few.l0 k x0 (wrap64 (x3 + 1))))) else (none)) else (some true)
def seamarkref30_Few.f (k : Nat) (l0 : List (S49)) : Option (Bool) := if (l0.length : Int) > 12 then (some false) else (seamarkref30_Few.l0 k l0 0)
theorem seamarkref30_Few.mono_l : ∀ k, (∀ y0 y1, LeO (seamarkref30_Few.l0 k y0 y1) (seamarkref30_Few.l0 (k + 1) y0 y1))
  | 0 => fun _ _ r h => by simp [seamarkref30_Few.l0] at h
  | k + 1 => by
    have ih0 := seamarkref30_Few.mono_l k
    · intro y0 y1
      unfold seamarkref30_Few.l0
      repeat' first
      | (with_reducible exact ih0 _ _)
      | (with_reducible exact LeO.refl _)
      | (with_reducible exact LeO.none _)
      | (with_reducible refine LeO.ite ?_ ?_)
      | (with_reducible refine LeO.bind ?_ (fun _ => ?_))
      | exact ih0 _ _
      | exact LeO.none _
      | refine LeO.ite ?_ ?_
      | refine LeO.bind ?_ (fun _ => ?_)
theorem seamarkref30_Few.mono : ∀ a0 k, LeO (seamarkref30_Few.f k a0) (seamarkref30_Few.f (k + 1) a0) := by
  intro a0 k
  have ih0 := seamarkref30_Few.mono_l k
  unfold seamarkref30_Few.f
  repeat' first
      | (with_reducible exact ih0 _ _)
      | (with_reducible exact LeO.refl _)
      | (with_reducible exact LeO.none _)
      | (with_reducible refine LeO.ite ?_ ?_)
      | (with_reducible refine LeO.bind ?_ (fun _ => ?_))
      | exact ih0 _ _
      | exact LeO.none _
      | refine LeO.ite ?_ ?_
      | refine LeO.bind ?_ (fun _ => ?_)
set_option maxHeartbeats 8000000 in
set_option maxRecDepth 100000 in
theorem seamarkref30_Few.calls (k : Nat) (A0 : Option Addr) (c0 : Nat) (l0 : List (S49)) (r : Bool) (w : World) (hr0 : Kd.C k49 w A0 l0.length l0) (hc0 : l0.length ≤ c0) (h : seamarkref30_Few.f k l0 = some r) :
    Calls Try.prog 27 #[.slice A0 l0.length c0] w fun e w' => e = .returned (.bool r) ∧ Drawn0 w w' := by
  have HR0 := Aside0.mk hr0
  have HC0 := Aside0.mk hc0
  clear hr0 hc0
  have H : (if (l0.length : Int) > 12 then (some false) else (seamarkref30_Few.l0 k l0 0)) = some r := h
  clear h
  by_cases c2 : (l0.length : Int) > 12
  · rw [if_pos c2] at H
    have c2b0 : decide (12 < (l0.length : Int)) = true := decide_eq_true c2
    have c2b1 : decide (12 < l0.length) = true := decide_eq_true (by omega)
    clear c2
    obtain rfl := Option.some.inj H
    go_enter Try.func27, Try.ntmps27
    go_wp2
    go_ret
    exact ⟨by first | rfl | (simp; done) | (simp [*]; done), by repeat (first | exact Drawn0.refl _ | apply Drawn0.step)⟩
  · rw [if_neg c2] at H
    have c2b0 : decide (12 < (l0.length : Int)) = false := decide_eq_false c2
    have c2b1 : decide (12 < l0.length) = false := decide_eq_false (by omega)
    clear c2
    have H' := Aside0.mk H
    clear H
    go_enter Try.func27, Try.ntmps27
    go_wp2
    go_loopg [3] k (fun kq v3 w' => ∃ (x3_1 : Int), v3 = .int .i64 x3_1 ∧ Aside0 (seamarkref30_Few.l0 kq l0 x3_1 = some r) ∧ Aside0 (kq ≤ k) ∧ Drawn0 w w')
    case atStart => exact ⟨(0), (by first | rfl | (simp; done) | (simp [*]; done)), H', ⟨Nat.le_refl _⟩, by repeat (first | exact Drawn0.refl _ | apply Drawn0.step)⟩
    case round =>
      clear H'
      try clear c2
      try clear c2b0
      try clear c2b1
      try clear p2
      obtain ⟨x3_1, rfl, HA, HK1, ⟨m1, rfl⟩⟩ := hrel
      cases gk with
      | zero => exact absurd HA.out (by simp [seamarkref30_Few.l0])
      | succ k1 =>
        have H := HA.out
        clear HA
        simp only [seamarkref30_Few.l0] at H
        by_cases c3 : x3_1 < (l0.length : Int)
        · rw [if_pos c3] at H
          have c3b0 : decide (x3_1 < (l0.length : Int)) = true := decide_eq_true c3
          clear c3
          by_cases c4 : 0 ≤ x3_1
          · rw [if_pos c4] at H
            have c4b0 : decide (0 ≤ x3_1) = true := decide_eq_true c4
            clear c4
            by_cases c5 : (((rd_T49 l0 x3_1).f5).length : Int) > 40
            · rw [if_pos c5] at H
              have c5b0 : decide (40 < (((rd_T49 l0 x3_1).f5).length : Int)) = true := decide_eq_true c5
              have c5b1 : decide (40 < ((rd_T49 l0 x3_1).f5).length) = true := decide_eq_true (by omega)
              clear c5
              obtain rfl := Option.some.inj H
              have p235 : 0 ≤ (x3_1 : Int) := of_decide_eq_true (by first | (with_reducible assumption) | assumption)
              have q235 : x3_1 < (l0.length : Int) := of_decide_eq_true (by first | (with_reducible assumption) | assumption)
              obtain ⟨ad235, A235_7, c235_7, e235, hx235_0, hx235_1, hx235_2, hx235_3, hx235_4, hx235_5, hx235_6, hx235_7, hl235_7, hi235_7⟩ := at_T49 HR0.out x3_1 p235 q235
              cases e235
              have HR235_7 := Aside0.mk hi235_7
              have HC235_7 := Aside0.mk hl235_7
              clear hi235_7 hl235_7
              replace p235 := eq_true p235
              replace q235 := eq_true q235
              go_wp2
              go_ret
              exact ⟨by first | rfl | (simp; done) | (simp [*]; done), by repeat (first | exact Drawn0.refl _ | apply Drawn0.step)⟩
            · rw [if_neg c5] at H
              have c5b0 : decide (40 < (((rd_T49 l0 x3_1).f5).length : Int)) = false := decide_eq_false c5
              have c5b1 : decide (40 < ((rd_T49 l0 x3_1).f5).length) = false := decide_eq_false (by omega)
              clear c5
              by_cases c6 : ((rd_T49 l0 x3_1).f2) > 8
              · rw [if_pos c6] at H
                have c6b0 : decide (8 < ((rd_T49 l0 x3_1).f2)) = true := decide_eq_true c6
                clear c6
                obtain rfl := Option.some.inj H
                have p235 : 0 ≤ (x3_1 : Int) := of_decide_eq_true (by first | (with_reducible assumption) | assumption)
                have q235 : x3_1 < (l0.length : Int) := of_decide_eq_true (by first | (with_reducible assumption) | assumption)
                obtain ⟨ad235, A235_7, c235_7, e235, hx235_0, hx235_1, hx235_2, hx235_3, hx235_4, hx235_5, hx235_6, hx235_7, hl235_7, hi235_7⟩ := at_T49 HR0.out x3_1 p235 q235
                cases e235
                have HR235_7 := Aside0.mk hi235_7
                have HC235_7 := Aside0.mk hl235_7
                clear hi235_7 hl235_7
                replace p235 := eq_true p235
                replace q235 := eq_true q235
                have p236 : 0 ≤ (x3_1 : Int) := of_decide_eq_true (by first | (with_reducible assumption) | assumption)
                have q236 : x3_1 < (l0.length : Int) := of_decide_eq_true (by first | (with_reducible assumption) | assumption)
                obtain ⟨ad236, A236_7, c236_7, e236, hx236_0, hx236_1, hx236_2, hx236_3, hx236_4, hx236_5, hx236_6, hx236_7, hl236_7, hi236_7⟩ := at_T49 HR0.out x3_1 p236 q236
                obtain rfl : ad235 = ad236 := (by injection e236)
                have HR236_7 := Aside0.mk hi236_7
                have HC236_7 := Aside0.mk hl236_7
                clear hi236_7 hl236_7
                replace p236 := eq_true p236
                replace q236 := eq_true q236
                have ea_ := Option.some.inj (hx235_7.symm.trans hx236_7)
                injection ea_ with ea_ en_ ec_
                subst ea_
                subst ec_
                clear en_
                go_wp2
                go_ret
                exact ⟨by first | rfl | (simp; done) | (simp [*]; done), by repeat (first | exact Drawn0.refl _ | apply Drawn0.step)⟩
              · rw [if_neg c6] at H
                have c6b0 : decide (8 < ((rd_T49 l0 x3_1).f2)) = false := decide_eq_false c6
                clear c6
                have H' := Aside0.mk H
                clear H
                have p235 : 0 ≤ (x3_1 : Int) := of_decide_eq_true (by first | (with_reducible assumption) | assumption)
                have q235 : x3_1 < (l0.length : Int) := of_decide_eq_true (by first | (with_reducible assumption) | assumption)
                obtain ⟨ad235, A235_7, c235_7, e235, hx235_0, hx235_1, hx235_2, hx235_3, hx235_4, hx235_5, hx235_6, hx235_7, hl235_7, hi235_7⟩ := at_T49 HR0.out x3_1 p235 q235
                cases e235
                have HR235_7 := Aside0.mk hi235_7
                have HC235_7 := Aside0.mk hl235_7
                clear hi235_7 hl235_7
                replace p235 := eq_true p235
                replace q235 := eq_true q235
                have p236 : 0 ≤ (x3_1 : Int) := of_decide_eq_true (by first | (with_reducible assumption) | assumption)
                have q236 : x3_1 < (l0.length : Int) := of_decide_eq_true (by first | (with_reducible assumption) | assumption)
                obtain ⟨ad236, A236_7, c236_7, e236, hx236_0, hx236_1, hx236_2, hx236_3, hx236_4, hx236_5, hx236_6, hx236_7, hl236_7, hi236_7⟩ := at_T49 HR0.out x3_1 p236 q236
                obtain rfl : ad235 = ad236 := (by injection e236)
                have HR236_7 := Aside0.mk hi236_7
                have HC236_7 := Aside0.mk hl236_7
                clear hi236_7 hl236_7
                replace p236 := eq_true p236
                replace q236 := eq_true q236
                have ea_ := Option.some.inj (hx235_7.symm.trans hx236_7)
                injection ea_ with ea_ en_ ec_
                subst ea_
                subst ec_
                clear en_
                go_wp2
                go_roundg k1
                case measure => have := HK1.out; omega
                case rel => exact ⟨(wrap64 (x3_1 + 1)), (by first | rfl | (simp; done) | (simp [*]; done)), H', ⟨by have := HK1.out; omega⟩, by repeat (first | exact Drawn0.refl _ | apply Drawn0.step)⟩
          · rw [if_neg c4] at H
            exact absurd H (by simp)
        · rw [if_neg c3] at H
          have c3b0 : decide (x3_1 < (l0.length : Int)) = false := decide_eq_false c3
          clear c3
          obtain rfl := Option.some.inj H
          go_wp2
          go_ret
          exact ⟨by first | rfl | (simp; done) | (simp [*]; done), by repeat (first | exact Drawn0.refl _ | apply Drawn0.step)⟩
def slices_Equal_byte_byte.l0 : Nat → List Int → List Int → Int → Int → Option (Bool)
  | 0, _, _, _, _ => none
  | k + 1, x0, x1, x12, x13 => if x13 < x12 then (if 0 ≤ x13 then (if x13 < (x0.length : Int) then (if x13 < (x1.length : Int) then (if (rd x0 x13) = (rd x1 x13) then (slices_Equal_byte_byte.l0 k x0 x1 x12 (wrap64 (x13 + 1))) else (some false)) else (none)) else (none)) else (none)) else (some true)
def slices_Equal_byte_byte.f (k : Nat) (l0 : List Int) (l1 : List Int) : Option (Bool) := if (l0.length : Int) = (l1.length : Int) then (slices_Equal_byte_byte.l0 k l0 l1 (l0.length : Int) 0) else (some false)
theorem slices_Equal_byte_byte.mono_l : ∀ k, (∀ y0 y1 y2 y3, LeO (slices_Equal_byte_byte.l0 k y0 y1 y2 y3) (slices_Equal_byte_byte.l0 (k + 1) y0 y1 y2 y3))
  | 0 => fun _ _ _ _ r h => by simp [slices_Equal_byte_byte.l0] at h
  | k + 1 => by
    have ih0 := slices_Equal_byte_byte.mono_l k
    · intro y0 y1 y2 y3
      unfold slices_Equal_byte_byte.l0
      repeat' first
      | (with_reducible exact ih0 _ _ _ _)
      | (with_reducible exact LeO.refl _)
      | (with_reducible exact LeO.none _)
      | (with_reducible refine LeO.ite ?_ ?_)
      | (with_reducible refine LeO.bind ?_ (fun _ => ?_))
      | exact ih0 _ _ _ _
      | exact LeO.none _
      | refine LeO.ite ?_ ?_
      | refine LeO.bind ?_ (fun _ => ?_)
theorem slices_Equal_byte_byte.mono : ∀ a0 a1 k, LeO (slices_Equal_byte_byte.f k a0 a1) (slices_Equal_byte_byte.f (k + 1) a0 a1) := by
  intro a0 a1 k
  have ih0 := slices_Equal_byte_byte.mono_l k
  unfold slices_Equal_byte_byte.f
  repeat' first
      | (with_reducible exact ih0 _ _ _ _)
      | (with_reducible exact LeO.refl _)
      | (with_reducible exact LeO.none _)
      | (with_reducible refine LeO.ite ?_ ?_)
      | (with_reducible refine LeO.bind ?_ (fun _ => ?_))
      | exact ih0 _ _ _ _
      | exact LeO.none _
      | refine LeO.ite ?_ ?_
      | refine LeO.bind ?_ (fun _ => ?_)
set_option maxHeartbeats 8000000 in
set_option maxRecDepth 100000 in
theorem slices_Equal_byte_byte.calls (k : Nat) (A0 : Option Addr) (c0 : Nat) (l0 : List Int) (A1 : Option Addr) (c1 : Nat) (l1 : List Int) (r : Bool) (w : World) (hr0 : Kd.C (Kd.int .u8) w A0 l0.length l0) (hc0 : l0.length ≤ c0) (hr1 : Kd.C (Kd.int .u8) w A1 l1.length l1) (hc1 : l1.length ≤ c1) (h : slices_Equal_byte_byte.f k l0 l1 = some r) :
    Calls Try.prog 32 #[.slice A0 l0.length c0, .slice A1 l1.length c1] w fun e w' => e = .returned (.bool r) ∧ Drawn0 w w' := by
  have HR0 := Aside0.mk hr0
  have HC0 := Aside0.mk hc0
  clear hr0 hc0
  have HR1 := Aside0.mk hr1
  have HC1 := Aside0.mk hc1
  clear hr1 hc1
  have H : (if (l0.length : Int) = (l1.length : Int) then (slices_Equal_byte_byte.l0 k l0 l1 (l0.length : Int) 0) else (some false)) = some r := h
  clear h
  by_cases c3 : (l0.length : Int) = (l1.length : Int)
  · rw [if_pos c3] at H
    have c3b0 : ((l0.length : Int) == (l1.length : Int)) = true := beq_iff_eq.mpr c3
    have c3b1 : ((l0.length : Int) != (l1.length : Int)) = false := bne_eq_false_iff_eq.mpr c3
    have c3b2 : (l0.length == l1.length) = true := by first | simpa using c3 | (simp at c3 ⊢; omega)
    clear c3
    have H' := Aside0.mk H
    clear H
    go_enter Try.func32, Try.ntmps32
    go_wp2
    repeat (go_quiet (fail); try go_wp2)
    go_loopg [13] k (fun kq v13 w' => ∃ (x13_1 : Int), v13 = .int .i64 x13_1 ∧ Aside0 (slices_Equal_byte_byte.l0 kq l0 l1 (l0.length : Int) x13_1 = some r) ∧ Aside0 (kq ≤ k) ∧ Drawn0 w w')
    case atStart => exact ⟨(0), (by first | rfl | (simp; done) | (simp [*]; done)), H', ⟨Nat.le_refl _⟩, by repeat (first | exact Drawn0.refl _ | apply Drawn0.step)⟩
    case round =>
      clear H'
      try clear c1
      try clear p2
      try clear c3
      try clear c3b0
      try clear c3b1
      try clear c3b2
      obtain ⟨x13_1, rfl, HA, HK1, ⟨m1, rfl⟩⟩ := hrel
      cases gk with
      | zero => exact absurd HA.out (by simp [slices_Equal_byte_byte.l0])
      | succ k1 =>
        have H := HA.out
        clear HA
        simp only [slices_Equal_byte_byte.l0] at H
        by_cases c4 : x13_1 < (l0.length : Int)
        · rw [if_pos c4] at H
          have c4b0 : decide (x13_1 < (l0.length : Int)) = true := decide_eq_true c4
          clear c4
          by_cases c5 : 0 ≤ x13_1
          · rw [if_pos c5] at H
            have c5b0 : decide (0 ≤ x13_1) = true := decide_eq_true c5
            clear c5
            by_cases c6 : x13_1 < (l0.length : Int)
            · rw [if_pos c6] at H
              have c6b0 : decide (x13_1 < (l0.length : Int)) = true := decide_eq_true c6
              clear c6
              by_cases c7 : x13_1 < (l1.length : Int)
              · rw [if_pos c7] at H
                have c7b0 : decide (x13_1 < (l1.length : Int)) = true := decide_eq_true c7
                clear c7
                by_cases c8 : (rd l0 x13_1) = (rd l1 x13_1)
                · rw [if_pos c8] at H
                  have c8b0 : ((rd l0 x13_1) == (rd l1 x13_1)) = true := beq_iff_eq.mpr c8
                  have c8b1 : ((rd l0 x13_1) != (rd l1 x13_1)) = false := bne_eq_false_iff_eq.mpr c8
                  clear c8
                  have H' := Aside0.mk H
                  clear H
                  have p237 : 0 ≤ (x13_1 : Int) := of_decide_eq_true (by first | (with_reducible assumption) | assumption)
                  have q237 : x13_1 < (l0.length : Int) := of_decide_eq_true (by first | (with_reducible assumption) | assumption)
                  obtain ⟨ad237, e237, hx237_0⟩ := Kd.at_int HR0.out x13_1 p237 q237
                  cases e237
                  replace p237 := eq_true p237
                  replace q237 := eq_true q237
                  have p238 : 0 ≤ (x13_1 : Int) := of_decide_eq_true (by first | (with_reducible assumption) | assumption)
                  have q238 : x13_1 < (l1.length : Int) := of_decide_eq_true (by first | (with_reducible assumption) | assumption)
                  obtain ⟨ad238, e238, hx238_0⟩ := Kd.at_int HR1.out x13_1 p238 q238
                  cases e238
                  replace p238 := eq_true p238
                  replace q238 := eq_true q238
                  go_wp2
                  repeat (go_quiet (fail); try go_wp2)
                  go_roundg k1
                  case measure => have := HK1.out; omega
                  case rel => exact ⟨(wrap64 (x13_1 + 1)), (by first | rfl | (simp; done) | (simp [*]; done)), H', ⟨by have := HK1.out; omega⟩, by repeat (first | exact Drawn0.refl _ | apply Drawn0.step)⟩
                · rw [if_neg c8] at H
                  have c8b0 : ((rd l0 x13_1) == (rd l1 x13_1)) = false := beq_eq_false_iff_ne.mpr c8
                  have c8b1 : ((rd l0 x13_1) != (rd l1 x13_1)) = true := bne_iff_ne.mpr c8
                  obtain rfl := Option.some.inj H
                  have p237 : 0 ≤ (x13_1 : Int) := of_decide_eq_true (by first | (with_reducible assumption) | assumption)
                  have q237 : x13_1 < (l0.length : Int) := of_decide_eq_true (by first | (with_reducible assumption) | assumption)
                  obtain ⟨ad237, e237, hx237_0⟩ := Kd.at_int HR0.out x13_1 p237 q237
                  cases e237
                  replace p237 := eq_true p237
                  replace q237 := eq_true q237
                  have p238 : 0 ≤ (x13_1 : Int) := of_decide_eq_true (by first | (with_reducible assumption) | assumption)
                  have q238 : x13_1 < (l1.length : Int) := of_decide_eq_true (by first | (with_reducible assumption) | assumption)
                  obtain ⟨ad238, e238, hx238_0⟩ := Kd.at_int HR1.out x13_1 p238 q238
                  cases e238
                  replace p238 := eq_true p238
                  replace q238 := eq_true q238
                  go_wp2
                  repeat (go_quiet (fail); try go_wp2)
                  go_ret
                  exact ⟨by first | rfl | (simp; done) | (simp [*]; done), by repeat (first | exact Drawn0.refl _ | apply Drawn0.step)⟩
              · rw [if_neg c7] at H
                exact absurd H (by simp)
            · rw [if_neg c6] at H
              exact absurd H (by simp)
          · rw [if_neg c5] at H
            exact absurd H (by simp)
        · rw [if_neg c4] at H
          have c4b0 : decide (x13_1 < (l0.length : Int)) = false := decide_eq_false c4
          clear c4
          obtain rfl := Option.some.inj H
          go_wp2
          repeat (go_quiet (fail); try go_wp2)
          go_ret
          exact ⟨by first | rfl | (simp; done) | (simp [*]; done), by repeat (first | exact Drawn0.refl _ | apply Drawn0.step)⟩
  · rw [if_neg c3] at H
    have c3b0 : ((l0.length : Int) == (l1.length : Int)) = false := beq_eq_false_iff_ne.mpr c3
    have c3b1 : ((l0.length : Int) != (l1.length : Int)) = true := bne_iff_ne.mpr c3
    have c3b2 : (l0.length == l1.length) = false := by first | simpa using c3 | (simp at c3 ⊢; omega)
    obtain rfl := Option.some.inj H
    go_enter Try.func32, Try.ntmps32
    go_wp2
    repeat (go_quiet (fail); try go_wp2)
    go_ret
    exact ⟨by first | rfl | (simp; done) | (simp [*]; done), by repeat (first | exact Drawn0.refl _ | apply Drawn0.step)⟩
def slices_Equal_byte_byte.Pure : Prop := ∀ (l0 : List Int) (l1 : List Int), l0.length ≤ maxLen → l0.length * 1 ≤ 140737488351232 → (∀ x ∈ l0, (Lit.int .u8 x).wf = true) → l1.length ≤ maxLen → l1.length * 1 ≤ 140737488351232 → (∀ x ∈ l1, (Lit.int .u8 x).wf = true) → ∃ k, slices_Equal_byte_byte.f k l0 l1 = some true
theorem slices_Equal_byte_byte.walk (P : slices_Equal_byte_byte.Pure) (a0 : Option Addr) (len0 cap0 : Nat) (z0 : List Int) (a1 : Option Addr) (len1 cap1 : Nat) (z1 : List Int) (w : World) (w0 : (a0 = none ∧ len0 = 0 ∧ cap0 = 0 ∧ z0 = []) ∨ ∃ x, a0 = some x ∧ len0 ≤ cap0 ∧ cap0 ≤ maxLen ∧ z0.length = cap0 ∧ (∀ i, i < z0.length → w.cell? (x.add i) = some (.int .u8 (z0.getD i 0))) ∧ ∀ n ∈ z0, (Lit.int .u8 n).wf = true) (y0 : len0 * 1 ≤ 140737488351232) (w1 : (a1 = none ∧ len1 = 0 ∧ cap1 = 0 ∧ z1 = []) ∨ ∃ x, a1 = some x ∧ len1 ≤ cap1 ∧ cap1 ≤ maxLen ∧ z1.length = cap1 ∧ (∀ i, i < z1.length → w.cell? (x.add i) = some (.int .u8 (z1.getD i 0))) ∧ ∀ n ∈ z1, (Lit.int .u8 n).wf = true) (y1 : len1 * 1 ≤ 140737488351232) :
    Calls Try.prog 32 #[.slice a0 len0 cap0, .slice a1 len1 cap1] w fun e w' => e = .returned (.bool true) ∧ Below w.heap.size w w' := by
  obtain ⟨l0, rfl, hr0, hm0, hw0, hc0⟩ := ReadsInt.ofRowC w0
  obtain ⟨l1, rfl, hr1, hm1, hw1, hc1⟩ := ReadsInt.ofRowC w1
  obtain ⟨k, h⟩ := P l0 l1 hm0 y0 hw0 hm1 y1 hw1
  refine (slices_Equal_byte_byte.calls k _ _ l0 _ _ l1 true w (Kd.C_of_reads (d := (0 : Int)) (h1 := fun _ => rfl) hr0) hc0 (Kd.C_of_reads (d := (0 : Int)) (h1 := fun _ => rfl) hr1) hc1 h).mono ?_
  rintro e w' ⟨rfl, hd⟩
  exact ⟨rfl, hd.below⟩
def piece_of.f (a0_0 : Int) (a0_1 : Int) (a0_2 : Int) (a0_3 : Int) (a0_4 : Int) (a0_5 : Int) (a0_6 : Int) (l0_7 : List Int) : Option (Int × Int × Int × Int × Int × Int) := some (a0_0, a0_1, a0_2, a0_4, a0_5, a0_6)
set_option maxHeartbeats 8000000 in
set_option maxRecDepth 100000 in
theorem piece_of.calls (a0_0 : Int) (a0_1 : Int) (a0_2 : Int) (a0_3 : Int) (a0_4 : Int) (a0_5 : Int) (a0_6 : Int) (A0_7 : Option Addr) (c0_7 : Nat) (l0_7 : List Int) (r1 : Int) (r2 : Int) (r3 : Int) (r4 : Int) (r5 : Int) (r6 : Int) (w : World) (hr0_7 : Kd.C (Kd.int .u8) w A0_7 l0_7.length l0_7) (hc0_7 : l0_7.length ≤ c0_7) (h : piece_of.f a0_0 a0_1 a0_2 a0_3 a0_4 a0_5 a0_6 l0_7 = some (r1, r2, r3, r4, r5, r6)) :
    Calls Try.prog 61 #[.agg #[.int .i64 a0_0, .int .i64 a0_1, .int .i64 a0_2, .int .i64 a0_3, .int .i64 a0_4, .int .i64 a0_5, .int .i64 a0_6, .slice A0_7 l0_7.length c0_7]] w fun e w' => e = .returned (.agg #[.int .i64 r1, .int .i64 r2, .int .i64 r3, .int .i64 r4, .int .i64 r5, .int .i64 r6]) ∧ Below w.heap.size w w' := by
  have hu49 := Try.underlying49
  have hu118 := Try.underlying118
  have hu23 := Try.underlying23
  have HR0_7 := Aside0.mk hr0_7
  have HC0_7 := Aside0.mk hc0_7
  clear hr0_7 hc0_7
  have HB := Aside0.mk (Below.refl w.heap.size w)
  have H : (some (a0_0, a0_1, a0_2, a0_4, a0_5, a0_6)) = some (r1, r2, r3, r4, r5, r6) := h
  clear h
  simp only [Option.some.injEq, Prod.mk.injEq] at H
  obtain ⟨rfl, rfl, rfl, rfl, rfl, rfl⟩ := H
  go_enter Try.func61, Try.ntmps61
  go_wp2_with (first | ((with_reducible refine gate_dst (N := 1) rfl ?_); refine box_event ?hg (N := 1) ?hd (cs := #[.int .i64 a0_0, .int .i64 a0_1, .int .i64 a0_2, .int .i64 a0_3, .int .i64 a0_4, .int .i64 a0_5, .int .i64 a0_6, .slice A0_7 l0_7.length c0_7]) (t := 49) ?hr ?_; (case hd => rfl); (case hg => rfl); (case hr => first | (go_simp; done) | (go_simp; rfl)); intro gb239 hg w2 hbox hb; have n0_ := Aside0.mk (below_step (by repeat (first | (with_reducible first | exact HB.out | apply below_alloc | apply pw_below_drewN | apply below_drew1) | exact HB.out)) hb); have n1_ := Aside0.mk (hbox); have n2_ := Aside0.mk ((by rw [hg]; exact (below_size (by repeat (first | (with_reducible first | exact HB.out | apply below_alloc | apply pw_below_drewN | apply below_drew1) | exact HB.out))) : w.heap.size ≤ gb239)); have n3_ := Aside0.mk ((by rw [hg]; exact (below_size (by repeat (first | (with_reducible first | exact HB.out | apply below_alloc | apply pw_below_drewN | apply below_drew1) | exact HB.out))) : w.heap.size ≤ gb239)); clear HB; have HB := n0_; have BK239 := n1_; have GW239 := n2_; have GE239 := n3_; clear n0_ n1_ n2_ n3_; clear hb hbox hg) | ((with_reducible refine gate_dst (N := 2) rfl ?_); refine box_event ?hg (N := 2) ?hd (cs := #[.int .i64 0, .int .i64 0, .int .i64 0, .int .i64 0, .int .i64 0, .int .i64 0]) (t := 118) ?hr ?_; (case hd => rfl); (case hg => rfl); (case hr => first | (go_simp; done) | (go_simp; rfl)); intro gb240 hg w3 hbox hb; have n0_ := Aside0.mk (blk_below (g := gb239) (o := .cells #[.int .i64 a0_0, .int .i64 a0_1, .int .i64 a0_2, .int .i64 a0_3, .int .i64 a0_4, .int .i64 a0_5, .int .i64 a0_6, .slice A0_7 l0_7.length c0_7] 49 (0, 0)) (by (with_reducible repeat (first | refine blk_drewN ?_ _ | refine blk_drew ?_ | refine blk_alloc ?_ _)); exact BK239.out) hb); have n1_ := Aside0.mk (below_step (by repeat (first | (with_reducible first | exact HB.out | apply below_alloc | apply pw_below_drewN | apply below_drew1 | refine below_set ?_ GE239.out) | exact HB.out)) hb); have n2_ := Aside0.mk (hbox); have n3_ := Aside0.mk ((by rw [hg]; exact (below_size (by repeat (first | (with_reducible first | exact HB.out | apply below_alloc | apply pw_below_drewN | apply below_drew1 | refine below_set ?_ GE239.out) | exact HB.out))) : w.heap.size ≤ gb240)); have n4_ := Aside0.mk ((by rw [hg]; exact (below_size (by repeat (first | (with_reducible first | exact HB.out | apply below_alloc | apply pw_below_drewN | apply below_drew1 | refine below_set ?_ GE239.out) | exact HB.out))) : w.heap.size ≤ gb240)); have n5_ := Aside0.mk ((by rw [hg]; exact Nat.ne_of_lt (blk_lt (g := gb239) (o := .cells #[.int .i64 a0_0, .int .i64 a0_1, .int .i64 a0_2, .int .i64 a0_3, .int .i64 a0_4, .int .i64 a0_5, .int .i64 a0_6, .slice A0_7 l0_7.length c0_7] 49 (0, 0)) (by (with_reducible repeat (first | refine blk_drewN ?_ _ | refine blk_drew ?_ | refine blk_alloc ?_ _)); exact BK239.out)) : gb239 ≠ gb240)); have n6_ := Aside0.mk ((by rw [hg]; exact Nat.ne_of_gt (blk_lt (g := gb239) (o := .cells #[.int .i64 a0_0, .int .i64 a0_1, .int .i64 a0_2, .int .i64 a0_3, .int .i64 a0_4, .int .i64 a0_5, .int .i64 a0_6, .slice A0_7 l0_7.length c0_7] 49 (0, 0)) (by (with_reducible repeat (first | refine blk_drewN ?_ _ | refine blk_drew ?_ | refine blk_alloc ?_ _)); exact BK239.out)) : gb240 ≠ gb239)); clear BK239; clear HB; have BK239 := n0_; have HB := n1_; have BK240 := n2_; have GW240 := n3_; have GE240 := n4_; have NB239_240 := n5_; have NB240_239 := n6_; clear n0_ n1_ n2_ n3_ n4_ n5_ n6_; clear hb hbox hg; have hnb4 := NB239_240.out; have hnc4 := NB240_239.out; have hcz5_0 : w3.cell? ⟨gb239, 0, none⟩ = some (.int .i64 a0_0) := (blk_cell BK239.out 0).trans rfl; have hcz5_1 : w3.cell? ⟨gb239, 1, none⟩ = some (.int .i64 a0_1) := (blk_cell BK239.out 1).trans rfl; have hcz5_2 : w3.cell? ⟨gb239, 2, none⟩ = some (.int .i64 a0_2) := (blk_cell BK239.out 2).trans rfl; have hcz5_3 : w3.cell? ⟨gb239, 3, none⟩ = some (.int .i64 a0_3) := (blk_cell BK239.out 3).trans rfl; have hcz5_4 : w3.cell? ⟨gb239, 4, none⟩ = some (.int .i64 a0_4) := (blk_cell BK239.out 4).trans rfl; have hcz5_5 : w3.cell? ⟨gb239, 5, none⟩ = some (.int .i64 a0_5) := (blk_cell BK239.out 5).trans rfl; have hcz5_6 : w3.cell? ⟨gb239, 6, none⟩ = some (.int .i64 a0_6) := (blk_cell BK239.out 6).trans rfl; have hcz5_7 : w3.cell? ⟨gb239, 7, none⟩ = some (.slice A0_7 l0_7.length c0_7) := (blk_cell BK239.out 7).trans rfl; have hfz5_0 := blk_frozen BK239.out 0; have hfz5_1 := blk_frozen BK239.out 1; have hfz5_2 := blk_frozen BK239.out 2; have hfz5_3 := blk_frozen BK239.out 3; have hfz5_4 := blk_frozen BK239.out 4; have hfz5_5 := blk_frozen BK239.out 5; have hfz5_6 := blk_frozen BK239.out 6; have hfz5_7 := blk_frozen BK239.out 7; have hcz6_0 : w3.cell? ⟨gb240, 0, none⟩ = some (.int .i64 0) := (blk_cell BK240.out 0).trans rfl; have hcz6_1 : w3.cell? ⟨gb240, 1, none⟩ = some (.int .i64 0) := (blk_cell BK240.out 1).trans rfl; have hcz6_2 : w3.cell? ⟨gb240, 2, none⟩ = some (.int .i64 0) := (blk_cell BK240.out 2).trans rfl; have hcz6_3 : w3.cell? ⟨gb240, 3, none⟩ = some (.int .i64 0) := (blk_cell BK240.out 3).trans rfl; have hcz6_4 : w3.cell? ⟨gb240, 4, none⟩ = some (.int .i64 0) := (blk_cell BK240.out 4).trans rfl; have hcz6_5 : w3.cell? ⟨gb240, 5, none⟩ = some (.int .i64 0) := (blk_cell BK240.out 5).trans rfl; have hfz6_0 := blk_frozen BK240.out 0; have hfz6_1 := blk_frozen BK240.out 1; have hfz6_2 := blk_frozen BK240.out 2; have hfz6_3 := blk_frozen BK240.out 3; have hfz6_4 := blk_frozen BK240.out 4; have hfz6_5 := blk_frozen BK240.out 5))
  refine bodyPost_ret (results_cell_row rfl _ _ gb240 118 #[.int .i64 a0_0, .int .i64 a0_1, .int .i64 a0_2, .int .i64 a0_4, .int .i64 a0_5, .int .i64 a0_6] (0, 0) _ rfl (by (with_reducible repeat (first | refine blk_drewN ?_ _ | refine blk_drew ?_ | refine blk_alloc ?_ _)); refine blk_put (cs := #[.int .i64 a0_0, .int .i64 a0_1, .int .i64 a0_2, .int .i64 a0_4, .int .i64 a0_5, .int .i64 0]) ?_ 5 _ rfl; (with_reducible repeat (first | refine blk_drewN ?_ _ | refine blk_drew ?_ | refine blk_alloc ?_ _)); refine blk_put (cs := #[.int .i64 a0_0, .int .i64 a0_1, .int .i64 a0_2, .int .i64 a0_4, .int .i64 0, .int .i64 0]) ?_ 4 _ rfl; (with_reducible repeat (first | refine blk_drewN ?_ _ | refine blk_drew ?_ | refine blk_alloc ?_ _)); refine blk_put (cs := #[.int .i64 a0_0, .int .i64 a0_1, .int .i64 a0_2, .int .i64 0, .int .i64 0, .int .i64 0]) ?_ 3 _ rfl; (with_reducible repeat (first | refine blk_drewN ?_ _ | refine blk_drew ?_ | refine blk_alloc ?_ _)); refine blk_put (cs := #[.int .i64 a0_0, .int .i64 a0_1, .int .i64 0, .int .i64 0, .int .i64 0, .int .i64 0]) ?_ 2 _ rfl; (with_reducible repeat (first | refine blk_drewN ?_ _ | refine blk_drew ?_ | refine blk_alloc ?_ _)); refine blk_put (cs := #[.int .i64 a0_0, .int .i64 0, .int .i64 0, .int .i64 0, .int .i64 0, .int .i64 0]) ?_ 1 _ rfl; (with_reducible repeat (first | refine blk_drewN ?_ _ | refine blk_drew ?_ | refine blk_alloc ?_ _)); refine blk_put (cs := #[.int .i64 0, .int .i64 0, .int .i64 0, .int .i64 0, .int .i64 0, .int .i64 0]) ?_ 0 _ rfl; (with_reducible repeat (first | refine blk_drewN ?_ _ | refine blk_drew ?_ | refine blk_alloc ?_ _)); exact BK240.out) Try.underlying118 rfl (by kernel_rfl)) rfl ?_
  exact ⟨by first | rfl | (simp [errW_none, errW_some] <;> rfl) | (simp [*, errW_none, errW_some] <;> rfl), by repeat (first | (with_reducible first | exact HB.out | apply below_alloc | apply pw_below_drewN | apply below_drew1 | refine below_set ?_ GE239.out | refine below_set ?_ GE240.out) | exact HB.out)⟩
end Go.Proofs.Ythiealhmcfdakaa.E
end
section
set_option linter.unusedVariables false
set_option linter.unusedSimpArgs false
namespace Go.Proofs.YthiealhmcfdakaaH
open Go Go.RowKit Go.Proofs.YthiealhmcfdakaaW.PrintWords Go.Proofs.YthiealhmcfdakaaW.PrintLast Go.Proofs.YthiealhmcfdakaaW.PrintMore Go.Proofs.Ythiealhmcfdakaa.E
structure Wn where
  st : Int
  ki : Int
  nu : Int
  iss : Int
  unt : Int
  xlo : Int
  xhi : Int
  ylo : Int
  yhi : Int
  pri : Int
  wd : Bool
  text : List Int
deriving DecidableEq
def zWn : Wn := ⟨0, 0, 0, 0, 0, 0, 0, 0, 0, 0, false, []⟩
def validW (w : Wn) : Prop :=
  (1 ≤ w.st ∧ 1 ≤ w.ki ∧ 1 ≤ w.nu ∧ w.st ≤ 26 ∧ w.ki ≤ 10 ∧ w.nu ≤ 99) ∧ (-1000000 ≤ w.xlo ∧ w.xlo ≤ w.xhi ∧ w.xhi ≤ 1000000) ∧ (-1000000 ≤ w.ylo ∧ w.ylo ≤ w.yhi ∧ w.yhi ≤ 1000000) ∧
  (0 ≤ w.iss ∧ w.iss ≤ 10000000) ∧ (0 ≤ w.unt ∧ w.unt ≤ 10000000) ∧ w.iss < w.unt ∧ 0 ≤ w.pri ∧ w.pri ≤ 9 ∧ w.text.length ≤ 200
instance (w : Wn) : Decidable (validW w) := by unfold validW; infer_instance
def vWn (p : Wn) (v : Value) : Value := .agg #[.int .i64 p.st, .int .i64 p.ki, .int .i64 p.nu, .int .i64 p.iss, .int .i64 p.unt, .int .i64 p.xlo, .int .i64 p.xhi, .int .i64 p.ylo, .int .i64 p.yhi, .int .i64 p.pri, .bool p.wd, v]
end Go.Proofs.YthiealhmcfdakaaH
end
section
set_option linter.unusedVariables false
set_option linter.unusedSimpArgs false
namespace Go.Proofs.YthiealhmcfdakaaH
open Go Go.RowKit Go.Proofs.YthiealhmcfdakaaW.PrintWords Go.Proofs.Ythiealhmcfdakaa.E
theorem within_f (k : Nat) (lo hi : Int) : ∃ e : Int, span_Within.f (k + 1) lo hi (-1000000) 1000000 = some (decide (-1000000 ≤ lo ∧ lo ≤ hi ∧ hi ≤ 1000000), e) ∧ (decide (-1000000 ≤ lo ∧ lo ≤ hi ∧ hi ≤ 1000000) = true → e = 0) := by
  have hv : span_Valid.f (-1000000) 1000000 = some true := by unfold span_Valid.f; rfl
  have hl : span_Valid.f lo hi = some (decide (-1000000000000 ≤ lo ∧ lo ≤ hi ∧ hi ≤ 1000000000000)) := by
    unfold span_Valid.f
    repeat' split
    all_goals (congr 1; simp only [decide_eq_decide, eq_comm (a := false), decide_eq_false_iff_not]; omega)
  unfold span_Within.f span_Join.f
  rw [hl, Option.bind_some, hv]
  by_cases h : -1000000000000 ≤ lo ∧ lo ≤ hi ∧ hi ≤ 1000000000000
  · rw [decide_eq_true h, if_pos rfl, Option.bind_some, span_Join.j0, if_neg (by decide)]
    unfold span_ends_int.f
    simp only [Option.bind_some, if_true]
    refine ⟨0, ?_, fun _ => rfl⟩
    congr 2
    rw [Bool.eq_iff_iff, Bool.and_eq_true, beq_iff_eq, beq_iff_eq, decide_eq_true_iff]
    unfold mn mx
    repeat' split
    all_goals omega
  · rw [decide_eq_false h, if_neg (by decide), span_Join.j0, if_pos rfl]
    simp only [Option.bind_some]
    refine ⟨1, ?_, ?_⟩
    · rw [if_neg (by decide)]
      congr 2
      rw [eq_comm, decide_eq_false_iff_not]
      omega
    · intro h2
      rw [decide_eq_true_iff] at h2
      omega
theorem box_f (k : Nat) (a b c d : Int) : span_ValidBox.f (k + 1) a b c d = some (decide ((-1000000 ≤ a ∧ a ≤ b ∧ b ≤ 1000000) ∧ (-1000000 ≤ c ∧ c ≤ d ∧ d ≤ 1000000))) := by
  obtain ⟨e1, h1, k1⟩ := within_f k a b
  obtain ⟨e2, h2, k2⟩ := within_f k c d
  unfold span_ValidBox.f
  rw [h1, Option.bind_some, h2, Option.bind_some]
  dsimp only
  by_cases p1 : -1000000 ≤ a ∧ a ≤ b ∧ b ≤ 1000000
  · rw [if_pos (k1 (decide_eq_true p1)), decide_eq_true p1]
    by_cases p2 : -1000000 ≤ c ∧ c ≤ d ∧ d ≤ 1000000
    · rw [if_pos (k2 (decide_eq_true p2)), if_pos rfl, decide_eq_true p2, decide_eq_true ⟨p1, p2⟩]
    · rw [decide_eq_false p2, show decide ((-1000000 ≤ a ∧ a ≤ b ∧ b ≤ 1000000) ∧ (-1000000 ≤ c ∧ c ≤ d ∧ d ≤ 1000000)) = false from decide_eq_false (fun h => p2 h.2)]
      split <;> rfl
  · have hd : decide ((-1000000 ≤ a ∧ a ≤ b ∧ b ≤ 1000000) ∧ (-1000000 ≤ c ∧ c ≤ d ∧ d ≤ 1000000)) = false := decide_eq_false (fun h => p1 h.1)
    rw [decide_eq_false p1, hd]
    repeat' split
    all_goals first | rfl | (exfalso; rename_i h; exact absurd h (by decide))
theorem time_f (a : Int) : piece_isTime.f a = some (decide (0 ≤ a ∧ a ≤ 10000000)) := by
  unfold piece_isTime.f
  split
  all_goals (congr 1; simp only [decide_eq_decide, eq_comm (a := false), decide_eq_false_iff_not]; omega)
end Go.Proofs.YthiealhmcfdakaaH
end
section
set_option linter.unusedVariables false
set_option linter.unusedSimpArgs false
namespace Go.Proofs.YthiealhmcfdakaaH
open Go Go.RowKit Go.Proofs.YthiealhmcfdakaaW.PrintWords Go.Proofs.YthiealhmcfdakaaW.PrintLast Go.Proofs.YthiealhmcfdakaaW.PrintMore Go.Proofs.Ythiealhmcfdakaa.E
def piece_Valid.f (a0 : Int) (a1 : Int) (a2 : Int) (a3 : Int) (a4 : Int) (a5 : Int) (a6 : Int) (a7 : Int) (a8 : Int) (a9 : Int) (a10 : Bool) (l11 : List Int) : Option Bool := some (decide (validW ⟨a0, a1, a2, a3, a4, a5, a6, a7, a8, a9, a10, l11⟩))
set_option maxHeartbeats 8000000 in
set_option maxRecDepth 100000 in
theorem piece_Valid.calls (a0 : Int) (a1 : Int) (a2 : Int) (a3 : Int) (a4 : Int) (a5 : Int) (a6 : Int) (a7 : Int) (a8 : Int) (a9 : Int) (a10 : Bool) (A11 : Option Addr) (c11 : Nat) (l11 : List Int) (r : Bool) (w : World) (hr11 : Kd.C (Kd.int .u8) w A11 l11.length l11) (hc11 : l11.length ≤ c11) (h : piece_Valid.f a0 a1 a2 a3 a4 a5 a6 a7 a8 a9 a10 l11 = some r) :
    Calls Try.prog 17 #[.agg #[.int .i64 a0, .int .i64 a1, .int .i64 a2, .int .i64 a3, .int .i64 a4, .int .i64 a5, .int .i64 a6, .int .i64 a7, .int .i64 a8, .int .i64 a9, .bool a10, .slice A11 l11.length c11]] w fun e w' => e = .returned (.bool r) ∧ Below w.heap.size w w' := by
  have hu30 := Try.underlying30
  have hu23 := Try.underlying23
  have hu25 := Try.underlying25
  have hu27 := Try.underlying27
  have HR : Aside0 (decide (validW (⟨a0, a1, a2, a3, a4, a5, a6, a7, a8, a9, a10, l11⟩ : Wn)) = r) := Aside0.mk (Option.some.inj h)
  clear h
  have hnv := fun W => number_Valid.calls a0 a1 a2 _ W (nameOk_f a0 a1 a2)
  have hbv := fun W => span_ValidBox.calls 1 a5 a6 a7 a8 _ W (box_f 0 a5 a6 a7 a8)
  have ht := fun a W => piece_isTime.calls a _ W (time_f a)
  clear hr11 hc11
  go_enter Try.func17, Try.ntmps17
  go_wp2_with (first | ((with_reducible refine gate_dst (N := 1) rfl ?_); (try (refine gate_guard (by rfl) ?_; dsimp only)); refine box_event ?hg (N := 1) ?hd (cs := #[.int .i64 a0, .int .i64 a1, .int .i64 a2, .int .i64 a3, .int .i64 a4, .int .i64 a5, .int .i64 a6, .int .i64 a7, .int .i64 a8, .int .i64 a9, .bool a10, .slice A11 l11.length c11]) (t := 30) ?hr ?_; (case hd => rfl); (case hg => rfl); (case hr => first | (go_simp; done) | (go_simp; rfl)); intro gb hg w1 hbox hb; have hgb : gb < w1.heap.size := blk_lt hbox; have HBX := Aside0.mk hbox; have c0_ : w1.cell? ⟨gb, 0, none⟩ = some (.int .i64 a0) := (blk_cell hbox 0).trans rfl; have c1_ : w1.cell? ⟨gb, 1, none⟩ = some (.int .i64 a1) := (blk_cell hbox 1).trans rfl; have c2_ : w1.cell? ⟨gb, 2, none⟩ = some (.int .i64 a2) := (blk_cell hbox 2).trans rfl; clear hbox hg))
  (with_reducible refine (hnv _).mono ?_)
  rintro e w2 ⟨rfl, hd⟩
  have hbw2 : Below w.heap.size w w2 := hb.trans (hd.mono hb.size)
  have HBXw2 := Aside0.mk ((hd.block _ (blk_lt HBX.out)).trans HBX.out)
  clear hd hnv c0_ c1_ c2_
  have c0_ : w2.cell? ⟨gb, 0, none⟩ = some (.int .i64 a0) := (blk_cell HBXw2.out 0).trans rfl
  have c1_ : w2.cell? ⟨gb, 1, none⟩ = some (.int .i64 a1) := (blk_cell HBXw2.out 1).trans rfl
  have c2_ : w2.cell? ⟨gb, 2, none⟩ = some (.int .i64 a2) := (blk_cell HBXw2.out 2).trans rfl
  have c3_ : w2.cell? ⟨gb, 3, none⟩ = some (.int .i64 a3) := (blk_cell HBXw2.out 3).trans rfl
  have c4_ : w2.cell? ⟨gb, 4, none⟩ = some (.int .i64 a4) := (blk_cell HBXw2.out 4).trans rfl
  have c5_ : w2.cell? ⟨gb, 5, none⟩ = some (.int .i64 a5) := (blk_cell HBXw2.out 5).trans rfl
  have c6_ : w2.cell? ⟨gb, 6, none⟩ = some (.int .i64 a6) := (blk_cell HBXw2.out 6).trans rfl
  have c7_ : w2.cell? ⟨gb, 7, none⟩ = some (.int .i64 a7) := (blk_cell HBXw2.out 7).trans rfl
  have c8_ : w2.cell? ⟨gb, 8, none⟩ = some (.int .i64 a8) := (blk_cell HBXw2.out 8).trans rfl
  have c9_ : w2.cell? ⟨gb, 9, none⟩ = some (.int .i64 a9) := (blk_cell HBXw2.out 9).trans rfl
  have c10_ : w2.cell? ⟨gb, 10, none⟩ = some (.bool a10) := (blk_cell HBXw2.out 10).trans rfl
  have c11_ : w2.cell? ⟨gb, 11, none⟩ = some (.slice A11 l11.length c11) := (blk_cell HBXw2.out 11).trans rfl
  by_cases n1 : 1 ≤ a0 ∧ 1 ≤ a1 ∧ 1 ≤ a2 ∧ a0 ≤ 26 ∧ a1 ≤ 10 ∧ a2 ≤ 99
  case neg =>
    have HF := Aside0.mk (decide_eq_false (fun h : validW (⟨a0, a1, a2, a3, a4, a5, a6, a7, a8, a9, a10, l11⟩ : Wn) => n1 h.1))
    rw [decide_eq_false n1]
    clear n1
    go_wp2_with fail
    go_ret
    exact ⟨by rw [← HR.out, HF.out]; rfl, hbw2⟩
  rw [decide_eq_true n1]
  have Nn1 := Aside0.mk n1
  clear n1
  go_wp2_with fail
  (with_reducible refine (hbv _).mono ?_)
  rintro e w3 ⟨rfl, hd⟩
  have hbw3 : Below w.heap.size w w3 := hbw2.trans (hd.mono hbw2.size)
  have HBXw3 := Aside0.mk ((hd.block _ (blk_lt HBXw2.out)).trans HBXw2.out)
  clear hd hbv c0_ c1_ c2_ c3_ c4_ c5_ c6_ c7_ c8_ c9_ c10_ c11_
  have c0_ : w3.cell? ⟨gb, 0, none⟩ = some (.int .i64 a0) := (blk_cell HBXw3.out 0).trans rfl
  have c1_ : w3.cell? ⟨gb, 1, none⟩ = some (.int .i64 a1) := (blk_cell HBXw3.out 1).trans rfl
  have c2_ : w3.cell? ⟨gb, 2, none⟩ = some (.int .i64 a2) := (blk_cell HBXw3.out 2).trans rfl
  have c3_ : w3.cell? ⟨gb, 3, none⟩ = some (.int .i64 a3) := (blk_cell HBXw3.out 3).trans rfl
  have c4_ : w3.cell? ⟨gb, 4, none⟩ = some (.int .i64 a4) := (blk_cell HBXw3.out 4).trans rfl
  have c5_ : w3.cell? ⟨gb, 5, none⟩ = some (.int .i64 a5) := (blk_cell HBXw3.out 5).trans rfl
  have c6_ : w3.cell? ⟨gb, 6, none⟩ = some (.int .i64 a6) := (blk_cell HBXw3.out 6).trans rfl
  have c7_ : w3.cell? ⟨gb, 7, none⟩ = some (.int .i64 a7) := (blk_cell HBXw3.out 7).trans rfl
  have c8_ : w3.cell? ⟨gb, 8, none⟩ = some (.int .i64 a8) := (blk_cell HBXw3.out 8).trans rfl
  have c9_ : w3.cell? ⟨gb, 9, none⟩ = some (.int .i64 a9) := (blk_cell HBXw3.out 9).trans rfl
  have c10_ : w3.cell? ⟨gb, 10, none⟩ = some (.bool a10) := (blk_cell HBXw3.out 10).trans rfl
  have c11_ : w3.cell? ⟨gb, 11, none⟩ = some (.slice A11 l11.length c11) := (blk_cell HBXw3.out 11).trans rfl
  by_cases n2 : (-1000000 ≤ a5 ∧ a5 ≤ a6 ∧ a6 ≤ 1000000) ∧ (-1000000 ≤ a7 ∧ a7 ≤ a8 ∧ a8 ≤ 1000000)
  case neg =>
    have HF := Aside0.mk (decide_eq_false (fun h : validW (⟨a0, a1, a2, a3, a4, a5, a6, a7, a8, a9, a10, l11⟩ : Wn) => n2 ⟨h.2.1, h.2.2.1⟩))
    rw [decide_eq_false n2]
    clear n2
    go_wp2_with fail
    go_ret
    exact ⟨by rw [← HR.out, HF.out]; rfl, hbw3⟩
  rw [decide_eq_true n2]
  have Nn2 := Aside0.mk n2
  clear n2
  go_wp2_with fail
  (with_reducible refine (ht _ _).mono ?_)
  rintro e _ ⟨rfl, ⟨m1, rfl⟩⟩
  by_cases n3 : 0 ≤ a3 ∧ a3 ≤ 10000000
  case neg =>
    have HF := Aside0.mk (decide_eq_false (fun h : validW (⟨a0, a1, a2, a3, a4, a5, a6, a7, a8, a9, a10, l11⟩ : Wn) => n3 h.2.2.2.1))
    rw [decide_eq_false n3]
    clear n3
    go_wp2_with fail
    go_ret
    exact ⟨by rw [← HR.out, HF.out]; rfl, pw_below_drewN hbw3 _⟩
  rw [decide_eq_true n3]
  have Nn3 := Aside0.mk n3
  clear n3
  go_wp2_with fail
  (with_reducible refine (ht _ _).mono ?_)
  rintro e _ ⟨rfl, ⟨m2, rfl⟩⟩
  by_cases n4 : 0 ≤ a4 ∧ a4 ≤ 10000000
  case neg =>
    have HF := Aside0.mk (decide_eq_false (fun h : validW (⟨a0, a1, a2, a3, a4, a5, a6, a7, a8, a9, a10, l11⟩ : Wn) => n4 h.2.2.2.2.1))
    rw [decide_eq_false n4]
    clear n4
    go_wp2_with fail
    go_ret
    exact ⟨by rw [← HR.out, HF.out]; rfl, by first | exact pw_below_drewN hbw3 _ | exact pw_below_drewN (pw_below_drewN hbw3 _) _⟩
  rw [decide_eq_true n4]
  have Nn4 := Aside0.mk n4
  clear n4
  clear ht
  by_cases n5 : a3 < a4
  case neg =>
    have HF := Aside0.mk (decide_eq_false (fun h : validW (⟨a0, a1, a2, a3, a4, a5, a6, a7, a8, a9, a10, l11⟩ : Wn) => n5 h.2.2.2.2.2.1))
    go_wp2_with fail
    go_ret
    exact ⟨by rw [← HR.out, HF.out]; rfl, by first | exact pw_below_drewN hbw3 _ | exact pw_below_drewN (pw_below_drewN hbw3 _) _⟩
  by_cases n6 : 0 ≤ a9
  case neg =>
    have HF := Aside0.mk (decide_eq_false (fun h : validW (⟨a0, a1, a2, a3, a4, a5, a6, a7, a8, a9, a10, l11⟩ : Wn) => n6 h.2.2.2.2.2.2.1))
    go_wp2_with fail
    go_ret
    exact ⟨by rw [← HR.out, HF.out]; rfl, by first | exact pw_below_drewN hbw3 _ | exact pw_below_drewN (pw_below_drewN hbw3 _) _⟩
  by_cases n7 : a9 ≤ 9
  case neg =>
    have HF := Aside0.mk (decide_eq_false (fun h : validW (⟨a0, a1, a2, a3, a4, a5, a6, a7, a8, a9, a10, l11⟩ : Wn) => n7 h.2.2.2.2.2.2.2.1))
    go_wp2_with fail
    go_ret
    exact ⟨by rw [← HR.out, HF.out]; rfl, by first | exact pw_below_drewN hbw3 _ | exact pw_below_drewN (pw_below_drewN hbw3 _) _⟩
  by_cases n8 : (l11.length : Int) ≤ 200
  case neg =>
    have HF := Aside0.mk (decide_eq_false (fun h : validW (⟨a0, a1, a2, a3, a4, a5, a6, a7, a8, a9, a10, l11⟩ : Wn) => n8 (by have := h.2.2.2.2.2.2.2.2; dsimp only at this; omega)))
    have k8 : decide ((l11.length : Int) ≤ 200) = false := decide_eq_false n8
    go_wp2_with fail
    go_ret
    exact ⟨by rw [← HR.out, HF.out, ← k8]; rfl, by first | exact pw_below_drewN hbw3 _ | exact pw_below_drewN (pw_below_drewN hbw3 _) _⟩
  have HT := Aside0.mk (decide_eq_true (show validW (⟨a0, a1, a2, a3, a4, a5, a6, a7, a8, a9, a10, l11⟩ : Wn) from ⟨Nn1.out, Nn2.out.1, Nn2.out.2, Nn3.out, Nn4.out, n5, n6, n7, by dsimp only; omega⟩))
  have k8 : decide ((l11.length : Int) ≤ 200) = true := decide_eq_true n8
  go_wp2_with fail
  go_ret
  exact ⟨by rw [← HR.out, HT.out, ← k8]; rfl, by first | exact pw_below_drewN hbw3 _ | exact pw_below_drewN (pw_below_drewN hbw3 _) _⟩
end Go.Proofs.YthiealhmcfdakaaH
end
