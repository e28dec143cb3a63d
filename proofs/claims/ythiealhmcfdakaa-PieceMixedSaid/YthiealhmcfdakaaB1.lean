/- Lemmas and contracts that the laws of this seat share, part 1 (put together by this session's program out of its own texts and of the words that print.sh wrote for this seat). -/
import Derived.ArgAppend
import Derived.Below
import Derived.BigQuiet
import Derived.ChangeKeysEq
import Derived.Deep.AppendLies
import Derived.Deep.CutBlock
import Derived.Deep.DeepCutAuto
import Derived.Deep.Draws
import Derived.Deep.LoopGhost
import Derived.Deep.OwnRows
import Derived.Deep.QuietTactic
import Derived.Deep.RegionHeld3
import Derived.KernelRfl
import Derived.Laws.BitsLemmas
import Derived.Laws.BytesArg
import Derived.Laws.CopyOwn
import Derived.Laws.IdiomCopy
import Derived.Laws.MakeOwn
import Derived.Laws.OwnMore
import Derived.Laws.Rows
import Derived.Laws.Slices
import Derived.Lib.AppendStr
import Derived.Lib.ConvBytes
import Derived.Maps.AppendAt
import Derived.OrdersHeld
import Derived.OwnWalk
import Derived.RangeFuncBound
import Derived.RangeFuncCalls
import Derived.RangeFuncLeaves
import Derived.RangeFuncNested
import Derived.RangeFuncWrites
import Derived.RowKit
import Derived.RowKit3
import Derived.StillTailTactics
import Derived.Tactics
import Derived.Test.YthiealhmcfdakaaProg
import Derived.WalkKit
import Derived.WalkSpells
import Derived.WideLaws
import Derived.Test.YthiealhmcfdakaaB0
section
set_option linter.unusedVariables false
set_option linter.unusedSimpArgs false
namespace Go.Proofs.YthiealhmcfdakaaH
open Go Go.RowKit
section
variable {P : Program} {w : World} {ops : Array Oper} {rest : List Oper} {o : Oper} {a : Act} {Q : Exit → Act → World → Prop}
theorem wpList_alloc_cells (hgd : o.guard = none) (t : TypeId) (ho : o.op = .alloc t) (cs : Array Value) (hz : (P.info? t).map (·.zero) = some (some (.agg cs)))
    (h : wpList P ops Q rest (a.put o.dst (.pointer (some ⟨w.heap.size, 0, none⟩))) (w.alloc (.cells cs t))) : wpList P ops Q (o :: rest) a w := by
  refine wpList_plain hgd fun K hK => ?_
  obtain ⟨i, hi, hi2⟩ := Option.map_eq_some_iff.1 hz
  unfold Oper.wp execOp
  simp only [ho, Instr.alloc, zeroValue, typeInfo, Sem.run_bind]
  simp [hi, hi2, newVar, newRow, Result.andThen, Value.cells, Oper.upon_value]
  exact hK _ _ h
theorem run_storeVar_row (ty : TypeId) (g : Nat) (t : TypeId) (cur cs : Array Value) (hg : w.heap[g]? = some (.cells cur t (0, 0))) (hs : cs.size = cur.size) (h1 : ∀ v ∈ cs, v.oneCell' = true)
    (hi : (P.info? ty).map (·.size) = some cs.size) : (storeVar ty ⟨g, 0, none⟩ (.agg cs)).run P w = .ok () (w.setRow g cs) := by
  obtain ⟨i, hi, hi2⟩ := Option.map_eq_some_iff.1 hi
  have := run_storeCells_at P g 0 t cs.toList 0 cur w hg (by simp; omega) (fun v hv => h1 v (by simpa using hv))
  have e : (cur.toList.take (0 + 0) ++ cs.toList ++ cur.toList.drop (0 + 0 + cs.toList.length)).toArray = cs := by
    have : cur.toList.drop (0 + 0 + cs.toList.length) = [] := by apply List.drop_eq_nil_of_le; simp; omega
    rw [this]; simp
  rw [e] at this
  simp [storeVar, sizeOf, typeInfo, hi, hi2, Value.cells, Sem.run_bind, Result.andThen, this]
theorem wpList_store_row (hgd : o.guard = none) (ty : TypeId) (x y : Operand) (ho : o.op = .store ty x y) (g : Nat) (hx : a.eval x = .pointer (some ⟨g, 0, none⟩)) (cs : Array Value) (hy : a.eval y = .agg cs)
    (t : TypeId) (cur : Array Value) (hg : w.heap[g]? = some (.cells cur t (0, 0))) (hs : cs.size = cur.size) (h1 : ∀ v ∈ cs, v.oneCell' = true)
    (hi : (P.info? ty).map (·.size) = some cs.size) (h : wpList P ops Q rest (a.put o.dst undef) (w.setRow g cs)) : wpList P ops Q (o :: rest) a w := by
  refine wpList_plain hgd fun K hK => ?_
  unfold Oper.wp execOp
  simp only [ho, hx, hy, Instr.storeAt, Instr.sureAddr, Sem.run_bind, Sem.run_pure, Result.andThen_ok, run_storeVar_row ty g t cur cs hg hs h1 hi]
  exact hK _ _ h
theorem run_part_int {e : TypeId} {k : IntKind} (he : P.underlying e = some (.int k)) {xs : Array Value} {off : Nat} {v : Value} (hx : xs[off]? = some v) : (part e xs off).run P w = .ok v w := by
  simp [part, isAgg, run_underlying he, Sem.run_bind, Result.andThen, hx]
theorem run_equal_arr4 {t e : TypeId} {k : IntKind} {i : TypeInfo} (hu : P.underlying t = some (.array 4 e)) (hi : P.info? e = some i) (he : P.underlying e = some (.int k)) (h1 : P.cellsOf e = 1)
    (a0 a1 a2 a3 b0 b1 b2 b3 : Int) :
    (Op.equalIn 10000 t (.agg #[.int k a0, .int k a1, .int k a2, .int k a3]) (.agg #[.int k b0, .int k b1, .int k b2, .int k b3])).run P w = .ok (a0 == b0 && (a1 == b1 && (a2 == b2 && a3 == b3))) w := by
  rw [run_equalIn_array w 9999 _ _ hu hi, h1]
  simp only [List.range, List.range.loop, Op.eqItems, Sem.run_bind, Nat.mul_one]
  rw [run_part_int he (v := .int k a0) rfl]
  simp only [Result.andThen_ok]
  rw [run_part_int he (v := .int k b0) rfl]
  simp only [Result.andThen_ok]
  rw [run_equalIn_int w 9998 e k k a0 b0 he]
  simp only [Result.andThen_ok]
  cases h0 : (a0 == b0)
  · simp
  simp only [Bool.not_true, Bool.false_eq_true, if_false, Sem.run_bind]
  rw [run_part_int he (v := .int k a1) rfl]
  simp only [Result.andThen_ok]
  rw [run_part_int he (v := .int k b1) rfl]
  simp only [Result.andThen_ok]
  rw [run_equalIn_int w 9998 e k k a1 b1 he]
  simp only [Result.andThen_ok]
  cases h1 : (a1 == b1)
  · simp
  simp only [Bool.not_true, Bool.false_eq_true, if_false, Sem.run_bind]
  rw [run_part_int he (v := .int k a2) rfl]
  simp only [Result.andThen_ok]
  rw [run_part_int he (v := .int k b2) rfl]
  simp only [Result.andThen_ok]
  rw [run_equalIn_int w 9998 e k k a2 b2 he]
  simp only [Result.andThen_ok]
  cases h2 : (a2 == b2)
  · simp
  simp only [Bool.not_true, Bool.false_eq_true, if_false, Sem.run_bind]
  rw [run_part_int he (v := .int k a3) rfl]
  simp only [Result.andThen_ok]
  rw [run_part_int he (v := .int k b3) rfl]
  simp only [Result.andThen_ok]
  rw [run_equalIn_int w 9998 e k k a3 b3 he]
  simp only [Result.andThen_ok]
  cases h3 : (a3 == b3) <;> simp [Op.eqItems]
end
end Go.Proofs.YthiealhmcfdakaaH
end
section
set_option linter.unusedVariables false
set_option linter.unusedSimpArgs false
namespace Go.Proofs.YthiealhmcfdakaaH
open Go Go.RowKit Go.Proofs.YthiealhmcfdakaaW.PrintWords
def crcBit (c : Int) : Int := if (Go.bits .and .u32 c 1 == 1) = true then Go.bits .xor .u32 (c / 2) 3988292384 else c / 2
def crcBits : Nat → Int → Int
  | 0, c => c
  | k + 1, c => crcBit (crcBits k c)
def tabAt (k : Nat) (i : Nat) : Value := .int .u32 (if i < k then crcBits 8 i else 0)
def tabArr (k : Nat) : Array Value := ((List.range 256).map (tabAt k)).toArray
theorem tabArr_size (k : Nat) : (tabArr k).size = 256 := by simp [tabArr]
theorem tabArr_get (k i : Nat) (h : i < 256) : (tabArr k)[i]? = some (tabAt k i) := by simp [tabArr, h]
theorem tabArr_set (k : Nat) (h : k < 256) : (tabArr k).setIfInBounds k (.int .u32 (crcBits 8 k)) = tabArr (k + 1) := by
  apply Array.ext_getElem?
  intro i
  rw [Array.getElem?_setIfInBounds]
  by_cases hk : k = i
  · subst hk
    rw [if_pos rfl, if_pos (by rw [tabArr_size]; exact h), tabArr_get _ _ h]
    unfold tabAt
    rw [if_pos (by omega)]
  · rw [if_neg hk]
    by_cases hi : i < 256
    · rw [tabArr_get _ _ hi, tabArr_get _ _ hi]
      simp only [tabAt]
      by_cases e : i < k
      · rw [if_pos e, if_pos (by omega)]
      · rw [if_neg e, if_neg (by omega)]
    · rw [Array.getElem?_eq_none (by rw [tabArr_size]; omega), Array.getElem?_eq_none (by rw [tabArr_size]; omega)]
theorem zero53 : (Try.prog.info? 114).map (·.zero) = some (some (.agg (tabArr 0))) := by kernel_rfl
theorem size53 : (Try.prog.info? 114).map (·.size) = some 256 := by kernel_rfl
theorem tabArr_one (k : Nat) : ∀ v ∈ tabArr k, v.oneCell' = true := by
  intro v hv
  simp [tabArr] at hv
  obtain ⟨i, _, rfl⟩ := hv
  rfl
set_option maxHeartbeats 1000000 in
set_option maxRecDepth 100000 in
theorem codec_made_calls (w : World) : Calls Try.prog 59 #[] w fun e w' => e = .returned (.agg (tabArr 256)) ∧ Below w.heap.size w w' := by
  obtain ⟨Z, hZ⟩ : ∃ Z, Z = tabArr 0 := ⟨_, rfl⟩
  have z53 := zero53
  rw [← hZ] at z53
  have HZ := Aside0.mk hZ
  clear hZ
  have Z53 := Aside0.mk z53
  clear z53
  go_enter Try.func59, Try.ntmps59
  go_wp2_with (first | (refine wpList_alloc_cells rfl 114 rfl Z Z53.out ?_))
  have HB0 := Aside0.mk (((Below.refl w.heap.size w).alloc (Nat.le_refl _) (.cells Z 114)).alloc (by simp) (.cells Z 114))
  have HA0 : Aside0 (((w.alloc (.cells Z 114)).alloc (.cells Z 114)).heap[w.heap.size]? = some (.cells Z 114 (0, 0))) := ⟨heap_alloc2_old w _ _⟩
  have HT0 : Aside0 (((w.alloc (.cells Z 114)).alloc (.cells Z 114)).heap[w.heap.size + 1]? = some (.cells (tabArr 0) 114 (0, 0))) := ⟨by rw [HZ.out]; exact heap_alloc2_new w _ _⟩
  go_loopw [4] (fun v wr => ∃ k : Nat, k ≤ 256 ∧ v = .int .i64 k ∧ Aside0 (wr.heap[w.heap.size]? = some (.cells Z 114 (0, 0))) ∧ Aside0 (wr.heap[w.heap.size + 1]? = some (.cells (tabArr k) 114 (0, 0))) ∧ Aside0 (Below w.heap.size w wr))
    (fun v _ => 256 - (intOf v).toNat)
  case atStart => exact ⟨0, by omega, rfl, HA0, HT0, HB0⟩
  case round =>
    obtain ⟨k, hk, rfl, HA, HT, HB⟩ := hrel
    by_cases hlt : k < 256
    · go_wp2_with fail
      go_loop [3, 9] (fun c j => ∃ m : Nat, m ≤ 8 ∧ j = .int .i64 m ∧ c = .int .u32 (crcBits m k)) (fun _ j => 8 - (intOf j).toNat)
      case atStart => exact ⟨0, by omega, rfl, rfl⟩
      case round =>
        obtain ⟨m, hm, rfl, rfl⟩ := hrel
        by_cases hl : m < 8
        · obtain ⟨c, hc⟩ : ∃ c, c = crcBits m k := ⟨_, rfl⟩
          have hb : crcBits (m + 1) k = crcBit c := by rw [hc]; rfl
          rw [← hc]
          have Hb := Aside0.mk hb
          clear hb hc
          by_cases h1 : (Go.bits .and .u32 c 1 == 1) = true
          · go_wp2_with fail
            go_round
            case rel => exact ⟨m + 1, by omega, by go_num, by rw [Hb.out]; unfold crcBit; rw [if_pos h1]⟩
            case measure => simp [intOf]; omega
          · have h2 : (Go.bits .and .u32 c 1 == 1) = false := by simpa using h1
            clear h1
            go_wp2_with fail
            go_round
            case rel => exact ⟨m + 1, by omega, by go_num, by rw [Hb.out]; unfold crcBit; rw [h2]; rfl⟩
            case measure => simp [intOf]; omega
        · have H8 : Aside0 (m = 8) := ⟨by omega⟩
          have hcell : wr.cell? ⟨w.heap.size + 1, k, none⟩ = some (tabAt k k) := by rw [cell_of_row _ _ _ _ _ _ HT.out]; exact tabArr_get k k hlt
          have hfr : wr.frozen? ⟨w.heap.size + 1, k, none⟩ = false := frozen_of_row _ _ _ _ _ HT.out
          go_wp2_with fail
          go_roundw
          case rel =>
            refine ⟨k + 1, by omega, by go_num, ?_, ?_, ?_⟩
            · exact ⟨by rw [heap_setCell_other _ _ _ _ (by simp)]; exact HA.out⟩
            · refine ⟨?_⟩
              rw [heap_setCell_same _ _ _ _ _ _ HT.out, H8.out, tabArr_set k hlt]
            · exact ⟨HB.out.setCell (by simp) _⟩
          case measure => simp [intOf]; omega
    · have H256 : Aside0 (k = 256) := ⟨by omega⟩
      go_wp2_with (first | (refine wpList_load_row rfl 114 _ rfl (w.heap.size + 1) rfl 114 _ _ _ HT.out Try.underlying114 rfl ?_ ?_; (case _ => rw [tabArr_size]; exact size53)) | (refine wpList_store_row rfl 114 _ _ rfl w.heap.size rfl (tabArr k) rfl 114 Z HA.out (by rw [HZ.out, tabArr_size, tabArr_size]) (tabArr_one k) (by rw [tabArr_size]; exact size53) ?_))
      refine bodyPost_ret (results_cell_row rfl _ _ w.heap.size 114 (tabArr k) (0, 0) _ rfl (setRow_heap _ _ _ _ 114 _ HA.out) Try.underlying114 rfl (by rw [tabArr_size]; exact size53)) rfl ?_
      exact ⟨by rw [H256.out], below_setRow HB.out (Nat.le_refl _) _⟩
def crcStep (c x : Int) : Int := Go.bits .xor .u32 (crcBits 8 (Go.bits .xor .u8 (c % 256) x)) (c / 256)
def crcFold (c : Int) (l : List Int) : Int := l.foldl crcStep c
def codec_Sum.f (l0 : List Int) : Option Int := some (Go.bits .xor .u32 4294967295 (crcFold 4294967295 l0))
theorem u32_max : IntKind.u32.max = 4294967295 := by decide
set_option maxHeartbeats 1000000 in
set_option maxRecDepth 100000 in
theorem codec_Sum.calls (A0 : Option Addr) (c0 : Nat) (l0 : List Int) (r : Int) (w : World) (hr0 : Kd.C (Kd.int .u8) w A0 l0.length l0) (hc0 : l0.length ≤ c0) (h : codec_Sum.f l0 = some r) :
    Calls Try.prog 40 #[.slice A0 l0.length c0] w fun e w' => e = .returned (.int .u32 r) ∧ Below w.heap.size w w' := by
  obtain rfl := Option.some.inj h
  clear h
  have HR := Aside0.mk hr0
  clear hr0 hc0
  obtain ⟨Z, hZ⟩ : ∃ Z, Z = tabArr 0 := ⟨_, rfl⟩
  have z53 := zero53
  rw [← hZ] at z53
  have Z53 := Aside0.mk z53
  have HZ := Aside0.mk hZ
  clear z53 hZ
  obtain ⟨T, hT⟩ : ∃ T, T = tabArr 256 := ⟨_, rfl⟩
  have HT := Aside0.mk hT
  clear hT
  go_enter Try.func40, Try.ntmps40
  go_wp2_with (first | (go_at_call 59; (with_reducible refine (codec_made_calls _).mono ?_); rintro e w1 ⟨rfl, hb1⟩; have HB1 := Aside0.mk hb1; clear hb1) | (refine wpList_alloc_cells rfl 114 rfl Z Z53.out ?_) | (refine wpList_store_row rfl 114 _ _ rfl w1.heap.size rfl (tabArr 256) rfl 114 Z (heap_alloc_new _ _) (by rw [HZ.out, tabArr_size, tabArr_size]) (tabArr_one 256) (by rw [tabArr_size]; exact size53) ?_; have hg2 := setRow_heap (w1.alloc (.cells Z 114)) w1.heap.size _ (tabArr 256) 114 _ (heap_alloc_new _ _); have hb2 := below_setRow (HB1.out.alloc HB1.out.size (.cells Z 114)) (HB1.out.size) (tabArr 256); generalize (w1.alloc (.cells Z 114)).setRow w1.heap.size (tabArr 256) = w2 at *; have HG2 := Aside0.mk hg2; have HB2 := Aside0.mk hb2; clear hg2 hb2))
  go_loop [10, 4] (fun i c => ∃ k : Nat, k ≤ l0.length ∧ i = .int .i64 k ∧ c = .int .u32 (crcFold 4294967295 (l0.take k))) (fun i _ => l0.length - (intOf i).toNat)
  case atStart => exact ⟨0, by omega, rfl, rfl⟩
  case round =>
    obtain ⟨k, hk, rfl, rfl⟩ := hrel
    have hlen : l0.length ≤ 9223372036854775807 := HR.out.2.1
    by_cases hlt : k < l0.length
    · obtain ⟨c, hc⟩ : ∃ c, c = crcFold 4294967295 (l0.take k) := ⟨_, rfl⟩
      have hb : crcFold 4294967295 (l0.take (k + 1)) = crcStep c (rd l0 k) := by
        rw [hc, List.take_succ_eq_append_getElem hlt]
        unfold crcFold rd
        rw [List.foldl_append, List.getD_eq_getElem?_getD, Int.toNat_natCast, List.getElem?_eq_getElem hlt]
        rfl
      rw [← hc]
      have Hb := Aside0.mk hb
      clear hb hc
      obtain ⟨ad, e, hx⟩ := Kd.at_int HR.out k (by omega) (by omega)
      cases e
      have hx2 := (HB2.out.cell (World.block_lt_of_cell? w _ hx)).trans hx
      clear hx
      obtain ⟨x, hxx⟩ : ∃ x, x = rd l0 k := ⟨_, rfl⟩
      rw [← hxx] at hx2 Hb
      clear hxx
      have y0 := bits_lo_u8 .xor (c % 256) x
      have y1 := bits_hi_u8 .xor (c % 256) x
      have hcell : w2.cell? ⟨w1.heap.size, (Go.bits .xor .u8 (c % 256) x).toNat, none⟩ = some (.int .u32 (crcBits 8 (Go.bits .xor .u8 (c % 256) x))) := by
        rw [cell_of_row _ _ _ _ _ _ HG2.out, tabArr_get _ _ (by omega)]
        unfold tabAt
        rw [if_pos (by omega), Int.toNat_of_nonneg y0]
      simp only [Int.toNat_natCast] at hx2
      go_wp2_with fail
      go_round
      case rel => exact ⟨k + 1, by omega, by go_num, by rw [Hb.out]; rfl⟩
      case measure => simp [intOf]; omega
    · go_wp2_with fail
      go_ret
      exact ⟨by rw [List.take_of_length_le (by omega), u32_max]; rfl, HB2.out⟩
end Go.Proofs.YthiealhmcfdakaaH
end
section
set_option linter.unusedVariables false
set_option linter.unusedSimpArgs false
namespace Go.Proofs.YthiealhmcfdakaaH
open Go Go.RowKit Go.Proofs.YthiealhmcfdakaaW.PrintWords Go.Proofs.YthiealhmcfdakaaW.PrintLast
theorem info_u8 : (Try.prog.info? 5).map (fun i => (i.zero, i.size, i.bytes)) = some (some (.int .u8 0), 1, 1) := by kernel_rfl
theorem R_lit0 {α : Type} (d : Kd α) (e : Nat) (w : World) : d.R e (w.alloc (.cells #[] e)) w.heap.size (fun _ => True) (.slice (some ⟨w.heap.size, 0, none⟩) 0 0) [] :=
  ⟨fun _ _ => trivial, [], by simpa using World.ownsRow_made (e := e) (size := d.sz) w #[] 0 (Nat.le_refl _) (by decide) (by simp), Reps.none _ _⟩
def bytes_Clone.f (l0 : List Int) : Option (List Int) := if l0.length < 140737488355328 then some l0 else none
set_option maxHeartbeats 1000000 in
theorem bytes_Clone.calls (A0 : Option Addr) (c0 : Nat) (l0 : List Int) (r : List Int) (w : World) (hr0 : Kd.C (Kd.int .u8) w A0 l0.length l0) (hc0 : l0.length ≤ c0) (h : bytes_Clone.f l0 = some r) :
    Calls Try.prog 66 #[.slice A0 l0.length c0] w fun e w' => ∃ v0_ : Value, e = .returned v0_ ∧ Kd.R (Kd.int .u8) 5 w' w.heap.size (fun _ => True) v0_ r ∧ Below w.heap.size w w' := by
  unfold bytes_Clone.f at h
  by_cases hl : l0.length < 140737488355328
  case neg => rw [if_neg hl] at h; cases h
  rw [if_pos hl] at h
  obtain rfl := Option.some.inj h
  clear h
  have HR := Aside0.mk hr0
  clear hr0
  cases A0 with
  | none =>
    have h0 : l0 = [] := by
      have h2 := HR.out.2.2
      by_cases hp : 0 < l0.length
      · obtain ⟨ad, e, _⟩ := h2 hp
        cases e
      · exact List.eq_nil_of_length_eq_zero (by omega)
    subst h0
    have he := fun wx => Lib.run_eql_slice_nil (P := Try.prog) (w := wx)
    go_enter Try.func66, Try.ntmps66
    go_wp2_with fail
    go_ret
    exact ⟨_, rfl, Kd.R_nil _ _ _ _ _, Below.refl _ _⟩
  | some ad =>
    have he := fun wx n' c' => Lib.run_eql_slice_nil (P := Try.prog) wx 28 5 (some ad) l0.length c0 n' c' Try.underlying28
    go_enter Try.func66, Try.ntmps66
    have HB1 : Aside0 (Below w.heap.size w (w.alloc (.cells #[] 5))) := ⟨(Below.refl _ _).alloc (Nat.le_refl _) _⟩
    go_wp2_with (first
      | (refine Kd.R_append_row (Value.int .u8) (0 : Int) (w0 := w) w.heap.size rfl (.tmp 5) (.tmp 6) 28 5 (.int .u8 0) 1 rfl Try.underlying28 info_u8 rfl (by decide) _ [] l0 (some ad) l0.length c0 (fun _ => True) rfl rfl (fun _ _ => trivial) (R_lit0 (Kd.int .u8) 5 w) (Kd.C_below HR.out HB1.out) HB1.out HB1.out.size ?_ ?_; (case _ => simp; omega); intro v2 w2 ho2 hb2 _ _; have HO2 := Aside0.mk ho2; have HB2 := Aside0.mk hb2; clear ho2 hb2))
    go_ret
    exact ⟨_, rfl, HO2.out, HB2.out⟩
end Go.Proofs.YthiealhmcfdakaaH
end
section
set_option linter.unusedVariables false
set_option linter.unusedSimpArgs false
namespace Go.Proofs.YthiealhmcfdakaaH
open Go Go.RowKit Go.Proofs.YthiealhmcfdakaaW.PrintWords Go.Proofs.YthiealhmcfdakaaW.PrintLast
theorem last_calls (x : Int) (w : World) : Calls Try.prog 51 #[.int .u8 x] w fun e w' => e = .returned (.bool (decide (x < 128))) ∧ w = w' := by
  go_enter Try.func51, Try.ntmps51
  go_wp2_with fail
  go_ret
  exact ⟨rfl, rfl⟩
def lastAt : List Int → Option Nat
  | [] => none
  | x :: l => if x < 128 then some 0 else (lastAt l).map (· + 1)
def NoLast (l : List Int) (k : Nat) : Prop := ∀ i : Nat, i < k → ¬ rd l i < 128
def CutGives (A0 : Option Addr) (c0 : Nat) (l0 : List Int) (w : World) (e : Ending) (w' : World) : Prop :=
  match lastAt l0 with
  | none => e = .returned (.tuple #[.slice A0 l0.length c0, .slice none 0 0, .bool false]) ∧ Drawn0 w w'
  | some i => ∃ A2, e = .returned (.tuple #[.slice A0 (i + 1) c0, .slice A2 (l0.length - (i + 1)) (c0 - (i + 1)), .bool true]) ∧ Drawn0 w w' ∧
      (∀ W, Kd.C (Kd.int .u8) W A0 l0.length l0 → Kd.C (Kd.int .u8) W A2 (l0.length - (i + 1)) (l0.drop (i + 1)))
theorem lastAt_some {l : List Int} {k : Nat} (hk : k < l.length) (h : ∀ i, i < k → ¬ rd l i < 128) (h1 : rd l k < 128) : lastAt l = some k := by
  induction l generalizing k with
  | nil => simp at hk
  | cons x l ih =>
    cases k with
    | zero =>
      have : x < 128 := by simpa [rd] using h1
      simp [lastAt, this]
    | succ k =>
      have h0 : ¬ x < 128 := by simpa [rd] using h 0 (by omega)
      have := ih (k := k) (by simpa using hk) (fun i hi => by
        have h2 := h (i + 1) (by omega)
        unfold rd at h2 ⊢
        simp only [Int.toNat_natCast] at h2 ⊢
        simpa using h2) (by
        unfold rd at h1 ⊢
        simp only [Int.toNat_natCast] at h1 ⊢
        simpa using h1)
      simp [lastAt, h0, this]
theorem lastAt_none {l : List Int} (h : ∀ i, i < l.length → ¬ rd l i < 128) : lastAt l = none := by
  induction l with
  | nil => rfl
  | cons x l ih =>
    have h0 : ¬ x < 128 := by simpa [rd] using h 0 (by simp)
    have := ih (fun i hi => by
        have h2 := h (i + 1) (by simpa using hi)
        unfold rd at h2 ⊢
        simp only [Int.toNat_natCast] at h2 ⊢
        simpa using h2)
    simp [lastAt, h0, this]
theorem lastAt_lt {l : List Int} {k : Nat} (h : lastAt l = some k) : k < l.length := by
  induction l generalizing k with
  | nil => cases h
  | cons x l ih =>
    unfold lastAt at h
    by_cases h0 : x < 128
    · rw [if_pos h0] at h
      obtain rfl := Option.some.inj h
      simp
    · rw [if_neg h0] at h
      obtain ⟨j, hj, rfl⟩ := Option.map_eq_some_iff.1 h
      have := ih hj
      simp
      omega
theorem lastAt_before {l : List Int} {k : Nat} (h : lastAt l = some k) : ∀ j : Nat, j < k → ¬ rd l j < 128 := by
  induction l generalizing k with
  | nil => cases h
  | cons x l ih =>
    unfold lastAt at h
    by_cases h0 : x < 128
    · rw [if_pos h0] at h
      obtain rfl := Option.some.inj h
      intro j hj
      omega
    · rw [if_neg h0] at h
      obtain ⟨j, hj, rfl⟩ := Option.map_eq_some_iff.1 h
      intro m hm
      cases m with
      | zero => simpa [rd] using h0
      | succ m =>
        have := ih hj m (by omega)
        unfold rd at this ⊢
        simp only [Int.toNat_natCast] at this ⊢
        simpa using this
set_option maxHeartbeats 1000000 in
theorem cut_calls (A0 : Option Addr) (c0 : Nat) (l0 : List Int) (w : World) (hr0 : Kd.C (Kd.int .u8) w A0 l0.length l0) (hc0 : l0.length ≤ c0) :
    Calls Try.prog 52 #[.slice A0 l0.length c0, .func (.func 51) #[] #[]] w (CutGives A0 c0 l0 w) := by
  have HR := Aside0.mk hr0
  have hlen : l0.length ≤ 9223372036854775807 := hr0.2.1
  clear hr0
  go_enter Try.func52, Try.ntmps52
  go_wp2_with fail
  go_loop [11] (fun v => ∃ k : Nat, k ≤ l0.length ∧ v = .int .i64 k ∧ Aside0 (NoLast l0 k)) (fun v => l0.length - (intOf v).toNat)
  case atStart => exact ⟨0, by omega, rfl, ⟨fun i hi => by omega⟩⟩
  case round =>
    obtain ⟨k, hk, rfl, HN⟩ := hrel
    by_cases hlt : k < l0.length
    · obtain ⟨ad, e, hx⟩ := Kd.at_int HR.out k (by omega) (by omega)
      cases e
      simp only [Int.toNat_natCast] at hx
      obtain ⟨x, hxx⟩ : ∃ x, x = rd l0 k := ⟨_, rfl⟩
      rw [← hxx] at hx
      have HX := Aside0.mk hxx
      clear hxx
      by_cases h1 : x < 128
      · obtain ⟨i0, hi0, _, hsz, _⟩ := info_parts info_u8
        obtain ⟨hcut1, hC1, hc1⟩ := print_take_of (P := Try.prog) (Value.int .u8) (0 : Int) 28 5 .i64 Try.underlying28 hi0 hsz (some ad) c0 l0 (k + 1) (by omega) (by omega) hc0
        obtain ⟨A2, hcut2, hC2, hc2⟩ := print_drop_of (P := Try.prog) (Value.int .u8) (0 : Int) 28 5 .i64 Try.underlying28 hi0 hsz (some ad) c0 l0 (k + 1) (by omega) (by omega) hc0
        have e1 : (l0.take ((k : Int) + 1).toNat).length = k + 1 := by rw [List.length_take]; omega
        have e2 : (l0.drop ((k : Int) + 1).toNat).length = l0.length - (k + 1) := by rw [List.length_drop]; omega
        have e3 : ((k : Int) + 1).toNat = k + 1 := by omega
        rw [e1] at hcut1
        rw [e2] at hcut2 hC2
        rw [e3] at hcut2 hC2
        have HC2 := Aside0.mk hC2
        have HL := Aside0.mk (lastAt_some hlt HN.out (by rw [← HX.out]; exact h1))
        clear hc1 hc2 hi0 hsz hC2 hC1 e1 e2 e3
        go_wp2_with (first | (go_at_call 51; (with_reducible refine (last_calls _ _).mono ?_); rintro e w1 ⟨rfl, rfl⟩))
        go_quiet (fail)
        go_wp2_with fail
        go_ret3
        unfold CutGives
        rw [HL.out]
        exact ⟨A2, rfl, ⟨_, rfl⟩, fun W hW => Kd.C_of_reads (d := (0 : Int)) (h1 := fun _ => rfl) (HC2.out W (Kd.reads_of_C (d := (0 : Int)) hW))⟩
      · have HN2 : Aside0 (NoLast l0 (k + 1)) := ⟨fun i hi => by
          by_cases e : i = k
          · rw [e, ← HX.out]; exact h1
          · exact HN.out i (by omega)⟩
        go_wp2_with (first | (go_at_call 51; (with_reducible refine (last_calls _ _).mono ?_); rintro e w1 ⟨rfl, rfl⟩))
        go_round
        case rel => exact ⟨k + 1, by omega, by go_num, HN2⟩
        case measure => simp [intOf]; omega
    · have HL := Aside0.mk (lastAt_none (l := l0) (fun i hi => HN.out i (by omega)))
      go_wp2_with fail
      go_ret3
      unfold CutGives
      rw [HL.out]
      exact ⟨rfl, Drawn0.refl _⟩
end Go.Proofs.YthiealhmcfdakaaH
end
section
set_option linter.unusedVariables false
set_option linter.unusedSimpArgs false
namespace Go.Proofs.YthiealhmcfdakaaH
open Go Go.RowKit Go.Proofs.YthiealhmcfdakaaW.PrintWords Go.Proofs.YthiealhmcfdakaaW.PrintLast Go.Proofs.YthiealhmcfdakaaW.PrintMore
theorem info_int : (Try.prog.info? 3).map (fun i => (i.zero, i.size, i.bytes)) = some (some (.int .i64 0), 1, 8) := by kernel_rfl
def digTo (b : List Int) : Nat → Int
  | 0 => 0
  | k + 1 => Go.bits .or .u64 (digTo b k) (IntKind.u64.wrap (IntKind.u64.wrap (Go.bits .and .u8 (rd b k) 127) * 2 ^ (7 * k)))
def unzig (n : Int) : Int := Go.bits .xor .i64 (wrap64 (n / 2)) (wrap64 (-(wrap64 (Go.bits .and .u64 n 1))))
def codec_Get.l0 : Nat → List Int → List Int → Option (List Int × Int)
  | 0, _, _ => none
  | k + 1, acc, b => if b.length = 0 then some (acc, 0) else
    match lastAt b with
    | none => if 9 < b.length ∧ 1 < rd b 9 then some ([], 7) else some ([], 8)
    | some i => if 9 < i + 1 ∧ 1 < rd b 9 then some ([], 7) else if 1 < i + 1 ∧ rd b i = 0 then some ([], 7) else
      if acc.length < 17592186044416 then codec_Get.l0 k (acc ++ [unzig (digTo b (i + 1))]) (b.drop (i + 1)) else none
def codec_Get.f (l0 : List Int) : Option (List Int × Int) := codec_Get.l0 (l0.length + 1) [] l0
set_option maxHeartbeats 2000000 in
set_option maxRecDepth 100000 in
theorem codec_Get.calls (A0 : Option Addr) (c0 : Nat) (l0 : List Int) (r1 : List Int) (r2 : Int) (w : World) (hr0 : Kd.C (Kd.int .u8) w A0 l0.length l0) (hc0 : l0.length ≤ c0) (h : codec_Get.f l0 = some (r1, r2)) :
    Calls Try.prog 30 #[.slice A0 l0.length c0] w fun e w' => ∃ v0_ : Value, e = .returned (.tuple #[v0_, .int .i64 r2]) ∧ Kd.R (Kd.int .i64) 3 w' w.heap.size (fun _ => True) v0_ r1 ∧ Below w.heap.size w w' := by
  have HR0 := Aside0.mk hr0
  have HC0 := Aside0.mk hc0
  have H0 := Aside0.mk h
  clear hr0 hc0 h
  go_enter Try.func30, Try.ntmps30
  go_wp2_with fail
  go_loopg [0, 5] (l0.length + 1) (fun kq v0 v5 w' => ∃ (A : Option Addr) (c : Nat) (b acc : List Int), v0 = .slice A b.length c ∧ Aside0 (codec_Get.l0 kq acc b = some (r1, r2)) ∧ Aside0 (b.length ≤ c) ∧ Aside0 (Kd.C (Kd.int .u8) w A b.length b) ∧ Aside0 (Kd.R (Kd.int .i64) 3 w' w.heap.size (fun _ => True) v5 acc) ∧ Aside0 (Below w.heap.size w w'))
  case atStart => exact ⟨_, _, _, _, rfl, H0, HC0, HR0, ⟨Kd.R_nil _ _ _ _ _⟩, ⟨Below.refl _ _⟩⟩
  case round =>
    clear H0 HC0 HR0
    obtain ⟨A, c, b, acc, rfl, H, HC, HR, HO, HB⟩ := hrel
    cases gk with
    | zero => exact absurd H.out (by simp [codec_Get.l0])
    | succ k1 =>
      have hlen : b.length ≤ 9223372036854775807 := HR.out.2.1
      have h := H.out
      clear H
      unfold codec_Get.l0 at h
      by_cases hz : b.length = 0
      · rw [if_pos hz] at h
        obtain ⟨rfl, rfl⟩ := Prod.mk.inj (Option.some.inj h)
        have hz2 : b = [] := List.eq_nil_of_length_eq_zero hz
        subst hz2
        clear hz h
        go_wp2_with fail
        go_ret2
        exact ⟨_, rfl, HO.out, HB.out⟩
      · rw [if_neg hz] at h
        have hpos : 0 < b.length := by omega
        clear hz
        obtain ⟨ad, e, _⟩ := Kd.at_int HR.out 0 (by omega) (by omega)
        cases e
        have hcells : Aside0 (∀ j : Nat, j < b.length → wr.cell? (ad.add j) = some (.int .u8 (rd b j))) := ⟨fun j hj => by
          obtain ⟨ad', e, hx⟩ := Kd.at_int HR.out j (by omega) (by omega)
          cases e
          exact (HB.out.cell (World.block_lt_of_cell? w _ hx)).trans hx⟩
        have HRr : Aside0 (Kd.C (Kd.int .u8) wr (some ad) b.length b) := ⟨Kd.C_below HR.out (HB.out.mono (Nat.le_refl _))⟩
        cases hlast : lastAt b with
        | none =>
          rw [hlast] at h
          dsimp only at h
          have HL := Aside0.mk hlast
          clear hlast
          by_cases h9 : 9 < b.length
          · by_cases h1 : 1 < rd b 9
            · rw [if_pos ⟨h9, h1⟩] at h
              obtain ⟨rfl, rfl⟩ := Prod.mk.inj (Option.some.inj h)
              clear h
              have hx9 : wr.cell? ⟨ad.block, ad.off + 9, none⟩ = some (.int .u8 (rd b (9 : Nat))) := hcells.out 9 h9
              obtain ⟨x, hx⟩ : ∃ x, x = rd b (9 : Nat) := ⟨_, rfl⟩
              have h1' : 1 < x := by rw [hx]; exact h1
              rw [← hx] at hx9
              clear hx h1
              go_wp2_with (first | (go_at_call 52; (with_reducible refine (cut_calls _ _ _ _ HRr.out HC.out).mono ?_); intro e w2 hcut; unfold CutGives at hcut; rw [HL.out] at hcut; obtain ⟨rfl, ⟨n2, rfl⟩⟩ := hcut))
              go_ret2
              exact ⟨_, rfl, Kd.R_nil _ _ _ _ _, pw_below_drewN HB.out _⟩
            · rw [if_neg (fun hh => h1 hh.2)] at h
              obtain ⟨rfl, rfl⟩ := Prod.mk.inj (Option.some.inj h)
              clear h
              have hx9 : wr.cell? ⟨ad.block, ad.off + 9, none⟩ = some (.int .u8 (rd b (9 : Nat))) := hcells.out 9 h9
              obtain ⟨x, hx⟩ : ∃ x, x = rd b (9 : Nat) := ⟨_, rfl⟩
              have h1' : ¬ 1 < x := by rw [hx]; exact h1
              rw [← hx] at hx9
              clear hx h1
              go_wp2_with (first | (go_at_call 52; (with_reducible refine (cut_calls _ _ _ _ HRr.out HC.out).mono ?_); intro e w2 hcut; unfold CutGives at hcut; rw [HL.out] at hcut; obtain ⟨rfl, ⟨n2, rfl⟩⟩ := hcut))
              go_ret2
              exact ⟨_, rfl, Kd.R_nil _ _ _ _ _, pw_below_drewN HB.out _⟩
          · rw [if_neg (fun hh => h9 hh.1)] at h
            obtain ⟨rfl, rfl⟩ := Prod.mk.inj (Option.some.inj h)
            clear h
            go_wp2_with (first | (go_at_call 52; (with_reducible refine (cut_calls _ _ _ _ HRr.out HC.out).mono ?_); intro e w2 hcut; unfold CutGives at hcut; rw [HL.out] at hcut; obtain ⟨rfl, ⟨n2, rfl⟩⟩ := hcut))
            go_ret2
            exact ⟨_, rfl, Kd.R_nil _ _ _ _ _, pw_below_drewN HB.out _⟩
        | some i =>
          rw [hlast] at h
          dsimp only at h
          have hi := lastAt_lt hlast
          have HL := Aside0.mk hlast
          clear hlast
          by_cases hA : 9 < i + 1 ∧ 1 < rd b 9
          · rw [if_pos hA] at h
            obtain ⟨rfl, rfl⟩ := Prod.mk.inj (Option.some.inj h)
            clear h
            have hx9 : wr.cell? ⟨ad.block, ad.off + 9, none⟩ = some (.int .u8 (rd b (9 : Nat))) := hcells.out 9 (by omega)
            obtain ⟨x, hx⟩ : ∃ x, x = rd b (9 : Nat) := ⟨_, rfl⟩
            have h1' : 1 < x := by rw [hx]; exact hA.2
            have h9 := hA.1
            rw [← hx] at hx9
            clear hx hA
            go_wp2_with (first | (go_at_call 52; (with_reducible refine (cut_calls _ _ _ _ HRr.out HC.out).mono ?_); intro e w2 hcut; unfold CutGives at hcut; rw [HL.out] at hcut; obtain ⟨A2, rfl, ⟨n2, rfl⟩, hC2⟩ := hcut; have HC2 := Aside0.mk hC2; clear hC2))
            go_ret2
            exact ⟨_, rfl, Kd.R_nil _ _ _ _ _, pw_below_drewN HB.out _⟩
          · rw [if_neg hA] at h
            by_cases hD : 1 < i + 1 ∧ rd b i = 0
            · rw [if_pos hD] at h
              obtain ⟨rfl, rfl⟩ := Prod.mk.inj (Option.some.inj h)
              clear h
              have hxi := hcells.out i hi
              obtain ⟨x, hx⟩ : ∃ x, x = rd b (i : Nat) := ⟨_, rfl⟩
              have h1' : (x == 0) = true := by rw [hx, hD.2]; rfl
              have h2' := hD.1
              rw [← hx] at hxi
              clear hx hD
              by_cases h9 : 9 < i + 1
              · have hx9 : wr.cell? ⟨ad.block, ad.off + 9, none⟩ = some (.int .u8 (rd b (9 : Nat))) := hcells.out 9 (by omega)
                have hn9 : ¬ 1 < rd b (9 : Nat) := fun hh => hA ⟨h9, hh⟩
                generalize rd b (9 : Nat) = y at hx9 hn9
                clear hA
                go_wp2_with (first | (go_at_call 52; (with_reducible refine (cut_calls _ _ _ _ HRr.out HC.out).mono ?_); intro e w2 hcut; unfold CutGives at hcut; rw [HL.out] at hcut; obtain ⟨A2, rfl, ⟨n2, rfl⟩, hC2⟩ := hcut; have HC2 := Aside0.mk hC2; clear hC2))
                go_ret2
                exact ⟨_, rfl, Kd.R_nil _ _ _ _ _, pw_below_drewN HB.out _⟩
              · clear hA
                go_wp2_with (first | (go_at_call 52; (with_reducible refine (cut_calls _ _ _ _ HRr.out HC.out).mono ?_); intro e w2 hcut; unfold CutGives at hcut; rw [HL.out] at hcut; obtain ⟨A2, rfl, ⟨n2, rfl⟩, hC2⟩ := hcut; have HC2 := Aside0.mk hC2; clear hC2))
                go_ret2
                exact ⟨_, rfl, Kd.R_nil _ _ _ _ _, pw_below_drewN HB.out _⟩
            · rw [if_neg hD] at h
              by_cases hlim : acc.length < 17592186044416
              case neg => rw [if_neg hlim] at h; cases h
              rw [if_pos hlim] at h
              have HLIM := Aside0.mk hlim
              have HD := Aside0.mk hD
              have HA := Aside0.mk hA
              have H := Aside0.mk h
              clear h hD hA hlim
              have hi9 : Aside0 (i ≤ 9) := ⟨by
                by_cases h9 : 9 < i + 1
                · by_cases e : i = 9
                  · omega
                  · exfalso
                    have := lastAt_before HL.out 9 (by omega)
                    refine HA.out ⟨h9, ?_⟩
                    have e : ((9 : Nat) : Int) = 9 := rfl
                    rw [e] at this
                    omega
                · omega⟩
              by_cases h9 : 9 < i + 1
              · have hx9 : wr.cell? ⟨ad.block, ad.off + 9, none⟩ = some (.int .u8 (rd b (9 : Nat))) := hcells.out 9 (by omega)
                have hn9 : ¬ 1 < rd b (9 : Nat) := fun hh => HA.out ⟨h9, hh⟩
                generalize rd b (9 : Nat) = y at hx9 hn9
                have hxi := hcells.out i hi
                have hni : (rd b (i : Nat) == 0) = false := beq_eq_false_iff_ne.2 fun hh => HD.out ⟨by omega, hh⟩
                generalize rd b (i : Nat) = z at hxi hni
                go_wp2_with (first | (go_at_call 52; (with_reducible refine (cut_calls _ _ _ _ HRr.out HC.out).mono ?_); intro e w2 hcut; unfold CutGives at hcut; rw [HL.out] at hcut; obtain ⟨A2, rfl, ⟨n2, rfl⟩, hC2⟩ := hcut; have HC2 := Aside0.mk hC2; clear hC2))
                go_loop [50, 10] (fun v n => ∃ k : Nat, k ≤ i + 1 ∧ v = .int .i64 k ∧ n = .int .u64 (digTo b k)) (fun v _ => i + 1 - (intOf v).toNat)
                case atStart => exact ⟨0, by omega, rfl, rfl⟩
                case round =>
                  obtain ⟨k, hk, rfl, rfl⟩ := hrel
                  have hi9' := hi9.out
                  by_cases hlt : k < i + 1
                  · have hxk := hcells.out k (by omega)
                    obtain ⟨x, hx⟩ : ∃ x, x = rd b (k : Nat) := ⟨_, rfl⟩
                    obtain ⟨m, hm⟩ : ∃ m, m = digTo b k := ⟨_, rfl⟩
                    have Hm : Aside0 (digTo b (k + 1) = Go.bits .or .u64 m (IntKind.u64.wrap (IntKind.u64.wrap (Go.bits .and .u8 x 127) * 2 ^ (7 * k)))) := ⟨by rw [hm, hx]; rfl⟩
                    rw [← hx] at hxk
                    rw [← hm]
                    clear hx hm
                    go_wp2_with fail
                    go_round
                    case rel => exact ⟨k + 1, by omega, by go_num, by rw [Hm.out]⟩
                    case measure => simp [intOf]; omega
                  · obtain ⟨m, hm⟩ : ∃ m, m = digTo b k := ⟨_, rfl⟩
                    have Hm : Aside0 (m = digTo b (i + 1)) := ⟨by rw [hm]; congr 1; omega⟩
                    rw [← hm]
                    clear hm
                    obtain ⟨x, hx⟩ : ∃ x, x = unzig m := ⟨_, rfl⟩
                    have HX := Aside0.mk hx
                    clear hx
                    have HB2 : Aside0 (Below w.heap.size w (wr.drewN n2)) := ⟨pw_below_drewN HB.out _⟩
                    go_wp2_with (first | ((with_reducible refine gate_builtin (b := .append) (xs := #[.tmp 64, .tmp 73]) rfl ?_); at_builtin; refine Kd.R_append (Kd.int .i64) (w0 := w) w.heap.size rfl (.tmp 64) (.tmp 73) 65 3 (.int .i64 0) 8 rfl Try.underlying65 info_int rfl (by decide) (by omega) u5 acc (unzig m) [.int .i64 (unzig m)] (fun _ => True) (fun _ => False) rfl rfl ?aP (fun _ hk => hk.elim) ?aF ?aO ?aB ?aS ?aL ?_; (case aP => exact rfl); (case aB => exact HB2.out); (case aF => exact (fun _ _ => trivial)); (case aO => exact Kd.R_drewN HO.out _); (case aS => exact below_size HB2.out); (case aL => have := HLIM.out; omega); intro v103 w7 ho hb hg hat; have HO7 := Aside0.mk ho; have HB7 := Aside0.mk hb; clear ho hb hg hat))
                    have hd1 : (b.drop (i + 1)).length = b.length - (i + 1) := List.length_drop
                    go_roundg k1
                    case measure => omega
                    case rel => exact ⟨A2, c - (i + 1), b.drop (i + 1), acc ++ [unzig m], by rw [hd1], by rw [Hm.out]; exact H, ⟨by rw [hd1]; have := HC.out; omega⟩, ⟨by rw [hd1]; exact HC2.out w HR.out⟩, HO7, HB7⟩
              · by_cases h1 : 1 < i + 1
                · have hxi := hcells.out i hi
                  have hni : (rd b (i : Nat) == 0) = false := beq_eq_false_iff_ne.2 fun hh => HD.out ⟨by omega, hh⟩
                  generalize rd b (i : Nat) = z at hxi hni
                  go_wp2_with (first | (go_at_call 52; (with_reducible refine (cut_calls _ _ _ _ HRr.out HC.out).mono ?_); intro e w2 hcut; unfold CutGives at hcut; rw [HL.out] at hcut; obtain ⟨A2, rfl, ⟨n2, rfl⟩, hC2⟩ := hcut; have HC2 := Aside0.mk hC2; clear hC2))
                  go_loop [50, 10] (fun v n => ∃ k : Nat, k ≤ i + 1 ∧ v = .int .i64 k ∧ n = .int .u64 (digTo b k)) (fun v _ => i + 1 - (intOf v).toNat)
                  case atStart => exact ⟨0, by omega, rfl, rfl⟩
                  case round =>
                    obtain ⟨k, hk, rfl, rfl⟩ := hrel
                    have hi9' := hi9.out
                    by_cases hlt : k < i + 1
                    · have hxk := hcells.out k (by omega)
                      obtain ⟨x, hx⟩ : ∃ x, x = rd b (k : Nat) := ⟨_, rfl⟩
                      obtain ⟨m, hm⟩ : ∃ m, m = digTo b k := ⟨_, rfl⟩
                      have Hm : Aside0 (digTo b (k + 1) = Go.bits .or .u64 m (IntKind.u64.wrap (IntKind.u64.wrap (Go.bits .and .u8 x 127) * 2 ^ (7 * k)))) := ⟨by rw [hm, hx]; rfl⟩
                      rw [← hx] at hxk
                      rw [← hm]
                      clear hx hm
                      go_wp2_with fail
                      go_round
                      case rel => exact ⟨k + 1, by omega, by go_num, by rw [Hm.out]⟩
                      case measure => simp [intOf]; omega
                    · obtain ⟨m, hm⟩ : ∃ m, m = digTo b k := ⟨_, rfl⟩
                      have Hm : Aside0 (m = digTo b (i + 1)) := ⟨by rw [hm]; congr 1; omega⟩
                      rw [← hm]
                      clear hm
                      obtain ⟨x, hx⟩ : ∃ x, x = unzig m := ⟨_, rfl⟩
                      have HX := Aside0.mk hx
                      clear hx
                      have HB2 : Aside0 (Below w.heap.size w (wr.drewN n2)) := ⟨pw_below_drewN HB.out _⟩
                      go_wp2_with (first | ((with_reducible refine gate_builtin (b := .append) (xs := #[.tmp 64, .tmp 73]) rfl ?_); at_builtin; refine Kd.R_append (Kd.int .i64) (w0 := w) w.heap.size rfl (.tmp 64) (.tmp 73) 65 3 (.int .i64 0) 8 rfl Try.underlying65 info_int rfl (by decide) (by omega) u5 acc (unzig m) [.int .i64 (unzig m)] (fun _ => True) (fun _ => False) rfl rfl ?aP (fun _ hk => hk.elim) ?aF ?aO ?aB ?aS ?aL ?_; (case aP => exact rfl); (case aB => exact HB2.out); (case aF => exact (fun _ _ => trivial)); (case aO => exact Kd.R_drewN HO.out _); (case aS => exact below_size HB2.out); (case aL => have := HLIM.out; omega); intro v103 w7 ho hb hg hat; have HO7 := Aside0.mk ho; have HB7 := Aside0.mk hb; clear ho hb hg hat))
                      have hd1 : (b.drop (i + 1)).length = b.length - (i + 1) := List.length_drop
                      go_roundg k1
                      case measure => omega
                      case rel => exact ⟨A2, c - (i + 1), b.drop (i + 1), acc ++ [unzig m], by rw [hd1], by rw [Hm.out]; exact H, ⟨by rw [hd1]; have := HC.out; omega⟩, ⟨by rw [hd1]; exact HC2.out w HR.out⟩, HO7, HB7⟩
                · go_wp2_with (first | (go_at_call 52; (with_reducible refine (cut_calls _ _ _ _ HRr.out HC.out).mono ?_); intro e w2 hcut; unfold CutGives at hcut; rw [HL.out] at hcut; obtain ⟨A2, rfl, ⟨n2, rfl⟩, hC2⟩ := hcut; have HC2 := Aside0.mk hC2; clear hC2))
                  go_loop [50, 10] (fun v n => ∃ k : Nat, k ≤ i + 1 ∧ v = .int .i64 k ∧ n = .int .u64 (digTo b k)) (fun v _ => i + 1 - (intOf v).toNat)
                  case atStart => exact ⟨0, by omega, rfl, rfl⟩
                  case round =>
                    obtain ⟨k, hk, rfl, rfl⟩ := hrel
                    have hi9' := hi9.out
                    by_cases hlt : k < i + 1
                    · have hxk := hcells.out k (by omega)
                      obtain ⟨x, hx⟩ : ∃ x, x = rd b (k : Nat) := ⟨_, rfl⟩
                      obtain ⟨m, hm⟩ : ∃ m, m = digTo b k := ⟨_, rfl⟩
                      have Hm : Aside0 (digTo b (k + 1) = Go.bits .or .u64 m (IntKind.u64.wrap (IntKind.u64.wrap (Go.bits .and .u8 x 127) * 2 ^ (7 * k)))) := ⟨by rw [hm, hx]; rfl⟩
                      rw [← hx] at hxk
                      rw [← hm]
                      clear hx hm
                      go_wp2_with fail
                      go_round
                      case rel => exact ⟨k + 1, by omega, by go_num, by rw [Hm.out]⟩
                      case measure => simp [intOf]; omega
                    · obtain ⟨m, hm⟩ : ∃ m, m = digTo b k := ⟨_, rfl⟩
                      have Hm : Aside0 (m = digTo b (i + 1)) := ⟨by rw [hm]; congr 1; omega⟩
                      rw [← hm]
                      clear hm
                      obtain ⟨x, hx⟩ : ∃ x, x = unzig m := ⟨_, rfl⟩
                      have HX := Aside0.mk hx
                      clear hx
                      have HB2 : Aside0 (Below w.heap.size w (wr.drewN n2)) := ⟨pw_below_drewN HB.out _⟩
                      go_wp2_with (first | ((with_reducible refine gate_builtin (b := .append) (xs := #[.tmp 64, .tmp 73]) rfl ?_); at_builtin; refine Kd.R_append (Kd.int .i64) (w0 := w) w.heap.size rfl (.tmp 64) (.tmp 73) 65 3 (.int .i64 0) 8 rfl Try.underlying65 info_int rfl (by decide) (by omega) u5 acc (unzig m) [.int .i64 (unzig m)] (fun _ => True) (fun _ => False) rfl rfl ?aP (fun _ hk => hk.elim) ?aF ?aO ?aB ?aS ?aL ?_; (case aP => exact rfl); (case aB => exact HB2.out); (case aF => exact (fun _ _ => trivial)); (case aO => exact Kd.R_drewN HO.out _); (case aS => exact below_size HB2.out); (case aL => have := HLIM.out; omega); intro v103 w7 ho hb hg hat; have HO7 := Aside0.mk ho; have HB7 := Aside0.mk hb; clear ho hb hg hat))
                      have hd1 : (b.drop (i + 1)).length = b.length - (i + 1) := List.length_drop
                      go_roundg k1
                      case measure => omega
                      case rel => exact ⟨A2, c - (i + 1), b.drop (i + 1), acc ++ [unzig m], by rw [hd1], by rw [Hm.out]; exact H, ⟨by rw [hd1]; have := HC.out; omega⟩, ⟨by rw [hd1]; exact HC2.out w HR.out⟩, HO7, HB7⟩
end Go.Proofs.YthiealhmcfdakaaH
end
section
set_option linter.unusedVariables false
set_option linter.unusedSimpArgs false
namespace Go.Proofs.YthiealhmcfdakaaH
open Go Go.RowKit Go.Proofs.YthiealhmcfdakaaW.PrintWords Go.Proofs.YthiealhmcfdakaaW.PrintLast Go.Proofs.YthiealhmcfdakaaW.PrintMore
def bytesOk (l : List Int) : Bool := l.all fun x => decide (0 ≤ x ∧ x ≤ 255)
theorem bytesOk_rd {l : List Int} (h : bytesOk l = true) (i : Nat) (hi : i < l.length) : 0 ≤ rd l i ∧ rd l i ≤ 255 := by
  unfold bytesOk at h
  rw [List.all_eq_true] at h
  have := h l[i] (List.getElem_mem hi)
  unfold rd
  rw [Int.toNat_natCast, List.getD_eq_getElem?_getD, List.getElem?_eq_getElem hi]
  simpa using this
def crcSum (l : List Int) : Int := Go.bits .xor .u32 4294967295 (crcFold 4294967295 l)
def fourOf (s : Int) : List Int := [s % 256, s / 256 % 256, s / 65536 % 256, s / 16777216 % 256]
def frameLen (l : List Int) : Nat := (256 * rd l 0 + rd l 1).toNat
def codec_Open.f (l0 : List Int) : Option (List Int × Int × Int) :=
  if bytesOk l0 = true then
    if l0.length < 2 then some ([], 0, 8)
    else if l0.length < frameLen l0 + 6 then some ([], 0, 8)
    else if (l0.drop (frameLen l0 + 2)).take 4 = fourOf (crcSum (l0.take (frameLen l0 + 2))) then some ((l0.take (frameLen l0 + 2)).drop 2, (frameLen l0 : Int) + 6, 0)
    else some ([], 0, 9)
  else none
theorem or_len (x y : Int) (h0 : 0 ≤ x) (h1 : x ≤ 255) (h2 : 0 ≤ y) (h3 : y ≤ 255) : Go.bits .or .i64 (x * 256) y = 256 * x + y := by
  have := bits_join .i64 63 (by decide) (fun n a b => by rw [show IntKind.i64.wrap n = n from by unfold IntKind.wrap; simp [IntKind.bits, IntKind.signed]; omega]) 8
  rw [this (x * 256) y (by omega) (by omega) (by omega) h2 (by omega) (by omega)]
  omega
theorem neq4 (w : World) (a0 a1 a2 a3 b0 b1 b2 b3 : Int) :
    (Op.equalIn 10000 57 (.agg #[.int .u8 a0, .int .u8 a1, .int .u8 a2, .int .u8 a3]) (.agg #[.int .u8 b0, .int .u8 b1, .int .u8 b2, .int .u8 b3])).run Try.prog w = .ok (a0 == b0 && (a1 == b1 && (a2 == b2 && a3 == b3))) w := by
  obtain ⟨i0, hi0, _, hsz, _⟩ := info_parts info_u8
  exact run_equal_arr4 Try.underlying57 hi0 Try.underlying5 (by kernel_rfl) a0 a1 a2 a3 b0 b1 b2 b3
theorem guard4 : Try.prog.eqGuardType Try.prog.depth 57 = false := by kernel_rfl
theorem size_u8 : (Try.prog.info? 5).map (·.size) = some 1 := by kernel_rfl
theorem nums_one (k : IntKind) (l : List Int) : ∀ v ∈ nums k l, v.oneCell' = true := by
  intro v hv
  unfold nums at hv
  obtain ⟨x, _, rfl⟩ := List.mem_map.1 hv
  rfl
theorem slice4 (G : Nat) (W : World) : (Instr.sliceAt 57 (.pointer (some ⟨G, 0, none⟩)) none none none).run Try.prog W = .ok (.slice (some ⟨G, 0, none⟩) 4 4) W := by
  obtain ⟨i0, hi0, _, hsz, _⟩ := info_parts info_u8
  simp [Instr.sliceAt, run_underlying Try.underlying57, Instr.sureAddr, Instr.sliceBounds, sizeOf, typeInfo, hi0, hsz, Addr.add, Result.andThen]
set_option maxHeartbeats 2000000 in
set_option maxRecDepth 100000 in
theorem codec_Open.calls (A0 : Option Addr) (c0 : Nat) (l0 : List Int) (r1 : List Int) (r2 r3 : Int) (w : World) (hr0 : Kd.C (Kd.int .u8) w A0 l0.length l0) (hc0 : l0.length ≤ c0) (h : codec_Open.f l0 = some (r1, r2, r3)) :
    Calls Try.prog 48 #[.slice A0 l0.length c0] w fun e w' => ∃ v0_ : Value, e = .returned (.tuple #[v0_, .int .i64 r2, .int .i64 r3]) ∧ Kd.R (Kd.int .u8) 5 w' w.heap.size (fun _ => True) v0_ r1 ∧ Below w.heap.size w w' := by
  have HR := Aside0.mk hr0
  have HC := Aside0.mk hc0
  clear hr0 hc0
  unfold codec_Open.f at h
  by_cases hbok : bytesOk l0 = true
  case neg => rw [if_neg hbok] at h; cases h
  rw [if_pos hbok] at h
  have HBO := Aside0.mk hbok
  clear hbok
  have hlen : l0.length ≤ 9223372036854775807 := HR.out.2.1
  by_cases h2 : l0.length < 2
  · rw [if_pos h2] at h
    obtain ⟨rfl, rfl, rfl⟩ : [] = r1 ∧ 0 = r2 ∧ 8 = r3 := by simpa using h
    clear h
    go_enter Try.func48, Try.ntmps48
    go_wp2_with fail
    go_ret3
    exact ⟨_, rfl, Kd.R_nil _ _ _ _ _, Below.refl _ _⟩
  · rw [if_neg h2] at h
    obtain ⟨hx00, hx01⟩ := bytesOk_rd HBO.out 0 (by omega)
    obtain ⟨hx10, hx11⟩ := bytesOk_rd HBO.out 1 (by omega)
    obtain ⟨ad, e, hc0⟩ := Kd.at_int HR.out 0 (by omega) (by omega)
    cases e
    obtain ⟨ad', e, hc1⟩ := Kd.at_int HR.out 1 (by omega) (by omega)
    cases e
    obtain ⟨N, hN⟩ : ∃ N, N = frameLen l0 := ⟨_, rfl⟩
    rw [← hN] at h
    have hN2 : (N : Int) = 256 * rd l0 0 + rd l0 1 := by rw [hN]; unfold frameLen; simp only [Int.ofNat_eq_natCast, Int.cast_ofNat_Int] at hx00 hx10; omega
    have hNb : N ≤ 65535 := by simp only [Int.ofNat_eq_natCast, Int.cast_ofNat_Int] at hx00 hx10 hx01 hx11; omega
    have hor := or_len _ _ hx00 hx01 hx10 hx11
    simp only [Int.ofNat_eq_natCast, Int.cast_ofNat_Int] at hor hx00 hx10 hx01 hx11
    rw [← hN2] at hor
    clear hN hN2
    generalize rd l0 0 = x0 at *
    generalize rd l0 1 = x1 at *
    have hc0' : w.cell? ad = some (.int .u8 x0) := by simpa [Addr.add] using hc0
    have hc1' : w.cell? ⟨ad.block, ad.off + 1, none⟩ = some (.int .u8 x1) := hc1
    clear hc0 hc1
    by_cases h6 : l0.length < N + 6
    · rw [if_pos h6] at h
      obtain ⟨rfl, rfl, rfl⟩ : [] = r1 ∧ 0 = r2 ∧ 8 = r3 := by simpa using h
      clear h
      have g1 : (1 : Int) < (l0.length : Int) := by omega
      have g0 : (0 : Int) < (l0.length : Int) := by omega
      go_enter Try.func48, Try.ntmps48
      go_wp2_with fail
      go_quiet (fail)
      go_wp2_with fail
      go_ret3
      exact ⟨_, rfl, Kd.R_nil _ _ _ _ _, pw_below_drewN (Below.refl _ _) _⟩
    · rw [if_neg h6] at h
      have g1 : (1 : Int) < (l0.length : Int) := by omega
      have g0 : (0 : Int) < (l0.length : Int) := by omega
      have H := Aside0.mk h
      clear h
      go_enter Try.func48, Try.ntmps48
      go_wp2_with fail
      go_quiet (fail)
      go_wp2_with fail
      obtain ⟨i0, hi0, _, hsz, _⟩ := info_parts info_u8
      obtain ⟨A2, hcut2, hC2, hc2⟩ := print_drop_of (P := Try.prog) (Value.int .u8) (0 : Int) 28 5 .i64 Try.underlying28 hi0 hsz (some ad) c0 l0 ((N : Int) + 2) (by omega) (by omega) HC.out
      have e3 : ((N : Int) + 2).toNat = N + 2 := by omega
      have e4 : (l0.drop (N + 2)).length = l0.length - (N + 2) := List.length_drop
      rw [e3] at hcut2 hC2
      rw [e4] at hcut2
      have HC2 := Aside0.mk hC2
      clear hC2 hc2 e3 e4
      clear hor hc0' hc1' hx00 hx01 hx10 hx11
      have HG := Aside0.mk (heap_alloc_new (w.drewN nq) (.cells #[.int .u8 0, .int .u8 0, .int .u8 0, .int .u8 0] 57))
      have HB1 := Aside0.mk (below_alloc (pw_below_drewN (Below.refl w.heap.size w) nq) (.cells #[.int .u8 0, .int .u8 0, .int .u8 0, .int .u8 0] 57))
      have eG : (w.drewN nq).heap.size = w.heap.size := rfl
      rw [eG] at HG
      generalize (w.drewN nq).alloc (.cells #[.int .u8 0, .int .u8 0, .int .u8 0, .int .u8 0] 57) = W1 at *
      clear eG
      have hsl4 := slice4 w.heap.size
      have hwr : IntKind.i64.wrap ((N : Int) + 2) = (N : Int) + 2 := IntWalk.i64_in _ (by omega)
      go_still_tail 5, (by kernel_rfl)
      clear hwr
      change wpList _ _ _ _ _ W1.drew
      have HG2 : Aside0 (W1.drew.heap[w.heap.size]? = some (.cells #[.int .u8 0, .int .u8 0, .int .u8 0, .int .u8 0] 57 (0, 0))) := HG
      have HB2 : Aside0 (Below w.heap.size w W1.drew) := ⟨below_drew HB1.out⟩
      generalize W1.drew = W2 at *
      clear HG HB1
      obtain ⟨F, hF⟩ : ∃ F, F = (l0.drop (N + 2)).take 4 := ⟨_, rfl⟩
      have hFl : F.length = 4 := by rw [hF, List.length_take, List.length_drop]; omega
      have HF := Aside0.mk hF
      have HFl := Aside0.mk hFl
      clear hF hFl
      have HC2F : Aside0 (0 < (nums .u8 F).length → ∃ ad, A2 = some ad ∧ ∀ j v, (nums .u8 F)[j]? = some v → W2.cell? (ad.add j) = some v) := ⟨fun hp => by
        have hrd := HC2.out w (Kd.reads_of_C (d := (0 : Int)) HR.out)
        obtain ⟨ad2, e, hc⟩ := hrd.2.2 (by rw [List.length_drop]; omega)
        refine ⟨ad2, e, fun j v hv => ?_⟩
        have hj : j < 4 := by
          have := (List.getElem?_eq_some_iff.1 hv).1
          rw [nums_length, HFl.out] at this
          exact this
        have h3 := hc j (by rw [List.length_drop]; omega)
        have h4 : v = .int .u8 ((l0.drop (N + 2)).getD j 0) := by
          unfold nums at hv
          rw [List.getElem?_map, HF.out, List.getElem?_take, if_pos hj, List.getElem?_eq_getElem (by rw [List.length_drop]; omega)] at hv
          rw [List.getD_eq_getElem?_getD, List.getElem?_eq_getElem (by rw [List.length_drop]; omega)]
          simpa using hv.symm
        rw [h4]
        exact (HB2.out.cell (World.block_lt_of_cell? w _ h3)).trans h3⟩
      have hmin : (nums .u8 F).length = Nat.min (l0.length - (N + 2)) 4 := by
        rw [nums_length, HFl.out]
        show 4 = min (l0.length - (N + 2)) 4
        omega
      refine wpList_copy_splice rfl (.tmp 26) (.tmp 30) 28 28 rfl 5 Try.underlying28 size_u8 (some ⟨w.heap.size, 0, none⟩) A2 4 4 (l0.length - (N + 2)) (c0 - (N + 2)) rfl rfl w.heap.size 0 [.int .u8 0, .int .u8 0, .int .u8 0, .int .u8 0] 57 HG2.out (nums .u8 F) hmin (fun hp => ⟨rfl, HC2F.out hp⟩) (by rw [nums_length, HFl.out]; decide) (nums_one _ _) w.heap.size w HB2.out (Nat.le_refl _) ?_
      clear hmin
      intro W3 hg3 hb3
      have HG3 : Aside0 (W3.heap[w.heap.size]? = some (.cells (nums .u8 F).toArray 57 (0, 0))) := ⟨by rw [hg3.out]; unfold splice; rw [nums_length, HFl.out]; simp⟩
      have HB3 := Aside0.mk hb3
      clear hg3 hb3 HG2 HB2
      obtain ⟨T, hT⟩ : ∃ T, T = l0.take (N + 2) := ⟨_, rfl⟩
      obtain ⟨M, hM⟩ : ∃ M, M = (l0.take (N + 2)).drop 2 := ⟨_, rfl⟩
      have hTl : T.length = N + 2 := by rw [hT, List.length_take]; omega
      have hMl : M.length = N := by rw [hM, List.length_drop, List.length_take]; omega
      obtain ⟨hcut3, hC3, hc3⟩ := print_take_of (P := Try.prog) (Value.int .u8) (0 : Int) 28 5 .i64 Try.underlying28 hi0 hsz (some ad) c0 l0 ((N : Int) + 2) (by omega) (by omega) HC.out
      obtain ⟨A4, hcut4, hC4, hc4⟩ := print_mid_of (P := Try.prog) (Value.int .u8) (0 : Int) 28 5 .i64 .i64 Try.underlying28 hi0 hsz (some ad) c0 l0 2 ((N : Int) + 2) (by omega) (by omega) (by omega) HC.out
      have e3 : ((N : Int) + 2).toNat = N + 2 := by omega
      have e2 : (2 : Int).toNat = 2 := rfl
      rw [e3, ← hT] at hcut3 hC3 hc3
      rw [e3, e2, ← hM] at hcut4 hC4 hc4
      have HT := Aside0.mk hT
      have HM := Aside0.mk hM
      have HTl := Aside0.mk hTl
      have HMl := Aside0.mk hMl
      have HC3 : Aside0 (Kd.C (Kd.int .u8) w (some ad) T.length T) := Aside0.mk (Kd.C_of_reads (d := (0 : Int)) (h1 := fun _ => rfl) (hC3 w (Kd.reads_of_C (d := (0 : Int)) HR.out)))
      have HC4 : Aside0 (Kd.C (Kd.int .u8) w A4 M.length M) := Aside0.mk (Kd.C_of_reads (d := (0 : Int)) (h1 := fun _ => rfl) (hC4 w (Kd.reads_of_C (d := (0 : Int)) HR.out)))
      have Hc3 := Aside0.mk hc3
      have Hc4 := Aside0.mk hc4
      clear hT hM hTl hMl hC3 hC4 hc3 hc4 e2 e3 hcut2 hsl4 hi0 hsz
      obtain ⟨f0, f1, f2, f3, hf⟩ : ∃ f0 f1 f2 f3, F = [f0, f1, f2, f3] := by
        have := HFl.out
        match F, this with
        | [a, b, c, d], _ => exact ⟨a, b, c, d, rfl⟩
      rw [hf] at HG3
      have HF2 := Aside0.mk hf
      clear hf
      obtain ⟨s, hs⟩ : ∃ s, s = crcSum T := ⟨_, rfl⟩
      have HS : Aside0 (codec_Sum.f T = some s) := ⟨by rw [hs]; rfl⟩
      have HS2 := Aside0.mk hs
      clear hs
      have HG3' : Aside0 (W3.heap[w.heap.size]? = some (.cells #[.int .u8 f0, .int .u8 f1, .int .u8 f2, .int .u8 f3] 57 (0, 0))) := HG3
      clear HG3
      have hgd := guard4
      have hnat : N + 2 ≤ l0.length := by omega
      by_cases hq : F = fourOf s
      · have hbq : (f0 == s % 256 && (f1 == s / 256 % 256 && (f2 == s / 65536 % 256 && f3 == s / 16777216 % 256))) = true := by
          have := HF2.out.symm.trans hq
          unfold fourOf at this
          simp only [List.cons.injEq, and_true] at this
          obtain ⟨a, b, c, d⟩ := this
          simp [← a, ← b, ← c, ← d]
        have hneq := fun wx => (neq4 wx f0 f1 f2 f3 (s % 256) (s / 256 % 256) (s / 65536 % 256) (s / 16777216 % 256)).trans (by rw [hbq])
        have HQ := Aside0.mk hq
        clear hbq hq
        go_wp2_with (first
          | (go_at_call 40; (with_reducible refine (codec_Sum.calls _ _ T s _ (Kd.C_below HC3.out HB3.out) Hc3.out HS.out).mono ?_); rintro e W4 ⟨rfl, hb4⟩; have HG4 := Aside0.mk ((hb4.block w.heap.size (blk_lt HG3'.out)).trans HG3'.out); have HB4 := Aside0.mk (below_then HB3.out HB3.out.size hb4); clear hb4)
          | (refine wpList_load_row rfl 57 _ rfl w.heap.size rfl 57 _ _ _ HG4.out Try.underlying57 rfl (by kernel_rfl) ?_)
          | (go_at_call 66; (with_reducible refine (bytes_Clone.calls _ _ M M _ (Kd.C_below HC4.out HB4.out) Hc4.out (by have := HMl.out; unfold bytes_Clone.f; rw [if_pos (by omega)])).mono ?_); rintro e W5 ⟨v5, rfl, ho5, hb5⟩; have HO5 := Aside0.mk ho5; have HB5 := Aside0.mk hb5; clear ho5 hb5))
        have h := H.out
        rw [← HF.out, ← HT.out, ← HS2.out, if_pos HQ.out] at h
        obtain ⟨rfl, rfl, rfl⟩ : (List.take (N + 2) l0).drop 2 = r1 ∧ (N : Int) + 6 = r2 ∧ 0 = r3 := by simpa [HT.out] using h
        go_ret3
        exact ⟨_, rfl, by rw [← HM.out]; exact Kd.R_lower HO5.out HB4.out.size, below_then HB4.out HB4.out.size HB5.out⟩
      · have hbq : (f0 == s % 256 && (f1 == s / 256 % 256 && (f2 == s / 65536 % 256 && f3 == s / 16777216 % 256))) = false := by
          rw [Bool.eq_false_iff]
          intro hh
          simp only [Bool.and_eq_true, beq_iff_eq] at hh
          obtain ⟨a, b, c, d⟩ := hh
          exact hq (HF2.out.trans (by unfold fourOf; rw [a, b, c, d]))
        have hneq := fun wx => (neq4 wx f0 f1 f2 f3 (s % 256) (s / 256 % 256) (s / 65536 % 256) (s / 16777216 % 256)).trans (by rw [hbq])
        have HQ := Aside0.mk hq
        clear hbq hq
        go_wp2_with (first
          | (go_at_call 40; (with_reducible refine (codec_Sum.calls _ _ T s _ (Kd.C_below HC3.out HB3.out) Hc3.out HS.out).mono ?_); rintro e W4 ⟨rfl, hb4⟩; have HG4 := Aside0.mk ((hb4.block w.heap.size (blk_lt HG3'.out)).trans HG3'.out); have HB4 := Aside0.mk (below_then HB3.out HB3.out.size hb4); clear hb4)
          | (refine wpList_load_row rfl 57 _ rfl w.heap.size rfl 57 _ _ _ HG4.out Try.underlying57 rfl (by kernel_rfl) ?_))
        have h := H.out
        rw [← HF.out, ← HT.out, ← HS2.out, if_neg HQ.out] at h
        obtain ⟨rfl, rfl, rfl⟩ : [] = r1 ∧ 0 = r2 ∧ 9 = r3 := by simpa using h
        go_ret3
        exact ⟨_, rfl, Kd.R_nil _ _ _ _ _, HB4.out⟩
end Go.Proofs.YthiealhmcfdakaaH
end
section
namespace Go.Proofs.Ythiealhmcfdakaa.E
open Go.RowKit Go.Proofs.YthiealhmcfdakaaH Go.Proofs.YthiealhmcfdakaaW.PrintWords Go.Proofs.YthiealhmcfdakaaW.PrintLast Go.Proofs.YthiealhmcfdakaaW.PrintMore
attribute [local go_sem] max2_int min2_int max_two min_two max_three min_three max_four min_four   -- for this text's walks alone
set_option linter.unusedVariables false
set_option linter.unusedSimpArgs false
def errW : Option Int → Value
  | none => .nilIface
  | some c => .iface 0 (.int .i64 c)
theorem errW_none : errW none = .nilIface := rfl
theorem errW_some (c : Int) : errW (some c) = .iface 0 (.int .i64 c) := rfl
theorem info3 : (Try.prog.info? 3).map (fun i => (i.zero, i.size, i.bytes)) = some (some (.int .i64 0), 1, 8) := by kernel_rfl
theorem info5 : (Try.prog.info? 5).map (fun i => (i.zero, i.size, i.bytes)) = some (some (.int .u8 0), 1, 1) := by kernel_rfl
theorem info28 : (Try.prog.info? 28).map (fun i => (i.zero, i.size, i.bytes)) = some (some (.slice none 0 0), 1, 24) := by kernel_rfl
def rd_L2 (xs : List (List Int)) (i : Int) : (List Int) := xs.getD i.toNat ([] : List Int)
theorem at_L2 {w : World} {A : Option Addr} {n : Nat} {xs : List (List Int)} (h : Kd.C (Kd.slice 5 (Kd.int .u8)) w A n xs) (i : Int) (h0 : 0 ≤ i) (h1 : i < n) : ∃ ad A0 c0, A = some ad ∧ w.cell? (ad.add i.toNat) = some (.slice A0 (rd_L2 xs i).length c0) ∧ (rd_L2 xs i).length ≤ c0 ∧ (Kd.int .u8).C w A0 (rd_L2 xs i).length (rd_L2 xs i) := by
  obtain ⟨ad, c, e, _, hK, hc0⟩ := Kd.C_get h ([] : List Int) i h0 h1
  have hc : ∀ j u, c[j]? = some u → w.cell? (ad.add (i.toNat * 1 + j)) = some u := hc0
  obtain ⟨A0, c0, rfl, l0, g0⟩ := hK
  exact ⟨ad, A0, c0, e, by have hq := hc 0 _ rfl; rwa [Nat.mul_one, Nat.add_zero] at hq, l0, g0⟩
def rd_L3 (xs : List (List Int)) (i : Int) : (List Int) := xs.getD i.toNat ([] : List Int)
theorem at_L3 {w : World} {A : Option Addr} {n : Nat} {xs : List (List Int)} (h : Kd.C (Kd.slice 3 (Kd.int .i64)) w A n xs) (i : Int) (h0 : 0 ≤ i) (h1 : i < n) : ∃ ad A0 c0, A = some ad ∧ w.cell? (ad.add i.toNat) = some (.slice A0 (rd_L3 xs i).length c0) ∧ (rd_L3 xs i).length ≤ c0 ∧ (Kd.int .i64).C w A0 (rd_L3 xs i).length (rd_L3 xs i) := by
  obtain ⟨ad, c, e, _, hK, hc0⟩ := Kd.C_get h ([] : List Int) i h0 h1
  have hc : ∀ j u, c[j]? = some u → w.cell? (ad.add (i.toNat * 1 + j)) = some u := hc0
  obtain ⟨A0, c0, rfl, l0, g0⟩ := hK
  exact ⟨ad, A0, c0, e, by have hq := hc 0 _ rfl; rwa [Nat.mul_one, Nat.add_zero] at hq, l0, g0⟩
def rd_L4 (xs : List (List (List Int))) (i : Int) : (List (List Int)) := xs.getD i.toNat ([] : List (List Int))
theorem at_L4 {w : World} {A : Option Addr} {n : Nat} {xs : List (List (List Int))} (h : Kd.C (Kd.slice 28 (Kd.slice 5 (Kd.int .u8))) w A n xs) (i : Int) (h0 : 0 ≤ i) (h1 : i < n) : ∃ ad A0 c0, A = some ad ∧ w.cell? (ad.add i.toNat) = some (.slice A0 (rd_L4 xs i).length c0) ∧ (rd_L4 xs i).length ≤ c0 ∧ (Kd.slice 5 (Kd.int .u8)).C w A0 (rd_L4 xs i).length (rd_L4 xs i) := by
  obtain ⟨ad, c, e, _, hK, hc0⟩ := Kd.C_get h ([] : List (List Int)) i h0 h1
  have hc : ∀ j u, c[j]? = some u → w.cell? (ad.add (i.toNat * 1 + j)) = some u := hc0
  obtain ⟨A0, c0, rfl, l0, g0⟩ := hK
  exact ⟨ad, A0, c0, e, by have hq := hc 0 _ rfl; rwa [Nat.mul_one, Nat.add_zero] at hq, l0, g0⟩
structure S23 where
  f0 : Int
  f1 : Int
  f2 : Int
def z23 : S23 := ⟨(0 : Int), (0 : Int), (0 : Int)⟩
def k23 : Kd S23 := Kd.iso (Kd.pair (Kd.int .i64) (Kd.pair (Kd.int .i64) (Kd.int .i64))) (fun x : S23 => (x.f0, x.f1, x.f2))
theorem k23_open {w : World} {x : S23} {cs : List Value} (h : k23.K w x cs) : cs = [.int .i64 x.f0, .int .i64 x.f1, .int .i64 x.f2] := by
  obtain ⟨_, _, rfl, rfl, ⟨_, _, rfl, rfl, rfl⟩⟩ := h
  exact rfl
theorem k23_openM {w : World} {base : Nat} {ok : Nat → Prop} {x : S23} {cs : List Value} (h : k23.M w base ok x cs) : cs = [.int .i64 x.f0, .int .i64 x.f1, .int .i64 x.f2] := by
  obtain ⟨_, _, rfl, rfl, ⟨_, _, rfl, rfl, rfl⟩⟩ := h
  exact rfl
theorem k23_mk (w : World) (x : S23)  : k23.K w x [.int .i64 x.f0, .int .i64 x.f1, .int .i64 x.f2] := ⟨[.int .i64 x.f0], [.int .i64 x.f1, .int .i64 x.f2], rfl, rfl, ⟨[.int .i64 x.f1], [.int .i64 x.f2], rfl, rfl, rfl⟩⟩
theorem k23_mkM (w : World) (base : Nat) (ok : Nat → Prop) (x : S23)  : k23.M w base ok x [.int .i64 x.f0, .int .i64 x.f1, .int .i64 x.f2] := ⟨[.int .i64 x.f0], [.int .i64 x.f1, .int .i64 x.f2], rfl, rfl, ⟨[.int .i64 x.f1], [.int .i64 x.f2], rfl, rfl, rfl⟩⟩
def rd_T23 (xs : List S23) (i : Int) : S23 := xs.getD i.toNat z23
theorem at_T23 {w : World} {A : Option Addr} {n : Nat} {xs : List S23} (h : Kd.C k23 w A n xs) (i : Int) (h0 : 0 ≤ i) (h1 : i < n) : ∃ ad , A = some ad ∧ w.cell? (ad.add (i.toNat * 3)) = some (.int .i64 (rd_T23 xs i).f0) ∧ w.cell? ⟨(ad.add (i.toNat * 3)).block, (ad.add (i.toNat * 3)).off + 1, none⟩ = some (.int .i64 (rd_T23 xs i).f1) ∧ w.cell? ⟨(ad.add (i.toNat * 3)).block, (ad.add (i.toNat * 3)).off + 2, none⟩ = some (.int .i64 (rd_T23 xs i).f2) := by
  obtain ⟨ad, c, e, _, hK, hc0⟩ := Kd.C_get h z23 i h0 h1
  have hc : ∀ j u, c[j]? = some u → w.cell? (ad.add (i.toNat * 3 + j)) = some u := hc0
  obtain rfl := k23_open hK
  exact ⟨ad, e, hc 0 _ rfl, by rw [← add_field _ _ 1 (by omega)]; exact hc 1 _ rfl, by rw [← add_field _ _ 2 (by omega)]; exact hc 2 _ rfl⟩
structure S49 where
  f0 : S23
  f1 : Int
  f2 : Int
  f3 : Int
  f4 : Int
  f5 : (List Int)
def z49 : S49 := ⟨z23, (0 : Int), (0 : Int), (0 : Int), (0 : Int), ([] : List Int)⟩
def k49 : Kd S49 := Kd.iso (Kd.pair k23 (Kd.pair (Kd.int .i64) (Kd.pair (Kd.int .i64) (Kd.pair (Kd.int .i64) (Kd.pair (Kd.int .i64) (Kd.slice 5 (Kd.int .u8))))))) (fun x : S49 => (x.f0, x.f1, x.f2, x.f3, x.f4, x.f5))
theorem k49_open {w : World} {x : S49} {cs : List Value} (h : k49.K w x cs) : ∃ A7 c7, cs = [.int .i64 x.f0.f0, .int .i64 x.f0.f1, .int .i64 x.f0.f2, .int .i64 x.f1, .int .i64 x.f2, .int .i64 x.f3, .int .i64 x.f4, .slice A7 x.f5.length c7] ∧ x.f5.length ≤ c7 ∧ (Kd.int .u8).C w A7 x.f5.length x.f5 := by
  obtain ⟨_, _, rfl, s0, ⟨_, _, rfl, rfl, ⟨_, _, rfl, rfl, ⟨_, _, rfl, rfl, ⟨_, _, rfl, rfl, ⟨A7, c7, rfl, l7, g7⟩⟩⟩⟩⟩⟩ := h
  obtain rfl := k23_open s0
  exact ⟨A7, c7, rfl, l7, g7⟩
theorem k49_openM {w : World} {base : Nat} {ok : Nat → Prop} {x : S49} {cs : List Value} (h : k49.M w base ok x cs) : ∃ v7, cs = [.int .i64 x.f0.f0, .int .i64 x.f0.f1, .int .i64 x.f0.f2, .int .i64 x.f1, .int .i64 x.f2, .int .i64 x.f3, .int .i64 x.f4, v7] ∧ (Kd.int .u8).R 5 w base ok v7 x.f5 := by
  obtain ⟨_, _, rfl, s0, ⟨_, _, rfl, rfl, ⟨_, _, rfl, rfl, ⟨_, _, rfl, rfl, ⟨_, _, rfl, rfl, ⟨v7, rfl, g7⟩⟩⟩⟩⟩⟩ := h
  obtain rfl := k23_openM s0
  exact ⟨v7, rfl, g7⟩
theorem k49_mk (w : World) (x : S49) {A7 : Option Addr} {c7 : Nat} (l7 : x.f5.length ≤ c7) (g7 : (Kd.int .u8).C w A7 x.f5.length x.f5) : k49.K w x [.int .i64 x.f0.f0, .int .i64 x.f0.f1, .int .i64 x.f0.f2, .int .i64 x.f1, .int .i64 x.f2, .int .i64 x.f3, .int .i64 x.f4, .slice A7 x.f5.length c7] := ⟨[.int .i64 x.f0.f0, .int .i64 x.f0.f1, .int .i64 x.f0.f2], [.int .i64 x.f1, .int .i64 x.f2, .int .i64 x.f3, .int .i64 x.f4, .slice A7 x.f5.length c7], rfl, (k23_mk w x.f0 ), ⟨[.int .i64 x.f1], [.int .i64 x.f2, .int .i64 x.f3, .int .i64 x.f4, .slice A7 x.f5.length c7], rfl, rfl, ⟨[.int .i64 x.f2], [.int .i64 x.f3, .int .i64 x.f4, .slice A7 x.f5.length c7], rfl, rfl, ⟨[.int .i64 x.f3], [.int .i64 x.f4, .slice A7 x.f5.length c7], rfl, rfl, ⟨[.int .i64 x.f4], [.slice A7 x.f5.length c7], rfl, rfl, ⟨A7, c7, rfl, l7, g7⟩⟩⟩⟩⟩⟩
theorem k49_mkM (w : World) (base : Nat) (ok : Nat → Prop) (x : S49) {v7 : Value} (g7 : (Kd.int .u8).R 5 w base ok v7 x.f5) : k49.M w base ok x [.int .i64 x.f0.f0, .int .i64 x.f0.f1, .int .i64 x.f0.f2, .int .i64 x.f1, .int .i64 x.f2, .int .i64 x.f3, .int .i64 x.f4, v7] := ⟨[.int .i64 x.f0.f0, .int .i64 x.f0.f1, .int .i64 x.f0.f2], [.int .i64 x.f1, .int .i64 x.f2, .int .i64 x.f3, .int .i64 x.f4, v7], rfl, (k23_mkM w base ok x.f0 ), ⟨[.int .i64 x.f1], [.int .i64 x.f2, .int .i64 x.f3, .int .i64 x.f4, v7], rfl, rfl, ⟨[.int .i64 x.f2], [.int .i64 x.f3, .int .i64 x.f4, v7], rfl, rfl, ⟨[.int .i64 x.f3], [.int .i64 x.f4, v7], rfl, rfl, ⟨[.int .i64 x.f4], [v7], rfl, rfl, ⟨v7, rfl, g7⟩⟩⟩⟩⟩⟩
def rd_T49 (xs : List S49) (i : Int) : S49 := xs.getD i.toNat z49
theorem at_T49 {w : World} {A : Option Addr} {n : Nat} {xs : List S49} (h : Kd.C k49 w A n xs) (i : Int) (h0 : 0 ≤ i) (h1 : i < n) : ∃ ad A7 c7, A = some ad ∧ w.cell? (ad.add (i.toNat * 8)) = some (.int .i64 (rd_T49 xs i).f0.f0) ∧ w.cell? ⟨(ad.add (i.toNat * 8)).block, (ad.add (i.toNat * 8)).off + 1, none⟩ = some (.int .i64 (rd_T49 xs i).f0.f1) ∧ w.cell? ⟨(ad.add (i.toNat * 8)).block, (ad.add (i.toNat * 8)).off + 2, none⟩ = some (.int .i64 (rd_T49 xs i).f0.f2) ∧ w.cell? ⟨(ad.add (i.toNat * 8)).block, (ad.add (i.toNat * 8)).off + 3, none⟩ = some (.int .i64 (rd_T49 xs i).f1) ∧ w.cell? ⟨(ad.add (i.toNat * 8)).block, (ad.add (i.toNat * 8)).off + 4, none⟩ = some (.int .i64 (rd_T49 xs i).f2) ∧ w.cell? ⟨(ad.add (i.toNat * 8)).block, (ad.add (i.toNat * 8)).off + 5, none⟩ = some (.int .i64 (rd_T49 xs i).f3) ∧ w.cell? ⟨(ad.add (i.toNat * 8)).block, (ad.add (i.toNat * 8)).off + 6, none⟩ = some (.int .i64 (rd_T49 xs i).f4) ∧ w.cell? ⟨(ad.add (i.toNat * 8)).block, (ad.add (i.toNat * 8)).off + 7, none⟩ = some (.slice A7 (rd_T49 xs i).f5.length c7) ∧ (rd_T49 xs i).f5.length ≤ c7 ∧ (Kd.int .u8).C w A7 (rd_T49 xs i).f5.length (rd_T49 xs i).f5 := by
  obtain ⟨ad, c, e, _, hK, hc0⟩ := Kd.C_get h z49 i h0 h1
  have hc : ∀ j u, c[j]? = some u → w.cell? (ad.add (i.toNat * 8 + j)) = some u := hc0
  obtain ⟨A7, c7, rfl, l7, g7⟩ := k49_open hK
  exact ⟨ad, A7, c7, e, hc 0 _ rfl, by rw [← add_field _ _ 1 (by omega)]; exact hc 1 _ rfl, by rw [← add_field _ _ 2 (by omega)]; exact hc 2 _ rfl, by rw [← add_field _ _ 3 (by omega)]; exact hc 3 _ rfl, by rw [← add_field _ _ 4 (by omega)]; exact hc 4 _ rfl, by rw [← add_field _ _ 5 (by omega)]; exact hc 5 _ rfl, by rw [← add_field _ _ 6 (by omega)]; exact hc 6 _ rfl, by rw [← add_field _ _ 7 (by omega)]; exact hc 7 _ rfl, l7, g7⟩
structure S25 where
  f0 : Int
  f1 : Int
def z25 : S25 := ⟨(0 : Int), (0 : Int)⟩
def k25 : Kd S25 := Kd.iso (Kd.pair (Kd.int .i64) (Kd.int .i64)) (fun x : S25 => (x.f0, x.f1))
theorem k25_open {w : World} {x : S25} {cs : List Value} (h : k25.K w x cs) : cs = [.int .i64 x.f0, .int .i64 x.f1] := by
  obtain ⟨_, _, rfl, rfl, rfl⟩ := h
  exact rfl
theorem k25_openM {w : World} {base : Nat} {ok : Nat → Prop} {x : S25} {cs : List Value} (h : k25.M w base ok x cs) : cs = [.int .i64 x.f0, .int .i64 x.f1] := by
  obtain ⟨_, _, rfl, rfl, rfl⟩ := h
  exact rfl
theorem k25_mk (w : World) (x : S25)  : k25.K w x [.int .i64 x.f0, .int .i64 x.f1] := ⟨[.int .i64 x.f0], [.int .i64 x.f1], rfl, rfl, rfl⟩
theorem k25_mkM (w : World) (base : Nat) (ok : Nat → Prop) (x : S25)  : k25.M w base ok x [.int .i64 x.f0, .int .i64 x.f1] := ⟨[.int .i64 x.f0], [.int .i64 x.f1], rfl, rfl, rfl⟩
def rd_T25 (xs : List S25) (i : Int) : S25 := xs.getD i.toNat z25
theorem at_T25 {w : World} {A : Option Addr} {n : Nat} {xs : List S25} (h : Kd.C k25 w A n xs) (i : Int) (h0 : 0 ≤ i) (h1 : i < n) : ∃ ad , A = some ad ∧ w.cell? (ad.add (i.toNat * 2)) = some (.int .i64 (rd_T25 xs i).f0) ∧ w.cell? ⟨(ad.add (i.toNat * 2)).block, (ad.add (i.toNat * 2)).off + 1, none⟩ = some (.int .i64 (rd_T25 xs i).f1) := by
  obtain ⟨ad, c, e, _, hK, hc0⟩ := Kd.C_get h z25 i h0 h1
  have hc : ∀ j u, c[j]? = some u → w.cell? (ad.add (i.toNat * 2 + j)) = some u := hc0
  obtain rfl := k25_open hK
  exact ⟨ad, e, hc 0 _ rfl, by rw [← add_field _ _ 1 (by omega)]; exact hc 1 _ rfl⟩
structure S27 where
  f0 : S25
  f1 : S25
def z27 : S27 := ⟨z25, z25⟩
def k27 : Kd S27 := Kd.iso (Kd.pair k25 k25) (fun x : S27 => (x.f0, x.f1))
theorem k27_open {w : World} {x : S27} {cs : List Value} (h : k27.K w x cs) : cs = [.int .i64 x.f0.f0, .int .i64 x.f0.f1, .int .i64 x.f1.f0, .int .i64 x.f1.f1] := by
  obtain ⟨_, _, rfl, s0, s2⟩ := h
  obtain rfl := k25_open s0
  obtain rfl := k25_open s2
  exact rfl
theorem k27_openM {w : World} {base : Nat} {ok : Nat → Prop} {x : S27} {cs : List Value} (h : k27.M w base ok x cs) : cs = [.int .i64 x.f0.f0, .int .i64 x.f0.f1, .int .i64 x.f1.f0, .int .i64 x.f1.f1] := by
  obtain ⟨_, _, rfl, s0, s2⟩ := h
  obtain rfl := k25_openM s0
  obtain rfl := k25_openM s2
  exact rfl
theorem k27_mk (w : World) (x : S27)  : k27.K w x [.int .i64 x.f0.f0, .int .i64 x.f0.f1, .int .i64 x.f1.f0, .int .i64 x.f1.f1] := ⟨[.int .i64 x.f0.f0, .int .i64 x.f0.f1], [.int .i64 x.f1.f0, .int .i64 x.f1.f1], rfl, (k25_mk w x.f0 ), (k25_mk w x.f1 )⟩
theorem k27_mkM (w : World) (base : Nat) (ok : Nat → Prop) (x : S27)  : k27.M w base ok x [.int .i64 x.f0.f0, .int .i64 x.f0.f1, .int .i64 x.f1.f0, .int .i64 x.f1.f1] := ⟨[.int .i64 x.f0.f0, .int .i64 x.f0.f1], [.int .i64 x.f1.f0, .int .i64 x.f1.f1], rfl, (k25_mkM w base ok x.f0 ), (k25_mkM w base ok x.f1 )⟩
def rd_T27 (xs : List S27) (i : Int) : S27 := xs.getD i.toNat z27
theorem at_T27 {w : World} {A : Option Addr} {n : Nat} {xs : List S27} (h : Kd.C k27 w A n xs) (i : Int) (h0 : 0 ≤ i) (h1 : i < n) : ∃ ad , A = some ad ∧ w.cell? (ad.add (i.toNat * 4)) = some (.int .i64 (rd_T27 xs i).f0.f0) ∧ w.cell? ⟨(ad.add (i.toNat * 4)).block, (ad.add (i.toNat * 4)).off + 1, none⟩ = some (.int .i64 (rd_T27 xs i).f0.f1) ∧ w.cell? ⟨(ad.add (i.toNat * 4)).block, (ad.add (i.toNat * 4)).off + 2, none⟩ = some (.int .i64 (rd_T27 xs i).f1.f0) ∧ w.cell? ⟨(ad.add (i.toNat * 4)).block, (ad.add (i.toNat * 4)).off + 3, none⟩ = some (.int .i64 (rd_T27 xs i).f1.f1) := by
  obtain ⟨ad, c, e, _, hK, hc0⟩ := Kd.C_get h z27 i h0 h1
  have hc : ∀ j u, c[j]? = some u → w.cell? (ad.add (i.toNat * 4 + j)) = some u := hc0
  obtain rfl := k27_open hK
  exact ⟨ad, e, hc 0 _ rfl, by rw [← add_field _ _ 1 (by omega)]; exact hc 1 _ rfl, by rw [← add_field _ _ 2 (by omega)]; exact hc 2 _ rfl, by rw [← add_field _ _ 3 (by omega)]; exact hc 3 _ rfl⟩
structure S30 where
  f0 : S23
  f1 : Int
  f2 : Int
  f3 : S27
  f4 : Int
  f5 : Bool
  f6 : (List Int)
def z30 : S30 := ⟨z23, (0 : Int), (0 : Int), z27, (0 : Int), false, ([] : List Int)⟩
def k30 : Kd S30 := Kd.iso (Kd.pair k23 (Kd.pair (Kd.int .i64) (Kd.pair (Kd.int .i64) (Kd.pair k27 (Kd.pair (Kd.int .i64) (Kd.pair Kd.bool (Kd.slice 5 (Kd.int .u8)))))))) (fun x : S30 => (x.f0, x.f1, x.f2, x.f3, x.f4, x.f5, x.f6))
theorem k30_open {w : World} {x : S30} {cs : List Value} (h : k30.K w x cs) : ∃ A11 c11, cs = [.int .i64 x.f0.f0, .int .i64 x.f0.f1, .int .i64 x.f0.f2, .int .i64 x.f1, .int .i64 x.f2, .int .i64 x.f3.f0.f0, .int .i64 x.f3.f0.f1, .int .i64 x.f3.f1.f0, .int .i64 x.f3.f1.f1, .int .i64 x.f4, .bool x.f5, .slice A11 x.f6.length c11] ∧ x.f6.length ≤ c11 ∧ (Kd.int .u8).C w A11 x.f6.length x.f6 := by
  obtain ⟨_, _, rfl, s0, ⟨_, _, rfl, rfl, ⟨_, _, rfl, rfl, ⟨_, _, rfl, s5, ⟨_, _, rfl, rfl, ⟨_, _, rfl, rfl, ⟨A11, c11, rfl, l11, g11⟩⟩⟩⟩⟩⟩⟩ := h
  obtain rfl := k23_open s0
  obtain rfl := k27_open s5
  exact ⟨A11, c11, rfl, l11, g11⟩
theorem k30_openM {w : World} {base : Nat} {ok : Nat → Prop} {x : S30} {cs : List Value} (h : k30.M w base ok x cs) : ∃ v11, cs = [.int .i64 x.f0.f0, .int .i64 x.f0.f1, .int .i64 x.f0.f2, .int .i64 x.f1, .int .i64 x.f2, .int .i64 x.f3.f0.f0, .int .i64 x.f3.f0.f1, .int .i64 x.f3.f1.f0, .int .i64 x.f3.f1.f1, .int .i64 x.f4, .bool x.f5, v11] ∧ (Kd.int .u8).R 5 w base ok v11 x.f6 := by
  obtain ⟨_, _, rfl, s0, ⟨_, _, rfl, rfl, ⟨_, _, rfl, rfl, ⟨_, _, rfl, s5, ⟨_, _, rfl, rfl, ⟨_, _, rfl, rfl, ⟨v11, rfl, g11⟩⟩⟩⟩⟩⟩⟩ := h
  obtain rfl := k23_openM s0
  obtain rfl := k27_openM s5
  exact ⟨v11, rfl, g11⟩
theorem k30_mk (w : World) (x : S30) {A11 : Option Addr} {c11 : Nat} (l11 : x.f6.length ≤ c11) (g11 : (Kd.int .u8).C w A11 x.f6.length x.f6) : k30.K w x [.int .i64 x.f0.f0, .int .i64 x.f0.f1, .int .i64 x.f0.f2, .int .i64 x.f1, .int .i64 x.f2, .int .i64 x.f3.f0.f0, .int .i64 x.f3.f0.f1, .int .i64 x.f3.f1.f0, .int .i64 x.f3.f1.f1, .int .i64 x.f4, .bool x.f5, .slice A11 x.f6.length c11] := ⟨[.int .i64 x.f0.f0, .int .i64 x.f0.f1, .int .i64 x.f0.f2], [.int .i64 x.f1, .int .i64 x.f2, .int .i64 x.f3.f0.f0, .int .i64 x.f3.f0.f1, .int .i64 x.f3.f1.f0, .int .i64 x.f3.f1.f1, .int .i64 x.f4, .bool x.f5, .slice A11 x.f6.length c11], rfl, (k23_mk w x.f0 ), ⟨[.int .i64 x.f1], [.int .i64 x.f2, .int .i64 x.f3.f0.f0, .int .i64 x.f3.f0.f1, .int .i64 x.f3.f1.f0, .int .i64 x.f3.f1.f1, .int .i64 x.f4, .bool x.f5, .slice A11 x.f6.length c11], rfl, rfl, ⟨[.int .i64 x.f2], [.int .i64 x.f3.f0.f0, .int .i64 x.f3.f0.f1, .int .i64 x.f3.f1.f0, .int .i64 x.f3.f1.f1, .int .i64 x.f4, .bool x.f5, .slice A11 x.f6.length c11], rfl, rfl, ⟨[.int .i64 x.f3.f0.f0, .int .i64 x.f3.f0.f1, .int .i64 x.f3.f1.f0, .int .i64 x.f3.f1.f1], [.int .i64 x.f4, .bool x.f5, .slice A11 x.f6.length c11], rfl, (k27_mk w x.f3 ), ⟨[.int .i64 x.f4], [.bool x.f5, .slice A11 x.f6.length c11], rfl, rfl, ⟨[.bool x.f5], [.slice A11 x.f6.length c11], rfl, rfl, ⟨A11, c11, rfl, l11, g11⟩⟩⟩⟩⟩⟩⟩
theorem k30_mkM (w : World) (base : Nat) (ok : Nat → Prop) (x : S30) {v11 : Value} (g11 : (Kd.int .u8).R 5 w base ok v11 x.f6) : k30.M w base ok x [.int .i64 x.f0.f0, .int .i64 x.f0.f1, .int .i64 x.f0.f2, .int .i64 x.f1, .int .i64 x.f2, .int .i64 x.f3.f0.f0, .int .i64 x.f3.f0.f1, .int .i64 x.f3.f1.f0, .int .i64 x.f3.f1.f1, .int .i64 x.f4, .bool x.f5, v11] := ⟨[.int .i64 x.f0.f0, .int .i64 x.f0.f1, .int .i64 x.f0.f2], [.int .i64 x.f1, .int .i64 x.f2, .int .i64 x.f3.f0.f0, .int .i64 x.f3.f0.f1, .int .i64 x.f3.f1.f0, .int .i64 x.f3.f1.f1, .int .i64 x.f4, .bool x.f5, v11], rfl, (k23_mkM w base ok x.f0 ), ⟨[.int .i64 x.f1], [.int .i64 x.f2, .int .i64 x.f3.f0.f0, .int .i64 x.f3.f0.f1, .int .i64 x.f3.f1.f0, .int .i64 x.f3.f1.f1, .int .i64 x.f4, .bool x.f5, v11], rfl, rfl, ⟨[.int .i64 x.f2], [.int .i64 x.f3.f0.f0, .int .i64 x.f3.f0.f1, .int .i64 x.f3.f1.f0, .int .i64 x.f3.f1.f1, .int .i64 x.f4, .bool x.f5, v11], rfl, rfl, ⟨[.int .i64 x.f3.f0.f0, .int .i64 x.f3.f0.f1, .int .i64 x.f3.f1.f0, .int .i64 x.f3.f1.f1], [.int .i64 x.f4, .bool x.f5, v11], rfl, (k27_mkM w base ok x.f3 ), ⟨[.int .i64 x.f4], [.bool x.f5, v11], rfl, rfl, ⟨[.bool x.f5], [v11], rfl, rfl, ⟨v11, rfl, g11⟩⟩⟩⟩⟩⟩⟩
def rd_T30 (xs : List S30) (i : Int) : S30 := xs.getD i.toNat z30
theorem at_T30 {w : World} {A : Option Addr} {n : Nat} {xs : List S30} (h : Kd.C k30 w A n xs) (i : Int) (h0 : 0 ≤ i) (h1 : i < n) : ∃ ad A11 c11, A = some ad ∧ w.cell? (ad.add (i.toNat * 12)) = some (.int .i64 (rd_T30 xs i).f0.f0) ∧ w.cell? ⟨(ad.add (i.toNat * 12)).block, (ad.add (i.toNat * 12)).off + 1, none⟩ = some (.int .i64 (rd_T30 xs i).f0.f1) ∧ w.cell? ⟨(ad.add (i.toNat * 12)).block, (ad.add (i.toNat * 12)).off + 2, none⟩ = some (.int .i64 (rd_T30 xs i).f0.f2) ∧ w.cell? ⟨(ad.add (i.toNat * 12)).block, (ad.add (i.toNat * 12)).off + 3, none⟩ = some (.int .i64 (rd_T30 xs i).f1) ∧ w.cell? ⟨(ad.add (i.toNat * 12)).block, (ad.add (i.toNat * 12)).off + 4, none⟩ = some (.int .i64 (rd_T30 xs i).f2) ∧ w.cell? ⟨(ad.add (i.toNat * 12)).block, (ad.add (i.toNat * 12)).off + 5, none⟩ = some (.int .i64 (rd_T30 xs i).f3.f0.f0) ∧ w.cell? ⟨(ad.add (i.toNat * 12)).block, (ad.add (i.toNat * 12)).off + 6, none⟩ = some (.int .i64 (rd_T30 xs i).f3.f0.f1) ∧ w.cell? ⟨(ad.add (i.toNat * 12)).block, (ad.add (i.toNat * 12)).off + 7, none⟩ = some (.int .i64 (rd_T30 xs i).f3.f1.f0) ∧ w.cell? ⟨(ad.add (i.toNat * 12)).block, (ad.add (i.toNat * 12)).off + 8, none⟩ = some (.int .i64 (rd_T30 xs i).f3.f1.f1) ∧ w.cell? ⟨(ad.add (i.toNat * 12)).block, (ad.add (i.toNat * 12)).off + 9, none⟩ = some (.int .i64 (rd_T30 xs i).f4) ∧ w.cell? ⟨(ad.add (i.toNat * 12)).block, (ad.add (i.toNat * 12)).off + 10, none⟩ = some (.bool (rd_T30 xs i).f5) ∧ w.cell? ⟨(ad.add (i.toNat * 12)).block, (ad.add (i.toNat * 12)).off + 11, none⟩ = some (.slice A11 (rd_T30 xs i).f6.length c11) ∧ (rd_T30 xs i).f6.length ≤ c11 ∧ (Kd.int .u8).C w A11 (rd_T30 xs i).f6.length (rd_T30 xs i).f6 := by
  obtain ⟨ad, c, e, _, hK, hc0⟩ := Kd.C_get h z30 i h0 h1
  have hc : ∀ j u, c[j]? = some u → w.cell? (ad.add (i.toNat * 12 + j)) = some u := hc0
  obtain ⟨A11, c11, rfl, l11, g11⟩ := k30_open hK
  exact ⟨ad, A11, c11, e, hc 0 _ rfl, by rw [← add_field _ _ 1 (by omega)]; exact hc 1 _ rfl, by rw [← add_field _ _ 2 (by omega)]; exact hc 2 _ rfl, by rw [← add_field _ _ 3 (by omega)]; exact hc 3 _ rfl, by rw [← add_field _ _ 4 (by omega)]; exact hc 4 _ rfl, by rw [← add_field _ _ 5 (by omega)]; exact hc 5 _ rfl, by rw [← add_field _ _ 6 (by omega)]; exact hc 6 _ rfl, by rw [← add_field _ _ 7 (by omega)]; exact hc 7 _ rfl, by rw [← add_field _ _ 8 (by omega)]; exact hc 8 _ rfl, by rw [← add_field _ _ 9 (by omega)]; exact hc 9 _ rfl, by rw [← add_field _ _ 10 (by omega)]; exact hc 10 _ rfl, by rw [← add_field _ _ 11 (by omega)]; exact hc 11 _ rfl, l11, g11⟩
end Go.Proofs.Ythiealhmcfdakaa.E
end
section
namespace Go.Proofs.Ythiealhmcfdakaa.E
open Go.RowKit Go.Proofs.YthiealhmcfdakaaH Go.Proofs.YthiealhmcfdakaaW.PrintWords Go.Proofs.YthiealhmcfdakaaW.PrintLast Go.Proofs.YthiealhmcfdakaaW.PrintMore
attribute [local go_sem] max2_int min2_int max_two min_two max_three min_three max_four min_four   -- for this text's walks alone
set_option linter.unusedVariables false
set_option linter.unusedSimpArgs false
theorem eqA25 (d : Nat) (w : World) (x0 y0 : Int) (x1 y1 : Int) :
    (Op.equalIn (d + 2) 25 (.agg #[.int .i64 x0, .int .i64 x1]) (.agg #[.int .i64 y0, .int .i64 y1])).run Try.prog w = .ok (x0 == y0 && (x1 == y1)) w := by
  refine eqA_of Try.underlying25 (by kernel_rfl) ?_
  refine eqf_cons (by rfl) (by go_simp; rfl) (by go_simp; rfl) (by go_simp) ?_
  exact eqf_last (by rfl) (by go_simp; rfl) (by go_simp; rfl) (by go_simp)
end Go.Proofs.Ythiealhmcfdakaa.E
end
section
namespace Go.Proofs.Ythiealhmcfdakaa.E
open Go.RowKit Go.Proofs.YthiealhmcfdakaaH Go.Proofs.YthiealhmcfdakaaW.PrintWords Go.Proofs.YthiealhmcfdakaaW.PrintLast Go.Proofs.YthiealhmcfdakaaW.PrintMore
attribute [local go_sem] max2_int min2_int max_two min_two max_three min_three max_four min_four   -- for this text's walks alone
set_option linter.unusedVariables false
set_option linter.unusedSimpArgs false
attribute [local go_sem high] eqA25
def number_Valid.f (a0_0 : Int) (a0_1 : Int) (a0_2 : Int) : Option (Bool) := if (mn (mn a0_0 a0_1) a0_2) ≥ 1 then (if a0_0 ≤ 26 then (if a0_1 ≤ 10 then (some (decide (a0_2 ≤ 99))) else (some false)) else (some false)) else (some false)
set_option maxHeartbeats 8000000 in
set_option maxRecDepth 100000 in
theorem number_Valid.calls (a0_0 : Int) (a0_1 : Int) (a0_2 : Int) (r : Bool) (w : World) (h : number_Valid.f a0_0 a0_1 a0_2 = some r) :
    Calls Try.prog 33 #[.agg #[.int .i64 a0_0, .int .i64 a0_1, .int .i64 a0_2]] w fun e w' => e = .returned (.bool r) ∧ Below w.heap.size w w' := by
  have hu23 := Try.underlying23
  have HB := Aside0.mk (Below.refl w.heap.size w)
  have H : (if (mn (mn a0_0 a0_1) a0_2) ≥ 1 then (if a0_0 ≤ 26 then (if a0_1 ≤ 10 then (some (decide (a0_2 ≤ 99))) else (some false)) else (some false)) else (some false)) = some r := h
  clear h
  obtain ⟨ji2, hji2⟩ : ∃ j_ : Int, (mn a0_0 a0_1) = j_ := ⟨_, rfl⟩
  replace H : (if (mn (ji2) a0_2) ≥ 1 then (if a0_0 ≤ 26 then (if a0_1 ≤ 10 then (some (decide (a0_2 ≤ 99))) else (some false)) else (some false)) else (some false)) = some r := by first | (rw [hji2] at H; exact H) | (simp only [hji2] at H ⊢; exact H)
  have hji2_ : (if a0_1 < a0_0 then a0_1 else a0_0) = ji2 := hji2
  obtain ⟨ji3, hji3⟩ : ∃ j_ : Int, (mn (ji2) a0_2) = j_ := ⟨_, rfl⟩
  replace H : (if (ji3) ≥ 1 then (if a0_0 ≤ 26 then (if a0_1 ≤ 10 then (some (decide (a0_2 ≤ 99))) else (some false)) else (some false)) else (some false)) = some r := by first | (rw [hji3] at H; exact H) | (simp only [hji3] at H ⊢; exact H)
  have hji3_ : (if a0_2 < (ji2) then a0_2 else (ji2)) = ji3 := hji3
  by_cases c4 : (ji3) ≥ 1
  · rw [if_pos c4] at H
    have c4b0 : decide (1 ≤ (ji3)) = true := decide_eq_true c4
    clear c4
    by_cases c5 : a0_0 ≤ 26
    · rw [if_pos c5] at H
      have c5b0 : decide (a0_0 ≤ 26) = true := decide_eq_true c5
      clear c5
      by_cases c6 : a0_1 ≤ 10
      · rw [if_pos c6] at H
        have c6b0 : decide (a0_1 ≤ 10) = true := decide_eq_true c6
        clear c6
        obtain rfl := Option.some.inj H
        go_enter Try.func33, Try.ntmps33
        go_wp2_with (first | ((with_reducible refine gate_dst (N := 1) rfl ?_); refine box_event ?hg (N := 1) ?hd (cs := #[.int .i64 a0_0, .int .i64 a0_1, .int .i64 a0_2]) (t := 23) ?hr ?_; (case hd => rfl); (case hg => rfl); (case hr => first | (go_simp; done) | (go_simp; rfl)); intro gb101 hg w7 hbox hb; have n0_ := Aside0.mk (below_step (by repeat (first | (with_reducible first | exact HB.out | apply below_alloc | apply pw_below_drewN | apply below_drew1) | exact HB.out)) hb); have n1_ := Aside0.mk (hbox); have n2_ := Aside0.mk ((by rw [hg]; exact (below_size (by repeat (first | (with_reducible first | exact HB.out | apply below_alloc | apply pw_below_drewN | apply below_drew1) | exact HB.out))) : w.heap.size ≤ gb101)); have n3_ := Aside0.mk ((by rw [hg]; exact (below_size (by repeat (first | (with_reducible first | exact HB.out | apply below_alloc | apply pw_below_drewN | apply below_drew1) | exact HB.out))) : w.heap.size ≤ gb101)); clear HB; have HB := n0_; have BK101 := n1_; have GW101 := n2_; have GE101 := n3_; clear n0_ n1_ n2_ n3_; clear hb hbox hg; have hcz8_0 : w7.cell? ⟨gb101, 0, none⟩ = some (.int .i64 a0_0) := (blk_cell BK101.out 0).trans rfl; have hcz8_1 : w7.cell? ⟨gb101, 1, none⟩ = some (.int .i64 a0_1) := (blk_cell BK101.out 1).trans rfl; have hcz8_2 : w7.cell? ⟨gb101, 2, none⟩ = some (.int .i64 a0_2) := (blk_cell BK101.out 2).trans rfl; have hfz8_0 := blk_frozen BK101.out 0; have hfz8_1 := blk_frozen BK101.out 1; have hfz8_2 := blk_frozen BK101.out 2))
        go_ret
        exact ⟨by first | rfl | (simp [errW_none, errW_some] <;> rfl) | (simp only [← hji2, ← hji3]; first | rfl | (simp [errW_none, errW_some] <;> rfl)) | (simp [*, errW_none, errW_some] <;> rfl), by repeat (first | (with_reducible first | exact HB.out | apply below_alloc | apply pw_below_drewN | apply below_drew1 | refine below_set ?_ GE101.out) | exact HB.out)⟩
      · rw [if_neg c6] at H
        have c6b0 : decide (a0_1 ≤ 10) = false := decide_eq_false c6
        clear c6
        obtain rfl := Option.some.inj H
        go_enter Try.func33, Try.ntmps33
        go_wp2_with (first | ((with_reducible refine gate_dst (N := 1) rfl ?_); refine box_event ?hg (N := 1) ?hd (cs := #[.int .i64 a0_0, .int .i64 a0_1, .int .i64 a0_2]) (t := 23) ?hr ?_; (case hd => rfl); (case hg => rfl); (case hr => first | (go_simp; done) | (go_simp; rfl)); intro gb101 hg w9 hbox hb; have n0_ := Aside0.mk (below_step (by repeat (first | (with_reducible first | exact HB.out | apply below_alloc | apply pw_below_drewN | apply below_drew1) | exact HB.out)) hb); have n1_ := Aside0.mk (hbox); have n2_ := Aside0.mk ((by rw [hg]; exact (below_size (by repeat (first | (with_reducible first | exact HB.out | apply below_alloc | apply pw_below_drewN | apply below_drew1) | exact HB.out))) : w.heap.size ≤ gb101)); have n3_ := Aside0.mk ((by rw [hg]; exact (below_size (by repeat (first | (with_reducible first | exact HB.out | apply below_alloc | apply pw_below_drewN | apply below_drew1) | exact HB.out))) : w.heap.size ≤ gb101)); clear HB; have HB := n0_; have BK101 := n1_; have GW101 := n2_; have GE101 := n3_; clear n0_ n1_ n2_ n3_; clear hb hbox hg; have hcz10_0 : w9.cell? ⟨gb101, 0, none⟩ = some (.int .i64 a0_0) := (blk_cell BK101.out 0).trans rfl; have hcz10_1 : w9.cell? ⟨gb101, 1, none⟩ = some (.int .i64 a0_1) := (blk_cell BK101.out 1).trans rfl; have hcz10_2 : w9.cell? ⟨gb101, 2, none⟩ = some (.int .i64 a0_2) := (blk_cell BK101.out 2).trans rfl; have hfz10_0 := blk_frozen BK101.out 0; have hfz10_1 := blk_frozen BK101.out 1; have hfz10_2 := blk_frozen BK101.out 2))
        go_ret
        exact ⟨by first | rfl | (simp [errW_none, errW_some] <;> rfl) | (simp only [← hji2, ← hji3]; first | rfl | (simp [errW_none, errW_some] <;> rfl)) | (simp [*, errW_none, errW_some] <;> rfl), by repeat (first | (with_reducible first | exact HB.out | apply below_alloc | apply pw_below_drewN | apply below_drew1 | refine below_set ?_ GE101.out) | exact HB.out)⟩
    · rw [if_neg c5] at H
      have c5b0 : decide (a0_0 ≤ 26) = false := decide_eq_false c5
      clear c5
      obtain rfl := Option.some.inj H
      go_enter Try.func33, Try.ntmps33
      go_wp2_with (first | ((with_reducible refine gate_dst (N := 1) rfl ?_); refine box_event ?hg (N := 1) ?hd (cs := #[.int .i64 a0_0, .int .i64 a0_1, .int .i64 a0_2]) (t := 23) ?hr ?_; (case hd => rfl); (case hg => rfl); (case hr => first | (go_simp; done) | (go_simp; rfl)); intro gb101 hg w11 hbox hb; have n0_ := Aside0.mk (below_step (by repeat (first | (with_reducible first | exact HB.out | apply below_alloc | apply pw_below_drewN | apply below_drew1) | exact HB.out)) hb); have n1_ := Aside0.mk (hbox); have n2_ := Aside0.mk ((by rw [hg]; exact (below_size (by repeat (first | (with_reducible first | exact HB.out | apply below_alloc | apply pw_below_drewN | apply below_drew1) | exact HB.out))) : w.heap.size ≤ gb101)); have n3_ := Aside0.mk ((by rw [hg]; exact (below_size (by repeat (first | (with_reducible first | exact HB.out | apply below_alloc | apply pw_below_drewN | apply below_drew1) | exact HB.out))) : w.heap.size ≤ gb101)); clear HB; have HB := n0_; have BK101 := n1_; have GW101 := n2_; have GE101 := n3_; clear n0_ n1_ n2_ n3_; clear hb hbox hg; have hcz12_0 : w11.cell? ⟨gb101, 0, none⟩ = some (.int .i64 a0_0) := (blk_cell BK101.out 0).trans rfl; have hcz12_1 : w11.cell? ⟨gb101, 1, none⟩ = some (.int .i64 a0_1) := (blk_cell BK101.out 1).trans rfl; have hcz12_2 : w11.cell? ⟨gb101, 2, none⟩ = some (.int .i64 a0_2) := (blk_cell BK101.out 2).trans rfl; have hfz12_0 := blk_frozen BK101.out 0; have hfz12_1 := blk_frozen BK101.out 1; have hfz12_2 := blk_frozen BK101.out 2))
      go_ret
      exact ⟨by first | rfl | (simp [errW_none, errW_some] <;> rfl) | (simp only [← hji2, ← hji3]; first | rfl | (simp [errW_none, errW_some] <;> rfl)) | (simp [*, errW_none, errW_some] <;> rfl), by repeat (first | (with_reducible first | exact HB.out | apply below_alloc | apply pw_below_drewN | apply below_drew1 | refine below_set ?_ GE101.out) | exact HB.out)⟩
  · rw [if_neg c4] at H
    have c4b0 : decide (1 ≤ (ji3)) = false := decide_eq_false c4
    clear c4
    obtain rfl := Option.some.inj H
    go_enter Try.func33, Try.ntmps33
    go_wp2_with (first | ((with_reducible refine gate_dst (N := 1) rfl ?_); refine box_event ?hg (N := 1) ?hd (cs := #[.int .i64 a0_0, .int .i64 a0_1, .int .i64 a0_2]) (t := 23) ?hr ?_; (case hd => rfl); (case hg => rfl); (case hr => first | (go_simp; done) | (go_simp; rfl)); intro gb101 hg w13 hbox hb; have n0_ := Aside0.mk (below_step (by repeat (first | (with_reducible first | exact HB.out | apply below_alloc | apply pw_below_drewN | apply below_drew1) | exact HB.out)) hb); have n1_ := Aside0.mk (hbox); have n2_ := Aside0.mk ((by rw [hg]; exact (below_size (by repeat (first | (with_reducible first | exact HB.out | apply below_alloc | apply pw_below_drewN | apply below_drew1) | exact HB.out))) : w.heap.size ≤ gb101)); have n3_ := Aside0.mk ((by rw [hg]; exact (below_size (by repeat (first | (with_reducible first | exact HB.out | apply below_alloc | apply pw_below_drewN | apply below_drew1) | exact HB.out))) : w.heap.size ≤ gb101)); clear HB; have HB := n0_; have BK101 := n1_; have GW101 := n2_; have GE101 := n3_; clear n0_ n1_ n2_ n3_; clear hb hbox hg; have hcz14_0 : w13.cell? ⟨gb101, 0, none⟩ = some (.int .i64 a0_0) := (blk_cell BK101.out 0).trans rfl; have hcz14_1 : w13.cell? ⟨gb101, 1, none⟩ = some (.int .i64 a0_1) := (blk_cell BK101.out 1).trans rfl; have hcz14_2 : w13.cell? ⟨gb101, 2, none⟩ = some (.int .i64 a0_2) := (blk_cell BK101.out 2).trans rfl; have hfz14_0 := blk_frozen BK101.out 0; have hfz14_1 := blk_frozen BK101.out 1; have hfz14_2 := blk_frozen BK101.out 2))
    go_ret
    exact ⟨by first | rfl | (simp [errW_none, errW_some] <;> rfl) | (simp only [← hji2, ← hji3]; first | rfl | (simp [errW_none, errW_some] <;> rfl)) | (simp [*, errW_none, errW_some] <;> rfl), by repeat (first | (with_reducible first | exact HB.out | apply below_alloc | apply pw_below_drewN | apply below_drew1 | refine below_set ?_ GE101.out) | exact HB.out)⟩
def piece_length.f (a0 : Int) (a1 : Int) : Option (Int) := if a1 = 0 then (none) else (some (wrap64 (Int.tdiv (wrap64 ((wrap64 (a0 + a1)) - 1)) a1)))
set_option maxHeartbeats 8000000 in
set_option maxRecDepth 100000 in
theorem piece_length.calls (a0 : Int) (a1 : Int) (r : Int) (w : World) (h : piece_length.f a0 a1 = some r) :
    Calls Try.prog 36 #[.int .i64 a0, .int .i64 a1] w fun e w' => e = .returned (.int .i64 r) ∧ Drawn0 w w' := by
  have H : (if a1 = 0 then (none) else (some (wrap64 (Int.tdiv (wrap64 ((wrap64 (a0 + a1)) - 1)) a1)))) = some r := h
  clear h
  by_cases c3 : a1 = 0
  · rw [if_pos c3] at H
    exact absurd H (by simp)
  · rw [if_neg c3] at H
    have c3b0 : (a1 == 0) = false := beq_eq_false_iff_ne.mpr c3
    have c3b1 : (a1 != 0) = true := bne_iff_ne.mpr c3
    obtain rfl := Option.some.inj H
    go_enter Try.func36, Try.ntmps36
    go_wp2
    go_ret
    exact ⟨by first | rfl | (simp; done) | (simp [*]; done), by repeat (first | exact Drawn0.refl _ | apply Drawn0.step)⟩
def piece_isTime.f (a0 : Int) : Option (Bool) := if a0 ≥ 0 then (some (decide (a0 ≤ 10000000))) else (some false)
set_option maxHeartbeats 8000000 in
set_option maxRecDepth 100000 in
theorem piece_isTime.calls (a0 : Int) (r : Bool) (w : World) (h : piece_isTime.f a0 = some r) :
    Calls Try.prog 35 #[.int .i64 a0] w fun e w' => e = .returned (.bool r) ∧ Drawn0 w w' := by
  have H : (if a0 ≥ 0 then (some (decide (a0 ≤ 10000000))) else (some false)) = some r := h
  clear h
  by_cases c2 : a0 ≥ 0
  · rw [if_pos c2] at H
    have c2b0 : decide (0 ≤ a0) = true := decide_eq_true c2
    clear c2
    obtain rfl := Option.some.inj H
    go_enter Try.func35, Try.ntmps35
    go_wp2
    go_ret
    exact ⟨by first | rfl | (simp; done) | (simp [*]; done), by repeat (first | exact Drawn0.refl _ | apply Drawn0.step)⟩
  · rw [if_neg c2] at H
    have c2b0 : decide (0 ≤ a0) = false := decide_eq_false c2
    clear c2
    obtain rfl := Option.some.inj H
    go_enter Try.func35, Try.ntmps35
    go_wp2
    go_ret
    exact ⟨by first | rfl | (simp; done) | (simp [*]; done), by repeat (first | exact Drawn0.refl _ | apply Drawn0.step)⟩
def piece_isTime.Pure : Prop := ∀ (a0 : Int), (Lit.int .i64 a0).wf = true → piece_isTime.f a0 = some true
theorem piece_isTime.walk (P : piece_isTime.Pure) (a0 : Int) (w : World) (w0 : (Lit.int .i64 a0).wf = true) :
    Calls Try.prog 35 #[.int .i64 a0] w fun e w' => e = .returned (.bool true) ∧ Below w.heap.size w w' := by
  have h := P a0 w0
  refine (piece_isTime.calls a0 true w h).mono ?_
  rintro e w' ⟨rfl, hd⟩
  exact ⟨rfl, hd.below⟩
def span_Valid.f (a0_0 : Int) (a0_1 : Int) : Option (Bool) := if (-1000000000000) ≤ a0_0 then (if a0_0 ≤ a0_1 then (some (decide (a0_1 ≤ 1000000000000))) else (some false)) else (some false)
set_option maxHeartbeats 8000000 in
set_option maxRecDepth 100000 in
theorem span_Valid.calls (a0_0 : Int) (a0_1 : Int) (r : Bool) (w : World) (h : span_Valid.f a0_0 a0_1 = some r) :
    Calls Try.prog 72 #[.agg #[.int .i64 a0_0, .int .i64 a0_1]] w fun e w' => e = .returned (.bool r) ∧ Below w.heap.size w w' := by
  have hu25 := Try.underlying25
  have HB := Aside0.mk (Below.refl w.heap.size w)
  have H : (if (-1000000000000) ≤ a0_0 then (if a0_0 ≤ a0_1 then (some (decide (a0_1 ≤ 1000000000000))) else (some false)) else (some false)) = some r := h
  clear h
  by_cases c2 : (-1000000000000) ≤ a0_0
  · rw [if_pos c2] at H
    have c2b0 : decide ((-1000000000000) ≤ a0_0) = true := decide_eq_true c2
    clear c2
    by_cases c3 : a0_0 ≤ a0_1
    · rw [if_pos c3] at H
      have c3b0 : decide (a0_0 ≤ a0_1) = true := decide_eq_true c3
      clear c3
      obtain rfl := Option.some.inj H
      go_enter Try.func72, Try.ntmps72
      go_wp2_with (first | ((with_reducible refine gate_dst (N := 1) rfl ?_); refine box_event ?hg (N := 1) ?hd (cs := #[.int .i64 a0_0, .int .i64 a0_1]) (t := 25) ?hr ?_; (case hd => rfl); (case hg => rfl); (case hr => first | (go_simp; done) | (go_simp; rfl)); intro gb102 hg w4 hbox hb; have n0_ := Aside0.mk (below_step (by repeat (first | (with_reducible first | exact HB.out | apply below_alloc | apply pw_below_drewN | apply below_drew1) | exact HB.out)) hb); have n1_ := Aside0.mk (hbox); have n2_ := Aside0.mk ((by rw [hg]; exact (below_size (by repeat (first | (with_reducible first | exact HB.out | apply below_alloc | apply pw_below_drewN | apply below_drew1) | exact HB.out))) : w.heap.size ≤ gb102)); have n3_ := Aside0.mk ((by rw [hg]; exact (below_size (by repeat (first | (with_reducible first | exact HB.out | apply below_alloc | apply pw_below_drewN | apply below_drew1) | exact HB.out))) : w.heap.size ≤ gb102)); clear HB; have HB := n0_; have BK102 := n1_; have GW102 := n2_; have GE102 := n3_; clear n0_ n1_ n2_ n3_; clear hb hbox hg; have hcz5_0 : w4.cell? ⟨gb102, 0, none⟩ = some (.int .i64 a0_0) := (blk_cell BK102.out 0).trans rfl; have hcz5_1 : w4.cell? ⟨gb102, 1, none⟩ = some (.int .i64 a0_1) := (blk_cell BK102.out 1).trans rfl; have hfz5_0 := blk_frozen BK102.out 0; have hfz5_1 := blk_frozen BK102.out 1))
      go_ret
      exact ⟨by first | rfl | (simp [errW_none, errW_some] <;> rfl) | (simp [*, errW_none, errW_some] <;> rfl), by repeat (first | (with_reducible first | exact HB.out | apply below_alloc | apply pw_below_drewN | apply below_drew1 | refine below_set ?_ GE102.out) | exact HB.out)⟩
    · rw [if_neg c3] at H
      have c3b0 : decide (a0_0 ≤ a0_1) = false := decide_eq_false c3
      clear c3
      obtain rfl := Option.some.inj H
      go_enter Try.func72, Try.ntmps72
      go_wp2_with (first | ((with_reducible refine gate_dst (N := 1) rfl ?_); refine box_event ?hg (N := 1) ?hd (cs := #[.int .i64 a0_0, .int .i64 a0_1]) (t := 25) ?hr ?_; (case hd => rfl); (case hg => rfl); (case hr => first | (go_simp; done) | (go_simp; rfl)); intro gb102 hg w6 hbox hb; have n0_ := Aside0.mk (below_step (by repeat (first | (with_reducible first | exact HB.out | apply below_alloc | apply pw_below_drewN | apply below_drew1) | exact HB.out)) hb); have n1_ := Aside0.mk (hbox); have n2_ := Aside0.mk ((by rw [hg]; exact (below_size (by repeat (first | (with_reducible first | exact HB.out | apply below_alloc | apply pw_below_drewN | apply below_drew1) | exact HB.out))) : w.heap.size ≤ gb102)); have n3_ := Aside0.mk ((by rw [hg]; exact (below_size (by repeat (first | (with_reducible first | exact HB.out | apply below_alloc | apply pw_below_drewN | apply below_drew1) | exact HB.out))) : w.heap.size ≤ gb102)); clear HB; have HB := n0_; have BK102 := n1_; have GW102 := n2_; have GE102 := n3_; clear n0_ n1_ n2_ n3_; clear hb hbox hg; have hcz7_0 : w6.cell? ⟨gb102, 0, none⟩ = some (.int .i64 a0_0) := (blk_cell BK102.out 0).trans rfl; have hcz7_1 : w6.cell? ⟨gb102, 1, none⟩ = some (.int .i64 a0_1) := (blk_cell BK102.out 1).trans rfl; have hfz7_0 := blk_frozen BK102.out 0; have hfz7_1 := blk_frozen BK102.out 1))
      go_ret
      exact ⟨by first | rfl | (simp [errW_none, errW_some] <;> rfl) | (simp [*, errW_none, errW_some] <;> rfl), by repeat (first | (with_reducible first | exact HB.out | apply below_alloc | apply pw_below_drewN | apply below_drew1 | refine below_set ?_ GE102.out) | exact HB.out)⟩
  · rw [if_neg c2] at H
    have c2b0 : decide ((-1000000000000) ≤ a0_0) = false := decide_eq_false c2
    clear c2
    obtain rfl := Option.some.inj H
    go_enter Try.func72, Try.ntmps72
    go_wp2_with (first | ((with_reducible refine gate_dst (N := 1) rfl ?_); refine box_event ?hg (N := 1) ?hd (cs := #[.int .i64 a0_0, .int .i64 a0_1]) (t := 25) ?hr ?_; (case hd => rfl); (case hg => rfl); (case hr => first | (go_simp; done) | (go_simp; rfl)); intro gb102 hg w8 hbox hb; have n0_ := Aside0.mk (below_step (by repeat (first | (with_reducible first | exact HB.out | apply below_alloc | apply pw_below_drewN | apply below_drew1) | exact HB.out)) hb); have n1_ := Aside0.mk (hbox); have n2_ := Aside0.mk ((by rw [hg]; exact (below_size (by repeat (first | (with_reducible first | exact HB.out | apply below_alloc | apply pw_below_drewN | apply below_drew1) | exact HB.out))) : w.heap.size ≤ gb102)); have n3_ := Aside0.mk ((by rw [hg]; exact (below_size (by repeat (first | (with_reducible first | exact HB.out | apply below_alloc | apply pw_below_drewN | apply below_drew1) | exact HB.out))) : w.heap.size ≤ gb102)); clear HB; have HB := n0_; have BK102 := n1_; have GW102 := n2_; have GE102 := n3_; clear n0_ n1_ n2_ n3_; clear hb hbox hg; have hcz9_0 : w8.cell? ⟨gb102, 0, none⟩ = some (.int .i64 a0_0) := (blk_cell BK102.out 0).trans rfl; have hcz9_1 : w8.cell? ⟨gb102, 1, none⟩ = some (.int .i64 a0_1) := (blk_cell BK102.out 1).trans rfl; have hfz9_0 := blk_frozen BK102.out 0; have hfz9_1 := blk_frozen BK102.out 1))
    go_ret
    exact ⟨by first | rfl | (simp [errW_none, errW_some] <;> rfl) | (simp [*, errW_none, errW_some] <;> rfl), by repeat (first | (with_reducible first | exact HB.out | apply below_alloc | apply pw_below_drewN | apply below_drew1 | refine below_set ?_ GE102.out) | exact HB.out)⟩
def span_ends_int.f (a0 : Int) (a1 : Int) : Option (Int × Int) := some (mn a0 a1, mx a0 a1)
set_option maxHeartbeats 8000000 in
set_option maxRecDepth 100000 in
theorem span_ends_int.calls (a0 : Int) (a1 : Int) (r1 : Int) (r2 : Int) (w : World) (h : span_ends_int.f a0 a1 = some (r1, r2)) :
    Calls Try.prog 73 #[.int .i64 a0, .int .i64 a1] w fun e w' => e = .returned (.tuple #[.int .i64 r1, .int .i64 r2]) ∧ Below w.heap.size w w' := by
  have HB := Aside0.mk (Below.refl w.heap.size w)
  have H : (some (mn a0 a1, mx a0 a1)) = some (r1, r2) := h
  clear h
  obtain ⟨ji3, hji3⟩ : ∃ j_ : Int, (mn a0 a1) = j_ := ⟨_, rfl⟩
  replace H : (some (ji3, mx a0 a1)) = some (r1, r2) := by first | (rw [hji3] at H; exact H) | (simp only [hji3] at H ⊢; exact H)
  have hji3_ : (if a1 < a0 then a1 else a0) = ji3 := hji3
  obtain ⟨ji4, hji4⟩ : ∃ j_ : Int, (mx a0 a1) = j_ := ⟨_, rfl⟩
  replace H : (some (ji3, ji4)) = some (r1, r2) := by first | (rw [hji4] at H; exact H) | (simp only [hji4] at H ⊢; exact H)
  have hji4_ : (if a0 < a1 then a1 else a0) = ji4 := hji4
  simp only [Option.some.injEq, Prod.mk.injEq] at H
  obtain ⟨rfl, rfl⟩ := H
  go_enter Try.func73, Try.ntmps73
  go_wp2
  go_ret2
  exact ⟨by first | rfl | (simp [errW_none, errW_some] <;> rfl) | (simp only [← hji3, ← hji4]; first | rfl | (simp [errW_none, errW_some] <;> rfl)) | (simp [*, errW_none, errW_some] <;> rfl), by repeat (first | (with_reducible first | exact HB.out | apply below_alloc | apply pw_below_drewN | apply below_drew1) | exact HB.out)⟩
def span_Join.j0 : Nat → Bool → Int → Int → Int → Int → Option (Int × Int × Int)
  | 0, _, _, _, _, _ => none
  | k + 1, x17, x104000, x104001, x105000, x105001 => if x17 = true then (some (0, 0, 1)) else ((span_ends_int.f x104000 x105000).bind fun bt108 => ((span_ends_int.f x104001 x105001).bind fun bt110 => (some (bt108.1, bt110.2, 0))))
def span_Join.f (k : Nat) (a0_0 : Int) (a0_1 : Int) (a1_0 : Int) (a1_1 : Int) : Option (Int × Int × Int) := (span_Valid.f a0_0 a0_1).bind fun t106 => (if t106 = true then ((span_Valid.f a1_0 a1_1).bind fun t107 => (span_Join.j0 k (!t107) a0_0 a0_1 a1_0 a1_1)) else (span_Join.j0 k true a0_0 a0_1 a1_0 a1_1))
theorem span_Join.mono_l : ∀ k, (∀ y0 y1 y2 y3 y4, LeO (span_Join.j0 k y0 y1 y2 y3 y4) (span_Join.j0 (k + 1) y0 y1 y2 y3 y4))
  | 0 => fun _ _ _ _ _ r h => by simp [span_Join.j0] at h
  | k + 1 => by
    have ih0 := span_Join.mono_l k
    · intro y0 y1 y2 y3 y4
      unfold span_Join.j0
      repeat' first
      | (with_reducible exact ih0 _ _ _ _ _)
      | (with_reducible exact LeO.refl _)
      | (with_reducible exact LeO.none _)
      | (with_reducible refine LeO.ite ?_ ?_)
      | (with_reducible refine LeO.bind ?_ (fun _ => ?_))
      | exact ih0 _ _ _ _ _
      | exact LeO.none _
      | refine LeO.ite ?_ ?_
      | refine LeO.bind ?_ (fun _ => ?_)
theorem span_Join.mono : ∀ a0 a1 a2 a3 k, LeO (span_Join.f k a0 a1 a2 a3) (span_Join.f (k + 1) a0 a1 a2 a3) := by
  intro a0 a1 a2 a3 k
  have ih0 := span_Join.mono_l k
  unfold span_Join.f
  repeat' first
      | (with_reducible exact ih0 _ _ _ _ _)
      | (with_reducible exact LeO.refl _)
      | (with_reducible exact LeO.none _)
      | (with_reducible refine LeO.ite ?_ ?_)
      | (with_reducible refine LeO.bind ?_ (fun _ => ?_))
      | exact ih0 _ _ _ _ _
      | exact LeO.none _
      | refine LeO.ite ?_ ?_
      | refine LeO.bind ?_ (fun _ => ?_)
set_option maxHeartbeats 8000000 in
set_option maxRecDepth 100000 in
theorem span_Join.calls (k : Nat) (a0_0 : Int) (a0_1 : Int) (a1_0 : Int) (a1_1 : Int) (r1 : Int) (r2 : Int) (r3 : Int) (w : World) (h : span_Join.f k a0_0 a0_1 a1_0 a1_1 = some (r1, r2, r3)) :
    Calls Try.prog 67 #[.agg #[.int .i64 a0_0, .int .i64 a0_1], .agg #[.int .i64 a1_0, .int .i64 a1_1]] w fun e w' => e = .returned (.tuple #[.agg #[.int .i64 r1, .int .i64 r2], .int .i64 r3]) ∧ Below w.heap.size w w' := by
  have hu25 := Try.underlying25
  have HB := Aside0.mk (Below.refl w.heap.size w)
  have H : ((span_Valid.f a0_0 a0_1).bind fun t106 => (if t106 = true then ((span_Valid.f a1_0 a1_1).bind fun t107 => (span_Join.j0 k (!t107) a0_0 a0_1 a1_0 a1_1)) else (span_Join.j0 k true a0_0 a0_1 a1_0 a1_1))) = some (r1, r2, r3) := h
  clear h
  have HC3 := Aside0.mk H
  clear H
  go_enter Try.func67, Try.ntmps67
  go_upto_region 1 with (first | ((with_reducible refine gate_dst (N := 2) rfl ?_); refine box_event ?hg (N := 2) ?hd (cs := #[.int .i64 a0_0, .int .i64 a0_1]) (t := 25) ?hr ?_; (case hd => rfl); (case hg => rfl); (case hr => first | (go_simp; done) | (go_simp; rfl)); intro gb103 hg w4 hbox hb; have n0_ := Aside0.mk (below_step (by repeat (first | (with_reducible first | exact HB.out | apply below_alloc | apply pw_below_drewN | apply below_drew1) | exact HB.out)) hb); have n1_ := Aside0.mk (hbox); have n2_ := Aside0.mk ((by rw [hg]; exact (below_size (by repeat (first | (with_reducible first | exact HB.out | apply below_alloc | apply pw_below_drewN | apply below_drew1) | exact HB.out))) : w.heap.size ≤ gb103)); have n3_ := Aside0.mk ((by rw [hg]; exact (below_size (by repeat (first | (with_reducible first | exact HB.out | apply below_alloc | apply pw_below_drewN | apply below_drew1) | exact HB.out))) : w.heap.size ≤ gb103)); clear HB; have HB := n0_; have BK103 := n1_; have GW103 := n2_; have GE103 := n3_; clear n0_ n1_ n2_ n3_; clear hb hbox hg) | ((with_reducible refine gate_dst (N := 3) rfl ?_); refine box_event ?hg (N := 3) ?hd (cs := #[.int .i64 a1_0, .int .i64 a1_1]) (t := 25) ?hr ?_; (case hd => rfl); (case hg => rfl); (case hr => first | (go_simp; done) | (go_simp; rfl)); intro gb104 hg w5 hbox hb; have n0_ := Aside0.mk (blk_below (g := gb103) (o := .cells #[.int .i64 a0_0, .int .i64 a0_1] 25 (0, 0)) (by (with_reducible repeat (first | refine blk_drewN ?_ _ | refine blk_drew ?_ | refine blk_alloc ?_ _)); exact BK103.out) hb); have n1_ := Aside0.mk (below_step (by repeat (first | (with_reducible first | exact HB.out | apply below_alloc | apply pw_below_drewN | apply below_drew1 | refine below_set ?_ GE103.out) | exact HB.out)) hb); have n2_ := Aside0.mk (hbox); have n3_ := Aside0.mk ((by rw [hg]; exact (below_size (by repeat (first | (with_reducible first | exact HB.out | apply below_alloc | apply pw_below_drewN | apply below_drew1 | refine below_set ?_ GE103.out) | exact HB.out))) : w.heap.size ≤ gb104)); have n4_ := Aside0.mk ((by rw [hg]; exact (below_size (by repeat (first | (with_reducible first | exact HB.out | apply below_alloc | apply pw_below_drewN | apply below_drew1 | refine below_set ?_ GE103.out) | exact HB.out))) : w.heap.size ≤ gb104)); have n5_ := Aside0.mk ((by rw [hg]; exact Nat.ne_of_lt (blk_lt (g := gb103) (o := .cells #[.int .i64 a0_0, .int .i64 a0_1] 25 (0, 0)) (by (with_reducible repeat (first | refine blk_drewN ?_ _ | refine blk_drew ?_ | refine blk_alloc ?_ _)); exact BK103.out)) : gb103 ≠ gb104)); have n6_ := Aside0.mk ((by rw [hg]; exact Nat.ne_of_gt (blk_lt (g := gb103) (o := .cells #[.int .i64 a0_0, .int .i64 a0_1] 25 (0, 0)) (by (with_reducible repeat (first | refine blk_drewN ?_ _ | refine blk_drew ?_ | refine blk_alloc ?_ _)); exact BK103.out)) : gb104 ≠ gb103)); clear BK103; clear HB; have BK103 := n0_; have HB := n1_; have BK104 := n2_; have GW104 := n3_; have GE104 := n4_; have NB103_104 := n5_; have NB104_103 := n6_; clear n0_ n1_ n2_ n3_ n4_ n5_ n6_; clear hb hbox hg) | ((with_reducible refine gate_dst (N := 4) rfl ?_); refine box_event ?hg (N := 4) ?hd (cs := #[.int .i64 0, .int .i64 0]) (t := 25) ?hr ?_; (case hd => rfl); (case hg => rfl); (case hr => first | (go_simp; done) | (go_simp; rfl)); intro gb105 hg w6 hbox hb; have n0_ := Aside0.mk (blk_below (g := gb103) (o := .cells #[.int .i64 a0_0, .int .i64 a0_1] 25 (0, 0)) (by (with_reducible repeat (first | refine blk_drewN ?_ _ | refine blk_drew ?_ | refine blk_alloc ?_ _)); exact BK103.out) hb); have n1_ := Aside0.mk (blk_below (g := gb104) (o := .cells #[.int .i64 a1_0, .int .i64 a1_1] 25 (0, 0)) (by (with_reducible repeat (first | refine blk_drewN ?_ _ | refine blk_drew ?_ | refine blk_alloc ?_ _)); exact BK104.out) hb); have n2_ := Aside0.mk (below_step (by repeat (first | (with_reducible first | exact HB.out | apply below_alloc | apply pw_below_drewN | apply below_drew1 | refine below_set ?_ GE103.out | refine below_set ?_ GE104.out) | exact HB.out)) hb); have n3_ := Aside0.mk (hbox); have n4_ := Aside0.mk ((by rw [hg]; exact (below_size (by repeat (first | (with_reducible first | exact HB.out | apply below_alloc | apply pw_below_drewN | apply below_drew1 | refine below_set ?_ GE103.out | refine below_set ?_ GE104.out) | exact HB.out))) : w.heap.size ≤ gb105)); have n5_ := Aside0.mk ((by rw [hg]; exact (below_size (by repeat (first | (with_reducible first | exact HB.out | apply below_alloc | apply pw_below_drewN | apply below_drew1 | refine below_set ?_ GE103.out | refine below_set ?_ GE104.out) | exact HB.out))) : w.heap.size ≤ gb105)); have n6_ := Aside0.mk ((by rw [hg]; exact Nat.ne_of_lt (blk_lt (g := gb103) (o := .cells #[.int .i64 a0_0, .int .i64 a0_1] 25 (0, 0)) (by (with_reducible repeat (first | refine blk_drewN ?_ _ | refine blk_drew ?_ | refine blk_alloc ?_ _)); exact BK103.out)) : gb103 ≠ gb105)); have n7_ := Aside0.mk ((by rw [hg]; exact Nat.ne_of_gt (blk_lt (g := gb103) (o := .cells #[.int .i64 a0_0, .int .i64 a0_1] 25 (0, 0)) (by (with_reducible repeat (first | refine blk_drewN ?_ _ | refine blk_drew ?_ | refine blk_alloc ?_ _)); exact BK103.out)) : gb105 ≠ gb103)); have n8_ := Aside0.mk ((by rw [hg]; exact Nat.ne_of_lt (blk_lt (g := gb104) (o := .cells #[.int .i64 a1_0, .int .i64 a1_1] 25 (0, 0)) (by (with_reducible repeat (first | refine blk_drewN ?_ _ | refine blk_drew ?_ | refine blk_alloc ?_ _)); exact BK104.out)) : gb104 ≠ gb105)); have n9_ := Aside0.mk ((by rw [hg]; exact Nat.ne_of_gt (blk_lt (g := gb104) (o := .cells #[.int .i64 a1_0, .int .i64 a1_1] 25 (0, 0)) (by (with_reducible repeat (first | refine blk_drewN ?_ _ | refine blk_drew ?_ | refine blk_alloc ?_ _)); exact BK104.out)) : gb105 ≠ gb104)); clear BK103; clear BK104; clear HB; have BK103 := n0_; have BK104 := n1_; have HB := n2_; have BK105 := n3_; have GW105 := n4_; have GE105 := n5_; have NB103_105 := n6_; have NB105_103 := n7_; have NB104_105 := n8_; have NB105_104 := n9_; clear n0_ n1_ n2_ n3_ n4_ n5_ n6_ n7_ n8_ n9_; clear hb hbox hg))
  (try simp only [Act.put, List.setIfInBounds_toArray, List.set_cons_zero, List.set_cons_succ])
  go_cut [17] (fun v17 wc => ∃ (kq : Nat) (x17_2 : Bool), v17 = .bool x17_2 ∧ Aside0 (span_Join.j0 kq x17_2 a0_0 a0_1 a1_0 a1_1 = some (r1, r2, r3)) ∧ Aside0 (kq ≤ k) ∧ Aside0 (wc.heap[gb103]? = some (.cells #[.int .i64 a0_0, .int .i64 a0_1] 25 (0, 0))) ∧ Aside0 (wc.heap[gb104]? = some (.cells #[.int .i64 a1_0, .int .i64 a1_1] 25 (0, 0))) ∧ Aside0 (wc.heap[gb105]? = some (.cells #[.int .i64 0, .int .i64 0] 25 (0, 0))) ∧ Aside0 (Below w.heap.size w wc))
  case first =>
    have H := HC3.out
    clear HC3
    replace H := Option.bind_eq_some_iff.mp H
    obtain ⟨t106, A70, H⟩ := H
    replace H : (if t106 = true then ((span_Valid.f a1_0 a1_1).bind fun t107 => (span_Join.j0 k (!t107) a0_0 a0_1 a1_0 a1_1)) else (span_Join.j0 k true a0_0 a0_1 a1_0 a1_1)) = some (r1, r2, r3) := H
    have A7 := Aside0.mk A70
    clear A70
    by_cases c8 : t106 = true
    · subst c8
      have H1 : ((span_Valid.f a1_0 a1_1).bind fun t107 => (span_Join.j0 k (!t107) a0_0 a0_1 a1_0 a1_1)) = some (r1, r2, r3) := by rw [if_pos rfl] at H; exact H
      clear H
      have H := H1
      clear H1
      replace H := Option.bind_eq_some_iff.mp H
      obtain ⟨t107, A90, H⟩ := H
      replace H : (span_Join.j0 k (!t107) a0_0 a0_1 a1_0 a1_1) = some (r1, r2, r3) := H
      have A9 := Aside0.mk A90
      clear A90
      have H' := Aside0.mk H
      clear H
      have hnb10 := NB103_104.out
      have hnc10 := NB104_103.out
      have hnb11 := NB103_105.out
      have hnc11 := NB105_103.out
      have hcz12_0 : w6.cell? ⟨gb103, 0, none⟩ = some (.int .i64 a0_0) := (blk_cell BK103.out 0).trans rfl
      have hcz12_1 : w6.cell? ⟨gb103, 1, none⟩ = some (.int .i64 a0_1) := (blk_cell BK103.out 1).trans rfl
      have hfz12_0 := blk_frozen BK103.out 0
      have hfz12_1 := blk_frozen BK103.out 1
      go_wp2_with (first | ((with_reducible refine gate_callee (f := 72) rfl ?_); refine goesL_ (some 11) rfl rfl Try.func72 (by kernel_rfl) rfl #[.agg #[.int .i64 a0_0, .int .i64 a0_1]] rfl (by (try simp only [List.map_toArray, List.map_cons, List.map_nil]); first | done | rfl | (simp only [List.length_drop, List.length_take]; rfl)) ?_; (with_reducible refine (span_Valid.calls a0_0 a0_1 true _ A7.out).mono ?_); rintro e w13 ⟨rfl, hb⟩; refine ⟨_, rfl, ?_⟩; have n0_ := Aside0.mk (blk_below (g := gb103) (o := .cells #[.int .i64 a0_0, .int .i64 a0_1] 25 (0, 0)) (by (with_reducible repeat (first | refine blk_drewN ?_ _ | refine blk_drew ?_ | refine blk_alloc ?_ _)); exact BK103.out) hb); have n1_ := Aside0.mk (blk_below (g := gb104) (o := .cells #[.int .i64 a1_0, .int .i64 a1_1] 25 (0, 0)) (by (with_reducible repeat (first | refine blk_drewN ?_ _ | refine blk_drew ?_ | refine blk_alloc ?_ _)); exact BK104.out) hb); have n2_ := Aside0.mk (blk_below (g := gb105) (o := .cells #[.int .i64 0, .int .i64 0] 25 (0, 0)) (by (with_reducible repeat (first | refine blk_drewN ?_ _ | refine blk_drew ?_ | refine blk_alloc ?_ _)); exact BK105.out) hb); have n3_ := Aside0.mk (below_step (by repeat (first | (with_reducible first | exact HB.out | apply below_alloc | apply pw_below_drewN | apply below_drew1 | refine below_set ?_ GE103.out | refine below_set ?_ GE104.out | refine below_set ?_ GE105.out) | exact HB.out)) hb); clear BK103; clear BK104; clear BK105; clear HB; have BK103 := n0_; have BK104 := n1_; have BK105 := n2_; have HB := n3_; clear n0_ n1_ n2_ n3_; (try clear hb); (try clear hb2); (try clear hk); (try clear hi); have hnb14 := NB104_105.out; have hnc14 := NB105_104.out; have hcz15_0 : w13.cell? ⟨gb104, 0, none⟩ = some (.int .i64 a1_0) := (blk_cell BK104.out 0).trans rfl; have hcz15_1 : w13.cell? ⟨gb104, 1, none⟩ = some (.int .i64 a1_1) := (blk_cell BK104.out 1).trans rfl; have hfz15_0 := blk_frozen BK104.out 0; have hfz15_1 := blk_frozen BK104.out 1) | (go_at_call 72; (with_reducible refine (span_Valid.calls a1_0 a1_1 t107 _ A9.out).mono ?_); rintro e w16 ⟨rfl, hb⟩; have n0_ := Aside0.mk (blk_below (g := gb103) (o := .cells #[.int .i64 a0_0, .int .i64 a0_1] 25 (0, 0)) (by (with_reducible repeat (first | refine blk_drewN ?_ _ | refine blk_drew ?_ | refine blk_alloc ?_ _)); exact BK103.out) hb); have n1_ := Aside0.mk (blk_below (g := gb104) (o := .cells #[.int .i64 a1_0, .int .i64 a1_1] 25 (0, 0)) (by (with_reducible repeat (first | refine blk_drewN ?_ _ | refine blk_drew ?_ | refine blk_alloc ?_ _)); exact BK104.out) hb); have n2_ := Aside0.mk (blk_below (g := gb105) (o := .cells #[.int .i64 0, .int .i64 0] 25 (0, 0)) (by (with_reducible repeat (first | refine blk_drewN ?_ _ | refine blk_drew ?_ | refine blk_alloc ?_ _)); exact BK105.out) hb); have n3_ := Aside0.mk (below_step (by repeat (first | (with_reducible first | exact HB.out | apply below_alloc | apply pw_below_drewN | apply below_drew1 | refine below_set ?_ GE103.out | refine below_set ?_ GE104.out | refine below_set ?_ GE105.out) | exact HB.out)) hb); clear BK103; clear BK104; clear BK105; clear HB; have BK103 := n0_; have BK104 := n1_; have BK105 := n2_; have HB := n3_; clear n0_ n1_ n2_ n3_; (try clear hb); (try clear hb2); (try clear hk); (try clear hi)))
      go_meet
      case rel => exact ⟨_, (!t107), (by first | rfl | (simp; done) | (simp [*]; done)), H', ⟨by first | omega | exact Nat.le_refl _⟩, ⟨by (with_reducible repeat (first | refine blk_drewN ?_ _ | refine blk_drew ?_ | refine blk_alloc ?_ _)); exact BK103.out⟩, ⟨by (with_reducible repeat (first | refine blk_drewN ?_ _ | refine blk_drew ?_ | refine blk_alloc ?_ _)); exact BK104.out⟩, ⟨by (with_reducible repeat (first | refine blk_drewN ?_ _ | refine blk_drew ?_ | refine blk_alloc ?_ _)); exact BK105.out⟩, ⟨by repeat (first | (with_reducible first | exact HB.out | apply below_alloc | apply pw_below_drewN | apply below_drew1 | refine below_set ?_ GE103.out | refine below_set ?_ GE104.out | refine below_set ?_ GE105.out) | exact HB.out)⟩⟩
    · replace c8 := Bool.eq_false_iff.mpr c8
      subst c8
      have H1 : (span_Join.j0 k true a0_0 a0_1 a1_0 a1_1) = some (r1, r2, r3) := by rw [if_neg (show ¬ (false = true) by decide)] at H; exact H
      clear H
      have H := H1
      clear H1
      have H' := Aside0.mk H
      clear H
      have hnb17 := NB103_104.out
      have hnc17 := NB104_103.out
      have hnb18 := NB103_105.out
      have hnc18 := NB105_103.out
      have hcz19_0 : w6.cell? ⟨gb103, 0, none⟩ = some (.int .i64 a0_0) := (blk_cell BK103.out 0).trans rfl
      have hcz19_1 : w6.cell? ⟨gb103, 1, none⟩ = some (.int .i64 a0_1) := (blk_cell BK103.out 1).trans rfl
      have hfz19_0 := blk_frozen BK103.out 0
      have hfz19_1 := blk_frozen BK103.out 1
      go_wp2_with (first | ((with_reducible refine gate_callee (f := 72) rfl ?_); refine goesL_ (some 11) rfl rfl Try.func72 (by kernel_rfl) rfl #[.agg #[.int .i64 a0_0, .int .i64 a0_1]] rfl (by (try simp only [List.map_toArray, List.map_cons, List.map_nil]); first | done | rfl | (simp only [List.length_drop, List.length_take]; rfl)) ?_; (with_reducible refine (span_Valid.calls a0_0 a0_1 false _ A7.out).mono ?_); rintro e w20 ⟨rfl, hb⟩; refine ⟨_, rfl, ?_⟩; have n0_ := Aside0.mk (blk_below (g := gb103) (o := .cells #[.int .i64 a0_0, .int .i64 a0_1] 25 (0, 0)) (by (with_reducible repeat (first | refine blk_drewN ?_ _ | refine blk_drew ?_ | refine blk_alloc ?_ _)); exact BK103.out) hb); have n1_ := Aside0.mk (blk_below (g := gb104) (o := .cells #[.int .i64 a1_0, .int .i64 a1_1] 25 (0, 0)) (by (with_reducible repeat (first | refine blk_drewN ?_ _ | refine blk_drew ?_ | refine blk_alloc ?_ _)); exact BK104.out) hb); have n2_ := Aside0.mk (blk_below (g := gb105) (o := .cells #[.int .i64 0, .int .i64 0] 25 (0, 0)) (by (with_reducible repeat (first | refine blk_drewN ?_ _ | refine blk_drew ?_ | refine blk_alloc ?_ _)); exact BK105.out) hb); have n3_ := Aside0.mk (below_step (by repeat (first | (with_reducible first | exact HB.out | apply below_alloc | apply pw_below_drewN | apply below_drew1 | refine below_set ?_ GE103.out | refine below_set ?_ GE104.out | refine below_set ?_ GE105.out) | exact HB.out)) hb); clear BK103; clear BK104; clear BK105; clear HB; have BK103 := n0_; have BK104 := n1_; have BK105 := n2_; have HB := n3_; clear n0_ n1_ n2_ n3_; (try clear hb); (try clear hb2); (try clear hk); (try clear hi)))
      go_meet
      case rel => exact ⟨_, (true), (by first | rfl | (simp; done) | (simp [*]; done)), H', ⟨by first | omega | exact Nat.le_refl _⟩, ⟨by (with_reducible repeat (first | refine blk_drewN ?_ _ | refine blk_drew ?_ | refine blk_alloc ?_ _)); exact BK103.out⟩, ⟨by (with_reducible repeat (first | refine blk_drewN ?_ _ | refine blk_drew ?_ | refine blk_alloc ?_ _)); exact BK104.out⟩, ⟨by (with_reducible repeat (first | refine blk_drewN ?_ _ | refine blk_drew ?_ | refine blk_alloc ?_ _)); exact BK105.out⟩, ⟨by repeat (first | (with_reducible first | exact HB.out | apply below_alloc | apply pw_below_drewN | apply below_drew1 | refine below_set ?_ GE103.out | refine below_set ?_ GE104.out | refine below_set ?_ GE105.out) | exact HB.out)⟩⟩
  case rest =>
    clear HC3
    try clear c1
    try clear p2
    try clear c6
    try clear c7
    try clear c8
    try clear c10
    try clear c11
    try clear c14
    try clear c17
    try clear c18
    try clear hcz12_0
    try clear hcz12_1
    try clear hcz15_0
    try clear hcz15_1
    try clear hcz19_0
    try clear hcz19_1
    try clear hfz12_0
    try clear hfz12_1
    try clear hfz15_0
    try clear hfz15_1
    try clear hfz19_0
    try clear hfz19_1
    obtain ⟨kq, x17_2, rfl, HA, HJ2, BK103, BK104, BK105, HB⟩ := hcut
    cases kq with
    | zero => exact absurd HA.out (by simp [span_Join.j0])
    | succ kj2 =>
      have H := HA.out
      clear HA
      simp only [span_Join.j0] at H
      by_cases c21 : x17_2 = true
      · subst c21
        have H1 : (some (0, 0, 1)) = some (r1, r2, r3) := by rw [if_pos rfl] at H; exact H
        clear H
        have H := H1
        clear H1
        simp only [Option.some.injEq, Prod.mk.injEq] at H
        obtain ⟨rfl, rfl, rfl⟩ := H
        have hnb22 := NB105_103.out
        have hnc22 := NB103_105.out
        have hnb23 := NB105_104.out
        have hnc23 := NB104_105.out
        have hcz24_0 : wc.cell? ⟨gb105, 0, none⟩ = some (.int .i64 0) := (blk_cell BK105.out 0).trans rfl
        have hcz24_1 : wc.cell? ⟨gb105, 1, none⟩ = some (.int .i64 0) := (blk_cell BK105.out 1).trans rfl
        have hfz24_0 := blk_frozen BK105.out 0
        have hfz24_1 := blk_frozen BK105.out 1
        go_wp2
        refine bodyPost_ret (results_ct rfl _ _ gb105 25 #[.int .i64 0, .int .i64 0] (0, 0) _ rfl (by (with_reducible repeat (first | refine blk_drewN ?_ _ | refine blk_drew ?_ | refine blk_alloc ?_ _)); refine blk_put (cs := #[.int .i64 0, .int .i64 0]) ?_ 1 _ rfl; (with_reducible repeat (first | refine blk_drewN ?_ _ | refine blk_drew ?_ | refine blk_alloc ?_ _)); refine blk_put (cs := #[.int .i64 0, .int .i64 0]) ?_ 0 _ rfl; (with_reducible repeat (first | refine blk_drewN ?_ _ | refine blk_drew ?_ | refine blk_alloc ?_ _)); exact BK105.out) Try.underlying25 rfl (by kernel_rfl)) rfl ?_
        exact ⟨by first | rfl | (simp [errW_none, errW_some] <;> rfl) | (simp [*, errW_none, errW_some] <;> rfl), by repeat (first | (with_reducible first | exact HB.out | apply below_alloc | apply pw_below_drewN | apply below_drew1 | refine below_set ?_ GE103.out | refine below_set ?_ GE104.out | refine below_set ?_ GE105.out) | exact HB.out)⟩
      · replace c21 := Bool.eq_false_iff.mpr c21
        subst c21
        have H1 : ((span_ends_int.f a0_0 a1_0).bind fun bt108 => ((span_ends_int.f a0_1 a1_1).bind fun bt110 => (some (bt108.1, bt110.2, 0)))) = some (r1, r2, r3) := by rw [if_neg (show ¬ (false = true) by decide)] at H; exact H
        clear H
        have H := H1
        clear H1
        replace H := Option.bind_eq_some_iff.mp H
        obtain ⟨⟨t108, t109⟩, A250, H⟩ := H
        replace H : ((span_ends_int.f a0_1 a1_1).bind fun bt110 => (some (t108, bt110.2, 0))) = some (r1, r2, r3) := H
        have A25 := Aside0.mk A250
        clear A250
        replace H := Option.bind_eq_some_iff.mp H
        obtain ⟨⟨t110, t111⟩, A260, H⟩ := H
        replace H : (some (t108, t111, 0)) = some (r1, r2, r3) := H
        have A26 := Aside0.mk A260
        clear A260
        simp only [Option.some.injEq, Prod.mk.injEq] at H
        obtain ⟨rfl, rfl, rfl⟩ := H
        have hnb27 := NB103_104.out
        have hnc27 := NB104_103.out
        have hnb28 := NB103_105.out
        have hnc28 := NB105_103.out
        have hcz29_0 : wc.cell? ⟨gb103, 0, none⟩ = some (.int .i64 a0_0) := (blk_cell BK103.out 0).trans rfl
        have hcz29_1 : wc.cell? ⟨gb103, 1, none⟩ = some (.int .i64 a0_1) := (blk_cell BK103.out 1).trans rfl
        have hfz29_0 := blk_frozen BK103.out 0
        have hfz29_1 := blk_frozen BK103.out 1
        have hnb30 := NB104_105.out
        have hnc30 := NB105_104.out
        have hcz31_0 : wc.cell? ⟨gb104, 0, none⟩ = some (.int .i64 a1_0) := (blk_cell BK104.out 0).trans rfl
        have hcz31_1 : wc.cell? ⟨gb104, 1, none⟩ = some (.int .i64 a1_1) := (blk_cell BK104.out 1).trans rfl
        have hfz31_0 := blk_frozen BK104.out 0
        have hfz31_1 := blk_frozen BK104.out 1
        go_wp2_with (first | ((with_reducible refine gate_callee (f := 73) rfl ?_); refine goesL_ (some 24) rfl rfl Try.func73 (by kernel_rfl) rfl #[.int .i64 a0_0, .int .i64 a1_0] rfl (by (try simp only [List.map_toArray, List.map_cons, List.map_nil]); first | done | rfl | (simp only [List.length_drop, List.length_take]; rfl)) ?_; (with_reducible refine (span_ends_int.calls a0_0 a1_0 t108 t109 _ A25.out).mono ?_); rintro e w32 ⟨rfl, hb⟩; refine ⟨_, rfl, ?_⟩; have n0_ := Aside0.mk (blk_below (g := gb103) (o := .cells #[.int .i64 a0_0, .int .i64 a0_1] 25 (0, 0)) (by (with_reducible repeat (first | refine blk_drewN ?_ _ | refine blk_drew ?_ | refine blk_alloc ?_ _)); exact BK103.out) hb); have n1_ := Aside0.mk (blk_below (g := gb104) (o := .cells #[.int .i64 a1_0, .int .i64 a1_1] 25 (0, 0)) (by (with_reducible repeat (first | refine blk_drewN ?_ _ | refine blk_drew ?_ | refine blk_alloc ?_ _)); exact BK104.out) hb); have n2_ := Aside0.mk (blk_below (g := gb105) (o := .cells #[.int .i64 0, .int .i64 0] 25 (0, 0)) (by (with_reducible repeat (first | refine blk_drewN ?_ _ | refine blk_drew ?_ | refine blk_alloc ?_ _)); exact BK105.out) hb); have n3_ := Aside0.mk (below_step (by repeat (first | (with_reducible first | exact HB.out | apply below_alloc | apply pw_below_drewN | apply below_drew1 | refine below_set ?_ GE103.out | refine below_set ?_ GE104.out | refine below_set ?_ GE105.out) | exact HB.out)) hb); clear BK103; clear BK104; clear BK105; clear HB; have BK103 := n0_; have BK104 := n1_; have BK105 := n2_; have HB := n3_; clear n0_ n1_ n2_ n3_; (try clear hb); (try clear hb2); (try clear hk); (try clear hi); have hcz33_0 : w32.cell? ⟨gb103, 0, none⟩ = some (.int .i64 a0_0) := (blk_cell BK103.out 0).trans rfl; have hcz33_1 : w32.cell? ⟨gb103, 1, none⟩ = some (.int .i64 a0_1) := (blk_cell BK103.out 1).trans rfl; have hfz33_0 := blk_frozen BK103.out 0; have hfz33_1 := blk_frozen BK103.out 1; have hcz34_0 : w32.cell? ⟨gb104, 0, none⟩ = some (.int .i64 a1_0) := (blk_cell BK104.out 0).trans rfl; have hcz34_1 : w32.cell? ⟨gb104, 1, none⟩ = some (.int .i64 a1_1) := (blk_cell BK104.out 1).trans rfl; have hfz34_0 := blk_frozen BK104.out 0; have hfz34_1 := blk_frozen BK104.out 1) | ((with_reducible refine gate_callee (f := 73) rfl ?_); refine goesL_ (some 32) rfl rfl Try.func73 (by kernel_rfl) rfl #[.int .i64 a0_1, .int .i64 a1_1] rfl (by (try simp only [List.map_toArray, List.map_cons, List.map_nil]); first | done | rfl | (simp only [List.length_drop, List.length_take]; rfl)) ?_; (with_reducible refine (span_ends_int.calls a0_1 a1_1 t110 t111 _ A26.out).mono ?_); rintro e w35 ⟨rfl, hb⟩; refine ⟨_, rfl, ?_⟩; have n0_ := Aside0.mk (blk_below (g := gb103) (o := .cells #[.int .i64 a0_0, .int .i64 a0_1] 25 (0, 0)) (by (with_reducible repeat (first | refine blk_drewN ?_ _ | refine blk_drew ?_ | refine blk_alloc ?_ _)); exact BK103.out) hb); have n1_ := Aside0.mk (blk_below (g := gb104) (o := .cells #[.int .i64 a1_0, .int .i64 a1_1] 25 (0, 0)) (by (with_reducible repeat (first | refine blk_drewN ?_ _ | refine blk_drew ?_ | refine blk_alloc ?_ _)); exact BK104.out) hb); have n2_ := Aside0.mk (blk_below (g := gb105) (o := .cells #[.int .i64 0, .int .i64 0] 25 (0, 0)) (by (with_reducible repeat (first | refine blk_drewN ?_ _ | refine blk_drew ?_ | refine blk_alloc ?_ _)); exact BK105.out) hb); have n3_ := Aside0.mk (below_step (by repeat (first | (with_reducible first | exact HB.out | apply below_alloc | apply pw_below_drewN | apply below_drew1 | refine below_set ?_ GE103.out | refine below_set ?_ GE104.out | refine below_set ?_ GE105.out) | exact HB.out)) hb); clear BK103; clear BK104; clear BK105; clear HB; have BK103 := n0_; have BK104 := n1_; have BK105 := n2_; have HB := n3_; clear n0_ n1_ n2_ n3_; (try clear hb); (try clear hb2); (try clear hk); (try clear hi); have hcz36_0 : w35.cell? ⟨gb105, 0, none⟩ = some (.int .i64 0) := (blk_cell BK105.out 0).trans rfl; have hcz36_1 : w35.cell? ⟨gb105, 1, none⟩ = some (.int .i64 0) := (blk_cell BK105.out 1).trans rfl; have hfz36_0 := blk_frozen BK105.out 0; have hfz36_1 := blk_frozen BK105.out 1))
        refine bodyPost_ret (results_ct rfl _ _ gb105 25 #[.int .i64 t108, .int .i64 t111] (0, 0) _ rfl (by (with_reducible repeat (first | refine blk_drewN ?_ _ | refine blk_drew ?_ | refine blk_alloc ?_ _)); refine blk_put (cs := #[.int .i64 t108, .int .i64 0]) ?_ 1 _ rfl; (with_reducible repeat (first | refine blk_drewN ?_ _ | refine blk_drew ?_ | refine blk_alloc ?_ _)); refine blk_put (cs := #[.int .i64 0, .int .i64 0]) ?_ 0 _ rfl; (with_reducible repeat (first | refine blk_drewN ?_ _ | refine blk_drew ?_ | refine blk_alloc ?_ _)); exact BK105.out) Try.underlying25 rfl (by kernel_rfl)) rfl ?_
        exact ⟨by first | rfl | (simp [errW_none, errW_some] <;> rfl) | (simp [*, errW_none, errW_some] <;> rfl), by repeat (first | (with_reducible first | exact HB.out | apply below_alloc | apply pw_below_drewN | apply below_drew1 | refine below_set ?_ GE103.out | refine below_set ?_ GE104.out | refine below_set ?_ GE105.out) | exact HB.out)⟩
def span_Within.f (k : Nat) (a0_0 : Int) (a0_1 : Int) (a1_0 : Int) (a1_1 : Int) : Option (Bool × Int) := (span_Join.f k a0_0 a0_1 a1_0 a1_1).bind fun bt114 => (if bt114.2.2 = 0 then (some ((bt114.1 == a1_0 && (bt114.2.1 == a1_1)), bt114.2.2)) else (some (false, bt114.2.2)))
theorem span_Within.mono : ∀ a0 a1 a2 a3 k, LeO (span_Within.f k a0 a1 a2 a3) (span_Within.f (k + 1) a0 a1 a2 a3) := by
  intro a0 a1 a2 a3 k
  unfold span_Within.f
  repeat' first
      | (with_reducible exact span_Join.mono _ _ _ _ _)
      | (with_reducible exact LeO.refl _)
      | (with_reducible exact LeO.none _)
      | (with_reducible refine LeO.ite ?_ ?_)
      | (with_reducible refine LeO.bind ?_ (fun _ => ?_))
      | exact span_Join.mono _ _ _ _ _
      | exact LeO.none _
      | refine LeO.ite ?_ ?_
      | refine LeO.bind ?_ (fun _ => ?_)
set_option maxHeartbeats 8000000 in
set_option maxRecDepth 100000 in
theorem span_Within.calls (k : Nat) (a0_0 : Int) (a0_1 : Int) (a1_0 : Int) (a1_1 : Int) (r1 : Bool) (r2 : Int) (w : World) (h : span_Within.f k a0_0 a0_1 a1_0 a1_1 = some (r1, r2)) :
    Calls Try.prog 53 #[.agg #[.int .i64 a0_0, .int .i64 a0_1], .agg #[.int .i64 a1_0, .int .i64 a1_1]] w fun e w' => e = .returned (.tuple #[.bool r1, .int .i64 r2]) ∧ Below w.heap.size w w' := by
  have hu25 := Try.underlying25
  have HB := Aside0.mk (Below.refl w.heap.size w)
  have H : ((span_Join.f k a0_0 a0_1 a1_0 a1_1).bind fun bt114 => (if bt114.2.2 = 0 then (some ((bt114.1 == a1_0 && (bt114.2.1 == a1_1)), bt114.2.2)) else (some (false, bt114.2.2)))) = some (r1, r2) := h
  clear h
  replace H := Option.bind_eq_some_iff.mp H
  obtain ⟨⟨t114, t115, t116⟩, A30, H⟩ := H
  replace H : (if t116 = 0 then (some ((t114 == a1_0 && (t115 == a1_1)), t116)) else (some (false, t116))) = some (r1, r2) := H
  have A3 := Aside0.mk A30
  clear A30
  by_cases c4 : t116 = 0
  · rw [if_pos c4] at H
    have c4b0 : (t116 == 0) = true := beq_iff_eq.mpr c4
    have c4b1 : (t116 != 0) = false := bne_eq_false_iff_eq.mpr c4
    clear c4
    simp only [Option.some.injEq, Prod.mk.injEq] at H
    obtain ⟨rfl, rfl⟩ := H
    go_enter Try.func53, Try.ntmps53
    go_wp2_with (first | ((with_reducible refine gate_dst (N := 2) rfl ?_); refine box_event ?hg (N := 2) ?hd (cs := #[.int .i64 a0_0, .int .i64 a0_1]) (t := 25) ?hr ?_; (case hd => rfl); (case hg => rfl); (case hr => first | (go_simp; done) | (go_simp; rfl)); intro gb112 hg w5 hbox hb; have n0_ := Aside0.mk (below_step (by repeat (first | (with_reducible first | exact HB.out | apply below_alloc | apply pw_below_drewN | apply below_drew1) | exact HB.out)) hb); have n1_ := Aside0.mk (hbox); have n2_ := Aside0.mk ((by rw [hg]; exact (below_size (by repeat (first | (with_reducible first | exact HB.out | apply below_alloc | apply pw_below_drewN | apply below_drew1) | exact HB.out))) : w.heap.size ≤ gb112)); have n3_ := Aside0.mk ((by rw [hg]; exact (below_size (by repeat (first | (with_reducible first | exact HB.out | apply below_alloc | apply pw_below_drewN | apply below_drew1) | exact HB.out))) : w.heap.size ≤ gb112)); clear HB; have HB := n0_; have BK112 := n1_; have GW112 := n2_; have GE112 := n3_; clear n0_ n1_ n2_ n3_; clear hb hbox hg) | ((with_reducible refine gate_dst (N := 3) rfl ?_); refine box_event ?hg (N := 3) ?hd (cs := #[.int .i64 a1_0, .int .i64 a1_1]) (t := 25) ?hr ?_; (case hd => rfl); (case hg => rfl); (case hr => first | (go_simp; done) | (go_simp; rfl)); intro gb113 hg w6 hbox hb; have n0_ := Aside0.mk (blk_below (g := gb112) (o := .cells #[.int .i64 a0_0, .int .i64 a0_1] 25 (0, 0)) (by (with_reducible repeat (first | refine blk_drewN ?_ _ | refine blk_drew ?_ | refine blk_alloc ?_ _)); exact BK112.out) hb); have n1_ := Aside0.mk (below_step (by repeat (first | (with_reducible first | exact HB.out | apply below_alloc | apply pw_below_drewN | apply below_drew1 | refine below_set ?_ GE112.out) | exact HB.out)) hb); have n2_ := Aside0.mk (hbox); have n3_ := Aside0.mk ((by rw [hg]; exact (below_size (by repeat (first | (with_reducible first | exact HB.out | apply below_alloc | apply pw_below_drewN | apply below_drew1 | refine below_set ?_ GE112.out) | exact HB.out))) : w.heap.size ≤ gb113)); have n4_ := Aside0.mk ((by rw [hg]; exact (below_size (by repeat (first | (with_reducible first | exact HB.out | apply below_alloc | apply pw_below_drewN | apply below_drew1 | refine below_set ?_ GE112.out) | exact HB.out))) : w.heap.size ≤ gb113)); have n5_ := Aside0.mk ((by rw [hg]; exact Nat.ne_of_lt (blk_lt (g := gb112) (o := .cells #[.int .i64 a0_0, .int .i64 a0_1] 25 (0, 0)) (by (with_reducible repeat (first | refine blk_drewN ?_ _ | refine blk_drew ?_ | refine blk_alloc ?_ _)); exact BK112.out)) : gb112 ≠ gb113)); have n6_ := Aside0.mk ((by rw [hg]; exact Nat.ne_of_gt (blk_lt (g := gb112) (o := .cells #[.int .i64 a0_0, .int .i64 a0_1] 25 (0, 0)) (by (with_reducible repeat (first | refine blk_drewN ?_ _ | refine blk_drew ?_ | refine blk_alloc ?_ _)); exact BK112.out)) : gb113 ≠ gb112)); clear BK112; clear HB; have BK112 := n0_; have HB := n1_; have BK113 := n2_; have GW113 := n3_; have GE113 := n4_; have NB112_113 := n5_; have NB113_112 := n6_; clear n0_ n1_ n2_ n3_ n4_ n5_ n6_; clear hb hbox hg; have hnb7 := NB112_113.out; have hnc7 := NB113_112.out; have hcz8_0 : w6.cell? ⟨gb112, 0, none⟩ = some (.int .i64 a0_0) := (blk_cell BK112.out 0).trans rfl; have hcz8_1 : w6.cell? ⟨gb112, 1, none⟩ = some (.int .i64 a0_1) := (blk_cell BK112.out 1).trans rfl; have hfz8_0 := blk_frozen BK112.out 0; have hfz8_1 := blk_frozen BK112.out 1; have hcz9_0 : w6.cell? ⟨gb113, 0, none⟩ = some (.int .i64 a1_0) := (blk_cell BK113.out 0).trans rfl; have hcz9_1 : w6.cell? ⟨gb113, 1, none⟩ = some (.int .i64 a1_1) := (blk_cell BK113.out 1).trans rfl; have hfz9_0 := blk_frozen BK113.out 0; have hfz9_1 := blk_frozen BK113.out 1) | ((with_reducible refine gate_callee (f := 67) rfl ?_); refine goesL_ (some 11) rfl rfl Try.func67 (by kernel_rfl) rfl #[.agg #[.int .i64 a0_0, .int .i64 a0_1], .agg #[.int .i64 a1_0, .int .i64 a1_1]] rfl (by (try simp only [List.map_toArray, List.map_cons, List.map_nil]); first | done | rfl | (simp only [List.length_drop, List.length_take]; rfl)) ?_; (with_reducible refine (span_Join.calls k a0_0 a0_1 a1_0 a1_1 t114 t115 t116 _ A3.out).mono ?_); rintro e w10 ⟨rfl, hb⟩; refine ⟨_, rfl, ?_⟩; have n0_ := Aside0.mk (blk_below (g := gb112) (o := .cells #[.int .i64 a0_0, .int .i64 a0_1] 25 (0, 0)) (by (with_reducible repeat (first | refine blk_drewN ?_ _ | refine blk_drew ?_ | refine blk_alloc ?_ _)); exact BK112.out) hb); have n1_ := Aside0.mk (blk_below (g := gb113) (o := .cells #[.int .i64 a1_0, .int .i64 a1_1] 25 (0, 0)) (by (with_reducible repeat (first | refine blk_drewN ?_ _ | refine blk_drew ?_ | refine blk_alloc ?_ _)); exact BK113.out) hb); have n2_ := Aside0.mk (below_step (by repeat (first | (with_reducible first | exact HB.out | apply below_alloc | apply pw_below_drewN | apply below_drew1 | refine below_set ?_ GE112.out | refine below_set ?_ GE113.out) | exact HB.out)) hb); clear BK112; clear BK113; clear HB; have BK112 := n0_; have BK113 := n1_; have HB := n2_; clear n0_ n1_ n2_; (try clear hb); (try clear hb2); (try clear hk); (try clear hi)) | ((with_reducible refine gate_dst (N := 6) rfl ?_); refine box_event ?hg (N := 6) ?hd (cs := #[.int .i64 0, .int .i64 0]) (t := 25) ?hr ?_; (case hd => rfl); (case hg => rfl); (case hr => first | (go_simp; done) | (go_simp; rfl)); intro gb117 hg w11 hbox hb; have n0_ := Aside0.mk (blk_below (g := gb112) (o := .cells #[.int .i64 a0_0, .int .i64 a0_1] 25 (0, 0)) (by (with_reducible repeat (first | refine blk_drewN ?_ _ | refine blk_drew ?_ | refine blk_alloc ?_ _)); exact BK112.out) hb); have n1_ := Aside0.mk (blk_below (g := gb113) (o := .cells #[.int .i64 a1_0, .int .i64 a1_1] 25 (0, 0)) (by (with_reducible repeat (first | refine blk_drewN ?_ _ | refine blk_drew ?_ | refine blk_alloc ?_ _)); exact BK113.out) hb); have n2_ := Aside0.mk (below_step (by repeat (first | (with_reducible first | exact HB.out | apply below_alloc | apply pw_below_drewN | apply below_drew1 | refine below_set ?_ GE112.out | refine below_set ?_ GE113.out) | exact HB.out)) hb); have n3_ := Aside0.mk (hbox); have n4_ := Aside0.mk ((by rw [hg]; exact (below_size (by repeat (first | (with_reducible first | exact HB.out | apply below_alloc | apply pw_below_drewN | apply below_drew1 | refine below_set ?_ GE112.out | refine below_set ?_ GE113.out) | exact HB.out))) : w.heap.size ≤ gb117)); have n5_ := Aside0.mk ((by rw [hg]; exact (below_size (by repeat (first | (with_reducible first | exact HB.out | apply below_alloc | apply pw_below_drewN | apply below_drew1 | refine below_set ?_ GE112.out | refine below_set ?_ GE113.out) | exact HB.out))) : w.heap.size ≤ gb117)); have n6_ := Aside0.mk ((by rw [hg]; exact Nat.ne_of_lt (blk_lt (g := gb112) (o := .cells #[.int .i64 a0_0, .int .i64 a0_1] 25 (0, 0)) (by (with_reducible repeat (first | refine blk_drewN ?_ _ | refine blk_drew ?_ | refine blk_alloc ?_ _)); exact BK112.out)) : gb112 ≠ gb117)); have n7_ := Aside0.mk ((by rw [hg]; exact Nat.ne_of_gt (blk_lt (g := gb112) (o := .cells #[.int .i64 a0_0, .int .i64 a0_1] 25 (0, 0)) (by (with_reducible repeat (first | refine blk_drewN ?_ _ | refine blk_drew ?_ | refine blk_alloc ?_ _)); exact BK112.out)) : gb117 ≠ gb112)); have n8_ := Aside0.mk ((by rw [hg]; exact Nat.ne_of_lt (blk_lt (g := gb113) (o := .cells #[.int .i64 a1_0, .int .i64 a1_1] 25 (0, 0)) (by (with_reducible repeat (first | refine blk_drewN ?_ _ | refine blk_drew ?_ | refine blk_alloc ?_ _)); exact BK113.out)) : gb113 ≠ gb117)); have n9_ := Aside0.mk ((by rw [hg]; exact Nat.ne_of_gt (blk_lt (g := gb113) (o := .cells #[.int .i64 a1_0, .int .i64 a1_1] 25 (0, 0)) (by (with_reducible repeat (first | refine blk_drewN ?_ _ | refine blk_drew ?_ | refine blk_alloc ?_ _)); exact BK113.out)) : gb117 ≠ gb113)); clear BK112; clear BK113; clear HB; have BK112 := n0_; have BK113 := n1_; have HB := n2_; have BK117 := n3_; have GW117 := n4_; have GE117 := n5_; have NB112_117 := n6_; have NB117_112 := n7_; have NB113_117 := n8_; have NB117_113 := n9_; clear n0_ n1_ n2_ n3_ n4_ n5_ n6_ n7_ n8_ n9_; clear hb hbox hg; have hnb12 := NB117_112.out; have hnc12 := NB112_117.out; have hnb13 := NB117_113.out; have hnc13 := NB113_117.out; have hcz14_0 : w11.cell? ⟨gb117, 0, none⟩ = some (.int .i64 0) := (blk_cell BK117.out 0).trans rfl; have hcz14_1 : w11.cell? ⟨gb117, 1, none⟩ = some (.int .i64 0) := (blk_cell BK117.out 1).trans rfl; have hfz14_0 := blk_frozen BK117.out 0; have hfz14_1 := blk_frozen BK117.out 1; have hcz15_0 : w11.cell? ⟨gb113, 0, none⟩ = some (.int .i64 a1_0) := (blk_cell BK113.out 0).trans rfl; have hcz15_1 : w11.cell? ⟨gb113, 1, none⟩ = some (.int .i64 a1_1) := (blk_cell BK113.out 1).trans rfl; have hfz15_0 := blk_frozen BK113.out 0; have hfz15_1 := blk_frozen BK113.out 1))
    go_ret2
    exact ⟨by first | rfl | (simp [errW_none, errW_some] <;> rfl) | (simp [*, errW_none, errW_some] <;> rfl), by repeat (first | (with_reducible first | exact HB.out | apply below_alloc | apply pw_below_drewN | apply below_drew1 | refine below_set ?_ GE112.out | refine below_set ?_ GE113.out | refine below_set ?_ GE117.out) | exact HB.out)⟩
  · rw [if_neg c4] at H
    have c4b0 : (t116 == 0) = false := beq_eq_false_iff_ne.mpr c4
    have c4b1 : (t116 != 0) = true := bne_iff_ne.mpr c4
    simp only [Option.some.injEq, Prod.mk.injEq] at H
    obtain ⟨rfl, rfl⟩ := H
    go_enter Try.func53, Try.ntmps53
    go_wp2_with (first | ((with_reducible refine gate_dst (N := 2) rfl ?_); refine box_event ?hg (N := 2) ?hd (cs := #[.int .i64 a0_0, .int .i64 a0_1]) (t := 25) ?hr ?_; (case hd => rfl); (case hg => rfl); (case hr => first | (go_simp; done) | (go_simp; rfl)); intro gb112 hg w16 hbox hb; have n0_ := Aside0.mk (below_step (by repeat (first | (with_reducible first | exact HB.out | apply below_alloc | apply pw_below_drewN | apply below_drew1) | exact HB.out)) hb); have n1_ := Aside0.mk (hbox); have n2_ := Aside0.mk ((by rw [hg]; exact (below_size (by repeat (first | (with_reducible first | exact HB.out | apply below_alloc | apply pw_below_drewN | apply below_drew1) | exact HB.out))) : w.heap.size ≤ gb112)); have n3_ := Aside0.mk ((by rw [hg]; exact (below_size (by repeat (first | (with_reducible first | exact HB.out | apply below_alloc | apply pw_below_drewN | apply below_drew1) | exact HB.out))) : w.heap.size ≤ gb112)); clear HB; have HB := n0_; have BK112 := n1_; have GW112 := n2_; have GE112 := n3_; clear n0_ n1_ n2_ n3_; clear hb hbox hg) | ((with_reducible refine gate_dst (N := 3) rfl ?_); refine box_event ?hg (N := 3) ?hd (cs := #[.int .i64 a1_0, .int .i64 a1_1]) (t := 25) ?hr ?_; (case hd => rfl); (case hg => rfl); (case hr => first | (go_simp; done) | (go_simp; rfl)); intro gb113 hg w17 hbox hb; have n0_ := Aside0.mk (blk_below (g := gb112) (o := .cells #[.int .i64 a0_0, .int .i64 a0_1] 25 (0, 0)) (by (with_reducible repeat (first | refine blk_drewN ?_ _ | refine blk_drew ?_ | refine blk_alloc ?_ _)); exact BK112.out) hb); have n1_ := Aside0.mk (below_step (by repeat (first | (with_reducible first | exact HB.out | apply below_alloc | apply pw_below_drewN | apply below_drew1 | refine below_set ?_ GE112.out) | exact HB.out)) hb); have n2_ := Aside0.mk (hbox); have n3_ := Aside0.mk ((by rw [hg]; exact (below_size (by repeat (first | (with_reducible first | exact HB.out | apply below_alloc | apply pw_below_drewN | apply below_drew1 | refine below_set ?_ GE112.out) | exact HB.out))) : w.heap.size ≤ gb113)); have n4_ := Aside0.mk ((by rw [hg]; exact (below_size (by repeat (first | (with_reducible first | exact HB.out | apply below_alloc | apply pw_below_drewN | apply below_drew1 | refine below_set ?_ GE112.out) | exact HB.out))) : w.heap.size ≤ gb113)); have n5_ := Aside0.mk ((by rw [hg]; exact Nat.ne_of_lt (blk_lt (g := gb112) (o := .cells #[.int .i64 a0_0, .int .i64 a0_1] 25 (0, 0)) (by (with_reducible repeat (first | refine blk_drewN ?_ _ | refine blk_drew ?_ | refine blk_alloc ?_ _)); exact BK112.out)) : gb112 ≠ gb113)); have n6_ := Aside0.mk ((by rw [hg]; exact Nat.ne_of_gt (blk_lt (g := gb112) (o := .cells #[.int .i64 a0_0, .int .i64 a0_1] 25 (0, 0)) (by (with_reducible repeat (first | refine blk_drewN ?_ _ | refine blk_drew ?_ | refine blk_alloc ?_ _)); exact BK112.out)) : gb113 ≠ gb112)); clear BK112; clear HB; have BK112 := n0_; have HB := n1_; have BK113 := n2_; have GW113 := n3_; have GE113 := n4_; have NB112_113 := n5_; have NB113_112 := n6_; clear n0_ n1_ n2_ n3_ n4_ n5_ n6_; clear hb hbox hg; have hnb18 := NB112_113.out; have hnc18 := NB113_112.out; have hcz19_0 : w17.cell? ⟨gb112, 0, none⟩ = some (.int .i64 a0_0) := (blk_cell BK112.out 0).trans rfl; have hcz19_1 : w17.cell? ⟨gb112, 1, none⟩ = some (.int .i64 a0_1) := (blk_cell BK112.out 1).trans rfl; have hfz19_0 := blk_frozen BK112.out 0; have hfz19_1 := blk_frozen BK112.out 1; have hcz20_0 : w17.cell? ⟨gb113, 0, none⟩ = some (.int .i64 a1_0) := (blk_cell BK113.out 0).trans rfl; have hcz20_1 : w17.cell? ⟨gb113, 1, none⟩ = some (.int .i64 a1_1) := (blk_cell BK113.out 1).trans rfl; have hfz20_0 := blk_frozen BK113.out 0; have hfz20_1 := blk_frozen BK113.out 1) | ((with_reducible refine gate_callee (f := 67) rfl ?_); refine goesL_ (some 11) rfl rfl Try.func67 (by kernel_rfl) rfl #[.agg #[.int .i64 a0_0, .int .i64 a0_1], .agg #[.int .i64 a1_0, .int .i64 a1_1]] rfl (by (try simp only [List.map_toArray, List.map_cons, List.map_nil]); first | done | rfl | (simp only [List.length_drop, List.length_take]; rfl)) ?_; (with_reducible refine (span_Join.calls k a0_0 a0_1 a1_0 a1_1 t114 t115 t116 _ A3.out).mono ?_); rintro e w21 ⟨rfl, hb⟩; refine ⟨_, rfl, ?_⟩; have n0_ := Aside0.mk (blk_below (g := gb112) (o := .cells #[.int .i64 a0_0, .int .i64 a0_1] 25 (0, 0)) (by (with_reducible repeat (first | refine blk_drewN ?_ _ | refine blk_drew ?_ | refine blk_alloc ?_ _)); exact BK112.out) hb); have n1_ := Aside0.mk (blk_below (g := gb113) (o := .cells #[.int .i64 a1_0, .int .i64 a1_1] 25 (0, 0)) (by (with_reducible repeat (first | refine blk_drewN ?_ _ | refine blk_drew ?_ | refine blk_alloc ?_ _)); exact BK113.out) hb); have n2_ := Aside0.mk (below_step (by repeat (first | (with_reducible first | exact HB.out | apply below_alloc | apply pw_below_drewN | apply below_drew1 | refine below_set ?_ GE112.out | refine below_set ?_ GE113.out) | exact HB.out)) hb); clear BK112; clear BK113; clear HB; have BK112 := n0_; have BK113 := n1_; have HB := n2_; clear n0_ n1_ n2_; (try clear hb); (try clear hb2); (try clear hk); (try clear hi)) | ((with_reducible refine gate_dst (N := 6) rfl ?_); refine box_event ?hg (N := 6) ?hd (cs := #[.int .i64 0, .int .i64 0]) (t := 25) ?hr ?_; (case hd => rfl); (case hg => rfl); (case hr => first | (go_simp; done) | (go_simp; rfl)); intro gb117 hg w22 hbox hb; have n0_ := Aside0.mk (blk_below (g := gb112) (o := .cells #[.int .i64 a0_0, .int .i64 a0_1] 25 (0, 0)) (by (with_reducible repeat (first | refine blk_drewN ?_ _ | refine blk_drew ?_ | refine blk_alloc ?_ _)); exact BK112.out) hb); have n1_ := Aside0.mk (blk_below (g := gb113) (o := .cells #[.int .i64 a1_0, .int .i64 a1_1] 25 (0, 0)) (by (with_reducible repeat (first | refine blk_drewN ?_ _ | refine blk_drew ?_ | refine blk_alloc ?_ _)); exact BK113.out) hb); have n2_ := Aside0.mk (below_step (by repeat (first | (with_reducible first | exact HB.out | apply below_alloc | apply pw_below_drewN | apply below_drew1 | refine below_set ?_ GE112.out | refine below_set ?_ GE113.out) | exact HB.out)) hb); have n3_ := Aside0.mk (hbox); have n4_ := Aside0.mk ((by rw [hg]; exact (below_size (by repeat (first | (with_reducible first | exact HB.out | apply below_alloc | apply pw_below_drewN | apply below_drew1 | refine below_set ?_ GE112.out | refine below_set ?_ GE113.out) | exact HB.out))) : w.heap.size ≤ gb117)); have n5_ := Aside0.mk ((by rw [hg]; exact (below_size (by repeat (first | (with_reducible first | exact HB.out | apply below_alloc | apply pw_below_drewN | apply below_drew1 | refine below_set ?_ GE112.out | refine below_set ?_ GE113.out) | exact HB.out))) : w.heap.size ≤ gb117)); have n6_ := Aside0.mk ((by rw [hg]; exact Nat.ne_of_lt (blk_lt (g := gb112) (o := .cells #[.int .i64 a0_0, .int .i64 a0_1] 25 (0, 0)) (by (with_reducible repeat (first | refine blk_drewN ?_ _ | refine blk_drew ?_ | refine blk_alloc ?_ _)); exact BK112.out)) : gb112 ≠ gb117)); have n7_ := Aside0.mk ((by rw [hg]; exact Nat.ne_of_gt (blk_lt (g := gb112) (o := .cells #[.int .i64 a0_0, .int .i64 a0_1] 25 (0, 0)) (by (with_reducible repeat (first | refine blk_drewN ?_ _ | refine blk_drew ?_ | refine blk_alloc ?_ _)); exact BK112.out)) : gb117 ≠ gb112)); have n8_ := Aside0.mk ((by rw [hg]; exact Nat.ne_of_lt (blk_lt (g := gb113) (o := .cells #[.int .i64 a1_0, .int .i64 a1_1] 25 (0, 0)) (by (with_reducible repeat (first | refine blk_drewN ?_ _ | refine blk_drew ?_ | refine blk_alloc ?_ _)); exact BK113.out)) : gb113 ≠ gb117)); have n9_ := Aside0.mk ((by rw [hg]; exact Nat.ne_of_gt (blk_lt (g := gb113) (o := .cells #[.int .i64 a1_0, .int .i64 a1_1] 25 (0, 0)) (by (with_reducible repeat (first | refine blk_drewN ?_ _ | refine blk_drew ?_ | refine blk_alloc ?_ _)); exact BK113.out)) : gb117 ≠ gb113)); clear BK112; clear BK113; clear HB; have BK112 := n0_; have BK113 := n1_; have HB := n2_; have BK117 := n3_; have GW117 := n4_; have GE117 := n5_; have NB112_117 := n6_; have NB117_112 := n7_; have NB113_117 := n8_; have NB117_113 := n9_; clear n0_ n1_ n2_ n3_ n4_ n5_ n6_ n7_ n8_ n9_; clear hb hbox hg; have hnb23 := NB117_112.out; have hnc23 := NB112_117.out; have hnb24 := NB117_113.out; have hnc24 := NB113_117.out; have hcz25_0 : w22.cell? ⟨gb117, 0, none⟩ = some (.int .i64 0) := (blk_cell BK117.out 0).trans rfl; have hcz25_1 : w22.cell? ⟨gb117, 1, none⟩ = some (.int .i64 0) := (blk_cell BK117.out 1).trans rfl; have hfz25_0 := blk_frozen BK117.out 0; have hfz25_1 := blk_frozen BK117.out 1))
    go_ret2
    exact ⟨by first | rfl | (simp [errW_none, errW_some] <;> rfl) | (simp [*, errW_none, errW_some] <;> rfl), by repeat (first | (with_reducible first | exact HB.out | apply below_alloc | apply pw_below_drewN | apply below_drew1 | refine below_set ?_ GE112.out | refine below_set ?_ GE113.out | refine below_set ?_ GE117.out) | exact HB.out)⟩
def span_ValidBox.f (k : Nat) (a0_0 : Int) (a0_1 : Int) (a0_2 : Int) (a0_3 : Int) : Option (Bool) := (span_Within.f k a0_0 a0_1 (-1000000) 1000000).bind fun bt120 => ((span_Within.f k a0_2 a0_3 (-1000000) 1000000).bind fun bt122 => (if bt120.2 = 0 then (if bt122.2 = 0 then (if bt120.1 = true then (some bt122.1) else (some false)) else (some false)) else (some false)))
theorem span_ValidBox.mono : ∀ a0 a1 a2 a3 k, LeO (span_ValidBox.f k a0 a1 a2 a3) (span_ValidBox.f (k + 1) a0 a1 a2 a3) := by
  intro a0 a1 a2 a3 k
  unfold span_ValidBox.f
  repeat' first
      | (with_reducible exact span_Within.mono _ _ _ _ _)
      | (with_reducible exact LeO.refl _)
      | (with_reducible exact LeO.none _)
      | (with_reducible refine LeO.ite ?_ ?_)
      | (with_reducible refine LeO.bind ?_ (fun _ => ?_))
      | exact span_Within.mono _ _ _ _ _
      | exact LeO.none _
      | refine LeO.ite ?_ ?_
      | refine LeO.bind ?_ (fun _ => ?_)
set_option maxHeartbeats 8000000 in
set_option maxRecDepth 100000 in
theorem span_ValidBox.calls (k : Nat) (a0_0 : Int) (a0_1 : Int) (a0_2 : Int) (a0_3 : Int) (r : Bool) (w : World) (h : span_ValidBox.f k a0_0 a0_1 a0_2 a0_3 = some r) :
    Calls Try.prog 34 #[.agg #[.int .i64 a0_0, .int .i64 a0_1, .int .i64 a0_2, .int .i64 a0_3]] w fun e w' => e = .returned (.bool r) ∧ Below w.heap.size w w' := by
  have hu27 := Try.underlying27
  have hu25 := Try.underlying25
  have HB := Aside0.mk (Below.refl w.heap.size w)
  have H : ((span_Within.f k a0_0 a0_1 (-1000000) 1000000).bind fun bt120 => ((span_Within.f k a0_2 a0_3 (-1000000) 1000000).bind fun bt122 => (if bt120.2 = 0 then (if bt122.2 = 0 then (if bt120.1 = true then (some bt122.1) else (some false)) else (some false)) else (some false)))) = some r := h
  clear h
  replace H := Option.bind_eq_some_iff.mp H
  obtain ⟨⟨t120, t121⟩, A20, H⟩ := H
  replace H : ((span_Within.f k a0_2 a0_3 (-1000000) 1000000).bind fun bt122 => (if t121 = 0 then (if bt122.2 = 0 then (if t120 = true then (some bt122.1) else (some false)) else (some false)) else (some false))) = some r := H
  have A2 := Aside0.mk A20
  clear A20
  replace H := Option.bind_eq_some_iff.mp H
  obtain ⟨⟨t122, t123⟩, A30, H⟩ := H
  replace H : (if t121 = 0 then (if t123 = 0 then (if t120 = true then (some t122) else (some false)) else (some false)) else (some false)) = some r := H
  have A3 := Aside0.mk A30
  clear A30
  by_cases c4 : t121 = 0
  · rw [if_pos c4] at H
    have c4b0 : (t121 == 0) = true := beq_iff_eq.mpr c4
    have c4b1 : (t121 != 0) = false := bne_eq_false_iff_eq.mpr c4
    clear c4
    by_cases c5 : t123 = 0
    · rw [if_pos c5] at H
      have c5b0 : (t123 == 0) = true := beq_iff_eq.mpr c5
      have c5b1 : (t123 != 0) = false := bne_eq_false_iff_eq.mpr c5
      clear c5
      by_cases c6 : t120 = true
      · subst c6
        have H1 : (some t122) = some r := by rw [if_pos rfl] at H; exact H
        clear H
        have H := H1
        clear H1
        obtain rfl := Option.some.inj H
        go_enter Try.func34, Try.ntmps34
        go_wp2_with (first | ((with_reducible refine gate_dst (N := 1) rfl ?_); refine box_event ?hg (N := 1) ?hd (cs := #[.int .i64 a0_0, .int .i64 a0_1, .int .i64 a0_2, .int .i64 a0_3]) (t := 27) ?hr ?_; (case hd => rfl); (case hg => rfl); (case hr => first | (go_simp; done) | (go_simp; rfl)); intro gb118 hg w7 hbox hb; have n0_ := Aside0.mk (below_step (by repeat (first | (with_reducible first | exact HB.out | apply below_alloc | apply pw_below_drewN | apply below_drew1) | exact HB.out)) hb); have n1_ := Aside0.mk (hbox); have n2_ := Aside0.mk ((by rw [hg]; exact (below_size (by repeat (first | (with_reducible first | exact HB.out | apply below_alloc | apply pw_below_drewN | apply below_drew1) | exact HB.out))) : w.heap.size ≤ gb118)); have n3_ := Aside0.mk ((by rw [hg]; exact (below_size (by repeat (first | (with_reducible first | exact HB.out | apply below_alloc | apply pw_below_drewN | apply below_drew1) | exact HB.out))) : w.heap.size ≤ gb118)); clear HB; have HB := n0_; have BK118 := n1_; have GW118 := n2_; have GE118 := n3_; clear n0_ n1_ n2_ n3_; clear hb hbox hg) | ((with_reducible refine gate_dst (N := 3) rfl ?_); refine box_event ?hg (N := 3) ?hd (cs := #[.int .i64 0, .int .i64 0]) (t := 25) ?hr ?_; (case hd => rfl); (case hg => rfl); (case hr => first | (go_simp; done) | (go_simp; rfl)); intro gb119 hg w8 hbox hb; have n0_ := Aside0.mk (blk_below (g := gb118) (o := .cells #[.int .i64 a0_0, .int .i64 a0_1, .int .i64 a0_2, .int .i64 a0_3] 27 (0, 0)) (by (with_reducible repeat (first | refine blk_drewN ?_ _ | refine blk_drew ?_ | refine blk_alloc ?_ _)); exact BK118.out) hb); have n1_ := Aside0.mk (below_step (by repeat (first | (with_reducible first | exact HB.out | apply below_alloc | apply pw_below_drewN | apply below_drew1 | refine below_set ?_ GE118.out) | exact HB.out)) hb); have n2_ := Aside0.mk (hbox); have n3_ := Aside0.mk ((by rw [hg]; exact (below_size (by repeat (first | (with_reducible first | exact HB.out | apply below_alloc | apply pw_below_drewN | apply below_drew1 | refine below_set ?_ GE118.out) | exact HB.out))) : w.heap.size ≤ gb119)); have n4_ := Aside0.mk ((by rw [hg]; exact (below_size (by repeat (first | (with_reducible first | exact HB.out | apply below_alloc | apply pw_below_drewN | apply below_drew1 | refine below_set ?_ GE118.out) | exact HB.out))) : w.heap.size ≤ gb119)); have n5_ := Aside0.mk ((by rw [hg]; exact Nat.ne_of_lt (blk_lt (g := gb118) (o := .cells #[.int .i64 a0_0, .int .i64 a0_1, .int .i64 a0_2, .int .i64 a0_3] 27 (0, 0)) (by (with_reducible repeat (first | refine blk_drewN ?_ _ | refine blk_drew ?_ | refine blk_alloc ?_ _)); exact BK118.out)) : gb118 ≠ gb119)); have n6_ := Aside0.mk ((by rw [hg]; exact Nat.ne_of_gt (blk_lt (g := gb118) (o := .cells #[.int .i64 a0_0, .int .i64 a0_1, .int .i64 a0_2, .int .i64 a0_3] 27 (0, 0)) (by (with_reducible repeat (first | refine blk_drewN ?_ _ | refine blk_drew ?_ | refine blk_alloc ?_ _)); exact BK118.out)) : gb119 ≠ gb118)); clear BK118; clear HB; have BK118 := n0_; have HB := n1_; have BK119 := n2_; have GW119 := n3_; have GE119 := n4_; have NB118_119 := n5_; have NB119_118 := n6_; clear n0_ n1_ n2_ n3_ n4_ n5_ n6_; clear hb hbox hg; have hnb9 := NB119_118.out; have hnc9 := NB118_119.out; have hcz10_0 : w8.cell? ⟨gb119, 0, none⟩ = some (.int .i64 0) := (blk_cell BK119.out 0).trans rfl; have hcz10_1 : w8.cell? ⟨gb119, 1, none⟩ = some (.int .i64 0) := (blk_cell BK119.out 1).trans rfl; have hfz10_0 := blk_frozen BK119.out 0; have hfz10_1 := blk_frozen BK119.out 1; have hcz11_0 : w8.cell? ⟨gb118, 0, none⟩ = some (.int .i64 a0_0) := (blk_cell BK118.out 0).trans rfl; have hcz11_1 : w8.cell? ⟨gb118, 1, none⟩ = some (.int .i64 a0_1) := (blk_cell BK118.out 1).trans rfl; have hcz11_2 : w8.cell? ⟨gb118, 2, none⟩ = some (.int .i64 a0_2) := (blk_cell BK118.out 2).trans rfl; have hcz11_3 : w8.cell? ⟨gb118, 3, none⟩ = some (.int .i64 a0_3) := (blk_cell BK118.out 3).trans rfl; have hfz11_0 := blk_frozen BK118.out 0; have hfz11_1 := blk_frozen BK118.out 1; have hfz11_2 := blk_frozen BK118.out 2; have hfz11_3 := blk_frozen BK118.out 3) | ((with_reducible refine gate_callee (f := 53) rfl ?_); refine goesL_ (some 13) rfl rfl Try.func53 (by kernel_rfl) rfl #[.agg #[.int .i64 a0_0, .int .i64 a0_1], .agg #[.int .i64 (-1000000), .int .i64 1000000]] rfl (by (try simp only [List.map_toArray, List.map_cons, List.map_nil]); first | done | rfl | (simp only [List.length_drop, List.length_take]; rfl)) ?_; (with_reducible refine (span_Within.calls k a0_0 a0_1 (-1000000) 1000000 true t121 _ A2.out).mono ?_); rintro e w12 ⟨rfl, hb⟩; refine ⟨_, rfl, ?_⟩; have n0_ := Aside0.mk (blk_below (g := gb118) (o := .cells #[.int .i64 a0_0, .int .i64 a0_1, .int .i64 a0_2, .int .i64 a0_3] 27 (0, 0)) (by (with_reducible repeat (first | refine blk_drewN ?_ _ | refine blk_drew ?_ | refine blk_alloc ?_ _)); refine blk_far ?_ NB118_119.out _; (with_reducible repeat (first | refine blk_drewN ?_ _ | refine blk_drew ?_ | refine blk_alloc ?_ _)); refine blk_far ?_ NB118_119.out _; (with_reducible repeat (first | refine blk_drewN ?_ _ | refine blk_drew ?_ | refine blk_alloc ?_ _)); exact BK118.out) hb); have n1_ := Aside0.mk (blk_below (g := gb119) (o := .cells #[.int .i64 (-1000000), .int .i64 1000000] 25 (0, 0)) (by (with_reducible repeat (first | refine blk_drewN ?_ _ | refine blk_drew ?_ | refine blk_alloc ?_ _)); refine blk_put (cs := #[.int .i64 (-1000000), .int .i64 0]) ?_ 1 _ rfl; (with_reducible repeat (first | refine blk_drewN ?_ _ | refine blk_drew ?_ | refine blk_alloc ?_ _)); refine blk_put (cs := #[.int .i64 0, .int .i64 0]) ?_ 0 _ rfl; (with_reducible repeat (first | refine blk_drewN ?_ _ | refine blk_drew ?_ | refine blk_alloc ?_ _)); exact BK119.out) hb); have n2_ := Aside0.mk (below_step (by repeat (first | (with_reducible first | exact HB.out | apply below_alloc | apply pw_below_drewN | apply below_drew1 | refine below_set ?_ GE118.out | refine below_set ?_ GE119.out) | exact HB.out)) hb); clear BK118; clear BK119; clear HB; have BK118 := n0_; have BK119 := n1_; have HB := n2_; clear n0_ n1_ n2_; (try clear hb); (try clear hb2); (try clear hk); (try clear hi); have hcz13_0 : w12.cell? ⟨gb118, 0, none⟩ = some (.int .i64 a0_0) := (blk_cell BK118.out 0).trans rfl; have hcz13_1 : w12.cell? ⟨gb118, 1, none⟩ = some (.int .i64 a0_1) := (blk_cell BK118.out 1).trans rfl; have hcz13_2 : w12.cell? ⟨gb118, 2, none⟩ = some (.int .i64 a0_2) := (blk_cell BK118.out 2).trans rfl; have hcz13_3 : w12.cell? ⟨gb118, 3, none⟩ = some (.int .i64 a0_3) := (blk_cell BK118.out 3).trans rfl; have hfz13_0 := blk_frozen BK118.out 0; have hfz13_1 := blk_frozen BK118.out 1; have hfz13_2 := blk_frozen BK118.out 2; have hfz13_3 := blk_frozen BK118.out 3; have hcz14_0 : w12.cell? ⟨gb119, 0, none⟩ = some (.int .i64 (-1000000)) := (blk_cell BK119.out 0).trans rfl; have hcz14_1 : w12.cell? ⟨gb119, 1, none⟩ = some (.int .i64 1000000) := (blk_cell BK119.out 1).trans rfl; have hfz14_0 := blk_frozen BK119.out 0; have hfz14_1 := blk_frozen BK119.out 1) | ((with_reducible refine gate_callee (f := 53) rfl ?_); refine goesL_ (some 20) rfl rfl Try.func53 (by kernel_rfl) rfl #[.agg #[.int .i64 a0_2, .int .i64 a0_3], .agg #[.int .i64 (-1000000), .int .i64 1000000]] rfl (by (try simp only [List.map_toArray, List.map_cons, List.map_nil]); first | done | rfl | (simp only [List.length_drop, List.length_take]; rfl)) ?_; (with_reducible refine (span_Within.calls k a0_2 a0_3 (-1000000) 1000000 t122 t123 _ A3.out).mono ?_); rintro e w15 ⟨rfl, hb⟩; refine ⟨_, rfl, ?_⟩; have n0_ := Aside0.mk (blk_below (g := gb118) (o := .cells #[.int .i64 a0_0, .int .i64 a0_1, .int .i64 a0_2, .int .i64 a0_3] 27 (0, 0)) (by (with_reducible repeat (first | refine blk_drewN ?_ _ | refine blk_drew ?_ | refine blk_alloc ?_ _)); exact BK118.out) hb); have n1_ := Aside0.mk (blk_below (g := gb119) (o := .cells #[.int .i64 (-1000000), .int .i64 1000000] 25 (0, 0)) (by (with_reducible repeat (first | refine blk_drewN ?_ _ | refine blk_drew ?_ | refine blk_alloc ?_ _)); exact BK119.out) hb); have n2_ := Aside0.mk (below_step (by repeat (first | (with_reducible first | exact HB.out | apply below_alloc | apply pw_below_drewN | apply below_drew1 | refine below_set ?_ GE118.out | refine below_set ?_ GE119.out) | exact HB.out)) hb); clear BK118; clear BK119; clear HB; have BK118 := n0_; have BK119 := n1_; have HB := n2_; clear n0_ n1_ n2_; (try clear hb); (try clear hb2); (try clear hk); (try clear hi)))
        go_ret
        exact ⟨by first | rfl | (simp [errW_none, errW_some] <;> rfl) | (simp [*, errW_none, errW_some] <;> rfl), by repeat (first | (with_reducible first | exact HB.out | apply below_alloc | apply pw_below_drewN | apply below_drew1 | refine below_set ?_ GE118.out | refine below_set ?_ GE119.out) | exact HB.out)⟩
      · replace c6 := Bool.eq_false_iff.mpr c6
        subst c6
        have H1 : (some false) = some r := by rw [if_neg (show ¬ (false = true) by decide)] at H; exact H
        clear H
        have H := H1
        clear H1
        obtain rfl := Option.some.inj H
        go_enter Try.func34, Try.ntmps34
        go_wp2_with (first | ((with_reducible refine gate_dst (N := 1) rfl ?_); refine box_event ?hg (N := 1) ?hd (cs := #[.int .i64 a0_0, .int .i64 a0_1, .int .i64 a0_2, .int .i64 a0_3]) (t := 27) ?hr ?_; (case hd => rfl); (case hg => rfl); (case hr => first | (go_simp; done) | (go_simp; rfl)); intro gb118 hg w16 hbox hb; have n0_ := Aside0.mk (below_step (by repeat (first | (with_reducible first | exact HB.out | apply below_alloc | apply pw_below_drewN | apply below_drew1) | exact HB.out)) hb); have n1_ := Aside0.mk (hbox); have n2_ := Aside0.mk ((by rw [hg]; exact (below_size (by repeat (first | (with_reducible first | exact HB.out | apply below_alloc | apply pw_below_drewN | apply below_drew1) | exact HB.out))) : w.heap.size ≤ gb118)); have n3_ := Aside0.mk ((by rw [hg]; exact (below_size (by repeat (first | (with_reducible first | exact HB.out | apply below_alloc | apply pw_below_drewN | apply below_drew1) | exact HB.out))) : w.heap.size ≤ gb118)); clear HB; have HB := n0_; have BK118 := n1_; have GW118 := n2_; have GE118 := n3_; clear n0_ n1_ n2_ n3_; clear hb hbox hg) | ((with_reducible refine gate_dst (N := 3) rfl ?_); refine box_event ?hg (N := 3) ?hd (cs := #[.int .i64 0, .int .i64 0]) (t := 25) ?hr ?_; (case hd => rfl); (case hg => rfl); (case hr => first | (go_simp; done) | (go_simp; rfl)); intro gb119 hg w17 hbox hb; have n0_ := Aside0.mk (blk_below (g := gb118) (o := .cells #[.int .i64 a0_0, .int .i64 a0_1, .int .i64 a0_2, .int .i64 a0_3] 27 (0, 0)) (by (with_reducible repeat (first | refine blk_drewN ?_ _ | refine blk_drew ?_ | refine blk_alloc ?_ _)); exact BK118.out) hb); have n1_ := Aside0.mk (below_step (by repeat (first | (with_reducible first | exact HB.out | apply below_alloc | apply pw_below_drewN | apply below_drew1 | refine below_set ?_ GE118.out) | exact HB.out)) hb); have n2_ := Aside0.mk (hbox); have n3_ := Aside0.mk ((by rw [hg]; exact (below_size (by repeat (first | (with_reducible first | exact HB.out | apply below_alloc | apply pw_below_drewN | apply below_drew1 | refine below_set ?_ GE118.out) | exact HB.out))) : w.heap.size ≤ gb119)); have n4_ := Aside0.mk ((by rw [hg]; exact (below_size (by repeat (first | (with_reducible first | exact HB.out | apply below_alloc | apply pw_below_drewN | apply below_drew1 | refine below_set ?_ GE118.out) | exact HB.out))) : w.heap.size ≤ gb119)); have n5_ := Aside0.mk ((by rw [hg]; exact Nat.ne_of_lt (blk_lt (g := gb118) (o := .cells #[.int .i64 a0_0, .int .i64 a0_1, .int .i64 a0_2, .int .i64 a0_3] 27 (0, 0)) (by (with_reducible repeat (first | refine blk_drewN ?_ _ | refine blk_drew ?_ | refine blk_alloc ?_ _)); exact BK118.out)) : gb118 ≠ gb119)); have n6_ := Aside0.mk ((by rw [hg]; exact Nat.ne_of_gt (blk_lt (g := gb118) (o := .cells #[.int .i64 a0_0, .int .i64 a0_1, .int .i64 a0_2, .int .i64 a0_3] 27 (0, 0)) (by (with_reducible repeat (first | refine blk_drewN ?_ _ | refine blk_drew ?_ | refine blk_alloc ?_ _)); exact BK118.out)) : gb119 ≠ gb118)); clear BK118; clear HB; have BK118 := n0_; have HB := n1_; have BK119 := n2_; have GW119 := n3_; have GE119 := n4_; have NB118_119 := n5_; have NB119_118 := n6_; clear n0_ n1_ n2_ n3_ n4_ n5_ n6_; clear hb hbox hg; have hnb18 := NB119_118.out; have hnc18 := NB118_119.out; have hcz19_0 : w17.cell? ⟨gb119, 0, none⟩ = some (.int .i64 0) := (blk_cell BK119.out 0).trans rfl; have hcz19_1 : w17.cell? ⟨gb119, 1, none⟩ = some (.int .i64 0) := (blk_cell BK119.out 1).trans rfl; have hfz19_0 := blk_frozen BK119.out 0; have hfz19_1 := blk_frozen BK119.out 1; have hcz20_0 : w17.cell? ⟨gb118, 0, none⟩ = some (.int .i64 a0_0) := (blk_cell BK118.out 0).trans rfl; have hcz20_1 : w17.cell? ⟨gb118, 1, none⟩ = some (.int .i64 a0_1) := (blk_cell BK118.out 1).trans rfl; have hcz20_2 : w17.cell? ⟨gb118, 2, none⟩ = some (.int .i64 a0_2) := (blk_cell BK118.out 2).trans rfl; have hcz20_3 : w17.cell? ⟨gb118, 3, none⟩ = some (.int .i64 a0_3) := (blk_cell BK118.out 3).trans rfl; have hfz20_0 := blk_frozen BK118.out 0; have hfz20_1 := blk_frozen BK118.out 1; have hfz20_2 := blk_frozen BK118.out 2; have hfz20_3 := blk_frozen BK118.out 3) | ((with_reducible refine gate_callee (f := 53) rfl ?_); refine goesL_ (some 13) rfl rfl Try.func53 (by kernel_rfl) rfl #[.agg #[.int .i64 a0_0, .int .i64 a0_1], .agg #[.int .i64 (-1000000), .int .i64 1000000]] rfl (by (try simp only [List.map_toArray, List.map_cons, List.map_nil]); first | done | rfl | (simp only [List.length_drop, List.length_take]; rfl)) ?_; (with_reducible refine (span_Within.calls k a0_0 a0_1 (-1000000) 1000000 false t121 _ A2.out).mono ?_); rintro e w21 ⟨rfl, hb⟩; refine ⟨_, rfl, ?_⟩; have n0_ := Aside0.mk (blk_below (g := gb118) (o := .cells #[.int .i64 a0_0, .int .i64 a0_1, .int .i64 a0_2, .int .i64 a0_3] 27 (0, 0)) (by (with_reducible repeat (first | refine blk_drewN ?_ _ | refine blk_drew ?_ | refine blk_alloc ?_ _)); refine blk_far ?_ NB118_119.out _; (with_reducible repeat (first | refine blk_drewN ?_ _ | refine blk_drew ?_ | refine blk_alloc ?_ _)); refine blk_far ?_ NB118_119.out _; (with_reducible repeat (first | refine blk_drewN ?_ _ | refine blk_drew ?_ | refine blk_alloc ?_ _)); exact BK118.out) hb); have n1_ := Aside0.mk (blk_below (g := gb119) (o := .cells #[.int .i64 (-1000000), .int .i64 1000000] 25 (0, 0)) (by (with_reducible repeat (first | refine blk_drewN ?_ _ | refine blk_drew ?_ | refine blk_alloc ?_ _)); refine blk_put (cs := #[.int .i64 (-1000000), .int .i64 0]) ?_ 1 _ rfl; (with_reducible repeat (first | refine blk_drewN ?_ _ | refine blk_drew ?_ | refine blk_alloc ?_ _)); refine blk_put (cs := #[.int .i64 0, .int .i64 0]) ?_ 0 _ rfl; (with_reducible repeat (first | refine blk_drewN ?_ _ | refine blk_drew ?_ | refine blk_alloc ?_ _)); exact BK119.out) hb); have n2_ := Aside0.mk (below_step (by repeat (first | (with_reducible first | exact HB.out | apply below_alloc | apply pw_below_drewN | apply below_drew1 | refine below_set ?_ GE118.out | refine below_set ?_ GE119.out) | exact HB.out)) hb); clear BK118; clear BK119; clear HB; have BK118 := n0_; have BK119 := n1_; have HB := n2_; clear n0_ n1_ n2_; (try clear hb); (try clear hb2); (try clear hk); (try clear hi); have hcz22_0 : w21.cell? ⟨gb118, 0, none⟩ = some (.int .i64 a0_0) := (blk_cell BK118.out 0).trans rfl; have hcz22_1 : w21.cell? ⟨gb118, 1, none⟩ = some (.int .i64 a0_1) := (blk_cell BK118.out 1).trans rfl; have hcz22_2 : w21.cell? ⟨gb118, 2, none⟩ = some (.int .i64 a0_2) := (blk_cell BK118.out 2).trans rfl; have hcz22_3 : w21.cell? ⟨gb118, 3, none⟩ = some (.int .i64 a0_3) := (blk_cell BK118.out 3).trans rfl; have hfz22_0 := blk_frozen BK118.out 0; have hfz22_1 := blk_frozen BK118.out 1; have hfz22_2 := blk_frozen BK118.out 2; have hfz22_3 := blk_frozen BK118.out 3; have hcz23_0 : w21.cell? ⟨gb119, 0, none⟩ = some (.int .i64 (-1000000)) := (blk_cell BK119.out 0).trans rfl; have hcz23_1 : w21.cell? ⟨gb119, 1, none⟩ = some (.int .i64 1000000) := (blk_cell BK119.out 1).trans rfl; have hfz23_0 := blk_frozen BK119.out 0; have hfz23_1 := blk_frozen BK119.out 1) | ((with_reducible refine gate_callee (f := 53) rfl ?_); refine goesL_ (some 20) rfl rfl Try.func53 (by kernel_rfl) rfl #[.agg #[.int .i64 a0_2, .int .i64 a0_3], .agg #[.int .i64 (-1000000), .int .i64 1000000]] rfl (by (try simp only [List.map_toArray, List.map_cons, List.map_nil]); first | done | rfl | (simp only [List.length_drop, List.length_take]; rfl)) ?_; (with_reducible refine (span_Within.calls k a0_2 a0_3 (-1000000) 1000000 t122 t123 _ A3.out).mono ?_); rintro e w24 ⟨rfl, hb⟩; refine ⟨_, rfl, ?_⟩; have n0_ := Aside0.mk (blk_below (g := gb118) (o := .cells #[.int .i64 a0_0, .int .i64 a0_1, .int .i64 a0_2, .int .i64 a0_3] 27 (0, 0)) (by (with_reducible repeat (first | refine blk_drewN ?_ _ | refine blk_drew ?_ | refine blk_alloc ?_ _)); exact BK118.out) hb); have n1_ := Aside0.mk (blk_below (g := gb119) (o := .cells #[.int .i64 (-1000000), .int .i64 1000000] 25 (0, 0)) (by (with_reducible repeat (first | refine blk_drewN ?_ _ | refine blk_drew ?_ | refine blk_alloc ?_ _)); exact BK119.out) hb); have n2_ := Aside0.mk (below_step (by repeat (first | (with_reducible first | exact HB.out | apply below_alloc | apply pw_below_drewN | apply below_drew1 | refine below_set ?_ GE118.out | refine below_set ?_ GE119.out) | exact HB.out)) hb); clear BK118; clear BK119; clear HB; have BK118 := n0_; have BK119 := n1_; have HB := n2_; clear n0_ n1_ n2_; (try clear hb); (try clear hb2); (try clear hk); (try clear hi)))
        go_ret
        exact ⟨by first | rfl | (simp [errW_none, errW_some] <;> rfl) | (simp [*, errW_none, errW_some] <;> rfl), by repeat (first | (with_reducible first | exact HB.out | apply below_alloc | apply pw_below_drewN | apply below_drew1 | refine below_set ?_ GE118.out | refine below_set ?_ GE119.out) | exact HB.out)⟩
    · rw [if_neg c5] at H
      have c5b0 : (t123 == 0) = false := beq_eq_false_iff_ne.mpr c5
      have c5b1 : (t123 != 0) = true := bne_iff_ne.mpr c5
      obtain rfl := Option.some.inj H
      go_enter Try.func34, Try.ntmps34
      go_wp2_with (first | ((with_reducible refine gate_dst (N := 1) rfl ?_); refine box_event ?hg (N := 1) ?hd (cs := #[.int .i64 a0_0, .int .i64 a0_1, .int .i64 a0_2, .int .i64 a0_3]) (t := 27) ?hr ?_; (case hd => rfl); (case hg => rfl); (case hr => first | (go_simp; done) | (go_simp; rfl)); intro gb118 hg w25 hbox hb; have n0_ := Aside0.mk (below_step (by repeat (first | (with_reducible first | exact HB.out | apply below_alloc | apply pw_below_drewN | apply below_drew1) | exact HB.out)) hb); have n1_ := Aside0.mk (hbox); have n2_ := Aside0.mk ((by rw [hg]; exact (below_size (by repeat (first | (with_reducible first | exact HB.out | apply below_alloc | apply pw_below_drewN | apply below_drew1) | exact HB.out))) : w.heap.size ≤ gb118)); have n3_ := Aside0.mk ((by rw [hg]; exact (below_size (by repeat (first | (with_reducible first | exact HB.out | apply below_alloc | apply pw_below_drewN | apply below_drew1) | exact HB.out))) : w.heap.size ≤ gb118)); clear HB; have HB := n0_; have BK118 := n1_; have GW118 := n2_; have GE118 := n3_; clear n0_ n1_ n2_ n3_; clear hb hbox hg) | ((with_reducible refine gate_dst (N := 3) rfl ?_); refine box_event ?hg (N := 3) ?hd (cs := #[.int .i64 0, .int .i64 0]) (t := 25) ?hr ?_; (case hd => rfl); (case hg => rfl); (case hr => first | (go_simp; done) | (go_simp; rfl)); intro gb119 hg w26 hbox hb; have n0_ := Aside0.mk (blk_below (g := gb118) (o := .cells #[.int .i64 a0_0, .int .i64 a0_1, .int .i64 a0_2, .int .i64 a0_3] 27 (0, 0)) (by (with_reducible repeat (first | refine blk_drewN ?_ _ | refine blk_drew ?_ | refine blk_alloc ?_ _)); exact BK118.out) hb); have n1_ := Aside0.mk (below_step (by repeat (first | (with_reducible first | exact HB.out | apply below_alloc | apply pw_below_drewN | apply below_drew1 | refine below_set ?_ GE118.out) | exact HB.out)) hb); have n2_ := Aside0.mk (hbox); have n3_ := Aside0.mk ((by rw [hg]; exact (below_size (by repeat (first | (with_reducible first | exact HB.out | apply below_alloc | apply pw_below_drewN | apply below_drew1 | refine below_set ?_ GE118.out) | exact HB.out))) : w.heap.size ≤ gb119)); have n4_ := Aside0.mk ((by rw [hg]; exact (below_size (by repeat (first | (with_reducible first | exact HB.out | apply below_alloc | apply pw_below_drewN | apply below_drew1 | refine below_set ?_ GE118.out) | exact HB.out))) : w.heap.size ≤ gb119)); have n5_ := Aside0.mk ((by rw [hg]; exact Nat.ne_of_lt (blk_lt (g := gb118) (o := .cells #[.int .i64 a0_0, .int .i64 a0_1, .int .i64 a0_2, .int .i64 a0_3] 27 (0, 0)) (by (with_reducible repeat (first | refine blk_drewN ?_ _ | refine blk_drew ?_ | refine blk_alloc ?_ _)); exact BK118.out)) : gb118 ≠ gb119)); have n6_ := Aside0.mk ((by rw [hg]; exact Nat.ne_of_gt (blk_lt (g := gb118) (o := .cells #[.int .i64 a0_0, .int .i64 a0_1, .int .i64 a0_2, .int .i64 a0_3] 27 (0, 0)) (by (with_reducible repeat (first | refine blk_drewN ?_ _ | refine blk_drew ?_ | refine blk_alloc ?_ _)); exact BK118.out)) : gb119 ≠ gb118)); clear BK118; clear HB; have BK118 := n0_; have HB := n1_; have BK119 := n2_; have GW119 := n3_; have GE119 := n4_; have NB118_119 := n5_; have NB119_118 := n6_; clear n0_ n1_ n2_ n3_ n4_ n5_ n6_; clear hb hbox hg; have hnb27 := NB119_118.out; have hnc27 := NB118_119.out; have hcz28_0 : w26.cell? ⟨gb119, 0, none⟩ = some (.int .i64 0) := (blk_cell BK119.out 0).trans rfl; have hcz28_1 : w26.cell? ⟨gb119, 1, none⟩ = some (.int .i64 0) := (blk_cell BK119.out 1).trans rfl; have hfz28_0 := blk_frozen BK119.out 0; have hfz28_1 := blk_frozen BK119.out 1; have hcz29_0 : w26.cell? ⟨gb118, 0, none⟩ = some (.int .i64 a0_0) := (blk_cell BK118.out 0).trans rfl; have hcz29_1 : w26.cell? ⟨gb118, 1, none⟩ = some (.int .i64 a0_1) := (blk_cell BK118.out 1).trans rfl; have hcz29_2 : w26.cell? ⟨gb118, 2, none⟩ = some (.int .i64 a0_2) := (blk_cell BK118.out 2).trans rfl; have hcz29_3 : w26.cell? ⟨gb118, 3, none⟩ = some (.int .i64 a0_3) := (blk_cell BK118.out 3).trans rfl; have hfz29_0 := blk_frozen BK118.out 0; have hfz29_1 := blk_frozen BK118.out 1; have hfz29_2 := blk_frozen BK118.out 2; have hfz29_3 := blk_frozen BK118.out 3) | ((with_reducible refine gate_callee (f := 53) rfl ?_); refine goesL_ (some 13) rfl rfl Try.func53 (by kernel_rfl) rfl #[.agg #[.int .i64 a0_0, .int .i64 a0_1], .agg #[.int .i64 (-1000000), .int .i64 1000000]] rfl (by (try simp only [List.map_toArray, List.map_cons, List.map_nil]); first | done | rfl | (simp only [List.length_drop, List.length_take]; rfl)) ?_; (with_reducible refine (span_Within.calls k a0_0 a0_1 (-1000000) 1000000 t120 t121 _ A2.out).mono ?_); rintro e w30 ⟨rfl, hb⟩; refine ⟨_, rfl, ?_⟩; have n0_ := Aside0.mk (blk_below (g := gb118) (o := .cells #[.int .i64 a0_0, .int .i64 a0_1, .int .i64 a0_2, .int .i64 a0_3] 27 (0, 0)) (by (with_reducible repeat (first | refine blk_drewN ?_ _ | refine blk_drew ?_ | refine blk_alloc ?_ _)); refine blk_far ?_ NB118_119.out _; (with_reducible repeat (first | refine blk_drewN ?_ _ | refine blk_drew ?_ | refine blk_alloc ?_ _)); refine blk_far ?_ NB118_119.out _; (with_reducible repeat (first | refine blk_drewN ?_ _ | refine blk_drew ?_ | refine blk_alloc ?_ _)); exact BK118.out) hb); have n1_ := Aside0.mk (blk_below (g := gb119) (o := .cells #[.int .i64 (-1000000), .int .i64 1000000] 25 (0, 0)) (by (with_reducible repeat (first | refine blk_drewN ?_ _ | refine blk_drew ?_ | refine blk_alloc ?_ _)); refine blk_put (cs := #[.int .i64 (-1000000), .int .i64 0]) ?_ 1 _ rfl; (with_reducible repeat (first | refine blk_drewN ?_ _ | refine blk_drew ?_ | refine blk_alloc ?_ _)); refine blk_put (cs := #[.int .i64 0, .int .i64 0]) ?_ 0 _ rfl; (with_reducible repeat (first | refine blk_drewN ?_ _ | refine blk_drew ?_ | refine blk_alloc ?_ _)); exact BK119.out) hb); have n2_ := Aside0.mk (below_step (by repeat (first | (with_reducible first | exact HB.out | apply below_alloc | apply pw_below_drewN | apply below_drew1 | refine below_set ?_ GE118.out | refine below_set ?_ GE119.out) | exact HB.out)) hb); clear BK118; clear BK119; clear HB; have BK118 := n0_; have BK119 := n1_; have HB := n2_; clear n0_ n1_ n2_; (try clear hb); (try clear hb2); (try clear hk); (try clear hi); have hcz31_0 : w30.cell? ⟨gb118, 0, none⟩ = some (.int .i64 a0_0) := (blk_cell BK118.out 0).trans rfl; have hcz31_1 : w30.cell? ⟨gb118, 1, none⟩ = some (.int .i64 a0_1) := (blk_cell BK118.out 1).trans rfl; have hcz31_2 : w30.cell? ⟨gb118, 2, none⟩ = some (.int .i64 a0_2) := (blk_cell BK118.out 2).trans rfl; have hcz31_3 : w30.cell? ⟨gb118, 3, none⟩ = some (.int .i64 a0_3) := (blk_cell BK118.out 3).trans rfl; have hfz31_0 := blk_frozen BK118.out 0; have hfz31_1 := blk_frozen BK118.out 1; have hfz31_2 := blk_frozen BK118.out 2; have hfz31_3 := blk_frozen BK118.out 3; have hcz32_0 : w30.cell? ⟨gb119, 0, none⟩ = some (.int .i64 (-1000000)) := (blk_cell BK119.out 0).trans rfl; have hcz32_1 : w30.cell? ⟨gb119, 1, none⟩ = some (.int .i64 1000000) := (blk_cell BK119.out 1).trans rfl; have hfz32_0 := blk_frozen BK119.out 0; have hfz32_1 := blk_frozen BK119.out 1) | ((with_reducible refine gate_callee (f := 53) rfl ?_); refine goesL_ (some 20) rfl rfl Try.func53 (by kernel_rfl) rfl #[.agg #[.int .i64 a0_2, .int .i64 a0_3], .agg #[.int .i64 (-1000000), .int .i64 1000000]] rfl (by (try simp only [List.map_toArray, List.map_cons, List.map_nil]); first | done | rfl | (simp only [List.length_drop, List.length_take]; rfl)) ?_; (with_reducible refine (span_Within.calls k a0_2 a0_3 (-1000000) 1000000 t122 t123 _ A3.out).mono ?_); rintro e w33 ⟨rfl, hb⟩; refine ⟨_, rfl, ?_⟩; have n0_ := Aside0.mk (blk_below (g := gb118) (o := .cells #[.int .i64 a0_0, .int .i64 a0_1, .int .i64 a0_2, .int .i64 a0_3] 27 (0, 0)) (by (with_reducible repeat (first | refine blk_drewN ?_ _ | refine blk_drew ?_ | refine blk_alloc ?_ _)); exact BK118.out) hb); have n1_ := Aside0.mk (blk_below (g := gb119) (o := .cells #[.int .i64 (-1000000), .int .i64 1000000] 25 (0, 0)) (by (with_reducible repeat (first | refine blk_drewN ?_ _ | refine blk_drew ?_ | refine blk_alloc ?_ _)); exact BK119.out) hb); have n2_ := Aside0.mk (below_step (by repeat (first | (with_reducible first | exact HB.out | apply below_alloc | apply pw_below_drewN | apply below_drew1 | refine below_set ?_ GE118.out | refine below_set ?_ GE119.out) | exact HB.out)) hb); clear BK118; clear BK119; clear HB; have BK118 := n0_; have BK119 := n1_; have HB := n2_; clear n0_ n1_ n2_; (try clear hb); (try clear hb2); (try clear hk); (try clear hi)))
      go_ret
      exact ⟨by first | rfl | (simp [errW_none, errW_some] <;> rfl) | (simp [*, errW_none, errW_some] <;> rfl), by repeat (first | (with_reducible first | exact HB.out | apply below_alloc | apply pw_below_drewN | apply below_drew1 | refine below_set ?_ GE118.out | refine below_set ?_ GE119.out) | exact HB.out)⟩
  · rw [if_neg c4] at H
    have c4b0 : (t121 == 0) = false := beq_eq_false_iff_ne.mpr c4
    have c4b1 : (t121 != 0) = true := bne_iff_ne.mpr c4
    obtain rfl := Option.some.inj H
    go_enter Try.func34, Try.ntmps34
    go_wp2_with (first | ((with_reducible refine gate_dst (N := 1) rfl ?_); refine box_event ?hg (N := 1) ?hd (cs := #[.int .i64 a0_0, .int .i64 a0_1, .int .i64 a0_2, .int .i64 a0_3]) (t := 27) ?hr ?_; (case hd => rfl); (case hg => rfl); (case hr => first | (go_simp; done) | (go_simp; rfl)); intro gb118 hg w34 hbox hb; have n0_ := Aside0.mk (below_step (by repeat (first | (with_reducible first | exact HB.out | apply below_alloc | apply pw_below_drewN | apply below_drew1) | exact HB.out)) hb); have n1_ := Aside0.mk (hbox); have n2_ := Aside0.mk ((by rw [hg]; exact (below_size (by repeat (first | (with_reducible first | exact HB.out | apply below_alloc | apply pw_below_drewN | apply below_drew1) | exact HB.out))) : w.heap.size ≤ gb118)); have n3_ := Aside0.mk ((by rw [hg]; exact (below_size (by repeat (first | (with_reducible first | exact HB.out | apply below_alloc | apply pw_below_drewN | apply below_drew1) | exact HB.out))) : w.heap.size ≤ gb118)); clear HB; have HB := n0_; have BK118 := n1_; have GW118 := n2_; have GE118 := n3_; clear n0_ n1_ n2_ n3_; clear hb hbox hg) | ((with_reducible refine gate_dst (N := 3) rfl ?_); refine box_event ?hg (N := 3) ?hd (cs := #[.int .i64 0, .int .i64 0]) (t := 25) ?hr ?_; (case hd => rfl); (case hg => rfl); (case hr => first | (go_simp; done) | (go_simp; rfl)); intro gb119 hg w35 hbox hb; have n0_ := Aside0.mk (blk_below (g := gb118) (o := .cells #[.int .i64 a0_0, .int .i64 a0_1, .int .i64 a0_2, .int .i64 a0_3] 27 (0, 0)) (by (with_reducible repeat (first | refine blk_drewN ?_ _ | refine blk_drew ?_ | refine blk_alloc ?_ _)); exact BK118.out) hb); have n1_ := Aside0.mk (below_step (by repeat (first | (with_reducible first | exact HB.out | apply below_alloc | apply pw_below_drewN | apply below_drew1 | refine below_set ?_ GE118.out) | exact HB.out)) hb); have n2_ := Aside0.mk (hbox); have n3_ := Aside0.mk ((by rw [hg]; exact (below_size (by repeat (first | (with_reducible first | exact HB.out | apply below_alloc | apply pw_below_drewN | apply below_drew1 | refine below_set ?_ GE118.out) | exact HB.out))) : w.heap.size ≤ gb119)); have n4_ := Aside0.mk ((by rw [hg]; exact (below_size (by repeat (first | (with_reducible first | exact HB.out | apply below_alloc | apply pw_below_drewN | apply below_drew1 | refine below_set ?_ GE118.out) | exact HB.out))) : w.heap.size ≤ gb119)); have n5_ := Aside0.mk ((by rw [hg]; exact Nat.ne_of_lt (blk_lt (g := gb118) (o := .cells #[.int .i64 a0_0, .int .i64 a0_1, .int .i64 a0_2, .int .i64 a0_3] 27 (0, 0)) (by (with_reducible repeat (first | refine blk_drewN ?_ _ | refine blk_drew ?_ | refine blk_alloc ?_ _)); exact BK118.out)) : gb118 ≠ gb119)); have n6_ := Aside0.mk ((by rw [hg]; exact Nat.ne_of_gt (blk_lt (g := gb118) (o := .cells #[.int .i64 a0_0, .int .i64 a0_1, .int .i64 a0_2, .int .i64 a0_3] 27 (0, 0)) (by (with_reducible repeat (first | refine blk_drewN ?_ _ | refine blk_drew ?_ | refine blk_alloc ?_ _)); exact BK118.out)) : gb119 ≠ gb118)); clear BK118; clear HB; have BK118 := n0_; have HB := n1_; have BK119 := n2_; have GW119 := n3_; have GE119 := n4_; have NB118_119 := n5_; have NB119_118 := n6_; clear n0_ n1_ n2_ n3_ n4_ n5_ n6_; clear hb hbox hg; have hnb36 := NB119_118.out; have hnc36 := NB118_119.out; have hcz37_0 : w35.cell? ⟨gb119, 0, none⟩ = some (.int .i64 0) := (blk_cell BK119.out 0).trans rfl; have hcz37_1 : w35.cell? ⟨gb119, 1, none⟩ = some (.int .i64 0) := (blk_cell BK119.out 1).trans rfl; have hfz37_0 := blk_frozen BK119.out 0; have hfz37_1 := blk_frozen BK119.out 1; have hcz38_0 : w35.cell? ⟨gb118, 0, none⟩ = some (.int .i64 a0_0) := (blk_cell BK118.out 0).trans rfl; have hcz38_1 : w35.cell? ⟨gb118, 1, none⟩ = some (.int .i64 a0_1) := (blk_cell BK118.out 1).trans rfl; have hcz38_2 : w35.cell? ⟨gb118, 2, none⟩ = some (.int .i64 a0_2) := (blk_cell BK118.out 2).trans rfl; have hcz38_3 : w35.cell? ⟨gb118, 3, none⟩ = some (.int .i64 a0_3) := (blk_cell BK118.out 3).trans rfl; have hfz38_0 := blk_frozen BK118.out 0; have hfz38_1 := blk_frozen BK118.out 1; have hfz38_2 := blk_frozen BK118.out 2; have hfz38_3 := blk_frozen BK118.out 3) | ((with_reducible refine gate_callee (f := 53) rfl ?_); refine goesL_ (some 13) rfl rfl Try.func53 (by kernel_rfl) rfl #[.agg #[.int .i64 a0_0, .int .i64 a0_1], .agg #[.int .i64 (-1000000), .int .i64 1000000]] rfl (by (try simp only [List.map_toArray, List.map_cons, List.map_nil]); first | done | rfl | (simp only [List.length_drop, List.length_take]; rfl)) ?_; (with_reducible refine (span_Within.calls k a0_0 a0_1 (-1000000) 1000000 t120 t121 _ A2.out).mono ?_); rintro e w39 ⟨rfl, hb⟩; refine ⟨_, rfl, ?_⟩; have n0_ := Aside0.mk (blk_below (g := gb118) (o := .cells #[.int .i64 a0_0, .int .i64 a0_1, .int .i64 a0_2, .int .i64 a0_3] 27 (0, 0)) (by (with_reducible repeat (first | refine blk_drewN ?_ _ | refine blk_drew ?_ | refine blk_alloc ?_ _)); refine blk_far ?_ NB118_119.out _; (with_reducible repeat (first | refine blk_drewN ?_ _ | refine blk_drew ?_ | refine blk_alloc ?_ _)); refine blk_far ?_ NB118_119.out _; (with_reducible repeat (first | refine blk_drewN ?_ _ | refine blk_drew ?_ | refine blk_alloc ?_ _)); exact BK118.out) hb); have n1_ := Aside0.mk (blk_below (g := gb119) (o := .cells #[.int .i64 (-1000000), .int .i64 1000000] 25 (0, 0)) (by (with_reducible repeat (first | refine blk_drewN ?_ _ | refine blk_drew ?_ | refine blk_alloc ?_ _)); refine blk_put (cs := #[.int .i64 (-1000000), .int .i64 0]) ?_ 1 _ rfl; (with_reducible repeat (first | refine blk_drewN ?_ _ | refine blk_drew ?_ | refine blk_alloc ?_ _)); refine blk_put (cs := #[.int .i64 0, .int .i64 0]) ?_ 0 _ rfl; (with_reducible repeat (first | refine blk_drewN ?_ _ | refine blk_drew ?_ | refine blk_alloc ?_ _)); exact BK119.out) hb); have n2_ := Aside0.mk (below_step (by repeat (first | (with_reducible first | exact HB.out | apply below_alloc | apply pw_below_drewN | apply below_drew1 | refine below_set ?_ GE118.out | refine below_set ?_ GE119.out) | exact HB.out)) hb); clear BK118; clear BK119; clear HB; have BK118 := n0_; have BK119 := n1_; have HB := n2_; clear n0_ n1_ n2_; (try clear hb); (try clear hb2); (try clear hk); (try clear hi); have hcz40_0 : w39.cell? ⟨gb118, 0, none⟩ = some (.int .i64 a0_0) := (blk_cell BK118.out 0).trans rfl; have hcz40_1 : w39.cell? ⟨gb118, 1, none⟩ = some (.int .i64 a0_1) := (blk_cell BK118.out 1).trans rfl; have hcz40_2 : w39.cell? ⟨gb118, 2, none⟩ = some (.int .i64 a0_2) := (blk_cell BK118.out 2).trans rfl; have hcz40_3 : w39.cell? ⟨gb118, 3, none⟩ = some (.int .i64 a0_3) := (blk_cell BK118.out 3).trans rfl; have hfz40_0 := blk_frozen BK118.out 0; have hfz40_1 := blk_frozen BK118.out 1; have hfz40_2 := blk_frozen BK118.out 2; have hfz40_3 := blk_frozen BK118.out 3; have hcz41_0 : w39.cell? ⟨gb119, 0, none⟩ = some (.int .i64 (-1000000)) := (blk_cell BK119.out 0).trans rfl; have hcz41_1 : w39.cell? ⟨gb119, 1, none⟩ = some (.int .i64 1000000) := (blk_cell BK119.out 1).trans rfl; have hfz41_0 := blk_frozen BK119.out 0; have hfz41_1 := blk_frozen BK119.out 1) | ((with_reducible refine gate_callee (f := 53) rfl ?_); refine goesL_ (some 20) rfl rfl Try.func53 (by kernel_rfl) rfl #[.agg #[.int .i64 a0_2, .int .i64 a0_3], .agg #[.int .i64 (-1000000), .int .i64 1000000]] rfl (by (try simp only [List.map_toArray, List.map_cons, List.map_nil]); first | done | rfl | (simp only [List.length_drop, List.length_take]; rfl)) ?_; (with_reducible refine (span_Within.calls k a0_2 a0_3 (-1000000) 1000000 t122 t123 _ A3.out).mono ?_); rintro e w42 ⟨rfl, hb⟩; refine ⟨_, rfl, ?_⟩; have n0_ := Aside0.mk (blk_below (g := gb118) (o := .cells #[.int .i64 a0_0, .int .i64 a0_1, .int .i64 a0_2, .int .i64 a0_3] 27 (0, 0)) (by (with_reducible repeat (first | refine blk_drewN ?_ _ | refine blk_drew ?_ | refine blk_alloc ?_ _)); exact BK118.out) hb); have n1_ := Aside0.mk (blk_below (g := gb119) (o := .cells #[.int .i64 (-1000000), .int .i64 1000000] 25 (0, 0)) (by (with_reducible repeat (first | refine blk_drewN ?_ _ | refine blk_drew ?_ | refine blk_alloc ?_ _)); exact BK119.out) hb); have n2_ := Aside0.mk (below_step (by repeat (first | (with_reducible first | exact HB.out | apply below_alloc | apply pw_below_drewN | apply below_drew1 | refine below_set ?_ GE118.out | refine below_set ?_ GE119.out) | exact HB.out)) hb); clear BK118; clear BK119; clear HB; have BK118 := n0_; have BK119 := n1_; have HB := n2_; clear n0_ n1_ n2_; (try clear hb); (try clear hb2); (try clear hk); (try clear hi)))
    go_ret
    exact ⟨by first | rfl | (simp [errW_none, errW_some] <;> rfl) | (simp [*, errW_none, errW_some] <;> rfl), by repeat (first | (with_reducible first | exact HB.out | apply below_alloc | apply pw_below_drewN | apply below_drew1 | refine below_set ?_ GE118.out | refine below_set ?_ GE119.out) | exact HB.out)⟩
def erasure_indices.l0 : Nat → List Int → Int → Int → Option (List Int)
  | 0, _, _, _ => none
  | k + 1, x3, x8, x9 => if x9 < x8 then (if 0 ≤ x9 then (if x9 < (x3.length : Int) then (erasure_indices.l0 k (x3.set (x9 : Int).toNat x9) x8 (wrap64 (x9 + 1))) else (none)) else (none)) else (some x3)
def erasure_indices.f (k : Nat) (a0 : Int) : Option (List Int) := if 0 ≤ a0 then (if (a0 : Int).toNat ≤ 35184372088832 then ((some (List.replicate (a0 : Int).toNat 0 : List Int)).bind fun y124 => (erasure_indices.l0 k y124 (y124.length : Int) 0)) else (none)) else (none)
theorem erasure_indices.mono_l : ∀ k, (∀ y0 y1 y2, LeO (erasure_indices.l0 k y0 y1 y2) (erasure_indices.l0 (k + 1) y0 y1 y2))
  | 0 => fun _ _ _ r h => by simp [erasure_indices.l0] at h
  | k + 1 => by
    have ih0 := erasure_indices.mono_l k
    · intro y0 y1 y2
      unfold erasure_indices.l0
      repeat' first
      | (with_reducible exact ih0 _ _ _)
      | (with_reducible exact LeO.refl _)
      | (with_reducible exact LeO.none _)
      | (with_reducible refine LeO.ite ?_ ?_)
      | (with_reducible refine LeO.bind ?_ (fun _ => ?_))
      | exact ih0 _ _ _
      | exact LeO.none _
      | refine LeO.ite ?_ ?_
      | refine LeO.bind ?_ (fun _ => ?_)
theorem erasure_indices.mono : ∀ a0 k, LeO (erasure_indices.f k a0) (erasure_indices.f (k + 1) a0) := by
  intro a0 k
  have ih0 := erasure_indices.mono_l k
  unfold erasure_indices.f
  repeat' first
      | (with_reducible exact ih0 _ _ _)
      | (with_reducible exact LeO.refl _)
      | (with_reducible exact LeO.none _)
      | (with_reducible refine LeO.ite ?_ ?_)
      | (with_reducible refine LeO.bind ?_ (fun _ => ?_))
      | exact ih0 _ _ _
      | exact LeO.none _
      | refine LeO.ite ?_ ?_
      | refine LeO.bind ?_ (fun _ => ?_)
set_option maxHeartbeats 8000000 in
set_option maxRecDepth 100000 in
theorem erasure_indices.calls (k : Nat) (a0 : Int) (r : List Int) (w : World) (h : erasure_indices.f k a0 = some r) :
    Calls Try.prog 55 #[.int .i64 a0] w fun e w' => ∃ v0_ : Value, e = .returned (v0_) ∧ Kd.R (Kd.int .i64) 3 w' w.heap.size (fun _ => True) v0_ r ∧ Below w.heap.size w w' := by
  have HB := Aside0.mk (Below.refl w.heap.size w)
  have H : (if 0 ≤ a0 then (if (a0 : Int).toNat ≤ 35184372088832 then ((some (List.replicate (a0 : Int).toNat 0 : List Int)).bind fun y124 => (erasure_indices.l0 k y124 (y124.length : Int) 0)) else (none)) else (none)) = some r := h
  clear h
  by_cases c2 : 0 ≤ a0
  · rw [if_pos c2] at H
    have c2b0 := eq_true c2
    have c2b1 : decide (0 ≤ a0) = true := decide_eq_true c2
    clear c2
    by_cases c3 : (a0 : Int).toNat ≤ 35184372088832
    · rw [if_pos c3] at H
      have c3b0 := eq_true c3
      have c3b1 : decide ((a0 : Int).toNat ≤ 35184372088832) = true := decide_eq_true c3
      clear c3
      obtain ⟨y124, hy124⟩ : ∃ y_ : List Int, y_ = (List.replicate (a0 : Int).toNat 0) := ⟨_, rfl⟩
      replace H : (erasure_indices.l0 k y124 (y124.length : Int) 0) = some r := by first | (rw [hy124]; with_reducible exact H) | (have H2_ := (Option.bind_some _ _).symm.trans H; rw [hy124]; with_reducible exact H2_) | (have H2_ := (Option.bind_some _ _).symm.trans H; with_reducible exact H2_) | with_reducible exact H | (rw [hy124]; exact H) | exact H
      have Ny124 := Aside0.mk hy124
      clear hy124
      have H' := Aside0.mk H
      clear H
      go_enter Try.func55, Try.ntmps55
      go_wp2_with (first | ((with_reducible refine gate_dst (N := 6) rfl ?_); refine Kd.R_make (Kd.int .i64) _ 3 rfl (N := 6) rfl 65 _ _ rfl a0 rfl rfl Try.underlying65 (.int .i64 0) 8 info3 rfl (by decide) (by omega) 0 (ok := fun _ => True) (okp := fun _ => True) rfl (fun _ hk => hk) trivial (of_decide_eq_true (by first | (with_reducible assumption) | assumption)) (Nat.le_trans (Nat.mul_le_mul_right _ (of_decide_eq_true (by first | (with_reducible assumption) | assumption) : a0.toNat ≤ 35184372088832)) (by omega)) (Below.refl _ _) (Nat.le_refl _) ?_; intro v125 w4 ho5 hb hg_ hnew_; clear hg_ hnew_; (first | rw [← Ny124.out] at ho5 | (simp only [Int.reduceToNat] at ho5; rw [← Ny124.out] at ho5)); have n0_ := Aside0.mk (Kd.R_lower ho5 (below_size (by repeat (first | (with_reducible first | exact HB.out | apply below_alloc | apply pw_below_drewN | apply below_drew1) | exact HB.out)))); have n1_ := Aside0.mk (below_step (by repeat (first | (with_reducible first | exact HB.out | apply below_alloc | apply pw_below_drewN | apply below_drew1) | exact HB.out)) hb); clear HB; have HO126 := n0_; have HB := n1_; clear n0_ n1_; clear hb ho5; obtain ⟨Ao6, co6, eo6⟩ := Kd.R_slice HO126.out; subst eo6))
      go_loopg [9] k (fun kq v9 w' => ∃ (x3_1 : List Int) (x9_1 : Int), v9 = .int .i64 x9_1 ∧ Aside0 (erasure_indices.l0 kq x3_1 (y124.length : Int) x9_1 = some r) ∧ Aside0 (kq ≤ k) ∧ Aside0 (Kd.R (Kd.int .i64) 3 w' w.heap.size (fun _ => True) (.slice Ao6 y124.length co6) x3_1) ∧ Aside0 (Below w.heap.size w w'))
      case atStart => exact ⟨(y124), (0), (by first | rfl | (simp; done) | (simp [*]; done)), H', ⟨Nat.le_refl _⟩, ⟨by (with_reducible repeat (first | apply Kd.R_alloc | apply Kd.R_drewN | apply Kd.R_drew)); exact HO126.out⟩, ⟨by repeat (first | (with_reducible first | exact HB.out | apply below_alloc | apply pw_below_drewN | apply below_drew1) | exact HB.out)⟩⟩
      case round =>
        clear H'
        try clear c2
        try clear c2b0
        try clear c2b1
        try clear p2
        try clear c3
        try clear c3b0
        try clear c3b1
        try clear c5
        obtain ⟨x3_1, x9_1, rfl, HA, HK1, HO_3, HB⟩ := hrel
        have hl3_1 := (Kd.R_reads' HO_3.out).1
        rw [hl3_1] at HO_3
        (try simp only [hl3_1])
        cases gk with
        | zero => exact absurd HA.out (by simp [erasure_indices.l0])
        | succ k1 =>
          have H := HA.out
          clear HA
          simp only [erasure_indices.l0] at H
          by_cases c7 : x9_1 < (y124.length : Int)
          · rw [if_pos c7] at H
            have c7b0 : decide (x9_1 < (y124.length : Int)) = true := decide_eq_true c7
            clear c7
            by_cases c8 : 0 ≤ x9_1
            · rw [if_pos c8] at H
              have c8b0 : decide (0 ≤ x9_1) = true := decide_eq_true c8
              clear c8
              by_cases c9 : x9_1 < (x3_1.length : Int)
              · rw [if_pos c9] at H
                have c9b0 : decide (x9_1 < (x3_1.length : Int)) = true := decide_eq_true c9
                clear c9
                obtain ⟨y127, hy127⟩ : ∃ y_ : List Int, y_ = (x3_1.set (x9_1 : Int).toNat x9_1) := ⟨_, rfl⟩
                replace H : (erasure_indices.l0 k1 y127 (y124.length : Int) (wrap64 (x9_1 + 1))) = some r := by first | (rw [hy127]; with_reducible exact H) | (have H2_ := (Option.bind_some _ _).symm.trans H; rw [hy127]; with_reducible exact H2_) | (have H2_ := (Option.bind_some _ _).symm.trans H; with_reducible exact H2_) | with_reducible exact H | (rw [hy127]; exact H) | exact H
                have Ny127 := Aside0.mk hy127
                clear hy127
                have H' := Aside0.mk H
                clear H
                have p10 : 0 ≤ (x9_1 : Int) := of_decide_eq_true (by first | (with_reducible assumption) | assumption)
                have q10 : (x9_1 : Int) < ((x3_1.length : Int) : Int) := of_decide_eq_true (by first | (with_reducible assumption) | assumption)
                obtain ⟨go10, co10, eo10, gb10, gl10, cl10, HG10⟩ := Kd.R_form HO_3.out (by omega)
                (first | cases eo10 | (injection eo10 with ea_ en_ ec_; (first | subst ea_ | (injection ea_ with ea_; subst ea_)); subst ec_; clear en_))
                have GB10 := Aside0.mk gb10
                have GG10 := Aside0.mk HG10
                clear gb10 gl10 HG10
                obtain ⟨hx10_0, hf10_0⟩ := Kd.R_celln 0 HO_3.out (x9_1 : Int) p10 q10
                replace p10 := eq_true p10
                replace q10 := eq_true q10
                have HP11 := Kd.R_putg HO_3.out (x9_1 : Int) x9_1
                go_wp2_with (first | ((with_reducible refine gate_store (t := 3) (p := 15) rfl ?_); refine store_event (t := 3) (p := 15) (v := ?vo_w12) (w1 := (wr.setCell ⟨go10, (x9_1 : Int).toNat, none⟩ (.int .i64 x9_1))) ?hg ?ho ?hn ?hr ?_; (case ho => rfl); (case hg => rfl); (case hn => rfl); (case hr => first | (go_simp; done) | (go_simp; rfl)); intro w12 hw; have hg : wr.grownBy w12 (some go10) := (by rw [hw]; exact HP11.2); have hp_ : Kd.R (Kd.int .i64) 3 w12 w.heap.size (fun _ => True) (.slice (some ⟨go10, 0, none⟩) x3_1.length co6) y127 := (by rw [hw, Ny127.out]; exact HP11.1); clear HP11; have n0_ := Aside0.mk (hp_); have n1_ := Aside0.mk ((by rw [hw]; exact below_set (HB.out) GB10.out : Below w.heap.size w w12)); clear HO_3; clear HB; have HO_3 := n0_; have HB := n1_; clear n0_ n1_; clear hg hw hp_))
                (try simp only [← hl3_1])
                go_roundg k1
                case measure => have := HK1.out; omega
                case rel => exact ⟨(y127), (wrap64 (x9_1 + 1)), (by first | rfl | (simp; done) | (simp [*]; done)), H', ⟨by have := HK1.out; omega⟩, ⟨by (try simp only [hl3_1]); (with_reducible repeat (first | apply Kd.R_alloc | apply Kd.R_drewN | apply Kd.R_drew)); exact HO_3.out⟩, ⟨by repeat (first | (with_reducible first | exact HB.out | apply below_alloc | apply pw_below_drewN | apply below_drew1) | exact HB.out)⟩⟩
              · rw [if_neg c9] at H
                exact absurd H (by simp)
            · rw [if_neg c8] at H
              exact absurd H (by simp)
          · rw [if_neg c7] at H
            have c7b0 : decide (x9_1 < (y124.length : Int)) = false := decide_eq_false c7
            clear c7
            (try rw [hl3_1] at c7b0)
            obtain rfl := Option.some.inj H
            go_wp2
            go_ret
            exact ⟨_, by first | rfl | (simp [errW_none, errW_some] <;> rfl) | (simp [*, errW_none, errW_some] <;> rfl), by (with_reducible repeat (first | apply Kd.R_alloc | apply Kd.R_drewN | apply Kd.R_drew)); exact HO_3.out, by repeat (first | (with_reducible first | exact HB.out | apply below_alloc | apply pw_below_drewN | apply below_drew1) | exact HB.out)⟩
    · rw [if_neg c3] at H
      exact absurd H (by simp)
  · rw [if_neg c2] at H
    exact absurd H (by simp)
def erasure_equal.l0 : Nat → List (List Int) → List (List Int) → Int → Int → Option (Bool)
  | 0, _, _, _, _ => none
  | k + 1, x0, x5, x6, x7 => if x7 < x6 then (if 0 ≤ x7 then (if x7 < (x5.length : Int) then (if 0 < (x0.length : Int) then (if ((rd_L2 x5 x7).length : Int) = ((rd_L2 x0 0).length : Int) then (if ((rd_L2 x5 x7).length : Int) > 200 then (some false) else (erasure_equal.l0 k x0 x5 x6 (wrap64 (x7 + 1)))) else (some false)) else (none)) else (none)) else (none)) else (some true)
def erasure_equal.f (k : Nat) (l0 : List (List Int)) : Option (Bool) := erasure_equal.l0 k l0 l0 (l0.length : Int) 0
theorem erasure_equal.mono_l : ∀ k, (∀ y0 y1 y2 y3, LeO (erasure_equal.l0 k y0 y1 y2 y3) (erasure_equal.l0 (k + 1) y0 y1 y2 y3))
  | 0 => fun _ _ _ _ r h => by simp [erasure_equal.l0] at h
  | k + 1 => by
    have ih0 := erasure_equal.mono_l k
    · intro y0 y1 y2 y3
      unfold erasure_equal.l0
      repeat' first
      | (with_reducible exact ih0 _ _ _ _)
      | (with_reducible exact LeO.refl _)
      | (with_reducible exact LeO.none _)
      | (with_reducible refine LeO.ite ?_ ?_)
      | (with_reducible refine LeO.bind ?_ (fun _ => ?_))
      | exact ih0 _ _ _ _
      | exact LeO.none _
      | refine LeO.ite ?_ ?_
      | refine LeO.bind ?_ (fun _ => ?_)
theorem erasure_equal.mono : ∀ a0 k, LeO (erasure_equal.f k a0) (erasure_equal.f (k + 1) a0) := by
  intro a0 k
  have ih0 := erasure_equal.mono_l k
  unfold erasure_equal.f
  repeat' first
      | (with_reducible exact ih0 _ _ _ _)
      | (with_reducible exact LeO.refl _)
      | (with_reducible exact LeO.none _)
      | (with_reducible refine LeO.ite ?_ ?_)
      | (with_reducible refine LeO.bind ?_ (fun _ => ?_))
      | exact ih0 _ _ _ _
      | exact LeO.none _
      | refine LeO.ite ?_ ?_
      | refine LeO.bind ?_ (fun _ => ?_)
set_option maxHeartbeats 8000000 in
set_option maxRecDepth 100000 in
theorem erasure_equal.calls (k : Nat) (A0 : Option Addr) (c0 : Nat) (l0 : List (List Int)) (r : Bool) (w : World) (hr0 : Kd.C (Kd.slice 5 (Kd.int .u8)) w A0 l0.length l0) (hc0 : l0.length ≤ c0) (h : erasure_equal.f k l0 = some r) :
    Calls Try.prog 54 #[.slice A0 l0.length c0] w fun e w' => e = .returned (.bool r) ∧ Drawn0 w w' := by
  have HR0 := Aside0.mk hr0
  have HC0 := Aside0.mk hc0
  clear hr0 hc0
  have H : (erasure_equal.l0 k l0 l0 (l0.length : Int) 0) = some r := h
  clear h
  have H' := Aside0.mk H
  clear H
  go_enter Try.func54, Try.ntmps54
  go_wp2
  go_loopg [7] k (fun kq v7 w' => ∃ (x7_1 : Int), v7 = .int .i64 x7_1 ∧ Aside0 (erasure_equal.l0 kq l0 l0 (l0.length : Int) x7_1 = some r) ∧ Aside0 (kq ≤ k) ∧ Drawn0 w w')
  case atStart => exact ⟨(0), (by first | rfl | (simp; done) | (simp [*]; done)), H', ⟨Nat.le_refl _⟩, by repeat (first | exact Drawn0.refl _ | apply Drawn0.step)⟩
  case round =>
    clear H'
    obtain ⟨x7_1, rfl, HA, HK1, ⟨m1, rfl⟩⟩ := hrel
    cases gk with
    | zero => exact absurd HA.out (by simp [erasure_equal.l0])
    | succ k1 =>
      have H := HA.out
      clear HA
      simp only [erasure_equal.l0] at H
      by_cases c2 : x7_1 < (l0.length : Int)
      · rw [if_pos c2] at H
        have c2b0 : decide (x7_1 < (l0.length : Int)) = true := decide_eq_true c2
        clear c2
        by_cases c3 : 0 ≤ x7_1
        · rw [if_pos c3] at H
          have c3b0 : decide (0 ≤ x7_1) = true := decide_eq_true c3
          clear c3
          by_cases c4 : x7_1 < (l0.length : Int)
          · rw [if_pos c4] at H
            have c4b0 : decide (x7_1 < (l0.length : Int)) = true := decide_eq_true c4
            clear c4
            by_cases c5 : 0 < (l0.length : Int)
            · rw [if_pos c5] at H
              have c5b0 : decide (0 < (l0.length : Int)) = true := decide_eq_true c5
              have c5b1 : decide (0 < l0.length) = true := decide_eq_true (by omega)
              clear c5
              by_cases c6 : ((rd_L2 l0 x7_1).length : Int) = ((rd_L2 l0 0).length : Int)
              · rw [if_pos c6] at H
                have c6b0 : (((rd_L2 l0 x7_1).length : Int) == ((rd_L2 l0 0).length : Int)) = true := beq_iff_eq.mpr c6
                have c6b1 : (((rd_L2 l0 x7_1).length : Int) != ((rd_L2 l0 0).length : Int)) = false := bne_eq_false_iff_eq.mpr c6
                have c6b2 : ((rd_L2 l0 x7_1).length == (rd_L2 l0 0).length) = true := by first | simpa using c6 | (simp at c6 ⊢; omega)
                clear c6
                by_cases c7 : ((rd_L2 l0 x7_1).length : Int) > 200
                · rw [if_pos c7] at H
                  have c7b0 : decide (200 < ((rd_L2 l0 x7_1).length : Int)) = true := decide_eq_true c7
                  have c7b1 : decide (200 < (rd_L2 l0 x7_1).length) = true := decide_eq_true (by omega)
                  clear c7
                  obtain rfl := Option.some.inj H
                  have p128 : 0 ≤ (x7_1 : Int) := of_decide_eq_true (by first | (with_reducible assumption) | assumption)
                  have q128 : x7_1 < (l0.length : Int) := of_decide_eq_true (by first | (with_reducible assumption) | assumption)
                  obtain ⟨ad128, A128_0, c128_0, e128, hx128_0, hl128_0, hi128_0⟩ := at_L2 HR0.out x7_1 p128 q128
                  cases e128
                  have HR128_0 := Aside0.mk hi128_0
                  have HC128_0 := Aside0.mk hl128_0
                  clear hi128_0 hl128_0
                  replace p128 := eq_true p128
                  replace q128 := eq_true q128
                  have p129 : 0 ≤ (0 : Int) := (by omega)
                  have q129 : 0 < (l0.length : Int) := of_decide_eq_true (by first | (with_reducible assumption) | assumption)
                  obtain ⟨ad129, A129_0, c129_0, e129, hx129_0, hl129_0, hi129_0⟩ := at_L2 HR0.out 0 p129 q129
                  obtain rfl : ad128 = ad129 := (by injection e129)
                  have qi129 : (0 < l0.length) = True := eq_true (by omega)
                  (try rw [show ((0 : Int)).toNat = 0 from rfl] at hx129_0)
                  (try rw [Addr.add_zero'] at hx129_0)
                  have HR129_0 := Aside0.mk hi129_0
                  have HC129_0 := Aside0.mk hl129_0
                  clear hi129_0 hl129_0
                  replace p129 := eq_true p129
                  replace q129 := eq_true q129
                  go_wp2
                  go_ret
                  exact ⟨by first | rfl | (simp; done) | (simp [*]; done), by repeat (first | exact Drawn0.refl _ | apply Drawn0.step)⟩
                · rw [if_neg c7] at H
                  have c7b0 : decide (200 < ((rd_L2 l0 x7_1).length : Int)) = false := decide_eq_false c7
                  have c7b1 : decide (200 < (rd_L2 l0 x7_1).length) = false := decide_eq_false (by omega)
                  clear c7
                  have H' := Aside0.mk H
                  clear H
                  have p128 : 0 ≤ (x7_1 : Int) := of_decide_eq_true (by first | (with_reducible assumption) | assumption)
                  have q128 : x7_1 < (l0.length : Int) := of_decide_eq_true (by first | (with_reducible assumption) | assumption)
                  obtain ⟨ad128, A128_0, c128_0, e128, hx128_0, hl128_0, hi128_0⟩ := at_L2 HR0.out x7_1 p128 q128
                  cases e128
                  have HR128_0 := Aside0.mk hi128_0
                  have HC128_0 := Aside0.mk hl128_0
                  clear hi128_0 hl128_0
                  replace p128 := eq_true p128
                  replace q128 := eq_true q128
                  have p129 : 0 ≤ (0 : Int) := (by omega)
                  have q129 : 0 < (l0.length : Int) := of_decide_eq_true (by first | (with_reducible assumption) | assumption)
                  obtain ⟨ad129, A129_0, c129_0, e129, hx129_0, hl129_0, hi129_0⟩ := at_L2 HR0.out 0 p129 q129
                  obtain rfl : ad128 = ad129 := (by injection e129)
                  have qi129 : (0 < l0.length) = True := eq_true (by omega)
                  (try rw [show ((0 : Int)).toNat = 0 from rfl] at hx129_0)
                  (try rw [Addr.add_zero'] at hx129_0)
                  have HR129_0 := Aside0.mk hi129_0
                  have HC129_0 := Aside0.mk hl129_0
                  clear hi129_0 hl129_0
                  replace p129 := eq_true p129
                  replace q129 := eq_true q129
                  go_wp2
                  go_roundg k1
                  case measure => have := HK1.out; omega
                  case rel => exact ⟨(wrap64 (x7_1 + 1)), (by first | rfl | (simp; done) | (simp [*]; done)), H', ⟨by have := HK1.out; omega⟩, by repeat (first | exact Drawn0.refl _ | apply Drawn0.step)⟩
              · rw [if_neg c6] at H
                have c6b0 : (((rd_L2 l0 x7_1).length : Int) == ((rd_L2 l0 0).length : Int)) = false := beq_eq_false_iff_ne.mpr c6
                have c6b1 : (((rd_L2 l0 x7_1).length : Int) != ((rd_L2 l0 0).length : Int)) = true := bne_iff_ne.mpr c6
                have c6b2 : ((rd_L2 l0 x7_1).length == (rd_L2 l0 0).length) = false := by first | simpa using c6 | (simp at c6 ⊢; omega)
                obtain rfl := Option.some.inj H
                have p128 : 0 ≤ (x7_1 : Int) := of_decide_eq_true (by first | (with_reducible assumption) | assumption)
                have q128 : x7_1 < (l0.length : Int) := of_decide_eq_true (by first | (with_reducible assumption) | assumption)
                obtain ⟨ad128, A128_0, c128_0, e128, hx128_0, hl128_0, hi128_0⟩ := at_L2 HR0.out x7_1 p128 q128
                cases e128
                have HR128_0 := Aside0.mk hi128_0
                have HC128_0 := Aside0.mk hl128_0
                clear hi128_0 hl128_0
                replace p128 := eq_true p128
                replace q128 := eq_true q128
                have p129 : 0 ≤ (0 : Int) := (by omega)
                have q129 : 0 < (l0.length : Int) := of_decide_eq_true (by first | (with_reducible assumption) | assumption)
                obtain ⟨ad129, A129_0, c129_0, e129, hx129_0, hl129_0, hi129_0⟩ := at_L2 HR0.out 0 p129 q129
                obtain rfl : ad128 = ad129 := (by injection e129)
                have qi129 : (0 < l0.length) = True := eq_true (by omega)
                (try rw [show ((0 : Int)).toNat = 0 from rfl] at hx129_0)
                (try rw [Addr.add_zero'] at hx129_0)
                have HR129_0 := Aside0.mk hi129_0
                have HC129_0 := Aside0.mk hl129_0
                clear hi129_0 hl129_0
                replace p129 := eq_true p129
                replace q129 := eq_true q129
                go_wp2
                go_ret
                exact ⟨by first | rfl | (simp; done) | (simp [*]; done), by repeat (first | exact Drawn0.refl _ | apply Drawn0.step)⟩
            · rw [if_neg c5] at H
              exact absurd H (by simp)
          · rw [if_neg c4] at H
            exact absurd H (by simp)
        · rw [if_neg c3] at H
          exact absurd H (by simp)
      · rw [if_neg c2] at H
        have c2b0 : decide (x7_1 < (l0.length : Int)) = false := decide_eq_false c2
        clear c2
        obtain rfl := Option.some.inj H
        go_wp2
        go_ret
        exact ⟨by first | rfl | (simp; done) | (simp [*]; done), by repeat (first | exact Drawn0.refl _ | apply Drawn0.step)⟩
end Go.Proofs.Ythiealhmcfdakaa.E
end
section
set_option linter.unusedVariables false
set_option linter.unusedSimpArgs false
namespace Go.Proofs.YthiealhmcfdakaaH
open Go Go.RowKit Go.Proofs.YthiealhmcfdakaaW.PrintWords Go.Proofs.YthiealhmcfdakaaW.PrintLast Go.Proofs.YthiealhmcfdakaaW.PrintMore
def slices_Clone_byte_byte.f (l0 : List Int) : Option (List Int) := if l0.length < 140737488355328 then some l0 else none
set_option maxHeartbeats 1000000 in
theorem slices_Clone_byte_byte.calls (A0 : Option Addr) (c0 : Nat) (l0 : List Int) (r : List Int) (w : World) (hr0 : Kd.C (Kd.int .u8) w A0 l0.length l0) (hc0 : l0.length ≤ c0) (h : slices_Clone_byte_byte.f l0 = some r) :
    Calls Try.prog 50 #[.slice A0 l0.length c0] w fun e w' => ∃ v0_ : Value, e = .returned v0_ ∧ Kd.R (Kd.int .u8) 5 w' w.heap.size (fun _ => True) v0_ r ∧ Below w.heap.size w w' := by
  unfold slices_Clone_byte_byte.f at h
  by_cases hl : l0.length < 140737488355328
  case neg => rw [if_neg hl] at h; cases h
  rw [if_pos hl] at h
  obtain rfl := Option.some.inj h
  clear h
  have HR := Aside0.mk hr0
  clear hr0
  cases A0 with
  | none =>
    have h0 : l0 = [] := by
      have h2 := HR.out.2.2
      by_cases hp : 0 < l0.length
      · obtain ⟨ad, e, _⟩ := h2 hp
        cases e
      · exact List.eq_nil_of_length_eq_zero (by omega)
    subst h0
    have he := fun wx => Lib.run_eql_slice_nil (P := Try.prog) (w := wx)
    go_enter Try.func50, Try.ntmps50
    go_wp2_with fail
    go_ret
    exact ⟨_, rfl, Kd.R_nil _ _ _ _ _, Below.refl _ _⟩
  | some ad =>
    have he := fun wx n' c' => Lib.run_eql_slice_nil (P := Try.prog) wx 28 5 (some ad) l0.length c0 n' c' Try.underlying28
    go_enter Try.func50, Try.ntmps50
    have HB1 : Aside0 (Below w.heap.size w (w.alloc (.cells #[] 5))) := ⟨(Below.refl _ _).alloc (Nat.le_refl _) _⟩
    go_wp2_with (first
      | (refine Kd.R_append_row (Value.int .u8) (0 : Int) (w0 := w) w.heap.size rfl (.tmp 5) (.tmp 6) 28 5 (.int .u8 0) 1 rfl Try.underlying28 info_u8 rfl (by decide) _ [] l0 (some ad) l0.length c0 (fun _ => True) rfl rfl (fun _ _ => trivial) (R_lit0 (Kd.int .u8) 5 w) (Kd.C_below HR.out HB1.out) HB1.out HB1.out.size ?_ ?_; (case _ => simp; omega); intro v2 w2 ho2 hb2 _ _; have HO2 := Aside0.mk ho2; have HB2 := Aside0.mk hb2; clear ho2 hb2))
    go_ret
    exact ⟨_, rfl, HO2.out, HB2.out⟩
end Go.Proofs.YthiealhmcfdakaaH
end
section
set_option linter.unusedVariables false
set_option linter.unusedSimpArgs false
namespace Go.Proofs.YthiealhmcfdakaaH
open Go Go.RowKit Go.Proofs.YthiealhmcfdakaaW.PrintWords Go.Proofs.YthiealhmcfdakaaW.PrintLast Go.Proofs.YthiealhmcfdakaaW.PrintMore Go.Proofs.Ythiealhmcfdakaa.E
def pieceOk (a0 a1 a2 a3 a4 a5 a6 : Int) (n : Nat) : Prop :=
  (1 ≤ a0 ∧ 1 ≤ a1 ∧ 1 ≤ a2 ∧ a0 ≤ 26 ∧ a1 ≤ 10 ∧ a2 ≤ 99) ∧ 0 ≤ a3 ∧ a3 < 32 ∧ 1 ≤ a4 ∧ a4 ≤ 32 ∧ 1 ≤ a5 ∧ a5 ≤ a4 * 200 ∧ 0 ≤ a6 ∧ a6 < 4294967296 ∧ (n : Int) = (a5 + a4 - 1) / a4
instance (a0 a1 a2 a3 a4 a5 a6 : Int) (n : Nat) : Decidable (pieceOk a0 a1 a2 a3 a4 a5 a6 n) := by unfold pieceOk; infer_instance
theorem nameOk_f (a0 a1 a2 : Int) : number_Valid.f a0 a1 a2 = some (decide (1 ≤ a0 ∧ 1 ≤ a1 ∧ 1 ≤ a2 ∧ a0 ≤ 26 ∧ a1 ≤ 10 ∧ a2 ≤ 99)) := by
  unfold number_Valid.f mn
  repeat' split
  all_goals (congr 1; simp only [decide_eq_decide, decide_eq_true_eq, decide_eq_false_iff_not, eq_comm (a := false)]; first | omega | skip)
theorem length_f (a5 a4 : Int) (h4 : 1 ≤ a4) (h5 : 1 ≤ a5) (hb : a5 ≤ a4 * 200) (h32 : a4 ≤ 32) : piece_length.f a5 a4 = some ((a5 + a4 - 1) / a4) := by
  unfold piece_length.f
  rw [if_neg (by omega)]
  have e1 : wrap64 (a5 + a4) = a5 + a4 := by unfold wrap64; omega
  rw [e1]
  have e2 : wrap64 (a5 + a4 - 1) = a5 + a4 - 1 := by unfold wrap64; omega
  rw [e2, Int.tdiv_eq_ediv_of_nonneg (by omega)]
  have h1 : 0 ≤ (a5 + a4 - 1) / a4 := Int.ediv_nonneg (by omega) (by omega)
  have h2 : (a5 + a4 - 1) / a4 ≤ a5 + a4 - 1 := Int.ediv_le_self _ (by omega)
  have e3 : wrap64 ((a5 + a4 - 1) / a4) = (a5 + a4 - 1) / a4 := by
    generalize (a5 + a4 - 1) / a4 = q at *
    unfold wrap64; omega
  rw [e3]
def piece_Piece.f (a0_0 : Int) (a0_1 : Int) (a0_2 : Int) (a0_3 : Int) (a0_4 : Int) (a0_5 : Int) (a0_6 : Int) (l0_7 : List Int) : Option Bool := some (decide (pieceOk a0_0 a0_1 a0_2 a0_3 a0_4 a0_5 a0_6 l0_7.length))
set_option maxHeartbeats 8000000 in
set_option maxRecDepth 100000 in
theorem piece_Piece.calls (a0 : Int) (a1 : Int) (a2 : Int) (a3 : Int) (a4 : Int) (a5 : Int) (a6 : Int) (A7 : Option Addr) (c7 : Nat) (l7 : List Int) (r : Bool) (w : World) (hr7 : Kd.C (Kd.int .u8) w A7 l7.length l7) (hc7 : l7.length ≤ c7) (h : piece_Piece.f a0 a1 a2 a3 a4 a5 a6 l7 = some r) :
    Calls Try.prog 25 #[.agg #[.int .i64 a0, .int .i64 a1, .int .i64 a2, .int .i64 a3, .int .i64 a4, .int .i64 a5, .int .i64 a6, .slice A7 l7.length c7]] w fun e w' => e = .returned (.bool r) ∧ Below w.heap.size w w' := by
  have hu49 := Try.underlying49
  have hu23 := Try.underlying23
  have HR := Aside0.mk (Option.some.inj h)
  clear h
  have hnv := fun W => number_Valid.calls a0 a1 a2 _ W (nameOk_f a0 a1 a2)
  clear hr7 hc7
  have hmix : Try.prog.follows .mixedOrders = true := by kernel_rfl
  go_enter Try.func25, Try.ntmps25
  go_wp2_with (first | ((with_reducible refine gate_dst (N := 1) rfl ?_); (try (refine gate_guard (by rfl) ?_; dsimp only)); refine box_event ?hg (N := 1) ?hd (cs := #[.int .i64 a0, .int .i64 a1, .int .i64 a2, .int .i64 a3, .int .i64 a4, .int .i64 a5, .int .i64 a6, .slice A7 l7.length c7]) (t := 49) ?hr ?_; (case hd => rfl); (case hg => rfl); (case hr => first | (go_simp; done) | (go_simp; rfl)); intro gb hg w5 hbox hb; have hc0 : w5.cell? ⟨gb, 0, none⟩ = some (.int .i64 a0) := (blk_cell hbox 0).trans rfl; have hc1 : w5.cell? ⟨gb, 1, none⟩ = some (.int .i64 a1) := (blk_cell hbox 1).trans rfl; have hc2 : w5.cell? ⟨gb, 2, none⟩ = some (.int .i64 a2) := (blk_cell hbox 2).trans rfl; have hc3 : w5.cell? ⟨gb, 3, none⟩ = some (.int .i64 a3) := (blk_cell hbox 3).trans rfl; have hc4 : w5.cell? ⟨gb, 4, none⟩ = some (.int .i64 a4) := (blk_cell hbox 4).trans rfl; have hc5 : w5.cell? ⟨gb, 5, none⟩ = some (.int .i64 a5) := (blk_cell hbox 5).trans rfl; have hc6 : w5.cell? ⟨gb, 6, none⟩ = some (.int .i64 a6) := (blk_cell hbox 6).trans rfl; have hc7 : w5.cell? ⟨gb, 7, none⟩ = some (.slice A7 l7.length c7) := (blk_cell hbox 7).trans rfl; have hgb : gb < w5.heap.size := blk_lt hbox; clear hbox hg))
  (with_reducible refine (hnv _).mono ?_)
  rintro e w' ⟨rfl, hd⟩
  replace hc0 := (hd.cell (p := ⟨gb, 0, none⟩) hgb).trans hc0
  replace hc1 := (hd.cell (p := ⟨gb, 1, none⟩) hgb).trans hc1
  replace hc2 := (hd.cell (p := ⟨gb, 2, none⟩) hgb).trans hc2
  replace hc3 := (hd.cell (p := ⟨gb, 3, none⟩) hgb).trans hc3
  replace hc4 := (hd.cell (p := ⟨gb, 4, none⟩) hgb).trans hc4
  replace hc5 := (hd.cell (p := ⟨gb, 5, none⟩) hgb).trans hc5
  replace hc6 := (hd.cell (p := ⟨gb, 6, none⟩) hgb).trans hc6
  replace hc7 := (hd.cell (p := ⟨gb, 7, none⟩) hgb).trans hc7
  have hb1 : Below w.heap.size w w' := hb.trans (hd.mono hb.size)
  clear hd hnv hb hgb
  by_cases n1 : 1 ≤ a0 ∧ 1 ≤ a1 ∧ 1 ≤ a2 ∧ a0 ≤ 26 ∧ a1 ≤ 10 ∧ a2 ≤ 99
  case neg =>
    have HF := Aside0.mk (decide_eq_false (fun h : pieceOk a0 a1 a2 a3 a4 a5 a6 l7.length => n1 h.1))
    rw [decide_eq_false n1]
    clear n1
    go_wp2_with fail
    go_ret
    exact ⟨by rw [← HR.out, HF.out]; rfl, hb1⟩
  rw [decide_eq_true n1]
  have N1 := Aside0.mk n1
  clear n1
  by_cases c1 : a3 < 0
  · have HF := Aside0.mk (decide_eq_false (fun h : pieceOk a0 a1 a2 a3 a4 a5 a6 l7.length => by have := h.2.1; omega))
    go_wp2_with fail
    go_ret
    exact ⟨by rw [← HR.out, HF.out]; rfl, hb1⟩
  by_cases c2 : a3 ≥ 32
  · have HF := Aside0.mk (decide_eq_false (fun h : pieceOk a0 a1 a2 a3 a4 a5 a6 l7.length => by have := h.2.2.1; omega))
    go_wp2_with fail
    go_ret
    exact ⟨by rw [← HR.out, HF.out]; rfl, hb1⟩
  by_cases c3 : a4 < 1
  · have HF := Aside0.mk (decide_eq_false (fun h : pieceOk a0 a1 a2 a3 a4 a5 a6 l7.length => by have := h.2.2.2.1; omega))
    go_wp2_with fail
    go_ret
    exact ⟨by rw [← HR.out, HF.out]; rfl, hb1⟩
  by_cases c4 : a4 > 32
  · have HF := Aside0.mk (decide_eq_false (fun h : pieceOk a0 a1 a2 a3 a4 a5 a6 l7.length => by have := h.2.2.2.2.1; omega))
    go_wp2_with fail
    go_ret
    exact ⟨by rw [← HR.out, HF.out]; rfl, hb1⟩
  have k1 : decide (a3 < 0) = false := decide_eq_false c1
  have k2 : decide (32 ≤ a3) = false := decide_eq_false c2
  have k3 : decide (a4 < 1) = false := decide_eq_false c3
  have k4 : decide (32 < a4) = false := decide_eq_false c4
  by_cases c5 : a5 ≥ 1
  case neg =>
    have HF := Aside0.mk (decide_eq_false (fun h : pieceOk a0 a1 a2 a3 a4 a5 a6 l7.length => by have := h.2.2.2.2.2.1; omega))
    have k5 : decide (1 ≤ a5) = false := decide_eq_false c5
    go_wp2_with fail
    go_quiet (fail)
    go_wp2_with fail
    go_ret
    exact ⟨by rw [← HR.out, HF.out]; rfl, pw_below_drewN hb1 _⟩
  have k5 : decide (1 ≤ a5) = true := decide_eq_true c5
  have hw : IntKind.i64.wrap (a4 * 200) = a4 * 200 := by rw [IntKind.wrap_i64]; omega
  by_cases c6 : a5 ≤ a4 * 200
  case neg =>
    have HF := Aside0.mk (decide_eq_false (fun h : pieceOk a0 a1 a2 a3 a4 a5 a6 l7.length => by have := h.2.2.2.2.2.2.1; omega))
    have k6 : decide (a5 ≤ a4 * 200) = false := decide_eq_false c6
    go_wp2_with fail
    go_quiet (fail)
    go_wp2_with fail
    go_ret
    exact ⟨by rw [← HR.out, HF.out]; rfl, pw_below_drewN hb1 _⟩
  have k6 : decide (a5 ≤ a4 * 200) = true := decide_eq_true c6
  by_cases c7 : a6 ≥ 0
  case neg =>
    have HF := Aside0.mk (decide_eq_false (fun h : pieceOk a0 a1 a2 a3 a4 a5 a6 l7.length => by have := h.2.2.2.2.2.2.2.1; omega))
    have k7 : decide (0 ≤ a6) = false := decide_eq_false c7
    go_wp2_with fail
    go_quiet (fail)
    go_wp2_with fail
    go_ret
    exact ⟨by rw [← HR.out, HF.out]; rfl, pw_below_drewN hb1 _⟩
  have k7 : decide (0 ≤ a6) = true := decide_eq_true c7
  by_cases c8 : a6 < 4294967296
  case neg =>
    have HF := Aside0.mk (decide_eq_false (fun h : pieceOk a0 a1 a2 a3 a4 a5 a6 l7.length => by have := h.2.2.2.2.2.2.2.2.1; omega))
    have k8 : decide (a6 < 4294967296) = false := decide_eq_false c8
    go_wp2_with fail
    go_quiet (fail)
    go_wp2_with fail
    go_ret
    exact ⟨by rw [← HR.out, HF.out]; rfl, pw_below_drewN hb1 _⟩
  have k8 : decide (a6 < 4294967296) = true := decide_eq_true c8
  have hlen := fun W => piece_length.calls a5 a4 _ W (length_f a5 a4 (by omega) c5 c6 (by omega))
  have hP : pieceOk a0 a1 a2 a3 a4 a5 a6 l7.length ↔ ((l7.length : Int) = (a5 + a4 - 1) / a4) := ⟨fun h => h.2.2.2.2.2.2.2.2.2, fun h => ⟨N1.out, by omega, by omega, by omega, by omega, c5, c6, c7, c8, h⟩⟩
  obtain ⟨q, hq⟩ : ∃ q, q = (a5 + a4 - 1) / a4 := ⟨_, rfl⟩
  rw [← hq] at hlen hP
  clear hq
  have HP := Aside0.mk hP
  clear hP
  go_wp2_with fail
  go_quiet (first | (go_at_call 36; refine Calls.quiet_of ((hlen _).mono fun _ _ h => ⟨h.1, h.2.out⟩)))
  have hlast : decide (pieceOk a0 a1 a2 a3 a4 a5 a6 l7.length) = ((l7.length : Int) == q) := by
    rw [Bool.eq_iff_iff, decide_eq_true_iff, beq_iff_eq]
    exact HP.out
  have HL := Aside0.mk hlast
  clear hlast
  go_wp2_with fail
  go_ret
  exact ⟨by rw [← HR.out, HL.out]; rfl, pw_below_drewN hb1 _⟩
end Go.Proofs.YthiealhmcfdakaaH
end
section
set_option linter.unusedVariables false
namespace Go.Proofs.YthiealhmcfdakaaH
open Go Go.RowKit
def goesOn (T : World → Prop) : Exit → Act → World → Prop
  | .normal, _, w => T w
  | _, _, _ => False
theorem range_all {F : Fence} {n : Nat} {P : Program} {α : Type} {g : Operand} {ps : Array Tmp} {assign body : Code} {Q : Exit → Act → World → Prop} {a : Act} {w : World}
    (hro : F.round = none) (h1 : 1 ≤ n) {gf : Nat} {lb : Array Value} (hg : a.eval g = .func (.func gf) #[] lb) (hFg : F.fn gf) (eg : ∀ args w, (callFunc gf args).run P w = .ok (.enter gf args) w)
    (encs : α → Array Value) (hps : ∀ x, (encs x).size = ps.size) (I : List α → World → Prop) (Pr : List α → α → World → Prop) (Fin : World → Prop)
    (turn : ∀ (W : World) (k : Nat) (o o' : Obj), w.heap.size ≤ k → W.heap[k]? = some o → o.isCells = false →
      (∀ xs, I xs W → I xs (W.putObj k o')) ∧ (∀ xs x, Pr xs x W → Pr xs x (W.putObj k o')) ∧ (Fin W → Fin (W.putObj k o')))
    (start : ∀ o1 o2 : Obj, I [] ((w.alloc o1).alloc o2)) (a₁ : α → Act)
    (hassign : ∀ (l : Nat) (x : α) (W : World) (K : Act → World → Prop), K (a₁ x) W →
      assign.wpIn (F.inRound l) (n - 1 - 1) P (Exit.then K (fun _ _ _ => False)) { tmps := (ps.zip (encs x)).foldl (fun t (p, v) => t.setIfInBounds p v) a.tmps, defers := [] } W)
    (hbody : ∀ (l : Nat) (pre : List α) (x : α) (W : World), I pre W → Pr pre x W → body.wpIn (F.inRound l) (n - 1 - 1) P (goesOn fun W' => KeepsFrom w.heap.size W W' ∧ I (pre ++ [x]) W') (a₁ x) W)
    (hiter : ∀ (l : Nat) (W1 : World) (R : World → Prop), Below w.heap.size w W1 → W1.heap.size = w.heap.size + 2 →
      (∀ (W W' : World) (row : Option Nat), R W → W.grownBy W' row → (∀ r, row = some r → ∃ o : Obj, W.heap[r]? = some o ∧ o.isCells = true) → R W') →
      (∀ (pre : List α) (x : α) (W : World), I pre W → R W → Pr pre x W → YieldAt F (n - 1 - 1) P l (encs x) W fun e W' => e = .returned (.bool true) ∧ I (pre ++ [x]) W' ∧ R W') →
      I [] W1 → R W1 → CallsIn F (n - 1) P gf (#[.func (.yield l) #[] #[]] ++ lb) W1 fun e W' => (∃ v, e = .returned v) ∧ R W' ∧ Fin W')
    (hdone : ∀ (D : Nat) (W : World), w.heap.size ≤ D → Fin W → W.heap[D]? = some (.deferred (some [])) → Q .normal { a with defers := { target := .collected D, args := #[] } :: a.defers } W) :
    (Code.rangeFunc g ps assign body).wpIn F n P Q a w := by
  refine wpIn_rangeFunc (fun fn hfn => ?_)
  rw [hro]
  let D := w.heap.size
  let book : LoopState → Loop := fun st => { state := st, pending := none, fn, tmps := a.tmps, params := ps, assign, body, defers := D }
  have hs := World.size_alloc w (.deferred (some []))
  obtain ⟨V, hV⟩ : ∃ V, V = (w.alloc (.deferred (some []))).alloc (.loop (book .ready)) := ⟨_, rfl⟩
  have hVl : V.heap[D + 1]? = some (.loop (book .ready)) := by
    rw [hV]
    have := World.alloc_heap_new (w.alloc (.deferred (some []))) (.loop (book .ready))
    rwa [hs] at this
  have hVd : V.heap[D]? = some (.deferred (some [])) := by
    rw [hV]
    exact (Below.heap_alloc _ _ _ (by rw [hs]; exact Nat.lt_succ_self _)).trans (World.alloc_heap_new w _)
  refine ⟨D + 1, [{ target := .collected D, args := #[] }], V, { target := .fn (.func gf) lb, args := #[.func (.yield (D + 1)) #[] #[]] }, V, gf, #[.func (.yield (D + 1)) #[] #[]] ++ lb, V, ?_, ?_, ?_, ?_, fun _ => h1, ?_⟩
  · rw [hV]; exact run_enterLoop_outer _ _ _ _ _
  · simp only [resolve, hg]
    simp [go_sem]
  · intro f' hf'
    simp [Target.leads] at hf'
    subst hf'
    exact hFg
  · simp [invoke, go_sem, eg]
  refine (hiter (D + 1) V (fun W => W.heap[D + 1]? = some (.loop (book .ready)) ∧ W.heap[D]? = some (.deferred (some [])))
    (by rw [hV]; exact ((Below.refl _ w).alloc (Nat.le_refl _) _).alloc (by rw [hs]; exact Nat.le_succ _) _) (by rw [hV, World.size_alloc, hs]) ?_ ?_ (by rw [hV]; exact start _ _) ⟨hVl, hVd⟩).mono ?_
  · rintro W W' row ⟨k1, k2⟩ hgrow hrow
    have keep : ∀ (k : Nat) (o : Obj), W.heap[k]? = some o → o.isCells = false → W'.heap[k]? = some o := by
      intro k o hk ho
      refine (hgrow.block k (Array.getElem?_eq_some_iff.1 hk).1 ?_).trans hk
      intro e
      obtain ⟨o', ho', hc⟩ := hrow k e.symm
      rw [hk] at ho'
      cases ho'
      rw [ho] at hc
      cases hc
    exact ⟨keep _ _ k1 rfl, keep _ _ k2 rfl⟩
  · rintro pre x W hi ⟨k1, k2⟩ hp
    have hlt : D + 1 < W.heap.size := (Array.getElem?_eq_some_iff.1 k1).1
    have hne : D ≠ D + 1 := Nat.ne_of_lt (Nat.lt_succ_self D)
    refine ⟨fn, _, assign, body, run_yield (P := P) (args := encs x) k1 (hps x), roundIn_of_wpIn hfn (hassign _ x W _ ⟨_, run_beginRound k1 rfl, ?_⟩)⟩
    obtain ⟨t1, t2, _⟩ := turn W (D + 1) _ (.loop (book .busy)) (Nat.le_succ _) k1 rfl
    have b1 : (W.putObj (D + 1) (.loop (book .busy))).heap[D + 1]? = some (.loop (book .busy)) := World.putObj_heap_same hlt
    have b2 : (W.putObj (D + 1) (.loop (book .busy))).heap[D]? = some (.deferred (some [])) := (World.putObj_heap_other hne).trans k2
    refine wpIn_mono (hbody _ pre x _ (t1 _ hi) (t2 _ _ hp)) ?_
    rintro e a3 W3 h3
    cases e with
    | normal =>
      obtain ⟨hk, hi3⟩ := h3
      have c1 := hk.same _ _ (Nat.le_succ _) b1 rfl
      have c2 := hk.same _ _ (Nat.le_refl _) b2 rfl
      have hlt3 : D + 1 < W3.heap.size := (Array.getElem?_eq_some_iff.1 c1).1
      obtain ⟨u1, _, _⟩ := turn W3 (D + 1) _ (.loop (book .ready)) (Nat.le_succ _) c1 rfl
      exact ⟨_, _, run_endRound (P := P) none c1, rfl, u1 _ hi3, World.putObj_heap_same hlt3, (World.putObj_heap_other hne).trans c2⟩
    | ret => exact h3.elim
    | exit id => exact h3.elim
    | goto t => exact h3.elim
    | panic ch => exact h3.elim
    | outgrown => exact h3.elim
  · rintro e W2 ⟨⟨v, rfl⟩, ⟨k1, k2⟩, hf⟩
    have hne : D ≠ D + 1 := Nat.ne_of_lt (Nat.lt_succ_self D)
    obtain ⟨_, _, t3⟩ := turn W2 (D + 1) _ (.loop { book .ready with state := .exhausted }) (Nat.le_succ _) k1 rfl
    exact ⟨none, _, run_endLoop (P := P) k1 (by intro h; cases h), hdone D _ (Nat.le_refl _) (t3 hf) ((World.putObj_heap_other hne).trans k2)⟩
end Go.Proofs.YthiealhmcfdakaaH
end
