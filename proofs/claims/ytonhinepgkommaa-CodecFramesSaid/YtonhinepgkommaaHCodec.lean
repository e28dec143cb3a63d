/- Contracts of the codec functions that hold arrays and function values. -/
import Derived.Test.YtonhinepgkommaaProg
import Derived.Test.YtonhinepgkommaaHArr
import Derived.Test.YtonhinepgkommaaWWords
set_option linter.unusedVariables false
set_option linter.unusedSimpArgs false
namespace Go.Proofs.YtonhinepgkommaaH
open Go Go.RowKit Go.Proofs.YtonhinepgkommaaW.PrintWords

def crcBit (c : Int) : Int := if (Go.bits .and .u32 c 1 == 1) = true then Go.bits .xor .u32 (c / 2) 3988292384 else c / 2
def crcBits : Nat → Int → Int
  | 0, c => c
  | k + 1, c => crcBit (crcBits k c)
def tabAt (k : Nat) (i : Nat) : Value := .int .u32 (if i < k then crcBits 8 i else 0)
def tabArr (k : Nat) : Array Value := ((List.range 256).map (tabAt k)).toArray
theorem tabArr_size (k : Nat) : (tabArr k).size = 256 := by simp [tabArr]
theorem tabArr_get (k i : Nat) (h : i < 256) : (tabArr k)[i]? = some (tabAt k i) := by simp [tabArr, h]
theorem tabArr_set (k : Nat) (h : k < 256) : (tabArr k).setIfInBounds k (.int .u32 (crcBits 8 k)) = tabArr (k + 1) := by
  apply Array.ext_getElem?
  intro i
  rw [Array.getElem?_setIfInBounds]
  by_cases hk : k = i
  · subst hk
    rw [if_pos rfl, if_pos (by rw [tabArr_size]; exact h), tabArr_get _ _ h]
    unfold tabAt
    rw [if_pos (by omega)]
  · rw [if_neg hk]
    by_cases hi : i < 256
    · rw [tabArr_get _ _ hi, tabArr_get _ _ hi]
      simp only [tabAt]
      by_cases e : i < k
      · rw [if_pos e, if_pos (by omega)]
      · rw [if_neg e, if_neg (by omega)]
    · rw [Array.getElem?_eq_none (by rw [tabArr_size]; omega), Array.getElem?_eq_none (by rw [tabArr_size]; omega)]
theorem zero53 : (Try.prog.info? 53).map (·.zero) = some (some (.agg (tabArr 0))) := by kernel_rfl
theorem size53 : (Try.prog.info? 53).map (·.size) = some 256 := by kernel_rfl
theorem tabArr_one (k : Nat) : ∀ v ∈ tabArr k, v.oneCell' = true := by
  intro v hv
  simp [tabArr] at hv
  obtain ⟨i, _, rfl⟩ := hv
  rfl

set_option maxHeartbeats 1000000 in
set_option maxRecDepth 100000 in
theorem codec_made_calls (w : World) : Calls Try.prog 30 #[] w fun e w' => e = .returned (.agg (tabArr 256)) ∧ Below w.heap.size w w' := by
  obtain ⟨Z, hZ⟩ : ∃ Z, Z = tabArr 0 := ⟨_, rfl⟩
  have z53 := zero53
  rw [← hZ] at z53
  have HZ := Aside0.mk hZ
  clear hZ
  have Z53 := Aside0.mk z53
  clear z53
  go_enter Try.func30, Try.ntmps30
  go_wp2_with (first | (refine wpList_alloc_cells rfl 53 rfl Z Z53.out ?_))
  have HB0 := Aside0.mk (((Below.refl w.heap.size w).alloc (Nat.le_refl _) (.cells Z 53)).alloc (by simp) (.cells Z 53))
  have HA0 : Aside0 (((w.alloc (.cells Z 53)).alloc (.cells Z 53)).heap[w.heap.size]? = some (.cells Z 53 (0, 0))) := ⟨heap_alloc2_old w _ _⟩
  have HT0 : Aside0 (((w.alloc (.cells Z 53)).alloc (.cells Z 53)).heap[w.heap.size + 1]? = some (.cells (tabArr 0) 53 (0, 0))) := ⟨by rw [HZ.out]; exact heap_alloc2_new w _ _⟩
  go_loopw [4] (fun v wr => ∃ k : Nat, k ≤ 256 ∧ v = .int .i64 k ∧ Aside0 (wr.heap[w.heap.size]? = some (.cells Z 53 (0, 0))) ∧ Aside0 (wr.heap[w.heap.size + 1]? = some (.cells (tabArr k) 53 (0, 0))) ∧ Aside0 (Below w.heap.size w wr))
    (fun v _ => 256 - (intOf v).toNat)
  case atStart => exact ⟨0, by omega, rfl, HA0, HT0, HB0⟩
  case round =>
    obtain ⟨k, hk, rfl, HA, HT, HB⟩ := hrel
    by_cases hlt : k < 256
    · go_wp2_with fail
      go_loop [3, 9] (fun c j => ∃ m : Nat, m ≤ 8 ∧ j = .int .i64 m ∧ c = .int .u32 (crcBits m k)) (fun _ j => 8 - (intOf j).toNat)
      case atStart => exact ⟨0, by omega, rfl, rfl⟩
      case round =>
        obtain ⟨m, hm, rfl, rfl⟩ := hrel
        by_cases hl : m < 8
        · obtain ⟨c, hc⟩ : ∃ c, c = crcBits m k := ⟨_, rfl⟩
          have hb : crcBits (m + 1) k = crcBit c := by rw [hc]; rfl
          rw [← hc]
          have Hb := Aside0.mk hb
          clear hb hc
          by_cases h1 : (Go.bits .and .u32 c 1 == 1) = true
          · go_wp2_with fail
            go_round
            case rel => exact ⟨m + 1, by omega, by go_num, by rw [Hb.out]; unfold crcBit; rw [if_pos h1]⟩
            case measure => simp [intOf]; omega
          · have h2 : (Go.bits .and .u32 c 1 == 1) = false := by simpa using h1
            clear h1
            go_wp2_with fail
            go_round
            case rel => exact ⟨m + 1, by omega, by go_num, by rw [Hb.out]; unfold crcBit; rw [h2]; rfl⟩
            case measure => simp [intOf]; omega
        · have H8 : Aside0 (m = 8) := ⟨by omega⟩
          have hcell : wr.cell? ⟨w.heap.size + 1, k, none⟩ = some (tabAt k k) := by rw [cell_of_row _ _ _ _ _ _ HT.out]; exact tabArr_get k k hlt
          have hfr : wr.frozen? ⟨w.heap.size + 1, k, none⟩ = false := frozen_of_row _ _ _ _ _ HT.out
          go_wp2_with fail
          go_roundw
          case rel =>
            refine ⟨k + 1, by omega, by go_num, ?_, ?_, ?_⟩
            · exact ⟨by rw [heap_setCell_other _ _ _ _ (by simp)]; exact HA.out⟩
            · refine ⟨?_⟩
              rw [heap_setCell_same _ _ _ _ _ _ HT.out, H8.out, tabArr_set k hlt]
            · exact ⟨HB.out.setCell (by simp) _⟩
          case measure => simp [intOf]; omega
    · have H256 : Aside0 (k = 256) := ⟨by omega⟩
      go_wp2_with (first | (refine wpList_load_row rfl 53 _ rfl (w.heap.size + 1) rfl 53 _ _ _ HT.out Try.underlying53 rfl ?_ ?_; (case _ => rw [tabArr_size]; exact size53)) | (refine wpList_store_row rfl 53 _ _ rfl w.heap.size rfl (tabArr k) rfl 53 Z HA.out (by rw [HZ.out, tabArr_size, tabArr_size]) (tabArr_one k) (by rw [tabArr_size]; exact size53) ?_))
      refine bodyPost_ret (results_cell_row rfl _ _ w.heap.size 53 (tabArr k) (0, 0) _ rfl (setRow_heap _ _ _ _ 53 _ HA.out) Try.underlying53 rfl (by rw [tabArr_size]; exact size53)) rfl ?_
      exact ⟨by rw [H256.out], below_setRow HB.out (Nat.le_refl _) _⟩

/-- The checksum of bytes, round by round. -/
def crcStep (c x : Int) : Int := Go.bits .xor .u32 (crcBits 8 (Go.bits .xor .u8 (c % 256) x)) (c / 256)
def crcFold (c : Int) (l : List Int) : Int := l.foldl crcStep c
def codec_Sum.f (l0 : List Int) : Option Int := some (Go.bits .xor .u32 4294967295 (crcFold 4294967295 l0))
theorem u32_max : IntKind.u32.max = 4294967295 := by decide

set_option maxHeartbeats 1000000 in
set_option maxRecDepth 100000 in
theorem codec_Sum.calls (A0 : Option Addr) (c0 : Nat) (l0 : List Int) (r : Int) (w : World) (hr0 : Kd.C (Kd.int .u8) w A0 l0.length l0) (hc0 : l0.length ≤ c0) (h : codec_Sum.f l0 = some r) :
    Calls Try.prog 16 #[.slice A0 l0.length c0] w fun e w' => e = .returned (.int .u32 r) ∧ Below w.heap.size w w' := by
  obtain rfl := Option.some.inj h
  clear h
  have HR := Aside0.mk hr0
  clear hr0 hc0
  obtain ⟨Z, hZ⟩ : ∃ Z, Z = tabArr 0 := ⟨_, rfl⟩
  have z53 := zero53
  rw [← hZ] at z53
  have Z53 := Aside0.mk z53
  have HZ := Aside0.mk hZ
  clear z53 hZ
  obtain ⟨T, hT⟩ : ∃ T, T = tabArr 256 := ⟨_, rfl⟩
  have HT := Aside0.mk hT
  clear hT
  go_enter Try.func16, Try.ntmps16
  go_wp2_with (first | (go_at_call 30; (with_reducible refine (codec_made_calls _).mono ?_); rintro e w1 ⟨rfl, hb1⟩; have HB1 := Aside0.mk hb1; clear hb1) | (refine wpList_alloc_cells rfl 53 rfl Z Z53.out ?_) | (refine wpList_store_row rfl 53 _ _ rfl w1.heap.size rfl (tabArr 256) rfl 53 Z (heap_alloc_new _ _) (by rw [HZ.out, tabArr_size, tabArr_size]) (tabArr_one 256) (by rw [tabArr_size]; exact size53) ?_; have hg2 := setRow_heap (w1.alloc (.cells Z 53)) w1.heap.size _ (tabArr 256) 53 _ (heap_alloc_new _ _); have hb2 := below_setRow (HB1.out.alloc HB1.out.size (.cells Z 53)) (HB1.out.size) (tabArr 256); generalize (w1.alloc (.cells Z 53)).setRow w1.heap.size (tabArr 256) = w2 at *; have HG2 := Aside0.mk hg2; have HB2 := Aside0.mk hb2; clear hg2 hb2))
  go_loop [10, 4] (fun i c => ∃ k : Nat, k ≤ l0.length ∧ i = .int .i64 k ∧ c = .int .u32 (crcFold 4294967295 (l0.take k))) (fun i _ => l0.length - (intOf i).toNat)
  case atStart => exact ⟨0, by omega, rfl, rfl⟩
  case round =>
    obtain ⟨k, hk, rfl, rfl⟩ := hrel
    have hlen : l0.length ≤ 9223372036854775807 := HR.out.2.1
    by_cases hlt : k < l0.length
    · obtain ⟨c, hc⟩ : ∃ c, c = crcFold 4294967295 (l0.take k) := ⟨_, rfl⟩
      have hb : crcFold 4294967295 (l0.take (k + 1)) = crcStep c (rd l0 k) := by
        rw [hc, List.take_succ_eq_append_getElem hlt]
        unfold crcFold rd
        rw [List.foldl_append, List.getD_eq_getElem?_getD, Int.toNat_natCast, List.getElem?_eq_getElem hlt]
        rfl
      rw [← hc]
      have Hb := Aside0.mk hb
      clear hb hc
      obtain ⟨ad, e, hx⟩ := Kd.at_int HR.out k (by omega) (by omega)
      cases e
      have hx2 := (HB2.out.cell (World.block_lt_of_cell? w _ hx)).trans hx
      clear hx
      obtain ⟨x, hxx⟩ : ∃ x, x = rd l0 k := ⟨_, rfl⟩
      rw [← hxx] at hx2 Hb
      clear hxx
      have y0 := bits_lo_u8 .xor (c % 256) x
      have y1 := bits_hi_u8 .xor (c % 256) x
      have hcell : w2.cell? ⟨w1.heap.size, (Go.bits .xor .u8 (c % 256) x).toNat, none⟩ = some (.int .u32 (crcBits 8 (Go.bits .xor .u8 (c % 256) x))) := by
        rw [cell_of_row _ _ _ _ _ _ HG2.out, tabArr_get _ _ (by omega)]
        unfold tabAt
        rw [if_pos (by omega), Int.toNat_of_nonneg y0]
      simp only [Int.toNat_natCast] at hx2
      go_wp2_with fail
      go_round
      case rel => exact ⟨k + 1, by omega, by go_num, by rw [Hb.out]; rfl⟩
      case measure => simp [intOf]; omega
    · go_wp2_with fail
      go_ret
      exact ⟨by rw [List.take_of_length_le (by omega), u32_max]; rfl, HB2.out⟩
end Go.Proofs.YtonhinepgkommaaH
