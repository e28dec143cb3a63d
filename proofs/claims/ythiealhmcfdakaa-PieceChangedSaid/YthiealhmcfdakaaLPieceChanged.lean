/- PieceChanged: whatever the warning and the numbers: the law returns true, and what was handed in reads as it did. Conditions: none beyond the given row's. -/
import Derived.Below
import Derived.ChangeOld
import Derived.Laws.IdiomArrays
import Derived.Lib.Bytes
import Derived.OpenShut
import Derived.ProofKit
import Derived.ShutString
import Derived.SizedLaws
import Derived.Test.YthiealhmcfdakaaRows
import Derived.WalkKit
import Derived.Test.YthiealhmcfdakaaB6
section
set_option linter.unusedVariables false
set_option linter.unusedSimpArgs false
namespace Go.Proofs.YthiealhmcfdakaaM
open Go Go.RowKit Go.Proofs.YthiealhmcfdakaaH Go.Proofs.Ythiealhmcfdakaa.E Go.Proofs.YthiealhmcfdakaaW.PrintWords
theorem u8_ofNat {x y : Int} (hx : 0 ≤ x ∧ x ≤ 255) (hy : 0 ≤ y ∧ y ≤ 255) (h : UInt8.ofNat x.toNat = UInt8.ofNat y.toNat) : x = y := by
  have := congrArg UInt8.toNat h
  simp at this
  omega
theorem strs_eq : ∀ (a b : List Int), U8 a → U8 b → ((a.map fun n => UInt8.ofNat n.toNat) = (b.map fun n => UInt8.ofNat n.toNat) ↔ a = b)
  | [], [], _, _ => by simp
  | [], _ :: _, _, _ => by simp
  | _ :: _, [], _, _ => by simp
  | x :: a, y :: b, ha, hb => by
    have hx := ha x (List.mem_cons_self ..)
    have hy := hb y (List.mem_cons_self ..)
    have ih := strs_eq a b (fun z hz => ha z (List.mem_cons_of_mem _ hz)) (fun z hz => hb z (List.mem_cons_of_mem _ hz))
    simp only [List.map_cons, List.cons.injEq]
    constructor
    · rintro ⟨h1, h2⟩
      exact ⟨u8_ofNat hx hy h1, ih.1 h2⟩
    · rintro ⟨rfl, h2⟩
      exact ⟨rfl, ih.2 h2⟩
theorem bytesEq_f {a b : List Int} (ha : U8 a) (hb : U8 b) : bytes_Equal.f a b = some (decide (a = b)) := by
  unfold bytes_Equal.f
  congr 1
  rw [Bool.eq_iff_iff, beq_iff_eq, decide_eq_true_iff, Lib.strOfNums_toList, Lib.strOfNums_toList]
  exact strs_eq a b ha hb
structure Giv (need : Nat) (idx : List Int) (dat : List (List Int)) (m : Nat) : Prop where
  n1 : 1 ≤ need
  n2 : need ≤ 32
  len : idx.length = dat.length
  row : ∀ r ∈ dat, r.length = m
  m200 : m ≤ 200
  u8 : ∀ r ∈ dat, U8 r
  l32 : idx.length ≤ 32
  rng : ∀ i ∈ idx, 0 ≤ i ∧ i < 32
  dup : idx.Nodup
theorem natsOf_nodup {l : List Int} (h : l.Nodup) (hr : ∀ i ∈ l, 0 ≤ i) : (natsOf l).Nodup := by
  unfold natsOf List.Nodup
  rw [List.pairwise_map]
  refine List.Pairwise.imp_of_mem (fun {a b} ha hb hne e => hne ?_) h
  have := hr a ha
  have := hr b hb
  omega
theorem rowAt_get {l : List (List Int)} {i : Nat} (h : i < l.length) : Go.Proofs.YthiealhmcfdakaaH.rowAt l (i : Int) = l[i] := by
  rw [Go.Proofs.YthiealhmcfdakaaH.rowAt, Int.toNat_natCast, List.getD_eq_getElem?_getD, List.getElem?_eq_getElem h, Option.getD_some]
theorem rd2_get {l : List (List Int)} {i : Nat} (h : i < l.length) : rd_L2 l (i : Int) = l[i] := by
  rw [rd_L2, Int.toNat_natCast, List.getD_eq_getElem?_getD, List.getElem?_eq_getElem h, Option.getD_some]
theorem value_f {at' : List Int} {rows : List (List Int)} {m : Nat} {x : Int} (h0 : 0 < rows.length) (hrow : ∀ r ∈ rows, r.length = m) (hm : m ≤ 200) (hl : at'.length ≤ rows.length) (hx : 0 ≤ x ∧ x < 256) (ha : ∀ a ∈ at', 0 ≤ a ∧ a < 32) (hu : ∀ r ∈ rows, U8 r) (hd : at'.Nodup) :
    erasure_value.f at' rows x = some (rowOf at' rows x.toNat m) := by
  have h00 : (Go.Proofs.YthiealhmcfdakaaH.rowAt rows 0).length = m := by
    rw [show (0 : Int) = ((0 : Nat) : Int) from rfl, rowAt_get h0]
    exact hrow _ (List.getElem_mem _)
  unfold erasure_value.f
  rw [if_pos, h00]
  refine ⟨h0, fun r hr => by rw [h00]; exact hrow r hr, by omega, hl, hx, fun a ha' => by have := ha a ha'; omega, fun r hr b hb => by have := hu r hr b hb; omega, natsOf_nodup hd (fun i hi => (ha i hi).1)⟩
theorem rowOf_U8 {at' : List Int} {rows : List (List Int)} {x m : Nat} (hx : x < 256) (ha : ∀ a ∈ at', 0 ≤ a ∧ a < 32) : U8 (rowOf at' rows x m) := by
  have hE : El (natsOf at') := natsOf_El (fun a h => by have := ha a h; omega)
  intro y hy
  unfold rowOf valTo at hy
  obtain ⟨i, _, rfl⟩ := List.mem_map.1 hy
  have := lagS_lt (ys := colOf rows i at'.length) hx hE at'.length
  omega
theorem rowOf_len (at' : List Int) (rows : List (List Int)) (x m : Nat) : (rowOf at' rows x m).length = m := valTo_len _ _ _ _ _
theorem rowOf_get {at' : List Int} {rows : List (List Int)} {x m i : Nat} (hi : i < m) : (rowOf at' rows x m)[i]'(by rw [rowOf_len]; exact hi) = ((lag x (natsOf at') (colOf rows i at'.length) : Nat) : Int) := by
  unfold rowOf valTo
  rw [List.getElem_map, List.getElem_range]
  show ((lagS x (natsOf at') (colOf rows i at'.length) at'.length : Nat) : Int) = _
  rw [lag, natsOf_len]
variable {need : Nat} {idx : List Int} {dat : List (List Int)} {m : Nat}
theorem Giv.value (g : Giv need idx dat m) (hn : need ≤ idx.length) {x : Int} (hx : 0 ≤ x ∧ x < 256) :
    erasure_value.f (idx.take need) (dat.take need) x = some (rowOf (idx.take need) (dat.take need) x.toNat m) := by
  have := g.len
  have := g.n1
  refine value_f (by rw [List.length_take]; omega) (fun r hr => g.row r (List.mem_of_mem_take hr)) g.m200 (by rw [List.length_take, List.length_take]; omega) hx (fun a ha => g.rng a (List.mem_of_mem_take ha)) (fun r hr => g.u8 r (List.mem_of_mem_take hr)) ?_
  exact g.dup.sublist (List.take_sublist _ _)
def fitB (need : Nat) (idx : List Int) (dat : List (List Int)) (m : Nat) : Bool := decide (∀ i, i < idx.length → need ≤ i → rowOf (idx.take need) (dat.take need) (rd idx (i : Int)).toNat m = rd_L2 dat (i : Int))
def rowsB (need : Nat) (idx : List Int) (dat : List (List Int)) (m : Nat) : List (List Int) := (List.range need).map fun i => rowOf (idx.take need) (dat.take need) i m
theorem Giv.fit (g : Giv need idx dat m) (hn : need ≤ idx.length) : ∀ (d i : Nat), i + d = idx.length → need ≤ i → ∀ K, d < K →
    erasure_fit.l0 K (need : Int) idx dat (i : Int) = some (decide (∀ j, j < idx.length → i ≤ j → rowOf (idx.take need) (dat.take need) (rd idx (j : Int)).toNat m = rd_L2 dat (j : Int)))
  | 0, i, h, hi, K, hK => by
    obtain ⟨K, rfl⟩ : ∃ k, K = k + 1 := ⟨K - 1, by omega⟩
    rw [erasure_fit.l0, if_neg (by omega), decide_eq_true (fun j hj hij => by omega)]
  | d + 1, i, h, hi, K, hK => by
    obtain ⟨K, rfl⟩ : ∃ k, K = k + 1 := ⟨K - 1, by omega⟩
    have hl := g.len
    have hii : i < idx.length := by omega
    have hr : rd idx (i : Int) = idx[i] := rd_get hii
    have hrng := g.rng idx[i] (List.getElem_mem hii)
    have hd2 : rd_L2 dat (i : Int) = dat[i]'(by omega) := rd2_get (by omega)
    have hu := g.u8 (dat[i]'(by omega)) (List.getElem_mem _)
    have hl32 := g.l32
    rw [erasure_fit.l0, if_pos (by omega), if_pos (by omega), if_pos (by omega), if_pos (by omega), if_pos (by omega), Int.toNat_natCast, g.value hn (by rw [hr]; omega), Option.bind_some, if_pos (by omega), bytesEq_f (rowOf_U8 (by rw [hr]; omega) (fun a ha => g.rng a (List.mem_of_mem_take ha))) (by rw [hd2]; exact hu), Option.bind_some]
    by_cases hq : rowOf (idx.take need) (dat.take need) (rd idx (i : Int)).toNat m = rd_L2 dat (i : Int)
    · rw [decide_eq_true hq, if_pos rfl, wrap_succ i (by omega), g.fit hn d (i + 1) (by omega) (by omega) K (by omega)]
      congr 1
      rw [decide_eq_decide]
      constructor
      · intro h j hj hij
        by_cases e : j = i
        · rw [e]; exact hq
        · exact h j hj (by omega)
      · intro h j hj hij
        exact h j hj (by omega)
    · rw [decide_eq_false hq, if_neg (by simp), decide_eq_false (fun h => hq (h i hii (Nat.le_refl _)))]
theorem indices_l0 (n : Nat) (hn : n ≤ 1000) : ∀ (d i : Nat) (acc : List Int), i + d = n → acc.length = n → (∀ j, j < i → acc[j]? = some (j : Int)) → ∀ K, d < K → erasure_indices.l0 K acc (n : Int) (i : Int) = some ((List.range n).map fun (i : Nat) => (i : Int))
  | 0, i, acc, h, hl, ha, K, hK => by
    obtain ⟨K, rfl⟩ : ∃ k, K = k + 1 := ⟨K - 1, by omega⟩
    rw [erasure_indices.l0, if_neg (by omega)]
    congr 1
    apply List.ext_getElem?
    intro j
    by_cases hj : j < n
    · rw [ha j (by omega), List.getElem?_map, List.getElem?_range hj]; rfl
    · rw [List.getElem?_eq_none (by omega), List.getElem?_eq_none (by simp; omega)]
  | d + 1, i, acc, h, hl, ha, K, hK => by
    obtain ⟨K, rfl⟩ : ∃ k, K = k + 1 := ⟨K - 1, by omega⟩
    rw [erasure_indices.l0, if_pos (by omega), if_pos (by omega), if_pos (by omega), wrap_succ i (by omega)]
    refine indices_l0 n hn d (i + 1) _ (by omega) (by simpa using hl) (fun j hj => ?_) K (by omega)
    rw [Int.toNat_natCast, List.getElem?_set]
    by_cases e : i = j
    · subst e
      rw [if_pos rfl, if_pos (by omega)]
    · rw [if_neg e]
      exact ha j (by omega)
theorem indices_f (n : Nat) (hn : n ≤ 1000) (K : Nat) (hK : n < K) : erasure_indices.f K (n : Int) = some ((List.range n).map fun (i : Nat) => (i : Int)) := by
  unfold erasure_indices.f
  rw [if_pos (by omega), if_pos (by omega), Option.bind_some]
  simp only [Int.toNat_natCast, List.length_replicate]
  exact indices_l0 n hn n 0 _ (by omega) (by simp) (fun j hj => by omega) K hK
theorem Giv.recv (g : Giv need idx dat m) (hn : need ≤ idx.length) (want : List Int) (hw : ∀ x ∈ want, 0 ≤ x ∧ x < 256) (hwl : want.length ≤ 1000) : ∀ (d i : Nat) (acc : List (List Int)), i + d = want.length → acc.length ≤ i → ∀ K, d < K →
    erasure_recovered.l0 K (need : Int) idx dat acc want (want.length : Int) (i : Int) = some (acc ++ (want.drop i).map (fun x => rowOf (idx.take need) (dat.take need) x.toNat m), 0)
  | 0, i, acc, h, ha, K, hK => by
    obtain ⟨K, rfl⟩ : ∃ k, K = k + 1 := ⟨K - 1, by omega⟩
    rw [erasure_recovered.l0, if_neg (by omega), List.drop_of_length_le (by omega)]
    simp
  | d + 1, i, acc, h, ha, K, hK => by
    obtain ⟨K, rfl⟩ : ∃ k, K = k + 1 := ⟨K - 1, by omega⟩
    have hl := g.len
    have hii : i < want.length := by omega
    have hr : rd want (i : Int) = want[i] := rd_get hii
    have hwi := hw want[i] (List.getElem_mem hii)
    have hv := g.value hn hwi
    have hrec := g.recv hn want hw hwl d (i + 1) (acc ++ [rowOf (idx.take need) (dat.take need) want[i].toNat m]) (by omega) (by rw [List.length_append, List.length_singleton]; omega) K (by omega)
    have hal : acc.length < 5864062014805 := by omega
    have hdr : want.drop i = want[i] :: want.drop (i + 1) := List.drop_eq_getElem_cons hii
    unfold erasure_recovered.l0
    rw [if_pos (show (i : Int) < (want.length : Int) by omega), if_pos (show (0 : Int) ≤ (i : Int) by omega), if_pos (show (i : Int) < (want.length : Int) by omega), if_pos (show (0 : Int) ≤ (need : Int) by omega), if_pos (show (need : Int) ≤ (idx.length : Int) by omega), if_pos (show (need : Int) ≤ (dat.length : Int) by omega), Int.toNat_natCast, hr, hv, Option.bind_some, if_pos hal, wrap_succ i (by omega), hrec, hdr, List.map_cons, List.append_assoc, List.singleton_append]
theorem equal_f' {dat : List (List Int)} {m : Nat} (hrow : ∀ r ∈ dat, r.length = m) (hm : m ≤ 200) (hl : dat.length ≤ 1000) : ∀ (d i : Nat), i + d = dat.length → ∀ K, d < K → erasure_equal.l0 K dat dat (dat.length : Int) (i : Int) = some true
  | 0, i, h, K, hK => by
    obtain ⟨K, rfl⟩ : ∃ k, K = k + 1 := ⟨K - 1, by omega⟩
    rw [erasure_equal.l0, if_neg (by omega)]
  | d + 1, i, h, K, hK => by
    obtain ⟨K, rfl⟩ : ∃ k, K = k + 1 := ⟨K - 1, by omega⟩
    have h1 : (rd_L2 dat (i : Int)).length = m := by rw [rd2_get (show i < dat.length by omega)]; exact hrow _ (List.getElem_mem _)
    have h2 : (rd_L2 dat 0).length = m := by rw [show (0 : Int) = ((0 : Nat) : Int) from rfl, rd2_get (show 0 < dat.length by omega)]; exact hrow _ (List.getElem_mem _)
    rw [erasure_equal.l0, if_pos (by omega), if_pos (by omega), if_pos (by omega), if_pos (by omega), if_pos (by omega), if_neg (by omega), wrap_succ i (by omega)]
    exact equal_f' hrow hm hl d (i + 1) (by omega) K (by omega)
theorem fresh_t : ∀ (l s : List Int), (∀ i ∈ l, 0 ≤ i ∧ i < 32) → l.Nodup → (∀ i ∈ l, i ∉ s) → freshB s l = true
  | [], s, _, _, _ => rfl
  | i :: l, s, hr, hd, hs => by
    have h1 := hr i (List.mem_cons_self ..)
    have h2 := hs i (List.mem_cons_self ..)
    rw [List.nodup_cons] at hd
    rw [freshB, if_neg (by rintro (h | h | h); omega; omega; exact h2 h)]
    refine fresh_t l (i :: s) (fun j hj => hr j (List.mem_cons_of_mem _ hj)) hd.2 (fun j hj hjs => ?_)
    rcases List.mem_cons.1 hjs with rfl | h
    · exact hd.1 hj
    · exact hs j (List.mem_cons_of_mem _ hj) h
theorem Giv.given (g : Giv need idx dat m) (K : Nat) (hK : 100 ≤ K) : erasure_given.f K (need : Int) idx dat = some true := by
  have := g.n1; have := g.n2; have := g.len; have := g.l32
  unfold erasure_given.f
  rw [if_neg (by omega), if_neg (by omega), if_pos g.len, erasure_equal.f]
  have := equal_f' g.row g.m200 (by omega) dat.length 0 (by omega) K (by omega)
  rw [show ((0 : Nat) : Int) = 0 from rfl] at this
  rw [this, Option.bind_some, if_pos rfl, fresh_t idx [] g.rng g.dup (fun _ _ h => by simp at h)]
def decM (need : Nat) (idx : List Int) (dat : List (List Int)) (m : Nat) : List (List Int) × Int :=
  if idx.length < need then ([], 4) else if fitB need idx dat m = true then (rowsB need idx dat m, 0) else ([], 18)
theorem Giv.decode (g : Giv need idx dat m) (K : Nat) (hK : 200 ≤ K) : erasure_Decode.f K (need : Int) (m : Int) idx dat = some (decM need idx dat m) := by
  have h1 := g.n1; have h2 := g.n2; have h3 := g.len; have h4 := g.l32
  have hj : ∀ b, b = false → erasure_Decode.j0 K (need : Int) idx dat b = some (decM need idx dat m) := by
    rintro b rfl
    obtain ⟨K, rfl⟩ : ∃ k, K = k + 1 := ⟨K - 1, by omega⟩
    rw [erasure_Decode.j0, if_neg (by simp), indices_f need (by omega) K (by omega), Option.bind_some, erasure_recovered.f]
    unfold decM
    by_cases c1 : idx.length < need
    · rw [if_pos (by omega), if_pos c1]; rfl
    rw [if_neg (by omega), if_neg c1, erasure_fit.f, g.fit (by omega) (idx.length - need) need (by omega) (Nat.le_refl _) K (by omega), Option.bind_some]
    unfold fitB
    by_cases c2 : ∀ j, j < idx.length → need ≤ j → rowOf (idx.take need) (dat.take need) (rd idx (j : Int)).toNat m = rd_L2 dat (j : Int)
    · rw [decide_eq_true c2, if_pos rfl, if_pos rfl]
      have hr := g.recv (by omega) ((List.range need).map fun (i : Nat) => (i : Int)) (fun x hx => by
        obtain ⟨i, hi, rfl⟩ := List.mem_map.1 hx
        rw [List.mem_range] at hi; omega) (by simp; omega) ((List.range need).map fun (i : Nat) => (i : Int)).length 0 [] (by omega) (by simp) K (by simp; omega)
      rw [show ((0 : Nat) : Int) = 0 from rfl] at hr
      rw [hr, Option.bind_some]
      unfold rowsB
      simp only [List.nil_append, List.drop_zero, List.map_map]
      rfl
    · rw [decide_eq_false c2, if_neg (by simp), if_neg (by simp)]; rfl
  unfold erasure_Decode.f
  rw [g.given K (by omega), Option.bind_some, if_pos rfl]
  by_cases c : dat.length > 0
  · rw [if_pos (by omega), if_pos (by omega)]
    refine hj _ ?_
    have h00 : (rd_L2 dat 0).length = m := by rw [show (0 : Int) = ((0 : Nat) : Int) from rfl, rd2_get (show 0 < dat.length by omega)]; exact g.row _ (List.getElem_mem _)
    rw [h00]; simp
  · rw [if_neg (by omega)]
    exact hj _ rfl
def base (n : Nat) : List Int := (List.range n).map fun (i : Nat) => (i : Int)
theorem base_len (n : Nat) : (base n).length = n := by simp [base]
theorem base_rng {n : Nat} (h : n ≤ 32) : ∀ i ∈ base n, 0 ≤ i ∧ i < 32 := by
  intro i hi
  obtain ⟨j, hj, rfl⟩ := List.mem_map.1 hi
  rw [List.mem_range] at hj; omega
theorem base_dup (n : Nat) : (base n).Nodup := by
  unfold base List.Nodup
  rw [List.pairwise_map]
  exact List.Pairwise.imp (fun {a b} hne e => hne (by omega)) List.nodup_range
def codeB (data : List (List Int)) (m n : Nat) : List (List Int) := (List.range n).map fun i => rowOf (base data.length) data i m
theorem code_l0 {data : List (List Int)} {m : Nat} (h1 : 1 ≤ data.length) (h2 : data.length ≤ 32) (hrow : ∀ r ∈ data, r.length = m) (hm : m ≤ 200) (hu : ∀ r ∈ data, U8 r) (n : Nat) (hn : n ≤ 32) : ∀ (d i : Nat), i + d = n → ∀ K, d < K →
    erasure_Code.l0 K data (base data.length) ((List.range i).map fun i => rowOf (base data.length) data i m) (n : Int) (i : Int) = some (codeB data m n, 0)
  | 0, i, h, K, hK => by
    obtain ⟨K, rfl⟩ : ∃ k, K = k + 1 := ⟨K - 1, by omega⟩
    obtain rfl : i = n := by omega
    rw [erasure_Code.l0, if_neg (by omega)]
    rfl
  | d + 1, i, h, K, hK => by
    obtain ⟨K, rfl⟩ : ∃ k, K = k + 1 := ⟨K - 1, by omega⟩
    rw [erasure_Code.l0, if_pos (by omega), value_f (by omega) hrow hm (by rw [base_len]; omega) (by omega) (base_rng h2) hu (base_dup _), Option.bind_some, if_pos (by simp; omega), wrap_succ i (by omega), Int.toNat_natCast]
    have := code_l0 h1 h2 hrow hm hu n hn d (i + 1) (by omega) K (by omega)
    rw [List.range_succ, List.map_append] at this
    exact this
theorem code_f {data : List (List Int)} {m : Nat} (h1 : 1 ≤ data.length) (h2 : data.length ≤ 32) (hrow : ∀ r ∈ data, r.length = m) (hm : m ≤ 200) (hu : ∀ r ∈ data, U8 r) (n : Nat) (hn : n ≤ 32) (K : Nat) (hK : 200 ≤ K) : erasure_Code.f K data (n : Int) = some (codeB data m n, 0) := by
  have he := equal_f' hrow hm (by omega) data.length 0 (by omega) K (by omega)
  rw [show ((0 : Nat) : Int) = 0 from rfl] at he
  unfold erasure_Code.f
  rw [if_neg (by omega), if_neg (by omega), erasure_equal.f, he, Option.bind_some, if_pos rfl, if_neg (by omega), decide_eq_false (by omega)]
  obtain ⟨K, rfl⟩ : ∃ k, K = k + 1 := ⟨K - 1, by omega⟩
  rw [erasure_Code.j0, if_neg (by simp), indices_f data.length (by omega) K (by omega), Option.bind_some]
  have := code_l0 h1 h2 hrow hm hu n hn n 0 (by omega) K (by omega)
  exact this
end Go.Proofs.YthiealhmcfdakaaM
end
section
set_option linter.unusedVariables false
set_option linter.unusedSimpArgs false
namespace Go.Proofs.YthiealhmcfdakaaM
open Go Go.RowKit Go.Proofs.YthiealhmcfdakaaH Go.Proofs.Ythiealhmcfdakaa.E Go.Proofs.YthiealhmcfdakaaW.PrintWords
def look (l : List S49) : Int → Option (List Int) := fun k => (l.find? fun p => p.f1 == k).map (·.f5)
def C2 (l : List S49) : Prop := ∀ p ∈ l, ∀ q ∈ l, p.f1 = q.f1 → p.f5 = q.f5
theorem look_some {l : List S49} {k : Int} {d : List Int} (h : look l k = some d) : ∃ p ∈ l, p.f1 = k ∧ p.f5 = d := by
  unfold look at h
  obtain ⟨p, hp, rfl⟩ := Option.map_eq_some_iff.1 h
  exact ⟨p, List.mem_of_find?_eq_some hp, by have := List.find?_some hp; simpa using this, rfl⟩
theorem look_none {l : List S49} {k : Int} (h : look l k = none) : ∀ p ∈ l, p.f1 ≠ k := by
  unfold look at h
  rw [Option.map_eq_none_iff, List.find?_eq_none] at h
  intro p hp e
  exact h p hp (by simpa using e)
theorem look_mem {l : List S49} (h : C2 l) {p : S49} (hp : p ∈ l) : look l p.f1 = some p.f5 := by
  cases e : look l p.f1 with
  | none => exact absurd rfl (look_none e p hp)
  | some d =>
    obtain ⟨q, hq, e1, e2⟩ := look_some e
    rw [← e2, h q hq p hp e1]
theorem look_ext {l l' : List S49} (h : C2 l) (hm : ∀ p, p ∈ l ↔ p ∈ l') : look l = look l' := by
  have h' : C2 l' := fun p hp q hq => h p ((hm p).2 hp) q ((hm q).2 hq)
  funext k
  cases e : look l k with
  | none =>
    cases e' : look l' k with
    | none => rfl
    | some d =>
      obtain ⟨q, hq, e1, _⟩ := look_some e'
      exact absurd e1 (look_none e q ((hm q).2 hq))
  | some d =>
    obtain ⟨p, hp, e1, e2⟩ := look_some e
    have := look_mem h' ((hm p).1 hp)
    rw [← e1, ← e2, this]
theorem look_cons (p : S49) (s : List S49) : gstep (look s) p = look (p :: s) := by
  funext k
  unfold gstep look
  rw [List.find?_cons]
  by_cases h : k = p.f1
  · rw [if_pos h, h]; simp
  · have : (p.f1 == k) = false := by simpa using fun e => h e.symm
    rw [if_neg h, this]
theorem gathB_eq (p0 : S49) : ∀ (l s : List S49), C2 s →
    ((∀ p ∈ l, wholeEq p p0 = true) ∧ C2 (l.reverse ++ s) → gathB p0 (look s) l = some (look (l.reverse ++ s))) ∧ (¬ ((∀ p ∈ l, wholeEq p p0 = true) ∧ C2 (l.reverse ++ s)) → gathB p0 (look s) l = none)
  | [], s, hs => by
    refine ⟨fun _ => rfl, fun h => absurd ⟨fun p hp => by simp at hp, hs⟩ h⟩
  | p :: r, s, hs => by
    have hrev : (p :: r).reverse ++ s = r.reverse ++ (p :: s) := by simp
    rw [hrev, gathB]
    have hall : (∀ q ∈ p :: r, wholeEq q p0 = true) ↔ (wholeEq p p0 = true ∧ ∀ q ∈ r, wholeEq q p0 = true) := by simp
    rw [hall]
    cases hw : wholeEq p p0 with
    | false =>
      rw [if_pos rfl]
      refine ⟨fun h => absurd h.1.1 (by simp), fun _ => rfl⟩
    | true =>
      rw [if_neg (by simp)]
      cases hk : look s p.f1 with
      | some d =>
        obtain ⟨q, hq, e1, e2⟩ := look_some hk
        by_cases hd : d = p.f5
        · have hs' : C2 (p :: s) := by
            intro a ha b hb hab
            rcases List.mem_cons.1 ha with ea | ha
            · rcases List.mem_cons.1 hb with eb | hb
              · rw [ea, eb]
              · rw [ea] at hab ⊢
                rw [← hd, ← e2]; exact hs q hq b hb (by rw [e1, hab])
            · rcases List.mem_cons.1 hb with eb | hb
              · rw [eb] at hab ⊢
                rw [← hd, ← e2]; exact hs a ha q hq (by rw [e1, hab])
              · exact hs a ha b hb hab
          have ih := gathB_eq p0 r (p :: s) hs'
          simp only [if_pos hd, look_cons]
          refine ⟨fun h => ih.1 ⟨fun x hx => h.1.2 x hx, h.2⟩, fun h => ih.2 (fun h2 => h ⟨⟨by simp, h2.1⟩, h2.2⟩)⟩
        · simp only [if_neg hd]
          refine ⟨fun h => ?_, fun _ => by simp⟩
          exfalso
          exact hd (by rw [← e2]; exact h.2 q (by simp [hq]) p (by simp) e1)
      | none =>
        have hn := look_none hk
        have hs' : C2 (p :: s) := by
          intro a ha b hb hab
          rcases List.mem_cons.1 ha with ea | ha
          · rcases List.mem_cons.1 hb with eb | hb
            · rw [ea, eb]
            · rw [ea] at hab
              exact absurd hab.symm (hn b hb)
          · rcases List.mem_cons.1 hb with eb | hb
            · rw [eb] at hab
              exact absurd hab (hn a ha)
            · exact hs a ha b hb hab
        have ih := gathB_eq p0 r (p :: s) hs'
        simp only [look_cons]
        exact ⟨fun h => ih.1 ⟨fun x hx => h.1.2 x hx, h.2⟩, fun h => ih.2 (fun h2 => h ⟨⟨by simp, h2.1⟩, h2.2⟩)⟩
def Cons (p0 : S49) (l : List S49) : Prop := (∀ p ∈ l, wholeEq p p0 = true) ∧ C2 l
theorem look_nil : look [] = fun _ => none := rfl
theorem C2_rev {l : List S49} : C2 (l.reverse ++ []) ↔ C2 l := by simp [C2]
theorem gathB_cons {p0 : S49} {l : List S49} (h : Cons p0 l) : gathB p0 (fun _ => none) l = some (look l) := by
  rw [← look_nil, (gathB_eq p0 l [] (fun p hp => by simp at hp)).1 ⟨h.1, C2_rev.2 h.2⟩]
  exact congrArg some (look_ext (C2_rev.2 h.2) (fun p => by simp))
theorem gathB_not {p0 : S49} {l : List S49} (h : ¬ Cons p0 l) : gathB p0 (fun _ => none) l = none := by
  rw [← look_nil]
  exact (gathB_eq p0 l [] (fun p hp => by simp at hp)).2 (fun h2 => h ⟨h2.1, C2_rev.1 h2.2⟩)
theorem idxOf_mem {f : Int → Option (List Int)} {n : Nat} {i : Int} : i ∈ idxOf f n ↔ ∃ j : Nat, j < n ∧ (f (j : Int)).isSome = true ∧ i = (j : Int) := by
  unfold idxOf
  simp only [List.mem_map, List.mem_filter, List.mem_range]
  constructor
  · rintro ⟨j, ⟨h1, h2⟩, rfl⟩; exact ⟨j, h1, h2, rfl⟩
  · rintro ⟨j, h1, h2, rfl⟩; exact ⟨j, ⟨h1, h2⟩, rfl⟩
theorem idxOf_dup (f : Int → Option (List Int)) (n : Nat) : (idxOf f n).Nodup := by
  unfold idxOf List.Nodup
  rw [List.pairwise_map]
  refine List.Pairwise.imp (R := fun a b : Nat => a ≠ b) ?_ (List.Pairwise.filter _ List.nodup_range)
  intro a b hne e
  exact hne (by omega)
theorem wholeEq_iff {p q : S49} : wholeEq p q = true ↔ (p.f0.f0 = q.f0.f0 ∧ p.f0.f1 = q.f0.f1 ∧ p.f0.f2 = q.f0.f2) ∧ p.f2 = q.f2 ∧ p.f3 = q.f3 ∧ p.f4 = q.f4 := by
  unfold wholeEq
  simp
theorem okP_len' {p q : S49} (hp : okP p) (hq : okP q) (h : wholeEq p q = true) : p.f5.length = q.f5.length := by
  obtain ⟨_, h2, h3, h4⟩ := wholeEq_iff.1 h
  have a := hp.2.2.2.2.2.2.2.2.2
  have b := hq.2.2.2.2.2.2.2.2.2
  rw [h2, h3] at a
  have : (p.f5.length : Int) = (q.f5.length : Int) := a.trans b.symm
  omega
theorem allOk_iff {l : List S49} : allOk l = true ↔ ∀ p ∈ l, okP p := by
  unfold allOk
  rw [List.all_eq_true]
  exact ⟨fun h p hp => of_decide_eq_true (h p hp), fun h p hp => decide_eq_true (h p hp)⟩
theorem giv_of {p0 : S49} {l : List S49} (h0 : okP p0) (hok : ∀ p ∈ l, okP p) (hU : ∀ p ∈ l, U8 p.f5) (hc : Cons p0 l) :
    Giv p0.f2.toNat (idxOf (look l) 32) (datOf (look l) 32) p0.f5.length := by
  have hg : ∀ r ∈ datOf (look l) 32, ∃ p ∈ l, p.f5 = r := by
    intro r hr
    obtain ⟨i, hi, rfl⟩ := List.mem_map.1 hr
    obtain ⟨j, _, hs, rfl⟩ := idxOf_mem.1 hi
    obtain ⟨d, hd⟩ := Option.isSome_iff_exists.1 hs
    obtain ⟨p, hp, _, e⟩ := look_some hd
    exact ⟨p, hp, by rw [hd, e]; rfl⟩
  have h' := h0
  obtain ⟨_, _, _, h4, h5, _⟩ := h'
  refine ⟨by omega, by omega, by simp [datOf], fun r hr => ?_, okP_data h0, fun r hr => ?_, idxOf_len _ _, fun i hi => ?_, idxOf_dup _ _⟩
  · obtain ⟨p, hp, rfl⟩ := hg r hr
    exact okP_len' (hok p hp) h0 (hc.1 p hp)
  · obtain ⟨p, hp, rfl⟩ := hg r hr
    exact hU p hp
  · obtain ⟨j, hj, _, rfl⟩ := idxOf_mem.1 hi
    omega
theorem flat_len {rows : List (List Int)} {m : Nat} (h : ∀ r ∈ rows, r.length = m) : rows.flatten.length = rows.length * m := by
  induction rows with
  | nil => simp
  | cons r rows ih =>
    rw [List.flatten_cons, List.length_append, ih (fun x hx => h x (List.mem_cons_of_mem _ hx)), h r (List.mem_cons_self ..), List.length_cons, Nat.succ_mul]
    omega
theorem rowsB_row {need : Nat} {idx : List Int} {dat : List (List Int)} {m : Nat} : ∀ r ∈ rowsB need idx dat m, r.length = m := by
  intro r hr
  obtain ⟨i, _, rfl⟩ := List.mem_map.1 hr
  exact rowOf_len _ _ _ _
def endM (p0 : S49) (cc : List Int) : Wn × Int :=
  if sumOf cc ≠ p0.f4 then (zWn, 9) else match piece_From.f cc with
    | none => (zWn, 7)
    | some u => if u.2 ≠ 0 ∨ ¬ sameName u.1 p0 then (zWn, 7) else (u.1, 0)
def gatherC (p0 : S49) (l : List S49) : Wn × Int :=
  let d := decM p0.f2.toNat (idxOf (look l) 32) (datOf (look l) 32) p0.f5.length
  if d.2 ≠ 0 then (zWn, d.2) else endM p0 (d.1.flatten.take p0.f3.toNat)
theorem size_le {p : S49} (h : okP p) : p.f3.toNat ≤ p.f2.toNat * p.f5.length := by
  obtain ⟨_, _, _, h4, h5, h6, h7, _, _, h10⟩ := h
  have h1 : p.f3 + p.f2 - 1 < ((p.f3 + p.f2 - 1) / p.f2 + 1) * p.f2 := Int.lt_mul_of_ediv_lt (by omega) (by omega) |> fun h => h
  rw [← h10] at h1
  have h2 : p.f3 ≤ p.f2 * (p.f5.length : Int) := by
    have : ((p.f5.length : Int) + 1) * p.f2 = p.f2 * (p.f5.length : Int) + p.f2 := by rw [Int.add_mul, Int.one_mul, Int.mul_comm]
    omega
  obtain ⟨a, ha⟩ := Int.eq_ofNat_of_zero_le (show 0 ≤ p.f2 by omega)
  obtain ⟨b, hb⟩ := Int.eq_ofNat_of_zero_le (show 0 ≤ p.f3 by omega)
  rw [ha, hb] at h2 ⊢
  simp only [Int.toNat_natCast]
  exact_mod_cast h2
theorem gather_f {l : List S49} (h1 : 0 < l.length) (h2 : l.length ≤ 64) (hok : ∀ p ∈ l, okP p) (hU : ∀ p ∈ l, U8 p.f5) :
    (Cons (l.getD 0 z49) l → piece_Gather.f 400 l = some (gatherC (l.getD 0 z49) l)) ∧ (¬ Cons (l.getD 0 z49) l → piece_Gather.f 400 l = some (zWn, 18)) := by
  have hp0 : l.getD 0 z49 ∈ l := by
    rw [List.getD_eq_getElem?_getD, List.getElem?_eq_getElem h1, Option.getD_some]
    exact List.getElem_mem h1
  have hg : piece_Gather.f 400 l = match gathB (l.getD 0 z49) (fun _ => none) l with
      | none => some (zWn, 18)
      | some f => (erasure_Decode.f 400 (l.getD 0 z49).f2 ((l.getD 0 z49).f5.length : Int) (idxOf f 32) (datOf f 32)).bind fun t =>
        if t.2 ≠ 0 then some (zWn, t.2) else (slices_Concat_byte_byte.f t.1).bind fun cc =>
          if cc.length < (l.getD 0 z49).f3.toNat then none
          else if sumOf (cc.take (l.getD 0 z49).f3.toNat) ≠ (l.getD 0 z49).f4 then some (zWn, 9)
          else (piece_From.f (cc.take (l.getD 0 z49).f3.toNat)).bind fun u => if u.2 ≠ 0 ∨ ¬ sameName u.1 (l.getD 0 z49) then some (zWn, 7) else some (u.1, 0) := by
    have hneg : ¬ (l.length = 0 ∨ l.length > 64 ∨ allOk l = false) := by
      rintro (h | h | h)
      · omega
      · omega
      · rw [allOk_iff.2 hok] at h; exact absurd h (by simp)
    unfold piece_Gather.f
    rw [if_neg hneg]
    rfl
  rw [hg]
  clear hg
  generalize l.getD 0 z49 = p0 at hp0
  refine ⟨fun hc => ?_, fun hc => by rw [gathB_not hc]⟩
  rw [gathB_cons hc]
  have h0 := hok p0 hp0
  have g := giv_of h0 hok hU hc
  have hd := g.decode 400 (by omega)
  rw [Int.toNat_of_nonneg (by have := h0.2.2.2.1; omega)] at hd
  dsimp only
  rw [hd, Option.bind_some]
  unfold gatherC
  dsimp only
  have hs := size_le h0
  generalize hD : decM p0.f2.toNat (idxOf (look l) 32) (datOf (look l) 32) p0.f5.length = D
  by_cases c0 : D.2 ≠ 0
  · rw [if_pos c0, if_pos c0]
  rw [if_neg c0, if_neg c0]
  have hrows : D.1 = rowsB p0.f2.toNat (idxOf (look l) 32) (datOf (look l) 32) p0.f5.length := by
    unfold decM at hD
    split at hD
    · rw [← hD] at c0; exact absurd (show (4 : Int) ≠ 0 by decide) c0
    split at hD
    · rw [← hD]
    · rw [← hD] at c0; exact absurd (show (18 : Int) ≠ 0 by decide) c0
  have hn := g.n2
  have hm := g.m200
  have hrl : D.1.length = p0.f2.toNat := by rw [hrows]; simp [rowsB]
  have hfl : D.1.flatten.length = p0.f2.toNat * p0.f5.length := by rw [flat_len (m := p0.f5.length) (by rw [hrows]; exact rowsB_row), hrl]
  have hfU : U8 D.1.flatten := by
    intro x hx
    obtain ⟨r, hr, hxr⟩ := List.mem_flatten.1 hx
    rw [hrows] at hr
    obtain ⟨i, hi, rfl⟩ := List.mem_map.1 hr
    rw [List.mem_range] at hi
    exact rowOf_U8 (by omega) (fun a ha => g.rng a (List.mem_of_mem_take ha)) x hxr
  have hcat : slices_Concat_byte_byte.f D.1 = some D.1.flatten := by
    unfold slices_Concat_byte_byte.f
    rw [if_pos]
    refine ⟨by omega, fun r hr => ?_⟩
    rw [hrows] at hr
    rw [rowsB_row r hr]; omega
  rw [hcat, Option.bind_some, if_neg (by rw [hfl]; omega)]
  unfold endM
  by_cases c1 : sumOf (D.1.flatten.take p0.f3.toNat) ≠ p0.f4
  · rw [if_pos c1, if_pos c1]
  rw [if_neg c1, if_neg c1]
  have hl6 : (D.1.flatten.take p0.f3.toNat).length < 1000000 := by
    rw [List.length_take]
    have h1 := h0.2.2.2.2.2.2.1
    have h2 := h0.2.2.2.2.1
    omega
  obtain ⟨x, e, hx, _⟩ := from_back (hfU.take _) hl6
  rw [hx, Option.bind_some]
  dsimp only
  split <;> rfl
end Go.Proofs.YthiealhmcfdakaaM
end
section
set_option linter.unusedVariables false
set_option linter.unusedSimpArgs false
namespace Go.Proofs.YthiealhmcfdakaaM
open Go Go.RowKit Go.Proofs.YthiealhmcfdakaaH Go.Proofs.Ythiealhmcfdakaa.E Go.Proofs.YthiealhmcfdakaaW.PrintWords
theorem colOf_El {rows : List (List Int)} (hU : ∀ r ∈ rows, U8 r) (i n : Nat) : El (colOf rows i n) := by
  intro x hx
  obtain ⟨k, _, rfl⟩ := List.mem_map.1 hx
  by_cases h : k < rows.length
  · rw [List.getD_eq_getElem?_getD (l := rows), List.getElem?_eq_getElem h, Option.getD_some]
    by_cases h2 : i < (rows[k]).length
    · rw [List.getD_eq_getElem?_getD, List.getElem?_eq_getElem h2, Option.getD_some]
      have := hU _ (List.getElem_mem h) _ (List.getElem_mem h2)
      omega
    · rw [List.getD_eq_getElem?_getD, List.getElem?_eq_none (by omega)]
      decide
  · rw [List.getD_eq_getElem?_getD (l := rows), List.getElem?_eq_none (by omega)]
    simp
theorem natsEl {l : List Int} (h : ∀ a ∈ l, 0 ≤ a ∧ a < 32) : El (natsOf l) := natsOf_El (fun a ha => by have := h a ha; omega)
theorem mds {R D : List (List Int)} {J : List Int} {m need : Nat} (hR : R.length = need) (hn : need ≤ 32) (hRU : ∀ r ∈ R, U8 r) (hJ : ∀ a ∈ J, 0 ≤ a ∧ a < 32) (hJd : J.Nodup) (hJl : need ≤ J.length) (hD : D = J.map fun a => rowOf (base need) R a.toNat m) :
    ∀ x, x < 256 → rowOf J D x m = rowOf (base need) R x m := by
  intro x hx
  apply List.ext_getElem (by rw [rowOf_len, rowOf_len])
  intro i h1 h2
  rw [rowOf_len] at h1
  rw [rowOf_get h1, rowOf_get h1, base_len]
  congr 1
  have hcol : colOf D i J.length = (natsOf J).map fun a => lag a (natsOf (base need)) (colOf R i need) := by
    unfold colOf natsOf
    rw [List.map_map]
    apply List.ext_getElem (by simp)
    intro k hk1 hk2
    simp only [List.length_map, List.length_range] at hk1
    rw [List.getElem_map, List.getElem_range, List.getElem_map]
    have hDk : D.getD k [] = rowOf (base need) R (J[k]).toNat m := by
      rw [hD, List.getD_eq_getElem?_getD, List.getElem?_map, List.getElem?_eq_getElem hk1]
      rfl
    have hri : i < (rowOf (base need) R (J[k]).toNat m).length := by rw [rowOf_len]; exact h1
    rw [hDk, List.getD_eq_getElem?_getD, List.getElem?_eq_getElem hri, Option.getD_some, rowOf_get h1, base_len]
    rfl
  rw [hcol]
  exact lag_lag (natsEl (base_rng hn)) (natsOf_nodup (base_dup _) (fun a ha => (base_rng hn a ha).1)) (colOf_El hRU _ _) (natsEl hJ) (natsOf_nodup hJd (fun a ha => (hJ a ha).1)) (by rw [natsOf_len, natsOf_len, base_len]; exact hJl) x hx
theorem base_rows {R : List (List Int)} {m need : Nat} (hR : R.length = need) (hn : need ≤ 32) (hRU : ∀ r ∈ R, U8 r) (hRm : ∀ r ∈ R, r.length = m) {j : Nat} (hj : j < need) : rowOf (base need) R j m = R[j]'(by omega) := by
  apply List.ext_getElem (by rw [rowOf_len, hRm _ (List.getElem_mem _)])
  intro i h1 h2
  rw [rowOf_len] at h1
  rw [rowOf_get h1, base_len]
  have hb : (natsOf (base need)).getD j 0 = j := by
    rw [List.getD_eq_getElem?_getD, natsOf, List.getElem?_map, base, List.getElem?_map, List.getElem?_range hj]
    rfl
  have hl := lag_at (natsEl (base_rng hn)) (natsOf_nodup (base_dup need) (fun a ha => (base_rng hn a ha).1)) (colOf_El hRU i need) (j := j) (by rw [natsOf_len, base_len]; exact hj)
  rw [hb] at hl
  rw [hl]
  unfold colOf
  rw [List.getD_eq_getElem?_getD (l := List.map _ _), List.getElem?_map, List.getElem?_range hj]
  simp only [Option.map_some, Option.getD_some]
  have hjR : j < R.length := by omega
  rw [List.getD_eq_getElem?_getD (l := R), List.getElem?_eq_getElem hjR, Option.getD_some, List.getD_eq_getElem?_getD, List.getElem?_eq_getElem h2, Option.getD_some]
  have := hRU _ (List.getElem_mem hjR) _ (List.getElem_mem h2)
  omega
theorem codeB_get {R : List (List Int)} {m n i : Nat} (h : i < n) : (codeB R m n)[i]? = some (rowOf (base R.length) R i m) := by
  unfold codeB
  rw [List.getElem?_map, List.getElem?_range h]; rfl
theorem codeB_len (R : List (List Int)) (m n : Nat) : (codeB R m n).length = n := by simp [codeB]
theorem rowsOf_len (b : List Int) (need : Nat) : (rowsOf b (need : Int)).length = need := by simp [rowsOf, cutR]
theorem padded_len (b : List Int) {need : Nat} (hn : 1 ≤ need) : (b ++ List.replicate (lenOf b (need : Int) * need - b.length) 0).length = lenOf b (need : Int) * need ∧ b.length ≤ lenOf b (need : Int) * need := by
  have h : b.length ≤ lenOf b (need : Int) * need := by
    unfold lenOf
    rw [Int.toNat_natCast]
    have := Nat.lt_div_mul_add (a := b.length + need - 1) (b := need) (by omega)
    omega
  rw [List.length_append, List.length_replicate]
  omega
theorem rowsOf_row (b : List Int) {need : Nat} (hn : 1 ≤ need) : ∀ r ∈ rowsOf b (need : Int), r.length = lenOf b (need : Int) := by
  intro r hr
  unfold rowsOf cutR at hr
  rw [Int.toNat_natCast] at hr
  obtain ⟨i, hi, rfl⟩ := List.mem_map.1 hr
  rw [List.mem_range] at hi
  have hp := (padded_len b hn).1
  rw [List.length_take, List.length_drop, hp]
  have : (i + 1) * lenOf b (need : Int) ≤ need * lenOf b (need : Int) := Nat.mul_le_mul_right _ (by omega)
  rw [Nat.add_mul, Nat.one_mul, Nat.mul_comm need] at this
  omega
theorem rowsOf_U8 {b : List Int} (hU : U8 b) (need : Int) : ∀ r ∈ rowsOf b need, U8 r := by
  intro r hr x hx
  unfold rowsOf cutR at hr
  obtain ⟨i, _, rfl⟩ := List.mem_map.1 hr
  rcases List.mem_append.1 (List.mem_of_mem_drop (List.mem_of_mem_take hx)) with h | h
  · exact hU x h
  · obtain ⟨_, rfl⟩ := List.mem_replicate.1 h; omega
theorem cut_flat (pd : List Int) (n : Nat) : ∀ k, k * n ≤ pd.length → (cutR pd n k).flatten = pd.take (k * n)
  | 0, _ => by simp [cutR]
  | k + 1, h => by
    have hk : k * n ≤ pd.length := by rw [Nat.add_mul] at h; omega
    have ih := cut_flat pd n k hk
    unfold cutR at ih ⊢
    rw [List.range_succ, List.map_append, List.flatten_append, ih, Nat.add_mul, Nat.one_mul, List.take_add]
    simp
theorem rows_back (b : List Int) {need : Nat} (hn : 1 ≤ need) : (rowsOf b (need : Int)).flatten.take b.length = b := by
  have hp := padded_len b hn
  unfold rowsOf
  rw [Int.toNat_natCast, cut_flat _ _ _ (by rw [hp.1, Nat.mul_comm]; exact Nat.le_refl _), List.take_take, Nat.mul_comm need, Nat.min_eq_left hp.2, List.take_left' rfl]
structure CutOK (w : Wn) (need n : Nat) (l : List S49) : Prop where
  v : validW w
  n1 : 1 ≤ need
  n2 : need ≤ 32
  n3 : n ≤ 32
  m2 : lenOf (enc (intsOf w)) (need : Int) ≤ 200
  eq : l = piecesOf w (enc (intsOf w)) (need : Int) (codeB (rowsOf (enc (intsOf w)) (need : Int)) (lenOf (enc (intsOf w)) (need : Int)) n)
theorem cut_f (w : Wn) (hU : U8 w.text) (need n : Int) : ∃ l e, piece_Cut.f 4000 w need n = some (l, e) ∧ ((e ≠ 0 ∧ l = []) ∨ (e = 0 ∧ ∃ nd nn : Nat, need = nd ∧ n = nn ∧ CutOK w nd nn l)) := by
  unfold piece_Cut.f
  by_cases hv : validW w
  case neg =>
    rw [bytes_bad hv, Option.bind_some, if_pos (.inl (by decide))]
    exact ⟨_, _, rfl, .inl ⟨by decide, rfl⟩⟩
  rw [bytes_ok hv hU, Option.bind_some]
  dsimp only
  by_cases hb : need < 1 ∨ need > 32 ∨ n < 0 ∨ n > 32
  · rw [if_pos (.inr hb)]
    exact ⟨_, _, rfl, .inl ⟨by decide, rfl⟩⟩
  have hbl := bytes_len hv hU
  rw [if_neg (by rintro (h | h); exact h rfl; exact hb h), if_pos (by omega)]
  obtain ⟨nd, rfl⟩ := Int.eq_ofNat_of_zero_le (show 0 ≤ need by omega)
  obtain ⟨nn, rfl⟩ := Int.eq_ofNat_of_zero_le (show 0 ≤ n by omega)
  by_cases hm : lenOf (enc (intsOf w)) (nd : Int) > 200
  · rw [if_pos hm]
    exact ⟨_, _, rfl, .inl ⟨by decide, rfl⟩⟩
  rw [if_neg hm, code_f (by rw [rowsOf_len]; omega) (by rw [rowsOf_len]; omega) (rowsOf_row _ (by omega)) (by omega) (rowsOf_U8 (enc_U8 _) _) nn (by omega) 4000 (by omega), Option.bind_some]
  dsimp only
  rw [if_neg (by simp), codeB_len, if_pos (by omega)]
  exact ⟨_, _, rfl, .inr ⟨rfl, nd, nn, rfl, rfl, hv, by omega, by omega, by omega, by omega, rfl⟩⟩
theorem CutOK.len {w : Wn} {need n : Nat} {l : List S49} (h : CutOK w need n l) : l.length = n := by
  rw [h.eq, piecesOf, List.length_map, List.length_range, codeB_len]
theorem CutOK.get {w : Wn} {need n : Nat} {l : List S49} (h : CutOK w need n l) {i : Nat} (hi : i < n) :
    l[i]? = some (pieceAt w (enc (intsOf w)) (need : Int) i (rowOf (base need) (rowsOf (enc (intsOf w)) (need : Int)) i (lenOf (enc (intsOf w)) (need : Int)))) := by
  rw [h.eq, piecesOf, List.getElem?_map, codeB_len, List.getElem?_range hi]
  simp only [Option.map_some]
  rw [List.getD_eq_getElem?_getD, codeB_get hi, rowsOf_len]
  rfl
theorem CutOK.mem {w : Wn} {need n : Nat} {l : List S49} (h : CutOK w need n l) {p : S49} (hp : p ∈ l) :
    ∃ i, i < n ∧ p = pieceAt w (enc (intsOf w)) (need : Int) i (rowOf (base need) (rowsOf (enc (intsOf w)) (need : Int)) i (lenOf (enc (intsOf w)) (need : Int))) := by
  obtain ⟨i, hi, rfl⟩ := List.getElem_of_mem hp
  rw [h.len] at hi
  have := h.get hi
  rw [List.getElem?_eq_getElem (by rw [h.len]; exact hi)] at this
  exact ⟨i, hi, Option.some.inj this⟩
theorem pieceAt_ok {w : Wn} {need n : Nat} {l : List S49} (h : CutOK w need n l) (hU : U8 w.text) {i : Nat} (hi : i < 32) {d : List Int} (hd : d.length = lenOf (enc (intsOf w)) (need : Int)) : okP (pieceAt w (enc (intsOf w)) (need : Int) i d) := by
  have hbl := bytes_len h.v hU
  have hs := sumOf_range (enc (intsOf w))
  have hp := (padded_len (enc (intsOf w)) h.n1).2
  have h1 := h.n1
  have h2 := h.n2
  have hm := h.m2
  have hle : lenOf (enc (intsOf w)) (need : Int) * need ≤ 200 * need := Nat.mul_le_mul_right _ hm
  obtain ⟨⟨v1, v2, v3, v4, v5, v6⟩, _⟩ := h.v
  refine ⟨⟨v1, v2, v3, v4, v5, v6⟩, ?_, ?_, ?_, ?_, ?_, ?_, hs.1, hs.2, ?_⟩
  all_goals dsimp only [pieceAt]
  · omega
  · omega
  · omega
  · omega
  · omega
  · omega
  · rw [hd, lenOf, Int.toNat_natCast, Int.natCast_ediv]
    congr 1
    omega
theorem gather_pieces {w : Wn} {need n : Nat} {ps l : List S49} (h : CutOK w need n ps) (hU : U8 w.text) (hl : ∀ p ∈ l, p ∈ ps) (h1 : 0 < l.length) (h2 : l.length ≤ 64) :
    ((idxOf (look l) 32).length < need → piece_Gather.f 400 l = some (zWn, 4)) ∧ (need ≤ (idxOf (look l) 32).length → piece_Gather.f 400 l = some (w, 0)) := by
  have hn1 := h.n1
  have hn2 := h.n2
  have hbU := enc_U8 (intsOf w)
  have hm : ∀ p ∈ l, ∃ i, i < n ∧ p = pieceAt w (enc (intsOf w)) (need : Int) i (rowOf (base need) (rowsOf (enc (intsOf w)) (need : Int)) i (lenOf (enc (intsOf w)) (need : Int))) := fun p hp => h.mem (hl p hp)
  have hok : ∀ p ∈ l, okP p := fun p hp => by
    obtain ⟨i, hi, rfl⟩ := hm p hp
    exact pieceAt_ok h hU (by have := h.n3; omega) (rowOf_len _ _ _ _)
  have hpU : ∀ p ∈ l, U8 p.f5 := fun p hp => by
    obtain ⟨i, hi, rfl⟩ := hm p hp
    exact rowOf_U8 (by have := h.n3; omega) (base_rng hn2)
  have hp0 : l.getD 0 z49 ∈ l := by
    rw [List.getD_eq_getElem?_getD, List.getElem?_eq_getElem h1, Option.getD_some]
    exact List.getElem_mem h1
  have hg := gather_f h1 h2 hok hpU
  generalize l.getD 0 z49 = p0 at hp0 hg
  obtain ⟨i0, hi0, e0⟩ := hm p0 hp0
  have hc : Cons p0 l := by
    refine ⟨fun p hp => ?_, fun p hp q hq hpq => ?_⟩
    · obtain ⟨i, hi, rfl⟩ := hm p hp
      rw [e0]
      exact wholeEq_iff.2 ⟨⟨rfl, rfl, rfl⟩, rfl, rfl, rfl⟩
    · obtain ⟨i, hi, rfl⟩ := hm p hp
      obtain ⟨j, hj, rfl⟩ := hm q hq
      have hpq' : (i : Int) = (j : Int) := hpq
      have : i = j := by omega
      rw [this]
  rw [hg.1 hc]
  have hlook : ∀ i ∈ idxOf (look l) 32, 0 ≤ i ∧ i < 32 ∧ look l i = some (rowOf (base need) (rowsOf (enc (intsOf w)) (need : Int)) i.toNat (lenOf (enc (intsOf w)) (need : Int))) := by
    intro i hi
    obtain ⟨j, hj, hs, rfl⟩ := idxOf_mem.1 hi
    obtain ⟨d, hd⟩ := Option.isSome_iff_exists.1 hs
    obtain ⟨p, hp, ep1, ep2⟩ := look_some hd
    obtain ⟨k, hk, rfl⟩ := hm p hp
    have ep1' : (k : Int) = (j : Int) := ep1
    have hkj : k = j := by omega
    rw [hd, ← ep2, hkj]
    exact ⟨by omega, by omega, rfl⟩
  have hdat : datOf (look l) 32 = (idxOf (look l) 32).map fun a => rowOf (base need) (rowsOf (enc (intsOf w)) (need : Int)) a.toNat (lenOf (enc (intsOf w)) (need : Int)) := by
    unfold datOf
    apply List.map_congr_left
    intro i hi
    rw [(hlook i hi).2.2]; rfl
  have hf2 : p0.f2.toNat = need := by rw [e0]; exact Int.toNat_natCast _
  have hf3 : p0.f3.toNat = (enc (intsOf w)).length := by rw [e0]; exact Int.toNat_natCast _
  have hf5 : p0.f5.length = lenOf (enc (intsOf w)) (need : Int) := by rw [e0]; exact rowOf_len _ _ _ _
  unfold gatherC
  dsimp only
  rw [hf2, hf3, hf5]
  unfold decM
  refine ⟨fun hlt => by rw [if_pos hlt]; rfl, fun hge => ?_⟩
  have hJ : ∀ a ∈ (idxOf (look l) 32).take need, 0 ≤ a ∧ a < 32 := fun a ha => by have := hlook a (List.mem_of_mem_take ha); exact ⟨this.1, this.2.1⟩
  have hmds := mds (m := lenOf (enc (intsOf w)) (need : Int)) (rowsOf_len (enc (intsOf w)) need) hn2 (rowsOf_U8 hbU _) hJ ((idxOf_dup (look l) 32).sublist (List.take_sublist _ _)) (by rw [List.length_take]; omega) (D := (datOf (look l) 32).take need) (by rw [hdat, List.map_take])
  have hfit : fitB need (idxOf (look l) 32) (datOf (look l) 32) (lenOf (enc (intsOf w)) (need : Int)) = true := by
    unfold fitB
    rw [decide_eq_true_iff]
    intro i hi hni
    have hri : rd (idxOf (look l) 32) (i : Int) = (idxOf (look l) 32)[i] := rd_get hi
    have hr := hlook _ (List.getElem_mem hi)
    rw [hmds _ (by rw [hri]; omega), rd2_get (by rw [hdat, List.length_map]; exact hi), hri]
    simp only [hdat, List.getElem_map]
  rw [if_neg (show ¬ (idxOf (look l) 32).length < need by omega), if_pos hfit, if_neg (by simp)]
  have hrows : rowsB need (idxOf (look l) 32) (datOf (look l) 32) (lenOf (enc (intsOf w)) (need : Int)) = rowsOf (enc (intsOf w)) (need : Int) := by
    unfold rowsB
    apply List.ext_getElem (by rw [List.length_map, List.length_range, rowsOf_len])
    intro j hj1 hj2
    rw [List.length_map, List.length_range] at hj1
    rw [List.getElem_map, List.getElem_range, hmds j (by omega), base_rows (rowsOf_len _ _) hn2 (rowsOf_U8 hbU _) (rowsOf_row _ hn1) hj1]
  rw [hrows, rows_back _ hn1]
  unfold endM
  have hsum : p0.f4 = sumOf (enc (intsOf w)) := by rw [e0]; rfl
  rw [if_neg (by rw [hsum]; simp), from_bytes h.v hU]
  dsimp only
  have hname : sameName w p0 := by rw [e0]; exact ⟨rfl, rfl, rfl⟩
  rw [if_neg (by rintro (h | h); exact h rfl; exact h hname)]
end Go.Proofs.YthiealhmcfdakaaM
end
section
set_option linter.unusedVariables false
set_option linter.unusedSimpArgs false
namespace Go.Proofs.YthiealhmcfdakaaM
open Go Go.RowKit Go.Proofs.YthiealhmcfdakaaH Go.Proofs.Ythiealhmcfdakaa.E Go.Proofs.YthiealhmcfdakaaW.PrintWords
def pcs (w : Wn) (b : List Int) (need : Int) (n : Nat) (D : Nat → List Int) : List S49 := (List.range n).map fun k => pieceAt w b need k (D k)
section
variable {w : Wn} {b : List Int} {need : Int} {n : Nat} {D : Nat → List Int}
theorem pcs_len : (pcs w b need n D).length = n := by rw [pcs, List.length_map, List.length_range]
theorem pcs_get {k : Nat} (h : k < n) : (pcs w b need n D)[k]? = some (pieceAt w b need k (D k)) := by
  rw [pcs, List.getElem?_map, List.getElem?_range h]; rfl
theorem pcs_mem {p : S49} (h : p ∈ pcs w b need n D) : ∃ k, k < n ∧ p = pieceAt w b need k (D k) := by
  obtain ⟨k, hk, rfl⟩ := List.mem_map.1 h
  exact ⟨k, List.mem_range.1 hk, rfl⟩
theorem pcs_C2 : C2 (pcs w b need n D) := by
  intro p hp q hq e
  obtain ⟨k, hk, rfl⟩ := pcs_mem hp
  obtain ⟨j, hj, rfl⟩ := pcs_mem hq
  have e' : (k : Int) = (j : Int) := e
  have : k = j := by omega
  rw [this]
theorem pcs_look {k : Nat} (h : k < n) : look (pcs w b need n D) (k : Int) = some (D k) :=
  look_mem pcs_C2 (List.mem_of_getElem? (pcs_get h))
theorem pcs_look_none {k : Nat} (h : n ≤ k) : look (pcs w b need n D) (k : Int) = none := by
  cases e : look (pcs w b need n D) (k : Int) with
  | none => rfl
  | some d =>
    obtain ⟨p, hp, e1, _⟩ := look_some e
    obtain ⟨j, hj, rfl⟩ := pcs_mem hp
    have e' : (j : Int) = (k : Int) := e1
    omega
theorem filter_lt (n : Nat) : ∀ N, n ≤ N → (List.range N).filter (fun j => decide (j < n)) = List.range n
  | 0, h => by obtain rfl : n = 0 := by omega
               rfl
  | N + 1, h => by
    by_cases e : n = N + 1
    · subst e
      exact List.filter_eq_self.2 (fun a ha => decide_eq_true (List.mem_range.1 ha))
    · rw [List.range_succ, List.filter_append, filter_lt n N (by omega)]
      have : ¬ N < n := by omega
      simp [this]
theorem pcs_idx (h : n ≤ 32) : idxOf (look (pcs w b need n D)) 32 = base n := by
  unfold idxOf base
  congr 1
  rw [← filter_lt n 32 h]
  apply List.filter_congr
  intro j hj
  by_cases hjn : j < n
  · rw [pcs_look hjn]; simp [hjn]
  · rw [pcs_look_none (by omega)]; simp [hjn]
theorem pcs_dat (h : n ≤ 32) : datOf (look (pcs w b need n D)) 32 = (List.range n).map D := by
  unfold datOf
  rw [pcs_idx h, base, List.map_map]
  apply List.map_congr_left
  intro j hj
  rw [Function.comp, pcs_look (List.mem_range.1 hj)]; rfl
end
theorem base_take {need n : Nat} (h : need ≤ n) : (base n).take need = base need := by
  rw [base, base, ← List.map_take, List.take_range, Nat.min_eq_left h]
theorem range_take {need n : Nat} (h : need ≤ n) (D : Nat → List Int) : ((List.range n).map D).take need = (List.range need).map D := by
  rw [← List.map_take, List.take_range, Nat.min_eq_left h]
theorem not_fit {R : List (List Int)} {m need n : Nat} (hR : R.length = need) (hn1 : 1 ≤ need) (hn : need ≤ 31) (hRU : ∀ r ∈ R, U8 r) (hRm : ∀ r ∈ R, r.length = m) (hnn : need < n) (hn32 : n ≤ 32) {i : Nat} (hi : i < n) {d : List Int} (hdm : d.length = m) (hdU : U8 d) (hd : d ≠ rowOf (base need) R i m) :
    fitB need (base n) ((List.range n).map fun k => if k = i then d else rowOf (base need) R k m) m = false := by
  cases hf : fitB need (base n) ((List.range n).map fun k => if k = i then d else rowOf (base need) R k m) m with
  | false => rfl
  | true =>
    exfalso
    unfold fitB at hf
    rw [decide_eq_true_iff, base_take (by omega), range_take (by omega), base_len] at hf
    have hb : ∀ k, k < n → rd (base n) (k : Int) = (k : Int) := by
      intro k hk
      rw [rd_get (by rw [base_len]; exact hk)]
      simp [base]
    have hf' : ∀ k, k < n → need ≤ k → rowOf (base need) ((List.range need).map fun k => if k = i then d else rowOf (base need) R k m) k m = if k = i then d else rowOf (base need) R k m := by
      intro k hk hk2
      have := hf k hk hk2
      rw [hb k hk, Int.toNat_natCast, rd2_get (by rw [List.length_map, List.length_range]; exact hk)] at this
      simpa using this
    clear hf
    by_cases hin : i < need
    · -- the row is one of the first: the polynomials agree on the others and on the next
      obtain ⟨R', hR'⟩ : ∃ R', R' = (List.range need).map fun k => if k = i then d else rowOf (base need) R k m := ⟨_, rfl⟩
      rw [← hR'] at hf'
      have hR'l : R'.length = need := by rw [hR', List.length_map, List.length_range]
      have hR'm : ∀ r ∈ R', r.length = m := by
        intro r hr
        rw [hR'] at hr
        obtain ⟨k, _, rfl⟩ := List.mem_map.1 hr
        split
        · exact hdm
        · exact rowOf_len _ _ _ _
      have hR'U : ∀ r ∈ R', U8 r := by
        intro r hr
        rw [hR'] at hr
        obtain ⟨k, hk, rfl⟩ := List.mem_map.1 hr
        have := List.mem_range.1 hk
        split
        · exact hdU
        · exact rowOf_U8 (by omega) (base_rng (by omega))
      have hrow : ∀ k, k < need → rowOf (base need) R' k m = if k = i then d else rowOf (base need) R k m := by
        intro k hk
        rw [base_rows hR'l (by omega) hR'U hR'm hk]
        simp [hR']
      obtain ⟨J, hJ⟩ : ∃ J : List Int, J = (List.range need).map fun k => if k = i then (need : Int) else (k : Int) := ⟨_, rfl⟩
      have hJl : J.length = need := by rw [hJ, List.length_map, List.length_range]
      have hJm : ∀ a ∈ J, ∃ k : Nat, k < need ∧ ((k ≠ i ∧ a = (k : Int)) ∨ a = (need : Int)) := by
        intro a ha
        rw [hJ] at ha
        obtain ⟨k, hk, rfl⟩ := List.mem_map.1 ha
        refine ⟨k, List.mem_range.1 hk, ?_⟩
        by_cases e : k = i
        · rw [if_pos e]; exact .inr rfl
        · rw [if_neg e]; exact .inl ⟨e, rfl⟩
      have hJr : ∀ a ∈ J, 0 ≤ a ∧ a < 32 := by
        intro a ha
        obtain ⟨k, hk, h | h⟩ := hJm a ha
        · omega
        · omega
      have hJd : J.Nodup := by
        rw [hJ]
        unfold List.Nodup
        rw [List.pairwise_map]
        refine List.Pairwise.imp_of_mem (R := fun a b : Nat => a ≠ b) (fun {a b} ha hb hne e => ?_) List.nodup_range
        have h1 := List.mem_range.1 ha
        have h2 := List.mem_range.1 hb
        split at e <;> split at e <;> omega
      have hD : (J.map fun a => rowOf (base need) R' a.toNat m) = J.map fun a => rowOf (base need) R a.toNat m := by
        apply List.map_congr_left
        intro a ha
        obtain ⟨k, hk, h | h⟩ := hJm a ha
        · obtain ⟨h1, rfl⟩ := h
          rw [Int.toNat_natCast, hrow k hk, if_neg h1]
        · subst h
          rw [Int.toNat_natCast, hf' need hnn (Nat.le_refl _), if_neg (by omega)]
      have e1 := mds (m := m) hR (by omega) hRU hJr hJd (by omega) rfl i (by omega)
      have e2 := mds (m := m) hR'l (by omega) hR'U hJr hJd (by omega) rfl i (by omega)
      rw [hD, e1, hrow i hin, if_pos rfl] at e2
      exact hd e2.symm
    · have h1 := hf' i hi (by omega)
      rw [if_pos rfl] at h1
      have hrows : ((List.range need).map fun k => if k = i then d else rowOf (base need) R k m) = R := by
        apply List.ext_getElem (by rw [List.length_map, List.length_range, hR])
        intro j h1 h2
        rw [List.length_map, List.length_range] at h1
        rw [List.getElem_map, List.getElem_range, if_neg (by omega), base_rows hR (by omega) hRU hRm h1]
      rw [hrows] at h1
      exact hd h1.symm
theorem cut_pcs {w : Wn} {need n : Nat} {l : List S49} (h : CutOK w need n l) : l = pcs w (enc (intsOf w)) (need : Int) n fun k => rowOf (base need) (rowsOf (enc (intsOf w)) (need : Int)) k (lenOf (enc (intsOf w)) (need : Int)) := by
  apply List.ext_getElem?
  intro k
  by_cases hk : k < n
  · rw [h.get hk, pcs_get hk]
  · rw [List.getElem?_eq_none (by rw [h.len]; omega), List.getElem?_eq_none (by rw [pcs_len]; omega)]
theorem pcs_set {w : Wn} {b : List Int} {need : Int} {n : Nat} {D : Nat → List Int} {i : Nat} {d : List Int} (hi : i < n) : (pcs w b need n D).set i (pieceAt w b need i d) = pcs w b need n fun k => if k = i then d else D k := by
  apply List.ext_getElem?
  intro k
  by_cases hk : k < n
  · rw [pcs_get hk]
    by_cases e : i = k
    · subst e
      rw [List.getElem?_set_self (by rw [pcs_len]; exact hk), if_pos rfl]
    · rw [List.getElem?_set_ne e, pcs_get hk, if_neg (fun h => e h.symm)]
  · rw [List.getElem?_eq_none (by rw [List.length_set, pcs_len]; omega), List.getElem?_eq_none (by rw [pcs_len]; omega)]
theorem changed {w : Wn} {need n : Nat} {l : List S49} (h : CutOK w need n l) (hU : U8 w.text) (hn : need < n) {i : Nat} (hi : i < n) {d : List Int} (hdl : d.length = (l.getD i z49).f5.length) (hdU : U8 d) (hd : d ≠ (l.getD i z49).f5) :
    piece_Gather.f 400 (l.set i { l.getD i z49 with f5 := d }) = some (zWn, 18) := by
  have hn1 := h.n1
  have hn3 := h.n3
  have hg : l.getD i z49 = pieceAt w (enc (intsOf w)) (need : Int) i (rowOf (base need) (rowsOf (enc (intsOf w)) (need : Int)) i (lenOf (enc (intsOf w)) (need : Int))) := by
    rw [List.getD_eq_getElem?_getD, h.get hi, Option.getD_some]
  have hl' : l.set i { l.getD i z49 with f5 := d } = pcs w (enc (intsOf w)) (need : Int) n fun k => if k = i then d else rowOf (base need) (rowsOf (enc (intsOf w)) (need : Int)) k (lenOf (enc (intsOf w)) (need : Int)) := by
    rw [hg, ← pcs_set hi, ← cut_pcs h]
    rfl
  rw [hg] at hdl hd
  have hdl' : d.length = lenOf (enc (intsOf w)) (need : Int) := hdl.trans (rowOf_len _ _ _ _)
  have hd' : d ≠ rowOf (base need) (rowsOf (enc (intsOf w)) (need : Int)) i (lenOf (enc (intsOf w)) (need : Int)) := hd
  rw [hl']
  clear hl' hg hdl hd
  obtain ⟨D, hD⟩ : ∃ D : Nat → List Int, D = fun k => if k = i then d else rowOf (base need) (rowsOf (enc (intsOf w)) (need : Int)) k (lenOf (enc (intsOf w)) (need : Int)) := ⟨_, rfl⟩
  rw [← hD]
  have hDl : ∀ k, (D k).length = lenOf (enc (intsOf w)) (need : Int) := by
    intro k
    rw [hD]
    dsimp only
    split
    · exact hdl'
    · exact rowOf_len _ _ _ _
  have hDU : ∀ k, k < 32 → U8 (D k) := by
    intro k hk
    rw [hD]
    dsimp only
    split
    · exact hdU
    · exact rowOf_U8 (by omega) (base_rng (by omega))
  have hok : ∀ p ∈ pcs w (enc (intsOf w)) (need : Int) n D, okP p := by
    intro p hp
    obtain ⟨k, hk, rfl⟩ := pcs_mem hp
    exact pieceAt_ok h hU (by omega) (hDl k)
  have hpU : ∀ p ∈ pcs w (enc (intsOf w)) (need : Int) n D, U8 p.f5 := by
    intro p hp
    obtain ⟨k, hk, rfl⟩ := pcs_mem hp
    exact hDU k (by omega)
  have hgf := gather_f (l := pcs w (enc (intsOf w)) (need : Int) n D) (by rw [pcs_len]; omega) (by rw [pcs_len]; omega) hok hpU
  have hp0 : (pcs w (enc (intsOf w)) (need : Int) n D).getD 0 z49 = pieceAt w (enc (intsOf w)) (need : Int) 0 (D 0) := by
    rw [List.getD_eq_getElem?_getD, pcs_get (by omega), Option.getD_some]
  rw [hp0] at hgf
  have hc : Cons (pieceAt w (enc (intsOf w)) (need : Int) 0 (D 0)) (pcs w (enc (intsOf w)) (need : Int) n D) := by
    refine ⟨fun p hp => ?_, pcs_C2⟩
    obtain ⟨k, hk, rfl⟩ := pcs_mem hp
    exact wholeEq_iff.2 ⟨⟨rfl, rfl, rfl⟩, rfl, rfl, rfl⟩
  rw [hgf.1 hc]
  unfold gatherC
  dsimp only
  have hf2 : (pieceAt w (enc (intsOf w)) (need : Int) 0 (D 0)).f2.toNat = need := Int.toNat_natCast _
  have hf5 : (pieceAt w (enc (intsOf w)) (need : Int) 0 (D 0)).f5.length = lenOf (enc (intsOf w)) (need : Int) := hDl 0
  rw [hf2, hf5, pcs_idx (by omega), pcs_dat (by omega)]
  have hfit := not_fit (m := lenOf (enc (intsOf w)) (need : Int)) (rowsOf_len (enc (intsOf w)) need) hn1 (by omega) (rowsOf_U8 (enc_U8 _) _) (rowsOf_row _ hn1) hn (by omega) hi hdl' hdU hd'
  rw [← hD] at hfit
  have hdec : decM need (base n) ((List.range n).map D) (lenOf (enc (intsOf w)) (need : Int)) = ([], 18) := by
    unfold decM
    rw [base_len, if_neg (by omega), hfit, if_neg (by simp)]
  rw [hdec]
  rfl
theorem mixed {w v : Wn} {need other n : Nat} {a b : List S49} (ha : CutOK w need n a) (hb : CutOK v other n b) (hU : U8 w.text) (hV : U8 v.text) {i j : Nat} (hi : i < n) (hj : j < n) :
    (wholeEq (a.getD i z49) (b.getD j z49) = false → piece_Gather.f 400 (a ++ [b.getD j z49]) = some (zWn, 18)) ∧
    (wholeEq (a.getD i z49) (b.getD j z49) = true → ∃ g e, piece_Gather.f 400 (a ++ [b.getD j z49]) = some (g, e) ∧ (e = 0 → g = w)) := by
  have hn3 := ha.n3
  have hq : b.getD j z49 = pieceAt v (enc (intsOf v)) (other : Int) j (rowOf (base other) (rowsOf (enc (intsOf v)) (other : Int)) j (lenOf (enc (intsOf v)) (other : Int))) := by
    rw [List.getD_eq_getElem?_getD, hb.get hj, Option.getD_some]
  have hp : ∀ k, k < n → a.getD k z49 = pieceAt w (enc (intsOf w)) (need : Int) k (rowOf (base need) (rowsOf (enc (intsOf w)) (need : Int)) k (lenOf (enc (intsOf w)) (need : Int))) := by
    intro k hk
    rw [List.getD_eq_getElem?_getD, ha.get hk, Option.getD_some]
  have hqok : okP (b.getD j z49) := by
    rw [hq]; exact pieceAt_ok hb hV (by omega) (rowOf_len _ _ _ _)
  have hqU : U8 (b.getD j z49).f5 := by
    rw [hq]; exact rowOf_U8 (by omega) (base_rng hb.n2)
  have haj := hp j hj
  have hai := hp i hi
  have hja : a.getD j z49 ∈ a := by
    rw [List.getD_eq_getElem?_getD, List.getElem?_eq_getElem (by rw [ha.len]; exact hj), Option.getD_some]
    exact List.getElem_mem _
  have hia : a.getD i z49 ∈ a := by
    rw [List.getD_eq_getElem?_getD, List.getElem?_eq_getElem (by rw [ha.len]; exact hi), Option.getD_some]
    exact List.getElem_mem _
  have hq1 : (b.getD j z49).f1 = (j : Int) := by rw [hq]; rfl
  obtain ⟨q, hqd⟩ : ∃ q, q = b.getD j z49 := ⟨_, rfl⟩
  rw [← hqd] at hqok hqU hq1 ⊢
  clear hq hqd
  have hok : ∀ p ∈ a ++ [q], okP p := by
    intro p hpm
    rcases List.mem_append.1 hpm with h | h
    · obtain ⟨k, hk, rfl⟩ := ha.mem h
      exact pieceAt_ok ha hU (by omega) (rowOf_len _ _ _ _)
    · rw [List.mem_singleton.1 h]; exact hqok
  have hpU : ∀ p ∈ a ++ [q], U8 p.f5 := by
    intro p hpm
    rcases List.mem_append.1 hpm with h | h
    · obtain ⟨k, hk, rfl⟩ := ha.mem h
      exact rowOf_U8 (by omega) (base_rng ha.n2)
    · rw [List.mem_singleton.1 h]; exact hqU
  have hlen : (a ++ [q]).length = n + 1 := by rw [List.length_append, ha.len]; rfl
  have hgf := gather_f (l := a ++ [q]) (by omega) (by omega) hok hpU
  have h0 : (a ++ [q]).getD 0 z49 = a.getD 0 z49 := by
    rw [List.getD_eq_getElem?_getD, List.getElem?_append_left (by rw [ha.len]; omega), ← List.getD_eq_getElem?_getD]
  rw [h0, hp 0 (by omega)] at hgf
  have hwe : wholeEq (a.getD i z49) q = wholeEq q (pieceAt w (enc (intsOf w)) (need : Int) 0 (rowOf (base need) (rowsOf (enc (intsOf w)) (need : Int)) 0 (lenOf (enc (intsOf w)) (need : Int)))) := by
    rw [hai, Bool.eq_iff_iff, wholeEq_iff, wholeEq_iff]
    simp only [pieceAt]
    constructor
    · rintro ⟨⟨h1, h2, h3⟩, h4, h5, h6⟩; exact ⟨⟨h1.symm, h2.symm, h3.symm⟩, h4.symm, h5.symm, h6.symm⟩
    · rintro ⟨⟨h1, h2, h3⟩, h4, h5, h6⟩; exact ⟨⟨h1.symm, h2.symm, h3.symm⟩, h4.symm, h5.symm, h6.symm⟩
  refine ⟨fun hf => hgf.2 (fun hc => ?_), fun ht => ?_⟩
  · have := hc.1 q (List.mem_append_right _ (List.mem_singleton.2 rfl))
    rw [← hwe, hf] at this
    cases this
  · by_cases hc : C2 (a ++ [q])
    · have h5 : q.f5 = (a.getD j z49).f5 := hc q (List.mem_append_right _ (List.mem_singleton.2 rfl)) _ (List.mem_append_left _ hja) (by rw [hq1, haj]; rfl)
      have hqa : q = a.getD j z49 := by
        rw [hwe, wholeEq_iff] at ht
        rw [haj] at h5 ⊢
        obtain ⟨⟨q0, q1, q2⟩, q3, q4, q5, q6, q7⟩ := q
        simp only [pieceAt] at ht h5 hq1 ⊢
        obtain ⟨⟨h1, h2, h3⟩, h4, h6, h7⟩ := ht
        subst h1 h2 h3 h4 h6 h7 h5 hq1
        rfl
      have hmem : ∀ p ∈ a ++ [q], p ∈ a := by
        intro p hpm
        rcases List.mem_append.1 hpm with h | h
        · exact h
        · rw [List.mem_singleton.1 h, hqa]; exact hja
      have hgp := gather_pieces ha hU hmem (by omega) (by omega)
      by_cases hlt : (idxOf (look (a ++ [q])) 32).length < need
      · exact ⟨_, _, hgp.1 hlt, fun e => absurd e (by decide)⟩
      · exact ⟨_, _, hgp.2 (by omega), fun _ => rfl⟩
    · exact ⟨_, _, hgf.2 (fun h => hc h.2), fun e => absurd e (by decide)⟩
end Go.Proofs.YthiealhmcfdakaaM
end
section
set_option linter.unusedVariables false
set_option linter.unusedSimpArgs false
namespace Go.Proofs.YthiealhmcfdakaaM
open Go Go.RowKit Go.Proofs.YthiealhmcfdakaaH Go.Proofs.Ythiealhmcfdakaa.E Go.Proofs.YthiealhmcfdakaaW.PrintWords
def dmg (x : List Int) (f : Nat) (b : List Int) : Nat → List Int
  | 0 => x
  | k + 1 => (dmg x f b k).set (f + k) (Go.bits .xor .u8 (rd (dmg x f b k) ((f + k : Nat) : Int)) (rd b (k : Int)))
theorem dmg_len (x : List Int) (f : Nat) (b : List Int) (k : Nat) : (dmg x f b k).length = x.length := by
  induction k with
  | zero => rfl
  | succ k ih => rw [dmg, List.length_set, ih]
def chg (b : List Int) : Nat → Bool
  | 0 => false
  | k + 1 => chg b k || (rd b (k : Int) != 0)
def rounds (n f : Nat) : Nat := min 4 (n - f)
theorem iadd (a b : Nat) (h : a + b ≤ 4611686018427387904) : IntKind.i64.wrap ((a : Int) + (b : Int)) = (a : Int) + (b : Int) := IntWalk.i64_in _ (by omega)
theorem wone' (a : Nat) (h : a ≤ 4611686018427387904) : wrap64 ((a : Int) + 1) = ((a + 1 : Nat) : Int) := by unfold wrap64; omega
theorem wadd' (a b : Nat) (h : a + b ≤ 4611686018427387904) : wrap64 ((a : Int) + (b : Int)) = (a : Int) + (b : Int) := IntWalk.wrap64_in _ (by omega)
theorem rdn' (l : List Int) (i : Nat) : rd l (i : Int) = (l[i]?).getD 0 := by
  unfold rd; rw [Int.toNat_natCast, List.getD_eq_getElem?_getD]
theorem rd_ext {a b : List Int} (hl : a.length = b.length) (h : ∀ i : Nat, i < a.length → rd a (i : Int) = rd b (i : Int)) : a = b := by
  apply List.ext_getElem hl
  intro i h1 h2
  have := h i h1
  rwa [rd_get h1, rd_get h2] at this
theorem rd_set (l : List Int) (j i : Nat) (x : Int) (hj : j < l.length) : rd (l.set j x) (i : Int) = if i = j then x else rd l (i : Int) := by
  rw [rdn', rdn', List.getElem?_set]
  by_cases h : i = j
  · subst h; simp [hj]
  · rw [if_neg (fun e => h e.symm), if_neg h]
theorem dmg_rd (x : List Int) (f : Nat) (b : List Int) : ∀ k : Nat, f + k ≤ x.length → ∀ i : Nat, rd (dmg x f b k) (i : Int) = if f ≤ i ∧ i < f + k then Go.bits .xor .u8 (rd x (i : Int)) (rd b ((i - f : Nat) : Int)) else rd x (i : Int)
  | 0, _, i => by rw [dmg, if_neg (by omega)]
  | k + 1, h, i => by
    have hl := dmg_len x f b k
    rw [dmg, rd_set _ _ _ _ (by omega)]
    by_cases hi : i = f + k
    · subst hi
      rw [if_pos rfl, dmg_rd x f b k (by omega), if_neg (by omega), if_pos (by omega), show f + k - f = k by omega]
    · rw [if_neg hi, dmg_rd x f b k (by omega)]
      by_cases h2 : f ≤ i ∧ i < f + k
      · rw [if_pos h2, if_pos (by omega)]
      · rw [if_neg h2, if_neg (by omega)]
theorem rd_take {l : List Int} {k i : Nat} (h : i < k) (hk : k ≤ l.length) : rd (l.take k) (i : Int) = rd l (i : Int) := by
  rw [rdn', rdn', List.getElem?_take, if_pos h]
theorem rd_drop {l : List Int} {k i : Nat} : rd (l.drop k) (i : Int) = rd l ((k + i : Nat) : Int) := by
  rw [rdn', rdn', List.getElem?_drop]
theorem chg_false (b : List Int) : ∀ k : Nat, chg b k = false ↔ ∀ i : Nat, i < k → rd b (i : Int) = 0
  | 0 => by simp [chg]
  | k + 1 => by
    rw [chg, Bool.or_eq_false_iff, chg_false b k]
    constructor
    · rintro ⟨h1, h2⟩ i hi
      by_cases h : i = k
      · subst h; simpa using h2
      · exact h1 i (by omega)
    · intro h
      exact ⟨fun i hi => h i (by omega), by simpa using h k (by omega)⟩
theorem xor_byte {x y : Int} (hx : 0 ≤ x ∧ x ≤ 255) (hy : 0 ≤ y ∧ y ≤ 255) : 0 ≤ Go.bits .xor .u8 x y ∧ Go.bits .xor .u8 x y ≤ 255 := by
  obtain ⟨a, rfl⟩ := Int.eq_ofNat_of_zero_le hx.1
  obtain ⟨b, rfl⟩ := Int.eq_ofNat_of_zero_le hy.1
  rw [xor_u8 a b (by omega) (by omega)]
  have : a ^^^ b < 2 ^ 8 := Nat.xor_lt_two_pow (by omega) (by omega)
  omega
theorem xor_same {x y : Int} (hx : 0 ≤ x ∧ x ≤ 255) (hy : 0 ≤ y ∧ y ≤ 255) : Go.bits .xor .u8 x y = x ↔ y = 0 := by
  obtain ⟨a, rfl⟩ := Int.eq_ofNat_of_zero_le hx.1
  obtain ⟨b, rfl⟩ := Int.eq_ofNat_of_zero_le hy.1
  rw [xor_u8 a b (by omega) (by omega)]
  constructor
  · intro h
    have h1 : a ^^^ b = a ^^^ 0 := by rw [Nat.xor_zero]; omega
    have := xor_cancel h1
    omega
  · intro h
    have : b = 0 := by omega
    subst this
    rw [Nat.xor_zero]
theorem frame_nfold {l : List Int} (h : U8 l) : nfold F (frameOf l) = Mj 4 F := (closes (headOf l) _ (headOf_U8 h) (fourOf_U8 (crcSum_range (headOf_U8 h)).1) rfl).1 rfl
theorem damage {l : List Int} (hU : U8 l) (hl : l.length ≤ 65535) (f : Nat) (h2 : 2 ≤ f) (hf : f < l.length + 6) (b : List Int) (hb : ∀ i : Nat, i < 4 → 0 ≤ rd b (i : Int) ∧ rd b (i : Int) ≤ 255) :
    ∃ o, codec_Open.f (dmg (frameOf l) f b (rounds (l.length + 6) f)) = some o ∧ (o.2.2 == 9) = chg b (rounds (l.length + 6) f) ∧ (o.2.2 == 0) = !chg b (rounds (l.length + 6) f) := by
  obtain ⟨r, hr⟩ : ∃ r, rounds (l.length + 6) f = r := ⟨_, rfl⟩
  have hr4 : r ≤ 4 ∧ f + r ≤ l.length + 6 := by unfold rounds at hr; omega
  rw [hr]
  have hFl := frameOf_len l
  have hFU := frameOf_U8 hU
  have hDl : (dmg (frameOf l) f b r).length = l.length + 6 := by rw [dmg_len, hFl]
  have hrd := dmg_rd (frameOf l) f b r (by omega)
  obtain ⟨D, hD⟩ : ∃ D, D = dmg (frameOf l) f b r := ⟨_, rfl⟩
  rw [← hD] at hDl hrd ⊢
  clear hD
  have hDb : ∀ i : Nat, i < l.length + 6 → 0 ≤ rd D (i : Int) ∧ rd D (i : Int) ≤ 255 := by
    intro i hi
    have hx := hFU.rd_in (k := i) (by omega)
    rw [hrd i]
    split
    · next h => exact xor_byte hx (hb _ (by omega))
    · exact hx
  have hDU : U8 D := by
    intro x hx
    obtain ⟨i, hi, rfl⟩ := List.mem_iff_getElem.1 hx
    have := hDb i (by omega)
    rwa [rd_get hi] at this
  have hlen : frameLen D = l.length := by
    have e0 := hrd 0
    have e1 := hrd 1
    rw [if_neg (by omega)] at e0 e1
    have := frameLen_of (r := fourOf (crcSum (headOf l))) hl
    unfold frameLen at this ⊢
    have e0' : rd D 0 = rd (frameOf l) 0 := e0
    have e1' : rd D 1 = rd (frameOf l) 1 := e1
    rw [e0', e1']
    exact this
  have hfour : (D.drop (l.length + 2)).take 4 = D.drop (l.length + 2) := List.take_of_length_le (by rw [List.length_drop]; omega)
  have hcl := closes (D.take (l.length + 2)) (D.drop (l.length + 2)) (hDU.take _) (hDU.drop _) (by rw [List.length_drop]; omega)
  rw [List.take_append_drop, ← frame_nfold hU] at hcl
  have hpre : D.take f = (frameOf l).take f := by
    apply rd_ext (by rw [List.length_take, List.length_take]; omega)
    intro i hi
    rw [List.length_take] at hi
    rw [rd_take (by omega) (by omega), rd_take (by omega) (by omega), hrd, if_neg (by omega)]
  have hsuf : D.drop (f + r) = (frameOf l).drop (f + r) := by
    apply rd_ext (by rw [List.length_drop, List.length_drop]; omega)
    intro i hi
    rw [rd_drop, rd_drop, hrd, if_neg (by omega)]
  have hsplit : ∀ X : List Int, X = X.take f ++ (X.drop f).take r ++ X.drop (f + r) := by
    intro X
    rw [List.append_assoc, ← List.drop_drop, List.take_append_drop, List.take_append_drop]
  have hsame : D = frameOf l ↔ chg b r = false := by
    rw [chg_false]
    constructor
    · intro h i hi
      have := hrd (f + i)
      rw [if_pos (by omega), h, show f + i - f = i by omega] at this
      exact (xor_same (hFU.rd_in (by omega)) (hb i (by omega))).1 this.symm
    · intro h
      apply rd_ext (by omega)
      intro i hi
      rw [hrd]
      split
      · next hc => exact (xor_same (hFU.rd_in (by omega)) (hb _ (by omega))).2 (h _ (by omega))
      · rfl
  have hiff : (D.drop (l.length + 2) = fourOf (crcSum (D.take (l.length + 2)))) ↔ chg b r = false := by
    rw [hcl, ← hsame]
    constructor
    · intro h
      rw [hsplit D, hsplit (frameOf l), hpre, hsuf] at h
      have hw := nfold_window ((frameOf l).take f) ((D.drop f).take r) (((frameOf l).drop f).take r) ((frameOf l).drop (f + r)) F (hFU.take _) ((hDU.drop _).take _) ((hFU.drop _).take _) (hFU.drop _) (by decide)
        (by rw [List.length_take, List.length_take, List.length_drop, List.length_drop]; omega) (by rw [List.length_take]; omega) h
      rw [hsplit D, hpre, hsuf, hw]
      exact (hsplit _).symm
    · intro h; rw [h]
  unfold codec_Open.f
  rw [if_pos (bytesOk_of hDU), if_neg (by omega), hlen, if_neg (by omega), hfour]
  by_cases hc : D.drop (l.length + 2) = fourOf (crcSum (D.take (l.length + 2)))
  · rw [if_pos hc]
    rw [hiff.1 hc]
    exact ⟨_, rfl, rfl, rfl⟩
  · rw [if_neg hc]
    have : chg b r = true := by
      cases h : chg b r
      · exact absurd (hiff.2 h) hc
      · rfl
    rw [this]
    exact ⟨_, rfl, rfl, rfl⟩
theorem dmg_U8 {l : List Int} (hU : U8 l) (f : Nat) {b : List Int} (hb : ∀ i : Nat, i < 4 → 0 ≤ rd b (i : Int) ∧ rd b (i : Int) ≤ 255) (r : Nat) (hr : r ≤ 4) (hf : f + r ≤ l.length) : U8 (dmg l f b r) := by
  intro x hx
  obtain ⟨i, hi, rfl⟩ := List.mem_iff_getElem.1 hx
  have hrd := dmg_rd l f b r hf i
  rw [dmg_len] at hi
  have hx := hU.rd_in hi
  have : rd (dmg l f b r) (i : Int) = (dmg l f b r)[i]'(by rw [dmg_len]; exact hi) := rd_get (by rw [dmg_len]; exact hi)
  rw [← this, hrd]
  split
  · exact xor_byte hx (hb _ (by omega))
  · exact hx
theorem dmg_none {l : List Int} (hU : U8 l) (f : Nat) {b : List Int} (hb : ∀ i : Nat, i < 4 → 0 ≤ rd b (i : Int) ∧ rd b (i : Int) ≤ 255) (r : Nat) (hr : r ≤ 4) (hf : f + r ≤ l.length) (h : chg b r = false) : dmg l f b r = l := by
  rw [chg_false] at h
  apply rd_ext (by rw [dmg_len])
  intro i hi
  rw [dmg_len] at hi
  rw [dmg_rd l f b r hf]
  split
  · exact (xor_same (hU.rd_in hi) (hb _ (by omega))).2 (h _ (by omega))
  · rfl
theorem pRead_damage {p : S49} (hok : okP p) (hU : U8 p.f5) (f : Nat) (h2 : 2 ≤ f) (hf : f < (frameOf (payload p)).length) (b : List Int) (hb : ∀ i : Nat, i < 4 → 0 ≤ rd b (i : Int) ∧ rd b (i : Int) ≤ 255) :
    ∃ y e, piece_Read.f (dmg (frameOf (payload p)) f b (rounds (frameOf (payload p)).length f)) = some (y, e) ∧ (e == 9) = !decide (frameOf (payload p) = dmg (frameOf (payload p)) f b (rounds (frameOf (payload p)).length f)) := by
  have hpl := payload_len p
  have hd := okP_data hok
  have hfl := frameOf_len (payload p)
  have hpU := payload_U8 hok hU
  have hr4 : rounds (frameOf (payload p)).length f ≤ 4 ∧ f + rounds (frameOf (payload p)).length f ≤ (frameOf (payload p)).length := by unfold rounds; omega
  by_cases hs : frameOf (payload p) = dmg (frameOf (payload p)) f b (rounds (frameOf (payload p)).length f)
  · refine ⟨p, 0, ?_, ?_⟩
    · rw [← hs]; exact pRead_frame hok hU
    · rw [decide_eq_true hs]; rfl
  · obtain ⟨o, ho, h9, h0⟩ := damage hpU (by omega) f h2 (by omega) b hb
    rw [← hfl] at ho h9 h0
    have hc : chg b (rounds (frameOf (payload p)).length f) = true := by
      cases h : chg b (rounds (frameOf (payload p)).length f)
      · exact absurd (dmg_none (frameOf_U8 hpU) f hb _ hr4.1 hr4.2 h).symm hs
      · rfl
    rw [hc] at h9 h0
    have e9 : o.2.2 = 9 := by simpa using h9
    refine ⟨z49, 9, ?_, ?_⟩
    · unfold piece_Read.f
      rw [ho, Option.bind_some]
      simp only [e9]
      rw [if_pos (by decide)]
    · rw [decide_eq_false hs]; rfl
theorem pRead_cut {p : S49} (hok : okP p) (hU : U8 p.f5) (m : Nat) (hm : m < (frameOf (payload p)).length) : piece_Read.f ((frameOf (payload p)).take m) = some (z49, 8) := by
  have hpl := payload_len p
  have hd := okP_data hok
  have hfl := frameOf_len (payload p)
  unfold piece_Read.f
  rw [open_cut (payload_U8 hok hU) (by omega) m (by omega), Option.bind_some]
  dsimp only
  rw [if_pos (by decide)]
end Go.Proofs.YthiealhmcfdakaaM
end
section
set_option linter.unusedVariables false
set_option linter.unusedSimpArgs false
namespace Go.Proofs.YthiealhmcfdakaaH
open Go Go.RowKit Go.Proofs.YthiealhmcfdakaaW.PrintWords Go.Proofs.YthiealhmcfdakaaW.PrintLast Go.Proofs.YthiealhmcfdakaaW.PrintMore Go.Proofs.Ythiealhmcfdakaa.E
def rawsOf (l : List S49) (sv : Nat → Value) : List (List Value) := (List.range l.length).map fun m => rawPiece (l.getD m z49) (sv m)
theorem rawsOf_len (l : List S49) (sv : Nat → Value) : (rawsOf l sv).length = l.length := by rw [rawsOf, List.length_map, List.length_range]
theorem rawsOf_get {l : List S49} {sv : Nat → Value} {m : Nat} (h : m < l.length) : (rawsOf l sv)[m]? = some (rawPiece (l.getD m z49) (sv m)) := by
  rw [rawsOf, List.getElem?_map, List.getElem?_range h]
  rfl
theorem rawPiece_ok {p : S49} {A : Option Addr} {c : Nat} : (rawPiece p (.slice A p.f5.length c)).length = 8 ∧ ∀ u ∈ rawPiece p (.slice A p.f5.length c), u.oneCell' = true := ⟨rfl, by simp [rawPiece, Value.oneCell']⟩
theorem raw_C {w : World} {A : Option Addr} {l : List S49} (h : Kd.C k49 w A l.length l) : ∃ sv : Nat → Value, Kd.C (rawKd 8) w A l.length (rawsOf l sv) ∧ ∀ m, m < l.length → ∃ A7 c7, sv m = .slice A7 (l.getD m z49).f5.length c7 ∧ (l.getD m z49).f5.length ≤ c7 ∧ (Kd.int .u8).C w A7 (l.getD m z49).f5.length (l.getD m z49).f5 ∧
    ∃ ad, A = some ad ∧ ∀ j v, (rawPiece (l.getD m z49) (sv m))[j]? = some v → w.cell? (ad.add (m * 8 + j)) = some v := by
  obtain ⟨sv, hsv⟩ := raws_of h
  refine ⟨sv, ⟨rawsOf_len l sv, h.2.1, fun hn => ?_⟩, hsv⟩
  obtain ⟨ad, e, _⟩ := h.2.2 hn
  refine ⟨ad, e, fun j x hj => ?_⟩
  have hjl : j < l.length := by
    have := (List.getElem?_eq_some_iff.1 hj).1
    rwa [rawsOf_len] at this
  rw [rawsOf_get hjl] at hj
  obtain rfl := Option.some.inj hj
  obtain ⟨A7, c7, hs, l7, g7, ad', e', hcell⟩ := hsv j hjl
  rw [e] at e'
  obtain rfl := Option.some.inj e'
  refine ⟨rawPiece (l.getD j z49) (sv j), by rw [hs]; exact rawPiece_ok.1, ⟨rfl, by rw [hs]; exact rawPiece_ok.1, by rw [hs]; exact rawPiece_ok.2⟩, hcell⟩
theorem rel_set {α β : Type} {xs : List α} {ys : List β} {R : α → β → Prop} (h : ∀ (j : Nat) a b, xs[j]? = some a → ys[j]? = some b → R a b) (i : Nat) {a : α} {b : β} (hR : R a b) : ∀ (j : Nat) a' b', (xs.set i a)[j]? = some a' → (ys.set i b)[j]? = some b' → R a' b' := by
  intro j a' b' ha hb
  by_cases e : i = j
  · subst e
    have h1 : i < xs.length := by have := (List.getElem?_eq_some_iff.1 ha).1; rwa [List.length_set] at this
    have h2 : i < ys.length := by have := (List.getElem?_eq_some_iff.1 hb).1; rwa [List.length_set] at this
    rw [List.getElem?_set_self h1] at ha
    rw [List.getElem?_set_self h2] at hb
    obtain rfl := Option.some.inj ha
    obtain rfl := Option.some.inj hb
    exact hR
  · rw [List.getElem?_set_ne e] at ha hb
    exact h j a' b' ha hb
section
variable {P : Program} {ops : Array Oper} {o : Oper} {a : Act} {Q : Exit → Act → World → Prop} {Kc : Act → World → Prop}
theorem raw_store_step {N : Option Tmp} {w0 W : World} (base : Nat) (hw : Region.wanted o (yielded ops a.tmps) = true) (hN : o.dst = none) (hNN : N = none) (t : TypeId) (p x : Operand) (ho : o.op = .store t p x) (e : TypeId) {g n cap : Nat} {ad : Addr} (i : Int) (xs : List (List Value)) (u : Value) (seg : List Value)
    (haddr : a.eval p = .pointer (some ad)) (hx : a.eval x = u) (hadr : ad = ⟨g, i.toNat * 8, none⟩) (hu : u.cells.toList = seg) (ht : (P.info? t).map (·.size) = some 8) (hsl : seg.length = 8) (h1 : ∀ q ∈ seg, q.oneCell' = true)
    (HO : (rawKd 8).R e W base (fun _ => True) (.slice (some ⟨g, 0, none⟩) n cap) xs) (h0 : 0 ≤ i) (hi : i < n) (HB : Below base w0 W)
    (h : ∀ w1, (rawKd 8).R e w1 base (fun _ => True) (.slice (some ⟨g, 0, none⟩) n cap) (xs.set i.toNat seg) → Below base w0 w1 → Kc a w1) : if Region.wanted o (yielded ops a.tmps) = true then Oper.wp P o a W Kc Q else Kc (a.put N undef) W := by
  subst hadr
  subst hNN
  rw [if_pos hw]
  have hnx : n = xs.length := (Kd.R_reads' HO).1
  obtain ⟨ad, c, e1, hcl, hK, hcc0⟩ := Kd.C_get (Kd.R_reads' HO).2.2 [] i h0 (by omega)
  obtain rfl := Option.some.inj e1
  have hcc : ∀ j u, c[j]? = some u → W.cell? ⟨g, i.toNat * 8 + j, none⟩ = some u := by
    intro j u hj
    have := hcc0 j u hj
    have e2 : (⟨g, 0, none⟩ : Addr).add (i.toNat * 8 + j) = ⟨g, i.toNat * 8 + j, none⟩ := by simp [Addr.add]; omega
    rw [← e2]
    exact this
  have hc8 : c.length = 8 := hcl
  obtain ⟨hrow, hg⟩ := Kd.R_seg (d := rawKd 8) (okp := fun _ => False) HO i h0 hi (c := c) (seg := seg) (j := 0) hcl hcc (by rw [hsl]; exact Nat.le_refl _) (x' := seg) (by
    have hd : List.drop (0 + seg.length) c = [] := List.drop_eq_nil_of_le (by omega)
    rw [hd, List.take_zero, List.nil_append, List.append_nil]
    exact ⟨rfl, hsl, h1⟩) (fun _ hk => hk.elim)
  have hbg : base ≤ g := Kd.R_base HO g (by simp [Value.ownBlock])
  obtain ⟨_, inner, hown, hr⟩ := HO
  have hil : i.toNat < n := by omega
  have hB : Below base w0 (W.setCells g (i.toNat * 8 + 0) seg) := HB.trans ⟨hg.os, hg.tape, hg.output, hg.size, fun k hk => by
    have hlt : k < W.heap.size ∨ W.heap.size ≤ k := Nat.lt_or_ge _ _
    rcases hlt with hlt | hge
    · exact hg.block k hlt (fun he => by injection he with he; omega)
    · exact setCells_far seg _ k (by omega)⟩
  have hrun : (Instr.storeAt t (.pointer (some ⟨g, i.toNat * 8 + 0, none⟩)) u).run P W = .ok () (W.setCells g (i.toNat * 8 + 0) seg) := by
    rcases hown.2 with ⟨hv, _⟩ | ⟨g', cap', cur, hv, hb, hh, hnc, hcm, hcs, _⟩
    · cases hv
    injection hv with ha _ hc
    injection ha with ha
    injection ha with hg'
    subst hg'; subst hc
    refine run_store_run t u seg hh hu (by rw [ht, hsl]) ?_ h1
    have h2 : i.toNat * 8 + 8 ≤ n * 8 := by omega
    have h3 : n * 8 ≤ cap * 8 := Nat.mul_le_mul_right _ (by omega)
    have h4 : (rawKd 8).sz = 8 := rfl
    rw [h4] at hcs
    omega
  unfold Oper.wp execOp
  simp only [Nat.add_zero] at hrun hrow hB
  simp only [ho, haddr, hx, Sem.run_bind, Sem.run_pure, Result.andThen_ok, hrun]
  show Kc (a.put o.dst undef) _
  rw [hN]
  exact h _ hrow hB
end
end Go.Proofs.YthiealhmcfdakaaH
end
section
set_option linter.unusedVariables false
set_option linter.unusedSimpArgs false
namespace Go.Proofs.YthiealhmcfdakaaH
open Go Go.RowKit Go.Proofs.YthiealhmcfdakaaW.PrintWords Go.Proofs.YthiealhmcfdakaaW.PrintLast Go.Proofs.YthiealhmcfdakaaW.PrintMore Go.Proofs.Ythiealhmcfdakaa.E Go.Proofs.YthiealhmcfdakaaM
theorem pcut_calls (p : Wn) (A : Option Addr) (c : Nat) (need n : Int) (l : List S49) (e : Int) (w : World) (hr : Kd.C (Kd.int .u8) w A p.text.length p.text) (hc : p.text.length ≤ c) (h : piece_Cut.f 4000 p need n = some (l, e)) :
    Calls Try.prog 18 #[.agg #[.int .i64 p.st, .int .i64 p.ki, .int .i64 p.nu, .int .i64 p.iss, .int .i64 p.unt, .int .i64 p.xlo, .int .i64 p.xhi, .int .i64 p.ylo, .int .i64 p.yhi, .int .i64 p.pri, .bool p.wd, .slice A p.text.length c], .int .i64 need, .int .i64 n] w fun e' w' => ∃ A' c', e' = .returned (.tuple #[.slice A' l.length c', .int .i64 e]) ∧ l.length ≤ c' ∧ Kd.C k49 w' A' l.length l ∧ Below w.heap.size w w' :=
  piece_Cut.calls 4000 p A c need n l e w hr hc h
theorem pgather_calls (A : Option Addr) (c : Nat) (l : List S49) (p : Wn) (e : Int) (w : World) (hr : Kd.C k49 w A l.length l) (hc : l.length ≤ c) (h : piece_Gather.f 400 l = some (p, e)) :
    Calls Try.prog 20 #[.slice A l.length c] w fun e' w' => ∃ A' c', e' = .returned (.tuple #[.agg #[.int .i64 p.st, .int .i64 p.ki, .int .i64 p.nu, .int .i64 p.iss, .int .i64 p.unt, .int .i64 p.xlo, .int .i64 p.xhi, .int .i64 p.ylo, .int .i64 p.yhi, .int .i64 p.pri, .bool p.wd, .slice A' p.text.length c'], .int .i64 e]) ∧ p.text.length ≤ c' ∧ Kd.C (Kd.int .u8) w' A' p.text.length p.text ∧ Below w.heap.size w w' := by
  refine (piece_Gather.calls 400 A c l p e w hr hc h).mono ?_
  rintro e' w' ⟨v, rfl, hR, hb⟩
  obtain ⟨A', c', rfl, hc', hC'⟩ := Kd.R_reads hR
  exact ⟨A', c', rfl, hc', hC', hb⟩
theorem same_t (a b : Wn) (Aa : Option Addr) (ca : Nat) (Ab : Option Addr) (cb : Nat) (w : World) (hra : Kd.C (Kd.int .u8) w Aa a.text.length a.text) (hca : a.text.length ≤ ca) (hrb : Kd.C (Kd.int .u8) w Ab b.text.length b.text) (hcb : b.text.length ≤ cb) (hl : a.text.length ≤ 1000000000) (h : a = b) :
    Calls Try.prog 14 #[.agg #[.int .i64 a.st, .int .i64 a.ki, .int .i64 a.nu, .int .i64 a.iss, .int .i64 a.unt, .int .i64 a.xlo, .int .i64 a.xhi, .int .i64 a.ylo, .int .i64 a.yhi, .int .i64 a.pri, .bool a.wd, .slice Aa a.text.length ca], .agg #[.int .i64 b.st, .int .i64 b.ki, .int .i64 b.nu, .int .i64 b.iss, .int .i64 b.unt, .int .i64 b.xlo, .int .i64 b.xhi, .int .i64 b.ylo, .int .i64 b.yhi, .int .i64 b.pri, .bool b.wd, .slice Ab b.text.length cb]] w fun e w' => e = .returned (.bool true) ∧ Below w.heap.size w w' := by
  have := same_calls a b Aa ca Ab cb w hra hca hrb hcb hl
  rw [decide_eq_true h] at this
  exact this
theorem same_z (b : Wn) (Ab : Option Addr) (cb : Nat) (w : World) (hrb : Kd.C (Kd.int .u8) w Ab b.text.length b.text) (hcb : b.text.length ≤ cb) (h : b = zWn) :
    Calls Try.prog 14 #[.agg #[.int .i64 b.st, .int .i64 b.ki, .int .i64 b.nu, .int .i64 b.iss, .int .i64 b.unt, .int .i64 b.xlo, .int .i64 b.xhi, .int .i64 b.ylo, .int .i64 b.yhi, .int .i64 b.pri, .bool b.wd, .slice Ab b.text.length cb], .agg #[.int .i64 0, .int .i64 0, .int .i64 0, .int .i64 0, .int .i64 0, .int .i64 0, .int .i64 0, .int .i64 0, .int .i64 0, .int .i64 0, .bool false, .slice none 0 0]] w fun e w' => e = .returned (.bool true) ∧ Below w.heap.size w w' := by
  have := same_calls b zWn Ab cb none 0 w hrb hcb (Kd.C_nil _ _) (Nat.le_refl _) (by rw [h]; decide)
  rw [decide_eq_true h] at this
  exact this
theorem valid_t (p : Wn) (A : Option Addr) (c : Nat) (w : World) (hr : Kd.C (Kd.int .u8) w A p.text.length p.text) (hc : p.text.length ≤ c) (h : validW p) :
    Calls Try.prog 17 #[.agg #[.int .i64 p.st, .int .i64 p.ki, .int .i64 p.nu, .int .i64 p.iss, .int .i64 p.unt, .int .i64 p.xlo, .int .i64 p.xhi, .int .i64 p.ylo, .int .i64 p.yhi, .int .i64 p.pri, .bool p.wd, .slice A p.text.length c]] w fun e' w' => e' = .returned (.bool true) ∧ Below w.heap.size w w' :=
  piece_Valid.calls p.st p.ki p.nu p.iss p.unt p.xlo p.xhi p.ylo p.yhi p.pri p.wd A c p.text true w hr hc (congrArg some (decide_eq_true h))
end Go.Proofs.YthiealhmcfdakaaH
end
section
set_option linter.unusedVariables false
set_option linter.unusedSimpArgs false
namespace Go.Proofs.YthiealhmcfdakaaH
open Go Go.RowKit Go.Proofs.YthiealhmcfdakaaW.PrintWords Go.Proofs.YthiealhmcfdakaaW.PrintLast Go.Proofs.YthiealhmcfdakaaW.PrintMore Go.Proofs.Ythiealhmcfdakaa.E Go.Proofs.YthiealhmcfdakaaM
section
variable {P : Program} {ops : Array Oper} {rest : List Oper} {o : Oper} {a : Act} {Q : Exit → Act → World → Prop} {α : Type}
theorem R_store' (d : Kd α) {w0 W : World} (base : Nat) (hN : o.dst = none) (hgd : o.guard = none) (t : TypeId) (p x : Operand) (ho : o.op = .store t p x) (e : TypeId) {g n cap : Nat} {ad : Addr} (i : Int) (j : Nat) (xs : List α) (x' : α) (u : Value) (seg c : List Value) (ok okp : Nat → Prop)
    (haddr : a.eval p = .pointer (some ad)) (hx : a.eval x = u) (hadr : ad = ⟨g, i.toNat * d.sz + j, none⟩) (hu : u.cells.toList = seg) (ht : (P.info? t).map (·.size) = some seg.length) (h1 : ∀ q ∈ seg, q.oneCell' = true)
    (HO : d.R e W base ok (.slice (some ⟨g, 0, none⟩) n cap) xs) (h0 : 0 ≤ i) (hi : i < n) (hcl : c.length = d.sz) (hcc : ∀ j u, c[j]? = some u → W.cell? ⟨g, i.toNat * d.sz + j, none⟩ = some u)
    (hj : j + seg.length ≤ d.sz) (hM : d.M W base okp x' (c.take j ++ seg ++ c.drop (j + seg.length))) (hokp : ∀ k, okp k → ok k ∧ k ≠ g) (HB : Below base w0 W)
    (h : ∀ w1, d.R e w1 base ok (.slice (some ⟨g, 0, none⟩) n cap) (xs.set i.toNat x') → Below base w0 w1 → W.grownBy w1 (some g) → wpList P ops Q rest a w1) : wpList P ops Q (o :: rest) a W := by
  subst hadr
  exact Kd.R_store d base hN hgd t p x ho e i j xs x' u seg c ok okp haddr rfl hx hu ht h1 HO h0 hi hcl hcc hj hM hokp HB h
end
theorem adr7 {ad : Addr} {g : Nat} (h : ad = ⟨g, 0, none⟩) (k : Nat) : (⟨(ad.add k).block, (ad.add k).off + 7, none⟩ : Addr) = ⟨g, k + 7, none⟩ := by subst h; by_cases hk : k = 0 <;> simp [Addr.add, hk]
theorem adrj {ad : Addr} {g : Nat} (h : ad = ⟨g, 0, none⟩) (k : Nat) : ad.add k = ⟨g, k, none⟩ := by subst h; by_cases hk : k = 0 <;> simp [Addr.add, hk]
section
variable {P : Program} {ops : Array Oper} {o : Oper} {a : Act} {Q : Exit → Act → World → Prop} {Kc : Act → World → Prop} {α : Type}
theorem R_store_step (d : Kd α) {N : Option Tmp} {w0 W : World} (base : Nat) (hw : Region.wanted o (yielded ops a.tmps) = true) (hN : o.dst = none) (hNN : N = none) (t : TypeId) (p x : Operand) (ho : o.op = .store t p x) (e : TypeId) {g n cap : Nat} {ad : Addr} (i : Int) (j : Nat) (xs : List α) (x' : α) (u : Value) (seg c : List Value) (ok okp : Nat → Prop)
    (haddr : a.eval p = .pointer (some ad)) (hx : a.eval x = u) (hadr : ad = ⟨g, i.toNat * d.sz + j, none⟩) (hu : u.cells.toList = seg) (ht : (P.info? t).map (·.size) = some seg.length) (h1 : ∀ q ∈ seg, q.oneCell' = true)
    (HO : d.R e W base ok (.slice (some ⟨g, 0, none⟩) n cap) xs) (h0 : 0 ≤ i) (hi : i < n) (hcl : c.length = d.sz) (hcc : ∀ j u, c[j]? = some u → W.cell? ⟨g, i.toNat * d.sz + j, none⟩ = some u)
    (hj : j + seg.length ≤ d.sz) (hM : d.M W base okp x' (c.take j ++ seg ++ c.drop (j + seg.length))) (hokp : ∀ k, okp k → ok k ∧ k ≠ g) (HB : Below base w0 W)
    (h : ∀ w1, d.R e w1 base ok (.slice (some ⟨g, 0, none⟩) n cap) (xs.set i.toNat x') → Below base w0 w1 → W.grownBy w1 (some g) → Kc a w1) : if Region.wanted o (yielded ops a.tmps) = true then Oper.wp P o a W Kc Q else Kc (a.put N undef) W := by
  subst hadr
  subst hNN
  rw [if_pos hw]
  obtain ⟨hrow, hg⟩ := Kd.R_seg HO i h0 hi hcl hcc hj hM hokp
  have hbg : base ≤ g := Kd.R_base HO g (by simp [Value.ownBlock])
  have hnx : n = xs.length := (Kd.R_reads' HO).1
  obtain ⟨_, inner, hown, hr⟩ := HO
  have hil : i.toNat < n := by omega
  have hB : Below base w0 (W.setCells g (i.toNat * d.sz + j) seg) := HB.trans ⟨hg.os, hg.tape, hg.output, hg.size, fun k hk => by
    have hlt : k < W.heap.size ∨ W.heap.size ≤ k := Nat.lt_or_ge _ _
    rcases hlt with hlt | hge
    · exact hg.block k hlt (fun he => by injection he with he; omega)
    · exact setCells_far seg _ k (by omega)⟩
  have hrun : (Instr.storeAt t (.pointer (some ⟨g, i.toNat * d.sz + j, none⟩)) u).run P W = .ok () (W.setCells g (i.toNat * d.sz + j) seg) := by
    rcases hown.2 with ⟨hv, _⟩ | ⟨g', cap', cur, hv, hb, hh, hnc, hcm, hcs, _⟩
    · cases hv
    injection hv with ha _ hc
    injection ha with ha
    injection ha with hg'
    subst hg'; subst hc
    refine run_store_run t u seg hh hu ht ?_ h1
    have h2 : i.toNat * d.sz + d.sz ≤ n * d.sz := by rw [← Nat.succ_mul]; exact Nat.mul_le_mul_right _ hil
    have h3 : n * d.sz ≤ cap * d.sz := Nat.mul_le_mul_right _ (by omega)
    omega
  unfold Oper.wp execOp
  simp only [ho, haddr, hx, Sem.run_bind, Sem.run_pure, Result.andThen_ok, hrun]
  show Kc (a.put o.dst undef) _
  rw [hN]
  exact h _ hrow hB hg
end
set_option maxHeartbeats 8000000 in
set_option maxRecDepth 100000 in
theorem changed_walk (p : Wn) (Ap : Option Addr) (cp : Nat) (a1 a2 a3 a4 a5 : Int) (w : World) (hrp : Kd.C (Kd.int .u8) w Ap p.text.length p.text) (hcp : p.text.length ≤ cp) (hUp : U8 p.text) (h30 : 0 ≤ a3) (h31 : a3 ≤ 255) (h40 : 0 ≤ a4) (h41 : a4 ≤ 65535) (h50 : 0 ≤ a5) (h51 : a5 ≤ 255) :
    Calls Try.prog 9 #[vWn p (.slice Ap p.text.length cp), .int .i64 a1, .int .i64 a2, .int .u8 a3, .int .u16 a4, .int .u8 a5] w fun e w' => e = .returned (.bool true) ∧ Below w.heap.size w w' := by
  have hu30 := Try.underlying30
  have hu49 := Try.underlying49
  have hi30 : (Try.prog.info? 30).map (·.size) = some 12 := by kernel_rfl
  have hmix : Try.prog.follows .mixedOrders = true := by kernel_rfl
  have hi49 : (Try.prog.info? 49).map (·.size) = some 8 := by kernel_rfl
  have HRP := Aside0.mk hrp
  have HUP := Aside0.mk hUp
  clear hrp hUp
  dsimp only [vWn]
  go_enter Try.func9, Try.ntmps9
  go_wp2_with (first | ((with_reducible refine gate_dst (N := 6) rfl ?_); (try (refine gate_guard (by rfl) ?_; dsimp only)); refine box_event ?hg (N := 6) ?hd (cs := #[.int .i64 p.st, .int .i64 p.ki, .int .i64 p.nu, .int .i64 p.iss, .int .i64 p.unt, .int .i64 p.xlo, .int .i64 p.xhi, .int .i64 p.ylo, .int .i64 p.yhi, .int .i64 p.pri, .bool p.wd, .slice Ap p.text.length cp]) (t := 30) ?hr ?_; (case hd => rfl); (case hg => rfl); (case hr => first | (go_simp; done) | (go_simp; rfl)); intro gp hg w0 hbox hbgp; have HP := Aside0.mk hbox; clear hbox hg))
  (with_reducible refine (head_calls _).mono ?_)
  rintro e w2 ⟨rfl, hb2⟩
  have hB2 : Below w.heap.size w w2 := hbgp.trans (hb2.mono hbgp.size)
  replace HP := Aside0.mk ((hb2.block _ (blk_lt HP.out)).trans HP.out)
  clear hbgp hb2
  by_cases q_ : 8 < a1
  · go_wp2_with fail
    go_ret
    exact ⟨rfl, hB2⟩
  replace q_ := Int.not_lt.1 q_
  have q0 := q_
  clear q_
  by_cases q_ : 16 < a2
  · go_wp2_with fail
    go_ret
    exact ⟨rfl, hB2⟩
  replace q_ := Int.not_lt.1 q_
  have q1 := q_
  clear q_
  by_cases q_ : a2 ≤ a1
  · go_wp2_with fail
    go_ret
    exact ⟨rfl, hB2⟩
  replace q_ := Int.not_le.1 q_
  have q2 := q_
  clear q_
  by_cases z5 : a5 = 0
  · have kz5 : (a5 == 0) = true := beq_iff_eq.mpr z5
    go_wp2_with fail
    go_ret
    exact ⟨rfl, hB2⟩
  have kz5 : (a5 == 0) = false := beq_eq_false_iff_ne.mpr z5
  have x0 : w2.cell? ⟨gp, 0, none⟩ = some (.int .i64 p.st) := (blk_cell HP.out 0).trans rfl
  have x1 : w2.cell? ⟨gp, 1, none⟩ = some (.int .i64 p.ki) := (blk_cell HP.out 1).trans rfl
  have x2 : w2.cell? ⟨gp, 2, none⟩ = some (.int .i64 p.nu) := (blk_cell HP.out 2).trans rfl
  have x3 : w2.cell? ⟨gp, 3, none⟩ = some (.int .i64 p.iss) := (blk_cell HP.out 3).trans rfl
  have x4 : w2.cell? ⟨gp, 4, none⟩ = some (.int .i64 p.unt) := (blk_cell HP.out 4).trans rfl
  have x5 : w2.cell? ⟨gp, 5, none⟩ = some (.int .i64 p.xlo) := (blk_cell HP.out 5).trans rfl
  have x6 : w2.cell? ⟨gp, 6, none⟩ = some (.int .i64 p.xhi) := (blk_cell HP.out 6).trans rfl
  have x7 : w2.cell? ⟨gp, 7, none⟩ = some (.int .i64 p.ylo) := (blk_cell HP.out 7).trans rfl
  have x8 : w2.cell? ⟨gp, 8, none⟩ = some (.int .i64 p.yhi) := (blk_cell HP.out 8).trans rfl
  have x9 : w2.cell? ⟨gp, 9, none⟩ = some (.int .i64 p.pri) := (blk_cell HP.out 9).trans rfl
  have x10 : w2.cell? ⟨gp, 10, none⟩ = some (.bool p.wd) := (blk_cell HP.out 10).trans rfl
  have x11 : w2.cell? ⟨gp, 11, none⟩ = some (.slice Ap p.text.length cp) := (blk_cell HP.out 11).trans rfl
  obtain ⟨l, er, hcut, hcase⟩ := cut_f p HUP.out a1 a2
  have hcall := pcut_calls p Ap cp a1 a2 l er w2 (Kd.C_below HRP.out hB2) hcp hcut
  clear hcut
  go_wp2_with fail
  (with_reducible refine hcall.mono ?_)
  clear hcall
  rintro e w3 ⟨A, c3, rfl, hc3, hC3, hb3⟩
  have hB3 := hB2.trans (hb3.mono hB2.size)
  clear hb3 HP
  clear x0 x1 x2 x3 x4 x5 x6 x7 x8 x9 x10 x11
  rcases hcase with ⟨he, rfl⟩ | ⟨rfl, nd, nn, rfl, rfl, hK⟩
  · have k0 : (er == 0) = false := beq_eq_false_iff_ne.mpr he
    go_wp2_with fail
    go_ret
    exact ⟨rfl, hB3⟩
  by_cases z1 : (l.length : Int) = 0
  · have kz1 : ((l.length : Int) == 0) = true := beq_iff_eq.mpr z1
    go_wp2_with fail
    go_ret
    exact ⟨rfl, hB3⟩
  have kz1 : ((l.length : Int) == 0) = false := beq_eq_false_iff_ne.mpr z1
  have hlp : 0 < l.length := by omega
  have hll := hK.len
  obtain ⟨sv, hraw, hsv⟩ := raw_C hC3
  have HC3 := Aside0.mk hC3
  have HRAW := Aside0.mk hraw
  have HSV := Aside0.mk hsv
  have hix0 : 0 ≤ a3 % (l.length : Int) := Int.emod_nonneg _ (by omega)
  have hix1 : a3 % (l.length : Int) < (l.length : Int) := Int.emod_lt_of_pos _ (by omega)
  have hil : (a3 % (l.length : Int)).toNat < l.length := by omega
  obtain ⟨Ai, ci, hsi, li, gi, ad0, eA, hci⟩ := hsv _ hil
  have hchg := fun d h1 h2 h3 => changed hK HUP.out (by omega) (i := (a3 % (l.length : Int)).toNat) (by omega) (d := d) h1 h2 h3
  have hgd : l.getD (a3 % (l.length : Int)).toNat z49 = pieceAt p (enc (intsOf p)) (nd : Int) (a3 % (l.length : Int)).toNat (rowOf (base nd) (rowsOf (enc (intsOf p)) (nd : Int)) (a3 % (l.length : Int)).toNat (lenOf (enc (intsOf p)) (nd : Int))) := by rw [List.getD_eq_getElem?_getD, hK.get (show (a3 % (l.length : Int)).toNat < nn by omega), Option.getD_some]
  obtain ⟨pi, hpi⟩ : ∃ q, q = l.getD (a3 % (l.length : Int)).toNat z49 := ⟨_, rfl⟩
  rw [← hpi] at hsi li gi hci hchg hgd
  have hdlen : pi.f5.length = lenOf (enc (intsOf p)) (nd : Int) := by rw [hgd]; exact rowOf_len _ _ _ _
  have hm1 : 1 ≤ pi.f5.length := by
    rw [hdlen]
    unfold lenOf
    have h1 := (bytes_len hK.v HUP.out).2
    have h2 := hK.n1
    rw [Int.toNat_natCast]
    exact Nat.div_pos (by omega) (by omega)
  have hm2 : pi.f5.length ≤ 200 := by rw [hdlen]; exact hK.m2
  have hdU : U8 pi.f5 := by rw [hgd]; exact rowOf_U8 (by have := hK.n3; omega) (base_rng hK.n2)
  have HDU := Aside0.mk hdU
  have HSI := Aside0.mk hsi
  have HPI := Aside0.mk hpi
  have HCHG := Aside0.mk hchg
  have HGI := Aside0.mk gi
  have hnn : (l.length : Int) = (nn : Int) := by rw [hll]
  have HNN := Aside0.mk hnn
  have hlb : l.length ≤ 16 := by omega
  clear hraw hsv hC3 hci hsi hpi hchg hgd hdlen hdU gi eA hK hll hnn
  go_wp2_with (first | ((with_reducible refine gate_builtin (b := .append) (xs := #[.tmp 52, .tmp 53]) rfl ?_); at_builtin; refine Kd.R_append_rows (rawKd 8) (w0 := w3) w3.heap.size rfl (.tmp 52) (.tmp 53) 41 49 (.agg #[.int .i64 0, .int .i64 0, .int .i64 0, .int .i64 0, .int .i64 0, .int .i64 0, .int .i64 0, .slice none 0 0]) 80 rfl Try.underlying41 info_piece rfl (by decide) (by omega) _ ([] : List (List Value)) (rawsOf l sv) _ _ _ (fun _ => True) (fun _ => False) rfl rfl (R_lit0 (rawKd 8) 49 w3) (Kd.C_below HRAW.out ((Below.refl w3.heap.size w3).alloc (Nat.le_refl _) (.cells #[] 49))) (fun _ _ h => h) (fun _ h => h.elim) (fun _ _ => trivial) ((Below.refl w3.heap.size w3).alloc (Nat.le_refl _) (.cells #[] 49)) ((Below.refl w3.heap.size w3).alloc (Nat.le_refl _) (.cells #[] 49)).size ?aL ?_; (case aL => simp; omega); intro v4 w4 ho hb _ _; rw [List.nil_append] at ho; have HO := Aside0.mk ho; have HB := Aside0.mk hb; clear ho hb))
  obtain ⟨g, cap, rfl, hgb, hgl, gcs, hgc⟩ := Kd.R_form HO.out (by rw [rawsOf_len]; exact hlp)
  rw [rawsOf_len] at HO ⊢
  obtain ⟨ad, had⟩ : ∃ ad : Addr, ad = ⟨g, 0, none⟩ := ⟨_, rfl⟩
  rw [← had]
  obtain ⟨i, hi⟩ : ∃ i : Nat, i = (a3 % (l.length : Int)).toNat := ⟨_, rfl⟩
  obtain ⟨ad', c4, e4, hc4l, hK4, hcc4⟩ := Kd.C_get (Kd.R_reads' HO.out).2.2 [] (a3 % (l.length : Int)) hix0 (by rw [rawsOf_len]; exact hix1)
  rw [← had] at e4
  obtain rfl := Option.some.inj e4
  have hc4 : c4 = rawPiece pi (.slice Ai pi.f5.length ci) := by
    rw [hK4.1, List.getD_eq_getElem?_getD, rawsOf_get (by omega), Option.getD_some, ← HPI.out, HSI.out]
  have k7 : w4.cell? ⟨(ad.add ((a3 % (l.length : Int)).toNat * 8)).block, (ad.add ((a3 % (l.length : Int)).toNat * 8)).off + 7, none⟩ = some (.slice Ai pi.f5.length ci) := by rw [← add_field _ _ 7 (by omega)]; exact hcc4 7 _ (by rw [hc4]; rfl)
  have HCC4 := Aside0.mk hcc4
  have HC4 := Aside0.mk hc4
  have HAD := Aside0.mk had
  have HGC := Aside0.mk hgc
  have HTY : Aside0 (Int.tmod (wrap64 a4) (pi.f5.length : Int) = a4 % (pi.f5.length : Int)) := ⟨by rw [show wrap64 a4 = a4 from by unfold wrap64; omega, Int.tmod_eq_emod_of_nonneg h40]⟩
  have HTX : Aside0 (Int.tmod (wrap64 a3) (l.length : Int) = a3 % (l.length : Int)) := ⟨by rw [show wrap64 a3 = a3 from by unfold wrap64; omega, Int.tmod_eq_emod_of_nonneg h30]⟩
  have kz7 : ((pi.f5.length : Int) == 0) = false := beq_eq_false_iff_ne.mpr (by omega)
  have k7a := (((Below.refl w4.heap.size w4).alloc (Nat.le_refl _) (.cells #[] 5)).cell (block_lt_of_cell k7)).trans k7
  clear hcc4 hc4 had hgc hi i hK4
  have hi28 : (Try.prog.info? 28).map (·.size) = some 1 := by kernel_rfl
  go_wp2_with (first | ((with_reducible refine gate_builtin (b := .append) (xs := #[.tmp 69, .tmp 73]) rfl ?_); at_builtin; refine Kd.R_append_rows (Kd.int .u8) (w0 := w4) w4.heap.size rfl (.tmp 69) (.tmp 73) 28 5 (.int .u8 0) 1 rfl Try.underlying28 info_u8 rfl (by decide) (by omega) _ ([] : List Int) pi.f5 _ _ _ (fun _ => True) (fun _ => False) rfl rfl (R_lit0 (Kd.int .u8) 5 w4) (Kd.C_below (Kd.C_below HGI.out HB.out) ((Below.refl w4.heap.size w4).alloc (Nat.le_refl _) (.cells #[] 5))) (fun _ _ h => h) (fun _ h => h.elim) (fun _ _ => trivial) ((Below.refl w4.heap.size w4).alloc (Nat.le_refl _) (.cells #[] 5)) ((Below.refl w4.heap.size w4).alloc (Nat.le_refl _) (.cells #[] 5)).size ?aL ?_; (case aL => simp; omega); intro v5 w5 ho hb _ _; rw [List.nil_append] at ho; obtain ⟨gd, cd, rfl, hgdb, hgdl, dcs, hgdc⟩ := Kd.R_form ho (by omega); have HD := Aside0.mk ho; have HBD := Aside0.mk hb; clear ho hb hgdc dcs) | (refine R_store' (rawKd 8) (w0 := w3) w3.heap.size rfl rfl 28 (.tmp 76) (.tmp 74) rfl 49 (g := g) (n := l.length) (cap := cap) (a3 % (l.length : Int)) 7 (rawsOf l sv) (rawPiece pi (.slice (some ⟨gd, 0, none⟩) pi.f5.length cd)) _ [.slice (some ⟨gd, 0, none⟩) pi.f5.length cd] (rawPiece pi (.slice Ai pi.f5.length ci)) (fun _ => True) (fun _ => False) rfl rfl ?hadr rfl ?ht ?h1 ?HO hix0 hix1 rfl ?hcc ?hj ?hM (fun _ h => h.elim) ?HB ?_; (case hadr => exact adr7 HAD.out _); (case ht => exact hi28); (case h1 => simp [Value.oneCell']); (case HO => exact Kd.R_below HO.out HBD.out); (case hcc => exact fun j u hj => (HBD.out.cell (show g < w4.heap.size from hgl)).trans (by have := HCC4.out j u (by rw [HC4.out]; exact hj); rw [adrj HAD.out] at this; exact this)); (case hj => show 7 + 1 ≤ 8; omega); (case hM => exact ⟨rfl, rfl, by simp [rawPiece, Value.oneCell']⟩); (case HB => exact (HB.out.trans (HBD.out.mono HB.out.size))); intro w6 ho hb hg; have HO6 := Aside0.mk ho; have HB6 := Aside0.mk hb; have HG6 := Aside0.mk hg; clear ho hb hg))
  clear k7 k7a
  have HD6 : Aside0 (Kd.R (Kd.int .u8) 5 w6 w4.heap.size (fun _ => True) (.slice (some ⟨gd, 0, none⟩) pi.f5.length cd) pi.f5) := ⟨Kd.R_mono (Kd.R_step (Kd.R_bound HD.out) (w1 := w6) (fun k hk hlt => HG6.out.block k hlt (by have := hk.2.1; intro e; injection e with e; omega))) (fun _ _ => trivial)⟩
  obtain ⟨gd2, cd2, ev, hgd4, hgd6, dcs, hgdc⟩ := Kd.R_form HD6.out (by omega)
  injection ev with ev _ _
  injection ev with ev
  injection ev with ev
  subst ev
  have HGDC := Aside0.mk hgdc
  obtain ⟨ad', c6, e6, hc6l, hK6, hcc6⟩ := Kd.C_get (Kd.R_reads' HO6.out).2.2 [] (a3 % (l.length : Int)) hix0 (by rw [List.length_set, rawsOf_len]; exact hix1)
  rw [← HAD.out] at e6
  obtain rfl := Option.some.inj e6
  have hc6 : c6 = rawPiece pi (.slice (some ⟨gd, 0, none⟩) pi.f5.length cd) := by
    rw [hK6.1, List.getD_eq_getElem?_getD, List.getElem?_set_self (by rw [rawsOf_len]; omega), Option.getD_some]
  obtain ⟨ad2, had2⟩ : ∃ ad2 : Addr, ad2 = ⟨gd, 0, none⟩ := ⟨_, rfl⟩
  have k7 : w6.cell? ⟨(ad.add ((a3 % (l.length : Int)).toNat * 8)).block, (ad.add ((a3 % (l.length : Int)).toNat * 8)).off + 7, none⟩ = some (.slice (some ad2) pi.f5.length cd) := by rw [← add_field _ _ 7 (by omega), had2]; exact hcc6 7 _ (by rw [hc6]; rfl)
  have hf0 : 0 ≤ a4 % (pi.f5.length : Int) := Int.emod_nonneg _ (by omega)
  have hf1 : a4 % (pi.f5.length : Int) < (pi.f5.length : Int) := Int.emod_lt_of_pos _ (by omega)
  obtain ⟨ad3, e3, hcx⟩ := Kd.at_int (Kd.R_reads' HD6.out).2.2 (a4 % (pi.f5.length : Int)) hf0 hf1
  rw [← had2] at e3
  obtain rfl := Option.some.inj e3
  have HAD2 := Aside0.mk had2
  clear hcc6 hc6 had2 hgdc hK6
  generalize hX : rd pi.f5 (a4 % (pi.f5.length : Int)) = X0 at hcx
  have HX := Aside0.mk hX
  clear hX
  have hpz : (pi.f5.length : Int) ≠ 0 := by omega
  have hpn : pi.f5 ≠ [] := List.length_pos_iff.1 (by omega)
  have hS0 : (fun w' => Below w6.heap.size w6 w') w6.drew := (Below.refl _ _).drew
  refine start_ (n := 18) (S := (fun w' => Below w6.heap.size w6 w')) (ds := [17]) (Array.replicate 18 false) hmix rfl rfl hS0 (fun hHeld => ?_)
  refine pureS (i := 0) (N := (some 77)) (v := ?_) (a' := ?_) rfl rfl (by kernel_rfl) (fun _ _ _ h => h) (Or.inl ⟨by rfl, ?_⟩) ?_ ?_
  rotate_left
  · intro w'
    go_simp
    with_reducible rfl
  rotate_left
  · simp only [Act.put, List.setIfInBounds_toArray, List.set_cons_zero, List.set_cons_succ, i64_w, i32_w]
    rfl
  refine pureS (i := 1) (N := (some 78)) (v := ?_) (a' := ?_) rfl rfl (by kernel_rfl) (fun _ _ _ h => h) (Or.inl ⟨by rfl, ?_⟩) ?_ ?_
  rotate_left
  · intro w'
    go_simp
    with_reducible rfl
  rotate_left
  · simp only [Act.put, List.setIfInBounds_toArray, List.set_cons_zero, List.set_cons_succ, i64_w, i32_w]
    rfl
  refine pureS (i := 2) (N := (some 79)) (v := ?_) (a' := ?_) rfl rfl (by kernel_rfl) (fun _ _ _ h => h) (Or.inl ⟨by rfl, ?_⟩) ?_ ?_
  rotate_left
  · intro w'
    go_simp
    with_reducible rfl
  rotate_left
  · simp only [Act.put, List.setIfInBounds_toArray, List.set_cons_zero, List.set_cons_succ, i64_w, i32_w]
    rfl
  refine takeS (i := 3) (N := (some 80)) (v := ?_) (a' := ?_) rfl rfl (by kernel_rfl) (fun _ _ _ h => h) (Or.inl ⟨by rfl, ?_⟩) hHeld ?_ ?_
  rotate_left
  · intro w' hs
    have k7_ := (hs.cell (block_lt_of_cell k7)).trans k7
    go_simp
    with_reducible rfl
  rotate_left
  · simp only [Act.put, List.setIfInBounds_toArray, List.set_cons_zero, List.set_cons_succ, i64_w, i32_w]
    rfl
  refine pureS (i := 4) (N := (some 81)) (v := ?_) (a' := ?_) rfl rfl (by kernel_rfl) (fun _ _ _ h => h) (Or.inl ⟨by rfl, ?_⟩) ?_ ?_
  rotate_left
  · intro w'
    go_simp
    with_reducible rfl
  rotate_left
  · simp only [Act.put, List.setIfInBounds_toArray, List.set_cons_zero, List.set_cons_succ, i64_w, i32_w]
    rfl
  refine pureS (i := 5) (N := (some 82)) (v := ?_) (a' := ?_) rfl rfl (by kernel_rfl) (fun _ _ _ h => h) (Or.inl ⟨by rfl, ?_⟩) ?_ ?_
  rotate_left
  · intro w'
    go_simp
    with_reducible rfl
  rotate_left
  · simp only [Act.put, List.setIfInBounds_toArray, List.set_cons_zero, List.set_cons_succ, i64_w, i32_w]
    rfl
  refine pureS (i := 6) (N := (some 83)) (v := ?_) (a' := ?_) rfl rfl (by kernel_rfl) (fun _ _ _ h => h) (Or.inl ⟨by rfl, ?_⟩) ?_ ?_
  rotate_left
  · intro w'
    go_simp
    with_reducible rfl
  rotate_left
  · simp only [Act.put, List.setIfInBounds_toArray, List.set_cons_zero, List.set_cons_succ, i64_w, i32_w]
    rfl
  refine pureS (i := 7) (N := (some 84)) (v := ?_) (a' := ?_) rfl rfl (by kernel_rfl) (fun _ _ _ h => h) (Or.inl ⟨by rfl, ?_⟩) ?_ ?_
  rotate_left
  · intro w'
    go_simp
    with_reducible rfl
  rotate_left
  · simp only [Act.put, List.setIfInBounds_toArray, List.set_cons_zero, List.set_cons_succ, i64_w, i32_w]
    rfl
  refine pureS (i := 8) (N := (some 85)) (v := ?_) (a' := ?_) rfl rfl (by kernel_rfl) (fun _ _ _ h => h) (Or.inl ⟨by rfl, ?_⟩) ?_ ?_
  rotate_left
  · intro w'
    go_simp
    with_reducible rfl
  rotate_left
  · simp only [Act.put, List.setIfInBounds_toArray, List.set_cons_zero, List.set_cons_succ, i64_w, i32_w]
    rfl
  refine takeS (i := 9) (N := (some 86)) (v := ?_) (a' := ?_) rfl rfl (by kernel_rfl) (fun _ _ _ h => h) (Or.inl ⟨by rfl, ?_⟩) hHeld ?_ ?_
  rotate_left
  · intro w' hs
    have k7_ := (hs.cell (block_lt_of_cell k7)).trans k7
    go_simp
    with_reducible rfl
  rotate_left
  · simp only [Act.put, List.setIfInBounds_toArray, List.set_cons_zero, List.set_cons_succ, i64_w, i32_w]
    rfl
  refine pureS (i := 10) (N := (some 87)) (v := ?_) (a' := ?_) rfl rfl (by kernel_rfl) (fun _ _ _ h => h) (Or.inl ⟨by rfl, ?_⟩) ?_ ?_
  rotate_left
  · intro w'
    go_simp
    with_reducible rfl
  rotate_left
  · simp only [Act.put, List.setIfInBounds_toArray, List.set_cons_zero, List.set_cons_succ, i64_w, i32_w]
    rfl
  refine pureS (i := 11) (N := (some 88)) (v := ?_) (a' := ?_) rfl rfl (by kernel_rfl) (fun _ _ _ h => h) (Or.inl ⟨by rfl, ?_⟩) ?_ ?_
  rotate_left
  · intro w'
    go_simp
    with_reducible rfl
  rotate_left
  · simp only [Act.put, List.setIfInBounds_toArray, List.set_cons_zero, List.set_cons_succ, i64_w, i32_w]
    rfl
  rw [HTY.out]
  refine pureS (i := 12) (N := (some 89)) (v := ?_) (a' := ?_) rfl rfl (by kernel_rfl) (fun _ _ _ h => h) (Or.inl ⟨by rfl, ?_⟩) ?_ ?_
  rotate_left
  · intro w'
    go_simp
    with_reducible rfl
  rotate_left
  · simp only [Act.put, List.setIfInBounds_toArray, List.set_cons_zero, List.set_cons_succ, i64_w, i32_w]
    rfl
  refine takeS (i := 13) (N := (some 90)) (v := ?_) (a' := ?_) rfl rfl (by kernel_rfl) (fun _ _ _ h => h) (Or.inl ⟨by rfl, ?_⟩) hHeld ?_ ?_
  rotate_left
  · intro w' hs
    have hcx_ := (hs.cell (block_lt_of_cell hcx)).trans hcx
    go_simp
    with_reducible rfl
  rotate_left
  · simp only [Act.put, List.setIfInBounds_toArray, List.set_cons_zero, List.set_cons_succ, i64_w, i32_w]
    rfl
  refine pureS (i := 14) (N := (some 91)) (v := ?_) (a' := ?_) rfl rfl (by kernel_rfl) (fun _ _ _ h => h) (Or.inl ⟨by rfl, ?_⟩) ?_ ?_
  rotate_left
  · intro w'
    go_simp
    with_reducible rfl
  rotate_left
  · simp only [Act.put, List.setIfInBounds_toArray, List.set_cons_zero, List.set_cons_succ, i64_w, i32_w]
    rfl
  refine pureS (i := 15) (N := (some 92)) (v := ?_) (a' := ?_) rfl rfl (by kernel_rfl) (fun _ _ _ h => h) (Or.inl ⟨by rfl, ?_⟩) ?_ ?_
  rotate_left
  · intro w'
    go_simp
    with_reducible rfl
  rotate_left
  · simp only [Act.put, List.setIfInBounds_toArray, List.set_cons_zero, List.set_cons_succ, i64_w, i32_w]
    rfl
  refine pureS (i := 16) (N := (some 93)) (v := ?_) (a' := ?_) rfl rfl (by kernel_rfl) (fun _ _ _ h => h) (Or.inl ⟨by rfl, ?_⟩) ?_ ?_
  rotate_left
  · intro w'
    go_simp
    with_reducible rfl
  rotate_left
  · simp only [Act.put, List.setIfInBounds_toArray, List.set_cons_zero, List.set_cons_succ, i64_w, i32_w]
    rfl
  refine lastS (i := 17) (N := none) rfl rfl (by kernel_rfl) (by decide) (fun K hK => ?_)
  refine R_store_step (Kd.int .u8) (w0 := w6) (W := w6.drew) w4.heap.size rfl rfl rfl 5 _ _ rfl 5 (g := gd) (n := pi.f5.length) (cap := cd) (a4 % (pi.f5.length : Int)) 0 pi.f5 (Go.bits .xor .u8 X0 a5) (.int .u8 (Go.bits .xor .u8 X0 a5)) [.int .u8 (Go.bits .xor .u8 X0 a5)] [.int .u8 X0] (fun _ => True) (fun _ => False) rfl rfl (by rw [adrj HAD2.out]; exact congrArg (fun z => (⟨gd, z, none⟩ : Addr)) (Nat.mul_one _).symm) rfl size_u8 (by simp [Value.oneCell']) (Kd.R_drew HD6.out) hf0 hf1 rfl ?hcc (by show 0 + 1 ≤ 1; omega) rfl (fun _ h => h.elim) (below_drew (Below.refl _ _)) ?_
  case hcc =>
    intro j u hu
    cases j with
    | zero =>
      obtain rfl : Value.int .u8 X0 = u := by simpa using hu
      have h := hcx
      rw [adrj HAD2.out] at h
      show w6.drew.cell? ⟨gd, (a4 % (pi.f5.length : Int)).toNat * 1 + 0, none⟩ = _
      rw [Nat.mul_one]
      exact h
    | succ j => simp at hu
  intro w7 ho hb hg
  refine hK.out _ _ ?_
  clear hK K
  refine done_ (by kernel_rfl) ?_
  clear k7 hcx hS0 hHeld
  have hXk : pi.f5[(a4 % (pi.f5.length : Int)).toNat]? = some X0 := by
    rw [← HX.out, rd, List.getD_eq_getElem?_getD, List.getElem?_eq_getElem (show (a4 % (pi.f5.length : Int)).toNat < pi.f5.length by omega), Option.getD_some]
  have hXb : 0 ≤ X0 ∧ X0 ≤ 255 := HDU.out X0 (List.mem_of_getElem? hXk)
  have hG := HCHG.out (pi.f5.set (a4 % (pi.f5.length : Int)).toNat (Go.bits .xor .u8 X0 a5)) (by rw [List.length_set]) (fun x hx => by
    rcases List.mem_or_eq_of_mem_set hx with h | h
    · exact HDU.out x h
    · rw [h]; exact xor_byte hXb ⟨h50, h51⟩) (fun e => by
    have h := congrArg (fun z : List Int => z[(a4 % (pi.f5.length : Int)).toNat]?) e
    try dsimp only at h
    rw [List.getElem?_set_self (by omega), hXk] at h
    exact z5 ((xor_same hXb ⟨h50, h51⟩).1 (Option.some.inj h)))
  have hR6 := Kd.R_types (Kd.R_drew HO6.out) (g := gd) HGDC.out (fun q hq => by
    have h : q = 49 := by simpa [rawKd] using hq
    rw [h]; decide)
  have hR7 := Kd.R_step hR6 (w1 := w7) (fun k hk hlt => hg.block k hlt (fun e => hk.2 (by injection e)))
  have hC := (Kd.R_reads' hR7).2.2
  rw [List.length_set, rawsOf_len] at hC
  have hb37 := HB6.out.trans (hb.mono HB.out.size)
  have hD7 := Kd.R_reads' ho
  rw [List.length_set] at hD7
  have hCF : Kd.C k49 w7 (some ⟨g, 0, none⟩) l.length (l.set (a3 % (l.length : Int)).toNat { pi with f5 := (pi.f5.set (a4 % (pi.f5.length : Int)).toNat (Go.bits .xor .u8 X0 a5)) }) := by
    refine C_of_raw (d := k49) hC (by rw [List.length_set, List.length_set, rawsOf_len]) (rel_set (fun j q x hj hx => ?_) _ ?_)
    · have hjl : j < l.length := (List.getElem?_eq_some_iff.1 hj).1
      rw [rawsOf_get hjl] at hx
      obtain rfl := Option.some.inj hx
      obtain ⟨A7, c7, hs, l7, g7, _⟩ := HSV.out j hjl
      rw [hs]
      have h := k49_mk w7 _ l7 (Kd.C_below g7 hb37)
      rw [List.getD_eq_getElem?_getD, hj, Option.getD_some] at h ⊢
      exact h
    · have e : (pi.f5.set (a4 % (pi.f5.length : Int)).toNat (Go.bits .xor .u8 X0 a5)).length = pi.f5.length := List.length_set
      have h := k49_mk w7 { pi with f5 := (pi.f5.set (a4 % (pi.f5.length : Int)).toNat (Go.bits .xor .u8 X0 a5)) } (A7 := some ⟨gd, 0, none⟩) (c7 := cd) (by dsimp only; rw [e]; exact hD7.2.1) (by dsimp only; rw [e]; exact hD7.2.2)
      dsimp only at h
      rw [e] at h
      exact h
  have hcap := (Kd.R_reads' HO6.out).2.1
  have hga := pgather_calls (some ⟨g, 0, none⟩) cap (l.set (a3 % (l.length : Int)).toNat { pi with f5 := (pi.f5.set (a4 % (pi.f5.length : Int)).toNat (Go.bits .xor .u8 X0 a5)) }) zWn 18 w7 (by rw [List.length_set]; exact hCF) (by rw [List.length_set]; exact hcap) hG
  rw [List.length_set, ← HAD.out] at hga
  have hB7 := hB3.trans (hb37.mono hB3.size)
  clear hG hR6 hR7 hC hb37 hD7 hCF hcap ho hb hg hXk hXb
  go_wp2_with fail
  (with_reducible refine hga.mono ?_)
  clear hga
  rintro e w8 ⟨A5, c5, rfl, hc5, hC5, hb8⟩
  have hB8 := hB7.trans (hb8.mono hB7.size)
  have HZ := World.alloc_heap_new w8 (.cells #[.int .i64 0, .int .i64 0, .int .i64 0, .int .i64 0, .int .i64 0, .int .i64 0, .int .i64 0, .int .i64 0, .int .i64 0, .int .i64 0, .bool false, .slice none 0 0] 30)
  have hbs : Below w8.heap.size w8 ((w8.alloc (.cells #[.int .i64 0, .int .i64 0, .int .i64 0, .int .i64 0, .int .i64 0, .int .i64 0, .int .i64 0, .int .i64 0, .int .i64 0, .int .i64 0, .bool false, .slice none 0 0] 30)).setRow w8.heap.size #[.int .i64 zWn.st, .int .i64 zWn.ki, .int .i64 zWn.nu, .int .i64 zWn.iss, .int .i64 zWn.unt, .int .i64 zWn.xlo, .int .i64 zWn.xhi, .int .i64 zWn.ylo, .int .i64 zWn.yhi, .int .i64 zWn.pri, .bool zWn.wd, .slice A5 zWn.text.length c5]) := below_setRow ((Below.refl _ _).alloc (Nat.le_refl _) _) (Nat.le_refl _) _
  have HH : Aside0 (((w8.alloc (.cells #[.int .i64 0, .int .i64 0, .int .i64 0, .int .i64 0, .int .i64 0, .int .i64 0, .int .i64 0, .int .i64 0, .int .i64 0, .int .i64 0, .bool false, .slice none 0 0] 30)).setRow w8.heap.size #[.int .i64 zWn.st, .int .i64 zWn.ki, .int .i64 zWn.nu, .int .i64 zWn.iss, .int .i64 zWn.unt, .int .i64 zWn.xlo, .int .i64 zWn.xhi, .int .i64 zWn.ylo, .int .i64 zWn.yhi, .int .i64 zWn.pri, .bool zWn.wd, .slice A5 zWn.text.length c5]).heap[w8.heap.size]? = some (.cells #[.int .i64 zWn.st, .int .i64 zWn.ki, .int .i64 zWn.nu, .int .i64 zWn.iss, .int .i64 zWn.unt, .int .i64 zWn.xlo, .int .i64 zWn.xhi, .int .i64 zWn.ylo, .int .i64 zWn.yhi, .int .i64 zWn.pri, .bool zWn.wd, .slice A5 zWn.text.length c5] 30 (0, 0))) := ⟨setRow_heap _ _ _ _ _ _ HZ⟩
  obtain ⟨w9, hws⟩ : ∃ ws, ws = (w8.alloc (.cells #[.int .i64 0, .int .i64 0, .int .i64 0, .int .i64 0, .int .i64 0, .int .i64 0, .int .i64 0, .int .i64 0, .int .i64 0, .int .i64 0, .bool false, .slice none 0 0] 30)).setRow w8.heap.size #[.int .i64 zWn.st, .int .i64 zWn.ki, .int .i64 zWn.nu, .int .i64 zWn.iss, .int .i64 zWn.unt, .int .i64 zWn.xlo, .int .i64 zWn.xhi, .int .i64 zWn.ylo, .int .i64 zWn.yhi, .int .i64 zWn.pri, .bool zWn.wd, .slice A5 zWn.text.length c5] := ⟨_, rfl⟩
  rw [← hws] at hbs HH
  have HWS := Aside0.mk hws
  clear hws
  have hB9 := hB8.trans (hbs.mono hB8.size)
  have hC9 := Kd.C_below hC5 hbs
  have hsm := same_z zWn A5 c5 w9 hC9 hc5 rfl
  clear hb8 hbs hC5 hB7 hB8
  have z_0 : w9.cell? ⟨w8.heap.size, 0, none⟩ = some (.int .i64 zWn.st) := (blk_cell HH.out 0).trans rfl
  have z_1 : w9.cell? ⟨w8.heap.size, 1, none⟩ = some (.int .i64 zWn.ki) := (blk_cell HH.out 1).trans rfl
  have z_2 : w9.cell? ⟨w8.heap.size, 2, none⟩ = some (.int .i64 zWn.nu) := (blk_cell HH.out 2).trans rfl
  have z_3 : w9.cell? ⟨w8.heap.size, 3, none⟩ = some (.int .i64 zWn.iss) := (blk_cell HH.out 3).trans rfl
  have z_4 : w9.cell? ⟨w8.heap.size, 4, none⟩ = some (.int .i64 zWn.unt) := (blk_cell HH.out 4).trans rfl
  have z_5 : w9.cell? ⟨w8.heap.size, 5, none⟩ = some (.int .i64 zWn.xlo) := (blk_cell HH.out 5).trans rfl
  have z_6 : w9.cell? ⟨w8.heap.size, 6, none⟩ = some (.int .i64 zWn.xhi) := (blk_cell HH.out 6).trans rfl
  have z_7 : w9.cell? ⟨w8.heap.size, 7, none⟩ = some (.int .i64 zWn.ylo) := (blk_cell HH.out 7).trans rfl
  have z_8 : w9.cell? ⟨w8.heap.size, 8, none⟩ = some (.int .i64 zWn.yhi) := (blk_cell HH.out 8).trans rfl
  have z_9 : w9.cell? ⟨w8.heap.size, 9, none⟩ = some (.int .i64 zWn.pri) := (blk_cell HH.out 9).trans rfl
  have z_10 : w9.cell? ⟨w8.heap.size, 10, none⟩ = some (.bool zWn.wd) := (blk_cell HH.out 10).trans rfl
  have z_11 : w9.cell? ⟨w8.heap.size, 11, none⟩ = some (.slice A5 zWn.text.length c5) := (blk_cell HH.out 11).trans rfl
  go_wp2_with (first | (refine wpList_store_row rfl 30 (.tmp 18) (.tmp 97) rfl w8.heap.size rfl #[.int .i64 zWn.st, .int .i64 zWn.ki, .int .i64 zWn.nu, .int .i64 zWn.iss, .int .i64 zWn.unt, .int .i64 zWn.xlo, .int .i64 zWn.xhi, .int .i64 zWn.ylo, .int .i64 zWn.yhi, .int .i64 zWn.pri, .bool zWn.wd, .slice A5 zWn.text.length c5] rfl 30 #[.int .i64 0, .int .i64 0, .int .i64 0, .int .i64 0, .int .i64 0, .int .i64 0, .int .i64 0, .int .i64 0, .int .i64 0, .int .i64 0, .bool false, .slice none 0 0] HZ rfl ?h1 hi30 ?_; (case h1 => simp [Value.oneCell']); rw [← HWS.out]))
  (with_reducible refine hsm.mono ?_)
  clear hsm HZ HWS
  rintro e w10 ⟨rfl, hb10⟩
  have hB10 := hB9.trans (hb10.mono hB9.size)
  clear hb10 z_0 z_1 z_2 z_3 z_4 z_5 z_6 z_7 z_8 z_9 z_10 z_11
  go_wp2_with fail
  go_ret
  exact ⟨rfl, hB10⟩
end Go.Proofs.YthiealhmcfdakaaH
end
section
namespace Go.Proofs.Ythiealhmcfdakaa.pieceChanged
open Go.ChangeShapes Go.WideShapes Go.ChangeAt Go.RowKit
open Go.ChangeMaps (open_string shut_string)
open Go.Proofs.YthiealhmcfdakaaH Go.Proofs.YthiealhmcfdakaaM
set_option linter.unusedVariables false
theorem own : ownKnob Try.prog.godebug = none := by kernel_rfl
theorem laidOut : laidOutB Try.prog = true := by kernel_rfl
set_option maxHeartbeats 4000000 in
set_option maxRecDepth 100000 in
theorem lifted (os : Os) (started : os.Started) (H : Type) (enc : TypeId × Value → H) :
    ReturnsInHanded {} Try.checked os 9 .any (Rows.pieceChangedSpec.pre6 enc Try.prog Try.f9 Rows.pieceChangedRow.domain false) (Rows.pieceChangedSpec.post enc Try.prog Try.f9 false true false false) := by
  refine returnsInHanded_of_change_sized (C := Try.checked) own started (by kernel_rfl) Try.func9
    (ChangeSpec.witness6 (enc := enc) (C := Try.checked) false ⟨#[], #[.agg #[.int .i64 0, .int .i64 0, .int .i64 0, .int .i64 0, .int .i64 0, .int .i64 0, .int .i64 0, .int .i64 0, .int .i64 0, .int .i64 0, .bool false, .slice none 0 0], .int .i64 0, .int .i64 0, .int .u8 0, .int .u16 0, .int .u8 0], []⟩ 8 (by kernel_rfl) (by kernel_rfl) (by kernel_rfl) (by kernel_rfl)) ?_
  intro W base args ds gs before hval0 hW hcnd hsz0 _
  have hsz : (DataW.weightsEach Try.prog (Try.f9.params.toList ++ Rows.pieceChangedSpec.plain.varTypes Try.prog) (ds ++ gs)).all (· ≤ reachBytes) = true := hsz0
  have hval : ∀ (j : Nat) t v, Try.f9.params[j]? = some t → args[j]? = some v → Value.okWide Try.prog W .any base t v := hval0
  have hW' := hW
  obtain ⟨p, q, hA0, hV, rfl, hfz, hnd⟩ := hW
  have hA : DataW.TrodAll enc Try.prog W 0 (fun _ => true) true Try.f9.params.toList args.toList ds p := hA0
  rw [Try.params9] at hA hval hsz
  obtain ⟨v0, vs0, d0, ds0, p0, q0, hargs, rfl, rfl, h0, r0⟩ := trodAll_cons hA
  obtain ⟨v1, vs1, d1, ds1, p1, q1, rfl, rfl, rfl, h1, r1⟩ := trodAll_cons r0
  obtain ⟨v2, vs2, d2, ds2, p2, q2, rfl, rfl, rfl, h2, r2⟩ := trodAll_cons r1
  obtain ⟨v3, vs3, d3, ds3, p3, q3, rfl, rfl, rfl, h3, r3⟩ := trodAll_cons r2
  obtain ⟨v4, vs4, d4, ds4, p4, q4, rfl, rfl, rfl, h4, r4⟩ := trodAll_cons r3
  obtain ⟨v5, vs5, d5, ds5, p5, q5, rfl, rfl, rfl, h5, r5⟩ := trodAll_cons r4
  obtain ⟨rfl, rfl, rfl⟩ := trodAll_nil r5
  obtain rfl : args = #[v0, v1, v2, v3, v4, v5] := by cases args; simp_all
  obtain ⟨rfl, rfl⟩ := trodVars_none hV
  have k0 := h0
  have lt0 : ∀ x ∈ p0, x.block < W.heap.size := by obtain ⟨m, hm⟩ := k0; exact DataW.trod_lt m _ _ _ hm
  obtain ⟨cs0, rfl, hz0⟩ := okWide_struct Try.underlying30 (hval 0 30 v0 rfl rfl)
  obtain ⟨l0⟩ := cs0
  obtain ⟨fuel0, hf0⟩ := h0
  obtain ⟨x0, A0, c0, hcs0, hc0, hC0, hU0⟩ := open_warn hf0
  have hcs0' : l0 = _ := hcs0
  subst hcs0'
  obtain ⟨a1, rfl, rfl, rfl, w1⟩ := open_int Try.underlying3 (hval 1 3 v1 rfl rfl) h1
  obtain ⟨a2, rfl, rfl, rfl, w2⟩ := open_int Try.underlying3 (hval 2 3 v2 rfl rfl) h2
  obtain ⟨a3, rfl, rfl, rfl, w3⟩ := open_int Try.underlying5 (hval 3 5 v3 rfl rfl) h3
  obtain ⟨a4, rfl, rfl, rfl, w4⟩ := open_int Try.underlying56 (hval 4 56 v4 rfl rfl) h4
  obtain ⟨a5, rfl, rfl, rfl, w5⟩ := open_int Try.underlying5 (hval 5 5 v5 rfl rfl) h5
  clear hA0 hval0 hsz0 hsz
  refine (changed_walk x0 _ _ a1 a2 a3 a4 a5 W hC0 hc0 hU0 (u8_bounds w3).1 (u8_bounds w3).2 (u16_bounds w4).1 (u16_bounds w4).2 (u8_bounds w5).1 (u8_bounds w5).2).mono fun e W' ⟨he, bel⟩ => ?_
  subst he
  exact ⟨_, rfl, _, _, _, [], _, [], hW', trodAll_mk1 (shut_bool Try.underlying4 _), (trodAll_cons_mk (Below.trod laidOut (by kernel_rfl) (of_decide_eq_true (by kernel_rfl)) k0 bel lt0) (trodAll_cons_mk (shut_int Try.underlying3 w1) (trodAll_cons_mk (shut_int Try.underlying3 w2) (trodAll_cons_mk (shut_int Try.underlying5 w3) (trodAll_cons_mk (shut_int Try.underlying56 w4) (trodAll_cons_mk (shut_int Try.underlying5 w5) trodAll_mk0)))))), rfl, bel.frame _, fun h => by cases h⟩
theorem over : Rows.pieceChangedRow.holds Try.pinned (OpenSpec.ofChange Rows.pieceChangedSpec) :=
  OpenClaim.holds_of_wide 9 Try.f9 rfl rfl rfl rfl rfl rfl rfl ⟨rfl, rfl, rfl, rfl, rfl⟩ rfl rfl rfl rfl rfl (by kernel_rfl) Try.func9 (by kernel_rfl)
    (of_decide_eq_true (by kernel_rfl)) (by unfold Func.isWrapper; first | (rw [if_pos (by decide +kernel)]; kernel_rfl) | (rw [if_neg (by decide +kernel)]; exact ⟨rfl, rfl⟩))
    (fun os started H enc _ => lifted os started H enc)
theorem proved : Rows.PieceChangedSaid := over
#print axioms proved
end Go.Proofs.Ythiealhmcfdakaa.pieceChanged
namespace Go.Proofs.Ythiealhmcfdakaa
theorem pieceChanged_holds : Rows.PieceChangedSaid := pieceChanged.proved
end Go.Proofs.Ythiealhmcfdakaa
end
