/- PieceMixed: whatever the two warnings and the numbers: the law returns true, and what was handed in reads as it did. Conditions: none beyond the given row's. -/
import Derived.Below
import Derived.ChangeOld
import Derived.Laws.IdiomArrays
import Derived.Lib.Bytes
import Derived.OpenShut
import Derived.ProofKit
import Derived.ShutString
import Derived.SizedLaws
import Derived.Test.YthiealhmcfdakaaRows
import Derived.WalkKit
import Derived.Test.YthiealhmcfdakaaB6
section
set_option linter.unusedVariables false
set_option linter.unusedSimpArgs false
namespace Go.Proofs.YthiealhmcfdakaaM
open Go Go.RowKit Go.Proofs.YthiealhmcfdakaaH Go.Proofs.Ythiealhmcfdakaa.E Go.Proofs.YthiealhmcfdakaaW.PrintWords
theorem u8_ofNat {x y : Int} (hx : 0 ≤ x ∧ x ≤ 255) (hy : 0 ≤ y ∧ y ≤ 255) (h : UInt8.ofNat x.toNat = UInt8.ofNat y.toNat) : x = y := by
  have := congrArg UInt8.toNat h
  simp at this
  omega
theorem strs_eq : ∀ (a b : List Int), U8 a → U8 b → ((a.map fun n => UInt8.ofNat n.toNat) = (b.map fun n => UInt8.ofNat n.toNat) ↔ a = b)
  | [], [], _, _ => by simp
  | [], _ :: _, _, _ => by simp
  | _ :: _, [], _, _ => by simp
  | x :: a, y :: b, ha, hb => by
    have hx := ha x (List.mem_cons_self ..)
    have hy := hb y (List.mem_cons_self ..)
    have ih := strs_eq a b (fun z hz => ha z (List.mem_cons_of_mem _ hz)) (fun z hz => hb z (List.mem_cons_of_mem _ hz))
    simp only [List.map_cons, List.cons.injEq]
    constructor
    · rintro ⟨h1, h2⟩
      exact ⟨u8_ofNat hx hy h1, ih.1 h2⟩
    · rintro ⟨rfl, h2⟩
      exact ⟨rfl, ih.2 h2⟩
theorem bytesEq_f {a b : List Int} (ha : U8 a) (hb : U8 b) : bytes_Equal.f a b = some (decide (a = b)) := by
  unfold bytes_Equal.f
  congr 1
  rw [Bool.eq_iff_iff, beq_iff_eq, decide_eq_true_iff, Lib.strOfNums_toList, Lib.strOfNums_toList]
  exact strs_eq a b ha hb
structure Giv (need : Nat) (idx : List Int) (dat : List (List Int)) (m : Nat) : Prop where
  n1 : 1 ≤ need
  n2 : need ≤ 32
  len : idx.length = dat.length
  row : ∀ r ∈ dat, r.length = m
  m200 : m ≤ 200
  u8 : ∀ r ∈ dat, U8 r
  l32 : idx.length ≤ 32
  rng : ∀ i ∈ idx, 0 ≤ i ∧ i < 32
  dup : idx.Nodup
theorem natsOf_nodup {l : List Int} (h : l.Nodup) (hr : ∀ i ∈ l, 0 ≤ i) : (natsOf l).Nodup := by
  unfold natsOf List.Nodup
  rw [List.pairwise_map]
  refine List.Pairwise.imp_of_mem (fun {a b} ha hb hne e => hne ?_) h
  have := hr a ha
  have := hr b hb
  omega
theorem rowAt_get {l : List (List Int)} {i : Nat} (h : i < l.length) : Go.Proofs.YthiealhmcfdakaaH.rowAt l (i : Int) = l[i] := by
  rw [Go.Proofs.YthiealhmcfdakaaH.rowAt, Int.toNat_natCast, List.getD_eq_getElem?_getD, List.getElem?_eq_getElem h, Option.getD_some]
theorem rd2_get {l : List (List Int)} {i : Nat} (h : i < l.length) : rd_L2 l (i : Int) = l[i] := by
  rw [rd_L2, Int.toNat_natCast, List.getD_eq_getElem?_getD, List.getElem?_eq_getElem h, Option.getD_some]
theorem value_f {at' : List Int} {rows : List (List Int)} {m : Nat} {x : Int} (h0 : 0 < rows.length) (hrow : ∀ r ∈ rows, r.length = m) (hm : m ≤ 200) (hl : at'.length ≤ rows.length) (hx : 0 ≤ x ∧ x < 256) (ha : ∀ a ∈ at', 0 ≤ a ∧ a < 32) (hu : ∀ r ∈ rows, U8 r) (hd : at'.Nodup) :
    erasure_value.f at' rows x = some (rowOf at' rows x.toNat m) := by
  have h00 : (Go.Proofs.YthiealhmcfdakaaH.rowAt rows 0).length = m := by
    rw [show (0 : Int) = ((0 : Nat) : Int) from rfl, rowAt_get h0]
    exact hrow _ (List.getElem_mem _)
  unfold erasure_value.f
  rw [if_pos, h00]
  refine ⟨h0, fun r hr => by rw [h00]; exact hrow r hr, by omega, hl, hx, fun a ha' => by have := ha a ha'; omega, fun r hr b hb => by have := hu r hr b hb; omega, natsOf_nodup hd (fun i hi => (ha i hi).1)⟩
theorem rowOf_U8 {at' : List Int} {rows : List (List Int)} {x m : Nat} (hx : x < 256) (ha : ∀ a ∈ at', 0 ≤ a ∧ a < 32) : U8 (rowOf at' rows x m) := by
  have hE : El (natsOf at') := natsOf_El (fun a h => by have := ha a h; omega)
  intro y hy
  unfold rowOf valTo at hy
  obtain ⟨i, _, rfl⟩ := List.mem_map.1 hy
  have := lagS_lt (ys := colOf rows i at'.length) hx hE at'.length
  omega
theorem rowOf_len (at' : List Int) (rows : List (List Int)) (x m : Nat) : (rowOf at' rows x m).length = m := valTo_len _ _ _ _ _
theorem rowOf_get {at' : List Int} {rows : List (List Int)} {x m i : Nat} (hi : i < m) : (rowOf at' rows x m)[i]'(by rw [rowOf_len]; exact hi) = ((lag x (natsOf at') (colOf rows i at'.length) : Nat) : Int) := by
  unfold rowOf valTo
  rw [List.getElem_map, List.getElem_range]
  show ((lagS x (natsOf at') (colOf rows i at'.length) at'.length : Nat) : Int) = _
  rw [lag, natsOf_len]
variable {need : Nat} {idx : List Int} {dat : List (List Int)} {m : Nat}
theorem Giv.value (g : Giv need idx dat m) (hn : need ≤ idx.length) {x : Int} (hx : 0 ≤ x ∧ x < 256) :
    erasure_value.f (idx.take need) (dat.take need) x = some (rowOf (idx.take need) (dat.take need) x.toNat m) := by
  have := g.len
  have := g.n1
  refine value_f (by rw [List.length_take]; omega) (fun r hr => g.row r (List.mem_of_mem_take hr)) g.m200 (by rw [List.length_take, List.length_take]; omega) hx (fun a ha => g.rng a (List.mem_of_mem_take ha)) (fun r hr => g.u8 r (List.mem_of_mem_take hr)) ?_
  exact g.dup.sublist (List.take_sublist _ _)
def fitB (need : Nat) (idx : List Int) (dat : List (List Int)) (m : Nat) : Bool := decide (∀ i, i < idx.length → need ≤ i → rowOf (idx.take need) (dat.take need) (rd idx (i : Int)).toNat m = rd_L2 dat (i : Int))
def rowsB (need : Nat) (idx : List Int) (dat : List (List Int)) (m : Nat) : List (List Int) := (List.range need).map fun i => rowOf (idx.take need) (dat.take need) i m
theorem Giv.fit (g : Giv need idx dat m) (hn : need ≤ idx.length) : ∀ (d i : Nat), i + d = idx.length → need ≤ i → ∀ K, d < K →
    erasure_fit.l0 K (need : Int) idx dat (i : Int) = some (decide (∀ j, j < idx.length → i ≤ j → rowOf (idx.take need) (dat.take need) (rd idx (j : Int)).toNat m = rd_L2 dat (j : Int)))
  | 0, i, h, hi, K, hK => by
    obtain ⟨K, rfl⟩ : ∃ k, K = k + 1 := ⟨K - 1, by omega⟩
    rw [erasure_fit.l0, if_neg (by omega), decide_eq_true (fun j hj hij => by omega)]
  | d + 1, i, h, hi, K, hK => by
    obtain ⟨K, rfl⟩ : ∃ k, K = k + 1 := ⟨K - 1, by omega⟩
    have hl := g.len
    have hii : i < idx.length := by omega
    have hr : rd idx (i : Int) = idx[i] := rd_get hii
    have hrng := g.rng idx[i] (List.getElem_mem hii)
    have hd2 : rd_L2 dat (i : Int) = dat[i]'(by omega) := rd2_get (by omega)
    have hu := g.u8 (dat[i]'(by omega)) (List.getElem_mem _)
    have hl32 := g.l32
    rw [erasure_fit.l0, if_pos (by omega), if_pos (by omega), if_pos (by omega), if_pos (by omega), if_pos (by omega), Int.toNat_natCast, g.value hn (by rw [hr]; omega), Option.bind_some, if_pos (by omega), bytesEq_f (rowOf_U8 (by rw [hr]; omega) (fun a ha => g.rng a (List.mem_of_mem_take ha))) (by rw [hd2]; exact hu), Option.bind_some]
    by_cases hq : rowOf (idx.take need) (dat.take need) (rd idx (i : Int)).toNat m = rd_L2 dat (i : Int)
    · rw [decide_eq_true hq, if_pos rfl, wrap_succ i (by omega), g.fit hn d (i + 1) (by omega) (by omega) K (by omega)]
      congr 1
      rw [decide_eq_decide]
      constructor
      · intro h j hj hij
        by_cases e : j = i
        · rw [e]; exact hq
        · exact h j hj (by omega)
      · intro h j hj hij
        exact h j hj (by omega)
    · rw [decide_eq_false hq, if_neg (by simp), decide_eq_false (fun h => hq (h i hii (Nat.le_refl _)))]
theorem indices_l0 (n : Nat) (hn : n ≤ 1000) : ∀ (d i : Nat) (acc : List Int), i + d = n → acc.length = n → (∀ j, j < i → acc[j]? = some (j : Int)) → ∀ K, d < K → erasure_indices.l0 K acc (n : Int) (i : Int) = some ((List.range n).map fun (i : Nat) => (i : Int))
  | 0, i, acc, h, hl, ha, K, hK => by
    obtain ⟨K, rfl⟩ : ∃ k, K = k + 1 := ⟨K - 1, by omega⟩
    rw [erasure_indices.l0, if_neg (by omega)]
    congr 1
    apply List.ext_getElem?
    intro j
    by_cases hj : j < n
    · rw [ha j (by omega), List.getElem?_map, List.getElem?_range hj]; rfl
    · rw [List.getElem?_eq_none (by omega), List.getElem?_eq_none (by simp; omega)]
  | d + 1, i, acc, h, hl, ha, K, hK => by
    obtain ⟨K, rfl⟩ : ∃ k, K = k + 1 := ⟨K - 1, by omega⟩
    rw [erasure_indices.l0, if_pos (by omega), if_pos (by omega), if_pos (by omega), wrap_succ i (by omega)]
    refine indices_l0 n hn d (i + 1) _ (by omega) (by simpa using hl) (fun j hj => ?_) K (by omega)
    rw [Int.toNat_natCast, List.getElem?_set]
    by_cases e : i = j
    · subst e
      rw [if_pos rfl, if_pos (by omega)]
    · rw [if_neg e]
      exact ha j (by omega)
theorem indices_f (n : Nat) (hn : n ≤ 1000) (K : Nat) (hK : n < K) : erasure_indices.f K (n : Int) = some ((List.range n).map fun (i : Nat) => (i : Int)) := by
  unfold erasure_indices.f
  rw [if_pos (by omega), if_pos (by omega), Option.bind_some]
  simp only [Int.toNat_natCast, List.length_replicate]
  exact indices_l0 n hn n 0 _ (by omega) (by simp) (fun j hj => by omega) K hK
theorem Giv.recv (g : Giv need idx dat m) (hn : need ≤ idx.length) (want : List Int) (hw : ∀ x ∈ want, 0 ≤ x ∧ x < 256) (hwl : want.length ≤ 1000) : ∀ (d i : Nat) (acc : List (List Int)), i + d = want.length → acc.length ≤ i → ∀ K, d < K →
    erasure_recovered.l0 K (need : Int) idx dat acc want (want.length : Int) (i : Int) = some (acc ++ (want.drop i).map (fun x => rowOf (idx.take need) (dat.take need) x.toNat m), 0)
  | 0, i, acc, h, ha, K, hK => by
    obtain ⟨K, rfl⟩ : ∃ k, K = k + 1 := ⟨K - 1, by omega⟩
    rw [erasure_recovered.l0, if_neg (by omega), List.drop_of_length_le (by omega)]
    simp
  | d + 1, i, acc, h, ha, K, hK => by
    obtain ⟨K, rfl⟩ : ∃ k, K = k + 1 := ⟨K - 1, by omega⟩
    have hl := g.len
    have hii : i < want.length := by omega
    have hr : rd want (i : Int) = want[i] := rd_get hii
    have hwi := hw want[i] (List.getElem_mem hii)
    have hv := g.value hn hwi
    have hrec := g.recv hn want hw hwl d (i + 1) (acc ++ [rowOf (idx.take need) (dat.take need) want[i].toNat m]) (by omega) (by rw [List.length_append, List.length_singleton]; omega) K (by omega)
    have hal : acc.length < 5864062014805 := by omega
    have hdr : want.drop i = want[i] :: want.drop (i + 1) := List.drop_eq_getElem_cons hii
    unfold erasure_recovered.l0
    rw [if_pos (show (i : Int) < (want.length : Int) by omega), if_pos (show (0 : Int) ≤ (i : Int) by omega), if_pos (show (i : Int) < (want.length : Int) by omega), if_pos (show (0 : Int) ≤ (need : Int) by omega), if_pos (show (need : Int) ≤ (idx.length : Int) by omega), if_pos (show (need : Int) ≤ (dat.length : Int) by omega), Int.toNat_natCast, hr, hv, Option.bind_some, if_pos hal, wrap_succ i (by omega), hrec, hdr, List.map_cons, List.append_assoc, List.singleton_append]
theorem equal_f' {dat : List (List Int)} {m : Nat} (hrow : ∀ r ∈ dat, r.length = m) (hm : m ≤ 200) (hl : dat.length ≤ 1000) : ∀ (d i : Nat), i + d = dat.length → ∀ K, d < K → erasure_equal.l0 K dat dat (dat.length : Int) (i : Int) = some true
  | 0, i, h, K, hK => by
    obtain ⟨K, rfl⟩ : ∃ k, K = k + 1 := ⟨K - 1, by omega⟩
    rw [erasure_equal.l0, if_neg (by omega)]
  | d + 1, i, h, K, hK => by
    obtain ⟨K, rfl⟩ : ∃ k, K = k + 1 := ⟨K - 1, by omega⟩
    have h1 : (rd_L2 dat (i : Int)).length = m := by rw [rd2_get (show i < dat.length by omega)]; exact hrow _ (List.getElem_mem _)
    have h2 : (rd_L2 dat 0).length = m := by rw [show (0 : Int) = ((0 : Nat) : Int) from rfl, rd2_get (show 0 < dat.length by omega)]; exact hrow _ (List.getElem_mem _)
    rw [erasure_equal.l0, if_pos (by omega), if_pos (by omega), if_pos (by omega), if_pos (by omega), if_pos (by omega), if_neg (by omega), wrap_succ i (by omega)]
    exact equal_f' hrow hm hl d (i + 1) (by omega) K (by omega)
theorem fresh_t : ∀ (l s : List Int), (∀ i ∈ l, 0 ≤ i ∧ i < 32) → l.Nodup → (∀ i ∈ l, i ∉ s) → freshB s l = true
  | [], s, _, _, _ => rfl
  | i :: l, s, hr, hd, hs => by
    have h1 := hr i (List.mem_cons_self ..)
    have h2 := hs i (List.mem_cons_self ..)
    rw [List.nodup_cons] at hd
    rw [freshB, if_neg (by rintro (h | h | h); omega; omega; exact h2 h)]
    refine fresh_t l (i :: s) (fun j hj => hr j (List.mem_cons_of_mem _ hj)) hd.2 (fun j hj hjs => ?_)
    rcases List.mem_cons.1 hjs with rfl | h
    · exact hd.1 hj
    · exact hs j (List.mem_cons_of_mem _ hj) h
theorem Giv.given (g : Giv need idx dat m) (K : Nat) (hK : 100 ≤ K) : erasure_given.f K (need : Int) idx dat = some true := by
  have := g.n1; have := g.n2; have := g.len; have := g.l32
  unfold erasure_given.f
  rw [if_neg (by omega), if_neg (by omega), if_pos g.len, erasure_equal.f]
  have := equal_f' g.row g.m200 (by omega) dat.length 0 (by omega) K (by omega)
  rw [show ((0 : Nat) : Int) = 0 from rfl] at this
  rw [this, Option.bind_some, if_pos rfl, fresh_t idx [] g.rng g.dup (fun _ _ h => by simp at h)]
def decM (need : Nat) (idx : List Int) (dat : List (List Int)) (m : Nat) : List (List Int) × Int :=
  if idx.length < need then ([], 4) else if fitB need idx dat m = true then (rowsB need idx dat m, 0) else ([], 18)
theorem Giv.decode (g : Giv need idx dat m) (K : Nat) (hK : 200 ≤ K) : erasure_Decode.f K (need : Int) (m : Int) idx dat = some (decM need idx dat m) := by
  have h1 := g.n1; have h2 := g.n2; have h3 := g.len; have h4 := g.l32
  have hj : ∀ b, b = false → erasure_Decode.j0 K (need : Int) idx dat b = some (decM need idx dat m) := by
    rintro b rfl
    obtain ⟨K, rfl⟩ : ∃ k, K = k + 1 := ⟨K - 1, by omega⟩
    rw [erasure_Decode.j0, if_neg (by simp), indices_f need (by omega) K (by omega), Option.bind_some, erasure_recovered.f]
    unfold decM
    by_cases c1 : idx.length < need
    · rw [if_pos (by omega), if_pos c1]; rfl
    rw [if_neg (by omega), if_neg c1, erasure_fit.f, g.fit (by omega) (idx.length - need) need (by omega) (Nat.le_refl _) K (by omega), Option.bind_some]
    unfold fitB
    by_cases c2 : ∀ j, j < idx.length → need ≤ j → rowOf (idx.take need) (dat.take need) (rd idx (j : Int)).toNat m = rd_L2 dat (j : Int)
    · rw [decide_eq_true c2, if_pos rfl, if_pos rfl]
      have hr := g.recv (by omega) ((List.range need).map fun (i : Nat) => (i : Int)) (fun x hx => by
        obtain ⟨i, hi, rfl⟩ := List.mem_map.1 hx
        rw [List.mem_range] at hi; omega) (by simp; omega) ((List.range need).map fun (i : Nat) => (i : Int)).length 0 [] (by omega) (by simp) K (by simp; omega)
      rw [show ((0 : Nat) : Int) = 0 from rfl] at hr
      rw [hr, Option.bind_some]
      unfold rowsB
      simp only [List.nil_append, List.drop_zero, List.map_map]
      rfl
    · rw [decide_eq_false c2, if_neg (by simp), if_neg (by simp)]; rfl
  unfold erasure_Decode.f
  rw [g.given K (by omega), Option.bind_some, if_pos rfl]
  by_cases c : dat.length > 0
  · rw [if_pos (by omega), if_pos (by omega)]
    refine hj _ ?_
    have h00 : (rd_L2 dat 0).length = m := by rw [show (0 : Int) = ((0 : Nat) : Int) from rfl, rd2_get (show 0 < dat.length by omega)]; exact g.row _ (List.getElem_mem _)
    rw [h00]; simp
  · rw [if_neg (by omega)]
    exact hj _ rfl
def base (n : Nat) : List Int := (List.range n).map fun (i : Nat) => (i : Int)
theorem base_len (n : Nat) : (base n).length = n := by simp [base]
theorem base_rng {n : Nat} (h : n ≤ 32) : ∀ i ∈ base n, 0 ≤ i ∧ i < 32 := by
  intro i hi
  obtain ⟨j, hj, rfl⟩ := List.mem_map.1 hi
  rw [List.mem_range] at hj; omega
theorem base_dup (n : Nat) : (base n).Nodup := by
  unfold base List.Nodup
  rw [List.pairwise_map]
  exact List.Pairwise.imp (fun {a b} hne e => hne (by omega)) List.nodup_range
def codeB (data : List (List Int)) (m n : Nat) : List (List Int) := (List.range n).map fun i => rowOf (base data.length) data i m
theorem code_l0 {data : List (List Int)} {m : Nat} (h1 : 1 ≤ data.length) (h2 : data.length ≤ 32) (hrow : ∀ r ∈ data, r.length = m) (hm : m ≤ 200) (hu : ∀ r ∈ data, U8 r) (n : Nat) (hn : n ≤ 32) : ∀ (d i : Nat), i + d = n → ∀ K, d < K →
    erasure_Code.l0 K data (base data.length) ((List.range i).map fun i => rowOf (base data.length) data i m) (n : Int) (i : Int) = some (codeB data m n, 0)
  | 0, i, h, K, hK => by
    obtain ⟨K, rfl⟩ : ∃ k, K = k + 1 := ⟨K - 1, by omega⟩
    obtain rfl : i = n := by omega
    rw [erasure_Code.l0, if_neg (by omega)]
    rfl
  | d + 1, i, h, K, hK => by
    obtain ⟨K, rfl⟩ : ∃ k, K = k + 1 := ⟨K - 1, by omega⟩
    rw [erasure_Code.l0, if_pos (by omega), value_f (by omega) hrow hm (by rw [base_len]; omega) (by omega) (base_rng h2) hu (base_dup _), Option.bind_some, if_pos (by simp; omega), wrap_succ i (by omega), Int.toNat_natCast]
    have := code_l0 h1 h2 hrow hm hu n hn d (i + 1) (by omega) K (by omega)
    rw [List.range_succ, List.map_append] at this
    exact this
theorem code_f {data : List (List Int)} {m : Nat} (h1 : 1 ≤ data.length) (h2 : data.length ≤ 32) (hrow : ∀ r ∈ data, r.length = m) (hm : m ≤ 200) (hu : ∀ r ∈ data, U8 r) (n : Nat) (hn : n ≤ 32) (K : Nat) (hK : 200 ≤ K) : erasure_Code.f K data (n : Int) = some (codeB data m n, 0) := by
  have he := equal_f' hrow hm (by omega) data.length 0 (by omega) K (by omega)
  rw [show ((0 : Nat) : Int) = 0 from rfl] at he
  unfold erasure_Code.f
  rw [if_neg (by omega), if_neg (by omega), erasure_equal.f, he, Option.bind_some, if_pos rfl, if_neg (by omega), decide_eq_false (by omega)]
  obtain ⟨K, rfl⟩ : ∃ k, K = k + 1 := ⟨K - 1, by omega⟩
  rw [erasure_Code.j0, if_neg (by simp), indices_f data.length (by omega) K (by omega), Option.bind_some]
  have := code_l0 h1 h2 hrow hm hu n hn n 0 (by omega) K (by omega)
  exact this
end Go.Proofs.YthiealhmcfdakaaM
end
section
set_option linter.unusedVariables false
set_option linter.unusedSimpArgs false
namespace Go.Proofs.YthiealhmcfdakaaM
open Go Go.RowKit Go.Proofs.YthiealhmcfdakaaH Go.Proofs.Ythiealhmcfdakaa.E Go.Proofs.YthiealhmcfdakaaW.PrintWords
def look (l : List S49) : Int → Option (List Int) := fun k => (l.find? fun p => p.f1 == k).map (·.f5)
def C2 (l : List S49) : Prop := ∀ p ∈ l, ∀ q ∈ l, p.f1 = q.f1 → p.f5 = q.f5
theorem look_some {l : List S49} {k : Int} {d : List Int} (h : look l k = some d) : ∃ p ∈ l, p.f1 = k ∧ p.f5 = d := by
  unfold look at h
  obtain ⟨p, hp, rfl⟩ := Option.map_eq_some_iff.1 h
  exact ⟨p, List.mem_of_find?_eq_some hp, by have := List.find?_some hp; simpa using this, rfl⟩
theorem look_none {l : List S49} {k : Int} (h : look l k = none) : ∀ p ∈ l, p.f1 ≠ k := by
  unfold look at h
  rw [Option.map_eq_none_iff, List.find?_eq_none] at h
  intro p hp e
  exact h p hp (by simpa using e)
theorem look_mem {l : List S49} (h : C2 l) {p : S49} (hp : p ∈ l) : look l p.f1 = some p.f5 := by
  cases e : look l p.f1 with
  | none => exact absurd rfl (look_none e p hp)
  | some d =>
    obtain ⟨q, hq, e1, e2⟩ := look_some e
    rw [← e2, h q hq p hp e1]
theorem look_ext {l l' : List S49} (h : C2 l) (hm : ∀ p, p ∈ l ↔ p ∈ l') : look l = look l' := by
  have h' : C2 l' := fun p hp q hq => h p ((hm p).2 hp) q ((hm q).2 hq)
  funext k
  cases e : look l k with
  | none =>
    cases e' : look l' k with
    | none => rfl
    | some d =>
      obtain ⟨q, hq, e1, _⟩ := look_some e'
      exact absurd e1 (look_none e q ((hm q).2 hq))
  | some d =>
    obtain ⟨p, hp, e1, e2⟩ := look_some e
    have := look_mem h' ((hm p).1 hp)
    rw [← e1, ← e2, this]
theorem look_cons (p : S49) (s : List S49) : gstep (look s) p = look (p :: s) := by
  funext k
  unfold gstep look
  rw [List.find?_cons]
  by_cases h : k = p.f1
  · rw [if_pos h, h]; simp
  · have : (p.f1 == k) = false := by simpa using fun e => h e.symm
    rw [if_neg h, this]
theorem gathB_eq (p0 : S49) : ∀ (l s : List S49), C2 s →
    ((∀ p ∈ l, wholeEq p p0 = true) ∧ C2 (l.reverse ++ s) → gathB p0 (look s) l = some (look (l.reverse ++ s))) ∧ (¬ ((∀ p ∈ l, wholeEq p p0 = true) ∧ C2 (l.reverse ++ s)) → gathB p0 (look s) l = none)
  | [], s, hs => by
    refine ⟨fun _ => rfl, fun h => absurd ⟨fun p hp => by simp at hp, hs⟩ h⟩
  | p :: r, s, hs => by
    have hrev : (p :: r).reverse ++ s = r.reverse ++ (p :: s) := by simp
    rw [hrev, gathB]
    have hall : (∀ q ∈ p :: r, wholeEq q p0 = true) ↔ (wholeEq p p0 = true ∧ ∀ q ∈ r, wholeEq q p0 = true) := by simp
    rw [hall]
    cases hw : wholeEq p p0 with
    | false =>
      rw [if_pos rfl]
      refine ⟨fun h => absurd h.1.1 (by simp), fun _ => rfl⟩
    | true =>
      rw [if_neg (by simp)]
      cases hk : look s p.f1 with
      | some d =>
        obtain ⟨q, hq, e1, e2⟩ := look_some hk
        by_cases hd : d = p.f5
        · have hs' : C2 (p :: s) := by
            intro a ha b hb hab
            rcases List.mem_cons.1 ha with ea | ha
            · rcases List.mem_cons.1 hb with eb | hb
              · rw [ea, eb]
              · rw [ea] at hab ⊢
                rw [← hd, ← e2]; exact hs q hq b hb (by rw [e1, hab])
            · rcases List.mem_cons.1 hb with eb | hb
              · rw [eb] at hab ⊢
                rw [← hd, ← e2]; exact hs a ha q hq (by rw [e1, hab])
              · exact hs a ha b hb hab
          have ih := gathB_eq p0 r (p :: s) hs'
          simp only [if_pos hd, look_cons]
          refine ⟨fun h => ih.1 ⟨fun x hx => h.1.2 x hx, h.2⟩, fun h => ih.2 (fun h2 => h ⟨⟨by simp, h2.1⟩, h2.2⟩)⟩
        · simp only [if_neg hd]
          refine ⟨fun h => ?_, fun _ => by simp⟩
          exfalso
          exact hd (by rw [← e2]; exact h.2 q (by simp [hq]) p (by simp) e1)
      | none =>
        have hn := look_none hk
        have hs' : C2 (p :: s) := by
          intro a ha b hb hab
          rcases List.mem_cons.1 ha with ea | ha
          · rcases List.mem_cons.1 hb with eb | hb
            · rw [ea, eb]
            · rw [ea] at hab
              exact absurd hab.symm (hn b hb)
          · rcases List.mem_cons.1 hb with eb | hb
            · rw [eb] at hab
              exact absurd hab (hn a ha)
            · exact hs a ha b hb hab
        have ih := gathB_eq p0 r (p :: s) hs'
        simp only [look_cons]
        exact ⟨fun h => ih.1 ⟨fun x hx => h.1.2 x hx, h.2⟩, fun h => ih.2 (fun h2 => h ⟨⟨by simp, h2.1⟩, h2.2⟩)⟩
def Cons (p0 : S49) (l : List S49) : Prop := (∀ p ∈ l, wholeEq p p0 = true) ∧ C2 l
theorem look_nil : look [] = fun _ => none := rfl
theorem C2_rev {l : List S49} : C2 (l.reverse ++ []) ↔ C2 l := by simp [C2]
theorem gathB_cons {p0 : S49} {l : List S49} (h : Cons p0 l) : gathB p0 (fun _ => none) l = some (look l) := by
  rw [← look_nil, (gathB_eq p0 l [] (fun p hp => by simp at hp)).1 ⟨h.1, C2_rev.2 h.2⟩]
  exact congrArg some (look_ext (C2_rev.2 h.2) (fun p => by simp))
theorem gathB_not {p0 : S49} {l : List S49} (h : ¬ Cons p0 l) : gathB p0 (fun _ => none) l = none := by
  rw [← look_nil]
  exact (gathB_eq p0 l [] (fun p hp => by simp at hp)).2 (fun h2 => h ⟨h2.1, C2_rev.1 h2.2⟩)
theorem idxOf_mem {f : Int → Option (List Int)} {n : Nat} {i : Int} : i ∈ idxOf f n ↔ ∃ j : Nat, j < n ∧ (f (j : Int)).isSome = true ∧ i = (j : Int) := by
  unfold idxOf
  simp only [List.mem_map, List.mem_filter, List.mem_range]
  constructor
  · rintro ⟨j, ⟨h1, h2⟩, rfl⟩; exact ⟨j, h1, h2, rfl⟩
  · rintro ⟨j, h1, h2, rfl⟩; exact ⟨j, ⟨h1, h2⟩, rfl⟩
theorem idxOf_dup (f : Int → Option (List Int)) (n : Nat) : (idxOf f n).Nodup := by
  unfold idxOf List.Nodup
  rw [List.pairwise_map]
  refine List.Pairwise.imp (R := fun a b : Nat => a ≠ b) ?_ (List.Pairwise.filter _ List.nodup_range)
  intro a b hne e
  exact hne (by omega)
theorem wholeEq_iff {p q : S49} : wholeEq p q = true ↔ (p.f0.f0 = q.f0.f0 ∧ p.f0.f1 = q.f0.f1 ∧ p.f0.f2 = q.f0.f2) ∧ p.f2 = q.f2 ∧ p.f3 = q.f3 ∧ p.f4 = q.f4 := by
  unfold wholeEq
  simp
theorem okP_len' {p q : S49} (hp : okP p) (hq : okP q) (h : wholeEq p q = true) : p.f5.length = q.f5.length := by
  obtain ⟨_, h2, h3, h4⟩ := wholeEq_iff.1 h
  have a := hp.2.2.2.2.2.2.2.2.2
  have b := hq.2.2.2.2.2.2.2.2.2
  rw [h2, h3] at a
  have : (p.f5.length : Int) = (q.f5.length : Int) := a.trans b.symm
  omega
theorem allOk_iff {l : List S49} : allOk l = true ↔ ∀ p ∈ l, okP p := by
  unfold allOk
  rw [List.all_eq_true]
  exact ⟨fun h p hp => of_decide_eq_true (h p hp), fun h p hp => decide_eq_true (h p hp)⟩
theorem giv_of {p0 : S49} {l : List S49} (h0 : okP p0) (hok : ∀ p ∈ l, okP p) (hU : ∀ p ∈ l, U8 p.f5) (hc : Cons p0 l) :
    Giv p0.f2.toNat (idxOf (look l) 32) (datOf (look l) 32) p0.f5.length := by
  have hg : ∀ r ∈ datOf (look l) 32, ∃ p ∈ l, p.f5 = r := by
    intro r hr
    obtain ⟨i, hi, rfl⟩ := List.mem_map.1 hr
    obtain ⟨j, _, hs, rfl⟩ := idxOf_mem.1 hi
    obtain ⟨d, hd⟩ := Option.isSome_iff_exists.1 hs
    obtain ⟨p, hp, _, e⟩ := look_some hd
    exact ⟨p, hp, by rw [hd, e]; rfl⟩
  have h' := h0
  obtain ⟨_, _, _, h4, h5, _⟩ := h'
  refine ⟨by omega, by omega, by simp [datOf], fun r hr => ?_, okP_data h0, fun r hr => ?_, idxOf_len _ _, fun i hi => ?_, idxOf_dup _ _⟩
  · obtain ⟨p, hp, rfl⟩ := hg r hr
    exact okP_len' (hok p hp) h0 (hc.1 p hp)
  · obtain ⟨p, hp, rfl⟩ := hg r hr
    exact hU p hp
  · obtain ⟨j, hj, _, rfl⟩ := idxOf_mem.1 hi
    omega
theorem flat_len {rows : List (List Int)} {m : Nat} (h : ∀ r ∈ rows, r.length = m) : rows.flatten.length = rows.length * m := by
  induction rows with
  | nil => simp
  | cons r rows ih =>
    rw [List.flatten_cons, List.length_append, ih (fun x hx => h x (List.mem_cons_of_mem _ hx)), h r (List.mem_cons_self ..), List.length_cons, Nat.succ_mul]
    omega
theorem rowsB_row {need : Nat} {idx : List Int} {dat : List (List Int)} {m : Nat} : ∀ r ∈ rowsB need idx dat m, r.length = m := by
  intro r hr
  obtain ⟨i, _, rfl⟩ := List.mem_map.1 hr
  exact rowOf_len _ _ _ _
def endM (p0 : S49) (cc : List Int) : Wn × Int :=
  if sumOf cc ≠ p0.f4 then (zWn, 9) else match piece_From.f cc with
    | none => (zWn, 7)
    | some u => if u.2 ≠ 0 ∨ ¬ sameName u.1 p0 then (zWn, 7) else (u.1, 0)
def gatherC (p0 : S49) (l : List S49) : Wn × Int :=
  let d := decM p0.f2.toNat (idxOf (look l) 32) (datOf (look l) 32) p0.f5.length
  if d.2 ≠ 0 then (zWn, d.2) else endM p0 (d.1.flatten.take p0.f3.toNat)
theorem size_le {p : S49} (h : okP p) : p.f3.toNat ≤ p.f2.toNat * p.f5.length := by
  obtain ⟨_, _, _, h4, h5, h6, h7, _, _, h10⟩ := h
  have h1 : p.f3 + p.f2 - 1 < ((p.f3 + p.f2 - 1) / p.f2 + 1) * p.f2 := Int.lt_mul_of_ediv_lt (by omega) (by omega) |> fun h => h
  rw [← h10] at h1
  have h2 : p.f3 ≤ p.f2 * (p.f5.length : Int) := by
    have : ((p.f5.length : Int) + 1) * p.f2 = p.f2 * (p.f5.length : Int) + p.f2 := by rw [Int.add_mul, Int.one_mul, Int.mul_comm]
    omega
  obtain ⟨a, ha⟩ := Int.eq_ofNat_of_zero_le (show 0 ≤ p.f2 by omega)
  obtain ⟨b, hb⟩ := Int.eq_ofNat_of_zero_le (show 0 ≤ p.f3 by omega)
  rw [ha, hb] at h2 ⊢
  simp only [Int.toNat_natCast]
  exact_mod_cast h2
theorem gather_f {l : List S49} (h1 : 0 < l.length) (h2 : l.length ≤ 64) (hok : ∀ p ∈ l, okP p) (hU : ∀ p ∈ l, U8 p.f5) :
    (Cons (l.getD 0 z49) l → piece_Gather.f 400 l = some (gatherC (l.getD 0 z49) l)) ∧ (¬ Cons (l.getD 0 z49) l → piece_Gather.f 400 l = some (zWn, 18)) := by
  have hp0 : l.getD 0 z49 ∈ l := by
    rw [List.getD_eq_getElem?_getD, List.getElem?_eq_getElem h1, Option.getD_some]
    exact List.getElem_mem h1
  have hg : piece_Gather.f 400 l = match gathB (l.getD 0 z49) (fun _ => none) l with
      | none => some (zWn, 18)
      | some f => (erasure_Decode.f 400 (l.getD 0 z49).f2 ((l.getD 0 z49).f5.length : Int) (idxOf f 32) (datOf f 32)).bind fun t =>
        if t.2 ≠ 0 then some (zWn, t.2) else (slices_Concat_byte_byte.f t.1).bind fun cc =>
          if cc.length < (l.getD 0 z49).f3.toNat then none
          else if sumOf (cc.take (l.getD 0 z49).f3.toNat) ≠ (l.getD 0 z49).f4 then some (zWn, 9)
          else (piece_From.f (cc.take (l.getD 0 z49).f3.toNat)).bind fun u => if u.2 ≠ 0 ∨ ¬ sameName u.1 (l.getD 0 z49) then some (zWn, 7) else some (u.1, 0) := by
    have hneg : ¬ (l.length = 0 ∨ l.length > 64 ∨ allOk l = false) := by
      rintro (h | h | h)
      · omega
      · omega
      · rw [allOk_iff.2 hok] at h; exact absurd h (by simp)
    unfold piece_Gather.f
    rw [if_neg hneg]
    rfl
  rw [hg]
  clear hg
  generalize l.getD 0 z49 = p0 at hp0
  refine ⟨fun hc => ?_, fun hc => by rw [gathB_not hc]⟩
  rw [gathB_cons hc]
  have h0 := hok p0 hp0
  have g := giv_of h0 hok hU hc
  have hd := g.decode 400 (by omega)
  rw [Int.toNat_of_nonneg (by have := h0.2.2.2.1; omega)] at hd
  dsimp only
  rw [hd, Option.bind_some]
  unfold gatherC
  dsimp only
  have hs := size_le h0
  generalize hD : decM p0.f2.toNat (idxOf (look l) 32) (datOf (look l) 32) p0.f5.length = D
  by_cases c0 : D.2 ≠ 0
  · rw [if_pos c0, if_pos c0]
  rw [if_neg c0, if_neg c0]
  have hrows : D.1 = rowsB p0.f2.toNat (idxOf (look l) 32) (datOf (look l) 32) p0.f5.length := by
    unfold decM at hD
    split at hD
    · rw [← hD] at c0; exact absurd (show (4 : Int) ≠ 0 by decide) c0
    split at hD
    · rw [← hD]
    · rw [← hD] at c0; exact absurd (show (18 : Int) ≠ 0 by decide) c0
  have hn := g.n2
  have hm := g.m200
  have hrl : D.1.length = p0.f2.toNat := by rw [hrows]; simp [rowsB]
  have hfl : D.1.flatten.length = p0.f2.toNat * p0.f5.length := by rw [flat_len (m := p0.f5.length) (by rw [hrows]; exact rowsB_row), hrl]
  have hfU : U8 D.1.flatten := by
    intro x hx
    obtain ⟨r, hr, hxr⟩ := List.mem_flatten.1 hx
    rw [hrows] at hr
    obtain ⟨i, hi, rfl⟩ := List.mem_map.1 hr
    rw [List.mem_range] at hi
    exact rowOf_U8 (by omega) (fun a ha => g.rng a (List.mem_of_mem_take ha)) x hxr
  have hcat : slices_Concat_byte_byte.f D.1 = some D.1.flatten := by
    unfold slices_Concat_byte_byte.f
    rw [if_pos]
    refine ⟨by omega, fun r hr => ?_⟩
    rw [hrows] at hr
    rw [rowsB_row r hr]; omega
  rw [hcat, Option.bind_some, if_neg (by rw [hfl]; omega)]
  unfold endM
  by_cases c1 : sumOf (D.1.flatten.take p0.f3.toNat) ≠ p0.f4
  · rw [if_pos c1, if_pos c1]
  rw [if_neg c1, if_neg c1]
  have hl6 : (D.1.flatten.take p0.f3.toNat).length < 1000000 := by
    rw [List.length_take]
    have h1 := h0.2.2.2.2.2.2.1
    have h2 := h0.2.2.2.2.1
    omega
  obtain ⟨x, e, hx, _⟩ := from_back (hfU.take _) hl6
  rw [hx, Option.bind_some]
  dsimp only
  split <;> rfl
end Go.Proofs.YthiealhmcfdakaaM
end
section
set_option linter.unusedVariables false
set_option linter.unusedSimpArgs false
namespace Go.Proofs.YthiealhmcfdakaaM
open Go Go.RowKit Go.Proofs.YthiealhmcfdakaaH Go.Proofs.Ythiealhmcfdakaa.E Go.Proofs.YthiealhmcfdakaaW.PrintWords
theorem colOf_El {rows : List (List Int)} (hU : ∀ r ∈ rows, U8 r) (i n : Nat) : El (colOf rows i n) := by
  intro x hx
  obtain ⟨k, _, rfl⟩ := List.mem_map.1 hx
  by_cases h : k < rows.length
  · rw [List.getD_eq_getElem?_getD (l := rows), List.getElem?_eq_getElem h, Option.getD_some]
    by_cases h2 : i < (rows[k]).length
    · rw [List.getD_eq_getElem?_getD, List.getElem?_eq_getElem h2, Option.getD_some]
      have := hU _ (List.getElem_mem h) _ (List.getElem_mem h2)
      omega
    · rw [List.getD_eq_getElem?_getD, List.getElem?_eq_none (by omega)]
      decide
  · rw [List.getD_eq_getElem?_getD (l := rows), List.getElem?_eq_none (by omega)]
    simp
theorem natsEl {l : List Int} (h : ∀ a ∈ l, 0 ≤ a ∧ a < 32) : El (natsOf l) := natsOf_El (fun a ha => by have := h a ha; omega)
theorem mds {R D : List (List Int)} {J : List Int} {m need : Nat} (hR : R.length = need) (hn : need ≤ 32) (hRU : ∀ r ∈ R, U8 r) (hJ : ∀ a ∈ J, 0 ≤ a ∧ a < 32) (hJd : J.Nodup) (hJl : need ≤ J.length) (hD : D = J.map fun a => rowOf (base need) R a.toNat m) :
    ∀ x, x < 256 → rowOf J D x m = rowOf (base need) R x m := by
  intro x hx
  apply List.ext_getElem (by rw [rowOf_len, rowOf_len])
  intro i h1 h2
  rw [rowOf_len] at h1
  rw [rowOf_get h1, rowOf_get h1, base_len]
  congr 1
  have hcol : colOf D i J.length = (natsOf J).map fun a => lag a (natsOf (base need)) (colOf R i need) := by
    unfold colOf natsOf
    rw [List.map_map]
    apply List.ext_getElem (by simp)
    intro k hk1 hk2
    simp only [List.length_map, List.length_range] at hk1
    rw [List.getElem_map, List.getElem_range, List.getElem_map]
    have hDk : D.getD k [] = rowOf (base need) R (J[k]).toNat m := by
      rw [hD, List.getD_eq_getElem?_getD, List.getElem?_map, List.getElem?_eq_getElem hk1]
      rfl
    have hri : i < (rowOf (base need) R (J[k]).toNat m).length := by rw [rowOf_len]; exact h1
    rw [hDk, List.getD_eq_getElem?_getD, List.getElem?_eq_getElem hri, Option.getD_some, rowOf_get h1, base_len]
    rfl
  rw [hcol]
  exact lag_lag (natsEl (base_rng hn)) (natsOf_nodup (base_dup _) (fun a ha => (base_rng hn a ha).1)) (colOf_El hRU _ _) (natsEl hJ) (natsOf_nodup hJd (fun a ha => (hJ a ha).1)) (by rw [natsOf_len, natsOf_len, base_len]; exact hJl) x hx
theorem base_rows {R : List (List Int)} {m need : Nat} (hR : R.length = need) (hn : need ≤ 32) (hRU : ∀ r ∈ R, U8 r) (hRm : ∀ r ∈ R, r.length = m) {j : Nat} (hj : j < need) : rowOf (base need) R j m = R[j]'(by omega) := by
  apply List.ext_getElem (by rw [rowOf_len, hRm _ (List.getElem_mem _)])
  intro i h1 h2
  rw [rowOf_len] at h1
  rw [rowOf_get h1, base_len]
  have hb : (natsOf (base need)).getD j 0 = j := by
    rw [List.getD_eq_getElem?_getD, natsOf, List.getElem?_map, base, List.getElem?_map, List.getElem?_range hj]
    rfl
  have hl := lag_at (natsEl (base_rng hn)) (natsOf_nodup (base_dup need) (fun a ha => (base_rng hn a ha).1)) (colOf_El hRU i need) (j := j) (by rw [natsOf_len, base_len]; exact hj)
  rw [hb] at hl
  rw [hl]
  unfold colOf
  rw [List.getD_eq_getElem?_getD (l := List.map _ _), List.getElem?_map, List.getElem?_range hj]
  simp only [Option.map_some, Option.getD_some]
  have hjR : j < R.length := by omega
  rw [List.getD_eq_getElem?_getD (l := R), List.getElem?_eq_getElem hjR, Option.getD_some, List.getD_eq_getElem?_getD, List.getElem?_eq_getElem h2, Option.getD_some]
  have := hRU _ (List.getElem_mem hjR) _ (List.getElem_mem h2)
  omega
theorem codeB_get {R : List (List Int)} {m n i : Nat} (h : i < n) : (codeB R m n)[i]? = some (rowOf (base R.length) R i m) := by
  unfold codeB
  rw [List.getElem?_map, List.getElem?_range h]; rfl
theorem codeB_len (R : List (List Int)) (m n : Nat) : (codeB R m n).length = n := by simp [codeB]
theorem rowsOf_len (b : List Int) (need : Nat) : (rowsOf b (need : Int)).length = need := by simp [rowsOf, cutR]
theorem padded_len (b : List Int) {need : Nat} (hn : 1 ≤ need) : (b ++ List.replicate (lenOf b (need : Int) * need - b.length) 0).length = lenOf b (need : Int) * need ∧ b.length ≤ lenOf b (need : Int) * need := by
  have h : b.length ≤ lenOf b (need : Int) * need := by
    unfold lenOf
    rw [Int.toNat_natCast]
    have := Nat.lt_div_mul_add (a := b.length + need - 1) (b := need) (by omega)
    omega
  rw [List.length_append, List.length_replicate]
  omega
theorem rowsOf_row (b : List Int) {need : Nat} (hn : 1 ≤ need) : ∀ r ∈ rowsOf b (need : Int), r.length = lenOf b (need : Int) := by
  intro r hr
  unfold rowsOf cutR at hr
  rw [Int.toNat_natCast] at hr
  obtain ⟨i, hi, rfl⟩ := List.mem_map.1 hr
  rw [List.mem_range] at hi
  have hp := (padded_len b hn).1
  rw [List.length_take, List.length_drop, hp]
  have : (i + 1) * lenOf b (need : Int) ≤ need * lenOf b (need : Int) := Nat.mul_le_mul_right _ (by omega)
  rw [Nat.add_mul, Nat.one_mul, Nat.mul_comm need] at this
  omega
theorem rowsOf_U8 {b : List Int} (hU : U8 b) (need : Int) : ∀ r ∈ rowsOf b need, U8 r := by
  intro r hr x hx
  unfold rowsOf cutR at hr
  obtain ⟨i, _, rfl⟩ := List.mem_map.1 hr
  rcases List.mem_append.1 (List.mem_of_mem_drop (List.mem_of_mem_take hx)) with h | h
  · exact hU x h
  · obtain ⟨_, rfl⟩ := List.mem_replicate.1 h; omega
theorem cut_flat (pd : List Int) (n : Nat) : ∀ k, k * n ≤ pd.length → (cutR pd n k).flatten = pd.take (k * n)
  | 0, _ => by simp [cutR]
  | k + 1, h => by
    have hk : k * n ≤ pd.length := by rw [Nat.add_mul] at h; omega
    have ih := cut_flat pd n k hk
    unfold cutR at ih ⊢
    rw [List.range_succ, List.map_append, List.flatten_append, ih, Nat.add_mul, Nat.one_mul, List.take_add]
    simp
theorem rows_back (b : List Int) {need : Nat} (hn : 1 ≤ need) : (rowsOf b (need : Int)).flatten.take b.length = b := by
  have hp := padded_len b hn
  unfold rowsOf
  rw [Int.toNat_natCast, cut_flat _ _ _ (by rw [hp.1, Nat.mul_comm]; exact Nat.le_refl _), List.take_take, Nat.mul_comm need, Nat.min_eq_left hp.2, List.take_left' rfl]
structure CutOK (w : Wn) (need n : Nat) (l : List S49) : Prop where
  v : validW w
  n1 : 1 ≤ need
  n2 : need ≤ 32
  n3 : n ≤ 32
  m2 : lenOf (enc (intsOf w)) (need : Int) ≤ 200
  eq : l = piecesOf w (enc (intsOf w)) (need : Int) (codeB (rowsOf (enc (intsOf w)) (need : Int)) (lenOf (enc (intsOf w)) (need : Int)) n)
theorem cut_f (w : Wn) (hU : U8 w.text) (need n : Int) : ∃ l e, piece_Cut.f 4000 w need n = some (l, e) ∧ ((e ≠ 0 ∧ l = []) ∨ (e = 0 ∧ ∃ nd nn : Nat, need = nd ∧ n = nn ∧ CutOK w nd nn l)) := by
  unfold piece_Cut.f
  by_cases hv : validW w
  case neg =>
    rw [bytes_bad hv, Option.bind_some, if_pos (.inl (by decide))]
    exact ⟨_, _, rfl, .inl ⟨by decide, rfl⟩⟩
  rw [bytes_ok hv hU, Option.bind_some]
  dsimp only
  by_cases hb : need < 1 ∨ need > 32 ∨ n < 0 ∨ n > 32
  · rw [if_pos (.inr hb)]
    exact ⟨_, _, rfl, .inl ⟨by decide, rfl⟩⟩
  have hbl := bytes_len hv hU
  rw [if_neg (by rintro (h | h); exact h rfl; exact hb h), if_pos (by omega)]
  obtain ⟨nd, rfl⟩ := Int.eq_ofNat_of_zero_le (show 0 ≤ need by omega)
  obtain ⟨nn, rfl⟩ := Int.eq_ofNat_of_zero_le (show 0 ≤ n by omega)
  by_cases hm : lenOf (enc (intsOf w)) (nd : Int) > 200
  · rw [if_pos hm]
    exact ⟨_, _, rfl, .inl ⟨by decide, rfl⟩⟩
  rw [if_neg hm, code_f (by rw [rowsOf_len]; omega) (by rw [rowsOf_len]; omega) (rowsOf_row _ (by omega)) (by omega) (rowsOf_U8 (enc_U8 _) _) nn (by omega) 4000 (by omega), Option.bind_some]
  dsimp only
  rw [if_neg (by simp), codeB_len, if_pos (by omega)]
  exact ⟨_, _, rfl, .inr ⟨rfl, nd, nn, rfl, rfl, hv, by omega, by omega, by omega, by omega, rfl⟩⟩
theorem CutOK.len {w : Wn} {need n : Nat} {l : List S49} (h : CutOK w need n l) : l.length = n := by
  rw [h.eq, piecesOf, List.length_map, List.length_range, codeB_len]
theorem CutOK.get {w : Wn} {need n : Nat} {l : List S49} (h : CutOK w need n l) {i : Nat} (hi : i < n) :
    l[i]? = some (pieceAt w (enc (intsOf w)) (need : Int) i (rowOf (base need) (rowsOf (enc (intsOf w)) (need : Int)) i (lenOf (enc (intsOf w)) (need : Int)))) := by
  rw [h.eq, piecesOf, List.getElem?_map, codeB_len, List.getElem?_range hi]
  simp only [Option.map_some]
  rw [List.getD_eq_getElem?_getD, codeB_get hi, rowsOf_len]
  rfl
theorem CutOK.mem {w : Wn} {need n : Nat} {l : List S49} (h : CutOK w need n l) {p : S49} (hp : p ∈ l) :
    ∃ i, i < n ∧ p = pieceAt w (enc (intsOf w)) (need : Int) i (rowOf (base need) (rowsOf (enc (intsOf w)) (need : Int)) i (lenOf (enc (intsOf w)) (need : Int))) := by
  obtain ⟨i, hi, rfl⟩ := List.getElem_of_mem hp
  rw [h.len] at hi
  have := h.get hi
  rw [List.getElem?_eq_getElem (by rw [h.len]; exact hi)] at this
  exact ⟨i, hi, Option.some.inj this⟩
theorem pieceAt_ok {w : Wn} {need n : Nat} {l : List S49} (h : CutOK w need n l) (hU : U8 w.text) {i : Nat} (hi : i < 32) {d : List Int} (hd : d.length = lenOf (enc (intsOf w)) (need : Int)) : okP (pieceAt w (enc (intsOf w)) (need : Int) i d) := by
  have hbl := bytes_len h.v hU
  have hs := sumOf_range (enc (intsOf w))
  have hp := (padded_len (enc (intsOf w)) h.n1).2
  have h1 := h.n1
  have h2 := h.n2
  have hm := h.m2
  have hle : lenOf (enc (intsOf w)) (need : Int) * need ≤ 200 * need := Nat.mul_le_mul_right _ hm
  obtain ⟨⟨v1, v2, v3, v4, v5, v6⟩, _⟩ := h.v
  refine ⟨⟨v1, v2, v3, v4, v5, v6⟩, ?_, ?_, ?_, ?_, ?_, ?_, hs.1, hs.2, ?_⟩
  all_goals dsimp only [pieceAt]
  · omega
  · omega
  · omega
  · omega
  · omega
  · omega
  · rw [hd, lenOf, Int.toNat_natCast, Int.natCast_ediv]
    congr 1
    omega
theorem gather_pieces {w : Wn} {need n : Nat} {ps l : List S49} (h : CutOK w need n ps) (hU : U8 w.text) (hl : ∀ p ∈ l, p ∈ ps) (h1 : 0 < l.length) (h2 : l.length ≤ 64) :
    ((idxOf (look l) 32).length < need → piece_Gather.f 400 l = some (zWn, 4)) ∧ (need ≤ (idxOf (look l) 32).length → piece_Gather.f 400 l = some (w, 0)) := by
  have hn1 := h.n1
  have hn2 := h.n2
  have hbU := enc_U8 (intsOf w)
  have hm : ∀ p ∈ l, ∃ i, i < n ∧ p = pieceAt w (enc (intsOf w)) (need : Int) i (rowOf (base need) (rowsOf (enc (intsOf w)) (need : Int)) i (lenOf (enc (intsOf w)) (need : Int))) := fun p hp => h.mem (hl p hp)
  have hok : ∀ p ∈ l, okP p := fun p hp => by
    obtain ⟨i, hi, rfl⟩ := hm p hp
    exact pieceAt_ok h hU (by have := h.n3; omega) (rowOf_len _ _ _ _)
  have hpU : ∀ p ∈ l, U8 p.f5 := fun p hp => by
    obtain ⟨i, hi, rfl⟩ := hm p hp
    exact rowOf_U8 (by have := h.n3; omega) (base_rng hn2)
  have hp0 : l.getD 0 z49 ∈ l := by
    rw [List.getD_eq_getElem?_getD, List.getElem?_eq_getElem h1, Option.getD_some]
    exact List.getElem_mem h1
  have hg := gather_f h1 h2 hok hpU
  generalize l.getD 0 z49 = p0 at hp0 hg
  obtain ⟨i0, hi0, e0⟩ := hm p0 hp0
  have hc : Cons p0 l := by
    refine ⟨fun p hp => ?_, fun p hp q hq hpq => ?_⟩
    · obtain ⟨i, hi, rfl⟩ := hm p hp
      rw [e0]
      exact wholeEq_iff.2 ⟨⟨rfl, rfl, rfl⟩, rfl, rfl, rfl⟩
    · obtain ⟨i, hi, rfl⟩ := hm p hp
      obtain ⟨j, hj, rfl⟩ := hm q hq
      have hpq' : (i : Int) = (j : Int) := hpq
      have : i = j := by omega
      rw [this]
  rw [hg.1 hc]
  have hlook : ∀ i ∈ idxOf (look l) 32, 0 ≤ i ∧ i < 32 ∧ look l i = some (rowOf (base need) (rowsOf (enc (intsOf w)) (need : Int)) i.toNat (lenOf (enc (intsOf w)) (need : Int))) := by
    intro i hi
    obtain ⟨j, hj, hs, rfl⟩ := idxOf_mem.1 hi
    obtain ⟨d, hd⟩ := Option.isSome_iff_exists.1 hs
    obtain ⟨p, hp, ep1, ep2⟩ := look_some hd
    obtain ⟨k, hk, rfl⟩ := hm p hp
    have ep1' : (k : Int) = (j : Int) := ep1
    have hkj : k = j := by omega
    rw [hd, ← ep2, hkj]
    exact ⟨by omega, by omega, rfl⟩
  have hdat : datOf (look l) 32 = (idxOf (look l) 32).map fun a => rowOf (base need) (rowsOf (enc (intsOf w)) (need : Int)) a.toNat (lenOf (enc (intsOf w)) (need : Int)) := by
    unfold datOf
    apply List.map_congr_left
    intro i hi
    rw [(hlook i hi).2.2]; rfl
  have hf2 : p0.f2.toNat = need := by rw [e0]; exact Int.toNat_natCast _
  have hf3 : p0.f3.toNat = (enc (intsOf w)).length := by rw [e0]; exact Int.toNat_natCast _
  have hf5 : p0.f5.length = lenOf (enc (intsOf w)) (need : Int) := by rw [e0]; exact rowOf_len _ _ _ _
  unfold gatherC
  dsimp only
  rw [hf2, hf3, hf5]
  unfold decM
  refine ⟨fun hlt => by rw [if_pos hlt]; rfl, fun hge => ?_⟩
  have hJ : ∀ a ∈ (idxOf (look l) 32).take need, 0 ≤ a ∧ a < 32 := fun a ha => by have := hlook a (List.mem_of_mem_take ha); exact ⟨this.1, this.2.1⟩
  have hmds := mds (m := lenOf (enc (intsOf w)) (need : Int)) (rowsOf_len (enc (intsOf w)) need) hn2 (rowsOf_U8 hbU _) hJ ((idxOf_dup (look l) 32).sublist (List.take_sublist _ _)) (by rw [List.length_take]; omega) (D := (datOf (look l) 32).take need) (by rw [hdat, List.map_take])
  have hfit : fitB need (idxOf (look l) 32) (datOf (look l) 32) (lenOf (enc (intsOf w)) (need : Int)) = true := by
    unfold fitB
    rw [decide_eq_true_iff]
    intro i hi hni
    have hri : rd (idxOf (look l) 32) (i : Int) = (idxOf (look l) 32)[i] := rd_get hi
    have hr := hlook _ (List.getElem_mem hi)
    rw [hmds _ (by rw [hri]; omega), rd2_get (by rw [hdat, List.length_map]; exact hi), hri]
    simp only [hdat, List.getElem_map]
  rw [if_neg (show ¬ (idxOf (look l) 32).length < need by omega), if_pos hfit, if_neg (by simp)]
  have hrows : rowsB need (idxOf (look l) 32) (datOf (look l) 32) (lenOf (enc (intsOf w)) (need : Int)) = rowsOf (enc (intsOf w)) (need : Int) := by
    unfold rowsB
    apply List.ext_getElem (by rw [List.length_map, List.length_range, rowsOf_len])
    intro j hj1 hj2
    rw [List.length_map, List.length_range] at hj1
    rw [List.getElem_map, List.getElem_range, hmds j (by omega), base_rows (rowsOf_len _ _) hn2 (rowsOf_U8 hbU _) (rowsOf_row _ hn1) hj1]
  rw [hrows, rows_back _ hn1]
  unfold endM
  have hsum : p0.f4 = sumOf (enc (intsOf w)) := by rw [e0]; rfl
  rw [if_neg (by rw [hsum]; simp), from_bytes h.v hU]
  dsimp only
  have hname : sameName w p0 := by rw [e0]; exact ⟨rfl, rfl, rfl⟩
  rw [if_neg (by rintro (h | h); exact h rfl; exact h hname)]
end Go.Proofs.YthiealhmcfdakaaM
end
section
set_option linter.unusedVariables false
set_option linter.unusedSimpArgs false
namespace Go.Proofs.YthiealhmcfdakaaM
open Go Go.RowKit Go.Proofs.YthiealhmcfdakaaH Go.Proofs.Ythiealhmcfdakaa.E Go.Proofs.YthiealhmcfdakaaW.PrintWords
theorem mixed {w v : Wn} {need other n : Nat} {a b : List S49} (ha : CutOK w need n a) (hb : CutOK v other n b) (hU : U8 w.text) (hV : U8 v.text) {i j : Nat} (hi : i < n) (hj : j < n) :
    (wholeEq (a.getD i z49) (b.getD j z49) = false → piece_Gather.f 400 (a ++ [b.getD j z49]) = some (zWn, 18)) ∧
    (wholeEq (a.getD i z49) (b.getD j z49) = true → ∃ g e, piece_Gather.f 400 (a ++ [b.getD j z49]) = some (g, e) ∧ (e = 0 → g = w)) := by
  have hn3 := ha.n3
  have hq : b.getD j z49 = pieceAt v (enc (intsOf v)) (other : Int) j (rowOf (base other) (rowsOf (enc (intsOf v)) (other : Int)) j (lenOf (enc (intsOf v)) (other : Int))) := by
    rw [List.getD_eq_getElem?_getD, hb.get hj, Option.getD_some]
  have hp : ∀ k, k < n → a.getD k z49 = pieceAt w (enc (intsOf w)) (need : Int) k (rowOf (base need) (rowsOf (enc (intsOf w)) (need : Int)) k (lenOf (enc (intsOf w)) (need : Int))) := by
    intro k hk
    rw [List.getD_eq_getElem?_getD, ha.get hk, Option.getD_some]
  have hqok : okP (b.getD j z49) := by
    rw [hq]; exact pieceAt_ok hb hV (by omega) (rowOf_len _ _ _ _)
  have hqU : U8 (b.getD j z49).f5 := by
    rw [hq]; exact rowOf_U8 (by omega) (base_rng hb.n2)
  have haj := hp j hj
  have hai := hp i hi
  have hja : a.getD j z49 ∈ a := by
    rw [List.getD_eq_getElem?_getD, List.getElem?_eq_getElem (by rw [ha.len]; exact hj), Option.getD_some]
    exact List.getElem_mem _
  have hia : a.getD i z49 ∈ a := by
    rw [List.getD_eq_getElem?_getD, List.getElem?_eq_getElem (by rw [ha.len]; exact hi), Option.getD_some]
    exact List.getElem_mem _
  have hq1 : (b.getD j z49).f1 = (j : Int) := by rw [hq]; rfl
  obtain ⟨q, hqd⟩ : ∃ q, q = b.getD j z49 := ⟨_, rfl⟩
  rw [← hqd] at hqok hqU hq1 ⊢
  clear hq hqd
  have hok : ∀ p ∈ a ++ [q], okP p := by
    intro p hpm
    rcases List.mem_append.1 hpm with h | h
    · obtain ⟨k, hk, rfl⟩ := ha.mem h
      exact pieceAt_ok ha hU (by omega) (rowOf_len _ _ _ _)
    · rw [List.mem_singleton.1 h]; exact hqok
  have hpU : ∀ p ∈ a ++ [q], U8 p.f5 := by
    intro p hpm
    rcases List.mem_append.1 hpm with h | h
    · obtain ⟨k, hk, rfl⟩ := ha.mem h
      exact rowOf_U8 (by omega) (base_rng ha.n2)
    · rw [List.mem_singleton.1 h]; exact hqU
  have hlen : (a ++ [q]).length = n + 1 := by rw [List.length_append, ha.len]; rfl
  have hgf := gather_f (l := a ++ [q]) (by omega) (by omega) hok hpU
  have h0 : (a ++ [q]).getD 0 z49 = a.getD 0 z49 := by
    rw [List.getD_eq_getElem?_getD, List.getElem?_append_left (by rw [ha.len]; omega), ← List.getD_eq_getElem?_getD]
  rw [h0, hp 0 (by omega)] at hgf
  have hwe : wholeEq (a.getD i z49) q = wholeEq q (pieceAt w (enc (intsOf w)) (need : Int) 0 (rowOf (base need) (rowsOf (enc (intsOf w)) (need : Int)) 0 (lenOf (enc (intsOf w)) (need : Int)))) := by
    rw [hai, Bool.eq_iff_iff, wholeEq_iff, wholeEq_iff]
    simp only [pieceAt]
    constructor
    · rintro ⟨⟨h1, h2, h3⟩, h4, h5, h6⟩; exact ⟨⟨h1.symm, h2.symm, h3.symm⟩, h4.symm, h5.symm, h6.symm⟩
    · rintro ⟨⟨h1, h2, h3⟩, h4, h5, h6⟩; exact ⟨⟨h1.symm, h2.symm, h3.symm⟩, h4.symm, h5.symm, h6.symm⟩
  refine ⟨fun hf => hgf.2 (fun hc => ?_), fun ht => ?_⟩
  · have := hc.1 q (List.mem_append_right _ (List.mem_singleton.2 rfl))
    rw [← hwe, hf] at this
    cases this
  · by_cases hc : C2 (a ++ [q])
    · have h5 : q.f5 = (a.getD j z49).f5 := hc q (List.mem_append_right _ (List.mem_singleton.2 rfl)) _ (List.mem_append_left _ hja) (by rw [hq1, haj]; rfl)
      have hqa : q = a.getD j z49 := by
        rw [hwe, wholeEq_iff] at ht
        rw [haj] at h5 ⊢
        obtain ⟨⟨q0, q1, q2⟩, q3, q4, q5, q6, q7⟩ := q
        simp only [pieceAt] at ht h5 hq1 ⊢
        obtain ⟨⟨h1, h2, h3⟩, h4, h6, h7⟩ := ht
        subst h1 h2 h3 h4 h6 h7 h5 hq1
        rfl
      have hmem : ∀ p ∈ a ++ [q], p ∈ a := by
        intro p hpm
        rcases List.mem_append.1 hpm with h | h
        · exact h
        · rw [List.mem_singleton.1 h, hqa]; exact hja
      have hgp := gather_pieces ha hU hmem (by omega) (by omega)
      by_cases hlt : (idxOf (look (a ++ [q])) 32).length < need
      · exact ⟨_, _, hgp.1 hlt, fun e => absurd e (by decide)⟩
      · exact ⟨_, _, hgp.2 (by omega), fun _ => rfl⟩
    · exact ⟨_, _, hgf.2 (fun h => hc h.2), fun e => absurd e (by decide)⟩
end Go.Proofs.YthiealhmcfdakaaM
end
section
set_option linter.unusedVariables false
set_option linter.unusedSimpArgs false
namespace Go.Proofs.YthiealhmcfdakaaH
open Go Go.RowKit Go.Proofs.YthiealhmcfdakaaW.PrintWords Go.Proofs.YthiealhmcfdakaaW.PrintLast Go.Proofs.YthiealhmcfdakaaW.PrintMore Go.Proofs.Ythiealhmcfdakaa.E
def rawsOf (l : List S49) (sv : Nat → Value) : List (List Value) := (List.range l.length).map fun m => rawPiece (l.getD m z49) (sv m)
theorem rawsOf_len (l : List S49) (sv : Nat → Value) : (rawsOf l sv).length = l.length := by rw [rawsOf, List.length_map, List.length_range]
theorem rawsOf_get {l : List S49} {sv : Nat → Value} {m : Nat} (h : m < l.length) : (rawsOf l sv)[m]? = some (rawPiece (l.getD m z49) (sv m)) := by
  rw [rawsOf, List.getElem?_map, List.getElem?_range h]
  rfl
theorem rawPiece_ok {p : S49} {A : Option Addr} {c : Nat} : (rawPiece p (.slice A p.f5.length c)).length = 8 ∧ ∀ u ∈ rawPiece p (.slice A p.f5.length c), u.oneCell' = true := ⟨rfl, by simp [rawPiece, Value.oneCell']⟩
theorem raw_C {w : World} {A : Option Addr} {l : List S49} (h : Kd.C k49 w A l.length l) : ∃ sv : Nat → Value, Kd.C (rawKd 8) w A l.length (rawsOf l sv) ∧ ∀ m, m < l.length → ∃ A7 c7, sv m = .slice A7 (l.getD m z49).f5.length c7 ∧ (l.getD m z49).f5.length ≤ c7 ∧ (Kd.int .u8).C w A7 (l.getD m z49).f5.length (l.getD m z49).f5 ∧
    ∃ ad, A = some ad ∧ ∀ j v, (rawPiece (l.getD m z49) (sv m))[j]? = some v → w.cell? (ad.add (m * 8 + j)) = some v := by
  obtain ⟨sv, hsv⟩ := raws_of h
  refine ⟨sv, ⟨rawsOf_len l sv, h.2.1, fun hn => ?_⟩, hsv⟩
  obtain ⟨ad, e, _⟩ := h.2.2 hn
  refine ⟨ad, e, fun j x hj => ?_⟩
  have hjl : j < l.length := by
    have := (List.getElem?_eq_some_iff.1 hj).1
    rwa [rawsOf_len] at this
  rw [rawsOf_get hjl] at hj
  obtain rfl := Option.some.inj hj
  obtain ⟨A7, c7, hs, l7, g7, ad', e', hcell⟩ := hsv j hjl
  rw [e] at e'
  obtain rfl := Option.some.inj e'
  refine ⟨rawPiece (l.getD j z49) (sv j), by rw [hs]; exact rawPiece_ok.1, ⟨rfl, by rw [hs]; exact rawPiece_ok.1, by rw [hs]; exact rawPiece_ok.2⟩, hcell⟩
theorem rel_set {α β : Type} {xs : List α} {ys : List β} {R : α → β → Prop} (h : ∀ (j : Nat) a b, xs[j]? = some a → ys[j]? = some b → R a b) (i : Nat) {a : α} {b : β} (hR : R a b) : ∀ (j : Nat) a' b', (xs.set i a)[j]? = some a' → (ys.set i b)[j]? = some b' → R a' b' := by
  intro j a' b' ha hb
  by_cases e : i = j
  · subst e
    have h1 : i < xs.length := by have := (List.getElem?_eq_some_iff.1 ha).1; rwa [List.length_set] at this
    have h2 : i < ys.length := by have := (List.getElem?_eq_some_iff.1 hb).1; rwa [List.length_set] at this
    rw [List.getElem?_set_self h1] at ha
    rw [List.getElem?_set_self h2] at hb
    obtain rfl := Option.some.inj ha
    obtain rfl := Option.some.inj hb
    exact hR
  · rw [List.getElem?_set_ne e] at ha hb
    exact h j a' b' ha hb
section
variable {P : Program} {ops : Array Oper} {o : Oper} {a : Act} {Q : Exit → Act → World → Prop} {Kc : Act → World → Prop}
theorem raw_store_step {N : Option Tmp} {w0 W : World} (base : Nat) (hw : Region.wanted o (yielded ops a.tmps) = true) (hN : o.dst = none) (hNN : N = none) (t : TypeId) (p x : Operand) (ho : o.op = .store t p x) (e : TypeId) {g n cap : Nat} {ad : Addr} (i : Int) (xs : List (List Value)) (u : Value) (seg : List Value)
    (haddr : a.eval p = .pointer (some ad)) (hx : a.eval x = u) (hadr : ad = ⟨g, i.toNat * 8, none⟩) (hu : u.cells.toList = seg) (ht : (P.info? t).map (·.size) = some 8) (hsl : seg.length = 8) (h1 : ∀ q ∈ seg, q.oneCell' = true)
    (HO : (rawKd 8).R e W base (fun _ => True) (.slice (some ⟨g, 0, none⟩) n cap) xs) (h0 : 0 ≤ i) (hi : i < n) (HB : Below base w0 W)
    (h : ∀ w1, (rawKd 8).R e w1 base (fun _ => True) (.slice (some ⟨g, 0, none⟩) n cap) (xs.set i.toNat seg) → Below base w0 w1 → Kc a w1) : if Region.wanted o (yielded ops a.tmps) = true then Oper.wp P o a W Kc Q else Kc (a.put N undef) W := by
  subst hadr
  subst hNN
  rw [if_pos hw]
  have hnx : n = xs.length := (Kd.R_reads' HO).1
  obtain ⟨ad, c, e1, hcl, hK, hcc0⟩ := Kd.C_get (Kd.R_reads' HO).2.2 [] i h0 (by omega)
  obtain rfl := Option.some.inj e1
  have hcc : ∀ j u, c[j]? = some u → W.cell? ⟨g, i.toNat * 8 + j, none⟩ = some u := by
    intro j u hj
    have := hcc0 j u hj
    have e2 : (⟨g, 0, none⟩ : Addr).add (i.toNat * 8 + j) = ⟨g, i.toNat * 8 + j, none⟩ := by simp [Addr.add]; omega
    rw [← e2]
    exact this
  have hc8 : c.length = 8 := hcl
  obtain ⟨hrow, hg⟩ := Kd.R_seg (d := rawKd 8) (okp := fun _ => False) HO i h0 hi (c := c) (seg := seg) (j := 0) hcl hcc (by rw [hsl]; exact Nat.le_refl _) (x' := seg) (by
    have hd : List.drop (0 + seg.length) c = [] := List.drop_eq_nil_of_le (by omega)
    rw [hd, List.take_zero, List.nil_append, List.append_nil]
    exact ⟨rfl, hsl, h1⟩) (fun _ hk => hk.elim)
  have hbg : base ≤ g := Kd.R_base HO g (by simp [Value.ownBlock])
  obtain ⟨_, inner, hown, hr⟩ := HO
  have hil : i.toNat < n := by omega
  have hB : Below base w0 (W.setCells g (i.toNat * 8 + 0) seg) := HB.trans ⟨hg.os, hg.tape, hg.output, hg.size, fun k hk => by
    have hlt : k < W.heap.size ∨ W.heap.size ≤ k := Nat.lt_or_ge _ _
    rcases hlt with hlt | hge
    · exact hg.block k hlt (fun he => by injection he with he; omega)
    · exact setCells_far seg _ k (by omega)⟩
  have hrun : (Instr.storeAt t (.pointer (some ⟨g, i.toNat * 8 + 0, none⟩)) u).run P W = .ok () (W.setCells g (i.toNat * 8 + 0) seg) := by
    rcases hown.2 with ⟨hv, _⟩ | ⟨g', cap', cur, hv, hb, hh, hnc, hcm, hcs, _⟩
    · cases hv
    injection hv with ha _ hc
    injection ha with ha
    injection ha with hg'
    subst hg'; subst hc
    refine run_store_run t u seg hh hu (by rw [ht, hsl]) ?_ h1
    have h2 : i.toNat * 8 + 8 ≤ n * 8 := by omega
    have h3 : n * 8 ≤ cap * 8 := Nat.mul_le_mul_right _ (by omega)
    have h4 : (rawKd 8).sz = 8 := rfl
    rw [h4] at hcs
    omega
  unfold Oper.wp execOp
  simp only [Nat.add_zero] at hrun hrow hB
  simp only [ho, haddr, hx, Sem.run_bind, Sem.run_pure, Result.andThen_ok, hrun]
  show Kc (a.put o.dst undef) _
  rw [hN]
  exact h _ hrow hB
end
end Go.Proofs.YthiealhmcfdakaaH
end
section
set_option linter.unusedVariables false
set_option linter.unusedSimpArgs false
namespace Go.Proofs.YthiealhmcfdakaaH
open Go Go.RowKit Go.Proofs.YthiealhmcfdakaaW.PrintWords Go.Proofs.YthiealhmcfdakaaW.PrintLast Go.Proofs.YthiealhmcfdakaaW.PrintMore Go.Proofs.Ythiealhmcfdakaa.E Go.Proofs.YthiealhmcfdakaaM
theorem pcut_calls (p : Wn) (A : Option Addr) (c : Nat) (need n : Int) (l : List S49) (e : Int) (w : World) (hr : Kd.C (Kd.int .u8) w A p.text.length p.text) (hc : p.text.length ≤ c) (h : piece_Cut.f 4000 p need n = some (l, e)) :
    Calls Try.prog 18 #[.agg #[.int .i64 p.st, .int .i64 p.ki, .int .i64 p.nu, .int .i64 p.iss, .int .i64 p.unt, .int .i64 p.xlo, .int .i64 p.xhi, .int .i64 p.ylo, .int .i64 p.yhi, .int .i64 p.pri, .bool p.wd, .slice A p.text.length c], .int .i64 need, .int .i64 n] w fun e' w' => ∃ A' c', e' = .returned (.tuple #[.slice A' l.length c', .int .i64 e]) ∧ l.length ≤ c' ∧ Kd.C k49 w' A' l.length l ∧ Below w.heap.size w w' :=
  piece_Cut.calls 4000 p A c need n l e w hr hc h
theorem pgather_calls (A : Option Addr) (c : Nat) (l : List S49) (p : Wn) (e : Int) (w : World) (hr : Kd.C k49 w A l.length l) (hc : l.length ≤ c) (h : piece_Gather.f 400 l = some (p, e)) :
    Calls Try.prog 20 #[.slice A l.length c] w fun e' w' => ∃ A' c', e' = .returned (.tuple #[.agg #[.int .i64 p.st, .int .i64 p.ki, .int .i64 p.nu, .int .i64 p.iss, .int .i64 p.unt, .int .i64 p.xlo, .int .i64 p.xhi, .int .i64 p.ylo, .int .i64 p.yhi, .int .i64 p.pri, .bool p.wd, .slice A' p.text.length c'], .int .i64 e]) ∧ p.text.length ≤ c' ∧ Kd.C (Kd.int .u8) w' A' p.text.length p.text ∧ Below w.heap.size w w' := by
  refine (piece_Gather.calls 400 A c l p e w hr hc h).mono ?_
  rintro e' w' ⟨v, rfl, hR, hb⟩
  obtain ⟨A', c', rfl, hc', hC'⟩ := Kd.R_reads hR
  exact ⟨A', c', rfl, hc', hC', hb⟩
theorem same_t (a b : Wn) (Aa : Option Addr) (ca : Nat) (Ab : Option Addr) (cb : Nat) (w : World) (hra : Kd.C (Kd.int .u8) w Aa a.text.length a.text) (hca : a.text.length ≤ ca) (hrb : Kd.C (Kd.int .u8) w Ab b.text.length b.text) (hcb : b.text.length ≤ cb) (hl : a.text.length ≤ 1000000000) (h : a = b) :
    Calls Try.prog 14 #[.agg #[.int .i64 a.st, .int .i64 a.ki, .int .i64 a.nu, .int .i64 a.iss, .int .i64 a.unt, .int .i64 a.xlo, .int .i64 a.xhi, .int .i64 a.ylo, .int .i64 a.yhi, .int .i64 a.pri, .bool a.wd, .slice Aa a.text.length ca], .agg #[.int .i64 b.st, .int .i64 b.ki, .int .i64 b.nu, .int .i64 b.iss, .int .i64 b.unt, .int .i64 b.xlo, .int .i64 b.xhi, .int .i64 b.ylo, .int .i64 b.yhi, .int .i64 b.pri, .bool b.wd, .slice Ab b.text.length cb]] w fun e w' => e = .returned (.bool true) ∧ Below w.heap.size w w' := by
  have := same_calls a b Aa ca Ab cb w hra hca hrb hcb hl
  rw [decide_eq_true h] at this
  exact this
theorem same_z (b : Wn) (Ab : Option Addr) (cb : Nat) (w : World) (hrb : Kd.C (Kd.int .u8) w Ab b.text.length b.text) (hcb : b.text.length ≤ cb) (h : b = zWn) :
    Calls Try.prog 14 #[.agg #[.int .i64 b.st, .int .i64 b.ki, .int .i64 b.nu, .int .i64 b.iss, .int .i64 b.unt, .int .i64 b.xlo, .int .i64 b.xhi, .int .i64 b.ylo, .int .i64 b.yhi, .int .i64 b.pri, .bool b.wd, .slice Ab b.text.length cb], .agg #[.int .i64 0, .int .i64 0, .int .i64 0, .int .i64 0, .int .i64 0, .int .i64 0, .int .i64 0, .int .i64 0, .int .i64 0, .int .i64 0, .bool false, .slice none 0 0]] w fun e w' => e = .returned (.bool true) ∧ Below w.heap.size w w' := by
  have := same_calls b zWn Ab cb none 0 w hrb hcb (Kd.C_nil _ _) (Nat.le_refl _) (by rw [h]; decide)
  rw [decide_eq_true h] at this
  exact this
theorem valid_t (p : Wn) (A : Option Addr) (c : Nat) (w : World) (hr : Kd.C (Kd.int .u8) w A p.text.length p.text) (hc : p.text.length ≤ c) (h : validW p) :
    Calls Try.prog 17 #[.agg #[.int .i64 p.st, .int .i64 p.ki, .int .i64 p.nu, .int .i64 p.iss, .int .i64 p.unt, .int .i64 p.xlo, .int .i64 p.xhi, .int .i64 p.ylo, .int .i64 p.yhi, .int .i64 p.pri, .bool p.wd, .slice A p.text.length c]] w fun e' w' => e' = .returned (.bool true) ∧ Below w.heap.size w w' :=
  piece_Valid.calls p.st p.ki p.nu p.iss p.unt p.xlo p.xhi p.ylo p.yhi p.pri p.wd A c p.text true w hr hc (congrArg some (decide_eq_true h))
end Go.Proofs.YthiealhmcfdakaaH
end
section
set_option linter.unusedVariables false
set_option linter.unusedSimpArgs false
namespace Go.Proofs.YthiealhmcfdakaaH
open Go Go.RowKit Go.Proofs.YthiealhmcfdakaaW.PrintWords Go.Proofs.YthiealhmcfdakaaW.PrintLast Go.Proofs.YthiealhmcfdakaaW.PrintMore Go.Proofs.Ythiealhmcfdakaa.E Go.Proofs.YthiealhmcfdakaaM
section
variable {P : Program} {ops : Array Oper} {Q : Exit → Act → World → Prop} {md : Region.Mode} {S : World → Prop} {ds : List Nat}
theorem threeS {i j k : Nat} {Ni Nj Nk : Option Tmp} {oi oj ok : Oper} {fuel : Nat} {l : Array Bool} {a : Act} {w : World} (hi : ops[i]? = some oi) (hj : ops[j]? = some oj) (hk : ops[k]? = some ok) (hNi : oi.dst = Ni) (hNj : oj.dst = Nj) (hNk : ok.dst = Nk)
    (hc : (Region.ready md ops l == [i, j, k]) = true) (hdi : i ∉ ds) (hdj : j ∉ ds) (hdk : k ∉ ds)
    (h1 : ∀ K : Act → World → Prop, Shut (∀ a' w', S w' → (S w' → wpAnyLast P md ops Q S ds fuel (l.setIfInBounds i true) a' w') → K a' w') → if Region.wanted oi (yielded ops a.tmps) = true then Oper.wp P oi a w K Q else K (a.put Ni undef) w)
    (h2 : ∀ K : Act → World → Prop, Shut (∀ a' w', S w' → (S w' → wpAnyLast P md ops Q S ds fuel (l.setIfInBounds j true) a' w') → K a' w') → if Region.wanted oj (yielded ops a.tmps) = true then Oper.wp P oj a w K Q else K (a.put Nj undef) w)
    (h3 : ∀ K : Act → World → Prop, Shut (∀ a' w', S w' → (S w' → wpAnyLast P md ops Q S ds fuel (l.setIfInBounds k true) a' w') → K a' w') → if Region.wanted ok (yielded ops a.tmps) = true then Oper.wp P ok a w K Q else K (a.put Nk undef) w) :
    wpAnyLast P md ops Q S ds (fuel + 1) l a w := by
  subst hNi
  subst hNj
  subst hNk
  exact wpAnyLast_ready (by simpa using hc) (by simp) (AllReadyL.cons hi hdi (fun K hK => h1 K hK) (AllReadyL.cons hj hdj (fun K hK => h2 K hK) (AllReadyL.cons hk hdk (fun K hK => h3 K hK) AllReadyL.nil)))
end
theorem mixed_C {w w' : World} {A A' : Option Addr} {l : List S49} {sv : Nat → Value} {q : S49} {Aq : Option Addr} {cq : Nat} (hsv : ∀ m, m < l.length → ∃ A7 c7, sv m = .slice A7 (l.getD m z49).f5.length c7 ∧ (l.getD m z49).f5.length ≤ c7 ∧ (Kd.int .u8).C w A7 (l.getD m z49).f5.length (l.getD m z49).f5 ∧ ∃ ad, A = some ad ∧ ∀ j v, (rawPiece (l.getD m z49) (sv m))[j]? = some v → w.cell? (ad.add (m * 8 + j)) = some v)
    (lq : q.f5.length ≤ cq) (gq : (Kd.int .u8).C w Aq q.f5.length q.f5) (hb : Below w.heap.size w w') {n : Nat} (hn : n = l.length + 1) (h : Kd.C (rawKd 8) w' A' n (rawsOf l sv ++ [rawPiece q (.slice Aq q.f5.length cq)])) : Kd.C k49 w' A' n (l ++ [q]) := by
  refine C_of_raw (d := k49) h (by rw [List.length_append, List.length_append, rawsOf_len]; rfl) (fun j p x hj hx => ?_)
  by_cases hjl : j < l.length
  · rw [List.getElem?_append_left hjl] at hj
    rw [List.getElem?_append_left (by rw [rawsOf_len]; exact hjl), rawsOf_get hjl] at hx
    obtain rfl := Option.some.inj hx
    obtain ⟨A7, c7, hs, l7, g7, _⟩ := hsv j hjl
    rw [hs]
    have h := k49_mk w' _ l7 (Kd.C_below g7 hb)
    rw [List.getD_eq_getElem?_getD, hj, Option.getD_some] at h ⊢
    exact h
  · rw [List.getElem?_append_right (by omega)] at hj
    rw [List.getElem?_append_right (by rw [rawsOf_len]; omega), rawsOf_len] at hx
    have hj0 : j - l.length = 0 := by
      have := (List.getElem?_eq_some_iff.1 hj).1
      simp at this
      omega
    rw [hj0] at hj hx
    obtain rfl := Option.some.inj hj
    obtain rfl := Option.some.inj hx
    exact k49_mk w' _ lq (Kd.C_below gq hb)
theorem row_one {W : World} {b : Nat} {cs : List Value} {e : TypeId} (h : W.heap[b]? = some (.cells cs.toArray e (0, 0))) (h8 : cs.length = 8) (h1 : ∀ u ∈ cs, u.oneCell' = true) : ReadsRow ((rawKd 8).K W) 8 W (some ⟨b, 0, none⟩) 1 [cs] := by
  refine ⟨rfl, by decide, fun _ => ⟨_, rfl, fun j x hj => ?_⟩⟩
  have hj0 : j = 0 := by
    have := (List.getElem?_eq_some_iff.1 hj).1
    simp at this
    omega
  subst hj0
  obtain rfl := Option.some.inj hj
  refine ⟨cs, h8, ⟨rfl, h8, h1⟩, fun i u hu => ?_⟩
  have hi : i < 8 := by rw [← h8]; exact (List.getElem?_eq_some_iff.1 hu).1
  have e : (⟨b, 0, none⟩ : Addr).add (0 * 8 + i) = ⟨b, i, none⟩ := by by_cases hk : i = 0 <;> simp [Addr.add, hk]
  rw [e]
  exact (blk_cell h i).trans (by simpa using hu)
set_option maxHeartbeats 8000000 in
set_option maxRecDepth 100000 in
theorem mixed_walk (p : Wn) (Ap : Option Addr) (cp : Nat) (q : Wn) (Aq : Option Addr) (cq : Nat) (a2 a3 a4 x y : Int) (w : World) (hrp : Kd.C (Kd.int .u8) w Ap p.text.length p.text) (hcp : p.text.length ≤ cp) (hrq : Kd.C (Kd.int .u8) w Aq q.text.length q.text) (hcq : q.text.length ≤ cq) (hUp : U8 p.text) (hUq : U8 q.text) (hx0 : 0 ≤ x) (hx1 : x ≤ 255) (hy0 : 0 ≤ y) (hy1 : y ≤ 255) :
    Calls Try.prog 7 #[vWn p (.slice Ap p.text.length cp), vWn q (.slice Aq q.text.length cq), .int .i64 a2, .int .i64 a3, .int .i64 a4, .int .u8 x, .int .u8 y] w fun e w' => e = .returned (.bool true) ∧ Below w.heap.size w w' := by
  have hu30 := Try.underlying30
  have hu49 := Try.underlying49
  have hi30 : (Try.prog.info? 30).map (·.size) = some 12 := by kernel_rfl
  have hi49 : (Try.prog.info? 49).map (·.size) = some 8 := by kernel_rfl
  have hmix : Try.prog.follows .mixedOrders = true := by kernel_rfl
  have HRP := Aside0.mk hrp
  have HRQ := Aside0.mk hrq
  have HUP := Aside0.mk hUp
  have HUQ := Aside0.mk hUq
  clear hrp hrq hUp hUq
  dsimp only [vWn]
  go_enter Try.func7, Try.ntmps7
  go_wp2_with (first | ((with_reducible refine gate_dst (N := 7) rfl ?_); (try (refine gate_guard (by rfl) ?_; dsimp only)); refine box_event ?hg (N := 7) ?hd (cs := #[.int .i64 p.st, .int .i64 p.ki, .int .i64 p.nu, .int .i64 p.iss, .int .i64 p.unt, .int .i64 p.xlo, .int .i64 p.xhi, .int .i64 p.ylo, .int .i64 p.yhi, .int .i64 p.pri, .bool p.wd, .slice Ap p.text.length cp]) (t := 30) ?hr ?_; (case hd => rfl); (case hg => rfl); (case hr => first | (go_simp; done) | (go_simp; rfl)); intro gp hg w0 hbox hbgp; have HP := Aside0.mk hbox; clear hbox hg) | ((with_reducible refine gate_dst (N := 8) rfl ?_); (try (refine gate_guard (by rfl) ?_; dsimp only)); refine box_event ?hg (N := 8) ?hd (cs := #[.int .i64 q.st, .int .i64 q.ki, .int .i64 q.nu, .int .i64 q.iss, .int .i64 q.unt, .int .i64 q.xlo, .int .i64 q.xhi, .int .i64 q.ylo, .int .i64 q.yhi, .int .i64 q.pri, .bool q.wd, .slice Aq q.text.length cq]) (t := 30) ?hr ?_; (case hd => rfl); (case hg => rfl); (case hr => first | (go_simp; done) | (go_simp; rfl)); intro gq hg w1 hbox hbgq; have HQ := Aside0.mk hbox; replace HP := Aside0.mk ((hbgq.block _ (blk_lt HP.out)).trans HP.out); clear hbox hg))
  (with_reducible refine (head_calls _).mono ?_)
  rintro e w2 ⟨rfl, hb2⟩
  have hB2 : Below w.heap.size w w2 := (hbgp.trans (hbgq.mono hbgp.size)).trans (hb2.mono (hbgp.trans (hbgq.mono hbgp.size)).size)
  replace HP := Aside0.mk ((hb2.block _ (blk_lt HP.out)).trans HP.out)
  replace HQ := Aside0.mk ((hb2.block _ (blk_lt HQ.out)).trans HQ.out)
  clear hbgp hbgq hb2
  by_cases q_ : 8 < a2
  · go_wp2_with fail
    go_ret
    exact ⟨rfl, hB2⟩
  replace q_ := Int.not_lt.1 q_
  have q0 := q_
  clear q_
  by_cases q_ : 8 < a3
  · go_wp2_with fail
    go_ret
    exact ⟨rfl, hB2⟩
  replace q_ := Int.not_lt.1 q_
  have q1 := q_
  clear q_
  by_cases q_ : 16 < a4
  · go_wp2_with fail
    go_ret
    exact ⟨rfl, hB2⟩
  replace q_ := Int.not_lt.1 q_
  have q2 := q_
  clear q_
  have x0 : w2.cell? ⟨gp, 0, none⟩ = some (.int .i64 p.st) := (blk_cell HP.out 0).trans rfl
  have x1 : w2.cell? ⟨gp, 1, none⟩ = some (.int .i64 p.ki) := (blk_cell HP.out 1).trans rfl
  have x2 : w2.cell? ⟨gp, 2, none⟩ = some (.int .i64 p.nu) := (blk_cell HP.out 2).trans rfl
  have x3 : w2.cell? ⟨gp, 3, none⟩ = some (.int .i64 p.iss) := (blk_cell HP.out 3).trans rfl
  have x4 : w2.cell? ⟨gp, 4, none⟩ = some (.int .i64 p.unt) := (blk_cell HP.out 4).trans rfl
  have x5 : w2.cell? ⟨gp, 5, none⟩ = some (.int .i64 p.xlo) := (blk_cell HP.out 5).trans rfl
  have x6 : w2.cell? ⟨gp, 6, none⟩ = some (.int .i64 p.xhi) := (blk_cell HP.out 6).trans rfl
  have x7 : w2.cell? ⟨gp, 7, none⟩ = some (.int .i64 p.ylo) := (blk_cell HP.out 7).trans rfl
  have x8 : w2.cell? ⟨gp, 8, none⟩ = some (.int .i64 p.yhi) := (blk_cell HP.out 8).trans rfl
  have x9 : w2.cell? ⟨gp, 9, none⟩ = some (.int .i64 p.pri) := (blk_cell HP.out 9).trans rfl
  have x10 : w2.cell? ⟨gp, 10, none⟩ = some (.bool p.wd) := (blk_cell HP.out 10).trans rfl
  have x11 : w2.cell? ⟨gp, 11, none⟩ = some (.slice Ap p.text.length cp) := (blk_cell HP.out 11).trans rfl
  obtain ⟨l, er, hcut, hcase⟩ := cut_f p HUP.out a2 a4
  have hcall := pcut_calls p Ap cp a2 a4 l er w2 (Kd.C_below HRP.out hB2) hcp hcut
  clear hcut
  go_wp2_with fail
  (with_reducible refine hcall.mono ?_)
  clear hcall
  rintro e w3 ⟨A3, c3, rfl, hc3, hC3, hb3⟩
  have hB3 := hB2.trans (hb3.mono hB2.size)
  replace HP := Aside0.mk ((hb3.block _ (blk_lt HP.out)).trans HP.out)
  replace HQ := Aside0.mk ((hb3.block _ (blk_lt HQ.out)).trans HQ.out)
  clear hb3 hB2
  clear x0 x1 x2 x3 x4 x5 x6 x7 x8 x9 x10 x11
  have x0 : w3.cell? ⟨gq, 0, none⟩ = some (.int .i64 q.st) := (blk_cell HQ.out 0).trans rfl
  have x1 : w3.cell? ⟨gq, 1, none⟩ = some (.int .i64 q.ki) := (blk_cell HQ.out 1).trans rfl
  have x2 : w3.cell? ⟨gq, 2, none⟩ = some (.int .i64 q.nu) := (blk_cell HQ.out 2).trans rfl
  have x3 : w3.cell? ⟨gq, 3, none⟩ = some (.int .i64 q.iss) := (blk_cell HQ.out 3).trans rfl
  have x4 : w3.cell? ⟨gq, 4, none⟩ = some (.int .i64 q.unt) := (blk_cell HQ.out 4).trans rfl
  have x5 : w3.cell? ⟨gq, 5, none⟩ = some (.int .i64 q.xlo) := (blk_cell HQ.out 5).trans rfl
  have x6 : w3.cell? ⟨gq, 6, none⟩ = some (.int .i64 q.xhi) := (blk_cell HQ.out 6).trans rfl
  have x7 : w3.cell? ⟨gq, 7, none⟩ = some (.int .i64 q.ylo) := (blk_cell HQ.out 7).trans rfl
  have x8 : w3.cell? ⟨gq, 8, none⟩ = some (.int .i64 q.yhi) := (blk_cell HQ.out 8).trans rfl
  have x9 : w3.cell? ⟨gq, 9, none⟩ = some (.int .i64 q.pri) := (blk_cell HQ.out 9).trans rfl
  have x10 : w3.cell? ⟨gq, 10, none⟩ = some (.bool q.wd) := (blk_cell HQ.out 10).trans rfl
  have x11 : w3.cell? ⟨gq, 11, none⟩ = some (.slice Aq q.text.length cq) := (blk_cell HQ.out 11).trans rfl
  obtain ⟨b, er2, hcut, hcase2⟩ := cut_f q HUQ.out a3 a4
  have hcall := pcut_calls q Aq cq a3 a4 b er2 w3 (Kd.C_below HRQ.out hB3) hcq hcut
  clear hcut
  go_wp2_with fail
  (with_reducible refine hcall.mono ?_)
  clear hcall
  rintro e w4 ⟨A4, c4, rfl, hc4, hC4, hb4⟩
  have hB4 := hB3.trans (hb4.mono hB3.size)
  replace HP := Aside0.mk ((hb4.block _ (blk_lt HP.out)).trans HP.out)
  replace HQ := Aside0.mk ((hb4.block _ (blk_lt HQ.out)).trans HQ.out)
  replace hC3 := Kd.C_below hC3 hb4
  clear hb4 hB3
  clear x0 x1 x2 x3 x4 x5 x6 x7 x8 x9 x10 x11
  rcases hcase with ⟨he, rfl⟩ | ⟨rfl, nd, nn, rfl, rfl, hK⟩
  · have k0 : (er == 0) = false := beq_eq_false_iff_ne.mpr he
    clear hcase2
    go_wp2_with fail
    go_ret
    exact ⟨rfl, hB4⟩
  rcases hcase2 with ⟨he, rfl⟩ | ⟨rfl, od, n2, rfl, hn2, hK2⟩
  · have k0 : (er2 == 0) = false := beq_eq_false_iff_ne.mpr he
    go_wp2_with fail
    go_ret
    exact ⟨rfl, hB4⟩
  have hn2 : nn = n2 := by omega
  subst hn2
  by_cases z1 : (l.length : Int) = 0
  · have kz1 : ((l.length : Int) == 0) = true := beq_iff_eq.mpr z1
    go_wp2_with fail
    go_ret
    exact ⟨rfl, hB4⟩
  have kz1 : ((l.length : Int) == 0) = false := beq_eq_false_iff_ne.mpr z1
  by_cases z2 : (b.length : Int) = 0
  · have kz2 : ((b.length : Int) == 0) = true := beq_iff_eq.mpr z2
    go_wp2_with fail
    go_ret
    exact ⟨rfl, hB4⟩
  have kz2 : ((b.length : Int) == 0) = false := beq_eq_false_iff_ne.mpr z2
  have hlp : 0 < l.length := by omega
  have hbp : 0 < b.length := by omega
  have hll := hK.len
  have hll2 := hK2.len
  have hne : l ≠ [] := List.length_pos_iff.1 hlp
  have hne2 : b ≠ [] := List.length_pos_iff.1 hbp
  have HTX : Aside0 (Int.tmod (wrap64 x) (l.length : Int) = x % (l.length : Int)) := ⟨by rw [show wrap64 x = x from by unfold wrap64; omega, Int.tmod_eq_emod_of_nonneg hx0]⟩
  have HTY : Aside0 (Int.tmod (wrap64 y) (b.length : Int) = y % (b.length : Int)) := ⟨by rw [show wrap64 y = y from by unfold wrap64; omega, Int.tmod_eq_emod_of_nonneg hy0]⟩
  have hix0 : 0 ≤ x % (l.length : Int) := Int.emod_nonneg _ (by omega)
  have hix1 : x % (l.length : Int) < (l.length : Int) := Int.emod_lt_of_pos _ (by omega)
  have hky0 : 0 ≤ y % (b.length : Int) := Int.emod_nonneg _ (by omega)
  have hky1 : y % (b.length : Int) < (b.length : Int) := Int.emod_lt_of_pos _ (by omega)
  have hil : (x % (l.length : Int)).toNat < l.length := by omega
  have hkl : (y % (b.length : Int)).toNat < b.length := by omega
  obtain ⟨sv, hraw, hsv⟩ := raw_C hC3
  obtain ⟨sv2, hraw2, hsv2⟩ := raw_C hC4
  have HRAW := Aside0.mk hraw
  have HSV := Aside0.mk hsv
  obtain ⟨Ai, ci, hsi, li, gi, ad, eA, hci⟩ := hsv _ hil
  obtain ⟨Ak, ck, hsk, lk, gk, ad2, eA2, hck⟩ := hsv2 _ hkl
  subst eA eA2
  have hmx := mixed hK hK2 HUP.out HUQ.out (i := (x % (l.length : Int)).toNat) (j := (y % (b.length : Int)).toNat) (by omega) (by omega)
  have hlb : l.length ≤ 16 := by omega
  have hlb2 : b.length ≤ 16 := by omega
  have hpl : p.text.length ≤ 200 := hK.v.2.2.2.2.2.2.2.2
  obtain ⟨pi, hpi⟩ : ∃ z, z = l.getD (x % (l.length : Int)).toNat z49 := ⟨_, rfl⟩
  obtain ⟨pk, hpk⟩ : ∃ z, z = b.getD (y % (b.length : Int)).toNat z49 := ⟨_, rfl⟩
  rw [← hpi] at hsi li gi hci
  rw [← hpk] at hsk lk gk hck
  rw [← hpi, ← hpk] at hmx
  rw [hsi] at hci
  rw [hsk] at hck
  obtain ⟨gw, ge, hg, hgf, hgt⟩ : ∃ gw ge, piece_Gather.f 400 (l ++ [pk]) = some (gw, ge) ∧ (wholeEq pi pk = false → gw = zWn ∧ ge = 18) ∧ (wholeEq pi pk = true → ge = 0 → gw = p) := by
    cases hw : wholeEq pi pk with
    | false => exact ⟨_, _, hmx.1 hw, (fun _ => ⟨rfl, rfl⟩), (fun h => by cases h)⟩
    | true =>
      obtain ⟨gw, ge, h1, h2⟩ := hmx.2 hw
      exact ⟨gw, ge, h1, (fun h => by cases h), (fun _ => h2)⟩
  have HG := Aside0.mk hg
  have HGF := Aside0.mk hgf
  have HGT := Aside0.mk hgt
  have HGI := Aside0.mk gi
  have HGK := Aside0.mk gk
  have hln := hll
  clear hll hll2 hln hK hK2
  have j0 : w4.cell? (ad.add ((x % (l.length : Int)).toNat * 8)) = some (.int .i64 pi.f0.f0) := hci 0 _ rfl
  have j1 : w4.cell? ⟨(ad.add ((x % (l.length : Int)).toNat * 8)).block, (ad.add ((x % (l.length : Int)).toNat * 8)).off + 1, none⟩ = some (.int .i64 pi.f0.f1) := by rw [← add_field _ _ 1 (by omega)]; exact hci 1 _ rfl
  have j2 : w4.cell? ⟨(ad.add ((x % (l.length : Int)).toNat * 8)).block, (ad.add ((x % (l.length : Int)).toNat * 8)).off + 2, none⟩ = some (.int .i64 pi.f0.f2) := by rw [← add_field _ _ 2 (by omega)]; exact hci 2 _ rfl
  have j3 : w4.cell? ⟨(ad.add ((x % (l.length : Int)).toNat * 8)).block, (ad.add ((x % (l.length : Int)).toNat * 8)).off + 3, none⟩ = some (.int .i64 pi.f1) := by rw [← add_field _ _ 3 (by omega)]; exact hci 3 _ rfl
  have j4 : w4.cell? ⟨(ad.add ((x % (l.length : Int)).toNat * 8)).block, (ad.add ((x % (l.length : Int)).toNat * 8)).off + 4, none⟩ = some (.int .i64 pi.f2) := by rw [← add_field _ _ 4 (by omega)]; exact hci 4 _ rfl
  have j5 : w4.cell? ⟨(ad.add ((x % (l.length : Int)).toNat * 8)).block, (ad.add ((x % (l.length : Int)).toNat * 8)).off + 5, none⟩ = some (.int .i64 pi.f3) := by rw [← add_field _ _ 5 (by omega)]; exact hci 5 _ rfl
  have j6 : w4.cell? ⟨(ad.add ((x % (l.length : Int)).toNat * 8)).block, (ad.add ((x % (l.length : Int)).toNat * 8)).off + 6, none⟩ = some (.int .i64 pi.f4) := by rw [← add_field _ _ 6 (by omega)]; exact hci 6 _ rfl
  have j7 : w4.cell? ⟨(ad.add ((x % (l.length : Int)).toNat * 8)).block, (ad.add ((x % (l.length : Int)).toNat * 8)).off + 7, none⟩ = some (.slice Ai pi.f5.length ci) := by rw [← add_field _ _ 7 (by omega)]; exact hci 7 _ rfl
  have k0 : w4.cell? (ad2.add ((y % (b.length : Int)).toNat * 8)) = some (.int .i64 pk.f0.f0) := hck 0 _ rfl
  have k1 : w4.cell? ⟨(ad2.add ((y % (b.length : Int)).toNat * 8)).block, (ad2.add ((y % (b.length : Int)).toNat * 8)).off + 1, none⟩ = some (.int .i64 pk.f0.f1) := by rw [← add_field _ _ 1 (by omega)]; exact hck 1 _ rfl
  have k2 : w4.cell? ⟨(ad2.add ((y % (b.length : Int)).toNat * 8)).block, (ad2.add ((y % (b.length : Int)).toNat * 8)).off + 2, none⟩ = some (.int .i64 pk.f0.f2) := by rw [← add_field _ _ 2 (by omega)]; exact hck 2 _ rfl
  have k3 : w4.cell? ⟨(ad2.add ((y % (b.length : Int)).toNat * 8)).block, (ad2.add ((y % (b.length : Int)).toNat * 8)).off + 3, none⟩ = some (.int .i64 pk.f1) := by rw [← add_field _ _ 3 (by omega)]; exact hck 3 _ rfl
  have k4 : w4.cell? ⟨(ad2.add ((y % (b.length : Int)).toNat * 8)).block, (ad2.add ((y % (b.length : Int)).toNat * 8)).off + 4, none⟩ = some (.int .i64 pk.f2) := by rw [← add_field _ _ 4 (by omega)]; exact hck 4 _ rfl
  have k5 : w4.cell? ⟨(ad2.add ((y % (b.length : Int)).toNat * 8)).block, (ad2.add ((y % (b.length : Int)).toNat * 8)).off + 5, none⟩ = some (.int .i64 pk.f3) := by rw [← add_field _ _ 5 (by omega)]; exact hck 5 _ rfl
  have k6 : w4.cell? ⟨(ad2.add ((y % (b.length : Int)).toNat * 8)).block, (ad2.add ((y % (b.length : Int)).toNat * 8)).off + 6, none⟩ = some (.int .i64 pk.f4) := by rw [← add_field _ _ 6 (by omega)]; exact hck 6 _ rfl
  have k7 : w4.cell? ⟨(ad2.add ((y % (b.length : Int)).toNat * 8)).block, (ad2.add ((y % (b.length : Int)).toNat * 8)).off + 7, none⟩ = some (.slice Ak pk.f5.length ck) := by rw [← add_field _ _ 7 (by omega)]; exact hck 7 _ rfl
  clear hraw hsv hraw2 hsv2 hci hck hsi hsk hpi hpk hg hgf hgt hmx gi gk hil hkl
  go_wp2_with fail
  have hS0 : (fun w' => Below w4.heap.size w4 w') w4.drew := (Below.refl _ _).drew
  refine start_ (n := 20) (S := (fun w' => Below w4.heap.size w4 w')) (ds := []) (Array.replicate 20 false) hmix rfl rfl hS0 (fun hHeld => ?_)
  refine pureS (i := 0) (N := (some 67)) (v := ?_) (a' := ?_) rfl rfl (by kernel_rfl) (fun _ _ _ h => h) (Or.inl ⟨by rfl, ?_⟩) ?_ ?_
  rotate_left
  · intro w'
    go_simp
    with_reducible rfl
  rotate_left
  · simp only [Act.put, List.setIfInBounds_toArray, List.set_cons_zero, List.set_cons_succ, i64_w, i32_w]
    rfl
  refine pureS (i := 1) (N := (some 68)) (v := ?_) (a' := ?_) rfl rfl (by kernel_rfl) (fun _ _ _ h => h) (Or.inl ⟨by rfl, ?_⟩) ?_ ?_
  rotate_left
  · intro w'
    go_simp
    with_reducible rfl
  rotate_left
  · simp only [Act.put, List.setIfInBounds_toArray, List.set_cons_zero, List.set_cons_succ, i64_w, i32_w]
    rfl
  refine pureS (i := 2) (N := (some 69)) (v := ?_) (a' := ?_) rfl rfl (by kernel_rfl) (fun _ _ _ h => h) (Or.inl ⟨by rfl, ?_⟩) ?_ ?_
  rotate_left
  · intro w'
    go_simp
    with_reducible rfl
  rotate_left
  · simp only [Act.put, List.setIfInBounds_toArray, List.set_cons_zero, List.set_cons_succ, i64_w, i32_w]
    rfl
  refine pureS (i := 3) (N := (some 70)) (v := ?_) (a' := ?_) rfl rfl (by kernel_rfl) (fun _ _ _ h => h) (Or.inl ⟨by rfl, ?_⟩) ?_ ?_
  rotate_left
  · intro w'
    go_simp
    with_reducible rfl
  rotate_left
  · simp only [Act.put, List.setIfInBounds_toArray, List.set_cons_zero, List.set_cons_succ, i64_w, i32_w]
    rfl
  refine pureS (i := 4) (N := (some 71)) (v := ?_) (a' := ?_) rfl rfl (by kernel_rfl) (fun _ _ _ h => h) (Or.inl ⟨by rfl, ?_⟩) ?_ ?_
  rotate_left
  · intro w'
    go_simp
    with_reducible rfl
  rotate_left
  · simp only [Act.put, List.setIfInBounds_toArray, List.set_cons_zero, List.set_cons_succ, i64_w, i32_w]
    rfl
  refine pureS (i := 5) (N := (some 72)) (v := ?_) (a' := ?_) rfl rfl (by kernel_rfl) (fun _ _ _ h => h) (Or.inl ⟨by rfl, ?_⟩) ?_ ?_
  rotate_left
  · intro w'
    go_simp
    with_reducible rfl
  rotate_left
  · simp only [Act.put, List.setIfInBounds_toArray, List.set_cons_zero, List.set_cons_succ, i64_w, i32_w]
    rfl
  rw [HTX.out]
  refine pureS (i := 6) (N := (some 73)) (v := ?_) (a' := ?_) rfl rfl (by kernel_rfl) (fun _ _ _ h => h) (Or.inl ⟨by rfl, ?_⟩) ?_ ?_
  rotate_left
  · intro w'
    go_simp
    with_reducible rfl
  rotate_left
  · simp only [Act.put, List.setIfInBounds_toArray, List.set_cons_zero, List.set_cons_succ, i64_w, i32_w]
    rfl
  refine takeS (i := 7) (N := (some 74)) (v := ?_) (a' := ?_) rfl rfl (by kernel_rfl) (fun _ _ _ h => h) (Or.inl ⟨by rfl, ?_⟩) hHeld ?_ ?_
  rotate_left
  · intro w' hs
    have j0_ := (hs.cell (block_lt_of_cell j0)).trans j0
    have j1_ := (hs.cell (block_lt_of_cell j1)).trans j1
    have j2_ := (hs.cell (block_lt_of_cell j2)).trans j2
    have j3_ := (hs.cell (block_lt_of_cell j3)).trans j3
    have j4_ := (hs.cell (block_lt_of_cell j4)).trans j4
    have j5_ := (hs.cell (block_lt_of_cell j5)).trans j5
    have j6_ := (hs.cell (block_lt_of_cell j6)).trans j6
    have j7_ := (hs.cell (block_lt_of_cell j7)).trans j7
    go_simp
    with_reducible rfl
  rotate_left
  · simp only [Act.put, List.setIfInBounds_toArray, List.set_cons_zero, List.set_cons_succ, i64_w, i32_w]
    rfl
  refine pureS (i := 8) (N := (some 75)) (v := ?_) (a' := ?_) rfl rfl (by kernel_rfl) (fun _ _ _ h => h) (Or.inl ⟨by rfl, ?_⟩) ?_ ?_
  rotate_left
  · intro w'
    go_simp
    with_reducible rfl
  rotate_left
  · simp only [Act.put, List.setIfInBounds_toArray, List.set_cons_zero, List.set_cons_succ, i64_w, i32_w]
    rfl
  refine pureS (i := 9) (N := (some 76)) (v := ?_) (a' := ?_) rfl rfl (by kernel_rfl) (fun _ _ _ h => h) (Or.inl ⟨by rfl, ?_⟩) ?_ ?_
  rotate_left
  · intro w'
    go_simp
    with_reducible rfl
  rotate_left
  · simp only [Act.put, List.setIfInBounds_toArray, List.set_cons_zero, List.set_cons_succ, i64_w, i32_w]
    rfl
  refine pureS (i := 10) (N := (some 77)) (v := ?_) (a' := ?_) rfl rfl (by kernel_rfl) (fun _ _ _ h => h) (Or.inl ⟨by rfl, ?_⟩) ?_ ?_
  rotate_left
  · intro w'
    go_simp
    with_reducible rfl
  rotate_left
  · simp only [Act.put, List.setIfInBounds_toArray, List.set_cons_zero, List.set_cons_succ, i64_w, i32_w]
    rfl
  refine pureS (i := 11) (N := (some 78)) (v := ?_) (a' := ?_) rfl rfl (by kernel_rfl) (fun _ _ _ h => h) (Or.inl ⟨by rfl, ?_⟩) ?_ ?_
  rotate_left
  · intro w'
    go_simp
    with_reducible rfl
  rotate_left
  · simp only [Act.put, List.setIfInBounds_toArray, List.set_cons_zero, List.set_cons_succ, i64_w, i32_w]
    rfl
  refine pureS (i := 12) (N := (some 79)) (v := ?_) (a' := ?_) rfl rfl (by kernel_rfl) (fun _ _ _ h => h) (Or.inl ⟨by rfl, ?_⟩) ?_ ?_
  rotate_left
  · intro w'
    go_simp
    with_reducible rfl
  rotate_left
  · simp only [Act.put, List.setIfInBounds_toArray, List.set_cons_zero, List.set_cons_succ, i64_w, i32_w]
    rfl
  refine pureS (i := 13) (N := (some 80)) (v := ?_) (a' := ?_) rfl rfl (by kernel_rfl) (fun _ _ _ h => h) (Or.inl ⟨by rfl, ?_⟩) ?_ ?_
  rotate_left
  · intro w'
    go_simp
    with_reducible rfl
  rotate_left
  · simp only [Act.put, List.setIfInBounds_toArray, List.set_cons_zero, List.set_cons_succ, i64_w, i32_w]
    rfl
  rw [HTY.out]
  refine pureS (i := 14) (N := (some 81)) (v := ?_) (a' := ?_) rfl rfl (by kernel_rfl) (fun _ _ _ h => h) (Or.inl ⟨by rfl, ?_⟩) ?_ ?_
  rotate_left
  · intro w'
    go_simp
    with_reducible rfl
  rotate_left
  · simp only [Act.put, List.setIfInBounds_toArray, List.set_cons_zero, List.set_cons_succ, i64_w, i32_w]
    rfl
  refine takeS (i := 15) (N := (some 82)) (v := ?_) (a' := ?_) rfl rfl (by kernel_rfl) (fun _ _ _ h => h) (Or.inl ⟨by rfl, ?_⟩) hHeld ?_ ?_
  rotate_left
  · intro w' hs
    have k0_ := (hs.cell (block_lt_of_cell k0)).trans k0
    have k1_ := (hs.cell (block_lt_of_cell k1)).trans k1
    have k2_ := (hs.cell (block_lt_of_cell k2)).trans k2
    have k3_ := (hs.cell (block_lt_of_cell k3)).trans k3
    have k4_ := (hs.cell (block_lt_of_cell k4)).trans k4
    have k5_ := (hs.cell (block_lt_of_cell k5)).trans k5
    have k6_ := (hs.cell (block_lt_of_cell k6)).trans k6
    have k7_ := (hs.cell (block_lt_of_cell k7)).trans k7
    go_simp
    with_reducible rfl
  rotate_left
  · simp only [Act.put, List.setIfInBounds_toArray, List.set_cons_zero, List.set_cons_succ, i64_w, i32_w]
    rfl
  clear hHeld j0 k0 j1 k1 j2 k2 j3 k3 j4 k4 j5 k5 j6 k6 j7 k7
  generalize w4.drew = wd at hS0 ⊢
  refine join_ (σ := Nat × Nat) 2 #[true, true, true, true, true, true, true, true, true, true, true, true, true, true, true, true, true, true, false, false] (fun s => [(20, .pointer (some ⟨s.1, 0, none⟩)), (21, .pointer (some ⟨s.2, 0, none⟩))]) (fun s W => W.heap[s.1]? = some (.cells #[.int .i64 0, .int .i64 0, .int .i64 0, .int .i64 0, .int .i64 0, .int .i64 0, .int .i64 0, .slice none 0 0] 49 (0, 0)) ∧ W.heap[s.2]? = some (.cells #[.int .i64 0, .int .i64 0, .int .i64 0, .int .i64 0, .int .i64 0, .int .i64 0, .int .i64 0, .slice none 0 0] 49 (0, 0)) ∧ s.1 ≠ s.2 ∧ Below w4.heap.size w4 W ∧ w4.heap.size ≤ s.1 ∧ w4.heap.size ≤ s.2) ?_ (fun hrest => ?_)
  rotate_left
  · refine twoS (i := 16) (j := 17) (Ni := some 20) (Nj := some 21) rfl rfl rfl rfl (by kernel_rfl) (by decide) (by decide) (fun K hK => ?_) (fun K hK => ?_)
    · go_simp
      have hBA : Below w4.heap.size w4 (wd.alloc (.cells #[.int .i64 0, .int .i64 0, .int .i64 0, .int .i64 0, .int .i64 0, .int .i64 0, .int .i64 0, .slice none 0 0] 49)) := hS0.alloc hS0.size _
      have hgA : (wd.alloc (.cells #[.int .i64 0, .int .i64 0, .int .i64 0, .int .i64 0, .int .i64 0, .int .i64 0, .int .i64 0, .slice none 0 0] 49)).heap[wd.heap.size]? = some (.cells #[.int .i64 0, .int .i64 0, .int .i64 0, .int .i64 0, .int .i64 0, .int .i64 0, .int .i64 0, .slice none 0 0] 49 (0, 0)) := World.alloc_heap_new wd _
      have hsA : Aside0 ((wd.alloc (.cells #[.int .i64 0, .int .i64 0, .int .i64 0, .int .i64 0, .int .i64 0, .int .i64 0, .int .i64 0, .slice none 0 0] 49)).heap.size = wd.heap.size + 1) := ⟨World.size_alloc wd _⟩
      refine hK.out _ _ hBA (fun hHeld => ?_)
      clear hK K hHeld
      generalize wd.alloc (.cells #[.int .i64 0, .int .i64 0, .int .i64 0, .int .i64 0, .int .i64 0, .int .i64 0, .int .i64 0, .slice none 0 0] 49) = WA at hBA hgA hsA ⊢
      refine oneS (i := 17) (N := some 21) rfl rfl (by kernel_rfl) (by decide) (fun K hK => ?_)
      go_simp
      refine hK.out _ _ (hBA.alloc hBA.size _) (fun hHeld => ?_)
      refine relist_ #[true, true, true, true, true, true, true, true, true, true, true, true, true, true, true, true, true, true, false, false] (by kernel_rfl) ?_ (hrest (wd.heap.size, WA.heap.size) _ ⟨(((Below.refl WA.heap.size WA).alloc (Nat.le_refl _) (.cells #[.int .i64 0, .int .i64 0, .int .i64 0, .int .i64 0, .int .i64 0, .int .i64 0, .int .i64 0, .slice none 0 0] 49)).block _ (by have := hsA.out; omega)).trans hgA, World.alloc_heap_new _ _, by have := hsA.out; omega, hBA.alloc hBA.size _, hS0.size, hBA.size⟩)
      simp only [putAll, Act.put, List.setIfInBounds_toArray, List.set_cons_zero, List.set_cons_succ]
    · go_simp
      have hBA : Below w4.heap.size w4 (wd.alloc (.cells #[.int .i64 0, .int .i64 0, .int .i64 0, .int .i64 0, .int .i64 0, .int .i64 0, .int .i64 0, .slice none 0 0] 49)) := hS0.alloc hS0.size _
      have hgA : (wd.alloc (.cells #[.int .i64 0, .int .i64 0, .int .i64 0, .int .i64 0, .int .i64 0, .int .i64 0, .int .i64 0, .slice none 0 0] 49)).heap[wd.heap.size]? = some (.cells #[.int .i64 0, .int .i64 0, .int .i64 0, .int .i64 0, .int .i64 0, .int .i64 0, .int .i64 0, .slice none 0 0] 49 (0, 0)) := World.alloc_heap_new wd _
      have hsA : Aside0 ((wd.alloc (.cells #[.int .i64 0, .int .i64 0, .int .i64 0, .int .i64 0, .int .i64 0, .int .i64 0, .int .i64 0, .slice none 0 0] 49)).heap.size = wd.heap.size + 1) := ⟨World.size_alloc wd _⟩
      refine hK.out _ _ hBA (fun hHeld => ?_)
      clear hK K hHeld
      generalize wd.alloc (.cells #[.int .i64 0, .int .i64 0, .int .i64 0, .int .i64 0, .int .i64 0, .int .i64 0, .int .i64 0, .slice none 0 0] 49) = WA at hBA hgA hsA ⊢
      refine oneS (i := 16) (N := some 20) rfl rfl (by kernel_rfl) (by decide) (fun K hK => ?_)
      go_simp
      refine hK.out _ _ (hBA.alloc hBA.size _) (fun hHeld => ?_)
      refine relist_ #[true, true, true, true, true, true, true, true, true, true, true, true, true, true, true, true, true, true, false, false] (by kernel_rfl) ?_ (hrest (WA.heap.size, wd.heap.size) _ ⟨World.alloc_heap_new _ _, (((Below.refl WA.heap.size WA).alloc (Nat.le_refl _) (.cells #[.int .i64 0, .int .i64 0, .int .i64 0, .int .i64 0, .int .i64 0, .int .i64 0, .int .i64 0, .slice none 0 0] 49)).block _ (by have := hsA.out; omega)).trans hgA, by have := hsA.out; omega, hBA.alloc hBA.size _, hBA.size, hS0.size⟩)
      simp only [putAll, Act.put, List.setIfInBounds_toArray, List.set_cons_zero, List.set_cons_succ]
  rintro ⟨g20, g21⟩ W ⟨h1, h2, hgn, hBW, hb1, hb2⟩
  dsimp only at h1 h2 hgn hb1 hb2 ⊢
  refine norm_ (a' := ?_) ?_ ?_
  rotate_left
  · simp only [putAll, Act.put, List.setIfInBounds_toArray, List.set_cons_zero, List.set_cons_succ]
    rfl
  refine oneS (i := 18) (N := none) rfl rfl (by kernel_rfl) (by decide) (fun K hK => ?_)
  refine skip_ (by rfl) rfl (run_store_row 49 (.tmp 20) (.tmp 74) rfl g20 rfl #[.int .i64 pi.f0.f0, .int .i64 pi.f0.f1, .int .i64 pi.f0.f2, .int .i64 pi.f1, .int .i64 pi.f2, .int .i64 pi.f3, .int .i64 pi.f4, .slice Ai pi.f5.length ci] rfl 49 #[.int .i64 0, .int .i64 0, .int .i64 0, .int .i64 0, .int .i64 0, .int .i64 0, .int .i64 0, .slice none 0 0] h1 rfl (by simp [Value.oneCell']) hi49) ?_
  have hB8 := below_setRow hBW hb1 #[.int .i64 pi.f0.f0, .int .i64 pi.f0.f1, .int .i64 pi.f0.f2, .int .i64 pi.f1, .int .i64 pi.f2, .int .i64 pi.f3, .int .i64 pi.f4, .slice Ai pi.f5.length ci]
  have hg1 : (W.setRow g20 #[.int .i64 pi.f0.f0, .int .i64 pi.f0.f1, .int .i64 pi.f0.f2, .int .i64 pi.f1, .int .i64 pi.f2, .int .i64 pi.f3, .int .i64 pi.f4, .slice Ai pi.f5.length ci]).heap[g20]? = some (.cells #[.int .i64 pi.f0.f0, .int .i64 pi.f0.f1, .int .i64 pi.f0.f2, .int .i64 pi.f1, .int .i64 pi.f2, .int .i64 pi.f3, .int .i64 pi.f4, .slice Ai pi.f5.length ci] 49 (0, 0)) := setRow_heap _ _ _ _ _ _ h1
  have hg2 : (W.setRow g20 #[.int .i64 pi.f0.f0, .int .i64 pi.f0.f1, .int .i64 pi.f0.f2, .int .i64 pi.f1, .int .i64 pi.f2, .int .i64 pi.f3, .int .i64 pi.f4, .slice Ai pi.f5.length ci]).heap[g21]? = some (.cells #[.int .i64 0, .int .i64 0, .int .i64 0, .int .i64 0, .int .i64 0, .int .i64 0, .int .i64 0, .slice none 0 0] 49 (0, 0)) := (setRow_other _ _ _ _ (Ne.symm hgn)).trans h2
  refine hK.out _ _ hB8 (fun hHeld => ?_)
  clear hK K hHeld
  generalize W.setRow g20 #[.int .i64 pi.f0.f0, .int .i64 pi.f0.f1, .int .i64 pi.f0.f2, .int .i64 pi.f1, .int .i64 pi.f2, .int .i64 pi.f3, .int .i64 pi.f4, .slice Ai pi.f5.length ci] = WB at hB8 hg1 hg2 ⊢
  refine oneS (i := 19) (N := none) rfl rfl (by kernel_rfl) (by decide) (fun K hK => ?_)
  refine skip_ (by rfl) rfl (run_store_row 49 (.tmp 21) (.tmp 82) rfl g21 rfl #[.int .i64 pk.f0.f0, .int .i64 pk.f0.f1, .int .i64 pk.f0.f2, .int .i64 pk.f1, .int .i64 pk.f2, .int .i64 pk.f3, .int .i64 pk.f4, .slice Ak pk.f5.length ck] rfl 49 #[.int .i64 0, .int .i64 0, .int .i64 0, .int .i64 0, .int .i64 0, .int .i64 0, .int .i64 0, .slice none 0 0] hg2 rfl (by simp [Value.oneCell']) hi49) ?_
  have hB9 := below_setRow hB8 hb2 #[.int .i64 pk.f0.f0, .int .i64 pk.f0.f1, .int .i64 pk.f0.f2, .int .i64 pk.f1, .int .i64 pk.f2, .int .i64 pk.f3, .int .i64 pk.f4, .slice Ak pk.f5.length ck]
  have HG21 : Aside0 ((WB.setRow g21 #[.int .i64 pk.f0.f0, .int .i64 pk.f0.f1, .int .i64 pk.f0.f2, .int .i64 pk.f1, .int .i64 pk.f2, .int .i64 pk.f3, .int .i64 pk.f4, .slice Ak pk.f5.length ck]).heap[g21]? = some (.cells #[.int .i64 pk.f0.f0, .int .i64 pk.f0.f1, .int .i64 pk.f0.f2, .int .i64 pk.f1, .int .i64 pk.f2, .int .i64 pk.f3, .int .i64 pk.f4, .slice Ak pk.f5.length ck] 49 (0, 0))) := ⟨setRow_heap _ _ _ _ _ _ hg2⟩
  have HG20 : Aside0 ((WB.setRow g21 #[.int .i64 pk.f0.f0, .int .i64 pk.f0.f1, .int .i64 pk.f0.f2, .int .i64 pk.f1, .int .i64 pk.f2, .int .i64 pk.f3, .int .i64 pk.f4, .slice Ak pk.f5.length ck]).heap[g20]? = some (.cells #[.int .i64 pi.f0.f0, .int .i64 pi.f0.f1, .int .i64 pi.f0.f2, .int .i64 pi.f1, .int .i64 pi.f2, .int .i64 pi.f3, .int .i64 pi.f4, .slice Ai pi.f5.length ci] 49 (0, 0))) := ⟨(setRow_other _ _ _ _ hgn).trans hg1⟩
  refine hK.out _ _ hB9 (fun hHeld => ?_)
  clear hK K hHeld
  generalize WB.setRow g21 #[.int .i64 pk.f0.f0, .int .i64 pk.f0.f1, .int .i64 pk.f0.f2, .int .i64 pk.f1, .int .i64 pk.f2, .int .i64 pk.f3, .int .i64 pk.f4, .slice Ak pk.f5.length ck] = w5 at hB9 HG21 HG20 ⊢
  refine done_ (by kernel_rfl) ?_
  clear hS0 hBW h1 h2 hg1 hg2 hB8 hgn hb1 hb2
  have hB5 := hB4.trans (hB9.mono hB4.size)
  have HB45 := Aside0.mk hB9
  clear hB9
  go_wp2_with fail
  have e0 : w5.cell? ⟨g21, 0, none⟩ = some (.int .i64 pk.f0.f0) := (blk_cell HG21.out 0).trans rfl
  have e1 : w5.cell? ⟨g21, 1, none⟩ = some (.int .i64 pk.f0.f1) := (blk_cell HG21.out 1).trans rfl
  have e2 : w5.cell? ⟨g21, 2, none⟩ = some (.int .i64 pk.f0.f2) := (blk_cell HG21.out 2).trans rfl
  have e3 : w5.cell? ⟨g21, 3, none⟩ = some (.int .i64 pk.f1) := (blk_cell HG21.out 3).trans rfl
  have e4 : w5.cell? ⟨g21, 4, none⟩ = some (.int .i64 pk.f2) := (blk_cell HG21.out 4).trans rfl
  have e5 : w5.cell? ⟨g21, 5, none⟩ = some (.int .i64 pk.f3) := (blk_cell HG21.out 5).trans rfl
  have e6 : w5.cell? ⟨g21, 6, none⟩ = some (.int .i64 pk.f4) := (blk_cell HG21.out 6).trans rfl
  have e7 : w5.cell? ⟨g21, 7, none⟩ = some (.slice Ak pk.f5.length ck) := (blk_cell HG21.out 7).trans rfl
  have hS0 : (fun w' => Below w5.heap.size w5 w') w5.drew := (Below.refl _ _).drew
  refine start_ (n := 13) (S := (fun w' => Below w5.heap.size w5 w')) (ds := []) (Array.replicate 13 false) hmix rfl rfl hS0 (fun hHeld => ?_)
  refine pureS (i := 1) (N := (some 85)) (v := ?_) (a' := ?_) rfl rfl (by kernel_rfl) (fun _ _ _ h => h) (Or.inl ⟨by rfl, ?_⟩) ?_ ?_
  rotate_left
  · intro w'
    go_simp
    with_reducible rfl
  rotate_left
  · simp only [Act.put, List.setIfInBounds_toArray, List.set_cons_zero, List.set_cons_succ, i64_w, i32_w]
    rfl
  refine takeS (i := 3) (N := (some 87)) (v := ?_) (a' := ?_) rfl rfl (by kernel_rfl) (fun _ _ _ h => h) (Or.inl ⟨by rfl, ?_⟩) hHeld ?_ ?_
  rotate_left
  · intro w' hs
    have e0_ := (hs.cell (block_lt_of_cell e0)).trans e0
    have e1_ := (hs.cell (block_lt_of_cell e1)).trans e1
    have e2_ := (hs.cell (block_lt_of_cell e2)).trans e2
    have e3_ := (hs.cell (block_lt_of_cell e3)).trans e3
    have e4_ := (hs.cell (block_lt_of_cell e4)).trans e4
    have e5_ := (hs.cell (block_lt_of_cell e5)).trans e5
    have e6_ := (hs.cell (block_lt_of_cell e6)).trans e6
    have e7_ := (hs.cell (block_lt_of_cell e7)).trans e7
    go_simp
    with_reducible rfl
  rotate_left
  · simp only [Act.put, List.setIfInBounds_toArray, List.set_cons_zero, List.set_cons_succ, i64_w, i32_w]
    rfl
  clear hHeld e0 e1 e2 e3 e4 e5 e6 e7
  generalize w5.drew = wd at hS0 ⊢
  refine join_ (σ := Nat × Value × Nat × Value × Nat × Option Addr × Nat) 2 #[true, true, true, true, true, true, true, true, true, true, true, false, false] (fun s => [(84, .slice (some ⟨s.1, 0, none⟩) 0 0), (86, s.2.1), (88, .slice (some ⟨s.2.2.1, 0, none⟩) 1 1), (89, s.2.2.2.1), (90, .tuple #[.agg #[.int .i64 gw.st, .int .i64 gw.ki, .int .i64 gw.nu, .int .i64 gw.iss, .int .i64 gw.unt, .int .i64 gw.xlo, .int .i64 gw.xhi, .int .i64 gw.ylo, .int .i64 gw.yhi, .int .i64 gw.pri, .bool gw.wd, .slice s.2.2.2.2.2.1 gw.text.length s.2.2.2.2.2.2], .int .i64 ge]), (83, .tuple #[.agg #[.int .i64 gw.st, .int .i64 gw.ki, .int .i64 gw.nu, .int .i64 gw.iss, .int .i64 gw.unt, .int .i64 gw.xlo, .int .i64 gw.xhi, .int .i64 gw.ylo, .int .i64 gw.yhi, .int .i64 gw.pri, .bool gw.wd, .slice s.2.2.2.2.2.1 gw.text.length s.2.2.2.2.2.2], .int .i64 ge]), (91, .agg #[.int .i64 gw.st, .int .i64 gw.ki, .int .i64 gw.nu, .int .i64 gw.iss, .int .i64 gw.unt, .int .i64 gw.xlo, .int .i64 gw.xhi, .int .i64 gw.ylo, .int .i64 gw.yhi, .int .i64 gw.pri, .bool gw.wd, .slice s.2.2.2.2.2.1 gw.text.length s.2.2.2.2.2.2]), (92, .int .i64 ge), (22, .pointer (some ⟨s.2.2.2.2.1, 0, none⟩))]) (fun s W => Below w5.heap.size w5 W ∧ Kd.R (Kd.int .u8) 5 W w5.heap.size (fun k => k ≠ s.2.2.2.2.1) (.slice s.2.2.2.2.2.1 gw.text.length s.2.2.2.2.2.2) gw.text ∧ W.heap[s.2.2.2.2.1]? = some (.cells #[.int .i64 0, .int .i64 0, .int .i64 0, .int .i64 0, .int .i64 0, .int .i64 0, .int .i64 0, .int .i64 0, .int .i64 0, .int .i64 0, .bool false, .slice none 0 0] 30 (0, 0)) ∧ w5.heap.size ≤ s.2.2.2.2.1) ?_ (fun h411 => ?_)
  · rintro ⟨s0, v2, b4, v5, z, A5, c5⟩ W ⟨hBW, hR, hz, hz0⟩
    dsimp only at hR hz hz0
    dsimp only
    refine norm_ (a' := ?_) ?_ ?_
    rotate_left
    · simp only [putAll, Act.put, List.setIfInBounds_toArray, List.set_cons_zero, List.set_cons_succ]
      rfl
    refine oneS (i := 11) (N := none) rfl rfl (by kernel_rfl) (by decide) (fun K hK => ?_)
    refine skip_ (by rfl) rfl (run_store_row 30 (.tmp 22) (.tmp 91) rfl z rfl #[.int .i64 gw.st, .int .i64 gw.ki, .int .i64 gw.nu, .int .i64 gw.iss, .int .i64 gw.unt, .int .i64 gw.xlo, .int .i64 gw.xhi, .int .i64 gw.ylo, .int .i64 gw.yhi, .int .i64 gw.pri, .bool gw.wd, .slice A5 gw.text.length c5] rfl 30 #[.int .i64 0, .int .i64 0, .int .i64 0, .int .i64 0, .int .i64 0, .int .i64 0, .int .i64 0, .int .i64 0, .int .i64 0, .int .i64 0, .bool false, .slice none 0 0] hz rfl (by simp [Value.oneCell']) hi30) ?_
    have hB6 := below_setRow hBW hz0 #[.int .i64 gw.st, .int .i64 gw.ki, .int .i64 gw.nu, .int .i64 gw.iss, .int .i64 gw.unt, .int .i64 gw.xlo, .int .i64 gw.xhi, .int .i64 gw.ylo, .int .i64 gw.yhi, .int .i64 gw.pri, .bool gw.wd, .slice A5 gw.text.length c5]
    have HH : Aside0 ((W.setRow z #[.int .i64 gw.st, .int .i64 gw.ki, .int .i64 gw.nu, .int .i64 gw.iss, .int .i64 gw.unt, .int .i64 gw.xlo, .int .i64 gw.xhi, .int .i64 gw.ylo, .int .i64 gw.yhi, .int .i64 gw.pri, .bool gw.wd, .slice A5 gw.text.length c5]).heap[z]? = some (.cells #[.int .i64 gw.st, .int .i64 gw.ki, .int .i64 gw.nu, .int .i64 gw.iss, .int .i64 gw.unt, .int .i64 gw.xlo, .int .i64 gw.xhi, .int .i64 gw.ylo, .int .i64 gw.yhi, .int .i64 gw.pri, .bool gw.wd, .slice A5 gw.text.length c5] 30 (0, 0))) := ⟨setRow_heap _ _ _ _ _ _ hz⟩
    have hR6 := Kd.R_reads' (Kd.R_step hR (w1 := W.setRow z #[.int .i64 gw.st, .int .i64 gw.ki, .int .i64 gw.nu, .int .i64 gw.iss, .int .i64 gw.unt, .int .i64 gw.xlo, .int .i64 gw.xhi, .int .i64 gw.ylo, .int .i64 gw.yhi, .int .i64 gw.pri, .bool gw.wd, .slice A5 gw.text.length c5]) (fun k hk _ => setRow_other _ _ _ _ hk))
    refine hK.out _ _ hB6 (fun hHeld => ?_)
    clear hK K hHeld hR hz hz0 hBW
    generalize W.setRow z #[.int .i64 gw.st, .int .i64 gw.ki, .int .i64 gw.nu, .int .i64 gw.iss, .int .i64 gw.unt, .int .i64 gw.xlo, .int .i64 gw.xhi, .int .i64 gw.ylo, .int .i64 gw.yhi, .int .i64 gw.pri, .bool gw.wd, .slice A5 gw.text.length c5] = w6 at hB6 HH hR6 ⊢
    refine pureS (i := 12) (N := (some 23)) (v := ?_) (a' := ?_) rfl rfl (by kernel_rfl) (fun _ _ _ h => h) (Or.inl ⟨by rfl, ?_⟩) ?_ ?_
    rotate_left
    · intro w'
      go_simp
      with_reducible rfl
    rotate_left
    · simp only [Act.put, List.setIfInBounds_toArray, List.set_cons_zero, List.set_cons_succ, i64_w, i32_w]
      rfl
    refine done_ (by kernel_rfl) ?_
    have hBw := hB5.trans (hB6.mono hB5.size)
    have hb46 := HB45.out.trans (hB6.mono HB45.out.size)
    replace HP := Aside0.mk ((hb46.block _ (blk_lt HP.out)).trans HP.out)
    replace HG20 := Aside0.mk ((hB6.block _ (blk_lt HG20.out)).trans HG20.out)
    replace HG21 := Aside0.mk ((hB6.block _ (blk_lt HG21.out)).trans HG21.out)
    have hC6 := hR6.2.2
    have hc6 := hR6.2.1
    clear hR6 hB6 hb46
    have htg := tog_calls pi pk Ai ci Ak ck w6
    have j0 : w6.cell? ⟨g20, 0, none⟩ = some (.int .i64 pi.f0.f0) := (blk_cell HG20.out 0).trans rfl
    have j1 : w6.cell? ⟨g20, 1, none⟩ = some (.int .i64 pi.f0.f1) := (blk_cell HG20.out 1).trans rfl
    have j2 : w6.cell? ⟨g20, 2, none⟩ = some (.int .i64 pi.f0.f2) := (blk_cell HG20.out 2).trans rfl
    have j3 : w6.cell? ⟨g20, 3, none⟩ = some (.int .i64 pi.f1) := (blk_cell HG20.out 3).trans rfl
    have j4 : w6.cell? ⟨g20, 4, none⟩ = some (.int .i64 pi.f2) := (blk_cell HG20.out 4).trans rfl
    have j5 : w6.cell? ⟨g20, 5, none⟩ = some (.int .i64 pi.f3) := (blk_cell HG20.out 5).trans rfl
    have j6 : w6.cell? ⟨g20, 6, none⟩ = some (.int .i64 pi.f4) := (blk_cell HG20.out 6).trans rfl
    have j7 : w6.cell? ⟨g20, 7, none⟩ = some (.slice Ai pi.f5.length ci) := (blk_cell HG20.out 7).trans rfl
    have k0 : w6.cell? ⟨g21, 0, none⟩ = some (.int .i64 pk.f0.f0) := (blk_cell HG21.out 0).trans rfl
    have k1 : w6.cell? ⟨g21, 1, none⟩ = some (.int .i64 pk.f0.f1) := (blk_cell HG21.out 1).trans rfl
    have k2 : w6.cell? ⟨g21, 2, none⟩ = some (.int .i64 pk.f0.f2) := (blk_cell HG21.out 2).trans rfl
    have k3 : w6.cell? ⟨g21, 3, none⟩ = some (.int .i64 pk.f1) := (blk_cell HG21.out 3).trans rfl
    have k4 : w6.cell? ⟨g21, 4, none⟩ = some (.int .i64 pk.f2) := (blk_cell HG21.out 4).trans rfl
    have k5 : w6.cell? ⟨g21, 5, none⟩ = some (.int .i64 pk.f3) := (blk_cell HG21.out 5).trans rfl
    have k6 : w6.cell? ⟨g21, 6, none⟩ = some (.int .i64 pk.f4) := (blk_cell HG21.out 6).trans rfl
    have k7 : w6.cell? ⟨g21, 7, none⟩ = some (.slice Ak pk.f5.length ck) := (blk_cell HG21.out 7).trans rfl
    go_wp2_with fail
    (with_reducible refine htg.mono ?_)
    clear htg
    rintro e w7 ⟨rfl, hb7⟩
    have hB7 := hBw.trans (hb7.mono hBw.size)
    replace HP := Aside0.mk ((hb7.block _ (blk_lt HP.out)).trans HP.out)
    replace HH := Aside0.mk ((hb7.block _ (blk_lt HH.out)).trans HH.out)
    have hC7 := Kd.C_below hC6 hb7
    clear hb7 hC6 hBw j0 k0 j1 k1 j2 k2 j3 k3 j4 k4 j5 k5 j6 k6 j7 k7
    cases hw : wholeEq pi pk with
    | false =>
      obtain ⟨h1, h2⟩ := HGF.out hw
      have hsm := same_z gw A5 c5 w7 hC7 hc6 h1
      subst h2
      clear h1 hw
      have u0 : w7.cell? ⟨z, 0, none⟩ = some (.int .i64 gw.st) := (blk_cell HH.out 0).trans rfl
      have u1 : w7.cell? ⟨z, 1, none⟩ = some (.int .i64 gw.ki) := (blk_cell HH.out 1).trans rfl
      have u2 : w7.cell? ⟨z, 2, none⟩ = some (.int .i64 gw.nu) := (blk_cell HH.out 2).trans rfl
      have u3 : w7.cell? ⟨z, 3, none⟩ = some (.int .i64 gw.iss) := (blk_cell HH.out 3).trans rfl
      have u4 : w7.cell? ⟨z, 4, none⟩ = some (.int .i64 gw.unt) := (blk_cell HH.out 4).trans rfl
      have u5 : w7.cell? ⟨z, 5, none⟩ = some (.int .i64 gw.xlo) := (blk_cell HH.out 5).trans rfl
      have u6 : w7.cell? ⟨z, 6, none⟩ = some (.int .i64 gw.xhi) := (blk_cell HH.out 6).trans rfl
      have u7 : w7.cell? ⟨z, 7, none⟩ = some (.int .i64 gw.ylo) := (blk_cell HH.out 7).trans rfl
      have u8 : w7.cell? ⟨z, 8, none⟩ = some (.int .i64 gw.yhi) := (blk_cell HH.out 8).trans rfl
      have u9 : w7.cell? ⟨z, 9, none⟩ = some (.int .i64 gw.pri) := (blk_cell HH.out 9).trans rfl
      have u10 : w7.cell? ⟨z, 10, none⟩ = some (.bool gw.wd) := (blk_cell HH.out 10).trans rfl
      have u11 : w7.cell? ⟨z, 11, none⟩ = some (.slice A5 gw.text.length c5) := (blk_cell HH.out 11).trans rfl
      go_wp2_with fail
      (with_reducible refine hsm.mono ?_)
      clear hsm
      rintro e w8 ⟨rfl, hb8⟩
      have hB8 := hB7.trans (hb8.mono hB7.size)
      clear hb8 u0 u1 u2 u3 u4 u5 u6 u7 u8 u9 u10 u11
      go_wp2_with fail
      go_ret
      exact ⟨rfl, hB8⟩
    | true =>
      by_cases hge : ge = 0
      case neg =>
        have kge : (ge == 0) = false := beq_eq_false_iff_ne.mpr hge
        clear hw
        go_wp2_with fail
        go_ret
        exact ⟨rfl, hB7⟩
      have h1 := HGT.out hw hge
      subst hge
      have hsm := same_t gw p A5 c5 Ap cp w7 hC7 hc6 (Kd.C_below HRP.out hB7) hcp (by rw [h1]; omega) h1
      clear h1 hw
      have u0 : w7.cell? ⟨z, 0, none⟩ = some (.int .i64 gw.st) := (blk_cell HH.out 0).trans rfl
      have u1 : w7.cell? ⟨z, 1, none⟩ = some (.int .i64 gw.ki) := (blk_cell HH.out 1).trans rfl
      have u2 : w7.cell? ⟨z, 2, none⟩ = some (.int .i64 gw.nu) := (blk_cell HH.out 2).trans rfl
      have u3 : w7.cell? ⟨z, 3, none⟩ = some (.int .i64 gw.iss) := (blk_cell HH.out 3).trans rfl
      have u4 : w7.cell? ⟨z, 4, none⟩ = some (.int .i64 gw.unt) := (blk_cell HH.out 4).trans rfl
      have u5 : w7.cell? ⟨z, 5, none⟩ = some (.int .i64 gw.xlo) := (blk_cell HH.out 5).trans rfl
      have u6 : w7.cell? ⟨z, 6, none⟩ = some (.int .i64 gw.xhi) := (blk_cell HH.out 6).trans rfl
      have u7 : w7.cell? ⟨z, 7, none⟩ = some (.int .i64 gw.ylo) := (blk_cell HH.out 7).trans rfl
      have u8 : w7.cell? ⟨z, 8, none⟩ = some (.int .i64 gw.yhi) := (blk_cell HH.out 8).trans rfl
      have u9 : w7.cell? ⟨z, 9, none⟩ = some (.int .i64 gw.pri) := (blk_cell HH.out 9).trans rfl
      have u10 : w7.cell? ⟨z, 10, none⟩ = some (.bool gw.wd) := (blk_cell HH.out 10).trans rfl
      have u11 : w7.cell? ⟨z, 11, none⟩ = some (.slice A5 gw.text.length c5) := (blk_cell HH.out 11).trans rfl
      have t0 : w7.cell? ⟨gp, 0, none⟩ = some (.int .i64 p.st) := (blk_cell HP.out 0).trans rfl
      have t1 : w7.cell? ⟨gp, 1, none⟩ = some (.int .i64 p.ki) := (blk_cell HP.out 1).trans rfl
      have t2 : w7.cell? ⟨gp, 2, none⟩ = some (.int .i64 p.nu) := (blk_cell HP.out 2).trans rfl
      have t3 : w7.cell? ⟨gp, 3, none⟩ = some (.int .i64 p.iss) := (blk_cell HP.out 3).trans rfl
      have t4 : w7.cell? ⟨gp, 4, none⟩ = some (.int .i64 p.unt) := (blk_cell HP.out 4).trans rfl
      have t5 : w7.cell? ⟨gp, 5, none⟩ = some (.int .i64 p.xlo) := (blk_cell HP.out 5).trans rfl
      have t6 : w7.cell? ⟨gp, 6, none⟩ = some (.int .i64 p.xhi) := (blk_cell HP.out 6).trans rfl
      have t7 : w7.cell? ⟨gp, 7, none⟩ = some (.int .i64 p.ylo) := (blk_cell HP.out 7).trans rfl
      have t8 : w7.cell? ⟨gp, 8, none⟩ = some (.int .i64 p.yhi) := (blk_cell HP.out 8).trans rfl
      have t9 : w7.cell? ⟨gp, 9, none⟩ = some (.int .i64 p.pri) := (blk_cell HP.out 9).trans rfl
      have t10 : w7.cell? ⟨gp, 10, none⟩ = some (.bool p.wd) := (blk_cell HP.out 10).trans rfl
      have t11 : w7.cell? ⟨gp, 11, none⟩ = some (.slice Ap p.text.length cp) := (blk_cell HP.out 11).trans rfl
      go_wp2_with fail
      (with_reducible refine hsm.mono ?_)
      clear hsm
      rintro e w8 ⟨rfl, hb8⟩
      have hB8 := hB7.trans (hb8.mono hB7.size)
      clear hb8 u0 u1 u2 u3 u4 u5 u6 u7 u8 u9 u10 u11 t0 t1 t2 t3 t4 t5 t6 t7 t8 t9 t10 t11
      go_wp2_with fail
      go_ret
      exact ⟨rfl, hB8⟩
  refine join_ (σ := Nat × Value × Nat × Value × Nat × Option Addr × Nat) 3 #[true, true, true, true, true, true, true, true, true, true, false, false, false] (fun s => [(84, .slice (some ⟨s.1, 0, none⟩) 0 0), (86, s.2.1), (88, .slice (some ⟨s.2.2.1, 0, none⟩) 1 1), (89, s.2.2.2.1), (90, .tuple #[.agg #[.int .i64 gw.st, .int .i64 gw.ki, .int .i64 gw.nu, .int .i64 gw.iss, .int .i64 gw.unt, .int .i64 gw.xlo, .int .i64 gw.xhi, .int .i64 gw.ylo, .int .i64 gw.yhi, .int .i64 gw.pri, .bool gw.wd, .slice s.2.2.2.2.2.1 gw.text.length s.2.2.2.2.2.2], .int .i64 ge]), (83, .tuple #[.agg #[.int .i64 gw.st, .int .i64 gw.ki, .int .i64 gw.nu, .int .i64 gw.iss, .int .i64 gw.unt, .int .i64 gw.xlo, .int .i64 gw.xhi, .int .i64 gw.ylo, .int .i64 gw.yhi, .int .i64 gw.pri, .bool gw.wd, .slice s.2.2.2.2.2.1 gw.text.length s.2.2.2.2.2.2], .int .i64 ge]), (91, .agg #[.int .i64 gw.st, .int .i64 gw.ki, .int .i64 gw.nu, .int .i64 gw.iss, .int .i64 gw.unt, .int .i64 gw.xlo, .int .i64 gw.xhi, .int .i64 gw.ylo, .int .i64 gw.yhi, .int .i64 gw.pri, .bool gw.wd, .slice s.2.2.2.2.2.1 gw.text.length s.2.2.2.2.2.2]), (92, .int .i64 ge)]) (fun s W => Below w5.heap.size w5 W ∧ Kd.R (Kd.int .u8) 5 W w5.heap.size (fun _ => True) (.slice s.2.2.2.2.2.1 gw.text.length s.2.2.2.2.2.2) gw.text) ?_ (fun h410 => ?_)
  · rintro ⟨s0, v2, b4, v5, z, A5, c5⟩ W ⟨hBW, hR⟩
    dsimp only at hR
    try dsimp only
    refine norm_ (a' := ?_) ?_ ?_
    rotate_left
    · simp only [putAll, Act.put, List.setIfInBounds_toArray, List.set_cons_zero, List.set_cons_succ]
      rfl
    refine oneS (i := 10) (N := some 22) rfl rfl (by kernel_rfl) (by decide) (fun K hK => ?_)
    · go_simp
      refine hK.out _ _ (hBW.alloc hBW.size _) (fun hHeld => ?_)
      clear hK K hHeld
      have hal := (Below.refl W.heap.size W).alloc (Nat.le_refl W.heap.size) (.cells #[.int .i64 0, .int .i64 0, .int .i64 0, .int .i64 0, .int .i64 0, .int .i64 0, .int .i64 0, .int .i64 0, .int .i64 0, .int .i64 0, .bool false, .slice none 0 0] 30)
      refine relist_ #[true, true, true, true, true, true, true, true, true, true, true, false, false] (by kernel_rfl) ?_ (h411 (s0, v2, b4, v5, W.heap.size, A5, c5) _ ⟨hBW.alloc hBW.size _, Kd.R_mono (Kd.R_alloc (Kd.R_bound hR) (.cells #[.int .i64 0, .int .i64 0, .int .i64 0, .int .i64 0, .int .i64 0, .int .i64 0, .int .i64 0, .int .i64 0, .int .i64 0, .int .i64 0, .bool false, .slice none 0 0] 30)) (fun k hk => by have h1 := hk.2.2.1; show k ≠ W.heap.size; omega), World.alloc_heap_new W _, hBW.size⟩)
      simp only [putAll, Act.put, List.setIfInBounds_toArray, List.set_cons_zero, List.set_cons_succ]
      all_goals rfl
  refine join_ (σ := Nat × Value × Nat × Value × Nat × Option Addr × Nat) 6 #[true, true, true, true, true, true, false, false, false, false, true, false, false] (fun s => [(84, .slice (some ⟨s.1, 0, none⟩) 0 0), (86, s.2.1), (88, .slice (some ⟨s.2.2.1, 0, none⟩) 1 1), (89, s.2.2.2.1), (22, .pointer (some ⟨s.2.2.2.2.1, 0, none⟩))]) (fun s W => Below w5.heap.size w5 W ∧ Kd.R (rawKd 8) 49 W w5.heap.size (fun k => k ≠ s.2.2.2.2.1) s.2.2.2.1 (rawsOf l sv ++ [(rawPiece pk (.slice Ak pk.f5.length ck))]) ∧ W.heap[s.2.2.2.2.1]? = some (.cells #[.int .i64 0, .int .i64 0, .int .i64 0, .int .i64 0, .int .i64 0, .int .i64 0, .int .i64 0, .int .i64 0, .int .i64 0, .int .i64 0, .bool false, .slice none 0 0] 30 (0, 0)) ∧ w5.heap.size ≤ s.2.2.2.2.1) ?_ (fun h311 => ?_)
  · rintro ⟨s0, v2, b4, v5, z, A5, c5⟩ W ⟨hBW, hR, hz, hz0⟩
    dsimp only at hR hz hz0
    try dsimp only
    refine norm_ (a' := ?_) ?_ ?_
    rotate_left
    · simp only [putAll, Act.put, List.setIfInBounds_toArray, List.set_cons_zero, List.set_cons_succ]
      rfl
    obtain ⟨A', c', hv, hcap, hC⟩ := Kd.R_reads hR
    have hlen : (rawsOf l sv ++ [(rawPiece pk (.slice Ak pk.f5.length ck))]).length = l.length + 1 := by rw [List.length_append, rawsOf_len]; rfl
    rw [hlen] at hv hcap hC
    subst hv
    have hb4W := HB45.out.trans (hBW.mono HB45.out.size)
    have hlen2 : (l ++ [pk]).length = l.length + 1 := by rw [List.length_append]; rfl
    have hga := piece_Gather.calls 400 A' c' (l ++ [pk]) gw ge W (by rw [hlen2]; exact mixed_C HSV.out lk HGK.out hb4W rfl hC) (by rw [hlen2]; exact hcap) HG.out
    rw [hlen2] at hga
    clear hlen hlen2
    refine oneS (i := 6) (N := some 90) rfl rfl (by kernel_rfl) (by decide) (fun K hK => ?_)
    · go_simp
      (with_reducible refine hga.mono ?_)
      rintro e W1 ⟨v, rfl, hR1, hb1⟩
      obtain ⟨A6, c6, rfl, hc6, hC6⟩ := Kd.R_reads hR1
      have hB1 := hBW.trans (hb1.mono hBW.size)
      refine hK.out _ _ hB1 (fun hHeld => ?_)
      clear hK K hHeld hga
      refine pureS (i := 7) (N := (some 83)) (v := ?_) (a' := ?_) rfl rfl (by kernel_rfl) (fun _ _ _ h => h) (Or.inl ⟨by rfl, ?_⟩) ?_ ?_
      rotate_left
      · intro w'
        go_simp
        with_reducible rfl
      rotate_left
      · simp only [Act.put, List.setIfInBounds_toArray, List.set_cons_zero, List.set_cons_succ, i64_w, i32_w]
        rfl
      refine pureS (i := 8) (N := (some 91)) (v := ?_) (a' := ?_) rfl rfl (by kernel_rfl) (fun _ _ _ h => h) (Or.inl ⟨by rfl, ?_⟩) ?_ ?_
      rotate_left
      · intro w'
        go_simp
        with_reducible rfl
      rotate_left
      · simp only [Act.put, List.setIfInBounds_toArray, List.set_cons_zero, List.set_cons_succ, i64_w, i32_w]
        rfl
      refine pureS (i := 9) (N := (some 92)) (v := ?_) (a' := ?_) rfl rfl (by kernel_rfl) (fun _ _ _ h => h) (Or.inl ⟨by rfl, ?_⟩) ?_ ?_
      rotate_left
      · intro w'
        go_simp
        with_reducible rfl
      rotate_left
      · simp only [Act.put, List.setIfInBounds_toArray, List.set_cons_zero, List.set_cons_succ, i64_w, i32_w]
        rfl
      refine relist_ #[true, true, true, true, true, true, true, true, true, true, true, false, false] (by kernel_rfl) ?_ (h411 (s0, v2, b4, .slice A' (l.length + 1) c', z, A6, c6) _ ⟨hB1, Kd.R_mono (Kd.R_lower (Kd.R_bound hR1) hBW.size) (fun k hk => by have h1 := hk.2.1; have h2 := blk_lt hz; show k ≠ z; omega), (hb1.block _ (blk_lt hz)).trans hz, hz0⟩)
      simp only [putAll, Act.put, List.setIfInBounds_toArray, List.set_cons_zero, List.set_cons_succ]
      all_goals rfl
  refine join_ (σ := Nat × Value × Nat × Value × Nat × Option Addr × Nat) 7 #[true, true, true, true, true, true, false, false, false, false, false, false, false] (fun s => [(84, .slice (some ⟨s.1, 0, none⟩) 0 0), (86, s.2.1), (88, .slice (some ⟨s.2.2.1, 0, none⟩) 1 1), (89, s.2.2.2.1)]) (fun s W => Below w5.heap.size w5 W ∧ Kd.R (rawKd 8) 49 W w5.heap.size (fun _ => True) s.2.2.2.1 (rawsOf l sv ++ [(rawPiece pk (.slice Ak pk.f5.length ck))])) ?_ (fun h310 => ?_)
  · rintro ⟨s0, v2, b4, v5, z, A5, c5⟩ W ⟨hBW, hR⟩
    dsimp only at hR
    try dsimp only
    refine norm_ (a' := ?_) ?_ ?_
    rotate_left
    · simp only [putAll, Act.put, List.setIfInBounds_toArray, List.set_cons_zero, List.set_cons_succ]
      rfl
    obtain ⟨A', c', hv, hcap, hC⟩ := Kd.R_reads hR
    have hlen : (rawsOf l sv ++ [(rawPiece pk (.slice Ak pk.f5.length ck))]).length = l.length + 1 := by rw [List.length_append, rawsOf_len]; rfl
    rw [hlen] at hv hcap hC
    subst hv
    have hb4W := HB45.out.trans (hBW.mono HB45.out.size)
    have hlen2 : (l ++ [pk]).length = l.length + 1 := by rw [List.length_append]; rfl
    have hga := piece_Gather.calls 400 A' c' (l ++ [pk]) gw ge W (by rw [hlen2]; exact mixed_C HSV.out lk HGK.out hb4W rfl hC) (by rw [hlen2]; exact hcap) HG.out
    rw [hlen2] at hga
    clear hlen hlen2
    refine twoS (i := 6) (j := 10) (Ni := some 90) (Nj := some 22) rfl rfl rfl rfl (by kernel_rfl) (by decide) (by decide) (fun K hK => ?_) (fun K hK => ?_)
    · go_simp
      (with_reducible refine hga.mono ?_)
      rintro e W1 ⟨v, rfl, hR1, hb1⟩
      obtain ⟨A6, c6, rfl, hc6, hC6⟩ := Kd.R_reads hR1
      have hB1 := hBW.trans (hb1.mono hBW.size)
      refine hK.out _ _ hB1 (fun hHeld => ?_)
      clear hK K hHeld hga
      refine pureS (i := 7) (N := (some 83)) (v := ?_) (a' := ?_) rfl rfl (by kernel_rfl) (fun _ _ _ h => h) (Or.inl ⟨by rfl, ?_⟩) ?_ ?_
      rotate_left
      · intro w'
        go_simp
        with_reducible rfl
      rotate_left
      · simp only [Act.put, List.setIfInBounds_toArray, List.set_cons_zero, List.set_cons_succ, i64_w, i32_w]
        rfl
      refine pureS (i := 8) (N := (some 91)) (v := ?_) (a' := ?_) rfl rfl (by kernel_rfl) (fun _ _ _ h => h) (Or.inl ⟨by rfl, ?_⟩) ?_ ?_
      rotate_left
      · intro w'
        go_simp
        with_reducible rfl
      rotate_left
      · simp only [Act.put, List.setIfInBounds_toArray, List.set_cons_zero, List.set_cons_succ, i64_w, i32_w]
        rfl
      refine pureS (i := 9) (N := (some 92)) (v := ?_) (a' := ?_) rfl rfl (by kernel_rfl) (fun _ _ _ h => h) (Or.inl ⟨by rfl, ?_⟩) ?_ ?_
      rotate_left
      · intro w'
        go_simp
        with_reducible rfl
      rotate_left
      · simp only [Act.put, List.setIfInBounds_toArray, List.set_cons_zero, List.set_cons_succ, i64_w, i32_w]
        rfl
      refine relist_ #[true, true, true, true, true, true, true, true, true, true, false, false, false] (by kernel_rfl) ?_ (h410 (s0, v2, b4, .slice A' (l.length + 1) c', z, A6, c6) _ ⟨hB1, Kd.R_mono (Kd.R_lower (Kd.R_bound hR1) hBW.size) (fun k hk => trivial)⟩)
      simp only [putAll, Act.put, List.setIfInBounds_toArray, List.set_cons_zero, List.set_cons_succ]
      all_goals rfl
    · go_simp
      refine hK.out _ _ (hBW.alloc hBW.size _) (fun hHeld => ?_)
      clear hK K hHeld
      have hal := (Below.refl W.heap.size W).alloc (Nat.le_refl W.heap.size) (.cells #[.int .i64 0, .int .i64 0, .int .i64 0, .int .i64 0, .int .i64 0, .int .i64 0, .int .i64 0, .int .i64 0, .int .i64 0, .int .i64 0, .bool false, .slice none 0 0] 30)
      refine relist_ #[true, true, true, true, true, true, false, false, false, false, true, false, false] (by kernel_rfl) ?_ (h311 (s0, v2, b4, (.slice A' (l.length + 1) c'), W.heap.size, A5, c5) _ ⟨hBW.alloc hBW.size _, Kd.R_mono (Kd.R_alloc (Kd.R_bound hR) (.cells #[.int .i64 0, .int .i64 0, .int .i64 0, .int .i64 0, .int .i64 0, .int .i64 0, .int .i64 0, .int .i64 0, .int .i64 0, .int .i64 0, .bool false, .slice none 0 0] 30)) (fun k hk => by have h1 := hk.2.2.1; show k ≠ W.heap.size; omega), World.alloc_heap_new W _, hBW.size⟩)
      simp only [putAll, Act.put, List.setIfInBounds_toArray, List.set_cons_zero, List.set_cons_succ]
      all_goals rfl
  refine join_ (σ := Nat × Value × Nat × Value × Nat × Option Addr × Nat) 7 #[true, true, true, true, true, false, false, false, false, false, true, false, false] (fun s => [(84, .slice (some ⟨s.1, 0, none⟩) 0 0), (86, s.2.1), (88, .slice (some ⟨s.2.2.1, 0, none⟩) 1 1), (22, .pointer (some ⟨s.2.2.2.2.1, 0, none⟩))]) (fun s W => Below w5.heap.size w5 W ∧ Kd.R (rawKd 8) 49 W w5.heap.size (fun k => k ≠ s.2.2.1 ∧ k ≠ s.2.2.2.2.1) s.2.1 (rawsOf l sv) ∧ W.heap[s.2.2.1]? = some (.cells #[.int .i64 pk.f0.f0, .int .i64 pk.f0.f1, .int .i64 pk.f0.f2, .int .i64 pk.f1, .int .i64 pk.f2, .int .i64 pk.f3, .int .i64 pk.f4, .slice Ak pk.f5.length ck] 49 (0, 0)) ∧ W.heap[s.2.2.2.2.1]? = some (.cells #[.int .i64 0, .int .i64 0, .int .i64 0, .int .i64 0, .int .i64 0, .int .i64 0, .int .i64 0, .int .i64 0, .int .i64 0, .int .i64 0, .bool false, .slice none 0 0] 30 (0, 0)) ∧ w5.heap.size ≤ s.2.2.2.2.1) ?_ (fun h211 => ?_)
  · rintro ⟨s0, v2, b4, v5, z, A5, c5⟩ W ⟨hBW, hR, hb, hz, hz0⟩
    dsimp only at hR hb hz hz0
    try dsimp only
    refine norm_ (a' := ?_) ?_ ?_
    rotate_left
    · simp only [putAll, Act.put, List.setIfInBounds_toArray, List.set_cons_zero, List.set_cons_succ]
      rfl
    refine oneS (i := 5) (N := some 89) rfl rfl (by kernel_rfl) (by decide) (fun K hK => ?_)
    · have hb4W := HB45.out.trans (hBW.mono HB45.out.size)
      refine Kd.R_append_rows_step (rawKd 8) (w0 := w5) w5.heap.size rfl (.tmp 86) (.tmp 88) 41 49 (.agg #[.int .i64 0, .int .i64 0, .int .i64 0, .int .i64 0, .int .i64 0, .int .i64 0, .int .i64 0, .slice none 0 0]) 80 rfl Try.underlying41 info_piece rfl (by decide) (by omega) v2 (rawsOf l sv) [(rawPiece pk (.slice Ak pk.f5.length ck))] _ _ _ (fun k => k ≠ b4 ∧ k ≠ z) (fun _ => False) rfl rfl hR (row_one hb rfl (by simp [rawPiece, Value.oneCell'])) (fun _ _ h => h) (fun _ h => h.elim) (fun k hk => ⟨by have h2 := blk_lt hb; show k ≠ b4; omega, by have h2 := blk_lt hz; show k ≠ z; omega⟩) hBW hBW.size ?aL ?_
      case aL => rw [rawsOf_len]; omega
      intro v1 w1 ho hb1 hg _
      refine hK.out _ _ hb1 (fun hHeld => ?_)
      clear hK K hHeld
      refine relist_ #[true, true, true, true, true, true, false, false, false, false, true, false, false] (by kernel_rfl) ?_ (h311 (s0, v2, b4, v1, z, A5, c5) _ ⟨hb1, Kd.R_mono ho (fun k hk => hk.2), (hg.block _ (blk_lt hz) (fun e => (hR.1 z e.symm).2 rfl)).trans hz, hz0⟩)
      simp only [putAll, Act.put, List.setIfInBounds_toArray, List.set_cons_zero, List.set_cons_succ]
      all_goals rfl
  refine join_ (σ := Nat × Value × Nat × Value × Nat × Option Addr × Nat) 8 #[true, true, true, true, true, false, false, false, false, false, false, false, false] (fun s => [(84, .slice (some ⟨s.1, 0, none⟩) 0 0), (86, s.2.1), (88, .slice (some ⟨s.2.2.1, 0, none⟩) 1 1)]) (fun s W => Below w5.heap.size w5 W ∧ Kd.R (rawKd 8) 49 W w5.heap.size (fun k => k ≠ s.2.2.1) s.2.1 (rawsOf l sv) ∧ W.heap[s.2.2.1]? = some (.cells #[.int .i64 pk.f0.f0, .int .i64 pk.f0.f1, .int .i64 pk.f0.f2, .int .i64 pk.f1, .int .i64 pk.f2, .int .i64 pk.f3, .int .i64 pk.f4, .slice Ak pk.f5.length ck] 49 (0, 0))) ?_ (fun h210 => ?_)
  · rintro ⟨s0, v2, b4, v5, z, A5, c5⟩ W ⟨hBW, hR, hb⟩
    dsimp only at hR hb
    try dsimp only
    refine norm_ (a' := ?_) ?_ ?_
    rotate_left
    · simp only [putAll, Act.put, List.setIfInBounds_toArray, List.set_cons_zero, List.set_cons_succ]
      rfl
    refine twoS (i := 5) (j := 10) (Ni := some 89) (Nj := some 22) rfl rfl rfl rfl (by kernel_rfl) (by decide) (by decide) (fun K hK => ?_) (fun K hK => ?_)
    · have hb4W := HB45.out.trans (hBW.mono HB45.out.size)
      refine Kd.R_append_rows_step (rawKd 8) (w0 := w5) w5.heap.size rfl (.tmp 86) (.tmp 88) 41 49 (.agg #[.int .i64 0, .int .i64 0, .int .i64 0, .int .i64 0, .int .i64 0, .int .i64 0, .int .i64 0, .slice none 0 0]) 80 rfl Try.underlying41 info_piece rfl (by decide) (by omega) v2 (rawsOf l sv) [(rawPiece pk (.slice Ak pk.f5.length ck))] _ _ _ (fun k => k ≠ b4) (fun _ => False) rfl rfl hR (row_one hb rfl (by simp [rawPiece, Value.oneCell'])) (fun _ _ h => h) (fun _ h => h.elim) (fun k hk => by have h2 := blk_lt hb; show k ≠ b4; omega) hBW hBW.size ?aL ?_
      case aL => rw [rawsOf_len]; omega
      intro v1 w1 ho hb1 hg _
      refine hK.out _ _ hb1 (fun hHeld => ?_)
      clear hK K hHeld
      refine relist_ #[true, true, true, true, true, true, false, false, false, false, false, false, false] (by kernel_rfl) ?_ (h310 (s0, v2, b4, v1, z, A5, c5) _ ⟨hb1, Kd.R_mono ho (fun k hk => trivial)⟩)
      simp only [putAll, Act.put, List.setIfInBounds_toArray, List.set_cons_zero, List.set_cons_succ]
      all_goals rfl
    · go_simp
      refine hK.out _ _ (hBW.alloc hBW.size _) (fun hHeld => ?_)
      clear hK K hHeld
      have hal := (Below.refl W.heap.size W).alloc (Nat.le_refl W.heap.size) (.cells #[.int .i64 0, .int .i64 0, .int .i64 0, .int .i64 0, .int .i64 0, .int .i64 0, .int .i64 0, .int .i64 0, .int .i64 0, .int .i64 0, .bool false, .slice none 0 0] 30)
      refine relist_ #[true, true, true, true, true, false, false, false, false, false, true, false, false] (by kernel_rfl) ?_ (h211 (s0, v2, b4, v5, W.heap.size, A5, c5) _ ⟨hBW.alloc hBW.size _, Kd.R_mono (Kd.R_alloc (Kd.R_bound hR) (.cells #[.int .i64 0, .int .i64 0, .int .i64 0, .int .i64 0, .int .i64 0, .int .i64 0, .int .i64 0, .int .i64 0, .int .i64 0, .int .i64 0, .bool false, .slice none 0 0] 30)) (fun k hk => ⟨hk.1, by have h1 := hk.2.2.1; show k ≠ W.heap.size; omega⟩), (hal.block _ (blk_lt hb)).trans hb, World.alloc_heap_new W _, hBW.size⟩)
      simp only [putAll, Act.put, List.setIfInBounds_toArray, List.set_cons_zero, List.set_cons_succ]
      all_goals rfl
  refine join_ (σ := Nat × Value × Nat × Value × Nat × Option Addr × Nat) 8 #[true, true, true, true, false, false, false, false, false, false, true, false, false] (fun s => [(84, .slice (some ⟨s.1, 0, none⟩) 0 0), (86, s.2.1), (22, .pointer (some ⟨s.2.2.2.2.1, 0, none⟩))]) (fun s W => Below w5.heap.size w5 W ∧ Kd.R (rawKd 8) 49 W w5.heap.size (fun k => k ≠ s.2.2.2.2.1) s.2.1 (rawsOf l sv) ∧ W.heap[s.2.2.2.2.1]? = some (.cells #[.int .i64 0, .int .i64 0, .int .i64 0, .int .i64 0, .int .i64 0, .int .i64 0, .int .i64 0, .int .i64 0, .int .i64 0, .int .i64 0, .bool false, .slice none 0 0] 30 (0, 0)) ∧ w5.heap.size ≤ s.2.2.2.2.1) ?_ (fun h201 => ?_)
  · rintro ⟨s0, v2, b4, v5, z, A5, c5⟩ W ⟨hBW, hR, hz, hz0⟩
    dsimp only at hR hz hz0
    try dsimp only
    refine norm_ (a' := ?_) ?_ ?_
    rotate_left
    · simp only [putAll, Act.put, List.setIfInBounds_toArray, List.set_cons_zero, List.set_cons_succ]
      rfl
    refine oneS (i := 4) (N := some 88) rfl rfl (by kernel_rfl) (by decide) (fun K hK => ?_)
    · go_simp
      refine hK.out _ _ (hBW.alloc hBW.size _) (fun hHeld => ?_)
      clear hK K hHeld
      have hal := (Below.refl W.heap.size W).alloc (Nat.le_refl W.heap.size) (.cells #[.int .i64 pk.f0.f0, .int .i64 pk.f0.f1, .int .i64 pk.f0.f2, .int .i64 pk.f1, .int .i64 pk.f2, .int .i64 pk.f3, .int .i64 pk.f4, .slice Ak pk.f5.length ck] 49)
      refine relist_ #[true, true, true, true, true, false, false, false, false, false, true, false, false] (by kernel_rfl) ?_ (h211 (s0, v2, W.heap.size, v5, z, A5, c5) _ ⟨hBW.alloc hBW.size _, Kd.R_mono (Kd.R_alloc (Kd.R_bound hR) (.cells #[.int .i64 pk.f0.f0, .int .i64 pk.f0.f1, .int .i64 pk.f0.f2, .int .i64 pk.f1, .int .i64 pk.f2, .int .i64 pk.f3, .int .i64 pk.f4, .slice Ak pk.f5.length ck] 49)) (fun k hk => ⟨by have h1 := hk.2.2.1; show k ≠ W.heap.size; omega, hk.1⟩), World.alloc_heap_new W _, (hal.block _ (blk_lt hz)).trans hz, hz0⟩)
      simp only [putAll, Act.put, List.setIfInBounds_toArray, List.set_cons_zero, List.set_cons_succ]
      all_goals rfl
  refine join_ (σ := Nat × Value × Nat × Value × Nat × Option Addr × Nat) 9 #[true, true, true, true, false, false, false, false, false, false, false, false, false] (fun s => [(84, .slice (some ⟨s.1, 0, none⟩) 0 0), (86, s.2.1)]) (fun s W => Below w5.heap.size w5 W ∧ Kd.R (rawKd 8) 49 W w5.heap.size (fun _ => True) s.2.1 (rawsOf l sv)) ?_ (fun h200 => ?_)
  · rintro ⟨s0, v2, b4, v5, z, A5, c5⟩ W ⟨hBW, hR⟩
    dsimp only at hR
    try dsimp only
    refine norm_ (a' := ?_) ?_ ?_
    rotate_left
    · simp only [putAll, Act.put, List.setIfInBounds_toArray, List.set_cons_zero, List.set_cons_succ]
      rfl
    refine twoS (i := 4) (j := 10) (Ni := some 88) (Nj := some 22) rfl rfl rfl rfl (by kernel_rfl) (by decide) (by decide) (fun K hK => ?_) (fun K hK => ?_)
    · go_simp
      refine hK.out _ _ (hBW.alloc hBW.size _) (fun hHeld => ?_)
      clear hK K hHeld
      have hal := (Below.refl W.heap.size W).alloc (Nat.le_refl W.heap.size) (.cells #[.int .i64 pk.f0.f0, .int .i64 pk.f0.f1, .int .i64 pk.f0.f2, .int .i64 pk.f1, .int .i64 pk.f2, .int .i64 pk.f3, .int .i64 pk.f4, .slice Ak pk.f5.length ck] 49)
      refine relist_ #[true, true, true, true, true, false, false, false, false, false, false, false, false] (by kernel_rfl) ?_ (h210 (s0, v2, W.heap.size, v5, z, A5, c5) _ ⟨hBW.alloc hBW.size _, Kd.R_mono (Kd.R_alloc (Kd.R_bound hR) (.cells #[.int .i64 pk.f0.f0, .int .i64 pk.f0.f1, .int .i64 pk.f0.f2, .int .i64 pk.f1, .int .i64 pk.f2, .int .i64 pk.f3, .int .i64 pk.f4, .slice Ak pk.f5.length ck] 49)) (fun k hk => by have h1 := hk.2.2.1; show k ≠ W.heap.size; omega), World.alloc_heap_new W _⟩)
      simp only [putAll, Act.put, List.setIfInBounds_toArray, List.set_cons_zero, List.set_cons_succ]
      all_goals rfl
    · go_simp
      refine hK.out _ _ (hBW.alloc hBW.size _) (fun hHeld => ?_)
      clear hK K hHeld
      have hal := (Below.refl W.heap.size W).alloc (Nat.le_refl W.heap.size) (.cells #[.int .i64 0, .int .i64 0, .int .i64 0, .int .i64 0, .int .i64 0, .int .i64 0, .int .i64 0, .int .i64 0, .int .i64 0, .int .i64 0, .bool false, .slice none 0 0] 30)
      refine relist_ #[true, true, true, true, false, false, false, false, false, false, true, false, false] (by kernel_rfl) ?_ (h201 (s0, v2, b4, v5, W.heap.size, A5, c5) _ ⟨hBW.alloc hBW.size _, Kd.R_mono (Kd.R_alloc (Kd.R_bound hR) (.cells #[.int .i64 0, .int .i64 0, .int .i64 0, .int .i64 0, .int .i64 0, .int .i64 0, .int .i64 0, .int .i64 0, .int .i64 0, .int .i64 0, .bool false, .slice none 0 0] 30)) (fun k hk => by have h1 := hk.2.2.1; show k ≠ W.heap.size; omega), World.alloc_heap_new W _, hBW.size⟩)
      simp only [putAll, Act.put, List.setIfInBounds_toArray, List.set_cons_zero, List.set_cons_succ]
      all_goals rfl
  refine join_ (σ := Nat × Value × Nat × Value × Nat × Option Addr × Nat) 8 #[true, true, false, true, true, false, false, false, false, false, true, false, false] (fun s => [(84, .slice (some ⟨s.1, 0, none⟩) 0 0), (88, .slice (some ⟨s.2.2.1, 0, none⟩) 1 1), (22, .pointer (some ⟨s.2.2.2.2.1, 0, none⟩))]) (fun s W => Below w5.heap.size w5 W ∧ Kd.R (rawKd 8) 49 W w5.heap.size (fun k => k ≠ s.2.2.1 ∧ k ≠ s.2.2.2.2.1) (.slice (some ⟨s.1, 0, none⟩) 0 0) [] ∧ W.heap[s.2.2.1]? = some (.cells #[.int .i64 pk.f0.f0, .int .i64 pk.f0.f1, .int .i64 pk.f0.f2, .int .i64 pk.f1, .int .i64 pk.f2, .int .i64 pk.f3, .int .i64 pk.f4, .slice Ak pk.f5.length ck] 49 (0, 0)) ∧ W.heap[s.2.2.2.2.1]? = some (.cells #[.int .i64 0, .int .i64 0, .int .i64 0, .int .i64 0, .int .i64 0, .int .i64 0, .int .i64 0, .int .i64 0, .int .i64 0, .int .i64 0, .bool false, .slice none 0 0] 30 (0, 0)) ∧ w5.heap.size ≤ s.2.2.2.2.1) ?_ (fun h111 => ?_)
  · rintro ⟨s0, v2, b4, v5, z, A5, c5⟩ W ⟨hBW, hR, hb, hz, hz0⟩
    dsimp only at hR hb hz hz0
    try dsimp only
    refine norm_ (a' := ?_) ?_ ?_
    rotate_left
    · simp only [putAll, Act.put, List.setIfInBounds_toArray, List.set_cons_zero, List.set_cons_succ]
      rfl
    refine oneS (i := 2) (N := some 86) rfl rfl (by kernel_rfl) (by decide) (fun K hK => ?_)
    · have hb4W := HB45.out.trans (hBW.mono HB45.out.size)
      refine Kd.R_append_rows_step (rawKd 8) (w0 := w5) w5.heap.size rfl (.tmp 84) (.tmp 85) 41 49 (.agg #[.int .i64 0, .int .i64 0, .int .i64 0, .int .i64 0, .int .i64 0, .int .i64 0, .int .i64 0, .slice none 0 0]) 80 rfl Try.underlying41 info_piece rfl (by decide) (by omega) (.slice (some ⟨s0, 0, none⟩) 0 0) ([] : List (List Value)) (rawsOf l sv) _ _ _ (fun k => k ≠ b4 ∧ k ≠ z) (fun _ => False) rfl rfl hR (Kd.C_below HRAW.out hb4W) (fun _ _ h => h) (fun _ h => h.elim) (fun k hk => ⟨by have h2 := blk_lt hb; show k ≠ b4; omega, by have h2 := blk_lt hz; show k ≠ z; omega⟩) hBW hBW.size ?aL ?_
      case aL => simp; omega
      intro v1 w1 ho hb1 hg _
      rw [List.nil_append] at ho
      refine hK.out _ _ hb1 (fun hHeld => ?_)
      clear hK K hHeld
      refine relist_ #[true, true, true, true, true, false, false, false, false, false, true, false, false] (by kernel_rfl) ?_ (h211 (s0, v1, b4, v5, z, A5, c5) _ ⟨hb1, ho, (hg.block _ (blk_lt hb) (fun e => (hR.1 s0 rfl).1 (Option.some.inj e).symm)).trans hb, (hg.block _ (blk_lt hz) (fun e => (hR.1 s0 rfl).2 (Option.some.inj e).symm)).trans hz, hz0⟩)
      simp only [putAll, Act.put, List.setIfInBounds_toArray, List.set_cons_zero, List.set_cons_succ]
      all_goals rfl
  refine join_ (σ := Nat × Value × Nat × Value × Nat × Option Addr × Nat) 9 #[true, true, false, true, true, false, false, false, false, false, false, false, false] (fun s => [(84, .slice (some ⟨s.1, 0, none⟩) 0 0), (88, .slice (some ⟨s.2.2.1, 0, none⟩) 1 1)]) (fun s W => Below w5.heap.size w5 W ∧ Kd.R (rawKd 8) 49 W w5.heap.size (fun k => k ≠ s.2.2.1) (.slice (some ⟨s.1, 0, none⟩) 0 0) [] ∧ W.heap[s.2.2.1]? = some (.cells #[.int .i64 pk.f0.f0, .int .i64 pk.f0.f1, .int .i64 pk.f0.f2, .int .i64 pk.f1, .int .i64 pk.f2, .int .i64 pk.f3, .int .i64 pk.f4, .slice Ak pk.f5.length ck] 49 (0, 0))) ?_ (fun h110 => ?_)
  · rintro ⟨s0, v2, b4, v5, z, A5, c5⟩ W ⟨hBW, hR, hb⟩
    dsimp only at hR hb
    try dsimp only
    refine norm_ (a' := ?_) ?_ ?_
    rotate_left
    · simp only [putAll, Act.put, List.setIfInBounds_toArray, List.set_cons_zero, List.set_cons_succ]
      rfl
    refine twoS (i := 2) (j := 10) (Ni := some 86) (Nj := some 22) rfl rfl rfl rfl (by kernel_rfl) (by decide) (by decide) (fun K hK => ?_) (fun K hK => ?_)
    · have hb4W := HB45.out.trans (hBW.mono HB45.out.size)
      refine Kd.R_append_rows_step (rawKd 8) (w0 := w5) w5.heap.size rfl (.tmp 84) (.tmp 85) 41 49 (.agg #[.int .i64 0, .int .i64 0, .int .i64 0, .int .i64 0, .int .i64 0, .int .i64 0, .int .i64 0, .slice none 0 0]) 80 rfl Try.underlying41 info_piece rfl (by decide) (by omega) (.slice (some ⟨s0, 0, none⟩) 0 0) ([] : List (List Value)) (rawsOf l sv) _ _ _ (fun k => k ≠ b4) (fun _ => False) rfl rfl hR (Kd.C_below HRAW.out hb4W) (fun _ _ h => h) (fun _ h => h.elim) (fun k hk => by have h2 := blk_lt hb; show k ≠ b4; omega) hBW hBW.size ?aL ?_
      case aL => simp; omega
      intro v1 w1 ho hb1 hg _
      rw [List.nil_append] at ho
      refine hK.out _ _ hb1 (fun hHeld => ?_)
      clear hK K hHeld
      refine relist_ #[true, true, true, true, true, false, false, false, false, false, false, false, false] (by kernel_rfl) ?_ (h210 (s0, v1, b4, v5, z, A5, c5) _ ⟨hb1, ho, (hg.block _ (blk_lt hb) (fun e => (hR.1 s0 rfl) (Option.some.inj e).symm)).trans hb⟩)
      simp only [putAll, Act.put, List.setIfInBounds_toArray, List.set_cons_zero, List.set_cons_succ]
      all_goals rfl
    · go_simp
      refine hK.out _ _ (hBW.alloc hBW.size _) (fun hHeld => ?_)
      clear hK K hHeld
      have hal := (Below.refl W.heap.size W).alloc (Nat.le_refl W.heap.size) (.cells #[.int .i64 0, .int .i64 0, .int .i64 0, .int .i64 0, .int .i64 0, .int .i64 0, .int .i64 0, .int .i64 0, .int .i64 0, .int .i64 0, .bool false, .slice none 0 0] 30)
      refine relist_ #[true, true, false, true, true, false, false, false, false, false, true, false, false] (by kernel_rfl) ?_ (h111 (s0, v2, b4, v5, W.heap.size, A5, c5) _ ⟨hBW.alloc hBW.size _, Kd.R_mono (Kd.R_alloc (Kd.R_bound hR) (.cells #[.int .i64 0, .int .i64 0, .int .i64 0, .int .i64 0, .int .i64 0, .int .i64 0, .int .i64 0, .int .i64 0, .int .i64 0, .int .i64 0, .bool false, .slice none 0 0] 30)) (fun k hk => ⟨hk.1, by have h1 := hk.2.2.1; show k ≠ W.heap.size; omega⟩), (hal.block _ (blk_lt hb)).trans hb, World.alloc_heap_new W _, hBW.size⟩)
      simp only [putAll, Act.put, List.setIfInBounds_toArray, List.set_cons_zero, List.set_cons_succ]
      all_goals rfl
  refine join_ (σ := Nat × Value × Nat × Value × Nat × Option Addr × Nat) 9 #[true, true, false, true, false, false, false, false, false, false, true, false, false] (fun s => [(84, .slice (some ⟨s.1, 0, none⟩) 0 0), (22, .pointer (some ⟨s.2.2.2.2.1, 0, none⟩))]) (fun s W => Below w5.heap.size w5 W ∧ Kd.R (rawKd 8) 49 W w5.heap.size (fun k => k ≠ s.2.2.2.2.1) (.slice (some ⟨s.1, 0, none⟩) 0 0) [] ∧ W.heap[s.2.2.2.2.1]? = some (.cells #[.int .i64 0, .int .i64 0, .int .i64 0, .int .i64 0, .int .i64 0, .int .i64 0, .int .i64 0, .int .i64 0, .int .i64 0, .int .i64 0, .bool false, .slice none 0 0] 30 (0, 0)) ∧ w5.heap.size ≤ s.2.2.2.2.1) ?_ (fun h101 => ?_)
  · rintro ⟨s0, v2, b4, v5, z, A5, c5⟩ W ⟨hBW, hR, hz, hz0⟩
    dsimp only at hR hz hz0
    try dsimp only
    refine norm_ (a' := ?_) ?_ ?_
    rotate_left
    · simp only [putAll, Act.put, List.setIfInBounds_toArray, List.set_cons_zero, List.set_cons_succ]
      rfl
    refine twoS (i := 2) (j := 4) (Ni := some 86) (Nj := some 88) rfl rfl rfl rfl (by kernel_rfl) (by decide) (by decide) (fun K hK => ?_) (fun K hK => ?_)
    · have hb4W := HB45.out.trans (hBW.mono HB45.out.size)
      refine Kd.R_append_rows_step (rawKd 8) (w0 := w5) w5.heap.size rfl (.tmp 84) (.tmp 85) 41 49 (.agg #[.int .i64 0, .int .i64 0, .int .i64 0, .int .i64 0, .int .i64 0, .int .i64 0, .int .i64 0, .slice none 0 0]) 80 rfl Try.underlying41 info_piece rfl (by decide) (by omega) (.slice (some ⟨s0, 0, none⟩) 0 0) ([] : List (List Value)) (rawsOf l sv) _ _ _ (fun k => k ≠ z) (fun _ => False) rfl rfl hR (Kd.C_below HRAW.out hb4W) (fun _ _ h => h) (fun _ h => h.elim) (fun k hk => by have h2 := blk_lt hz; show k ≠ z; omega) hBW hBW.size ?aL ?_
      case aL => simp; omega
      intro v1 w1 ho hb1 hg _
      rw [List.nil_append] at ho
      refine hK.out _ _ hb1 (fun hHeld => ?_)
      clear hK K hHeld
      refine relist_ #[true, true, true, true, false, false, false, false, false, false, true, false, false] (by kernel_rfl) ?_ (h201 (s0, v1, b4, v5, z, A5, c5) _ ⟨hb1, ho, (hg.block _ (blk_lt hz) (fun e => (hR.1 s0 rfl) (Option.some.inj e).symm)).trans hz, hz0⟩)
      simp only [putAll, Act.put, List.setIfInBounds_toArray, List.set_cons_zero, List.set_cons_succ]
      all_goals rfl
    · go_simp
      refine hK.out _ _ (hBW.alloc hBW.size _) (fun hHeld => ?_)
      clear hK K hHeld
      have hal := (Below.refl W.heap.size W).alloc (Nat.le_refl W.heap.size) (.cells #[.int .i64 pk.f0.f0, .int .i64 pk.f0.f1, .int .i64 pk.f0.f2, .int .i64 pk.f1, .int .i64 pk.f2, .int .i64 pk.f3, .int .i64 pk.f4, .slice Ak pk.f5.length ck] 49)
      refine relist_ #[true, true, false, true, true, false, false, false, false, false, true, false, false] (by kernel_rfl) ?_ (h111 (s0, v2, W.heap.size, v5, z, A5, c5) _ ⟨hBW.alloc hBW.size _, Kd.R_mono (Kd.R_alloc (Kd.R_bound hR) (.cells #[.int .i64 pk.f0.f0, .int .i64 pk.f0.f1, .int .i64 pk.f0.f2, .int .i64 pk.f1, .int .i64 pk.f2, .int .i64 pk.f3, .int .i64 pk.f4, .slice Ak pk.f5.length ck] 49)) (fun k hk => ⟨by have h1 := hk.2.2.1; show k ≠ W.heap.size; omega, hk.1⟩), World.alloc_heap_new W _, (hal.block _ (blk_lt hz)).trans hz, hz0⟩)
      simp only [putAll, Act.put, List.setIfInBounds_toArray, List.set_cons_zero, List.set_cons_succ]
      all_goals rfl
  refine join_ (σ := Nat × Value × Nat × Value × Nat × Option Addr × Nat) 10 #[true, true, false, true, false, false, false, false, false, false, false, false, false] (fun s => [(84, .slice (some ⟨s.1, 0, none⟩) 0 0)]) (fun s W => Below w5.heap.size w5 W ∧ Kd.R (rawKd 8) 49 W w5.heap.size (fun _ => True) (.slice (some ⟨s.1, 0, none⟩) 0 0) []) ?_ (fun h100 => ?_)
  · rintro ⟨s0, v2, b4, v5, z, A5, c5⟩ W ⟨hBW, hR⟩
    dsimp only at hR
    try dsimp only
    refine norm_ (a' := ?_) ?_ ?_
    rotate_left
    · simp only [putAll, Act.put, List.setIfInBounds_toArray, List.set_cons_zero, List.set_cons_succ]
      rfl
    refine threeS (i := 2) (j := 4) (k := 10) (Ni := some 86) (Nj := some 88) (Nk := some 22) rfl rfl rfl rfl rfl rfl (by kernel_rfl) (by decide) (by decide) (by decide) (fun K hK => ?_) (fun K hK => ?_) (fun K hK => ?_)
    · have hb4W := HB45.out.trans (hBW.mono HB45.out.size)
      refine Kd.R_append_rows_step (rawKd 8) (w0 := w5) w5.heap.size rfl (.tmp 84) (.tmp 85) 41 49 (.agg #[.int .i64 0, .int .i64 0, .int .i64 0, .int .i64 0, .int .i64 0, .int .i64 0, .int .i64 0, .slice none 0 0]) 80 rfl Try.underlying41 info_piece rfl (by decide) (by omega) (.slice (some ⟨s0, 0, none⟩) 0 0) ([] : List (List Value)) (rawsOf l sv) _ _ _ (fun _ => True) (fun _ => False) rfl rfl hR (Kd.C_below HRAW.out hb4W) (fun _ _ h => h) (fun _ h => h.elim) (fun k hk => trivial) hBW hBW.size ?aL ?_
      case aL => simp; omega
      intro v1 w1 ho hb1 hg _
      rw [List.nil_append] at ho
      refine hK.out _ _ hb1 (fun hHeld => ?_)
      clear hK K hHeld
      refine relist_ #[true, true, true, true, false, false, false, false, false, false, false, false, false] (by kernel_rfl) ?_ (h200 (s0, v1, b4, v5, z, A5, c5) _ ⟨hb1, ho⟩)
      simp only [putAll, Act.put, List.setIfInBounds_toArray, List.set_cons_zero, List.set_cons_succ]
      all_goals rfl
    · go_simp
      refine hK.out _ _ (hBW.alloc hBW.size _) (fun hHeld => ?_)
      clear hK K hHeld
      have hal := (Below.refl W.heap.size W).alloc (Nat.le_refl W.heap.size) (.cells #[.int .i64 pk.f0.f0, .int .i64 pk.f0.f1, .int .i64 pk.f0.f2, .int .i64 pk.f1, .int .i64 pk.f2, .int .i64 pk.f3, .int .i64 pk.f4, .slice Ak pk.f5.length ck] 49)
      refine relist_ #[true, true, false, true, true, false, false, false, false, false, false, false, false] (by kernel_rfl) ?_ (h110 (s0, v2, W.heap.size, v5, z, A5, c5) _ ⟨hBW.alloc hBW.size _, Kd.R_mono (Kd.R_alloc (Kd.R_bound hR) (.cells #[.int .i64 pk.f0.f0, .int .i64 pk.f0.f1, .int .i64 pk.f0.f2, .int .i64 pk.f1, .int .i64 pk.f2, .int .i64 pk.f3, .int .i64 pk.f4, .slice Ak pk.f5.length ck] 49)) (fun k hk => by have h1 := hk.2.2.1; show k ≠ W.heap.size; omega), World.alloc_heap_new W _⟩)
      simp only [putAll, Act.put, List.setIfInBounds_toArray, List.set_cons_zero, List.set_cons_succ]
      all_goals rfl
    · go_simp
      refine hK.out _ _ (hBW.alloc hBW.size _) (fun hHeld => ?_)
      clear hK K hHeld
      have hal := (Below.refl W.heap.size W).alloc (Nat.le_refl W.heap.size) (.cells #[.int .i64 0, .int .i64 0, .int .i64 0, .int .i64 0, .int .i64 0, .int .i64 0, .int .i64 0, .int .i64 0, .int .i64 0, .int .i64 0, .bool false, .slice none 0 0] 30)
      refine relist_ #[true, true, false, true, false, false, false, false, false, false, true, false, false] (by kernel_rfl) ?_ (h101 (s0, v2, b4, v5, W.heap.size, A5, c5) _ ⟨hBW.alloc hBW.size _, Kd.R_mono (Kd.R_alloc (Kd.R_bound hR) (.cells #[.int .i64 0, .int .i64 0, .int .i64 0, .int .i64 0, .int .i64 0, .int .i64 0, .int .i64 0, .int .i64 0, .int .i64 0, .int .i64 0, .bool false, .slice none 0 0] 30)) (fun k hk => by have h1 := hk.2.2.1; show k ≠ W.heap.size; omega), World.alloc_heap_new W _, hBW.size⟩)
      simp only [putAll, Act.put, List.setIfInBounds_toArray, List.set_cons_zero, List.set_cons_succ]
      all_goals rfl
  refine join_ (σ := Nat × Value × Nat × Value × Nat × Option Addr × Nat) 9 #[false, true, false, true, true, false, false, false, false, false, true, false, false] (fun s => [(88, .slice (some ⟨s.2.2.1, 0, none⟩) 1 1), (22, .pointer (some ⟨s.2.2.2.2.1, 0, none⟩))]) (fun s W => Below w5.heap.size w5 W ∧ W.heap[s.2.2.1]? = some (.cells #[.int .i64 pk.f0.f0, .int .i64 pk.f0.f1, .int .i64 pk.f0.f2, .int .i64 pk.f1, .int .i64 pk.f2, .int .i64 pk.f3, .int .i64 pk.f4, .slice Ak pk.f5.length ck] 49 (0, 0)) ∧ W.heap[s.2.2.2.2.1]? = some (.cells #[.int .i64 0, .int .i64 0, .int .i64 0, .int .i64 0, .int .i64 0, .int .i64 0, .int .i64 0, .int .i64 0, .int .i64 0, .int .i64 0, .bool false, .slice none 0 0] 30 (0, 0)) ∧ w5.heap.size ≤ s.2.2.2.2.1) ?_ (fun h011 => ?_)
  · rintro ⟨s0, v2, b4, v5, z, A5, c5⟩ W ⟨hBW, hb, hz, hz0⟩
    dsimp only at hb hz hz0
    try dsimp only
    refine norm_ (a' := ?_) ?_ ?_
    rotate_left
    · simp only [putAll, Act.put, List.setIfInBounds_toArray, List.set_cons_zero, List.set_cons_succ]
      rfl
    refine oneS (i := 0) (N := some 84) rfl rfl (by kernel_rfl) (by decide) (fun K hK => ?_)
    · go_simp
      refine hK.out _ _ (hBW.alloc hBW.size _) (fun hHeld => ?_)
      clear hK K hHeld
      have hal := (Below.refl W.heap.size W).alloc (Nat.le_refl W.heap.size) (.cells #[] 49)
      refine relist_ #[true, true, false, true, true, false, false, false, false, false, true, false, false] (by kernel_rfl) ?_ (h111 (W.heap.size, v2, b4, v5, z, A5, c5) _ ⟨hBW.alloc hBW.size _, Kd.R_mono (Kd.R_lower (Kd.R_bound (R_lit0 (rawKd 8) 49 W)) hBW.size) (fun k hk => ⟨by have h1 := hk.2.1; have h2 := blk_lt hb; show k ≠ b4; omega, by have h1 := hk.2.1; have h2 := blk_lt hz; show k ≠ z; omega⟩), (hal.block _ (blk_lt hb)).trans hb, (hal.block _ (blk_lt hz)).trans hz, hz0⟩)
      simp only [putAll, Act.put, List.setIfInBounds_toArray, List.set_cons_zero, List.set_cons_succ]
      all_goals rfl
  refine join_ (σ := Nat × Value × Nat × Value × Nat × Option Addr × Nat) 10 #[false, true, false, true, true, false, false, false, false, false, false, false, false] (fun s => [(88, .slice (some ⟨s.2.2.1, 0, none⟩) 1 1)]) (fun s W => Below w5.heap.size w5 W ∧ W.heap[s.2.2.1]? = some (.cells #[.int .i64 pk.f0.f0, .int .i64 pk.f0.f1, .int .i64 pk.f0.f2, .int .i64 pk.f1, .int .i64 pk.f2, .int .i64 pk.f3, .int .i64 pk.f4, .slice Ak pk.f5.length ck] 49 (0, 0))) ?_ (fun h010 => ?_)
  · rintro ⟨s0, v2, b4, v5, z, A5, c5⟩ W ⟨hBW, hb⟩
    dsimp only at hb
    try dsimp only
    refine norm_ (a' := ?_) ?_ ?_
    rotate_left
    · simp only [putAll, Act.put, List.setIfInBounds_toArray, List.set_cons_zero, List.set_cons_succ]
      rfl
    refine twoS (i := 0) (j := 10) (Ni := some 84) (Nj := some 22) rfl rfl rfl rfl (by kernel_rfl) (by decide) (by decide) (fun K hK => ?_) (fun K hK => ?_)
    · go_simp
      refine hK.out _ _ (hBW.alloc hBW.size _) (fun hHeld => ?_)
      clear hK K hHeld
      have hal := (Below.refl W.heap.size W).alloc (Nat.le_refl W.heap.size) (.cells #[] 49)
      refine relist_ #[true, true, false, true, true, false, false, false, false, false, false, false, false] (by kernel_rfl) ?_ (h110 (W.heap.size, v2, b4, v5, z, A5, c5) _ ⟨hBW.alloc hBW.size _, Kd.R_mono (Kd.R_lower (Kd.R_bound (R_lit0 (rawKd 8) 49 W)) hBW.size) (fun k hk => by have h1 := hk.2.1; have h2 := blk_lt hb; show k ≠ b4; omega), (hal.block _ (blk_lt hb)).trans hb⟩)
      simp only [putAll, Act.put, List.setIfInBounds_toArray, List.set_cons_zero, List.set_cons_succ]
      all_goals rfl
    · go_simp
      refine hK.out _ _ (hBW.alloc hBW.size _) (fun hHeld => ?_)
      clear hK K hHeld
      have hal := (Below.refl W.heap.size W).alloc (Nat.le_refl W.heap.size) (.cells #[.int .i64 0, .int .i64 0, .int .i64 0, .int .i64 0, .int .i64 0, .int .i64 0, .int .i64 0, .int .i64 0, .int .i64 0, .int .i64 0, .bool false, .slice none 0 0] 30)
      refine relist_ #[false, true, false, true, true, false, false, false, false, false, true, false, false] (by kernel_rfl) ?_ (h011 (s0, v2, b4, v5, W.heap.size, A5, c5) _ ⟨hBW.alloc hBW.size _, (hal.block _ (blk_lt hb)).trans hb, World.alloc_heap_new W _, hBW.size⟩)
      simp only [putAll, Act.put, List.setIfInBounds_toArray, List.set_cons_zero, List.set_cons_succ]
      all_goals rfl
  refine join_ (σ := Nat × Value × Nat × Value × Nat × Option Addr × Nat) 10 #[false, true, false, true, false, false, false, false, false, false, true, false, false] (fun s => [(22, .pointer (some ⟨s.2.2.2.2.1, 0, none⟩))]) (fun s W => Below w5.heap.size w5 W ∧ W.heap[s.2.2.2.2.1]? = some (.cells #[.int .i64 0, .int .i64 0, .int .i64 0, .int .i64 0, .int .i64 0, .int .i64 0, .int .i64 0, .int .i64 0, .int .i64 0, .int .i64 0, .bool false, .slice none 0 0] 30 (0, 0)) ∧ w5.heap.size ≤ s.2.2.2.2.1) ?_ (fun h001 => ?_)
  · rintro ⟨s0, v2, b4, v5, z, A5, c5⟩ W ⟨hBW, hz, hz0⟩
    dsimp only at hz hz0
    try dsimp only
    refine norm_ (a' := ?_) ?_ ?_
    rotate_left
    · simp only [putAll, Act.put, List.setIfInBounds_toArray, List.set_cons_zero, List.set_cons_succ]
      rfl
    refine twoS (i := 0) (j := 4) (Ni := some 84) (Nj := some 88) rfl rfl rfl rfl (by kernel_rfl) (by decide) (by decide) (fun K hK => ?_) (fun K hK => ?_)
    · go_simp
      refine hK.out _ _ (hBW.alloc hBW.size _) (fun hHeld => ?_)
      clear hK K hHeld
      have hal := (Below.refl W.heap.size W).alloc (Nat.le_refl W.heap.size) (.cells #[] 49)
      refine relist_ #[true, true, false, true, false, false, false, false, false, false, true, false, false] (by kernel_rfl) ?_ (h101 (W.heap.size, v2, b4, v5, z, A5, c5) _ ⟨hBW.alloc hBW.size _, Kd.R_mono (Kd.R_lower (Kd.R_bound (R_lit0 (rawKd 8) 49 W)) hBW.size) (fun k hk => by have h1 := hk.2.1; have h2 := blk_lt hz; show k ≠ z; omega), (hal.block _ (blk_lt hz)).trans hz, hz0⟩)
      simp only [putAll, Act.put, List.setIfInBounds_toArray, List.set_cons_zero, List.set_cons_succ]
      all_goals rfl
    · go_simp
      refine hK.out _ _ (hBW.alloc hBW.size _) (fun hHeld => ?_)
      clear hK K hHeld
      have hal := (Below.refl W.heap.size W).alloc (Nat.le_refl W.heap.size) (.cells #[.int .i64 pk.f0.f0, .int .i64 pk.f0.f1, .int .i64 pk.f0.f2, .int .i64 pk.f1, .int .i64 pk.f2, .int .i64 pk.f3, .int .i64 pk.f4, .slice Ak pk.f5.length ck] 49)
      refine relist_ #[false, true, false, true, true, false, false, false, false, false, true, false, false] (by kernel_rfl) ?_ (h011 (s0, v2, W.heap.size, v5, z, A5, c5) _ ⟨hBW.alloc hBW.size _, World.alloc_heap_new W _, (hal.block _ (blk_lt hz)).trans hz, hz0⟩)
      simp only [putAll, Act.put, List.setIfInBounds_toArray, List.set_cons_zero, List.set_cons_succ]
      all_goals rfl
  refine join_ (σ := Nat × Value × Nat × Value × Nat × Option Addr × Nat) 11 #[false, true, false, true, false, false, false, false, false, false, false, false, false] (fun _ => []) (fun s W => Below w5.heap.size w5 W) ?_ (fun h000 => ?_)
  · rintro ⟨s0, v2, b4, v5, z, A5, c5⟩ W hBW
    try dsimp only
    refine norm_ (a' := ?_) ?_ ?_
    rotate_left
    · simp only [putAll, Act.put, List.setIfInBounds_toArray, List.set_cons_zero, List.set_cons_succ]
      rfl
    refine threeS (i := 0) (j := 4) (k := 10) (Ni := some 84) (Nj := some 88) (Nk := some 22) rfl rfl rfl rfl rfl rfl (by kernel_rfl) (by decide) (by decide) (by decide) (fun K hK => ?_) (fun K hK => ?_) (fun K hK => ?_)
    · go_simp
      refine hK.out _ _ (hBW.alloc hBW.size _) (fun hHeld => ?_)
      clear hK K hHeld
      have hal := (Below.refl W.heap.size W).alloc (Nat.le_refl W.heap.size) (.cells #[] 49)
      refine relist_ #[true, true, false, true, false, false, false, false, false, false, false, false, false] (by kernel_rfl) ?_ (h100 (W.heap.size, v2, b4, v5, z, A5, c5) _ ⟨hBW.alloc hBW.size _, Kd.R_mono (Kd.R_lower (Kd.R_bound (R_lit0 (rawKd 8) 49 W)) hBW.size) (fun k hk => trivial)⟩)
      simp only [putAll, Act.put, List.setIfInBounds_toArray, List.set_cons_zero, List.set_cons_succ]
      all_goals rfl
    · go_simp
      refine hK.out _ _ (hBW.alloc hBW.size _) (fun hHeld => ?_)
      clear hK K hHeld
      have hal := (Below.refl W.heap.size W).alloc (Nat.le_refl W.heap.size) (.cells #[.int .i64 pk.f0.f0, .int .i64 pk.f0.f1, .int .i64 pk.f0.f2, .int .i64 pk.f1, .int .i64 pk.f2, .int .i64 pk.f3, .int .i64 pk.f4, .slice Ak pk.f5.length ck] 49)
      refine relist_ #[false, true, false, true, true, false, false, false, false, false, false, false, false] (by kernel_rfl) ?_ (h010 (s0, v2, W.heap.size, v5, z, A5, c5) _ ⟨hBW.alloc hBW.size _, World.alloc_heap_new W _⟩)
      simp only [putAll, Act.put, List.setIfInBounds_toArray, List.set_cons_zero, List.set_cons_succ]
      all_goals rfl
    · go_simp
      refine hK.out _ _ (hBW.alloc hBW.size _) (fun hHeld => ?_)
      clear hK K hHeld
      have hal := (Below.refl W.heap.size W).alloc (Nat.le_refl W.heap.size) (.cells #[.int .i64 0, .int .i64 0, .int .i64 0, .int .i64 0, .int .i64 0, .int .i64 0, .int .i64 0, .int .i64 0, .int .i64 0, .int .i64 0, .bool false, .slice none 0 0] 30)
      refine relist_ #[false, true, false, true, false, false, false, false, false, false, true, false, false] (by kernel_rfl) ?_ (h001 (s0, v2, b4, v5, W.heap.size, A5, c5) _ ⟨hBW.alloc hBW.size _, World.alloc_heap_new W _, hBW.size⟩)
      simp only [putAll, Act.put, List.setIfInBounds_toArray, List.set_cons_zero, List.set_cons_succ]
      all_goals rfl
  exact h000 (0, undef, 0, undef, 0, none, 0) wd hS0
end Go.Proofs.YthiealhmcfdakaaH
end
section
namespace Go.Proofs.Ythiealhmcfdakaa.pieceMixed
open Go.ChangeShapes Go.WideShapes Go.ChangeAt Go.RowKit
open Go.ChangeMaps (open_string shut_string)
open Go.Proofs.YthiealhmcfdakaaH Go.Proofs.YthiealhmcfdakaaM
set_option linter.unusedVariables false
theorem own : ownKnob Try.prog.godebug = none := by kernel_rfl
theorem laidOut : laidOutB Try.prog = true := by kernel_rfl
set_option maxHeartbeats 4000000 in
set_option maxRecDepth 100000 in
theorem lifted (os : Os) (started : os.Started) (H : Type) (enc : TypeId × Value → H) :
    ReturnsInHanded {} Try.checked os 7 .any (Rows.pieceMixedSpec.pre6 enc Try.prog Try.f7 Rows.pieceMixedRow.domain false) (Rows.pieceMixedSpec.post enc Try.prog Try.f7 false true false false) := by
  refine returnsInHanded_of_change_sized (C := Try.checked) own started (by kernel_rfl) Try.func7
    (ChangeSpec.witness6 (enc := enc) (C := Try.checked) false ⟨#[], #[.agg #[.int .i64 0, .int .i64 0, .int .i64 0, .int .i64 0, .int .i64 0, .int .i64 0, .int .i64 0, .int .i64 0, .int .i64 0, .int .i64 0, .bool false, .slice none 0 0], .agg #[.int .i64 0, .int .i64 0, .int .i64 0, .int .i64 0, .int .i64 0, .int .i64 0, .int .i64 0, .int .i64 0, .int .i64 0, .int .i64 0, .bool false, .slice none 0 0], .int .i64 0, .int .i64 0, .int .i64 0, .int .u8 0, .int .u8 0], []⟩ 8 (by kernel_rfl) (by kernel_rfl) (by kernel_rfl) (by kernel_rfl)) ?_
  intro W base args ds gs before hval0 hW hcnd hsz0 _
  have hsz : (DataW.weightsEach Try.prog (Try.f7.params.toList ++ Rows.pieceMixedSpec.plain.varTypes Try.prog) (ds ++ gs)).all (· ≤ reachBytes) = true := hsz0
  have hval : ∀ (j : Nat) t v, Try.f7.params[j]? = some t → args[j]? = some v → Value.okWide Try.prog W .any base t v := hval0
  have hW' := hW
  obtain ⟨p, q, hA0, hV, rfl, hfz, hnd⟩ := hW
  have hA : DataW.TrodAll enc Try.prog W 0 (fun _ => true) true Try.f7.params.toList args.toList ds p := hA0
  rw [Try.params7] at hA hval hsz
  obtain ⟨v0, vs0, d0, ds0, p0, q0, hargs, rfl, rfl, h0, r0⟩ := trodAll_cons hA
  obtain ⟨v1, vs1, d1, ds1, p1, q1, rfl, rfl, rfl, h1, r1⟩ := trodAll_cons r0
  obtain ⟨v2, vs2, d2, ds2, p2, q2, rfl, rfl, rfl, h2, r2⟩ := trodAll_cons r1
  obtain ⟨v3, vs3, d3, ds3, p3, q3, rfl, rfl, rfl, h3, r3⟩ := trodAll_cons r2
  obtain ⟨v4, vs4, d4, ds4, p4, q4, rfl, rfl, rfl, h4, r4⟩ := trodAll_cons r3
  obtain ⟨v5, vs5, d5, ds5, p5, q5, rfl, rfl, rfl, h5, r5⟩ := trodAll_cons r4
  obtain ⟨v6, vs6, d6, ds6, p6, q6, rfl, rfl, rfl, h6, r6⟩ := trodAll_cons r5
  obtain ⟨rfl, rfl, rfl⟩ := trodAll_nil r6
  obtain rfl : args = #[v0, v1, v2, v3, v4, v5, v6] := by cases args; simp_all
  obtain ⟨rfl, rfl⟩ := trodVars_none hV
  have k0 := h0
  have lt0 : ∀ x ∈ p0, x.block < W.heap.size := by obtain ⟨m, hm⟩ := k0; exact DataW.trod_lt m _ _ _ hm
  obtain ⟨cs0, rfl, hz0⟩ := okWide_struct Try.underlying30 (hval 0 30 v0 rfl rfl)
  obtain ⟨l0⟩ := cs0
  obtain ⟨fuel0, hf0⟩ := h0
  obtain ⟨x0, A0, c0, hcs0, hc0, hC0, hU0⟩ := open_warn hf0
  have hcs0' : l0 = _ := hcs0
  subst hcs0'
  have k1 := h1
  have lt1 : ∀ x ∈ p1, x.block < W.heap.size := by obtain ⟨m, hm⟩ := k1; exact DataW.trod_lt m _ _ _ hm
  obtain ⟨cs1, rfl, hz1⟩ := okWide_struct Try.underlying30 (hval 1 30 v1 rfl rfl)
  obtain ⟨l1⟩ := cs1
  obtain ⟨fuel1, hf1⟩ := h1
  obtain ⟨x1, A1, c1, hcs1, hc1, hC1, hU1⟩ := open_warn hf1
  have hcs1' : l1 = _ := hcs1
  subst hcs1'
  obtain ⟨a2, rfl, rfl, rfl, w2⟩ := open_int Try.underlying3 (hval 2 3 v2 rfl rfl) h2
  obtain ⟨a3, rfl, rfl, rfl, w3⟩ := open_int Try.underlying3 (hval 3 3 v3 rfl rfl) h3
  obtain ⟨a4, rfl, rfl, rfl, w4⟩ := open_int Try.underlying3 (hval 4 3 v4 rfl rfl) h4
  obtain ⟨a5, rfl, rfl, rfl, w5⟩ := open_int Try.underlying5 (hval 5 5 v5 rfl rfl) h5
  obtain ⟨a6, rfl, rfl, rfl, w6⟩ := open_int Try.underlying5 (hval 6 5 v6 rfl rfl) h6
  clear hA0 hval0 hsz0 hsz
  refine (mixed_walk x0 _ _ x1 _ _ a2 a3 a4 a5 a6 W hC0 hc0 hC1 hc1 hU0 hU1 (u8_bounds w5).1 (u8_bounds w5).2 (u8_bounds w6).1 (u8_bounds w6).2).mono fun e W' ⟨he, bel⟩ => ?_
  subst he
  exact ⟨_, rfl, _, _, _, [], _, [], hW', trodAll_mk1 (shut_bool Try.underlying4 _), (trodAll_cons_mk (Below.trod laidOut (by kernel_rfl) (of_decide_eq_true (by kernel_rfl)) k0 bel lt0) (trodAll_cons_mk (Below.trod laidOut (by kernel_rfl) (of_decide_eq_true (by kernel_rfl)) k1 bel lt1) (trodAll_cons_mk (shut_int Try.underlying3 w2) (trodAll_cons_mk (shut_int Try.underlying3 w3) (trodAll_cons_mk (shut_int Try.underlying3 w4) (trodAll_cons_mk (shut_int Try.underlying5 w5) (trodAll_cons_mk (shut_int Try.underlying5 w6) trodAll_mk0))))))), rfl, bel.frame _, fun h => by cases h⟩
theorem over : Rows.pieceMixedRow.holds Try.pinned (OpenSpec.ofChange Rows.pieceMixedSpec) :=
  OpenClaim.holds_of_wide 7 Try.f7 rfl rfl rfl rfl rfl rfl rfl ⟨rfl, rfl, rfl, rfl, rfl⟩ rfl rfl rfl rfl rfl (by kernel_rfl) Try.func7 (by kernel_rfl)
    (of_decide_eq_true (by kernel_rfl)) (by unfold Func.isWrapper; first | (rw [if_pos (by decide +kernel)]; kernel_rfl) | (rw [if_neg (by decide +kernel)]; exact ⟨rfl, rfl⟩))
    (fun os started H enc _ => lifted os started H enc)
theorem proved : Rows.PieceMixedSaid := over
#print axioms proved
end Go.Proofs.Ythiealhmcfdakaa.pieceMixed
namespace Go.Proofs.Ythiealhmcfdakaa
theorem pieceMixed_holds : Rows.PieceMixedSaid := pieceMixed.proved
end Go.Proofs.Ythiealhmcfdakaa
end
