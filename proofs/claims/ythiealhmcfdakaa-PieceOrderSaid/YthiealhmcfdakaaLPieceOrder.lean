/- PieceOrder: whatever the pieces handed in and the two numbers: the law returns true, and what was handed in reads as it did. Conditions: none beyond the given row's. -/
import Derived.Below
import Derived.ChangeOld
import Derived.DataElems
import Derived.Laws.IdiomArrays
import Derived.Lib.Bytes
import Derived.OpenShut
import Derived.ProofKit
import Derived.ShutString
import Derived.SizedLaws
import Derived.Test.YthiealhmcfdakaaRows
import Derived.WalkKit
import Derived.Test.YthiealhmcfdakaaB6
section
set_option linter.unusedVariables false
set_option linter.unusedSimpArgs false
namespace Go.Proofs.YthiealhmcfdakaaM
open Go Go.RowKit Go.Proofs.YthiealhmcfdakaaH Go.Proofs.Ythiealhmcfdakaa.E Go.Proofs.YthiealhmcfdakaaW.PrintWords
theorem u8_ofNat {x y : Int} (hx : 0 ≤ x ∧ x ≤ 255) (hy : 0 ≤ y ∧ y ≤ 255) (h : UInt8.ofNat x.toNat = UInt8.ofNat y.toNat) : x = y := by
  have := congrArg UInt8.toNat h
  simp at this
  omega
theorem strs_eq : ∀ (a b : List Int), U8 a → U8 b → ((a.map fun n => UInt8.ofNat n.toNat) = (b.map fun n => UInt8.ofNat n.toNat) ↔ a = b)
  | [], [], _, _ => by simp
  | [], _ :: _, _, _ => by simp
  | _ :: _, [], _, _ => by simp
  | x :: a, y :: b, ha, hb => by
    have hx := ha x (List.mem_cons_self ..)
    have hy := hb y (List.mem_cons_self ..)
    have ih := strs_eq a b (fun z hz => ha z (List.mem_cons_of_mem _ hz)) (fun z hz => hb z (List.mem_cons_of_mem _ hz))
    simp only [List.map_cons, List.cons.injEq]
    constructor
    · rintro ⟨h1, h2⟩
      exact ⟨u8_ofNat hx hy h1, ih.1 h2⟩
    · rintro ⟨rfl, h2⟩
      exact ⟨rfl, ih.2 h2⟩
theorem bytesEq_f {a b : List Int} (ha : U8 a) (hb : U8 b) : bytes_Equal.f a b = some (decide (a = b)) := by
  unfold bytes_Equal.f
  congr 1
  rw [Bool.eq_iff_iff, beq_iff_eq, decide_eq_true_iff, Lib.strOfNums_toList, Lib.strOfNums_toList]
  exact strs_eq a b ha hb
structure Giv (need : Nat) (idx : List Int) (dat : List (List Int)) (m : Nat) : Prop where
  n1 : 1 ≤ need
  n2 : need ≤ 32
  len : idx.length = dat.length
  row : ∀ r ∈ dat, r.length = m
  m200 : m ≤ 200
  u8 : ∀ r ∈ dat, U8 r
  l32 : idx.length ≤ 32
  rng : ∀ i ∈ idx, 0 ≤ i ∧ i < 32
  dup : idx.Nodup
theorem natsOf_nodup {l : List Int} (h : l.Nodup) (hr : ∀ i ∈ l, 0 ≤ i) : (natsOf l).Nodup := by
  unfold natsOf List.Nodup
  rw [List.pairwise_map]
  refine List.Pairwise.imp_of_mem (fun {a b} ha hb hne e => hne ?_) h
  have := hr a ha
  have := hr b hb
  omega
theorem rowAt_get {l : List (List Int)} {i : Nat} (h : i < l.length) : Go.Proofs.YthiealhmcfdakaaH.rowAt l (i : Int) = l[i] := by
  rw [Go.Proofs.YthiealhmcfdakaaH.rowAt, Int.toNat_natCast, List.getD_eq_getElem?_getD, List.getElem?_eq_getElem h, Option.getD_some]
theorem rd2_get {l : List (List Int)} {i : Nat} (h : i < l.length) : rd_L2 l (i : Int) = l[i] := by
  rw [rd_L2, Int.toNat_natCast, List.getD_eq_getElem?_getD, List.getElem?_eq_getElem h, Option.getD_some]
theorem value_f {at' : List Int} {rows : List (List Int)} {m : Nat} {x : Int} (h0 : 0 < rows.length) (hrow : ∀ r ∈ rows, r.length = m) (hm : m ≤ 200) (hl : at'.length ≤ rows.length) (hx : 0 ≤ x ∧ x < 256) (ha : ∀ a ∈ at', 0 ≤ a ∧ a < 32) (hu : ∀ r ∈ rows, U8 r) (hd : at'.Nodup) :
    erasure_value.f at' rows x = some (rowOf at' rows x.toNat m) := by
  have h00 : (Go.Proofs.YthiealhmcfdakaaH.rowAt rows 0).length = m := by
    rw [show (0 : Int) = ((0 : Nat) : Int) from rfl, rowAt_get h0]
    exact hrow _ (List.getElem_mem _)
  unfold erasure_value.f
  rw [if_pos, h00]
  refine ⟨h0, fun r hr => by rw [h00]; exact hrow r hr, by omega, hl, hx, fun a ha' => by have := ha a ha'; omega, fun r hr b hb => by have := hu r hr b hb; omega, natsOf_nodup hd (fun i hi => (ha i hi).1)⟩
theorem rowOf_U8 {at' : List Int} {rows : List (List Int)} {x m : Nat} (hx : x < 256) (ha : ∀ a ∈ at', 0 ≤ a ∧ a < 32) : U8 (rowOf at' rows x m) := by
  have hE : El (natsOf at') := natsOf_El (fun a h => by have := ha a h; omega)
  intro y hy
  unfold rowOf valTo at hy
  obtain ⟨i, _, rfl⟩ := List.mem_map.1 hy
  have := lagS_lt (ys := colOf rows i at'.length) hx hE at'.length
  omega
theorem rowOf_len (at' : List Int) (rows : List (List Int)) (x m : Nat) : (rowOf at' rows x m).length = m := valTo_len _ _ _ _ _
theorem rowOf_get {at' : List Int} {rows : List (List Int)} {x m i : Nat} (hi : i < m) : (rowOf at' rows x m)[i]'(by rw [rowOf_len]; exact hi) = ((lag x (natsOf at') (colOf rows i at'.length) : Nat) : Int) := by
  unfold rowOf valTo
  rw [List.getElem_map, List.getElem_range]
  show ((lagS x (natsOf at') (colOf rows i at'.length) at'.length : Nat) : Int) = _
  rw [lag, natsOf_len]
variable {need : Nat} {idx : List Int} {dat : List (List Int)} {m : Nat}
theorem Giv.value (g : Giv need idx dat m) (hn : need ≤ idx.length) {x : Int} (hx : 0 ≤ x ∧ x < 256) :
    erasure_value.f (idx.take need) (dat.take need) x = some (rowOf (idx.take need) (dat.take need) x.toNat m) := by
  have := g.len
  have := g.n1
  refine value_f (by rw [List.length_take]; omega) (fun r hr => g.row r (List.mem_of_mem_take hr)) g.m200 (by rw [List.length_take, List.length_take]; omega) hx (fun a ha => g.rng a (List.mem_of_mem_take ha)) (fun r hr => g.u8 r (List.mem_of_mem_take hr)) ?_
  exact g.dup.sublist (List.take_sublist _ _)
def fitB (need : Nat) (idx : List Int) (dat : List (List Int)) (m : Nat) : Bool := decide (∀ i, i < idx.length → need ≤ i → rowOf (idx.take need) (dat.take need) (rd idx (i : Int)).toNat m = rd_L2 dat (i : Int))
def rowsB (need : Nat) (idx : List Int) (dat : List (List Int)) (m : Nat) : List (List Int) := (List.range need).map fun i => rowOf (idx.take need) (dat.take need) i m
theorem Giv.fit (g : Giv need idx dat m) (hn : need ≤ idx.length) : ∀ (d i : Nat), i + d = idx.length → need ≤ i → ∀ K, d < K →
    erasure_fit.l0 K (need : Int) idx dat (i : Int) = some (decide (∀ j, j < idx.length → i ≤ j → rowOf (idx.take need) (dat.take need) (rd idx (j : Int)).toNat m = rd_L2 dat (j : Int)))
  | 0, i, h, hi, K, hK => by
    obtain ⟨K, rfl⟩ : ∃ k, K = k + 1 := ⟨K - 1, by omega⟩
    rw [erasure_fit.l0, if_neg (by omega), decide_eq_true (fun j hj hij => by omega)]
  | d + 1, i, h, hi, K, hK => by
    obtain ⟨K, rfl⟩ : ∃ k, K = k + 1 := ⟨K - 1, by omega⟩
    have hl := g.len
    have hii : i < idx.length := by omega
    have hr : rd idx (i : Int) = idx[i] := rd_get hii
    have hrng := g.rng idx[i] (List.getElem_mem hii)
    have hd2 : rd_L2 dat (i : Int) = dat[i]'(by omega) := rd2_get (by omega)
    have hu := g.u8 (dat[i]'(by omega)) (List.getElem_mem _)
    have hl32 := g.l32
    rw [erasure_fit.l0, if_pos (by omega), if_pos (by omega), if_pos (by omega), if_pos (by omega), if_pos (by omega), Int.toNat_natCast, g.value hn (by rw [hr]; omega), Option.bind_some, if_pos (by omega), bytesEq_f (rowOf_U8 (by rw [hr]; omega) (fun a ha => g.rng a (List.mem_of_mem_take ha))) (by rw [hd2]; exact hu), Option.bind_some]
    by_cases hq : rowOf (idx.take need) (dat.take need) (rd idx (i : Int)).toNat m = rd_L2 dat (i : Int)
    · rw [decide_eq_true hq, if_pos rfl, wrap_succ i (by omega), g.fit hn d (i + 1) (by omega) (by omega) K (by omega)]
      congr 1
      rw [decide_eq_decide]
      constructor
      · intro h j hj hij
        by_cases e : j = i
        · rw [e]; exact hq
        · exact h j hj (by omega)
      · intro h j hj hij
        exact h j hj (by omega)
    · rw [decide_eq_false hq, if_neg (by simp), decide_eq_false (fun h => hq (h i hii (Nat.le_refl _)))]
theorem indices_l0 (n : Nat) (hn : n ≤ 1000) : ∀ (d i : Nat) (acc : List Int), i + d = n → acc.length = n → (∀ j, j < i → acc[j]? = some (j : Int)) → ∀ K, d < K → erasure_indices.l0 K acc (n : Int) (i : Int) = some ((List.range n).map fun (i : Nat) => (i : Int))
  | 0, i, acc, h, hl, ha, K, hK => by
    obtain ⟨K, rfl⟩ : ∃ k, K = k + 1 := ⟨K - 1, by omega⟩
    rw [erasure_indices.l0, if_neg (by omega)]
    congr 1
    apply List.ext_getElem?
    intro j
    by_cases hj : j < n
    · rw [ha j (by omega), List.getElem?_map, List.getElem?_range hj]; rfl
    · rw [List.getElem?_eq_none (by omega), List.getElem?_eq_none (by simp; omega)]
  | d + 1, i, acc, h, hl, ha, K, hK => by
    obtain ⟨K, rfl⟩ : ∃ k, K = k + 1 := ⟨K - 1, by omega⟩
    rw [erasure_indices.l0, if_pos (by omega), if_pos (by omega), if_pos (by omega), wrap_succ i (by omega)]
    refine indices_l0 n hn d (i + 1) _ (by omega) (by simpa using hl) (fun j hj => ?_) K (by omega)
    rw [Int.toNat_natCast, List.getElem?_set]
    by_cases e : i = j
    · subst e
      rw [if_pos rfl, if_pos (by omega)]
    · rw [if_neg e]
      exact ha j (by omega)
theorem indices_f (n : Nat) (hn : n ≤ 1000) (K : Nat) (hK : n < K) : erasure_indices.f K (n : Int) = some ((List.range n).map fun (i : Nat) => (i : Int)) := by
  unfold erasure_indices.f
  rw [if_pos (by omega), if_pos (by omega), Option.bind_some]
  simp only [Int.toNat_natCast, List.length_replicate]
  exact indices_l0 n hn n 0 _ (by omega) (by simp) (fun j hj => by omega) K hK
theorem Giv.recv (g : Giv need idx dat m) (hn : need ≤ idx.length) (want : List Int) (hw : ∀ x ∈ want, 0 ≤ x ∧ x < 256) (hwl : want.length ≤ 1000) : ∀ (d i : Nat) (acc : List (List Int)), i + d = want.length → acc.length ≤ i → ∀ K, d < K →
    erasure_recovered.l0 K (need : Int) idx dat acc want (want.length : Int) (i : Int) = some (acc ++ (want.drop i).map (fun x => rowOf (idx.take need) (dat.take need) x.toNat m), 0)
  | 0, i, acc, h, ha, K, hK => by
    obtain ⟨K, rfl⟩ : ∃ k, K = k + 1 := ⟨K - 1, by omega⟩
    rw [erasure_recovered.l0, if_neg (by omega), List.drop_of_length_le (by omega)]
    simp
  | d + 1, i, acc, h, ha, K, hK => by
    obtain ⟨K, rfl⟩ : ∃ k, K = k + 1 := ⟨K - 1, by omega⟩
    have hl := g.len
    have hii : i < want.length := by omega
    have hr : rd want (i : Int) = want[i] := rd_get hii
    have hwi := hw want[i] (List.getElem_mem hii)
    have hv := g.value hn hwi
    have hrec := g.recv hn want hw hwl d (i + 1) (acc ++ [rowOf (idx.take need) (dat.take need) want[i].toNat m]) (by omega) (by rw [List.length_append, List.length_singleton]; omega) K (by omega)
    have hal : acc.length < 5864062014805 := by omega
    have hdr : want.drop i = want[i] :: want.drop (i + 1) := List.drop_eq_getElem_cons hii
    unfold erasure_recovered.l0
    rw [if_pos (show (i : Int) < (want.length : Int) by omega), if_pos (show (0 : Int) ≤ (i : Int) by omega), if_pos (show (i : Int) < (want.length : Int) by omega), if_pos (show (0 : Int) ≤ (need : Int) by omega), if_pos (show (need : Int) ≤ (idx.length : Int) by omega), if_pos (show (need : Int) ≤ (dat.length : Int) by omega), Int.toNat_natCast, hr, hv, Option.bind_some, if_pos hal, wrap_succ i (by omega), hrec, hdr, List.map_cons, List.append_assoc, List.singleton_append]
theorem equal_f' {dat : List (List Int)} {m : Nat} (hrow : ∀ r ∈ dat, r.length = m) (hm : m ≤ 200) (hl : dat.length ≤ 1000) : ∀ (d i : Nat), i + d = dat.length → ∀ K, d < K → erasure_equal.l0 K dat dat (dat.length : Int) (i : Int) = some true
  | 0, i, h, K, hK => by
    obtain ⟨K, rfl⟩ : ∃ k, K = k + 1 := ⟨K - 1, by omega⟩
    rw [erasure_equal.l0, if_neg (by omega)]
  | d + 1, i, h, K, hK => by
    obtain ⟨K, rfl⟩ : ∃ k, K = k + 1 := ⟨K - 1, by omega⟩
    have h1 : (rd_L2 dat (i : Int)).length = m := by rw [rd2_get (show i < dat.length by omega)]; exact hrow _ (List.getElem_mem _)
    have h2 : (rd_L2 dat 0).length = m := by rw [show (0 : Int) = ((0 : Nat) : Int) from rfl, rd2_get (show 0 < dat.length by omega)]; exact hrow _ (List.getElem_mem _)
    rw [erasure_equal.l0, if_pos (by omega), if_pos (by omega), if_pos (by omega), if_pos (by omega), if_pos (by omega), if_neg (by omega), wrap_succ i (by omega)]
    exact equal_f' hrow hm hl d (i + 1) (by omega) K (by omega)
theorem fresh_t : ∀ (l s : List Int), (∀ i ∈ l, 0 ≤ i ∧ i < 32) → l.Nodup → (∀ i ∈ l, i ∉ s) → freshB s l = true
  | [], s, _, _, _ => rfl
  | i :: l, s, hr, hd, hs => by
    have h1 := hr i (List.mem_cons_self ..)
    have h2 := hs i (List.mem_cons_self ..)
    rw [List.nodup_cons] at hd
    rw [freshB, if_neg (by rintro (h | h | h); omega; omega; exact h2 h)]
    refine fresh_t l (i :: s) (fun j hj => hr j (List.mem_cons_of_mem _ hj)) hd.2 (fun j hj hjs => ?_)
    rcases List.mem_cons.1 hjs with rfl | h
    · exact hd.1 hj
    · exact hs j (List.mem_cons_of_mem _ hj) h
theorem Giv.given (g : Giv need idx dat m) (K : Nat) (hK : 100 ≤ K) : erasure_given.f K (need : Int) idx dat = some true := by
  have := g.n1; have := g.n2; have := g.len; have := g.l32
  unfold erasure_given.f
  rw [if_neg (by omega), if_neg (by omega), if_pos g.len, erasure_equal.f]
  have := equal_f' g.row g.m200 (by omega) dat.length 0 (by omega) K (by omega)
  rw [show ((0 : Nat) : Int) = 0 from rfl] at this
  rw [this, Option.bind_some, if_pos rfl, fresh_t idx [] g.rng g.dup (fun _ _ h => by simp at h)]
def decM (need : Nat) (idx : List Int) (dat : List (List Int)) (m : Nat) : List (List Int) × Int :=
  if idx.length < need then ([], 4) else if fitB need idx dat m = true then (rowsB need idx dat m, 0) else ([], 18)
theorem Giv.decode (g : Giv need idx dat m) (K : Nat) (hK : 200 ≤ K) : erasure_Decode.f K (need : Int) (m : Int) idx dat = some (decM need idx dat m) := by
  have h1 := g.n1; have h2 := g.n2; have h3 := g.len; have h4 := g.l32
  have hj : ∀ b, b = false → erasure_Decode.j0 K (need : Int) idx dat b = some (decM need idx dat m) := by
    rintro b rfl
    obtain ⟨K, rfl⟩ : ∃ k, K = k + 1 := ⟨K - 1, by omega⟩
    rw [erasure_Decode.j0, if_neg (by simp), indices_f need (by omega) K (by omega), Option.bind_some, erasure_recovered.f]
    unfold decM
    by_cases c1 : idx.length < need
    · rw [if_pos (by omega), if_pos c1]; rfl
    rw [if_neg (by omega), if_neg c1, erasure_fit.f, g.fit (by omega) (idx.length - need) need (by omega) (Nat.le_refl _) K (by omega), Option.bind_some]
    unfold fitB
    by_cases c2 : ∀ j, j < idx.length → need ≤ j → rowOf (idx.take need) (dat.take need) (rd idx (j : Int)).toNat m = rd_L2 dat (j : Int)
    · rw [decide_eq_true c2, if_pos rfl, if_pos rfl]
      have hr := g.recv (by omega) ((List.range need).map fun (i : Nat) => (i : Int)) (fun x hx => by
        obtain ⟨i, hi, rfl⟩ := List.mem_map.1 hx
        rw [List.mem_range] at hi; omega) (by simp; omega) ((List.range need).map fun (i : Nat) => (i : Int)).length 0 [] (by omega) (by simp) K (by simp; omega)
      rw [show ((0 : Nat) : Int) = 0 from rfl] at hr
      rw [hr, Option.bind_some]
      unfold rowsB
      simp only [List.nil_append, List.drop_zero, List.map_map]
      rfl
    · rw [decide_eq_false c2, if_neg (by simp), if_neg (by simp)]; rfl
  unfold erasure_Decode.f
  rw [g.given K (by omega), Option.bind_some, if_pos rfl]
  by_cases c : dat.length > 0
  · rw [if_pos (by omega), if_pos (by omega)]
    refine hj _ ?_
    have h00 : (rd_L2 dat 0).length = m := by rw [show (0 : Int) = ((0 : Nat) : Int) from rfl, rd2_get (show 0 < dat.length by omega)]; exact g.row _ (List.getElem_mem _)
    rw [h00]; simp
  · rw [if_neg (by omega)]
    exact hj _ rfl
def base (n : Nat) : List Int := (List.range n).map fun (i : Nat) => (i : Int)
theorem base_len (n : Nat) : (base n).length = n := by simp [base]
theorem base_rng {n : Nat} (h : n ≤ 32) : ∀ i ∈ base n, 0 ≤ i ∧ i < 32 := by
  intro i hi
  obtain ⟨j, hj, rfl⟩ := List.mem_map.1 hi
  rw [List.mem_range] at hj; omega
theorem base_dup (n : Nat) : (base n).Nodup := by
  unfold base List.Nodup
  rw [List.pairwise_map]
  exact List.Pairwise.imp (fun {a b} hne e => hne (by omega)) List.nodup_range
def codeB (data : List (List Int)) (m n : Nat) : List (List Int) := (List.range n).map fun i => rowOf (base data.length) data i m
theorem code_l0 {data : List (List Int)} {m : Nat} (h1 : 1 ≤ data.length) (h2 : data.length ≤ 32) (hrow : ∀ r ∈ data, r.length = m) (hm : m ≤ 200) (hu : ∀ r ∈ data, U8 r) (n : Nat) (hn : n ≤ 32) : ∀ (d i : Nat), i + d = n → ∀ K, d < K →
    erasure_Code.l0 K data (base data.length) ((List.range i).map fun i => rowOf (base data.length) data i m) (n : Int) (i : Int) = some (codeB data m n, 0)
  | 0, i, h, K, hK => by
    obtain ⟨K, rfl⟩ : ∃ k, K = k + 1 := ⟨K - 1, by omega⟩
    obtain rfl : i = n := by omega
    rw [erasure_Code.l0, if_neg (by omega)]
    rfl
  | d + 1, i, h, K, hK => by
    obtain ⟨K, rfl⟩ : ∃ k, K = k + 1 := ⟨K - 1, by omega⟩
    rw [erasure_Code.l0, if_pos (by omega), value_f (by omega) hrow hm (by rw [base_len]; omega) (by omega) (base_rng h2) hu (base_dup _), Option.bind_some, if_pos (by simp; omega), wrap_succ i (by omega), Int.toNat_natCast]
    have := code_l0 h1 h2 hrow hm hu n hn d (i + 1) (by omega) K (by omega)
    rw [List.range_succ, List.map_append] at this
    exact this
theorem code_f {data : List (List Int)} {m : Nat} (h1 : 1 ≤ data.length) (h2 : data.length ≤ 32) (hrow : ∀ r ∈ data, r.length = m) (hm : m ≤ 200) (hu : ∀ r ∈ data, U8 r) (n : Nat) (hn : n ≤ 32) (K : Nat) (hK : 200 ≤ K) : erasure_Code.f K data (n : Int) = some (codeB data m n, 0) := by
  have he := equal_f' hrow hm (by omega) data.length 0 (by omega) K (by omega)
  rw [show ((0 : Nat) : Int) = 0 from rfl] at he
  unfold erasure_Code.f
  rw [if_neg (by omega), if_neg (by omega), erasure_equal.f, he, Option.bind_some, if_pos rfl, if_neg (by omega), decide_eq_false (by omega)]
  obtain ⟨K, rfl⟩ : ∃ k, K = k + 1 := ⟨K - 1, by omega⟩
  rw [erasure_Code.j0, if_neg (by simp), indices_f data.length (by omega) K (by omega), Option.bind_some]
  have := code_l0 h1 h2 hrow hm hu n hn n 0 (by omega) K (by omega)
  exact this
end Go.Proofs.YthiealhmcfdakaaM
end
section
set_option linter.unusedVariables false
set_option linter.unusedSimpArgs false
namespace Go.Proofs.YthiealhmcfdakaaM
open Go Go.RowKit Go.Proofs.YthiealhmcfdakaaH Go.Proofs.Ythiealhmcfdakaa.E Go.Proofs.YthiealhmcfdakaaW.PrintWords
def look (l : List S49) : Int → Option (List Int) := fun k => (l.find? fun p => p.f1 == k).map (·.f5)
def C2 (l : List S49) : Prop := ∀ p ∈ l, ∀ q ∈ l, p.f1 = q.f1 → p.f5 = q.f5
theorem look_some {l : List S49} {k : Int} {d : List Int} (h : look l k = some d) : ∃ p ∈ l, p.f1 = k ∧ p.f5 = d := by
  unfold look at h
  obtain ⟨p, hp, rfl⟩ := Option.map_eq_some_iff.1 h
  exact ⟨p, List.mem_of_find?_eq_some hp, by have := List.find?_some hp; simpa using this, rfl⟩
theorem look_none {l : List S49} {k : Int} (h : look l k = none) : ∀ p ∈ l, p.f1 ≠ k := by
  unfold look at h
  rw [Option.map_eq_none_iff, List.find?_eq_none] at h
  intro p hp e
  exact h p hp (by simpa using e)
theorem look_mem {l : List S49} (h : C2 l) {p : S49} (hp : p ∈ l) : look l p.f1 = some p.f5 := by
  cases e : look l p.f1 with
  | none => exact absurd rfl (look_none e p hp)
  | some d =>
    obtain ⟨q, hq, e1, e2⟩ := look_some e
    rw [← e2, h q hq p hp e1]
theorem look_ext {l l' : List S49} (h : C2 l) (hm : ∀ p, p ∈ l ↔ p ∈ l') : look l = look l' := by
  have h' : C2 l' := fun p hp q hq => h p ((hm p).2 hp) q ((hm q).2 hq)
  funext k
  cases e : look l k with
  | none =>
    cases e' : look l' k with
    | none => rfl
    | some d =>
      obtain ⟨q, hq, e1, _⟩ := look_some e'
      exact absurd e1 (look_none e q ((hm q).2 hq))
  | some d =>
    obtain ⟨p, hp, e1, e2⟩ := look_some e
    have := look_mem h' ((hm p).1 hp)
    rw [← e1, ← e2, this]
theorem look_cons (p : S49) (s : List S49) : gstep (look s) p = look (p :: s) := by
  funext k
  unfold gstep look
  rw [List.find?_cons]
  by_cases h : k = p.f1
  · rw [if_pos h, h]; simp
  · have : (p.f1 == k) = false := by simpa using fun e => h e.symm
    rw [if_neg h, this]
theorem gathB_eq (p0 : S49) : ∀ (l s : List S49), C2 s →
    ((∀ p ∈ l, wholeEq p p0 = true) ∧ C2 (l.reverse ++ s) → gathB p0 (look s) l = some (look (l.reverse ++ s))) ∧ (¬ ((∀ p ∈ l, wholeEq p p0 = true) ∧ C2 (l.reverse ++ s)) → gathB p0 (look s) l = none)
  | [], s, hs => by
    refine ⟨fun _ => rfl, fun h => absurd ⟨fun p hp => by simp at hp, hs⟩ h⟩
  | p :: r, s, hs => by
    have hrev : (p :: r).reverse ++ s = r.reverse ++ (p :: s) := by simp
    rw [hrev, gathB]
    have hall : (∀ q ∈ p :: r, wholeEq q p0 = true) ↔ (wholeEq p p0 = true ∧ ∀ q ∈ r, wholeEq q p0 = true) := by simp
    rw [hall]
    cases hw : wholeEq p p0 with
    | false =>
      rw [if_pos rfl]
      refine ⟨fun h => absurd h.1.1 (by simp), fun _ => rfl⟩
    | true =>
      rw [if_neg (by simp)]
      cases hk : look s p.f1 with
      | some d =>
        obtain ⟨q, hq, e1, e2⟩ := look_some hk
        by_cases hd : d = p.f5
        · have hs' : C2 (p :: s) := by
            intro a ha b hb hab
            rcases List.mem_cons.1 ha with ea | ha
            · rcases List.mem_cons.1 hb with eb | hb
              · rw [ea, eb]
              · rw [ea] at hab ⊢
                rw [← hd, ← e2]; exact hs q hq b hb (by rw [e1, hab])
            · rcases List.mem_cons.1 hb with eb | hb
              · rw [eb] at hab ⊢
                rw [← hd, ← e2]; exact hs a ha q hq (by rw [e1, hab])
              · exact hs a ha b hb hab
          have ih := gathB_eq p0 r (p :: s) hs'
          simp only [if_pos hd, look_cons]
          refine ⟨fun h => ih.1 ⟨fun x hx => h.1.2 x hx, h.2⟩, fun h => ih.2 (fun h2 => h ⟨⟨by simp, h2.1⟩, h2.2⟩)⟩
        · simp only [if_neg hd]
          refine ⟨fun h => ?_, fun _ => by simp⟩
          exfalso
          exact hd (by rw [← e2]; exact h.2 q (by simp [hq]) p (by simp) e1)
      | none =>
        have hn := look_none hk
        have hs' : C2 (p :: s) := by
          intro a ha b hb hab
          rcases List.mem_cons.1 ha with ea | ha
          · rcases List.mem_cons.1 hb with eb | hb
            · rw [ea, eb]
            · rw [ea] at hab
              exact absurd hab.symm (hn b hb)
          · rcases List.mem_cons.1 hb with eb | hb
            · rw [eb] at hab
              exact absurd hab (hn a ha)
            · exact hs a ha b hb hab
        have ih := gathB_eq p0 r (p :: s) hs'
        simp only [look_cons]
        exact ⟨fun h => ih.1 ⟨fun x hx => h.1.2 x hx, h.2⟩, fun h => ih.2 (fun h2 => h ⟨⟨by simp, h2.1⟩, h2.2⟩)⟩
def Cons (p0 : S49) (l : List S49) : Prop := (∀ p ∈ l, wholeEq p p0 = true) ∧ C2 l
theorem look_nil : look [] = fun _ => none := rfl
theorem C2_rev {l : List S49} : C2 (l.reverse ++ []) ↔ C2 l := by simp [C2]
theorem gathB_cons {p0 : S49} {l : List S49} (h : Cons p0 l) : gathB p0 (fun _ => none) l = some (look l) := by
  rw [← look_nil, (gathB_eq p0 l [] (fun p hp => by simp at hp)).1 ⟨h.1, C2_rev.2 h.2⟩]
  exact congrArg some (look_ext (C2_rev.2 h.2) (fun p => by simp))
theorem gathB_not {p0 : S49} {l : List S49} (h : ¬ Cons p0 l) : gathB p0 (fun _ => none) l = none := by
  rw [← look_nil]
  exact (gathB_eq p0 l [] (fun p hp => by simp at hp)).2 (fun h2 => h ⟨h2.1, C2_rev.1 h2.2⟩)
theorem idxOf_mem {f : Int → Option (List Int)} {n : Nat} {i : Int} : i ∈ idxOf f n ↔ ∃ j : Nat, j < n ∧ (f (j : Int)).isSome = true ∧ i = (j : Int) := by
  unfold idxOf
  simp only [List.mem_map, List.mem_filter, List.mem_range]
  constructor
  · rintro ⟨j, ⟨h1, h2⟩, rfl⟩; exact ⟨j, h1, h2, rfl⟩
  · rintro ⟨j, h1, h2, rfl⟩; exact ⟨j, ⟨h1, h2⟩, rfl⟩
theorem idxOf_dup (f : Int → Option (List Int)) (n : Nat) : (idxOf f n).Nodup := by
  unfold idxOf List.Nodup
  rw [List.pairwise_map]
  refine List.Pairwise.imp (R := fun a b : Nat => a ≠ b) ?_ (List.Pairwise.filter _ List.nodup_range)
  intro a b hne e
  exact hne (by omega)
theorem wholeEq_iff {p q : S49} : wholeEq p q = true ↔ (p.f0.f0 = q.f0.f0 ∧ p.f0.f1 = q.f0.f1 ∧ p.f0.f2 = q.f0.f2) ∧ p.f2 = q.f2 ∧ p.f3 = q.f3 ∧ p.f4 = q.f4 := by
  unfold wholeEq
  simp
theorem okP_len' {p q : S49} (hp : okP p) (hq : okP q) (h : wholeEq p q = true) : p.f5.length = q.f5.length := by
  obtain ⟨_, h2, h3, h4⟩ := wholeEq_iff.1 h
  have a := hp.2.2.2.2.2.2.2.2.2
  have b := hq.2.2.2.2.2.2.2.2.2
  rw [h2, h3] at a
  have : (p.f5.length : Int) = (q.f5.length : Int) := a.trans b.symm
  omega
theorem allOk_iff {l : List S49} : allOk l = true ↔ ∀ p ∈ l, okP p := by
  unfold allOk
  rw [List.all_eq_true]
  exact ⟨fun h p hp => of_decide_eq_true (h p hp), fun h p hp => decide_eq_true (h p hp)⟩
theorem giv_of {p0 : S49} {l : List S49} (h0 : okP p0) (hok : ∀ p ∈ l, okP p) (hU : ∀ p ∈ l, U8 p.f5) (hc : Cons p0 l) :
    Giv p0.f2.toNat (idxOf (look l) 32) (datOf (look l) 32) p0.f5.length := by
  have hg : ∀ r ∈ datOf (look l) 32, ∃ p ∈ l, p.f5 = r := by
    intro r hr
    obtain ⟨i, hi, rfl⟩ := List.mem_map.1 hr
    obtain ⟨j, _, hs, rfl⟩ := idxOf_mem.1 hi
    obtain ⟨d, hd⟩ := Option.isSome_iff_exists.1 hs
    obtain ⟨p, hp, _, e⟩ := look_some hd
    exact ⟨p, hp, by rw [hd, e]; rfl⟩
  have h' := h0
  obtain ⟨_, _, _, h4, h5, _⟩ := h'
  refine ⟨by omega, by omega, by simp [datOf], fun r hr => ?_, okP_data h0, fun r hr => ?_, idxOf_len _ _, fun i hi => ?_, idxOf_dup _ _⟩
  · obtain ⟨p, hp, rfl⟩ := hg r hr
    exact okP_len' (hok p hp) h0 (hc.1 p hp)
  · obtain ⟨p, hp, rfl⟩ := hg r hr
    exact hU p hp
  · obtain ⟨j, hj, _, rfl⟩ := idxOf_mem.1 hi
    omega
theorem flat_len {rows : List (List Int)} {m : Nat} (h : ∀ r ∈ rows, r.length = m) : rows.flatten.length = rows.length * m := by
  induction rows with
  | nil => simp
  | cons r rows ih =>
    rw [List.flatten_cons, List.length_append, ih (fun x hx => h x (List.mem_cons_of_mem _ hx)), h r (List.mem_cons_self ..), List.length_cons, Nat.succ_mul]
    omega
theorem rowsB_row {need : Nat} {idx : List Int} {dat : List (List Int)} {m : Nat} : ∀ r ∈ rowsB need idx dat m, r.length = m := by
  intro r hr
  obtain ⟨i, _, rfl⟩ := List.mem_map.1 hr
  exact rowOf_len _ _ _ _
def endM (p0 : S49) (cc : List Int) : Wn × Int :=
  if sumOf cc ≠ p0.f4 then (zWn, 9) else match piece_From.f cc with
    | none => (zWn, 7)
    | some u => if u.2 ≠ 0 ∨ ¬ sameName u.1 p0 then (zWn, 7) else (u.1, 0)
def gatherC (p0 : S49) (l : List S49) : Wn × Int :=
  let d := decM p0.f2.toNat (idxOf (look l) 32) (datOf (look l) 32) p0.f5.length
  if d.2 ≠ 0 then (zWn, d.2) else endM p0 (d.1.flatten.take p0.f3.toNat)
theorem size_le {p : S49} (h : okP p) : p.f3.toNat ≤ p.f2.toNat * p.f5.length := by
  obtain ⟨_, _, _, h4, h5, h6, h7, _, _, h10⟩ := h
  have h1 : p.f3 + p.f2 - 1 < ((p.f3 + p.f2 - 1) / p.f2 + 1) * p.f2 := Int.lt_mul_of_ediv_lt (by omega) (by omega) |> fun h => h
  rw [← h10] at h1
  have h2 : p.f3 ≤ p.f2 * (p.f5.length : Int) := by
    have : ((p.f5.length : Int) + 1) * p.f2 = p.f2 * (p.f5.length : Int) + p.f2 := by rw [Int.add_mul, Int.one_mul, Int.mul_comm]
    omega
  obtain ⟨a, ha⟩ := Int.eq_ofNat_of_zero_le (show 0 ≤ p.f2 by omega)
  obtain ⟨b, hb⟩ := Int.eq_ofNat_of_zero_le (show 0 ≤ p.f3 by omega)
  rw [ha, hb] at h2 ⊢
  simp only [Int.toNat_natCast]
  exact_mod_cast h2
theorem gather_f {l : List S49} (h1 : 0 < l.length) (h2 : l.length ≤ 64) (hok : ∀ p ∈ l, okP p) (hU : ∀ p ∈ l, U8 p.f5) :
    (Cons (l.getD 0 z49) l → piece_Gather.f 400 l = some (gatherC (l.getD 0 z49) l)) ∧ (¬ Cons (l.getD 0 z49) l → piece_Gather.f 400 l = some (zWn, 18)) := by
  have hp0 : l.getD 0 z49 ∈ l := by
    rw [List.getD_eq_getElem?_getD, List.getElem?_eq_getElem h1, Option.getD_some]
    exact List.getElem_mem h1
  have hg : piece_Gather.f 400 l = match gathB (l.getD 0 z49) (fun _ => none) l with
      | none => some (zWn, 18)
      | some f => (erasure_Decode.f 400 (l.getD 0 z49).f2 ((l.getD 0 z49).f5.length : Int) (idxOf f 32) (datOf f 32)).bind fun t =>
        if t.2 ≠ 0 then some (zWn, t.2) else (slices_Concat_byte_byte.f t.1).bind fun cc =>
          if cc.length < (l.getD 0 z49).f3.toNat then none
          else if sumOf (cc.take (l.getD 0 z49).f3.toNat) ≠ (l.getD 0 z49).f4 then some (zWn, 9)
          else (piece_From.f (cc.take (l.getD 0 z49).f3.toNat)).bind fun u => if u.2 ≠ 0 ∨ ¬ sameName u.1 (l.getD 0 z49) then some (zWn, 7) else some (u.1, 0) := by
    have hneg : ¬ (l.length = 0 ∨ l.length > 64 ∨ allOk l = false) := by
      rintro (h | h | h)
      · omega
      · omega
      · rw [allOk_iff.2 hok] at h; exact absurd h (by simp)
    unfold piece_Gather.f
    rw [if_neg hneg]
    rfl
  rw [hg]
  clear hg
  generalize l.getD 0 z49 = p0 at hp0
  refine ⟨fun hc => ?_, fun hc => by rw [gathB_not hc]⟩
  rw [gathB_cons hc]
  have h0 := hok p0 hp0
  have g := giv_of h0 hok hU hc
  have hd := g.decode 400 (by omega)
  rw [Int.toNat_of_nonneg (by have := h0.2.2.2.1; omega)] at hd
  dsimp only
  rw [hd, Option.bind_some]
  unfold gatherC
  dsimp only
  have hs := size_le h0
  generalize hD : decM p0.f2.toNat (idxOf (look l) 32) (datOf (look l) 32) p0.f5.length = D
  by_cases c0 : D.2 ≠ 0
  · rw [if_pos c0, if_pos c0]
  rw [if_neg c0, if_neg c0]
  have hrows : D.1 = rowsB p0.f2.toNat (idxOf (look l) 32) (datOf (look l) 32) p0.f5.length := by
    unfold decM at hD
    split at hD
    · rw [← hD] at c0; exact absurd (show (4 : Int) ≠ 0 by decide) c0
    split at hD
    · rw [← hD]
    · rw [← hD] at c0; exact absurd (show (18 : Int) ≠ 0 by decide) c0
  have hn := g.n2
  have hm := g.m200
  have hrl : D.1.length = p0.f2.toNat := by rw [hrows]; simp [rowsB]
  have hfl : D.1.flatten.length = p0.f2.toNat * p0.f5.length := by rw [flat_len (m := p0.f5.length) (by rw [hrows]; exact rowsB_row), hrl]
  have hfU : U8 D.1.flatten := by
    intro x hx
    obtain ⟨r, hr, hxr⟩ := List.mem_flatten.1 hx
    rw [hrows] at hr
    obtain ⟨i, hi, rfl⟩ := List.mem_map.1 hr
    rw [List.mem_range] at hi
    exact rowOf_U8 (by omega) (fun a ha => g.rng a (List.mem_of_mem_take ha)) x hxr
  have hcat : slices_Concat_byte_byte.f D.1 = some D.1.flatten := by
    unfold slices_Concat_byte_byte.f
    rw [if_pos]
    refine ⟨by omega, fun r hr => ?_⟩
    rw [hrows] at hr
    rw [rowsB_row r hr]; omega
  rw [hcat, Option.bind_some, if_neg (by rw [hfl]; omega)]
  unfold endM
  by_cases c1 : sumOf (D.1.flatten.take p0.f3.toNat) ≠ p0.f4
  · rw [if_pos c1, if_pos c1]
  rw [if_neg c1, if_neg c1]
  have hl6 : (D.1.flatten.take p0.f3.toNat).length < 1000000 := by
    rw [List.length_take]
    have h1 := h0.2.2.2.2.2.2.1
    have h2 := h0.2.2.2.2.1
    omega
  obtain ⟨x, e, hx, _⟩ := from_back (hfU.take _) hl6
  rw [hx, Option.bind_some]
  dsimp only
  split <;> rfl
end Go.Proofs.YthiealhmcfdakaaM
end
section
set_option linter.unusedVariables false
set_option linter.unusedSimpArgs false
namespace Go.Proofs.YthiealhmcfdakaaM
open Go Go.RowKit Go.Proofs.YthiealhmcfdakaaH Go.Proofs.Ythiealhmcfdakaa.E Go.Proofs.YthiealhmcfdakaaW.PrintWords
theorem colOf_El {rows : List (List Int)} (hU : ∀ r ∈ rows, U8 r) (i n : Nat) : El (colOf rows i n) := by
  intro x hx
  obtain ⟨k, _, rfl⟩ := List.mem_map.1 hx
  by_cases h : k < rows.length
  · rw [List.getD_eq_getElem?_getD (l := rows), List.getElem?_eq_getElem h, Option.getD_some]
    by_cases h2 : i < (rows[k]).length
    · rw [List.getD_eq_getElem?_getD, List.getElem?_eq_getElem h2, Option.getD_some]
      have := hU _ (List.getElem_mem h) _ (List.getElem_mem h2)
      omega
    · rw [List.getD_eq_getElem?_getD, List.getElem?_eq_none (by omega)]
      decide
  · rw [List.getD_eq_getElem?_getD (l := rows), List.getElem?_eq_none (by omega)]
    simp
theorem natsEl {l : List Int} (h : ∀ a ∈ l, 0 ≤ a ∧ a < 32) : El (natsOf l) := natsOf_El (fun a ha => by have := h a ha; omega)
theorem mds {R D : List (List Int)} {J : List Int} {m need : Nat} (hR : R.length = need) (hn : need ≤ 32) (hRU : ∀ r ∈ R, U8 r) (hJ : ∀ a ∈ J, 0 ≤ a ∧ a < 32) (hJd : J.Nodup) (hJl : need ≤ J.length) (hD : D = J.map fun a => rowOf (base need) R a.toNat m) :
    ∀ x, x < 256 → rowOf J D x m = rowOf (base need) R x m := by
  intro x hx
  apply List.ext_getElem (by rw [rowOf_len, rowOf_len])
  intro i h1 h2
  rw [rowOf_len] at h1
  rw [rowOf_get h1, rowOf_get h1, base_len]
  congr 1
  have hcol : colOf D i J.length = (natsOf J).map fun a => lag a (natsOf (base need)) (colOf R i need) := by
    unfold colOf natsOf
    rw [List.map_map]
    apply List.ext_getElem (by simp)
    intro k hk1 hk2
    simp only [List.length_map, List.length_range] at hk1
    rw [List.getElem_map, List.getElem_range, List.getElem_map]
    have hDk : D.getD k [] = rowOf (base need) R (J[k]).toNat m := by
      rw [hD, List.getD_eq_getElem?_getD, List.getElem?_map, List.getElem?_eq_getElem hk1]
      rfl
    have hri : i < (rowOf (base need) R (J[k]).toNat m).length := by rw [rowOf_len]; exact h1
    rw [hDk, List.getD_eq_getElem?_getD, List.getElem?_eq_getElem hri, Option.getD_some, rowOf_get h1, base_len]
    rfl
  rw [hcol]
  exact lag_lag (natsEl (base_rng hn)) (natsOf_nodup (base_dup _) (fun a ha => (base_rng hn a ha).1)) (colOf_El hRU _ _) (natsEl hJ) (natsOf_nodup hJd (fun a ha => (hJ a ha).1)) (by rw [natsOf_len, natsOf_len, base_len]; exact hJl) x hx
theorem base_rows {R : List (List Int)} {m need : Nat} (hR : R.length = need) (hn : need ≤ 32) (hRU : ∀ r ∈ R, U8 r) (hRm : ∀ r ∈ R, r.length = m) {j : Nat} (hj : j < need) : rowOf (base need) R j m = R[j]'(by omega) := by
  apply List.ext_getElem (by rw [rowOf_len, hRm _ (List.getElem_mem _)])
  intro i h1 h2
  rw [rowOf_len] at h1
  rw [rowOf_get h1, base_len]
  have hb : (natsOf (base need)).getD j 0 = j := by
    rw [List.getD_eq_getElem?_getD, natsOf, List.getElem?_map, base, List.getElem?_map, List.getElem?_range hj]
    rfl
  have hl := lag_at (natsEl (base_rng hn)) (natsOf_nodup (base_dup need) (fun a ha => (base_rng hn a ha).1)) (colOf_El hRU i need) (j := j) (by rw [natsOf_len, base_len]; exact hj)
  rw [hb] at hl
  rw [hl]
  unfold colOf
  rw [List.getD_eq_getElem?_getD (l := List.map _ _), List.getElem?_map, List.getElem?_range hj]
  simp only [Option.map_some, Option.getD_some]
  have hjR : j < R.length := by omega
  rw [List.getD_eq_getElem?_getD (l := R), List.getElem?_eq_getElem hjR, Option.getD_some, List.getD_eq_getElem?_getD, List.getElem?_eq_getElem h2, Option.getD_some]
  have := hRU _ (List.getElem_mem hjR) _ (List.getElem_mem h2)
  omega
theorem codeB_get {R : List (List Int)} {m n i : Nat} (h : i < n) : (codeB R m n)[i]? = some (rowOf (base R.length) R i m) := by
  unfold codeB
  rw [List.getElem?_map, List.getElem?_range h]; rfl
theorem codeB_len (R : List (List Int)) (m n : Nat) : (codeB R m n).length = n := by simp [codeB]
theorem rowsOf_len (b : List Int) (need : Nat) : (rowsOf b (need : Int)).length = need := by simp [rowsOf, cutR]
theorem padded_len (b : List Int) {need : Nat} (hn : 1 ≤ need) : (b ++ List.replicate (lenOf b (need : Int) * need - b.length) 0).length = lenOf b (need : Int) * need ∧ b.length ≤ lenOf b (need : Int) * need := by
  have h : b.length ≤ lenOf b (need : Int) * need := by
    unfold lenOf
    rw [Int.toNat_natCast]
    have := Nat.lt_div_mul_add (a := b.length + need - 1) (b := need) (by omega)
    omega
  rw [List.length_append, List.length_replicate]
  omega
theorem rowsOf_row (b : List Int) {need : Nat} (hn : 1 ≤ need) : ∀ r ∈ rowsOf b (need : Int), r.length = lenOf b (need : Int) := by
  intro r hr
  unfold rowsOf cutR at hr
  rw [Int.toNat_natCast] at hr
  obtain ⟨i, hi, rfl⟩ := List.mem_map.1 hr
  rw [List.mem_range] at hi
  have hp := (padded_len b hn).1
  rw [List.length_take, List.length_drop, hp]
  have : (i + 1) * lenOf b (need : Int) ≤ need * lenOf b (need : Int) := Nat.mul_le_mul_right _ (by omega)
  rw [Nat.add_mul, Nat.one_mul, Nat.mul_comm need] at this
  omega
theorem rowsOf_U8 {b : List Int} (hU : U8 b) (need : Int) : ∀ r ∈ rowsOf b need, U8 r := by
  intro r hr x hx
  unfold rowsOf cutR at hr
  obtain ⟨i, _, rfl⟩ := List.mem_map.1 hr
  rcases List.mem_append.1 (List.mem_of_mem_drop (List.mem_of_mem_take hx)) with h | h
  · exact hU x h
  · obtain ⟨_, rfl⟩ := List.mem_replicate.1 h; omega
theorem cut_flat (pd : List Int) (n : Nat) : ∀ k, k * n ≤ pd.length → (cutR pd n k).flatten = pd.take (k * n)
  | 0, _ => by simp [cutR]
  | k + 1, h => by
    have hk : k * n ≤ pd.length := by rw [Nat.add_mul] at h; omega
    have ih := cut_flat pd n k hk
    unfold cutR at ih ⊢
    rw [List.range_succ, List.map_append, List.flatten_append, ih, Nat.add_mul, Nat.one_mul, List.take_add]
    simp
theorem rows_back (b : List Int) {need : Nat} (hn : 1 ≤ need) : (rowsOf b (need : Int)).flatten.take b.length = b := by
  have hp := padded_len b hn
  unfold rowsOf
  rw [Int.toNat_natCast, cut_flat _ _ _ (by rw [hp.1, Nat.mul_comm]; exact Nat.le_refl _), List.take_take, Nat.mul_comm need, Nat.min_eq_left hp.2, List.take_left' rfl]
structure CutOK (w : Wn) (need n : Nat) (l : List S49) : Prop where
  v : validW w
  n1 : 1 ≤ need
  n2 : need ≤ 32
  n3 : n ≤ 32
  m2 : lenOf (enc (intsOf w)) (need : Int) ≤ 200
  eq : l = piecesOf w (enc (intsOf w)) (need : Int) (codeB (rowsOf (enc (intsOf w)) (need : Int)) (lenOf (enc (intsOf w)) (need : Int)) n)
theorem cut_f (w : Wn) (hU : U8 w.text) (need n : Int) : ∃ l e, piece_Cut.f 4000 w need n = some (l, e) ∧ ((e ≠ 0 ∧ l = []) ∨ (e = 0 ∧ ∃ nd nn : Nat, need = nd ∧ n = nn ∧ CutOK w nd nn l)) := by
  unfold piece_Cut.f
  by_cases hv : validW w
  case neg =>
    rw [bytes_bad hv, Option.bind_some, if_pos (.inl (by decide))]
    exact ⟨_, _, rfl, .inl ⟨by decide, rfl⟩⟩
  rw [bytes_ok hv hU, Option.bind_some]
  dsimp only
  by_cases hb : need < 1 ∨ need > 32 ∨ n < 0 ∨ n > 32
  · rw [if_pos (.inr hb)]
    exact ⟨_, _, rfl, .inl ⟨by decide, rfl⟩⟩
  have hbl := bytes_len hv hU
  rw [if_neg (by rintro (h | h); exact h rfl; exact hb h), if_pos (by omega)]
  obtain ⟨nd, rfl⟩ := Int.eq_ofNat_of_zero_le (show 0 ≤ need by omega)
  obtain ⟨nn, rfl⟩ := Int.eq_ofNat_of_zero_le (show 0 ≤ n by omega)
  by_cases hm : lenOf (enc (intsOf w)) (nd : Int) > 200
  · rw [if_pos hm]
    exact ⟨_, _, rfl, .inl ⟨by decide, rfl⟩⟩
  rw [if_neg hm, code_f (by rw [rowsOf_len]; omega) (by rw [rowsOf_len]; omega) (rowsOf_row _ (by omega)) (by omega) (rowsOf_U8 (enc_U8 _) _) nn (by omega) 4000 (by omega), Option.bind_some]
  dsimp only
  rw [if_neg (by simp), codeB_len, if_pos (by omega)]
  exact ⟨_, _, rfl, .inr ⟨rfl, nd, nn, rfl, rfl, hv, by omega, by omega, by omega, by omega, rfl⟩⟩
theorem CutOK.len {w : Wn} {need n : Nat} {l : List S49} (h : CutOK w need n l) : l.length = n := by
  rw [h.eq, piecesOf, List.length_map, List.length_range, codeB_len]
theorem CutOK.get {w : Wn} {need n : Nat} {l : List S49} (h : CutOK w need n l) {i : Nat} (hi : i < n) :
    l[i]? = some (pieceAt w (enc (intsOf w)) (need : Int) i (rowOf (base need) (rowsOf (enc (intsOf w)) (need : Int)) i (lenOf (enc (intsOf w)) (need : Int)))) := by
  rw [h.eq, piecesOf, List.getElem?_map, codeB_len, List.getElem?_range hi]
  simp only [Option.map_some]
  rw [List.getD_eq_getElem?_getD, codeB_get hi, rowsOf_len]
  rfl
theorem CutOK.mem {w : Wn} {need n : Nat} {l : List S49} (h : CutOK w need n l) {p : S49} (hp : p ∈ l) :
    ∃ i, i < n ∧ p = pieceAt w (enc (intsOf w)) (need : Int) i (rowOf (base need) (rowsOf (enc (intsOf w)) (need : Int)) i (lenOf (enc (intsOf w)) (need : Int))) := by
  obtain ⟨i, hi, rfl⟩ := List.getElem_of_mem hp
  rw [h.len] at hi
  have := h.get hi
  rw [List.getElem?_eq_getElem (by rw [h.len]; exact hi)] at this
  exact ⟨i, hi, Option.some.inj this⟩
theorem pieceAt_ok {w : Wn} {need n : Nat} {l : List S49} (h : CutOK w need n l) (hU : U8 w.text) {i : Nat} (hi : i < 32) {d : List Int} (hd : d.length = lenOf (enc (intsOf w)) (need : Int)) : okP (pieceAt w (enc (intsOf w)) (need : Int) i d) := by
  have hbl := bytes_len h.v hU
  have hs := sumOf_range (enc (intsOf w))
  have hp := (padded_len (enc (intsOf w)) h.n1).2
  have h1 := h.n1
  have h2 := h.n2
  have hm := h.m2
  have hle : lenOf (enc (intsOf w)) (need : Int) * need ≤ 200 * need := Nat.mul_le_mul_right _ hm
  obtain ⟨⟨v1, v2, v3, v4, v5, v6⟩, _⟩ := h.v
  refine ⟨⟨v1, v2, v3, v4, v5, v6⟩, ?_, ?_, ?_, ?_, ?_, ?_, hs.1, hs.2, ?_⟩
  all_goals dsimp only [pieceAt]
  · omega
  · omega
  · omega
  · omega
  · omega
  · omega
  · rw [hd, lenOf, Int.toNat_natCast, Int.natCast_ediv]
    congr 1
    omega
theorem gather_pieces {w : Wn} {need n : Nat} {ps l : List S49} (h : CutOK w need n ps) (hU : U8 w.text) (hl : ∀ p ∈ l, p ∈ ps) (h1 : 0 < l.length) (h2 : l.length ≤ 64) :
    ((idxOf (look l) 32).length < need → piece_Gather.f 400 l = some (zWn, 4)) ∧ (need ≤ (idxOf (look l) 32).length → piece_Gather.f 400 l = some (w, 0)) := by
  have hn1 := h.n1
  have hn2 := h.n2
  have hbU := enc_U8 (intsOf w)
  have hm : ∀ p ∈ l, ∃ i, i < n ∧ p = pieceAt w (enc (intsOf w)) (need : Int) i (rowOf (base need) (rowsOf (enc (intsOf w)) (need : Int)) i (lenOf (enc (intsOf w)) (need : Int))) := fun p hp => h.mem (hl p hp)
  have hok : ∀ p ∈ l, okP p := fun p hp => by
    obtain ⟨i, hi, rfl⟩ := hm p hp
    exact pieceAt_ok h hU (by have := h.n3; omega) (rowOf_len _ _ _ _)
  have hpU : ∀ p ∈ l, U8 p.f5 := fun p hp => by
    obtain ⟨i, hi, rfl⟩ := hm p hp
    exact rowOf_U8 (by have := h.n3; omega) (base_rng hn2)
  have hp0 : l.getD 0 z49 ∈ l := by
    rw [List.getD_eq_getElem?_getD, List.getElem?_eq_getElem h1, Option.getD_some]
    exact List.getElem_mem h1
  have hg := gather_f h1 h2 hok hpU
  generalize l.getD 0 z49 = p0 at hp0 hg
  obtain ⟨i0, hi0, e0⟩ := hm p0 hp0
  have hc : Cons p0 l := by
    refine ⟨fun p hp => ?_, fun p hp q hq hpq => ?_⟩
    · obtain ⟨i, hi, rfl⟩ := hm p hp
      rw [e0]
      exact wholeEq_iff.2 ⟨⟨rfl, rfl, rfl⟩, rfl, rfl, rfl⟩
    · obtain ⟨i, hi, rfl⟩ := hm p hp
      obtain ⟨j, hj, rfl⟩ := hm q hq
      have hpq' : (i : Int) = (j : Int) := hpq
      have : i = j := by omega
      rw [this]
  rw [hg.1 hc]
  have hlook : ∀ i ∈ idxOf (look l) 32, 0 ≤ i ∧ i < 32 ∧ look l i = some (rowOf (base need) (rowsOf (enc (intsOf w)) (need : Int)) i.toNat (lenOf (enc (intsOf w)) (need : Int))) := by
    intro i hi
    obtain ⟨j, hj, hs, rfl⟩ := idxOf_mem.1 hi
    obtain ⟨d, hd⟩ := Option.isSome_iff_exists.1 hs
    obtain ⟨p, hp, ep1, ep2⟩ := look_some hd
    obtain ⟨k, hk, rfl⟩ := hm p hp
    have ep1' : (k : Int) = (j : Int) := ep1
    have hkj : k = j := by omega
    rw [hd, ← ep2, hkj]
    exact ⟨by omega, by omega, rfl⟩
  have hdat : datOf (look l) 32 = (idxOf (look l) 32).map fun a => rowOf (base need) (rowsOf (enc (intsOf w)) (need : Int)) a.toNat (lenOf (enc (intsOf w)) (need : Int)) := by
    unfold datOf
    apply List.map_congr_left
    intro i hi
    rw [(hlook i hi).2.2]; rfl
  have hf2 : p0.f2.toNat = need := by rw [e0]; exact Int.toNat_natCast _
  have hf3 : p0.f3.toNat = (enc (intsOf w)).length := by rw [e0]; exact Int.toNat_natCast _
  have hf5 : p0.f5.length = lenOf (enc (intsOf w)) (need : Int) := by rw [e0]; exact rowOf_len _ _ _ _
  unfold gatherC
  dsimp only
  rw [hf2, hf3, hf5]
  unfold decM
  refine ⟨fun hlt => by rw [if_pos hlt]; rfl, fun hge => ?_⟩
  have hJ : ∀ a ∈ (idxOf (look l) 32).take need, 0 ≤ a ∧ a < 32 := fun a ha => by have := hlook a (List.mem_of_mem_take ha); exact ⟨this.1, this.2.1⟩
  have hmds := mds (m := lenOf (enc (intsOf w)) (need : Int)) (rowsOf_len (enc (intsOf w)) need) hn2 (rowsOf_U8 hbU _) hJ ((idxOf_dup (look l) 32).sublist (List.take_sublist _ _)) (by rw [List.length_take]; omega) (D := (datOf (look l) 32).take need) (by rw [hdat, List.map_take])
  have hfit : fitB need (idxOf (look l) 32) (datOf (look l) 32) (lenOf (enc (intsOf w)) (need : Int)) = true := by
    unfold fitB
    rw [decide_eq_true_iff]
    intro i hi hni
    have hri : rd (idxOf (look l) 32) (i : Int) = (idxOf (look l) 32)[i] := rd_get hi
    have hr := hlook _ (List.getElem_mem hi)
    rw [hmds _ (by rw [hri]; omega), rd2_get (by rw [hdat, List.length_map]; exact hi), hri]
    simp only [hdat, List.getElem_map]
  rw [if_neg (show ¬ (idxOf (look l) 32).length < need by omega), if_pos hfit, if_neg (by simp)]
  have hrows : rowsB need (idxOf (look l) 32) (datOf (look l) 32) (lenOf (enc (intsOf w)) (need : Int)) = rowsOf (enc (intsOf w)) (need : Int) := by
    unfold rowsB
    apply List.ext_getElem (by rw [List.length_map, List.length_range, rowsOf_len])
    intro j hj1 hj2
    rw [List.length_map, List.length_range] at hj1
    rw [List.getElem_map, List.getElem_range, hmds j (by omega), base_rows (rowsOf_len _ _) hn2 (rowsOf_U8 hbU _) (rowsOf_row _ hn1) hj1]
  rw [hrows, rows_back _ hn1]
  unfold endM
  have hsum : p0.f4 = sumOf (enc (intsOf w)) := by rw [e0]; rfl
  rw [if_neg (by rw [hsum]; simp), from_bytes h.v hU]
  dsimp only
  have hname : sameName w p0 := by rw [e0]; exact ⟨rfl, rfl, rfl⟩
  rw [if_neg (by rintro (h | h); exact h rfl; exact h hname)]
end Go.Proofs.YthiealhmcfdakaaM
end
section
set_option linter.unusedVariables false
set_option linter.unusedSimpArgs false
namespace Go.Proofs.YthiealhmcfdakaaH
open Go Go.RowKit Go.Proofs.YthiealhmcfdakaaW.PrintWords Go.Proofs.YthiealhmcfdakaaW.PrintLast Go.Proofs.YthiealhmcfdakaaW.PrintMore Go.Proofs.Ythiealhmcfdakaa.E
def distN : List Int → List S49 → Nat
  | _, [] => 0
  | s, p :: r => if 0 ≤ p.f1 ∧ p.f1 < 32 ∧ p.f1 ∉ s then distN (p.f1 :: s) r + 1 else distN s r
set_option maxHeartbeats 8000000 in
set_option maxRecDepth 100000 in
theorem distinct_calls (A : Option Addr) (c : Nat) (l : List S49) (w : World) (hr : Kd.C k49 w A l.length l) (hc : l.length ≤ c) (hl : l.length ≤ 100000) :
    Calls Try.prog 21 #[.slice A l.length c] w fun e w' => e = .returned (.int .i64 (distN [] l : Nat)) ∧ Below w.heap.size w w' := by
  have hu49 := Try.underlying49
  have hu23 := Try.underlying23
  have hi49 : (Try.prog.info? 49).map (·.size) = some 8 := by kernel_rfl
  have hz : (Try.prog.info? 95).map (·.zero) = some (some (.agg (seenC []))) := by kernel_rfl
  have HR := Aside0.mk hr
  clear hr
  go_enter Try.func21, Try.ntmps21
  go_wp2_with (first | ((with_reducible refine wpList_alloc_cells rfl 95 rfl (seenC []) hz ?_)))
  have hs0 := SeenAt.new w 95
  have hB0 : Below w.heap.size w (w.alloc (.cells (seenC []) 95)) := (Below.refl _ _).alloc (Nat.le_refl _) _
  go_loopw [9, 4] (fun q cv wr => ∃ (i cnt : Nat) (s : List Int), q = .int .i64 (i : Int) ∧ i ≤ l.length ∧ cv = .int .i64 (cnt : Int) ∧ cnt ≤ i ∧ SeenAt wr w.heap.size 95 s ∧ Below w.heap.size w wr ∧ Aside0 (cnt + distN s (l.drop i) = distN [] l)) (fun q _ _ => l.length - (intOf q).toNat)
  case atStart => exact ⟨0, 0, [], rfl, Nat.zero_le _, rfl, Nat.le_refl _, hs0, hB0, ⟨by simp⟩⟩
  case round =>
    clear hs0 hB0
    obtain ⟨i, cnt, s, rfl, hi, rfl, hcnt, hs, hB, HA⟩ := hrel
    by_cases hil : i < l.length
    · have hi2 : (i : Int) < (l.length : Int) := by omega
      have hi3 : (0 : Int) ≤ (i : Int) := by omega
      obtain ⟨ad, A7, c7, e7, h0, h1, h2, h3, h4, h5, h6, h7, h8, h9⟩ := at_T49 (Kd.C_below HR.out hB) (i : Int) hi3 hi2
      subst e7
      rw [Int.toNat_natCast] at h0 h1 h2 h3 h4 h5 h6 h7
      have hpi : rd_T49 l (i : Int) = l[i] := by rw [rd_T49, Int.toNat_natCast, List.getD_eq_getElem?_getD, List.getElem?_eq_getElem hil, Option.getD_some]
      have hdr : l.drop i = l[i] :: l.drop (i + 1) := List.drop_eq_getElem_cons hil
      rw [hpi] at h0 h1 h2 h3 h4 h5 h6 h7
      have ha := HA.out
      rw [hdr, distN] at ha
      obtain ⟨p, hp⟩ : ∃ p, p = l[i] := ⟨_, rfl⟩
      rw [← hp] at h0 h1 h2 h3 h4 h5 h6 h7 ha
      clear hp hdr hpi h8 h9 HA
      obtain ⟨⟨n0, n1, n2⟩, ix, nd, sz, sm, dat⟩ := p
      dsimp only at *
      have HAA := Aside0.mk ha
      clear ha
      have hbs := hB.size
      have HS0 := Aside0.mk hs
      have HB0 := Aside0.mk hB
      have hgw : w.heap.size < wr.heap.size := (Array.getElem?_eq_some_iff.1 hs).1
      obtain ⟨W1, hW1⟩ : ∃ W1, W1 = wr.alloc (.cells #[.int .i64 n0, .int .i64 n1, .int .i64 n2, .int .i64 ix, .int .i64 nd, .int .i64 sz, .int .i64 sm, .slice A7 dat.length c7] 49) := ⟨_, rfl⟩
      have hB1 : Below w.heap.size w W1 := by rw [hW1]; exact hB.alloc hB.size _
      have hs1 : SeenAt W1 w.heap.size 95 s := by rw [hW1]; exact (Below.heap_alloc _ _ _ hgw).trans hs
      subst hW1
      have HB1 := Aside0.mk hB1
      have HS1 := Aside0.mk hs1
      clear hB1
      by_cases q0 : 0 ≤ ix
      case neg =>
        have hn : ¬ (0 ≤ ix ∧ ix < 32 ∧ ix ∉ s) := fun h => q0 h.1
        have HN := Aside0.mk hn
        have k0 : decide (0 ≤ ix) = false := decide_eq_false q0
        clear hn hs1
        go_wp2_with (first | (refine wpList_store_row rfl 49 (.tmp 6) (.tmp 12) rfl wr.heap.size rfl #[.int .i64 n0, .int .i64 n1, .int .i64 n2, .int .i64 ix, .int .i64 nd, .int .i64 sz, .int .i64 sm, .slice A7 dat.length c7] rfl 49 #[.int .i64 0, .int .i64 0, .int .i64 0, .int .i64 0, .int .i64 0, .int .i64 0, .int .i64 0, .slice none 0 0] (World.alloc_heap_new _ _) rfl ?h1 hi49 ?_; (case h1 => simp [Value.oneCell']); rw [World.setRow_alloc_new]))
        go_roundw
        case rel => exact ⟨i + 1, cnt, s, rfl, by omega, rfl, by omega, HS1.out, HB1.out, ⟨by have := HAA.out; rw [if_neg HN.out] at this; exact this⟩⟩
        case measure => first | (simp [intOf]; done) | (simp [intOf]; omega)
      have k0 : decide (0 ≤ ix) = true := decide_eq_true q0
      by_cases q1 : ix < 32
      case neg =>
        have hn : ¬ (0 ≤ ix ∧ ix < 32 ∧ ix ∉ s) := fun h => q1 h.2.1
        have HN := Aside0.mk hn
        have k1 : decide (ix < 32) = false := decide_eq_false q1
        clear hn hs1
        go_wp2_with (first | (refine wpList_store_row rfl 49 (.tmp 6) (.tmp 12) rfl wr.heap.size rfl #[.int .i64 n0, .int .i64 n1, .int .i64 n2, .int .i64 ix, .int .i64 nd, .int .i64 sz, .int .i64 sm, .slice A7 dat.length c7] rfl 49 #[.int .i64 0, .int .i64 0, .int .i64 0, .int .i64 0, .int .i64 0, .int .i64 0, .int .i64 0, .slice none 0 0] (World.alloc_heap_new _ _) rfl ?h1 hi49 ?_; (case h1 => simp [Value.oneCell']); rw [World.setRow_alloc_new]))
        go_roundw
        case rel => exact ⟨i + 1, cnt, s, rfl, by omega, rfl, by omega, HS1.out, HB1.out, ⟨by have := HAA.out; rw [if_neg HN.out] at this; exact this⟩⟩
        case measure => first | (simp [intOf]; done) | (simp [intOf]; omega)
      have k1 : decide (ix < 32) = true := decide_eq_true q1
      obtain ⟨n, rfl⟩ := Int.eq_ofNat_of_zero_le q0
      have hcl := hs1.cell n (by omega)
      have hfz := hs1.frozen n
      clear hs1
      by_cases q2 : (n : Int) ∈ s
      · rw [decide_eq_true q2] at hcl
        have hn : ¬ (0 ≤ (n : Int) ∧ (n : Int) < 32 ∧ (n : Int) ∉ s) := fun h => h.2.2 q2
        have HN := Aside0.mk hn
        clear hn q2
        go_wp2_with (first | (refine wpList_store_row rfl 49 (.tmp 6) (.tmp 12) rfl wr.heap.size rfl #[.int .i64 n0, .int .i64 n1, .int .i64 n2, .int .i64 ix, .int .i64 nd, .int .i64 sz, .int .i64 sm, .slice A7 dat.length c7] rfl 49 #[.int .i64 0, .int .i64 0, .int .i64 0, .int .i64 0, .int .i64 0, .int .i64 0, .int .i64 0, .slice none 0 0] (World.alloc_heap_new _ _) rfl ?h1 hi49 ?_; (case h1 => simp [Value.oneCell']); rw [World.setRow_alloc_new]))
        go_roundw
        case rel => exact ⟨i + 1, cnt, s, rfl, by omega, rfl, by omega, HS1.out, HB1.out, ⟨by have := HAA.out; rw [if_neg HN.out] at this; exact this⟩⟩
        case measure => first | (simp [intOf]; done) | (simp [intOf]; omega)
      · rw [decide_eq_false q2] at hcl
        have HN := Aside0.mk (show 0 ≤ (n : Int) ∧ (n : Int) < 32 ∧ (n : Int) ∉ s from ⟨q0, q1, q2⟩)
        clear q2
        go_wp2_with (first | (refine wpList_store_row rfl 49 (.tmp 6) (.tmp 12) rfl wr.heap.size rfl #[.int .i64 n0, .int .i64 n1, .int .i64 n2, .int .i64 ix, .int .i64 nd, .int .i64 sz, .int .i64 sm, .slice A7 dat.length c7] rfl 49 #[.int .i64 0, .int .i64 0, .int .i64 0, .int .i64 0, .int .i64 0, .int .i64 0, .int .i64 0, .slice none 0 0] (World.alloc_heap_new _ _) rfl ?h1 hi49 ?_; (case h1 => simp [Value.oneCell']); rw [World.setRow_alloc_new]))
        go_roundw
        case rel => exact ⟨i + 1, cnt + 1, (n : Int) :: s, rfl, by omega, rfl, by omega, (Below.heap_alloc _ _ _ (by simp; omega)).trans (HS0.out.set n), (HB0.out.setCell (p := ⟨w.heap.size, n, none⟩) (Nat.le_refl _) _).alloc (by simp; omega) _, ⟨by have := HAA.out; rw [if_pos HN.out] at this; omega⟩⟩
        case measure => first | (simp [intOf]; done) | (simp [intOf]; omega)
    · have hie : i = l.length := by omega
      have ha := HA.out
      rw [hie, List.drop_length, distN] at ha
      have HAA := Aside0.mk ha
      clear ha hie
      go_wp2_with fail
      go_ret
      exact ⟨by rw [← HAA.out]; rfl, hB⟩
end Go.Proofs.YthiealhmcfdakaaH
end
section
set_option linter.unusedVariables false
set_option linter.unusedSimpArgs false
namespace Go.Proofs.YthiealhmcfdakaaM
open Go Go.RowKit Go.Proofs.YthiealhmcfdakaaH Go.Proofs.Ythiealhmcfdakaa.E Go.Proofs.YthiealhmcfdakaaW.PrintWords
theorem countP_or {α : Type} [DecidableEq α] (P : α → Bool) (a : α) : ∀ (L : List α), L.Nodup → a ∈ L → P a = false → L.countP (fun i => P i || (i == a)) = L.countP P + 1
  | [], _, h, _ => by simp at h
  | b :: L, hd, hm, hP => by
    rw [List.nodup_cons] at hd
    rw [List.countP_cons, List.countP_cons]
    rcases List.mem_cons.1 hm with e | h
    · subst e
      have : L.countP (fun i => P i || (i == a)) = L.countP P := by
        apply List.countP_congr
        intro x hx
        have : x ≠ a := fun e => hd.1 (e ▸ hx)
        simp [this]
      rw [this, hP]
      simp
    · have hne : b ≠ a := fun e => hd.1 (e ▸ h)
      rw [countP_or P a L hd.2 h hP]
      simp [hne]
      omega
theorem distN_count : ∀ (l : List S49) (s : List Int), (∀ p ∈ l, 0 ≤ p.f1 ∧ p.f1 < 32) → distN s l = (List.range 32).countP (fun (i : Nat) => decide ((∃ p ∈ l, p.f1 = (i : Int)) ∧ (i : Int) ∉ s))
  | [], s, _ => by
    rw [distN, eq_comm, List.countP_eq_zero]
    intro i _
    simp
  | p :: r, s, h => by
    have hp := h p (List.mem_cons_self ..)
    have hr := fun q hq => h q (List.mem_cons_of_mem _ hq)
    rw [distN]
    by_cases hs : p.f1 ∈ s
    · rw [if_neg (fun c => c.2.2 hs), distN_count r s hr]
      apply List.countP_congr
      intro i _
      simp only [decide_eq_true_eq, List.mem_cons]
      constructor
      · rintro ⟨⟨q, hq, e⟩, hn⟩
        exact ⟨⟨q, .inr hq, e⟩, hn⟩
      · rintro ⟨⟨q, hq | hq, e⟩, hn⟩
        · rw [hq] at e; rw [e] at hs; exact absurd hs hn
        · exact ⟨⟨q, hq, e⟩, hn⟩
    · rw [if_pos ⟨hp.1, hp.2, hs⟩, distN_count r (p.f1 :: s) hr]
      have hk := countP_or (fun (i : Nat) => decide ((∃ q ∈ r, q.f1 = (i : Int)) ∧ (i : Int) ∉ p.f1 :: s)) p.f1.toNat (List.range 32) List.nodup_range (by rw [List.mem_range]; omega) (by
        rw [decide_eq_false_iff_not]
        rintro ⟨_, hn⟩
        exact hn (by rw [Int.toNat_of_nonneg hp.1]; exact List.mem_cons_self ..))
      rw [← hk]
      apply List.countP_congr
      intro i _
      simp only [decide_eq_true_eq, Bool.or_eq_true, beq_iff_eq, List.mem_cons, not_or]
      constructor
      · rintro (⟨⟨q, hq, e⟩, hn1, hn2⟩ | rfl)
        · exact ⟨⟨q, .inr hq, e⟩, hn2⟩
        · rw [Int.toNat_of_nonneg hp.1]
          exact ⟨⟨p, .inl rfl, rfl⟩, hs⟩
      · rintro ⟨⟨q, hq | hq, e⟩, hn⟩
        · right; rw [hq] at e; omega
        · by_cases hpi : (i : Int) = p.f1
          · right; omega
          · exact .inl ⟨⟨q, hq, e⟩, hpi, hn⟩
theorem dist_len {l : List S49} (h : ∀ p ∈ l, 0 ≤ p.f1 ∧ p.f1 < 32) : distN [] l = (idxOf (look l) 32).length := by
  rw [distN_count l [] h]
  unfold idxOf
  rw [List.length_map, ← List.countP_eq_length_filter]
  apply List.countP_congr
  intro i _
  rw [decide_eq_true_iff]
  constructor
  · rintro ⟨⟨p, hp, e⟩, _⟩
    cases hl : look l (i : Int) with
    | none => exact absurd e (look_none hl p hp)
    | some d => rfl
  · intro hs
    obtain ⟨d, hd⟩ := Option.isSome_iff_exists.1 hs
    obtain ⟨p, hp, e, _⟩ := look_some hd
    exact ⟨⟨p, hp, e⟩, by simp⟩
end Go.Proofs.YthiealhmcfdakaaM
end
section
set_option linter.unusedVariables false
set_option linter.unusedSimpArgs false
namespace Go.Proofs.YthiealhmcfdakaaM
open Go Go.RowKit Go.Proofs.YthiealhmcfdakaaH Go.Proofs.Ythiealhmcfdakaa.E Go.Proofs.YthiealhmcfdakaaW.PrintWords
theorem few_l0 {l : List S49} (hl : l.length ≤ 12) : ∀ (d i : Nat), i + d = l.length → ∀ K, d < K → ∃ b, seamarkref30_Few.l0 K l (i : Int) = some b
  | 0, i, h, K, hK => by
    obtain ⟨K, rfl⟩ : ∃ k, K = k + 1 := ⟨K - 1, by omega⟩
    rw [seamarkref30_Few.l0, if_neg (by omega)]
    exact ⟨_, rfl⟩
  | d + 1, i, h, K, hK => by
    obtain ⟨K, rfl⟩ : ∃ k, K = k + 1 := ⟨K - 1, by omega⟩
    rw [seamarkref30_Few.l0]
    obtain ⟨b, hb⟩ := few_l0 hl d (i + 1) (by omega) K (by omega)
    rw [if_pos (by omega), wrap_succ i (by omega), hb]
    repeat' split
    all_goals first | exact ⟨_, rfl⟩ | (exfalso; omega)
theorem few_f (l : List S49) : ∃ b, seamarkref30_Few.f 20 l = some b ∧ (b = true → l.length ≤ 12) := by
  unfold seamarkref30_Few.f
  by_cases h : (l.length : Int) > 12
  · rw [if_pos h]; exact ⟨false, rfl, fun h => by cases h⟩
  · rw [if_neg h]
    obtain ⟨b, hb⟩ := few_l0 (l := l) (by omega) l.length 0 (by omega) 20 (by omega)
    exact ⟨b, hb, fun _ => by omega⟩
theorem head_mem {l : List S49} (h1 : 0 < l.length) : l.getD 0 z49 ∈ l := by
  rw [List.getD_eq_getElem?_getD, List.getElem?_eq_getElem h1, Option.getD_some]
  exact List.getElem_mem h1
theorem gather_bad {l : List S49} (h : ¬ ∀ p ∈ l, okP p) : piece_Gather.f 400 l = some (zWn, 1) := by
  have h' : allOk l = false := by
    cases e : allOk l with
    | false => rfl
    | true => exact absurd (allOk_iff.1 e) h
  unfold piece_Gather.f
  rw [if_pos (.inr (.inr h'))]
theorem endM_congr {p q : S49} (cc : List Int) (h0 : p.f0 = q.f0) (h4 : p.f4 = q.f4) : endM p cc = endM q cc := by
  obtain ⟨n, a1, a2, a3, a4, a5⟩ := p
  obtain ⟨n', b1, b2, b3, b4, b5⟩ := q
  dsimp only at h0 h4
  subst h0 h4
  rfl
theorem endM_cases (p0 : S49) {cc : List Int} (hU : U8 cc) (hl : cc.length < 1000000) : ((endM p0 cc).2 ≠ 0 ∧ (endM p0 cc).1 = zWn) ∨ ((endM p0 cc).2 = 0 ∧ validW (endM p0 cc).1 ∧ U8 (endM p0 cc).1.text ∧ sameName (endM p0 cc).1 p0) := by
  unfold endM
  by_cases c : sumOf cc ≠ p0.f4
  · rw [if_pos c]; exact .inl ⟨by decide, rfl⟩
  rw [if_neg c]
  obtain ⟨x, e, hx, hc⟩ := from_back hU hl
  rw [hx]
  dsimp only
  by_cases c2 : e ≠ 0 ∨ ¬ sameName x p0
  · rw [if_pos c2]; exact .inl ⟨by decide, rfl⟩
  rw [if_neg c2]
  have he : e = 0 := Decidable.not_not.1 (fun h => c2 (.inl h))
  have hn : sameName x p0 := Decidable.not_not.1 (fun h => c2 (.inr h))
  rcases hc with ⟨_, h1, h2, _⟩ | ⟨h, _⟩
  · exact .inr ⟨rfl, h1, h2, hn⟩
  · omega
theorem gatherC_cases {p0 : S49} {l : List S49} (h0 : okP p0) (hok : ∀ p ∈ l, okP p) (hU : ∀ p ∈ l, U8 p.f5) (hc : Cons p0 l) :
    (((gatherC p0 l).2 ≠ 0 ∧ (gatherC p0 l).1 = zWn) ∨ ((gatherC p0 l).2 = 0 ∧ validW (gatherC p0 l).1 ∧ U8 (gatherC p0 l).1.text ∧ sameName (gatherC p0 l).1 p0)) ∧ ((idxOf (look l) 32).length < p0.f2.toNat → (gatherC p0 l).2 = 4) := by
  have g := giv_of h0 hok hU hc
  have hn := g.n2
  have hm := g.m200
  unfold gatherC
  dsimp only
  unfold decM
  by_cases c1 : (idxOf (look l) 32).length < p0.f2.toNat
  · rw [if_pos c1]
    exact ⟨.inl ⟨show (4 : Int) ≠ 0 by decide, rfl⟩, fun _ => rfl⟩
  rw [if_neg c1]
  refine ⟨?_, fun h => absurd h c1⟩
  by_cases c2 : fitB p0.f2.toNat (idxOf (look l) 32) (datOf (look l) 32) p0.f5.length = true
  · rw [if_pos c2, if_neg (by simp)]
    refine endM_cases p0 (U8.take ?_ _) ?_
    · intro x hx
      obtain ⟨r, hr, hxr⟩ := List.mem_flatten.1 hx
      obtain ⟨i, hi, rfl⟩ := List.mem_map.1 hr
      rw [List.mem_range] at hi
      exact rowOf_U8 (by omega) (fun a ha => g.rng a (List.mem_of_mem_take ha)) x hxr
    · rw [List.length_take]
      have h1 := h0.2.2.2.2.2.2.1
      have h2 := h0.2.2.2.2.1
      omega
  · rw [if_neg c2]
    exact .inl ⟨show (18 : Int) ≠ 0 by decide, rfl⟩
theorem few_gather {l : List S49} (h1 : 0 < l.length) (h2 : l.length ≤ 64) (hU : ∀ p ∈ l, U8 p.f5) : ∃ w e, piece_Gather.f 400 l = some (w, e) ∧ (e ≠ 0 → w = zWn) ∧ (e = 0 → validW w ∧ U8 w.text ∧ sameName w (l.getD 0 z49)) ∧
    ((distN [] l : Nat) < (l.getD 0 z49).f2 → e = 4 ∨ e = 18 ∨ e = 1) := by
  by_cases hok : ∀ p ∈ l, okP p
  case neg => exact ⟨_, _, gather_bad hok, fun _ => rfl, fun h => absurd h (by decide), fun _ => .inr (.inr rfl)⟩
  have hg := gather_f h1 h2 hok hU
  have hp0 := head_mem h1
  have hd := dist_len (l := l) (fun p hp => ⟨(hok p hp).2.1, (hok p hp).2.2.1⟩)
  rw [hd]
  generalize l.getD 0 z49 = p0 at hp0 hg
  by_cases hc : Cons p0 l
  · obtain ⟨h3, h4⟩ := gatherC_cases (hok p0 hp0) hok hU hc
    refine ⟨_, _, hg.1 hc, fun he => ?_, fun he => ?_, fun hlt => .inl (h4 ?_)⟩
    · rcases h3 with h | h
      · exact h.2
      · exact absurd h.1 he
    · rcases h3 with h | h
      · exact absurd he h.1
      · exact h.2
    · have := (hok p0 hp0).2.2.2.1
      omega
  · exact ⟨_, _, hg.2 hc, fun _ => rfl, fun h => absurd h (by decide), fun _ => .inr (.inl rfl)⟩
theorem gather_same {l l' : List S49} (h1 : 0 < l.length) (h2 : l.length ≤ 64) (hl : l'.length = l.length) (hm : ∀ p, p ∈ l ↔ p ∈ l') (hU : ∀ p ∈ l, U8 p.f5) : piece_Gather.f 400 l' = piece_Gather.f 400 l := by
  by_cases hok : ∀ p ∈ l, okP p
  case neg => rw [gather_bad hok, gather_bad (fun h => hok (fun p hp => h p ((hm p).1 hp)))]
  have hok' : ∀ p ∈ l', okP p := fun p hp => hok p ((hm p).2 hp)
  have hU' : ∀ p ∈ l', U8 p.f5 := fun p hp => hU p ((hm p).2 hp)
  have hg := gather_f h1 h2 hok hU
  have hg' := gather_f (l := l') (by omega) (by omega) hok' hU'
  have hp0 := head_mem h1
  have hp0' := head_mem (l := l') (by omega)
  generalize l.getD 0 z49 = p0 at hp0 hg
  generalize l'.getD 0 z49 = p1 at hp0' hg'
  have htr : ∀ {a b c : S49}, wholeEq a b = true → wholeEq c b = true → wholeEq a c = true := by
    intro a b c hab hcb
    obtain ⟨⟨x1, x2, x3⟩, x4, x5, x6⟩ := wholeEq_iff.1 hab
    obtain ⟨⟨y1, y2, y3⟩, y4, y5, y6⟩ := wholeEq_iff.1 hcb
    exact wholeEq_iff.2 ⟨⟨x1.trans y1.symm, x2.trans y2.symm, x3.trans y3.symm⟩, x4.trans y4.symm, x5.trans y5.symm, x6.trans y6.symm⟩
  by_cases hc : Cons p0 l
  · have hc' : Cons p1 l' := ⟨fun p hp => htr (hc.1 p ((hm p).2 hp)) (hc.1 p1 ((hm p1).2 hp0')), fun p hp q hq => hc.2 p ((hm p).2 hp) q ((hm q).2 hq)⟩
    rw [hg.1 hc, hg'.1 hc']
    have hw := hc.1 p1 ((hm p1).2 hp0')
    have hlen := okP_len' (hok' p1 hp0') (hok p0 hp0) hw
    obtain ⟨⟨x1, x2, x3⟩, x4, x5, x6⟩ := wholeEq_iff.1 hw
    have hlk := look_ext hc.2 hm
    have hn : p1.f0 = p0.f0 := by
      obtain ⟨⟨_, _, _⟩, _⟩ := p0
      obtain ⟨⟨_, _, _⟩, _⟩ := p1
      dsimp only at x1 x2 x3 ⊢
      rw [x1, x2, x3]
    congr 1
    unfold gatherC
    dsimp only
    rw [← hlk, x4, x5, hlen]
    simp only [endM_congr _ hn x6]
  · have hc' : ¬ Cons p1 l' := fun h => hc ⟨fun p hp => htr (h.1 p ((hm p).1 hp)) (h.1 p0 ((hm p0).1 hp0)), fun p hp q hq => h.2 p ((hm p).1 hp) q ((hm q).1 hq)⟩
    rw [hg.2 hc, hg'.2 hc']
end Go.Proofs.YthiealhmcfdakaaM
end
section
set_option linter.unusedVariables false
set_option linter.unusedSimpArgs false
namespace Go.Proofs.YthiealhmcfdakaaH
open Go Go.RowKit Go.ChangeShapes Go.WideShapes Go.ChangeAt Go.Proofs.YthiealhmcfdakaaW.PrintWords Go.Proofs.Ythiealhmcfdakaa.E Go.Proofs.YthiealhmcfdakaaM
theorem cells_get {w : World} {base n : Nat} {a : Addr} {cs : List Value} (h : w.cells? base a n = some cs) : cs.length = n ∧ ∀ j, j < n → w.cell? (a.add j) = cs[j]? := by
  unfold World.cells? at h
  split at h
  · refine ⟨by simpa using mapM_some_length h, fun j hj => ?_⟩
    exact mapM_some_get h j j (by simp [hj])
  · cases h
theorem maxLen_le : maxLen ≤ 9223372036854775807 := by decide
theorem open_pieces {H : Type} {enc : TypeId × Value → H} {W : World} {base : Nat} {held : Bool} {fuel : Nat} {cs : List Value} {x : DataW H × List MemPlace} (h : DataW.trod enc Try.prog W base (fun _ => true) held fuel 41 cs = some x) :
    ∃ A c, ∃ l : List S49, cs = [.slice A l.length c] ∧ l.length ≤ c ∧ Kd.C k49 W A l.length l ∧ ∀ p ∈ l, U8 p.f5 := by
  have h8 : Try.prog.cellsOf 49 = 8 := by kernel_rfl
  rcases DataW.trod_slice Try.underlying41 h with ⟨rfl, _⟩ | ⟨a, len, cap, elems, rest, n, _, rfl, _, hb, hlc, hcm, hel, hget, _, _⟩
  · exact ⟨none, 0, [], rfl, Nat.le_refl _, Kd.C_nil _ _, fun p hp => by simp at hp⟩
  · have hp : ∀ i, i < len → ∃ (p : S49) (A : Option Addr) (c : Nat), p.f5.length ≤ c ∧ (Kd.int .u8).C W A p.f5.length p.f5 ∧ U8 p.f5 ∧ ∀ j v, (rawPiece p (.slice A p.f5.length c))[j]? = some v → W.cell? (a.add (i * 8 + j)) = some v := by
      intro i hi
      have hg := hget i hi
      have : elems[i]? = some elems[i] := List.getElem?_eq_getElem (by omega)
      rw [this, h8] at hg
      obtain ⟨ci, hci, ht⟩ := Option.bind_eq_some_iff.1 hg
      obtain ⟨p, A, c, e, hc, hC, hU⟩ := open_piece ht
      obtain ⟨hl, hcell⟩ := cells_get hci
      refine ⟨p, A, c, hc, hC, hU, fun j v hj => ?_⟩
      have hj8 : j < 8 := (List.getElem?_eq_some_iff.1 hj).1
      have := hcell j hj8
      rw [e] at this
      have hadd : (a.add (i * 8)).add j = a.add (i * 8 + j) := Addr.add_add _ _ _
      rw [hadd] at this
      rw [this]
      exact hj
    obtain ⟨f, hf⟩ : ∃ f : Nat → S49, ∀ i, i < len → ∃ (A : Option Addr) (c : Nat), (f i).f5.length ≤ c ∧ (Kd.int .u8).C W A (f i).f5.length (f i).f5 ∧ U8 (f i).f5 ∧ ∀ j v, (rawPiece (f i) (.slice A (f i).f5.length c))[j]? = some v → W.cell? (a.add (i * 8 + j)) = some v := by
      refine ⟨fun i => if h : i < len then (hp i h).choose else z49, fun i hi => ?_⟩
      dsimp only
      rw [dif_pos hi]
      exact (hp i hi).choose_spec
    have hll : ((List.range len).map f).length = len := by simp
    refine ⟨some a, cap, (List.range len).map f, by rw [hll], by rw [hll]; exact hlc, ?_, fun p hp => ?_⟩
    · rw [hll]
      refine ⟨hll, by have := maxLen_le; omega, fun hn => ⟨a, rfl, fun j p hj => ?_⟩⟩
      have hjl : j < len := by have := (List.getElem?_eq_some_iff.1 hj).1; rwa [hll] at this
      rw [List.getElem?_map, List.getElem?_range hjl] at hj
      obtain rfl := Option.some.inj hj
      obtain ⟨A, c, hc, hC, hU, hcell⟩ := hf j hjl
      exact ⟨rawPiece (f j) (.slice A (f j).f5.length c), rfl, k49_mk W _ hc hC, fun i u hu => hcell i u hu⟩
    · obtain ⟨i, hi, rfl⟩ := List.mem_map.1 hp
      rw [List.mem_range] at hi
      obtain ⟨_, _, _, _, hU, _⟩ := hf i hi
      exact hU
end Go.Proofs.YthiealhmcfdakaaH
end
section
set_option linter.unusedVariables false
set_option linter.unusedSimpArgs false
namespace Go.Proofs.YthiealhmcfdakaaH
open Go Go.RowKit Go.Proofs.YthiealhmcfdakaaW.PrintWords Go.Proofs.YthiealhmcfdakaaW.PrintLast Go.Proofs.YthiealhmcfdakaaW.PrintMore Go.Proofs.Ythiealhmcfdakaa.E
def rawsOf (l : List S49) (sv : Nat → Value) : List (List Value) := (List.range l.length).map fun m => rawPiece (l.getD m z49) (sv m)
theorem rawsOf_len (l : List S49) (sv : Nat → Value) : (rawsOf l sv).length = l.length := by rw [rawsOf, List.length_map, List.length_range]
theorem rawsOf_get {l : List S49} {sv : Nat → Value} {m : Nat} (h : m < l.length) : (rawsOf l sv)[m]? = some (rawPiece (l.getD m z49) (sv m)) := by
  rw [rawsOf, List.getElem?_map, List.getElem?_range h]
  rfl
theorem rawPiece_ok {p : S49} {A : Option Addr} {c : Nat} : (rawPiece p (.slice A p.f5.length c)).length = 8 ∧ ∀ u ∈ rawPiece p (.slice A p.f5.length c), u.oneCell' = true := ⟨rfl, by simp [rawPiece, Value.oneCell']⟩
theorem raw_C {w : World} {A : Option Addr} {l : List S49} (h : Kd.C k49 w A l.length l) : ∃ sv : Nat → Value, Kd.C (rawKd 8) w A l.length (rawsOf l sv) ∧ ∀ m, m < l.length → ∃ A7 c7, sv m = .slice A7 (l.getD m z49).f5.length c7 ∧ (l.getD m z49).f5.length ≤ c7 ∧ (Kd.int .u8).C w A7 (l.getD m z49).f5.length (l.getD m z49).f5 ∧
    ∃ ad, A = some ad ∧ ∀ j v, (rawPiece (l.getD m z49) (sv m))[j]? = some v → w.cell? (ad.add (m * 8 + j)) = some v := by
  obtain ⟨sv, hsv⟩ := raws_of h
  refine ⟨sv, ⟨rawsOf_len l sv, h.2.1, fun hn => ?_⟩, hsv⟩
  obtain ⟨ad, e, _⟩ := h.2.2 hn
  refine ⟨ad, e, fun j x hj => ?_⟩
  have hjl : j < l.length := by
    have := (List.getElem?_eq_some_iff.1 hj).1
    rwa [rawsOf_len] at this
  rw [rawsOf_get hjl] at hj
  obtain rfl := Option.some.inj hj
  obtain ⟨A7, c7, hs, l7, g7, ad', e', hcell⟩ := hsv j hjl
  rw [e] at e'
  obtain rfl := Option.some.inj e'
  refine ⟨rawPiece (l.getD j z49) (sv j), by rw [hs]; exact rawPiece_ok.1, ⟨rfl, by rw [hs]; exact rawPiece_ok.1, by rw [hs]; exact rawPiece_ok.2⟩, hcell⟩
theorem rel_set {α β : Type} {xs : List α} {ys : List β} {R : α → β → Prop} (h : ∀ (j : Nat) a b, xs[j]? = some a → ys[j]? = some b → R a b) (i : Nat) {a : α} {b : β} (hR : R a b) : ∀ (j : Nat) a' b', (xs.set i a)[j]? = some a' → (ys.set i b)[j]? = some b' → R a' b' := by
  intro j a' b' ha hb
  by_cases e : i = j
  · subst e
    have h1 : i < xs.length := by have := (List.getElem?_eq_some_iff.1 ha).1; rwa [List.length_set] at this
    have h2 : i < ys.length := by have := (List.getElem?_eq_some_iff.1 hb).1; rwa [List.length_set] at this
    rw [List.getElem?_set_self h1] at ha
    rw [List.getElem?_set_self h2] at hb
    obtain rfl := Option.some.inj ha
    obtain rfl := Option.some.inj hb
    exact hR
  · rw [List.getElem?_set_ne e] at ha hb
    exact h j a' b' ha hb
section
variable {P : Program} {ops : Array Oper} {o : Oper} {a : Act} {Q : Exit → Act → World → Prop} {Kc : Act → World → Prop}
theorem raw_store_step {N : Option Tmp} {w0 W : World} (base : Nat) (hw : Region.wanted o (yielded ops a.tmps) = true) (hN : o.dst = none) (hNN : N = none) (t : TypeId) (p x : Operand) (ho : o.op = .store t p x) (e : TypeId) {g n cap : Nat} {ad : Addr} (i : Int) (xs : List (List Value)) (u : Value) (seg : List Value)
    (haddr : a.eval p = .pointer (some ad)) (hx : a.eval x = u) (hadr : ad = ⟨g, i.toNat * 8, none⟩) (hu : u.cells.toList = seg) (ht : (P.info? t).map (·.size) = some 8) (hsl : seg.length = 8) (h1 : ∀ q ∈ seg, q.oneCell' = true)
    (HO : (rawKd 8).R e W base (fun _ => True) (.slice (some ⟨g, 0, none⟩) n cap) xs) (h0 : 0 ≤ i) (hi : i < n) (HB : Below base w0 W)
    (h : ∀ w1, (rawKd 8).R e w1 base (fun _ => True) (.slice (some ⟨g, 0, none⟩) n cap) (xs.set i.toNat seg) → Below base w0 w1 → Kc a w1) : if Region.wanted o (yielded ops a.tmps) = true then Oper.wp P o a W Kc Q else Kc (a.put N undef) W := by
  subst hadr
  subst hNN
  rw [if_pos hw]
  have hnx : n = xs.length := (Kd.R_reads' HO).1
  obtain ⟨ad, c, e1, hcl, hK, hcc0⟩ := Kd.C_get (Kd.R_reads' HO).2.2 [] i h0 (by omega)
  obtain rfl := Option.some.inj e1
  have hcc : ∀ j u, c[j]? = some u → W.cell? ⟨g, i.toNat * 8 + j, none⟩ = some u := by
    intro j u hj
    have := hcc0 j u hj
    have e2 : (⟨g, 0, none⟩ : Addr).add (i.toNat * 8 + j) = ⟨g, i.toNat * 8 + j, none⟩ := by simp [Addr.add]; omega
    rw [← e2]
    exact this
  have hc8 : c.length = 8 := hcl
  obtain ⟨hrow, hg⟩ := Kd.R_seg (d := rawKd 8) (okp := fun _ => False) HO i h0 hi (c := c) (seg := seg) (j := 0) hcl hcc (by rw [hsl]; exact Nat.le_refl _) (x' := seg) (by
    have hd : List.drop (0 + seg.length) c = [] := List.drop_eq_nil_of_le (by omega)
    rw [hd, List.take_zero, List.nil_append, List.append_nil]
    exact ⟨rfl, hsl, h1⟩) (fun _ hk => hk.elim)
  have hbg : base ≤ g := Kd.R_base HO g (by simp [Value.ownBlock])
  obtain ⟨_, inner, hown, hr⟩ := HO
  have hil : i.toNat < n := by omega
  have hB : Below base w0 (W.setCells g (i.toNat * 8 + 0) seg) := HB.trans ⟨hg.os, hg.tape, hg.output, hg.size, fun k hk => by
    have hlt : k < W.heap.size ∨ W.heap.size ≤ k := Nat.lt_or_ge _ _
    rcases hlt with hlt | hge
    · exact hg.block k hlt (fun he => by injection he with he; omega)
    · exact setCells_far seg _ k (by omega)⟩
  have hrun : (Instr.storeAt t (.pointer (some ⟨g, i.toNat * 8 + 0, none⟩)) u).run P W = .ok () (W.setCells g (i.toNat * 8 + 0) seg) := by
    rcases hown.2 with ⟨hv, _⟩ | ⟨g', cap', cur, hv, hb, hh, hnc, hcm, hcs, _⟩
    · cases hv
    injection hv with ha _ hc
    injection ha with ha
    injection ha with hg'
    subst hg'; subst hc
    refine run_store_run t u seg hh hu (by rw [ht, hsl]) ?_ h1
    have h2 : i.toNat * 8 + 8 ≤ n * 8 := by omega
    have h3 : n * 8 ≤ cap * 8 := Nat.mul_le_mul_right _ (by omega)
    have h4 : (rawKd 8).sz = 8 := rfl
    rw [h4] at hcs
    omega
  unfold Oper.wp execOp
  simp only [Nat.add_zero] at hrun hrow hB
  simp only [ho, haddr, hx, Sem.run_bind, Sem.run_pure, Result.andThen_ok, hrun]
  show Kc (a.put o.dst undef) _
  rw [hN]
  exact h _ hrow hB
end
end Go.Proofs.YthiealhmcfdakaaH
end
section
set_option linter.unusedVariables false
set_option linter.unusedSimpArgs false
namespace Go.Proofs.YthiealhmcfdakaaH
open Go Go.RowKit Go.Proofs.YthiealhmcfdakaaW.PrintWords Go.Proofs.YthiealhmcfdakaaW.PrintLast Go.Proofs.YthiealhmcfdakaaW.PrintMore Go.Proofs.Ythiealhmcfdakaa.E Go.Proofs.YthiealhmcfdakaaM
theorem pcut_calls (p : Wn) (A : Option Addr) (c : Nat) (need n : Int) (l : List S49) (e : Int) (w : World) (hr : Kd.C (Kd.int .u8) w A p.text.length p.text) (hc : p.text.length ≤ c) (h : piece_Cut.f 4000 p need n = some (l, e)) :
    Calls Try.prog 18 #[.agg #[.int .i64 p.st, .int .i64 p.ki, .int .i64 p.nu, .int .i64 p.iss, .int .i64 p.unt, .int .i64 p.xlo, .int .i64 p.xhi, .int .i64 p.ylo, .int .i64 p.yhi, .int .i64 p.pri, .bool p.wd, .slice A p.text.length c], .int .i64 need, .int .i64 n] w fun e' w' => ∃ A' c', e' = .returned (.tuple #[.slice A' l.length c', .int .i64 e]) ∧ l.length ≤ c' ∧ Kd.C k49 w' A' l.length l ∧ Below w.heap.size w w' :=
  piece_Cut.calls 4000 p A c need n l e w hr hc h
theorem pgather_calls (A : Option Addr) (c : Nat) (l : List S49) (p : Wn) (e : Int) (w : World) (hr : Kd.C k49 w A l.length l) (hc : l.length ≤ c) (h : piece_Gather.f 400 l = some (p, e)) :
    Calls Try.prog 20 #[.slice A l.length c] w fun e' w' => ∃ A' c', e' = .returned (.tuple #[.agg #[.int .i64 p.st, .int .i64 p.ki, .int .i64 p.nu, .int .i64 p.iss, .int .i64 p.unt, .int .i64 p.xlo, .int .i64 p.xhi, .int .i64 p.ylo, .int .i64 p.yhi, .int .i64 p.pri, .bool p.wd, .slice A' p.text.length c'], .int .i64 e]) ∧ p.text.length ≤ c' ∧ Kd.C (Kd.int .u8) w' A' p.text.length p.text ∧ Below w.heap.size w w' := by
  refine (piece_Gather.calls 400 A c l p e w hr hc h).mono ?_
  rintro e' w' ⟨v, rfl, hR, hb⟩
  obtain ⟨A', c', rfl, hc', hC'⟩ := Kd.R_reads hR
  exact ⟨A', c', rfl, hc', hC', hb⟩
theorem same_t (a b : Wn) (Aa : Option Addr) (ca : Nat) (Ab : Option Addr) (cb : Nat) (w : World) (hra : Kd.C (Kd.int .u8) w Aa a.text.length a.text) (hca : a.text.length ≤ ca) (hrb : Kd.C (Kd.int .u8) w Ab b.text.length b.text) (hcb : b.text.length ≤ cb) (hl : a.text.length ≤ 1000000000) (h : a = b) :
    Calls Try.prog 14 #[.agg #[.int .i64 a.st, .int .i64 a.ki, .int .i64 a.nu, .int .i64 a.iss, .int .i64 a.unt, .int .i64 a.xlo, .int .i64 a.xhi, .int .i64 a.ylo, .int .i64 a.yhi, .int .i64 a.pri, .bool a.wd, .slice Aa a.text.length ca], .agg #[.int .i64 b.st, .int .i64 b.ki, .int .i64 b.nu, .int .i64 b.iss, .int .i64 b.unt, .int .i64 b.xlo, .int .i64 b.xhi, .int .i64 b.ylo, .int .i64 b.yhi, .int .i64 b.pri, .bool b.wd, .slice Ab b.text.length cb]] w fun e w' => e = .returned (.bool true) ∧ Below w.heap.size w w' := by
  have := same_calls a b Aa ca Ab cb w hra hca hrb hcb hl
  rw [decide_eq_true h] at this
  exact this
theorem same_z (b : Wn) (Ab : Option Addr) (cb : Nat) (w : World) (hrb : Kd.C (Kd.int .u8) w Ab b.text.length b.text) (hcb : b.text.length ≤ cb) (h : b = zWn) :
    Calls Try.prog 14 #[.agg #[.int .i64 b.st, .int .i64 b.ki, .int .i64 b.nu, .int .i64 b.iss, .int .i64 b.unt, .int .i64 b.xlo, .int .i64 b.xhi, .int .i64 b.ylo, .int .i64 b.yhi, .int .i64 b.pri, .bool b.wd, .slice Ab b.text.length cb], .agg #[.int .i64 0, .int .i64 0, .int .i64 0, .int .i64 0, .int .i64 0, .int .i64 0, .int .i64 0, .int .i64 0, .int .i64 0, .int .i64 0, .bool false, .slice none 0 0]] w fun e w' => e = .returned (.bool true) ∧ Below w.heap.size w w' := by
  have := same_calls b zWn Ab cb none 0 w hrb hcb (Kd.C_nil _ _) (Nat.le_refl _) (by rw [h]; decide)
  rw [decide_eq_true h] at this
  exact this
theorem valid_t (p : Wn) (A : Option Addr) (c : Nat) (w : World) (hr : Kd.C (Kd.int .u8) w A p.text.length p.text) (hc : p.text.length ≤ c) (h : validW p) :
    Calls Try.prog 17 #[.agg #[.int .i64 p.st, .int .i64 p.ki, .int .i64 p.nu, .int .i64 p.iss, .int .i64 p.unt, .int .i64 p.xlo, .int .i64 p.xhi, .int .i64 p.ylo, .int .i64 p.yhi, .int .i64 p.pri, .bool p.wd, .slice A p.text.length c]] w fun e' w' => e' = .returned (.bool true) ∧ Below w.heap.size w w' :=
  piece_Valid.calls p.st p.ki p.nu p.iss p.unt p.xlo p.xhi p.ylo p.yhi p.pri p.wd A c p.text true w hr hc (congrArg some (decide_eq_true h))
end Go.Proofs.YthiealhmcfdakaaH
end
section
set_option linter.unusedVariables false
set_option linter.unusedSimpArgs false
namespace Go.Proofs.YthiealhmcfdakaaH
open Go Go.RowKit Go.Proofs.YthiealhmcfdakaaW.PrintWords Go.Proofs.YthiealhmcfdakaaW.PrintLast Go.Proofs.YthiealhmcfdakaaW.PrintMore Go.Proofs.Ythiealhmcfdakaa.E Go.Proofs.YthiealhmcfdakaaM
def swapped (l : List S49) (i k : Nat) : List S49 := (l.set i (l.getD k z49)).set k (l.getD i z49)
theorem swapped_len (l : List S49) (i k : Nat) : (swapped l i k).length = l.length := by rw [swapped, List.length_set, List.length_set]
theorem getD_mem {l : List S49} {i : Nat} (h : i < l.length) : l.getD i z49 ∈ l := by
  rw [List.getD_eq_getElem?_getD, List.getElem?_eq_getElem h, Option.getD_some]
  exact List.getElem_mem h
theorem swapped_mem {l : List S49} {i k : Nat} (hi : i < l.length) (hk : k < l.length) (p : S49) : p ∈ l ↔ p ∈ swapped l i k := by
  constructor
  · intro hp
    obtain ⟨m, hm, rfl⟩ := List.mem_iff_getElem.1 hp
    unfold swapped
    rw [List.mem_iff_getElem?]
    by_cases h1 : m = i
    · subst h1
      refine ⟨k, ?_⟩
      rw [List.getElem?_set_self (by rw [List.length_set]; exact hk), List.getD_eq_getElem?_getD, List.getElem?_eq_getElem hm, Option.getD_some]
    · by_cases h2 : m = k
      · subst h2
        refine ⟨i, ?_⟩
        rw [List.getElem?_set_ne (fun e => h1 e), List.getElem?_set_self hi, List.getD_eq_getElem?_getD, List.getElem?_eq_getElem hm, Option.getD_some]
      · refine ⟨m, ?_⟩
        rw [List.getElem?_set_ne (fun e => h2 e.symm), List.getElem?_set_ne (fun e => h1 e.symm), List.getElem?_eq_getElem hm]
  · intro hp
    unfold swapped at hp
    rcases List.mem_or_eq_of_mem_set hp with hp | rfl
    · rcases List.mem_or_eq_of_mem_set hp with hp | rfl
      · exact hp
      · exact getD_mem hk
    · exact getD_mem hi
theorem swapped_C {w w' : World} {A A' : Option Addr} {l : List S49} {sv : Nat → Value} (hsv : ∀ m, m < l.length → ∃ A7 c7, sv m = .slice A7 (l.getD m z49).f5.length c7 ∧ (l.getD m z49).f5.length ≤ c7 ∧ (Kd.int .u8).C w A7 (l.getD m z49).f5.length (l.getD m z49).f5 ∧ ∃ ad, A = some ad ∧ ∀ j v, (rawPiece (l.getD m z49) (sv m))[j]? = some v → w.cell? (ad.add (m * 8 + j)) = some v)
    (hb : Below w.heap.size w w') {i k : Nat} (hi : i < l.length) (hk : k < l.length) (h : Kd.C (rawKd 8) w' A' l.length (((rawsOf l sv).set i (rawPiece (l.getD k z49) (sv k))).set k (rawPiece (l.getD i z49) (sv i)))) : Kd.C k49 w' A' l.length (swapped l i k) := by
  have hm : ∀ m, m < l.length → (k49).K w' (l.getD m z49) (rawPiece (l.getD m z49) (sv m)) := by
    intro m hm
    obtain ⟨A7, c7, hs, l7, g7, _⟩ := hsv m hm
    rw [hs]
    exact k49_mk w' _ l7 (Kd.C_below g7 hb)
  refine C_of_raw (d := k49) h (by rw [swapped_len, List.length_set, List.length_set, rawsOf_len]) ?_
  unfold swapped
  refine rel_set (rel_set (fun j p x hj hx => ?_) i (hm k hk)) k (hm i hi)
  have hjl : j < l.length := (List.getElem?_eq_some_iff.1 hj).1
  rw [rawsOf_get hjl] at hx
  obtain rfl := Option.some.inj hx
  have := hm j hjl
  rwa [List.getD_eq_getElem?_getD, hj, Option.getD_some] at this ⊢
set_option maxHeartbeats 8000000 in
set_option maxRecDepth 100000 in
theorem order_walk (l : List S49) (A : Option Addr) (c : Nat) (x y : Int) (w : World) (hr : Kd.C k49 w A l.length l) (hc : l.length ≤ c) (hU : ∀ p ∈ l, U8 p.f5) (hx0 : 0 ≤ x) (hx1 : x ≤ 255) (hy0 : 0 ≤ y) (hy1 : y ≤ 255) :
    Calls Try.prog 10 #[.slice A l.length c, .int .u8 x, .int .u8 y] w fun e w' => e = .returned (.bool true) ∧ Below w.heap.size w w' := by
  have hu30 := Try.underlying30
  have hu49 := Try.underlying49
  have hi30 : (Try.prog.info? 30).map (·.size) = some 12 := by kernel_rfl
  have hi49 : (Try.prog.info? 49).map (·.size) = some 8 := by kernel_rfl
  have hmix : Try.prog.follows .mixedOrders = true := by kernel_rfl
  have HR := Aside0.mk hr
  have HU := Aside0.mk hU
  clear hr hU
  go_enter Try.func10, Try.ntmps10
  go_wp2_with fail
  (with_reducible refine (head_calls _).mono ?_)
  rintro e w1 ⟨rfl, hB1⟩
  obtain ⟨b, hb, hb12⟩ := few_f l
  have hfew := seamarkref30_Few.calls 20 A c l b w1 (Kd.C_below HR.out hB1) hc hb
  clear hb
  go_wp2_with fail
  (with_reducible refine hfew.mono ?_)
  clear hfew
  rintro e w2 ⟨rfl, hd⟩
  have hB2 := hB1.trans ((hd.below).mono hB1.size)
  clear hd hB1
  cases b with
  | false =>
    go_wp2_with fail
    go_ret
    exact ⟨rfl, hB2⟩
  | true =>
  have hl12 := hb12 rfl
  clear hb12
  by_cases z1 : (l.length : Int) = 0
  · have kz1 : ((l.length : Int) == 0) = true := beq_iff_eq.mpr z1
    go_wp2_with fail
    go_ret
    exact ⟨rfl, hB2⟩
  have kz1 : ((l.length : Int) == 0) = false := beq_eq_false_iff_ne.mpr z1
  have hlp : 0 < l.length := by omega
  have hne : l ≠ [] := List.length_pos_iff.1 hlp
  have HTX : Aside0 (Int.tmod (wrap64 x) (l.length : Int) = x % (l.length : Int)) := ⟨by rw [show wrap64 x = x from by unfold wrap64; omega, Int.tmod_eq_emod_of_nonneg hx0]⟩
  have HTY : Aside0 (Int.tmod (wrap64 y) (l.length : Int) = y % (l.length : Int)) := ⟨by rw [show wrap64 y = y from by unfold wrap64; omega, Int.tmod_eq_emod_of_nonneg hy0]⟩
  have hC2 := Kd.C_below HR.out hB2
  obtain ⟨sv, hraw, hsv⟩ := raw_C hC2
  have HC2 := Aside0.mk hC2
  have HRAW := Aside0.mk hraw
  have HSV := Aside0.mk hsv
  have hix0 : 0 ≤ x % (l.length : Int) := Int.emod_nonneg _ (by omega)
  have hix1 : x % (l.length : Int) < (l.length : Int) := Int.emod_lt_of_pos _ (by omega)
  have hky0 : 0 ≤ y % (l.length : Int) := Int.emod_nonneg _ (by omega)
  have hky1 : y % (l.length : Int) < (l.length : Int) := Int.emod_lt_of_pos _ (by omega)
  have hil : (x % (l.length : Int)).toNat < l.length := by omega
  have hkl : (y % (l.length : Int)).toNat < l.length := by omega
  obtain ⟨Ai, ci, hsi, li, gi, ad, eA, hci⟩ := hsv _ hil
  obtain ⟨Ak, ck, hsk, lk, gk, ad2, eA2, hck⟩ := hsv _ hkl
  rw [eA] at eA2
  obtain rfl := Option.some.inj eA2
  subst eA
  obtain ⟨v, er, hg, he0, hok, _⟩ := few_gather hlp (show l.length ≤ 64 by omega) HU.out
  have hg2 := gather_same hlp (show l.length ≤ 64 by omega) (swapped_len l _ _) (swapped_mem hil hkl) HU.out
  rw [hg] at hg2
  have hvl : v.text.length ≤ 200 := by
    by_cases e : er = 0
    · exact (hok e).1.2.2.2.2.2.2.2.2
    · rw [he0 e]; decide
  have HVL := Aside0.mk hvl
  obtain ⟨pi, hpi⟩ : ∃ q, q = l.getD (x % (l.length : Int)).toNat z49 := ⟨_, rfl⟩
  obtain ⟨pk, hpk⟩ : ∃ q, q = l.getD (y % (l.length : Int)).toNat z49 := ⟨_, rfl⟩
  rw [← hpi] at hsi li gi hci
  rw [← hpk] at hsk lk gk hck
  rw [hsi] at hci
  rw [hsk] at hck
  have HSI := Aside0.mk hsi
  have HSK := Aside0.mk hsk
  have HPI := Aside0.mk hpi
  have HPK := Aside0.mk hpk
  have HG := Aside0.mk hg
  have HG2 := Aside0.mk hg2
  have j0 : w2.cell? (ad.add ((x % (l.length : Int)).toNat * 8)) = some (.int .i64 pi.f0.f0) := hci 0 _ rfl
  have j1 : w2.cell? ⟨(ad.add ((x % (l.length : Int)).toNat * 8)).block, (ad.add ((x % (l.length : Int)).toNat * 8)).off + 1, none⟩ = some (.int .i64 pi.f0.f1) := by rw [← add_field _ _ 1 (by omega)]; exact hci 1 _ rfl
  have j2 : w2.cell? ⟨(ad.add ((x % (l.length : Int)).toNat * 8)).block, (ad.add ((x % (l.length : Int)).toNat * 8)).off + 2, none⟩ = some (.int .i64 pi.f0.f2) := by rw [← add_field _ _ 2 (by omega)]; exact hci 2 _ rfl
  have j3 : w2.cell? ⟨(ad.add ((x % (l.length : Int)).toNat * 8)).block, (ad.add ((x % (l.length : Int)).toNat * 8)).off + 3, none⟩ = some (.int .i64 pi.f1) := by rw [← add_field _ _ 3 (by omega)]; exact hci 3 _ rfl
  have j4 : w2.cell? ⟨(ad.add ((x % (l.length : Int)).toNat * 8)).block, (ad.add ((x % (l.length : Int)).toNat * 8)).off + 4, none⟩ = some (.int .i64 pi.f2) := by rw [← add_field _ _ 4 (by omega)]; exact hci 4 _ rfl
  have j5 : w2.cell? ⟨(ad.add ((x % (l.length : Int)).toNat * 8)).block, (ad.add ((x % (l.length : Int)).toNat * 8)).off + 5, none⟩ = some (.int .i64 pi.f3) := by rw [← add_field _ _ 5 (by omega)]; exact hci 5 _ rfl
  have j6 : w2.cell? ⟨(ad.add ((x % (l.length : Int)).toNat * 8)).block, (ad.add ((x % (l.length : Int)).toNat * 8)).off + 6, none⟩ = some (.int .i64 pi.f4) := by rw [← add_field _ _ 6 (by omega)]; exact hci 6 _ rfl
  have j7 : w2.cell? ⟨(ad.add ((x % (l.length : Int)).toNat * 8)).block, (ad.add ((x % (l.length : Int)).toNat * 8)).off + 7, none⟩ = some (.slice Ai pi.f5.length ci) := by rw [← add_field _ _ 7 (by omega)]; exact hci 7 _ rfl
  have k0 : w2.cell? (ad.add ((y % (l.length : Int)).toNat * 8)) = some (.int .i64 pk.f0.f0) := hck 0 _ rfl
  have k1 : w2.cell? ⟨(ad.add ((y % (l.length : Int)).toNat * 8)).block, (ad.add ((y % (l.length : Int)).toNat * 8)).off + 1, none⟩ = some (.int .i64 pk.f0.f1) := by rw [← add_field _ _ 1 (by omega)]; exact hck 1 _ rfl
  have k2 : w2.cell? ⟨(ad.add ((y % (l.length : Int)).toNat * 8)).block, (ad.add ((y % (l.length : Int)).toNat * 8)).off + 2, none⟩ = some (.int .i64 pk.f0.f2) := by rw [← add_field _ _ 2 (by omega)]; exact hck 2 _ rfl
  have k3 : w2.cell? ⟨(ad.add ((y % (l.length : Int)).toNat * 8)).block, (ad.add ((y % (l.length : Int)).toNat * 8)).off + 3, none⟩ = some (.int .i64 pk.f1) := by rw [← add_field _ _ 3 (by omega)]; exact hck 3 _ rfl
  have k4 : w2.cell? ⟨(ad.add ((y % (l.length : Int)).toNat * 8)).block, (ad.add ((y % (l.length : Int)).toNat * 8)).off + 4, none⟩ = some (.int .i64 pk.f2) := by rw [← add_field _ _ 4 (by omega)]; exact hck 4 _ rfl
  have k5 : w2.cell? ⟨(ad.add ((y % (l.length : Int)).toNat * 8)).block, (ad.add ((y % (l.length : Int)).toNat * 8)).off + 5, none⟩ = some (.int .i64 pk.f3) := by rw [← add_field _ _ 5 (by omega)]; exact hck 5 _ rfl
  have k6 : w2.cell? ⟨(ad.add ((y % (l.length : Int)).toNat * 8)).block, (ad.add ((y % (l.length : Int)).toNat * 8)).off + 6, none⟩ = some (.int .i64 pk.f4) := by rw [← add_field _ _ 6 (by omega)]; exact hck 6 _ rfl
  have k7 : w2.cell? ⟨(ad.add ((y % (l.length : Int)).toNat * 8)).block, (ad.add ((y % (l.length : Int)).toNat * 8)).off + 7, none⟩ = some (.slice Ak pk.f5.length ck) := by rw [← add_field _ _ 7 (by omega)]; exact hck 7 _ rfl
  clear hraw hsv hC2 hci hck hsi hsk hpi hpk hg hg2 he0 hok hvl li lk gi gk hil hkl
  go_wp2_with (first | ((with_reducible refine gate_builtin (b := .append) (xs := #[.tmp 25, .tmp 26]) rfl ?_); at_builtin; refine Kd.R_append_rows (rawKd 8) (w0 := w2) w2.heap.size rfl (.tmp 25) (.tmp 26) 41 49 (.agg #[.int .i64 0, .int .i64 0, .int .i64 0, .int .i64 0, .int .i64 0, .int .i64 0, .int .i64 0, .slice none 0 0]) 80 rfl Try.underlying41 info_piece rfl (by decide) (by omega) _ ([] : List (List Value)) (rawsOf l sv) _ _ _ (fun _ => True) (fun _ => False) rfl rfl (R_lit0 (rawKd 8) 49 w2) (Kd.C_below HRAW.out ((Below.refl w2.heap.size w2).alloc (Nat.le_refl _) (.cells #[] 49))) (fun _ _ h => h) (fun _ h => h.elim) (fun _ _ => trivial) ((Below.refl w2.heap.size w2).alloc (Nat.le_refl _) (.cells #[] 49)) ((Below.refl w2.heap.size w2).alloc (Nat.le_refl _) (.cells #[] 49)).size ?aL ?_; (case aL => simp; omega); intro v4 w4 ho hb _ _; rw [List.nil_append] at ho; have HO := Aside0.mk ho; have HB := Aside0.mk hb; clear ho hb))
  obtain ⟨g, cap, rfl, hgb, _⟩ := Kd.R_form HO.out (by rw [rawsOf_len]; exact hlp)
  rw [rawsOf_len] at HO ⊢
  have hS0 : (fun w' => Below w2.heap.size w2 w') w4.drew := HB.out.drew
  refine start_ (n := 12) (S := (fun w' => Below w2.heap.size w2 w')) (ds := []) (Array.replicate 12 false) hmix rfl rfl hS0 (fun hHeld => ?_)
  refine pureS (i := 0) (N := (some 28)) (v := ?_) (a' := ?_) rfl rfl (by kernel_rfl) (fun _ _ _ h => h) (Or.inl ⟨by rfl, ?_⟩) ?_ ?_
  rotate_left
  · intro w'
    go_simp
    with_reducible rfl
  rotate_left
  · simp only [Act.put, List.setIfInBounds_toArray, List.set_cons_zero, List.set_cons_succ, i64_w, i32_w]
    rfl
  refine pureS (i := 1) (N := (some 29)) (v := ?_) (a' := ?_) rfl rfl (by kernel_rfl) (fun _ _ _ h => h) (Or.inl ⟨by rfl, ?_⟩) ?_ ?_
  rotate_left
  · intro w'
    go_simp
    with_reducible rfl
  rotate_left
  · simp only [Act.put, List.setIfInBounds_toArray, List.set_cons_zero, List.set_cons_succ, i64_w, i32_w]
    rfl
  refine pureS (i := 2) (N := (some 30)) (v := ?_) (a' := ?_) rfl rfl (by kernel_rfl) (fun _ _ _ h => h) (Or.inl ⟨by rfl, ?_⟩) ?_ ?_
  rotate_left
  · intro w'
    go_simp
    with_reducible rfl
  rotate_left
  · simp only [Act.put, List.setIfInBounds_toArray, List.set_cons_zero, List.set_cons_succ, i64_w, i32_w]
    rfl
  refine pureS (i := 3) (N := (some 31)) (v := ?_) (a' := ?_) rfl rfl (by kernel_rfl) (fun _ _ _ h => h) (Or.inl ⟨by rfl, ?_⟩) ?_ ?_
  rotate_left
  · intro w'
    go_simp
    with_reducible rfl
  rotate_left
  · simp only [Act.put, List.setIfInBounds_toArray, List.set_cons_zero, List.set_cons_succ, i64_w, i32_w]
    rfl
  refine pureS (i := 4) (N := (some 32)) (v := ?_) (a' := ?_) rfl rfl (by kernel_rfl) (fun _ _ _ h => h) (Or.inl ⟨by rfl, ?_⟩) ?_ ?_
  rotate_left
  · intro w'
    go_simp
    with_reducible rfl
  rotate_left
  · simp only [Act.put, List.setIfInBounds_toArray, List.set_cons_zero, List.set_cons_succ, i64_w, i32_w]
    rfl
  refine pureS (i := 5) (N := (some 33)) (v := ?_) (a' := ?_) rfl rfl (by kernel_rfl) (fun _ _ _ h => h) (Or.inl ⟨by rfl, ?_⟩) ?_ ?_
  rotate_left
  · intro w'
    go_simp
    with_reducible rfl
  rotate_left
  · simp only [Act.put, List.setIfInBounds_toArray, List.set_cons_zero, List.set_cons_succ, i64_w, i32_w]
    rfl
  refine pureS (i := 6) (N := (some 34)) (v := ?_) (a' := ?_) rfl rfl (by kernel_rfl) (fun _ _ _ h => h) (Or.inl ⟨by rfl, ?_⟩) ?_ ?_
  rotate_left
  · intro w'
    go_simp
    with_reducible rfl
  rotate_left
  · simp only [Act.put, List.setIfInBounds_toArray, List.set_cons_zero, List.set_cons_succ, i64_w, i32_w]
    rfl
  refine pureS (i := 7) (N := (some 35)) (v := ?_) (a' := ?_) rfl rfl (by kernel_rfl) (fun _ _ _ h => h) (Or.inl ⟨by rfl, ?_⟩) ?_ ?_
  rotate_left
  · intro w'
    go_simp
    with_reducible rfl
  rotate_left
  · simp only [Act.put, List.setIfInBounds_toArray, List.set_cons_zero, List.set_cons_succ, i64_w, i32_w]
    rfl
  refine pureS (i := 8) (N := (some 36)) (v := ?_) (a' := ?_) rfl rfl (by kernel_rfl) (fun _ _ _ h => h) (Or.inl ⟨by rfl, ?_⟩) ?_ ?_
  rotate_left
  · intro w'
    go_simp
    with_reducible rfl
  rotate_left
  · simp only [Act.put, List.setIfInBounds_toArray, List.set_cons_zero, List.set_cons_succ, i64_w, i32_w]
    rfl
  refine pureS (i := 9) (N := (some 37)) (v := ?_) (a' := ?_) rfl rfl (by kernel_rfl) (fun _ _ _ h => h) (Or.inl ⟨by rfl, ?_⟩) ?_ ?_
  rotate_left
  · intro w'
    go_simp
    with_reducible rfl
  rotate_left
  · simp only [Act.put, List.setIfInBounds_toArray, List.set_cons_zero, List.set_cons_succ, i64_w, i32_w]
    rfl
  refine pureS (i := 10) (N := (some 9)) (v := ?_) (a' := ?_) rfl rfl (by kernel_rfl) (fun _ _ _ h => h) (Or.inl ⟨by rfl, ?_⟩) ?_ ?_
  rotate_left
  · intro w'
    go_simp
    with_reducible rfl
  rotate_left
  · simp only [Act.put, List.setIfInBounds_toArray, List.set_cons_zero, List.set_cons_succ, i64_w, i32_w]
    rfl
  refine pureS (i := 11) (N := (some 10)) (v := ?_) (a' := ?_) rfl rfl (by kernel_rfl) (fun _ _ _ h => h) (Or.inl ⟨by rfl, ?_⟩) ?_ ?_
  rotate_left
  · intro w'
    go_simp
    with_reducible rfl
  rotate_left
  · simp only [Act.put, List.setIfInBounds_toArray, List.set_cons_zero, List.set_cons_succ, i64_w, i32_w]
    rfl
  refine done_ (by kernel_rfl) ?_
  clear hS0 hHeld
  rw [HTX.out, HTY.out]
  go_wp2_with fail
  have HO5 := Aside0.mk (Kd.R_drew (Kd.R_drew HO.out))
  have hS0 : (fun w' => Below w2.heap.size w2 w') w4.drew.drew := HB.out.drew.drew
  clear HO
  refine start_ (n := 16) (S := (fun w' => Below w2.heap.size w2 w')) (ds := []) (Array.replicate 16 false) hmix rfl rfl hS0 (fun hHeld => ?_)
  refine pureS (i := 0) (N := (some 38)) (v := ?_) (a' := ?_) rfl rfl (by kernel_rfl) (fun _ _ _ h => h) (Or.inl ⟨by rfl, ?_⟩) ?_ ?_
  rotate_left
  · intro w'
    go_simp
    with_reducible rfl
  rotate_left
  · simp only [Act.put, List.setIfInBounds_toArray, List.set_cons_zero, List.set_cons_succ, i64_w, i32_w]
    rfl
  refine pureS (i := 1) (N := (some 39)) (v := ?_) (a' := ?_) rfl rfl (by kernel_rfl) (fun _ _ _ h => h) (Or.inl ⟨by rfl, ?_⟩) ?_ ?_
  rotate_left
  · intro w'
    go_simp
    with_reducible rfl
  rotate_left
  · simp only [Act.put, List.setIfInBounds_toArray, List.set_cons_zero, List.set_cons_succ, i64_w, i32_w]
    rfl
  refine pureS (i := 2) (N := (some 40)) (v := ?_) (a' := ?_) rfl rfl (by kernel_rfl) (fun _ _ _ h => h) (Or.inl ⟨by rfl, ?_⟩) ?_ ?_
  rotate_left
  · intro w'
    go_simp
    with_reducible rfl
  rotate_left
  · simp only [Act.put, List.setIfInBounds_toArray, List.set_cons_zero, List.set_cons_succ, i64_w, i32_w]
    rfl
  refine pureS (i := 3) (N := (some 41)) (v := ?_) (a' := ?_) rfl rfl (by kernel_rfl) (fun _ _ _ h => h) (Or.inl ⟨by rfl, ?_⟩) ?_ ?_
  rotate_left
  · intro w'
    go_simp
    with_reducible rfl
  rotate_left
  · simp only [Act.put, List.setIfInBounds_toArray, List.set_cons_zero, List.set_cons_succ, i64_w, i32_w]
    rfl
  refine pureS (i := 4) (N := (some 42)) (v := ?_) (a' := ?_) rfl rfl (by kernel_rfl) (fun _ _ _ h => h) (Or.inl ⟨by rfl, ?_⟩) ?_ ?_
  rotate_left
  · intro w'
    go_simp
    with_reducible rfl
  rotate_left
  · simp only [Act.put, List.setIfInBounds_toArray, List.set_cons_zero, List.set_cons_succ, i64_w, i32_w]
    rfl
  refine pureS (i := 5) (N := (some 43)) (v := ?_) (a' := ?_) rfl rfl (by kernel_rfl) (fun _ _ _ h => h) (Or.inl ⟨by rfl, ?_⟩) ?_ ?_
  rotate_left
  · intro w'
    go_simp
    with_reducible rfl
  rotate_left
  · simp only [Act.put, List.setIfInBounds_toArray, List.set_cons_zero, List.set_cons_succ, i64_w, i32_w]
    rfl
  refine pureS (i := 6) (N := (some 44)) (v := ?_) (a' := ?_) rfl rfl (by kernel_rfl) (fun _ _ _ h => h) (Or.inl ⟨by rfl, ?_⟩) ?_ ?_
  rotate_left
  · intro w'
    go_simp
    with_reducible rfl
  rotate_left
  · simp only [Act.put, List.setIfInBounds_toArray, List.set_cons_zero, List.set_cons_succ, i64_w, i32_w]
    rfl
  refine takeS (i := 7) (N := (some 45)) (v := ?_) (a' := ?_) rfl rfl (by kernel_rfl) (fun _ _ _ h => h) (Or.inl ⟨by rfl, ?_⟩) hHeld ?_ ?_
  rotate_left
  · intro w' hs
    have k0_ := (hs.cell (block_lt_of_cell k0)).trans k0
    have k1_ := (hs.cell (block_lt_of_cell k1)).trans k1
    have k2_ := (hs.cell (block_lt_of_cell k2)).trans k2
    have k3_ := (hs.cell (block_lt_of_cell k3)).trans k3
    have k4_ := (hs.cell (block_lt_of_cell k4)).trans k4
    have k5_ := (hs.cell (block_lt_of_cell k5)).trans k5
    have k6_ := (hs.cell (block_lt_of_cell k6)).trans k6
    have k7_ := (hs.cell (block_lt_of_cell k7)).trans k7
    go_simp
    with_reducible rfl
  rotate_left
  · simp only [Act.put, List.setIfInBounds_toArray, List.set_cons_zero, List.set_cons_succ, i64_w, i32_w]
    rfl
  refine pureS (i := 8) (N := (some 46)) (v := ?_) (a' := ?_) rfl rfl (by kernel_rfl) (fun _ _ _ h => h) (Or.inl ⟨by rfl, ?_⟩) ?_ ?_
  rotate_left
  · intro w'
    go_simp
    with_reducible rfl
  rotate_left
  · simp only [Act.put, List.setIfInBounds_toArray, List.set_cons_zero, List.set_cons_succ, i64_w, i32_w]
    rfl
  refine pureS (i := 9) (N := (some 47)) (v := ?_) (a' := ?_) rfl rfl (by kernel_rfl) (fun _ _ _ h => h) (Or.inl ⟨by rfl, ?_⟩) ?_ ?_
  rotate_left
  · intro w'
    go_simp
    with_reducible rfl
  rotate_left
  · simp only [Act.put, List.setIfInBounds_toArray, List.set_cons_zero, List.set_cons_succ, i64_w, i32_w]
    rfl
  refine pureS (i := 10) (N := (some 48)) (v := ?_) (a' := ?_) rfl rfl (by kernel_rfl) (fun _ _ _ h => h) (Or.inl ⟨by rfl, ?_⟩) ?_ ?_
  rotate_left
  · intro w'
    go_simp
    with_reducible rfl
  rotate_left
  · simp only [Act.put, List.setIfInBounds_toArray, List.set_cons_zero, List.set_cons_succ, i64_w, i32_w]
    rfl
  refine takeS (i := 11) (N := (some 49)) (v := ?_) (a' := ?_) rfl rfl (by kernel_rfl) (fun _ _ _ h => h) (Or.inl ⟨by rfl, ?_⟩) hHeld ?_ ?_
  rotate_left
  · intro w' hs
    have j0_ := (hs.cell (block_lt_of_cell j0)).trans j0
    have j1_ := (hs.cell (block_lt_of_cell j1)).trans j1
    have j2_ := (hs.cell (block_lt_of_cell j2)).trans j2
    have j3_ := (hs.cell (block_lt_of_cell j3)).trans j3
    have j4_ := (hs.cell (block_lt_of_cell j4)).trans j4
    have j5_ := (hs.cell (block_lt_of_cell j5)).trans j5
    have j6_ := (hs.cell (block_lt_of_cell j6)).trans j6
    have j7_ := (hs.cell (block_lt_of_cell j7)).trans j7
    go_simp
    with_reducible rfl
  rotate_left
  · simp only [Act.put, List.setIfInBounds_toArray, List.set_cons_zero, List.set_cons_succ, i64_w, i32_w]
    rfl
  refine pureS (i := 12) (N := (some 50)) (v := ?_) (a' := ?_) rfl rfl (by kernel_rfl) (fun _ _ _ h => h) (Or.inl ⟨by rfl, ?_⟩) ?_ ?_
  rotate_left
  · intro w'
    go_simp
    with_reducible rfl
  rotate_left
  · simp only [Act.put, List.setIfInBounds_toArray, List.set_cons_zero, List.set_cons_succ, i64_w, i32_w]
    rfl
  refine oneS (i := 13) (N := none) rfl rfl (by kernel_rfl) (by decide) (fun K hK => ?_)
  refine raw_store_step (w0 := w2) w2.heap.size rfl rfl rfl 49 _ _ rfl 49 (g := g) (n := l.length) (cap := cap) (x % (l.length : Int)) _ _ (rawPiece pk (.slice Ak pk.f5.length ck)) rfl rfl (by simp [Addr.add]) rfl hi49 rfl (by simp [rawPiece, Value.oneCell']) HO5.out hix0 (by omega) hS0 ?_
  intro w5 ho hb
  refine hK.out _ _ hb (fun hHeld => ?_)
  have HO6 := Aside0.mk ho
  have w5b := hb
  clear hK K ho hb
  refine pureS (i := 14) (N := (some 51)) (v := ?_) (a' := ?_) rfl rfl (by kernel_rfl) (fun _ _ _ h => h) (Or.inl ⟨by rfl, ?_⟩) ?_ ?_
  rotate_left
  · intro w'
    go_simp
    with_reducible rfl
  rotate_left
  · simp only [Act.put, List.setIfInBounds_toArray, List.set_cons_zero, List.set_cons_succ, i64_w, i32_w]
    rfl
  refine oneS (i := 15) (N := none) rfl rfl (by kernel_rfl) (by decide) (fun K hK => ?_)
  refine raw_store_step (w0 := w2) w2.heap.size rfl rfl rfl 49 _ _ rfl 49 (g := g) (n := l.length) (cap := cap) (y % (l.length : Int)) _ _ (rawPiece pi (.slice Ai pi.f5.length ci)) rfl rfl (by simp [Addr.add]) rfl hi49 rfl (by simp [rawPiece, Value.oneCell']) HO6.out hky0 (by omega) w5b ?_
  intro w6 ho hb
  refine hK.out _ _ hb (fun hHeld => ?_)
  have HO7 := Aside0.mk ho
  have w6b := hb
  clear hK K ho hb
  refine done_ (by kernel_rfl) ?_
  have hC6 := (Kd.R_reads' HO7.out).2.2
  rw [List.length_set, List.length_set, rawsOf_len] at hC6
  rw [← HSK.out, HPK.out, ← HSI.out, HPI.out] at hC6
  have hsw := swapped_C HSV.out (w6b.mono (Nat.le_refl _)) (by omega) (by omega) hC6
  have HSW := Aside0.mk hsw
  have hcap := Aside0.mk (Kd.R_reads' HO7.out).2.1
  have hB6 := hB2.trans (w6b.mono hB2.size)
  clear hC6 hsw HO5 HO6 HO7 w5b w6b hS0 hHeld j0 k0 j1 k1 j2 k2 j3 k3 j4 k4 j5 k5 j6 k6 j7 k7
  have hga := pgather_calls (some ad) c l v er w6 (Kd.C_below HR.out hB6) hc HG.out
  go_wp2_with fail
  (with_reducible refine hga.mono ?_)
  clear hga
  rintro e w7 ⟨A5, c5, rfl, hc5, hC5, hb7⟩
  have hB7 := hB6.trans (hb7.mono hB6.size)
  have HZ := World.alloc_heap_new w7 (.cells #[.int .i64 0, .int .i64 0, .int .i64 0, .int .i64 0, .int .i64 0, .int .i64 0, .int .i64 0, .int .i64 0, .int .i64 0, .int .i64 0, .bool false, .slice none 0 0] 30)
  have hbs : Below w7.heap.size w7 ((w7.alloc (.cells #[.int .i64 0, .int .i64 0, .int .i64 0, .int .i64 0, .int .i64 0, .int .i64 0, .int .i64 0, .int .i64 0, .int .i64 0, .int .i64 0, .bool false, .slice none 0 0] 30)).setRow w7.heap.size #[.int .i64 v.st, .int .i64 v.ki, .int .i64 v.nu, .int .i64 v.iss, .int .i64 v.unt, .int .i64 v.xlo, .int .i64 v.xhi, .int .i64 v.ylo, .int .i64 v.yhi, .int .i64 v.pri, .bool v.wd, .slice A5 v.text.length c5]) := below_setRow ((Below.refl _ _).alloc (Nat.le_refl _) _) (Nat.le_refl _) _
  have HH : Aside0 (((w7.alloc (.cells #[.int .i64 0, .int .i64 0, .int .i64 0, .int .i64 0, .int .i64 0, .int .i64 0, .int .i64 0, .int .i64 0, .int .i64 0, .int .i64 0, .bool false, .slice none 0 0] 30)).setRow w7.heap.size #[.int .i64 v.st, .int .i64 v.ki, .int .i64 v.nu, .int .i64 v.iss, .int .i64 v.unt, .int .i64 v.xlo, .int .i64 v.xhi, .int .i64 v.ylo, .int .i64 v.yhi, .int .i64 v.pri, .bool v.wd, .slice A5 v.text.length c5]).heap[w7.heap.size]? = some (.cells #[.int .i64 v.st, .int .i64 v.ki, .int .i64 v.nu, .int .i64 v.iss, .int .i64 v.unt, .int .i64 v.xlo, .int .i64 v.xhi, .int .i64 v.ylo, .int .i64 v.yhi, .int .i64 v.pri, .bool v.wd, .slice A5 v.text.length c5] 30 (0, 0))) := ⟨setRow_heap _ _ _ _ _ _ HZ⟩
  obtain ⟨w8, hws⟩ : ∃ ws, ws = (w7.alloc (.cells #[.int .i64 0, .int .i64 0, .int .i64 0, .int .i64 0, .int .i64 0, .int .i64 0, .int .i64 0, .int .i64 0, .int .i64 0, .int .i64 0, .bool false, .slice none 0 0] 30)).setRow w7.heap.size #[.int .i64 v.st, .int .i64 v.ki, .int .i64 v.nu, .int .i64 v.iss, .int .i64 v.unt, .int .i64 v.xlo, .int .i64 v.xhi, .int .i64 v.ylo, .int .i64 v.yhi, .int .i64 v.pri, .bool v.wd, .slice A5 v.text.length c5] := ⟨_, rfl⟩
  rw [← hws] at hbs HH
  have HWS := Aside0.mk hws
  clear hws
  have hb68 := hb7.trans (hbs.mono hb7.size)
  have hB8 := hB6.trans (hb68.mono hB6.size)
  have hC8 := Kd.C_below hC5 hbs
  clear hb7 hbs hC5 hB7
  have hga := pgather_calls (some ⟨g, 0, none⟩) cap (swapped l _ _) v er w8 (by rw [swapped_len]; exact Kd.C_below HSW.out hb68) (by rw [swapped_len]; exact hcap.out) HG2.out
  rw [swapped_len] at hga
  go_wp2_with (first | (refine wpList_store_row rfl 30 (.tmp 11) (.tmp 55) rfl w7.heap.size rfl #[.int .i64 v.st, .int .i64 v.ki, .int .i64 v.nu, .int .i64 v.iss, .int .i64 v.unt, .int .i64 v.xlo, .int .i64 v.xhi, .int .i64 v.ylo, .int .i64 v.yhi, .int .i64 v.pri, .bool v.wd, .slice A5 v.text.length c5] rfl 30 #[.int .i64 0, .int .i64 0, .int .i64 0, .int .i64 0, .int .i64 0, .int .i64 0, .int .i64 0, .int .i64 0, .int .i64 0, .int .i64 0, .bool false, .slice none 0 0] HZ rfl ?h1 hi30 ?_; (case h1 => simp [Value.oneCell']); rw [← HWS.out]))
  (with_reducible refine hga.mono ?_)
  clear hga HZ HWS
  rintro e w9 ⟨A6, c6, rfl, hc6, hC6, hb9⟩
  have hB9 := hB8.trans (hb9.mono hB8.size)
  replace HH := Aside0.mk ((hb9.block _ (blk_lt HH.out)).trans HH.out)
  have hC9 := Kd.C_below hC8 hb9
  have HZ := World.alloc_heap_new w9 (.cells #[.int .i64 0, .int .i64 0, .int .i64 0, .int .i64 0, .int .i64 0, .int .i64 0, .int .i64 0, .int .i64 0, .int .i64 0, .int .i64 0, .bool false, .slice none 0 0] 30)
  have hbs : Below w9.heap.size w9 ((w9.alloc (.cells #[.int .i64 0, .int .i64 0, .int .i64 0, .int .i64 0, .int .i64 0, .int .i64 0, .int .i64 0, .int .i64 0, .int .i64 0, .int .i64 0, .bool false, .slice none 0 0] 30)).setRow w9.heap.size #[.int .i64 v.st, .int .i64 v.ki, .int .i64 v.nu, .int .i64 v.iss, .int .i64 v.unt, .int .i64 v.xlo, .int .i64 v.xhi, .int .i64 v.ylo, .int .i64 v.yhi, .int .i64 v.pri, .bool v.wd, .slice A6 v.text.length c6]) := below_setRow ((Below.refl _ _).alloc (Nat.le_refl _) _) (Nat.le_refl _) _
  have HJ : Aside0 (((w9.alloc (.cells #[.int .i64 0, .int .i64 0, .int .i64 0, .int .i64 0, .int .i64 0, .int .i64 0, .int .i64 0, .int .i64 0, .int .i64 0, .int .i64 0, .bool false, .slice none 0 0] 30)).setRow w9.heap.size #[.int .i64 v.st, .int .i64 v.ki, .int .i64 v.nu, .int .i64 v.iss, .int .i64 v.unt, .int .i64 v.xlo, .int .i64 v.xhi, .int .i64 v.ylo, .int .i64 v.yhi, .int .i64 v.pri, .bool v.wd, .slice A6 v.text.length c6]).heap[w9.heap.size]? = some (.cells #[.int .i64 v.st, .int .i64 v.ki, .int .i64 v.nu, .int .i64 v.iss, .int .i64 v.unt, .int .i64 v.xlo, .int .i64 v.xhi, .int .i64 v.ylo, .int .i64 v.yhi, .int .i64 v.pri, .bool v.wd, .slice A6 v.text.length c6] 30 (0, 0))) := ⟨setRow_heap _ _ _ _ _ _ HZ⟩
  obtain ⟨w10, hws⟩ : ∃ ws, ws = (w9.alloc (.cells #[.int .i64 0, .int .i64 0, .int .i64 0, .int .i64 0, .int .i64 0, .int .i64 0, .int .i64 0, .int .i64 0, .int .i64 0, .int .i64 0, .bool false, .slice none 0 0] 30)).setRow w9.heap.size #[.int .i64 v.st, .int .i64 v.ki, .int .i64 v.nu, .int .i64 v.iss, .int .i64 v.unt, .int .i64 v.xlo, .int .i64 v.xhi, .int .i64 v.ylo, .int .i64 v.yhi, .int .i64 v.pri, .bool v.wd, .slice A6 v.text.length c6] := ⟨_, rfl⟩
  rw [← hws] at hbs HJ
  have HWS := Aside0.mk hws
  clear hws
  have hB10 := hB9.trans (hbs.mono hB9.size)
  replace HH := Aside0.mk ((hbs.block _ (blk_lt HH.out)).trans HH.out)
  have hC10 := Kd.C_below hC9 hbs
  have hD10 := Kd.C_below hC6 hbs
  clear hb9 hbs hb68 hC8 hC9 hC6 hB8 hB9 hB6
  have z0 : w10.cell? ⟨w7.heap.size, 0, none⟩ = some (.int .i64 v.st) := (blk_cell HH.out 0).trans rfl
  have z1 : w10.cell? ⟨w7.heap.size, 1, none⟩ = some (.int .i64 v.ki) := (blk_cell HH.out 1).trans rfl
  have z2 : w10.cell? ⟨w7.heap.size, 2, none⟩ = some (.int .i64 v.nu) := (blk_cell HH.out 2).trans rfl
  have z3 : w10.cell? ⟨w7.heap.size, 3, none⟩ = some (.int .i64 v.iss) := (blk_cell HH.out 3).trans rfl
  have z4 : w10.cell? ⟨w7.heap.size, 4, none⟩ = some (.int .i64 v.unt) := (blk_cell HH.out 4).trans rfl
  have z5 : w10.cell? ⟨w7.heap.size, 5, none⟩ = some (.int .i64 v.xlo) := (blk_cell HH.out 5).trans rfl
  have z6 : w10.cell? ⟨w7.heap.size, 6, none⟩ = some (.int .i64 v.xhi) := (blk_cell HH.out 6).trans rfl
  have z7 : w10.cell? ⟨w7.heap.size, 7, none⟩ = some (.int .i64 v.ylo) := (blk_cell HH.out 7).trans rfl
  have z8 : w10.cell? ⟨w7.heap.size, 8, none⟩ = some (.int .i64 v.yhi) := (blk_cell HH.out 8).trans rfl
  have z9 : w10.cell? ⟨w7.heap.size, 9, none⟩ = some (.int .i64 v.pri) := (blk_cell HH.out 9).trans rfl
  have z10 : w10.cell? ⟨w7.heap.size, 10, none⟩ = some (.bool v.wd) := (blk_cell HH.out 10).trans rfl
  have z11 : w10.cell? ⟨w7.heap.size, 11, none⟩ = some (.slice A5 v.text.length c5) := (blk_cell HH.out 11).trans rfl
  have u0 : w10.cell? ⟨w9.heap.size, 0, none⟩ = some (.int .i64 v.st) := (blk_cell HJ.out 0).trans rfl
  have u1 : w10.cell? ⟨w9.heap.size, 1, none⟩ = some (.int .i64 v.ki) := (blk_cell HJ.out 1).trans rfl
  have u2 : w10.cell? ⟨w9.heap.size, 2, none⟩ = some (.int .i64 v.nu) := (blk_cell HJ.out 2).trans rfl
  have u3 : w10.cell? ⟨w9.heap.size, 3, none⟩ = some (.int .i64 v.iss) := (blk_cell HJ.out 3).trans rfl
  have u4 : w10.cell? ⟨w9.heap.size, 4, none⟩ = some (.int .i64 v.unt) := (blk_cell HJ.out 4).trans rfl
  have u5 : w10.cell? ⟨w9.heap.size, 5, none⟩ = some (.int .i64 v.xlo) := (blk_cell HJ.out 5).trans rfl
  have u6 : w10.cell? ⟨w9.heap.size, 6, none⟩ = some (.int .i64 v.xhi) := (blk_cell HJ.out 6).trans rfl
  have u7 : w10.cell? ⟨w9.heap.size, 7, none⟩ = some (.int .i64 v.ylo) := (blk_cell HJ.out 7).trans rfl
  have u8 : w10.cell? ⟨w9.heap.size, 8, none⟩ = some (.int .i64 v.yhi) := (blk_cell HJ.out 8).trans rfl
  have u9 : w10.cell? ⟨w9.heap.size, 9, none⟩ = some (.int .i64 v.pri) := (blk_cell HJ.out 9).trans rfl
  have u10 : w10.cell? ⟨w9.heap.size, 10, none⟩ = some (.bool v.wd) := (blk_cell HJ.out 10).trans rfl
  have u11 : w10.cell? ⟨w9.heap.size, 11, none⟩ = some (.slice A6 v.text.length c6) := (blk_cell HJ.out 11).trans rfl
  have hsm := same_t v v A5 c5 A6 c6 w10 hC10 hc5 hD10 hc6 (by have := HVL.out; omega) rfl
  go_wp2_with (first | (refine wpList_store_row rfl 30 (.tmp 13) (.tmp 60) rfl w9.heap.size rfl #[.int .i64 v.st, .int .i64 v.ki, .int .i64 v.nu, .int .i64 v.iss, .int .i64 v.unt, .int .i64 v.xlo, .int .i64 v.xhi, .int .i64 v.ylo, .int .i64 v.yhi, .int .i64 v.pri, .bool v.wd, .slice A6 v.text.length c6] rfl 30 #[.int .i64 0, .int .i64 0, .int .i64 0, .int .i64 0, .int .i64 0, .int .i64 0, .int .i64 0, .int .i64 0, .int .i64 0, .int .i64 0, .bool false, .slice none 0 0] HZ rfl ?h1 hi30 ?_; (case h1 => simp [Value.oneCell']); rw [← HWS.out]))
  (with_reducible refine hsm.mono ?_)
  clear hsm HZ HWS
  rintro e w11 ⟨rfl, hb11⟩
  have hB11 := hB10.trans (hb11.mono hB10.size)
  clear hb11 z0 u0 z1 u1 z2 u2 z3 u3 z4 u4 z5 u5 z6 u6 z7 u7 z8 u8 z9 u9 z10 u10 z11 u11
  have kee : (er == er) = true := beq_self_eq_true er
  go_wp2_with fail
  go_ret
  exact ⟨rfl, hB11⟩
end Go.Proofs.YthiealhmcfdakaaH
end
section
namespace Go.Proofs.Ythiealhmcfdakaa.pieceOrder
open Go.ChangeShapes Go.WideShapes Go.ChangeAt Go.RowKit
open Go.ChangeMaps (open_string shut_string)
open Go.Proofs.YthiealhmcfdakaaH Go.Proofs.YthiealhmcfdakaaM
set_option linter.unusedVariables false
theorem own : ownKnob Try.prog.godebug = none := by kernel_rfl
theorem laidOut : laidOutB Try.prog = true := by kernel_rfl
set_option maxHeartbeats 4000000 in
set_option maxRecDepth 100000 in
theorem lifted (os : Os) (started : os.Started) (H : Type) (enc : TypeId × Value → H) :
    ReturnsInHanded {} Try.checked os 10 .any (Rows.pieceOrderSpec.pre6 enc Try.prog Try.f10 Rows.pieceOrderRow.domain false) (Rows.pieceOrderSpec.post enc Try.prog Try.f10 false true false false) := by
  refine returnsInHanded_of_change_sized (C := Try.checked) own started (by kernel_rfl) Try.func10
    (ChangeSpec.witness6 (enc := enc) (C := Try.checked) false ⟨#[], #[.slice none 0 0, .int .u8 0, .int .u8 0], []⟩ 8 (by kernel_rfl) (by kernel_rfl) (by kernel_rfl) (by kernel_rfl)) ?_
  intro W base args ds gs before hval0 hW hcnd hsz0 _
  have hsz : (DataW.weightsEach Try.prog (Try.f10.params.toList ++ Rows.pieceOrderSpec.plain.varTypes Try.prog) (ds ++ gs)).all (· ≤ reachBytes) = true := hsz0
  have hval : ∀ (j : Nat) t v, Try.f10.params[j]? = some t → args[j]? = some v → Value.okWide Try.prog W .any base t v := hval0
  have hW' := hW
  obtain ⟨p, q, hA0, hV, rfl, hfz, hnd⟩ := hW
  have hA : DataW.TrodAll enc Try.prog W 0 (fun _ => true) true Try.f10.params.toList args.toList ds p := hA0
  rw [Try.params10] at hA hval hsz
  obtain ⟨v0, vs0, d0, ds0, p0, q0, hargs, rfl, rfl, h0, r0⟩ := trodAll_cons hA
  obtain ⟨v1, vs1, d1, ds1, p1, q1, rfl, rfl, rfl, h1, r1⟩ := trodAll_cons r0
  obtain ⟨v2, vs2, d2, ds2, p2, q2, rfl, rfl, rfl, h2, r2⟩ := trodAll_cons r1
  obtain ⟨rfl, rfl, rfl⟩ := trodAll_nil r2
  obtain rfl : args = #[v0, v1, v2] := by cases args; simp_all
  obtain ⟨rfl, rfl⟩ := trodVars_none hV
  have k0 := h0
  have lt0 : ∀ x ∈ p0, x.block < W.heap.size := by obtain ⟨m, hm⟩ := k0; exact DataW.trod_lt m _ _ _ hm
  obtain ⟨b0, n0, m0, rfl⟩ := okWide_slice Try.underlying41 (hval 0 41 v0 rfl rfl)
  obtain ⟨fuel0, hf0⟩ := h0
  obtain ⟨A0, c0, x0, hcs0, hc0, hC0, hU0⟩ := open_pieces hf0
  have hcs0' : [Value.slice b0 n0 m0] = _ := hcs0
  simp only [List.cons.injEq, Value.slice.injEq, and_true] at hcs0'
  obtain ⟨rfl, rfl, rfl⟩ := hcs0'
  obtain ⟨a1, rfl, rfl, rfl, w1⟩ := open_int Try.underlying5 (hval 1 5 v1 rfl rfl) h1
  obtain ⟨a2, rfl, rfl, rfl, w2⟩ := open_int Try.underlying5 (hval 2 5 v2 rfl rfl) h2
  clear hA0 hval0 hsz0 hsz
  refine (order_walk x0 _ _ a1 a2 W hC0 hc0 hU0 (u8_bounds w1).1 (u8_bounds w1).2 (u8_bounds w2).1 (u8_bounds w2).2).mono fun e W' ⟨he, bel⟩ => ?_
  subst he
  exact ⟨_, rfl, _, _, _, [], _, [], hW', trodAll_mk1 (shut_bool Try.underlying4 _), (trodAll_cons_mk (Below.trod laidOut (by kernel_rfl) (of_decide_eq_true (by kernel_rfl)) k0 bel lt0) (trodAll_cons_mk (shut_int Try.underlying5 w1) (trodAll_cons_mk (shut_int Try.underlying5 w2) trodAll_mk0))), rfl, bel.frame _, fun h => by cases h⟩
theorem over : Rows.pieceOrderRow.holds Try.pinned (OpenSpec.ofChange Rows.pieceOrderSpec) :=
  OpenClaim.holds_of_wide 10 Try.f10 rfl rfl rfl rfl rfl rfl rfl ⟨rfl, rfl, rfl, rfl, rfl⟩ rfl rfl rfl rfl rfl (by kernel_rfl) Try.func10 (by kernel_rfl)
    (of_decide_eq_true (by kernel_rfl)) (by unfold Func.isWrapper; first | (rw [if_pos (by decide +kernel)]; kernel_rfl) | (rw [if_neg (by decide +kernel)]; exact ⟨rfl, rfl⟩))
    (fun os started H enc _ => lifted os started H enc)
theorem proved : Rows.PieceOrderSaid := over
#print axioms proved
end Go.Proofs.Ythiealhmcfdakaa.pieceOrder
namespace Go.Proofs.Ythiealhmcfdakaa
theorem pieceOrder_holds : Rows.PieceOrderSaid := pieceOrder.proved
end Go.Proofs.Ythiealhmcfdakaa
end
