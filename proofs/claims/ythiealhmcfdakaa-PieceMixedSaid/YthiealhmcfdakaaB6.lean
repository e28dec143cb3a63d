/- Lemmas and contracts that the laws of this seat share, part 6 (put together by this session's program out of its own texts and of the words that print.sh wrote for this seat). -/
import Derived.Laws.DeepNot64
import Derived.Test.YthiealhmcfdakaaB5
section
set_option linter.unusedVariables false
set_option linter.unusedSimpArgs false
namespace Go.Proofs.YthiealhmcfdakaaH
open Go Go.RowKit Go.Proofs.YthiealhmcfdakaaW.PrintWords Go.Proofs.YthiealhmcfdakaaW.PrintLast Go.Proofs.YthiealhmcfdakaaW.PrintMore Go.Proofs.Ythiealhmcfdakaa.E Go.Proofs.YthiealhmcfdakaaM
theorem bytes_ex (A : Option Addr) (c : Nat) (W : World) (hC : Kd.C (Kd.int .u8) W A 1 [97]) (hc : 1 ≤ c) :
    Calls Try.prog 12 #[.agg #[.int .i64 5, .int .i64 2, .int .i64 7, .int .i64 10, .int .i64 100, .int .i64 0, .int .i64 60, .int .i64 (-2), .int .i64 5, .int .i64 3, .bool false, .slice A 1 c]] W fun e w' => ∃ A' c', e = .returned (.tuple #[.slice A' 14 c', .int .i64 0]) ∧ 14 ≤ c' ∧ Kd.C (Kd.int .u8) w' A' 14 smallB ∧ Below W.heap.size W w' := by
  refine (piece_Bytes.calls 30 5 2 7 10 100 0 60 (-2) 5 3 false A c [97] smallB 0 W hC hc small_bytes).mono ?_
  rintro e w' ⟨v, rfl, hR, hb⟩
  obtain ⟨A', c', rfl, hc', hC'⟩ := Kd.R_reads hR
  exact ⟨A', c', rfl, hc', hC', hb⟩
theorem cut_ex (A : Option Addr) (c : Nat) (W : World) (hC : Kd.C (Kd.int .u8) W A 1 [97]) (hc : 1 ≤ c) :
    Calls Try.prog 18 #[.agg #[.int .i64 5, .int .i64 2, .int .i64 7, .int .i64 10, .int .i64 100, .int .i64 0, .int .i64 60, .int .i64 (-2), .int .i64 5, .int .i64 3, .bool false, .slice A 1 c], .int .i64 3, .int .i64 4] W fun e w' => ∃ A' c', e = .returned (.tuple #[.slice A' 4 c', .int .i64 0]) ∧ 4 ≤ c' ∧ Kd.C k49 w' A' 4 smallL ∧ Below W.heap.size W w' :=
  piece_Cut.calls 400 smallW A c 3 4 smallL 0 W hC hc small_cut
theorem lit14_ex (A : Option Addr) (c : Nat) (W : World) (hC : Kd.C (Kd.int .u8) W A 14 smallB) (hc : 14 ≤ c) :
    Calls Try.prog 15 #[.slice A 14 c, .slice (some ⟨W.heap.size, 0, none⟩) 14 14] (W.alloc (.cells #[.int .u8 10, .int .u8 4, .int .u8 14, .int .u8 20, .int .u8 200, .int .u8 1, .int .u8 0, .int .u8 120, .int .u8 3, .int .u8 10, .int .u8 6, .int .u8 0, .int .u8 194, .int .u8 1] 5)) fun e w' => e = .returned (.bool true) ∧ Below W.heap.size W w' := by
  refine (seamarkref08_Bytes.calls 40 A c smallB (some ⟨W.heap.size, 0, none⟩) 14 smallB true _ (Kd.C_alloc hC _) hc (C_row smallB _ (by decide)) (by decide) (by kernel_rfl)).mono ?_
  rintro e w' ⟨rfl, hd⟩
  exact ⟨rfl, below_then (below_alloc (Below.refl _ _) _) (below_alloc (Below.refl _ _) _).size hd.below⟩
theorem lit5_ex (A : Option Addr) (c : Nat) (W : World) (hC : Kd.C (Kd.int .u8) W A 5 [6, 0, 194, 1, 0]) (hc : 5 ≤ c) :
    Calls Try.prog 15 #[.slice A 5 c, .slice (some ⟨W.heap.size, 0, none⟩) 5 5] (W.alloc (.cells #[.int .u8 6, .int .u8 0, .int .u8 194, .int .u8 1, .int .u8 0] 5)) fun e w' => e = .returned (.bool true) ∧ Below W.heap.size W w' := by
  refine (seamarkref08_Bytes.calls 40 A c [6, 0, 194, 1, 0] (some ⟨W.heap.size, 0, none⟩) 5 [6, 0, 194, 1, 0] true _ (Kd.C_alloc hC _) hc (C_row [6, 0, 194, 1, 0] _ (by decide)) (by decide) (by kernel_rfl)).mono ?_
  rintro e w' ⟨rfl, hd⟩
  exact ⟨rfl, below_then (below_alloc (Below.refl _ _) _) (below_alloc (Below.refl _ _) _).size hd.below⟩
theorem from_ex (W : World) : Calls Try.prog 13 #[.slice (some ⟨W.heap.size, 0, none⟩) 2 2] (W.alloc (.cells #[.int .u8 10, .int .u8 4] 5)) fun e w' => ∃ A c, e = .returned (.tuple #[vWn zWn (.slice A 0 c), .int .i64 7]) ∧ Below W.heap.size W w' := by
  refine (piece_From.calls (some ⟨W.heap.size, 0, none⟩) 2 [10, 4] zWn 7 _ (C_row [10, 4] _ (by decide)) (by decide) small_from).mono ?_
  rintro e w' ⟨v, rfl, hR, hb⟩
  obtain ⟨A, c, rfl⟩ := Kd.R_slice hR
  exact ⟨A, c, rfl, below_then (below_alloc (Below.refl _ _) _) (below_alloc (Below.refl _ _) _).size hb⟩
theorem flat_get : ∀ (rs : List (List Value)) (j i : Nat) (r : List Value), (∀ x ∈ rs, x.length = 8) → rs[j]? = some r → i < 8 → rs.flatten[j * 8 + i]? = r[i]?
  | [], j, i, r, _, h, _ => by simp at h
  | r0 :: rs, 0, i, r, hl, h, hi => by
    have h0 := hl r0 (List.mem_cons_self ..)
    simp only [List.getElem?_cons_zero, Option.some.injEq] at h
    subst h
    rw [List.flatten_cons, List.getElem?_append_left (by omega), Nat.zero_mul, Nat.zero_add]
  | r0 :: rs, j + 1, i, r, hl, h, hi => by
    have h0 := hl r0 (List.mem_cons_self ..)
    rw [List.getElem?_cons_succ] at h
    rw [List.flatten_cons, List.getElem?_append_right (by omega), show (j + 1) * 8 + i - r0.length = j * 8 + i by omega]
    exact flat_get rs j i r (fun x hx => hl x (List.mem_cons_of_mem _ hx)) h hi
theorem C_pieces {W : World} {g : Nat} (ps : List S49) (vs : List Value) (hl : vs.length = ps.length) (hm : ps.length ≤ 1000) (hg : W.heap[g]? = some (.cells ((List.zipWith rawPiece ps vs).flatten).toArray 49 (0, 0)))
    (hv : ∀ (j : Nat) (p : S49) (v : Value), ps[j]? = some p → vs[j]? = some v → ∃ A c, v = .slice A p.f5.length c ∧ p.f5.length ≤ c ∧ (Kd.int .u8).C W A p.f5.length p.f5) : Kd.C k49 W (some ⟨g, 0, none⟩) ps.length ps := by
  refine ⟨rfl, by omega, fun hn => ⟨_, rfl, fun j p hj => ?_⟩⟩
  have hjl := (List.getElem?_eq_some_iff.1 hj).1
  have hjv : vs[j]? = some (vs[j]'(by omega)) := List.getElem?_eq_getElem (by omega)
  obtain ⟨A, c, e, hc, hC⟩ := hv j p _ hj hjv
  rw [e] at hjv
  refine ⟨rawPiece p (.slice A p.f5.length c), rfl, k49_mk W p hc hC, fun i u hu => ?_⟩
  have hi : i < 8 := (List.getElem?_eq_some_iff.1 hu).1
  have hadd : (⟨g, 0, none⟩ : Addr).add (j * 8 + i) = ⟨g, j * 8 + i, none⟩ := by unfold Addr.add; split <;> simp_all
  have hz : (List.zipWith rawPiece ps vs)[j]? = some (rawPiece p (.slice A p.f5.length c)) := by
    rw [List.getElem?_zipWith, hj, hjv]
  show W.cell? ((⟨g, 0, none⟩ : Addr).add (j * 8 + i)) = some u
  rw [hadd, blk_cell hg, List.getElem?_toArray, flat_get _ j i _ (fun x hx => ?_) hz hi, hu]
  obtain ⟨k, hk, rfl⟩ := List.getElem_of_mem hx
  rw [List.getElem_zipWith]
  rfl
theorem frame_ex (D3 : Option Addr) (d3 : Nat) (W : World) (h3 : 5 ≤ d3) (C3 : (Kd.int .u8).C W D3 5 [13, 4, 180, 22, 194]) :
    Calls Try.prog 22 #[.agg #[.int .i64 5, .int .i64 2, .int .i64 7, .int .i64 3, .int .i64 3, .int .i64 14, .int .i64 4030454094, .slice D3 5 d3]] W fun e w' => ∃ A c, e = .returned (.tuple #[.slice A 22 c, .int .i64 0]) ∧ 22 ≤ c ∧ Kd.C (Kd.int .u8) w' A 22 smallF ∧ Below W.heap.size W w' := by
  refine (piece_Frame.calls 5 2 7 3 3 14 4030454094 D3 d3 [13, 4, 180, 22, 194] smallF 0 W C3 h3 small_frame).mono ?_
  rintro e w' ⟨v, rfl, hR, hb⟩
  obtain ⟨A, c, rfl, hc, hC⟩ := Kd.R_reads hR
  exact ⟨A, c, rfl, hc, hC, hb⟩
theorem read_ex (A : Option Addr) (c : Nat) (W : World) (h : 22 ≤ c) (C : (Kd.int .u8).C W A 22 smallF) :
    Calls Try.prog 23 #[.slice A 22 c] W fun e w' => ∃ A c, e = .returned (.tuple #[.agg #[.int .i64 5, .int .i64 2, .int .i64 7, .int .i64 3, .int .i64 3, .int .i64 14, .int .i64 4030454094, .slice A 5 c], .int .i64 0]) ∧ 5 ≤ c ∧ Kd.R (Kd.int .u8) 5 w' W.heap.size (fun _ => True) (.slice A 5 c) [13, 4, 180, 22, 194] ∧ Below W.heap.size W w' := by
  refine (piece_Read.calls A c smallF (smallP 3 [13, 4, 180, 22, 194]) 0 W C h small_read).mono ?_
  rintro e w' ⟨v, rfl, hR, hb⟩
  obtain ⟨A, c, rfl, hc, hC⟩ := Kd.R_reads hR
  exact ⟨A, c, rfl, hc, hR, hb⟩
theorem same_ex (A : Option Addr) (c : Nat) (A' : Option Addr) (c' : Nat) (W : World) (h : 1 ≤ c) (C : (Kd.int .u8).C W A 1 [97]) (h' : 1 ≤ c') (C' : (Kd.int .u8).C W A' 1 [97]) :
    Calls Try.prog 14 #[.agg #[.int .i64 5, .int .i64 2, .int .i64 7, .int .i64 10, .int .i64 100, .int .i64 0, .int .i64 60, .int .i64 (-2), .int .i64 5, .int .i64 3, .bool false, .slice A 1 c], .agg #[.int .i64 5, .int .i64 2, .int .i64 7, .int .i64 10, .int .i64 100, .int .i64 0, .int .i64 60, .int .i64 (-2), .int .i64 5, .int .i64 3, .bool false, .slice A' 1 c']] W fun e w' => e = .returned (.bool true) ∧ Below W.heap.size W w' :=
  same_calls smallW smallW A c A' c' W C h C' h' (by decide)
theorem valid_ex (A : Option Addr) (c : Nat) (W : World) (h : 1 ≤ c) (C : (Kd.int .u8).C W A 1 [97]) :
    Calls Try.prog 17 #[.agg #[.int .i64 5, .int .i64 2, .int .i64 7, .int .i64 10, .int .i64 100, .int .i64 0, .int .i64 60, .int .i64 (-2), .int .i64 5, .int .i64 3, .bool false, .slice A 1 c]] W fun e w' => e = .returned (.bool true) ∧ Below W.heap.size W w' :=
  piece_Valid.calls 5 2 7 10 100 0 60 (-2) 5 3 false A c [97] true W C h (by kernel_rfl)
theorem validz_ex (W : World) : Calls Try.prog 17 #[.agg #[.int .i64 0, .int .i64 0, .int .i64 0, .int .i64 0, .int .i64 0, .int .i64 0, .int .i64 0, .int .i64 0, .int .i64 0, .int .i64 0, .bool false, .slice none 0 0]] W fun e w' => e = .returned (.bool false) ∧ Below W.heap.size W w' :=
  piece_Valid.calls 0 0 0 0 0 0 0 0 0 0 false none 0 [] false W (Kd.C_nil _ _) (Nat.le_refl _) (by kernel_rfl)
theorem piece_ex (A : Option Addr) (c : Nat) (W : World) (h : 5 ≤ c) (C : (Kd.int .u8).C W A 5 [13, 4, 180, 22, 194]) :
    Calls Try.prog 25 #[.agg #[.int .i64 5, .int .i64 2, .int .i64 7, .int .i64 3, .int .i64 3, .int .i64 14, .int .i64 4030454094, .slice A 5 c]] W fun e w' => e = .returned (.bool true) ∧ Below W.heap.size W w' :=
  piece_Piece.calls 5 2 7 3 3 14 4030454094 A c [13, 4, 180, 22, 194] true W C h (by kernel_rfl)
theorem equal_ex (A : Option Addr) (c : Nat) (A' : Option Addr) (c' : Nat) (W : World) (h : 5 ≤ c) (C : (Kd.int .u8).C W A 5 [13, 4, 180, 22, 194]) (h' : 5 ≤ c') (C' : (Kd.int .u8).C W A' 5 [13, 4, 180, 22, 194]) :
    Calls Try.prog 24 #[.agg #[.int .i64 5, .int .i64 2, .int .i64 7, .int .i64 3, .int .i64 3, .int .i64 14, .int .i64 4030454094, .slice A 5 c], .agg #[.int .i64 5, .int .i64 2, .int .i64 7, .int .i64 3, .int .i64 3, .int .i64 14, .int .i64 4030454094, .slice A' 5 c']] W fun e w' => e = .returned (.bool true) ∧ Below W.heap.size W w' :=
  requal_calls (smallP 3 [13, 4, 180, 22, 194]) (smallP 3 [13, 4, 180, 22, 194]) A c A' c' W C h C' h' (by decide)
set_option maxRecDepth 100000 in
theorem gather4_ex (V : World) (gs : Nat) (D1 D2 D3 : Option Addr) (d1 d2 d3 : Nat) (h1 : 5 ≤ d1) (h2 : 5 ≤ d2) (h3 : 5 ≤ d3) (C1 : (Kd.int .u8).C V D1 5 [1, 0, 120, 3, 10]) (C2 : (Kd.int .u8).C V D2 5 [6, 0, 194, 1, 0]) (C3 : (Kd.int .u8).C V D3 5 [13, 4, 180, 22, 194])
    (hg : V.heap[gs]? = some (.cells #[.int .i64 5, .int .i64 2, .int .i64 7, .int .i64 1, .int .i64 3, .int .i64 14, .int .i64 4030454094, .slice D1 5 d1, .int .i64 5, .int .i64 2, .int .i64 7, .int .i64 3, .int .i64 3, .int .i64 14, .int .i64 4030454094, .slice D3 5 d3, .int .i64 5, .int .i64 2, .int .i64 7, .int .i64 1, .int .i64 3, .int .i64 14, .int .i64 4030454094, .slice D1 5 d1, .int .i64 5, .int .i64 2, .int .i64 7, .int .i64 2, .int .i64 3, .int .i64 14, .int .i64 4030454094, .slice D2 5 d2] 49 (0, 0))) :
    Calls Try.prog 20 #[.slice (some ⟨gs, 0, none⟩) 4 4] V fun e w' => ∃ A c, e = .returned (.tuple #[.agg #[.int .i64 5, .int .i64 2, .int .i64 7, .int .i64 10, .int .i64 100, .int .i64 0, .int .i64 60, .int .i64 (-2), .int .i64 5, .int .i64 3, .bool false, .slice A 1 c], .int .i64 0]) ∧ 1 ≤ c ∧ Kd.R (Kd.int .u8) 5 w' V.heap.size (fun _ => True) (.slice A 1 c) [97] ∧ Below V.heap.size V w' := by
  have hC := C_pieces [smallP 1 [1, 0, 120, 3, 10], smallP 3 [13, 4, 180, 22, 194], smallP 1 [1, 0, 120, 3, 10], smallP 2 [6, 0, 194, 1, 0]] [.slice D1 5 d1, .slice D3 5 d3, .slice D1 5 d1, .slice D2 5 d2] rfl (by decide) hg (fun j p v hj hv => by
    match j with
    | 0 =>
      obtain rfl := Option.some.inj hj
      obtain rfl := Option.some.inj hv
      exact ⟨_, _, rfl, h1, C1⟩
    | 1 =>
      obtain rfl := Option.some.inj hj
      obtain rfl := Option.some.inj hv
      exact ⟨_, _, rfl, h3, C3⟩
    | 2 =>
      obtain rfl := Option.some.inj hj
      obtain rfl := Option.some.inj hv
      exact ⟨_, _, rfl, h1, C1⟩
    | 3 =>
      obtain rfl := Option.some.inj hj
      obtain rfl := Option.some.inj hv
      exact ⟨_, _, rfl, h2, C2⟩
    | n + 4 => simp at hj)
  refine (piece_Gather.calls 400 (some ⟨gs, 0, none⟩) 4 _ smallW 0 V hC (by decide) small_gather).mono ?_
  rintro e w' ⟨v, rfl, hR, hb⟩
  obtain ⟨A, c, rfl, hc, _⟩ := Kd.R_reads hR
  exact ⟨A, c, rfl, hc, hR, hb⟩
set_option maxRecDepth 100000 in
theorem gather2_ex (V : World) (gs : Nat) (D1 D3 : Option Addr) (d1 d3 : Nat) (h1 : 5 ≤ d1) (h3 : 5 ≤ d3) (C1 : (Kd.int .u8).C V D1 5 [1, 0, 120, 3, 10]) (C3 : (Kd.int .u8).C V D3 5 [13, 4, 180, 22, 194])
    (hg : V.heap[gs]? = some (.cells #[.int .i64 5, .int .i64 2, .int .i64 7, .int .i64 1, .int .i64 3, .int .i64 14, .int .i64 4030454094, .slice D1 5 d1, .int .i64 5, .int .i64 2, .int .i64 7, .int .i64 3, .int .i64 3, .int .i64 14, .int .i64 4030454094, .slice D3 5 d3] 49 (0, 0))) :
    Calls Try.prog 20 #[.slice (some ⟨gs, 0, none⟩) 2 2] V fun e w' => ∃ v, e = .returned (.tuple #[vWn zWn v, .int .i64 4]) ∧ Below V.heap.size V w' := by
  have hC := C_pieces [smallP 1 [1, 0, 120, 3, 10], smallP 3 [13, 4, 180, 22, 194]] [.slice D1 5 d1, .slice D3 5 d3] rfl (by decide) hg (fun j p v hj hv => by
    match j with
    | 0 =>
      obtain rfl := Option.some.inj hj
      obtain rfl := Option.some.inj hv
      exact ⟨_, _, rfl, h1, C1⟩
    | 1 =>
      obtain rfl := Option.some.inj hj
      obtain rfl := Option.some.inj hv
      exact ⟨_, _, rfl, h3, C3⟩
    | n + 2 => simp at hj)
  refine (piece_Gather.calls 400 (some ⟨gs, 0, none⟩) 2 _ zWn 4 V hC (by decide) small_few).mono ?_
  rintro e w' ⟨v, rfl, hR, hb⟩
  exact ⟨v, rfl, hb⟩
set_option maxHeartbeats 8000000 in
set_option maxRecDepth 100000 in
theorem head_calls (w : World) :
    Calls Try.prog 11 #[] w fun e w' => e = .returned (.bool true) ∧ Below w.heap.size w w' := by
  have hu30 := Try.underlying30
  have hu49 := Try.underlying49
  have hu23 := Try.underlying23
  have hi30 : (Try.prog.info? 30).map (·.size) = some 12 := by kernel_rfl
  have hi49 : (Try.prog.info? 49).map (·.size) = some 8 := by kernel_rfl
  have hmix : Try.prog.follows .mixedOrders = true := by kernel_rfl
  go_enter Try.func11, Try.ntmps11
  go_wp2_with fail
  (with_reducible refine (small_calls _).mono ?_)
  rintro e w1 ⟨A1, c1, rfl, hc1, hC1, hb1⟩
  have hby := bytes_ex A1 c1 w1 hC1 hc1
  dsimp only [vWn, smallW]
  go_wp2_with fail
  (with_reducible refine hby.mono ?_)
  rintro e w2 ⟨A2, c2, rfl, hc2, hC2, hb2⟩
  have hB2 : Below w.heap.size w w2 := hb1.trans (hb2.mono hb1.size)
  clear hby hC1 hc1 hb1 hb2
  go_wp2_with fail
  (with_reducible refine (small_calls _).mono ?_)
  rintro e w3 ⟨A3, c3, rfl, hc3, hC3, hb3⟩
  have hcut := cut_ex A3 c3 w3 hC3 hc3
  dsimp only [vWn, smallW]
  go_wp2_with fail
  (with_reducible refine hcut.mono ?_)
  rintro e w4 ⟨A4, c4, rfl, hc4, hC4, hb4⟩
  have hb24 : Below w2.heap.size w2 w4 := hb3.trans (hb4.mono hb3.size)
  have hB4 : Below w.heap.size w w4 := hB2.trans (hb24.mono hB2.size)
  have hl14 := lit14_ex A2 c2 w4 (Kd.C_below hC2 hb24) hc2
  clear hcut hC3 hc3 hb3 hb4 hb24 hB2 hC2
  have HC4 := Aside0.mk hC4
  have Hc4 := Aside0.mk hc4
  have HB4 := Aside0.mk hB4
  clear hC4 hB4
  go_wp2_with fail
  (with_reducible refine hl14.mono ?_)
  rintro e w5 ⟨rfl, hb5⟩
  clear hl14
  go_wp2_with fail
  -- region 5
  have hB45 : Below w4.heap.size w4 w5 := hb5
  have hB5 := HB4.out.trans (hB45.mono HB4.out.size)
  have hC5 := Kd.C_below HC4.out hB45
  obtain ⟨ad, D0, d0, e4, _, _, _, _, _, g35, _, _, _, _⟩ := at_T49 hC5 0 (by decide) (by decide)
  subst e4
  replace g35 : w5.cell? ⟨ad.block, ad.off + 5, none⟩ = some (.int .i64 14) := g35
  obtain ⟨ad_, D1, d1, e4, x10, x11, x12, x13, x14, x15, x16, x17, hd1, hD1⟩ := at_T49 hC5 1 (by decide) (by decide)
  obtain rfl := Option.some.inj e4
  replace x10 : w5.cell? (⟨ad.block, ad.off + 8, none⟩) = some (.int .i64 5) := x10
  replace x11 : w5.cell? ⟨ad.block, ad.off + 8 + 1, none⟩ = some (.int .i64 2) := x11
  replace x12 : w5.cell? ⟨ad.block, ad.off + 8 + 2, none⟩ = some (.int .i64 7) := x12
  replace x13 : w5.cell? ⟨ad.block, ad.off + 8 + 3, none⟩ = some (.int .i64 1) := x13
  replace x14 : w5.cell? ⟨ad.block, ad.off + 8 + 4, none⟩ = some (.int .i64 3) := x14
  replace x15 : w5.cell? ⟨ad.block, ad.off + 8 + 5, none⟩ = some (.int .i64 14) := x15
  replace x16 : w5.cell? ⟨ad.block, ad.off + 8 + 6, none⟩ = some (.int .i64 4030454094) := x16
  replace x17 : w5.cell? ⟨ad.block, ad.off + 8 + 7, none⟩ = some (.slice D1 5 d1) := x17
  replace hd1 : 5 ≤ d1 := hd1
  replace hD1 : (Kd.int .u8).C w5 D1 5 [1, 0, 120, 3, 10] := hD1
  obtain ⟨ad_, D2, d2, e4, x20, x21, x22, x23, x24, x25, x26, x27, hd2, hD2⟩ := at_T49 hC5 2 (by decide) (by decide)
  obtain rfl := Option.some.inj e4
  replace x20 : w5.cell? (⟨ad.block, ad.off + 16, none⟩) = some (.int .i64 5) := x20
  replace x21 : w5.cell? ⟨ad.block, ad.off + 16 + 1, none⟩ = some (.int .i64 2) := x21
  replace x22 : w5.cell? ⟨ad.block, ad.off + 16 + 2, none⟩ = some (.int .i64 7) := x22
  replace x23 : w5.cell? ⟨ad.block, ad.off + 16 + 3, none⟩ = some (.int .i64 2) := x23
  replace x24 : w5.cell? ⟨ad.block, ad.off + 16 + 4, none⟩ = some (.int .i64 3) := x24
  replace x25 : w5.cell? ⟨ad.block, ad.off + 16 + 5, none⟩ = some (.int .i64 14) := x25
  replace x26 : w5.cell? ⟨ad.block, ad.off + 16 + 6, none⟩ = some (.int .i64 4030454094) := x26
  replace x27 : w5.cell? ⟨ad.block, ad.off + 16 + 7, none⟩ = some (.slice D2 5 d2) := x27
  replace hd2 : 5 ≤ d2 := hd2
  replace hD2 : (Kd.int .u8).C w5 D2 5 [6, 0, 194, 1, 0] := hD2
  obtain ⟨ad_, D3, d3, e4, x30, x31, x32, x33, x34, x35, x36, x37, hd3, hD3⟩ := at_T49 hC5 3 (by decide) (by decide)
  obtain rfl := Option.some.inj e4
  replace x30 : w5.cell? (⟨ad.block, ad.off + 24, none⟩) = some (.int .i64 5) := x30
  replace x31 : w5.cell? ⟨ad.block, ad.off + 24 + 1, none⟩ = some (.int .i64 2) := x31
  replace x32 : w5.cell? ⟨ad.block, ad.off + 24 + 2, none⟩ = some (.int .i64 7) := x32
  replace x33 : w5.cell? ⟨ad.block, ad.off + 24 + 3, none⟩ = some (.int .i64 3) := x33
  replace x34 : w5.cell? ⟨ad.block, ad.off + 24 + 4, none⟩ = some (.int .i64 3) := x34
  replace x35 : w5.cell? ⟨ad.block, ad.off + 24 + 5, none⟩ = some (.int .i64 14) := x35
  replace x36 : w5.cell? ⟨ad.block, ad.off + 24 + 6, none⟩ = some (.int .i64 4030454094) := x36
  replace x37 : w5.cell? ⟨ad.block, ad.off + 24 + 7, none⟩ = some (.slice D3 5 d3) := x37
  replace hd3 : 5 ≤ d3 := hd3
  replace hD3 : (Kd.int .u8).C w5 D3 5 [13, 4, 180, 22, 194] := hD3
  clear hC5
  have hS0 : (fun w' => Below w5.heap.size w5 w') w5.drew := (Below.refl _ _).drew
  refine start_ (n := 20) (S := (fun w' => Below w5.heap.size w5 w')) (ds := [18]) (Array.replicate 20 false) hmix rfl rfl hS0 (fun hHeld => ?_)
  refine pureS (i := 0) (N := (some 41)) (v := ?_) (a' := ?_) rfl rfl (by kernel_rfl) (fun _ _ _ h => h) (Or.inl ⟨by rfl, ?_⟩) ?_ ?_
  rotate_left
  · intro w'
    go_simp
    with_reducible rfl
  rotate_left
  · simp only [Act.put, List.setIfInBounds_toArray, List.set_cons_zero, List.set_cons_succ, i64_w, i32_w]
    rfl
  refine pureS (i := 1) (N := (some 42)) (v := ?_) (a' := ?_) rfl rfl (by kernel_rfl) (fun _ _ _ h => h) (Or.inl ⟨by rfl, ?_⟩) ?_ ?_
  rotate_left
  · intro w'
    go_simp
    with_reducible rfl
  rotate_left
  · simp only [Act.put, List.setIfInBounds_toArray, List.set_cons_zero, List.set_cons_succ, i64_w, i32_w]
    rfl
  refine takeS (i := 2) (N := (some 43)) (v := ?_) (a' := ?_) rfl rfl (by kernel_rfl) (fun _ _ _ h => h) (Or.inl ⟨by rfl, ?_⟩) hHeld ?_ ?_
  rotate_left
  · intro w' hs
    have x10_ := (hs.cell (block_lt_of_cell x10)).trans x10
    have x11_ := (hs.cell (block_lt_of_cell x11)).trans x11
    have x12_ := (hs.cell (block_lt_of_cell x12)).trans x12
    have x13_ := (hs.cell (block_lt_of_cell x13)).trans x13
    have x14_ := (hs.cell (block_lt_of_cell x14)).trans x14
    have x15_ := (hs.cell (block_lt_of_cell x15)).trans x15
    have x16_ := (hs.cell (block_lt_of_cell x16)).trans x16
    have x17_ := (hs.cell (block_lt_of_cell x17)).trans x17
    go_simp
    with_reducible rfl
  rotate_left
  · simp only [Act.put, List.setIfInBounds_toArray, List.set_cons_zero, List.set_cons_succ, i64_w, i32_w]
    rfl
  refine pureS (i := 3) (N := (some 44)) (v := ?_) (a' := ?_) rfl rfl (by kernel_rfl) (fun _ _ _ h => h) (Or.inl ⟨by rfl, ?_⟩) ?_ ?_
  rotate_left
  · intro w'
    go_simp
    with_reducible rfl
  rotate_left
  · simp only [Act.put, List.setIfInBounds_toArray, List.set_cons_zero, List.set_cons_succ, i64_w, i32_w]
    rfl
  refine pureS (i := 4) (N := (some 45)) (v := ?_) (a' := ?_) rfl rfl (by kernel_rfl) (fun _ _ _ h => h) (Or.inl ⟨by rfl, ?_⟩) ?_ ?_
  rotate_left
  · intro w'
    go_simp
    with_reducible rfl
  rotate_left
  · simp only [Act.put, List.setIfInBounds_toArray, List.set_cons_zero, List.set_cons_succ, i64_w, i32_w]
    rfl
  refine takeS (i := 5) (N := (some 46)) (v := ?_) (a' := ?_) rfl rfl (by kernel_rfl) (fun _ _ _ h => h) (Or.inl ⟨by rfl, ?_⟩) hHeld ?_ ?_
  rotate_left
  · intro w' hs
    have x30_ := (hs.cell (block_lt_of_cell x30)).trans x30
    have x31_ := (hs.cell (block_lt_of_cell x31)).trans x31
    have x32_ := (hs.cell (block_lt_of_cell x32)).trans x32
    have x33_ := (hs.cell (block_lt_of_cell x33)).trans x33
    have x34_ := (hs.cell (block_lt_of_cell x34)).trans x34
    have x35_ := (hs.cell (block_lt_of_cell x35)).trans x35
    have x36_ := (hs.cell (block_lt_of_cell x36)).trans x36
    have x37_ := (hs.cell (block_lt_of_cell x37)).trans x37
    go_simp
    with_reducible rfl
  rotate_left
  · simp only [Act.put, List.setIfInBounds_toArray, List.set_cons_zero, List.set_cons_succ, i64_w, i32_w]
    rfl
  refine pureS (i := 6) (N := (some 47)) (v := ?_) (a' := ?_) rfl rfl (by kernel_rfl) (fun _ _ _ h => h) (Or.inl ⟨by rfl, ?_⟩) ?_ ?_
  rotate_left
  · intro w'
    go_simp
    with_reducible rfl
  rotate_left
  · simp only [Act.put, List.setIfInBounds_toArray, List.set_cons_zero, List.set_cons_succ, i64_w, i32_w]
    rfl
  refine pureS (i := 7) (N := (some 48)) (v := ?_) (a' := ?_) rfl rfl (by kernel_rfl) (fun _ _ _ h => h) (Or.inl ⟨by rfl, ?_⟩) ?_ ?_
  rotate_left
  · intro w'
    go_simp
    with_reducible rfl
  rotate_left
  · simp only [Act.put, List.setIfInBounds_toArray, List.set_cons_zero, List.set_cons_succ, i64_w, i32_w]
    rfl
  refine takeS (i := 8) (N := (some 49)) (v := ?_) (a' := ?_) rfl rfl (by kernel_rfl) (fun _ _ _ h => h) (Or.inl ⟨by rfl, ?_⟩) hHeld ?_ ?_
  rotate_left
  · intro w' hs
    have x10_ := (hs.cell (block_lt_of_cell x10)).trans x10
    have x11_ := (hs.cell (block_lt_of_cell x11)).trans x11
    have x12_ := (hs.cell (block_lt_of_cell x12)).trans x12
    have x13_ := (hs.cell (block_lt_of_cell x13)).trans x13
    have x14_ := (hs.cell (block_lt_of_cell x14)).trans x14
    have x15_ := (hs.cell (block_lt_of_cell x15)).trans x15
    have x16_ := (hs.cell (block_lt_of_cell x16)).trans x16
    have x17_ := (hs.cell (block_lt_of_cell x17)).trans x17
    go_simp
    with_reducible rfl
  rotate_left
  · simp only [Act.put, List.setIfInBounds_toArray, List.set_cons_zero, List.set_cons_succ, i64_w, i32_w]
    rfl
  refine pureS (i := 9) (N := (some 50)) (v := ?_) (a' := ?_) rfl rfl (by kernel_rfl) (fun _ _ _ h => h) (Or.inl ⟨by rfl, ?_⟩) ?_ ?_
  rotate_left
  · intro w'
    go_simp
    with_reducible rfl
  rotate_left
  · simp only [Act.put, List.setIfInBounds_toArray, List.set_cons_zero, List.set_cons_succ, i64_w, i32_w]
    rfl
  refine pureS (i := 10) (N := (some 51)) (v := ?_) (a' := ?_) rfl rfl (by kernel_rfl) (fun _ _ _ h => h) (Or.inl ⟨by rfl, ?_⟩) ?_ ?_
  rotate_left
  · intro w'
    go_simp
    with_reducible rfl
  rotate_left
  · simp only [Act.put, List.setIfInBounds_toArray, List.set_cons_zero, List.set_cons_succ, i64_w, i32_w]
    rfl
  refine takeS (i := 11) (N := (some 52)) (v := ?_) (a' := ?_) rfl rfl (by kernel_rfl) (fun _ _ _ h => h) (Or.inl ⟨by rfl, ?_⟩) hHeld ?_ ?_
  rotate_left
  · intro w' hs
    have x20_ := (hs.cell (block_lt_of_cell x20)).trans x20
    have x21_ := (hs.cell (block_lt_of_cell x21)).trans x21
    have x22_ := (hs.cell (block_lt_of_cell x22)).trans x22
    have x23_ := (hs.cell (block_lt_of_cell x23)).trans x23
    have x24_ := (hs.cell (block_lt_of_cell x24)).trans x24
    have x25_ := (hs.cell (block_lt_of_cell x25)).trans x25
    have x26_ := (hs.cell (block_lt_of_cell x26)).trans x26
    have x27_ := (hs.cell (block_lt_of_cell x27)).trans x27
    go_simp
    with_reducible rfl
  rotate_left
  · simp only [Act.put, List.setIfInBounds_toArray, List.set_cons_zero, List.set_cons_succ, i64_w, i32_w]
    rfl
  refine join_ (σ := Nat × Nat × Option Addr × Nat) 2 #[true, true, true, true, true, true, true, true, true, true, true, true, true, true, true, true, true, true, false, false] (fun s => [(53, .slice (some ⟨s.1, 0, none⟩) 4 4), (54, .tuple #[.agg #[.int .i64 5, .int .i64 2, .int .i64 7, .int .i64 10, .int .i64 100, .int .i64 0, .int .i64 60, .int .i64 (-2), .int .i64 5, .int .i64 3, .bool false, .slice s.2.2.1 1 s.2.2.2], .int .i64 0]), (5, .pointer (some ⟨s.2.1, 0, none⟩)), (40, .tuple #[.agg #[.int .i64 5, .int .i64 2, .int .i64 7, .int .i64 10, .int .i64 100, .int .i64 0, .int .i64 60, .int .i64 (-2), .int .i64 5, .int .i64 3, .bool false, .slice s.2.2.1 1 s.2.2.2], .int .i64 0]), (55, .agg #[.int .i64 5, .int .i64 2, .int .i64 7, .int .i64 10, .int .i64 100, .int .i64 0, .int .i64 60, .int .i64 (-2), .int .i64 5, .int .i64 3, .bool false, .slice s.2.2.1 1 s.2.2.2]), (56, .int .i64 0)]) (fun s W => W.heap[s.2.1]? = some (.cells #[.int .i64 0, .int .i64 0, .int .i64 0, .int .i64 0, .int .i64 0, .int .i64 0, .int .i64 0, .int .i64 0, .int .i64 0, .int .i64 0, .bool false, .slice none 0 0] 30 (0, 0)) ∧ 1 ≤ s.2.2.2 ∧ Kd.R (Kd.int .u8) 5 W w5.heap.size (fun k => k ≠ s.2.1) (.slice s.2.2.1 1 s.2.2.2) [97] ∧ Below w5.heap.size w5 W ∧ w5.heap.size ≤ s.2.1) ?_ (fun hrest => ?_)
  rotate_left
  · clear hHeld
    have hBd : Below w5.heap.size w5 w5.drew := (Below.refl _ _).drew
    refine twoS (i := 12) (j := 17) (Ni := some 53) (Nj := some 5) rfl rfl rfl rfl (by kernel_rfl) (by decide) (by decide) (fun K hK => ?_) (fun K hK => ?_)
    · go_simp
      have hBA : Below w5.heap.size w5 (w5.alloc (.cells #[.int .i64 5, .int .i64 2, .int .i64 7, .int .i64 1, .int .i64 3, .int .i64 14, .int .i64 4030454094, .slice D1 5 d1, .int .i64 5, .int .i64 2, .int .i64 7, .int .i64 3, .int .i64 3, .int .i64 14, .int .i64 4030454094, .slice D3 5 d3, .int .i64 5, .int .i64 2, .int .i64 7, .int .i64 1, .int .i64 3, .int .i64 14, .int .i64 4030454094, .slice D1 5 d1, .int .i64 5, .int .i64 2, .int .i64 7, .int .i64 2, .int .i64 3, .int .i64 14, .int .i64 4030454094, .slice D2 5 d2] 49)).drew := ((Below.refl _ _).alloc (Nat.le_refl _) _).drew
      have hgA : (w5.alloc (.cells #[.int .i64 5, .int .i64 2, .int .i64 7, .int .i64 1, .int .i64 3, .int .i64 14, .int .i64 4030454094, .slice D1 5 d1, .int .i64 5, .int .i64 2, .int .i64 7, .int .i64 3, .int .i64 3, .int .i64 14, .int .i64 4030454094, .slice D3 5 d3, .int .i64 5, .int .i64 2, .int .i64 7, .int .i64 1, .int .i64 3, .int .i64 14, .int .i64 4030454094, .slice D1 5 d1, .int .i64 5, .int .i64 2, .int .i64 7, .int .i64 2, .int .i64 3, .int .i64 14, .int .i64 4030454094, .slice D2 5 d2] 49)).drew.heap[w5.heap.size]? = some (.cells #[.int .i64 5, .int .i64 2, .int .i64 7, .int .i64 1, .int .i64 3, .int .i64 14, .int .i64 4030454094, .slice D1 5 d1, .int .i64 5, .int .i64 2, .int .i64 7, .int .i64 3, .int .i64 3, .int .i64 14, .int .i64 4030454094, .slice D3 5 d3, .int .i64 5, .int .i64 2, .int .i64 7, .int .i64 1, .int .i64 3, .int .i64 14, .int .i64 4030454094, .slice D1 5 d1, .int .i64 5, .int .i64 2, .int .i64 7, .int .i64 2, .int .i64 3, .int .i64 14, .int .i64 4030454094, .slice D2 5 d2] 49 (0, 0)) := World.alloc_heap_new w5 _
      have hsA : Aside0 ((w5.alloc (.cells #[.int .i64 5, .int .i64 2, .int .i64 7, .int .i64 1, .int .i64 3, .int .i64 14, .int .i64 4030454094, .slice D1 5 d1, .int .i64 5, .int .i64 2, .int .i64 7, .int .i64 3, .int .i64 3, .int .i64 14, .int .i64 4030454094, .slice D3 5 d3, .int .i64 5, .int .i64 2, .int .i64 7, .int .i64 1, .int .i64 3, .int .i64 14, .int .i64 4030454094, .slice D1 5 d1, .int .i64 5, .int .i64 2, .int .i64 7, .int .i64 2, .int .i64 3, .int .i64 14, .int .i64 4030454094, .slice D2 5 d2] 49)).drew.heap.size = w5.heap.size + 1) := ⟨World.size_alloc w5 _⟩
      refine hK.out _ _ hBA (fun hHeld => ?_)
      clear hK K hHeld
      generalize (w5.alloc (.cells #[.int .i64 5, .int .i64 2, .int .i64 7, .int .i64 1, .int .i64 3, .int .i64 14, .int .i64 4030454094, .slice D1 5 d1, .int .i64 5, .int .i64 2, .int .i64 7, .int .i64 3, .int .i64 3, .int .i64 14, .int .i64 4030454094, .slice D3 5 d3, .int .i64 5, .int .i64 2, .int .i64 7, .int .i64 1, .int .i64 3, .int .i64 14, .int .i64 4030454094, .slice D1 5 d1, .int .i64 5, .int .i64 2, .int .i64 7, .int .i64 2, .int .i64 3, .int .i64 14, .int .i64 4030454094, .slice D2 5 d2] 49)).drew = WA at hBA hgA hsA ⊢
      refine twoS (i := 13) (j := 17) (Ni := some 54) (Nj := some 5) rfl rfl rfl rfl (by kernel_rfl) (by decide) (by decide) (fun K hK => ?_) (fun K hK => ?_)
      · go_simp
        (with_reducible refine (gather4_ex WA w5.heap.size D1 D2 D3 d1 d2 d3 hd1 hd2 hd3 (Kd.C_below hD1 hBA) (Kd.C_below hD2 hBA) (Kd.C_below hD3 hBA) hgA).mono ?_)
        rintro e W1 ⟨A, c, rfl, hc, hR, hb⟩
        have hB1 : Below w5.heap.size w5 W1 := hBA.trans (hb.mono hBA.size)
        have hs1 := hb.size
        refine hK.out _ _ hB1 (fun hHeld => ?_)
        clear hK K hHeld
        refine pureS (i := 14) (N := (some 40)) (v := ?_) (a' := ?_) rfl rfl (by kernel_rfl) (fun _ _ _ h => h) (Or.inl ⟨by rfl, ?_⟩) ?_ ?_
        rotate_left
        · intro w'
          go_simp
          with_reducible rfl
        rotate_left
        · simp only [Act.put, List.setIfInBounds_toArray, List.set_cons_zero, List.set_cons_succ, i64_w, i32_w]
          rfl
        refine pureS (i := 15) (N := (some 55)) (v := ?_) (a' := ?_) rfl rfl (by kernel_rfl) (fun _ _ _ h => h) (Or.inl ⟨by rfl, ?_⟩) ?_ ?_
        rotate_left
        · intro w'
          go_simp
          with_reducible rfl
        rotate_left
        · simp only [Act.put, List.setIfInBounds_toArray, List.set_cons_zero, List.set_cons_succ, i64_w, i32_w]
          rfl
        refine pureS (i := 16) (N := (some 56)) (v := ?_) (a' := ?_) rfl rfl (by kernel_rfl) (fun _ _ _ h => h) (Or.inl ⟨by rfl, ?_⟩) ?_ ?_
        rotate_left
        · intro w'
          go_simp
          with_reducible rfl
        rotate_left
        · simp only [Act.put, List.setIfInBounds_toArray, List.set_cons_zero, List.set_cons_succ, i64_w, i32_w]
          rfl
        refine oneS (i := 17) (N := some 5) rfl rfl (by kernel_rfl) (by decide) (fun K hK => ?_)
        go_simp
        refine hK.out _ _ (hB1.alloc hB1.size _) (fun hHeld => ?_)
        refine relist_ #[true, true, true, true, true, true, true, true, true, true, true, true, true, true, true, true, true, true, false, false] (by kernel_rfl) ?_ (hrest (w5.heap.size, W1.heap.size, A, c) _ ⟨World.alloc_heap_new _ _, hc, ?_, hB1.alloc hB1.size _, hB1.size⟩)
        · simp only [putAll, Act.put, List.setIfInBounds_toArray, List.set_cons_zero, List.set_cons_succ]
        · exact Kd.R_mono (Kd.R_lower (Kd.R_alloc (Kd.R_bound hR) (.cells #[.int .i64 0, .int .i64 0, .int .i64 0, .int .i64 0, .int .i64 0, .int .i64 0, .int .i64 0, .int .i64 0, .int .i64 0, .int .i64 0, .bool false, .slice none 0 0] 30)) (by have := hsA.out; omega)) (fun k hk => by have := hk.2.2.1; show k ≠ W1.heap.size; omega)
      · go_simp
        have hBZ : Below w5.heap.size w5 (WA.alloc (.cells #[.int .i64 0, .int .i64 0, .int .i64 0, .int .i64 0, .int .i64 0, .int .i64 0, .int .i64 0, .int .i64 0, .int .i64 0, .int .i64 0, .bool false, .slice none 0 0] 30)) := hBA.alloc hBA.size _
        have hgZ : (WA.alloc (.cells #[.int .i64 0, .int .i64 0, .int .i64 0, .int .i64 0, .int .i64 0, .int .i64 0, .int .i64 0, .int .i64 0, .int .i64 0, .int .i64 0, .bool false, .slice none 0 0] 30)).heap[w5.heap.size]? = some (.cells #[.int .i64 5, .int .i64 2, .int .i64 7, .int .i64 1, .int .i64 3, .int .i64 14, .int .i64 4030454094, .slice D1 5 d1, .int .i64 5, .int .i64 2, .int .i64 7, .int .i64 3, .int .i64 3, .int .i64 14, .int .i64 4030454094, .slice D3 5 d3, .int .i64 5, .int .i64 2, .int .i64 7, .int .i64 1, .int .i64 3, .int .i64 14, .int .i64 4030454094, .slice D1 5 d1, .int .i64 5, .int .i64 2, .int .i64 7, .int .i64 2, .int .i64 3, .int .i64 14, .int .i64 4030454094, .slice D2 5 d2] 49 (0, 0)) := (((Below.refl WA.heap.size WA).alloc (Nat.le_refl _) (.cells #[.int .i64 0, .int .i64 0, .int .i64 0, .int .i64 0, .int .i64 0, .int .i64 0, .int .i64 0, .int .i64 0, .int .i64 0, .int .i64 0, .bool false, .slice none 0 0] 30)).block _ (by have := hsA.out; omega)).trans hgA
        have hzZ : (WA.alloc (.cells #[.int .i64 0, .int .i64 0, .int .i64 0, .int .i64 0, .int .i64 0, .int .i64 0, .int .i64 0, .int .i64 0, .int .i64 0, .int .i64 0, .bool false, .slice none 0 0] 30)).heap[WA.heap.size]? = some (.cells #[.int .i64 0, .int .i64 0, .int .i64 0, .int .i64 0, .int .i64 0, .int .i64 0, .int .i64 0, .int .i64 0, .int .i64 0, .int .i64 0, .bool false, .slice none 0 0] 30 (0, 0)) := World.alloc_heap_new _ _
        have hsZ : Aside0 ((WA.alloc (.cells #[.int .i64 0, .int .i64 0, .int .i64 0, .int .i64 0, .int .i64 0, .int .i64 0, .int .i64 0, .int .i64 0, .int .i64 0, .int .i64 0, .bool false, .slice none 0 0] 30)).heap.size = WA.heap.size + 1) := ⟨World.size_alloc WA _⟩
        refine hK.out _ _ hBZ (fun hHeld => ?_)
        clear hK K hHeld
        generalize WA.alloc (.cells #[.int .i64 0, .int .i64 0, .int .i64 0, .int .i64 0, .int .i64 0, .int .i64 0, .int .i64 0, .int .i64 0, .int .i64 0, .int .i64 0, .bool false, .slice none 0 0] 30) = WZ at hBZ hgZ hzZ hsZ ⊢
        refine oneS (i := 13) (N := some 54) rfl rfl (by kernel_rfl) (by decide) (fun K hK => ?_)
        go_simp
        (with_reducible refine (gather4_ex WZ w5.heap.size D1 D2 D3 d1 d2 d3 hd1 hd2 hd3 (Kd.C_below hD1 hBZ) (Kd.C_below hD2 hBZ) (Kd.C_below hD3 hBZ) hgZ).mono ?_)
        rintro e W1 ⟨A, c, rfl, hc, hR, hb⟩
        have hB1 : Below w5.heap.size w5 W1 := hBZ.trans (hb.mono hBZ.size)
        refine hK.out _ _ hB1 (fun hHeld => ?_)
        refine pureS (i := 14) (N := (some 40)) (v := ?_) (a' := ?_) rfl rfl (by kernel_rfl) (fun _ _ _ h => h) (Or.inl ⟨by rfl, ?_⟩) ?_ ?_
        rotate_left
        · intro w'
          go_simp
          with_reducible rfl
        rotate_left
        · simp only [Act.put, List.setIfInBounds_toArray, List.set_cons_zero, List.set_cons_succ, i64_w, i32_w]
          rfl
        refine pureS (i := 15) (N := (some 55)) (v := ?_) (a' := ?_) rfl rfl (by kernel_rfl) (fun _ _ _ h => h) (Or.inl ⟨by rfl, ?_⟩) ?_ ?_
        rotate_left
        · intro w'
          go_simp
          with_reducible rfl
        rotate_left
        · simp only [Act.put, List.setIfInBounds_toArray, List.set_cons_zero, List.set_cons_succ, i64_w, i32_w]
          rfl
        refine pureS (i := 16) (N := (some 56)) (v := ?_) (a' := ?_) rfl rfl (by kernel_rfl) (fun _ _ _ h => h) (Or.inl ⟨by rfl, ?_⟩) ?_ ?_
        rotate_left
        · intro w'
          go_simp
          with_reducible rfl
        rotate_left
        · simp only [Act.put, List.setIfInBounds_toArray, List.set_cons_zero, List.set_cons_succ, i64_w, i32_w]
          rfl
        refine relist_ #[true, true, true, true, true, true, true, true, true, true, true, true, true, true, true, true, true, true, false, false] (by kernel_rfl) ?_ (hrest (w5.heap.size, WA.heap.size, A, c) _ ⟨(hb.block _ (by have := hsA.out; have := hsZ.out; show WA.heap.size < WZ.heap.size; omega)).trans hzZ, hc, ?_, hB1, by have := hsA.out; show w5.heap.size ≤ WA.heap.size; omega⟩)
        · simp only [putAll, Act.put, List.setIfInBounds_toArray, List.set_cons_zero, List.set_cons_succ]
        · exact Kd.R_mono (Kd.R_lower (Kd.R_bound hR) (by have := hsA.out; have := hsZ.out; omega)) (fun k hk => by have := hk.2.1; have := hsZ.out; show k ≠ WA.heap.size; omega)
    · go_simp
      have hBA : Below w5.heap.size w5 (w5.alloc (.cells #[.int .i64 0, .int .i64 0, .int .i64 0, .int .i64 0, .int .i64 0, .int .i64 0, .int .i64 0, .int .i64 0, .int .i64 0, .int .i64 0, .bool false, .slice none 0 0] 30)).drew := ((Below.refl _ _).alloc (Nat.le_refl _) _).drew
      have hzA : (w5.alloc (.cells #[.int .i64 0, .int .i64 0, .int .i64 0, .int .i64 0, .int .i64 0, .int .i64 0, .int .i64 0, .int .i64 0, .int .i64 0, .int .i64 0, .bool false, .slice none 0 0] 30)).drew.heap[w5.heap.size]? = some (.cells #[.int .i64 0, .int .i64 0, .int .i64 0, .int .i64 0, .int .i64 0, .int .i64 0, .int .i64 0, .int .i64 0, .int .i64 0, .int .i64 0, .bool false, .slice none 0 0] 30 (0, 0)) := World.alloc_heap_new w5 _
      have hsA : Aside0 ((w5.alloc (.cells #[.int .i64 0, .int .i64 0, .int .i64 0, .int .i64 0, .int .i64 0, .int .i64 0, .int .i64 0, .int .i64 0, .int .i64 0, .int .i64 0, .bool false, .slice none 0 0] 30)).drew.heap.size = w5.heap.size + 1) := ⟨World.size_alloc w5 _⟩
      refine hK.out _ _ hBA (fun hHeld => ?_)
      clear hK K hHeld
      generalize (w5.alloc (.cells #[.int .i64 0, .int .i64 0, .int .i64 0, .int .i64 0, .int .i64 0, .int .i64 0, .int .i64 0, .int .i64 0, .int .i64 0, .int .i64 0, .bool false, .slice none 0 0] 30)).drew = WA at hBA hzA hsA ⊢
      refine oneS (i := 12) (N := some 53) rfl rfl (by kernel_rfl) (by decide) (fun K hK => ?_)
      go_simp
      have hBZ : Below w5.heap.size w5 (WA.alloc (.cells #[.int .i64 5, .int .i64 2, .int .i64 7, .int .i64 1, .int .i64 3, .int .i64 14, .int .i64 4030454094, .slice D1 5 d1, .int .i64 5, .int .i64 2, .int .i64 7, .int .i64 3, .int .i64 3, .int .i64 14, .int .i64 4030454094, .slice D3 5 d3, .int .i64 5, .int .i64 2, .int .i64 7, .int .i64 1, .int .i64 3, .int .i64 14, .int .i64 4030454094, .slice D1 5 d1, .int .i64 5, .int .i64 2, .int .i64 7, .int .i64 2, .int .i64 3, .int .i64 14, .int .i64 4030454094, .slice D2 5 d2] 49)) := hBA.alloc hBA.size _
      have hgZ : (WA.alloc (.cells #[.int .i64 5, .int .i64 2, .int .i64 7, .int .i64 1, .int .i64 3, .int .i64 14, .int .i64 4030454094, .slice D1 5 d1, .int .i64 5, .int .i64 2, .int .i64 7, .int .i64 3, .int .i64 3, .int .i64 14, .int .i64 4030454094, .slice D3 5 d3, .int .i64 5, .int .i64 2, .int .i64 7, .int .i64 1, .int .i64 3, .int .i64 14, .int .i64 4030454094, .slice D1 5 d1, .int .i64 5, .int .i64 2, .int .i64 7, .int .i64 2, .int .i64 3, .int .i64 14, .int .i64 4030454094, .slice D2 5 d2] 49)).heap[WA.heap.size]? = some (.cells #[.int .i64 5, .int .i64 2, .int .i64 7, .int .i64 1, .int .i64 3, .int .i64 14, .int .i64 4030454094, .slice D1 5 d1, .int .i64 5, .int .i64 2, .int .i64 7, .int .i64 3, .int .i64 3, .int .i64 14, .int .i64 4030454094, .slice D3 5 d3, .int .i64 5, .int .i64 2, .int .i64 7, .int .i64 1, .int .i64 3, .int .i64 14, .int .i64 4030454094, .slice D1 5 d1, .int .i64 5, .int .i64 2, .int .i64 7, .int .i64 2, .int .i64 3, .int .i64 14, .int .i64 4030454094, .slice D2 5 d2] 49 (0, 0)) := World.alloc_heap_new _ _
      have hzZ : (WA.alloc (.cells #[.int .i64 5, .int .i64 2, .int .i64 7, .int .i64 1, .int .i64 3, .int .i64 14, .int .i64 4030454094, .slice D1 5 d1, .int .i64 5, .int .i64 2, .int .i64 7, .int .i64 3, .int .i64 3, .int .i64 14, .int .i64 4030454094, .slice D3 5 d3, .int .i64 5, .int .i64 2, .int .i64 7, .int .i64 1, .int .i64 3, .int .i64 14, .int .i64 4030454094, .slice D1 5 d1, .int .i64 5, .int .i64 2, .int .i64 7, .int .i64 2, .int .i64 3, .int .i64 14, .int .i64 4030454094, .slice D2 5 d2] 49)).heap[w5.heap.size]? = some (.cells #[.int .i64 0, .int .i64 0, .int .i64 0, .int .i64 0, .int .i64 0, .int .i64 0, .int .i64 0, .int .i64 0, .int .i64 0, .int .i64 0, .bool false, .slice none 0 0] 30 (0, 0)) := (((Below.refl WA.heap.size WA).alloc (Nat.le_refl _) (.cells #[.int .i64 5, .int .i64 2, .int .i64 7, .int .i64 1, .int .i64 3, .int .i64 14, .int .i64 4030454094, .slice D1 5 d1, .int .i64 5, .int .i64 2, .int .i64 7, .int .i64 3, .int .i64 3, .int .i64 14, .int .i64 4030454094, .slice D3 5 d3, .int .i64 5, .int .i64 2, .int .i64 7, .int .i64 1, .int .i64 3, .int .i64 14, .int .i64 4030454094, .slice D1 5 d1, .int .i64 5, .int .i64 2, .int .i64 7, .int .i64 2, .int .i64 3, .int .i64 14, .int .i64 4030454094, .slice D2 5 d2] 49)).block _ (by have := hsA.out; omega)).trans hzA
      have hsZ : Aside0 ((WA.alloc (.cells #[.int .i64 5, .int .i64 2, .int .i64 7, .int .i64 1, .int .i64 3, .int .i64 14, .int .i64 4030454094, .slice D1 5 d1, .int .i64 5, .int .i64 2, .int .i64 7, .int .i64 3, .int .i64 3, .int .i64 14, .int .i64 4030454094, .slice D3 5 d3, .int .i64 5, .int .i64 2, .int .i64 7, .int .i64 1, .int .i64 3, .int .i64 14, .int .i64 4030454094, .slice D1 5 d1, .int .i64 5, .int .i64 2, .int .i64 7, .int .i64 2, .int .i64 3, .int .i64 14, .int .i64 4030454094, .slice D2 5 d2] 49)).heap.size = WA.heap.size + 1) := ⟨World.size_alloc WA _⟩
      refine hK.out _ _ hBZ (fun hHeld => ?_)
      clear hK K hHeld
      generalize WA.alloc (.cells #[.int .i64 5, .int .i64 2, .int .i64 7, .int .i64 1, .int .i64 3, .int .i64 14, .int .i64 4030454094, .slice D1 5 d1, .int .i64 5, .int .i64 2, .int .i64 7, .int .i64 3, .int .i64 3, .int .i64 14, .int .i64 4030454094, .slice D3 5 d3, .int .i64 5, .int .i64 2, .int .i64 7, .int .i64 1, .int .i64 3, .int .i64 14, .int .i64 4030454094, .slice D1 5 d1, .int .i64 5, .int .i64 2, .int .i64 7, .int .i64 2, .int .i64 3, .int .i64 14, .int .i64 4030454094, .slice D2 5 d2] 49) = WZ at hBZ hgZ hzZ hsZ ⊢
      refine oneS (i := 13) (N := some 54) rfl rfl (by kernel_rfl) (by decide) (fun K hK => ?_)
      go_simp
      (with_reducible refine (gather4_ex WZ WA.heap.size D1 D2 D3 d1 d2 d3 hd1 hd2 hd3 (Kd.C_below hD1 hBZ) (Kd.C_below hD2 hBZ) (Kd.C_below hD3 hBZ) hgZ).mono ?_)
      rintro e W1 ⟨A, c, rfl, hc, hR, hb⟩
      have hB1 : Below w5.heap.size w5 W1 := hBZ.trans (hb.mono hBZ.size)
      refine hK.out _ _ hB1 (fun hHeld => ?_)
      refine pureS (i := 14) (N := (some 40)) (v := ?_) (a' := ?_) rfl rfl (by kernel_rfl) (fun _ _ _ h => h) (Or.inl ⟨by rfl, ?_⟩) ?_ ?_
      rotate_left
      · intro w'
        go_simp
        with_reducible rfl
      rotate_left
      · simp only [Act.put, List.setIfInBounds_toArray, List.set_cons_zero, List.set_cons_succ, i64_w, i32_w]
        rfl
      refine pureS (i := 15) (N := (some 55)) (v := ?_) (a' := ?_) rfl rfl (by kernel_rfl) (fun _ _ _ h => h) (Or.inl ⟨by rfl, ?_⟩) ?_ ?_
      rotate_left
      · intro w'
        go_simp
        with_reducible rfl
      rotate_left
      · simp only [Act.put, List.setIfInBounds_toArray, List.set_cons_zero, List.set_cons_succ, i64_w, i32_w]
        rfl
      refine pureS (i := 16) (N := (some 56)) (v := ?_) (a' := ?_) rfl rfl (by kernel_rfl) (fun _ _ _ h => h) (Or.inl ⟨by rfl, ?_⟩) ?_ ?_
      rotate_left
      · intro w'
        go_simp
        with_reducible rfl
      rotate_left
      · simp only [Act.put, List.setIfInBounds_toArray, List.set_cons_zero, List.set_cons_succ, i64_w, i32_w]
        rfl
      refine relist_ #[true, true, true, true, true, true, true, true, true, true, true, true, true, true, true, true, true, true, false, false] (by kernel_rfl) ?_ (hrest (WA.heap.size, w5.heap.size, A, c) _ ⟨(hb.block _ (by have := hsA.out; have := hsZ.out; show w5.heap.size < WZ.heap.size; omega)).trans hzZ, hc, ?_, hB1, Nat.le_refl _⟩)
      · simp only [putAll, Act.put, List.setIfInBounds_toArray, List.set_cons_zero, List.set_cons_succ]
      · exact Kd.R_mono (Kd.R_lower (Kd.R_bound hR) (by have := hsA.out; have := hsZ.out; omega)) (fun k hk => by have := hk.2.1; have := hsZ.out; have := hsA.out; show k ≠ w5.heap.size; omega)
  rintro ⟨gs, g, A6, c6⟩ W ⟨hz, hc6, hR6, hBW, hgW⟩
  dsimp only at hz hc6 hR6 hgW ⊢
  refine norm_ (a' := ?_) ?_ ?_
  rotate_left
  · simp only [putAll, Act.put, List.setIfInBounds_toArray, List.set_cons_zero, List.set_cons_succ]
    rfl
  refine lastS (i := 18) (N := none) rfl rfl (by kernel_rfl) (by decide) (fun K hK => ?_)
  refine skip_ (by rfl) rfl (run_store_row 30 (.tmp 5) (.tmp 55) rfl g rfl #[.int .i64 5, .int .i64 2, .int .i64 7, .int .i64 10, .int .i64 100, .int .i64 0, .int .i64 60, .int .i64 (-2), .int .i64 5, .int .i64 3, .bool false, .slice A6 1 c6] rfl 30 #[.int .i64 0, .int .i64 0, .int .i64 0, .int .i64 0, .int .i64 0, .int .i64 0, .int .i64 0, .int .i64 0, .int .i64 0, .int .i64 0, .bool false, .slice none 0 0] hz rfl (by simp [Value.oneCell']) hi30) ?_
  refine hK.out _ _ ?_
  clear hK K
  refine pureS (i := 19) (N := (some 2)) (v := ?_) (a' := ?_) rfl rfl (by kernel_rfl) (fun _ _ _ h => h) (Or.inl ⟨by rfl, ?_⟩) ?_ ?_
  rotate_left
  · intro w'
    go_simp
    with_reducible rfl
  rotate_left
  · simp only [Act.put, List.setIfInBounds_toArray, List.set_cons_zero, List.set_cons_succ, i64_w, i32_w]
    rfl
  refine done_ (by kernel_rfl) ?_
  have HG6 : Aside0 ((W.setRow g #[.int .i64 5, .int .i64 2, .int .i64 7, .int .i64 10, .int .i64 100, .int .i64 0, .int .i64 60, .int .i64 (-2), .int .i64 5, .int .i64 3, .bool false, .slice A6 1 c6]).heap[g]? = some (.cells #[.int .i64 5, .int .i64 2, .int .i64 7, .int .i64 10, .int .i64 100, .int .i64 0, .int .i64 60, .int .i64 (-2), .int .i64 5, .int .i64 3, .bool false, .slice A6 1 c6] 30 (0, 0))) := ⟨setRow_heap _ _ _ _ _ _ hz⟩
  have hB6 : Below w5.heap.size w5 (W.setRow g #[.int .i64 5, .int .i64 2, .int .i64 7, .int .i64 10, .int .i64 100, .int .i64 0, .int .i64 60, .int .i64 (-2), .int .i64 5, .int .i64 3, .bool false, .slice A6 1 c6]) := below_setRow hBW hgW _
  have HR6 := Aside0.mk (Kd.R_step hR6 (w1 := W.setRow g #[.int .i64 5, .int .i64 2, .int .i64 7, .int .i64 10, .int .i64 100, .int .i64 0, .int .i64 60, .int .i64 (-2), .int .i64 5, .int .i64 3, .bool false, .slice A6 1 c6]) (fun k hk _ => setRow_other _ _ _ _ hk))
  have Hc6 := Aside0.mk hc6
  clear hz hc6 hR6 hBW hS0 hHeld
  generalize W.setRow g #[.int .i64 5, .int .i64 2, .int .i64 7, .int .i64 10, .int .i64 100, .int .i64 0, .int .i64 60, .int .i64 (-2), .int .i64 5, .int .i64 3, .bool false, .slice A6 1 c6] = w6 at HG6 hB6 HR6 ⊢
  clear W
  replace x10 := (hB6.cell (block_lt_of_cell x10)).trans x10
  replace x11 := (hB6.cell (block_lt_of_cell x11)).trans x11
  replace x12 := (hB6.cell (block_lt_of_cell x12)).trans x12
  replace x13 := (hB6.cell (block_lt_of_cell x13)).trans x13
  replace x14 := (hB6.cell (block_lt_of_cell x14)).trans x14
  replace x15 := (hB6.cell (block_lt_of_cell x15)).trans x15
  replace x16 := (hB6.cell (block_lt_of_cell x16)).trans x16
  replace x17 := (hB6.cell (block_lt_of_cell x17)).trans x17
  replace x20 := (hB6.cell (block_lt_of_cell x20)).trans x20
  replace x21 := (hB6.cell (block_lt_of_cell x21)).trans x21
  replace x22 := (hB6.cell (block_lt_of_cell x22)).trans x22
  replace x23 := (hB6.cell (block_lt_of_cell x23)).trans x23
  replace x24 := (hB6.cell (block_lt_of_cell x24)).trans x24
  replace x25 := (hB6.cell (block_lt_of_cell x25)).trans x25
  replace x26 := (hB6.cell (block_lt_of_cell x26)).trans x26
  replace x27 := (hB6.cell (block_lt_of_cell x27)).trans x27
  replace x30 := (hB6.cell (block_lt_of_cell x30)).trans x30
  replace x31 := (hB6.cell (block_lt_of_cell x31)).trans x31
  replace x32 := (hB6.cell (block_lt_of_cell x32)).trans x32
  replace x33 := (hB6.cell (block_lt_of_cell x33)).trans x33
  replace x34 := (hB6.cell (block_lt_of_cell x34)).trans x34
  replace x35 := (hB6.cell (block_lt_of_cell x35)).trans x35
  replace x36 := (hB6.cell (block_lt_of_cell x36)).trans x36
  replace x37 := (hB6.cell (block_lt_of_cell x37)).trans x37
  replace hD1 := Kd.C_below hD1 hB6
  replace hD2 := Kd.C_below hD2 hB6
  replace hD3 := Kd.C_below hD3 hB6
  replace g35 := (hB6.cell (block_lt_of_cell g35)).trans g35
  replace hB5 := hB5.trans (hB6.mono hB5.size)
  clear hB6 hgW
  go_wp2_with fail
  have hS0 : (fun w' => Below w6.heap.size w6 w') w6.drew := (Below.refl _ _).drew
  refine start_ (n := 12) (S := (fun w' => Below w6.heap.size w6 w')) (ds := []) (Array.replicate 12 false) hmix rfl rfl hS0 (fun hHeld => ?_)
  refine pureS (i := 0) (N := (some 58)) (v := ?_) (a' := ?_) rfl rfl (by kernel_rfl) (fun _ _ _ h => h) (Or.inl ⟨by rfl, ?_⟩) ?_ ?_
  rotate_left
  · intro w'
    go_simp
    with_reducible rfl
  rotate_left
  · simp only [Act.put, List.setIfInBounds_toArray, List.set_cons_zero, List.set_cons_succ, i64_w, i32_w]
    rfl
  refine pureS (i := 1) (N := (some 59)) (v := ?_) (a' := ?_) rfl rfl (by kernel_rfl) (fun _ _ _ h => h) (Or.inl ⟨by rfl, ?_⟩) ?_ ?_
  rotate_left
  · intro w'
    go_simp
    with_reducible rfl
  rotate_left
  · simp only [Act.put, List.setIfInBounds_toArray, List.set_cons_zero, List.set_cons_succ, i64_w, i32_w]
    rfl
  refine takeS (i := 2) (N := (some 60)) (v := ?_) (a' := ?_) rfl rfl (by kernel_rfl) (fun _ _ _ h => h) (Or.inl ⟨by rfl, ?_⟩) hHeld ?_ ?_
  rotate_left
  · intro w' hs
    have x10_ := (hs.cell (block_lt_of_cell x10)).trans x10
    have x11_ := (hs.cell (block_lt_of_cell x11)).trans x11
    have x12_ := (hs.cell (block_lt_of_cell x12)).trans x12
    have x13_ := (hs.cell (block_lt_of_cell x13)).trans x13
    have x14_ := (hs.cell (block_lt_of_cell x14)).trans x14
    have x15_ := (hs.cell (block_lt_of_cell x15)).trans x15
    have x16_ := (hs.cell (block_lt_of_cell x16)).trans x16
    have x17_ := (hs.cell (block_lt_of_cell x17)).trans x17
    go_simp
    with_reducible rfl
  rotate_left
  · simp only [Act.put, List.setIfInBounds_toArray, List.set_cons_zero, List.set_cons_succ, i64_w, i32_w]
    rfl
  refine pureS (i := 3) (N := (some 61)) (v := ?_) (a' := ?_) rfl rfl (by kernel_rfl) (fun _ _ _ h => h) (Or.inl ⟨by rfl, ?_⟩) ?_ ?_
  rotate_left
  · intro w'
    go_simp
    with_reducible rfl
  rotate_left
  · simp only [Act.put, List.setIfInBounds_toArray, List.set_cons_zero, List.set_cons_succ, i64_w, i32_w]
    rfl
  refine pureS (i := 4) (N := (some 62)) (v := ?_) (a' := ?_) rfl rfl (by kernel_rfl) (fun _ _ _ h => h) (Or.inl ⟨by rfl, ?_⟩) ?_ ?_
  rotate_left
  · intro w'
    go_simp
    with_reducible rfl
  rotate_left
  · simp only [Act.put, List.setIfInBounds_toArray, List.set_cons_zero, List.set_cons_succ, i64_w, i32_w]
    rfl
  refine takeS (i := 5) (N := (some 63)) (v := ?_) (a' := ?_) rfl rfl (by kernel_rfl) (fun _ _ _ h => h) (Or.inl ⟨by rfl, ?_⟩) hHeld ?_ ?_
  rotate_left
  · intro w' hs
    have x30_ := (hs.cell (block_lt_of_cell x30)).trans x30
    have x31_ := (hs.cell (block_lt_of_cell x31)).trans x31
    have x32_ := (hs.cell (block_lt_of_cell x32)).trans x32
    have x33_ := (hs.cell (block_lt_of_cell x33)).trans x33
    have x34_ := (hs.cell (block_lt_of_cell x34)).trans x34
    have x35_ := (hs.cell (block_lt_of_cell x35)).trans x35
    have x36_ := (hs.cell (block_lt_of_cell x36)).trans x36
    have x37_ := (hs.cell (block_lt_of_cell x37)).trans x37
    go_simp
    with_reducible rfl
  rotate_left
  · simp only [Act.put, List.setIfInBounds_toArray, List.set_cons_zero, List.set_cons_succ, i64_w, i32_w]
    rfl
  refine oneS (i := 6) (N := (some 64)) rfl rfl (by kernel_rfl) (by decide) (fun K hK => ?_)
  go_simp
  have hBA : Below w6.heap.size w6 (w6.alloc (.cells #[.int .i64 5, .int .i64 2, .int .i64 7, .int .i64 1, .int .i64 3, .int .i64 14, .int .i64 4030454094, .slice D1 5 d1, .int .i64 5, .int .i64 2, .int .i64 7, .int .i64 3, .int .i64 3, .int .i64 14, .int .i64 4030454094, .slice D3 5 d3] 49)).drew := ((Below.refl _ _).alloc (Nat.le_refl _) _).drew
  have hgA : (w6.alloc (.cells #[.int .i64 5, .int .i64 2, .int .i64 7, .int .i64 1, .int .i64 3, .int .i64 14, .int .i64 4030454094, .slice D1 5 d1, .int .i64 5, .int .i64 2, .int .i64 7, .int .i64 3, .int .i64 3, .int .i64 14, .int .i64 4030454094, .slice D3 5 d3] 49)).drew.heap[w6.heap.size]? = some (.cells #[.int .i64 5, .int .i64 2, .int .i64 7, .int .i64 1, .int .i64 3, .int .i64 14, .int .i64 4030454094, .slice D1 5 d1, .int .i64 5, .int .i64 2, .int .i64 7, .int .i64 3, .int .i64 3, .int .i64 14, .int .i64 4030454094, .slice D3 5 d3] 49 (0, 0)) := World.alloc_heap_new w6 _
  refine hK.out _ _ hBA (fun hHeld => ?_)
  clear hK K hHeld
  generalize (w6.alloc (.cells #[.int .i64 5, .int .i64 2, .int .i64 7, .int .i64 1, .int .i64 3, .int .i64 14, .int .i64 4030454094, .slice D1 5 d1, .int .i64 5, .int .i64 2, .int .i64 7, .int .i64 3, .int .i64 3, .int .i64 14, .int .i64 4030454094, .slice D3 5 d3] 49)).drew = WA at hBA hgA ⊢
  refine oneS (i := 7) (N := (some 65)) rfl rfl (by kernel_rfl) (by decide) (fun K hK => ?_)
  go_simp
  (with_reducible refine (gather2_ex WA w6.heap.size D1 D3 d1 d3 hd1 hd3 (Kd.C_below hD1 hBA) (Kd.C_below hD3 hBA) hgA).mono ?_)
  rintro e w7 ⟨v7, rfl, hb7⟩
  have hB7 : Below w6.heap.size w6 w7 := hBA.trans (hb7.mono hBA.size)
  refine hK.out _ _ hB7 (fun hHeld => ?_)
  clear hK K hb7 hBA hgA
  refine pureS (i := 8) (N := (some 57)) (v := ?_) (a' := ?_) rfl rfl (by kernel_rfl) (fun _ _ _ h => h) (Or.inl ⟨by rfl, ?_⟩) ?_ ?_
  rotate_left
  · intro w'
    go_simp
    with_reducible rfl
  rotate_left
  · simp only [Act.put, List.setIfInBounds_toArray, List.set_cons_zero, List.set_cons_succ, i64_w, i32_w]
    rfl
  refine pureS (i := 9) (N := (some 66)) (v := ?_) (a' := ?_) rfl rfl (by kernel_rfl) (fun _ _ _ h => h) (Or.inl ⟨by rfl, ?_⟩) ?_ ?_
  rotate_left
  · intro w'
    go_simp
    with_reducible rfl
  rotate_left
  · simp only [Act.put, List.setIfInBounds_toArray, List.set_cons_zero, List.set_cons_succ, i64_w, i32_w]
    rfl
  refine pureS (i := 10) (N := (some 67)) (v := ?_) (a' := ?_) rfl rfl (by kernel_rfl) (fun _ _ _ h => h) (Or.inl ⟨by rfl, ?_⟩) ?_ ?_
  rotate_left
  · intro w'
    go_simp
    with_reducible rfl
  rotate_left
  · simp only [Act.put, List.setIfInBounds_toArray, List.set_cons_zero, List.set_cons_succ, i64_w, i32_w]
    rfl
  refine pureS (i := 11) (N := (some 4)) (v := ?_) (a' := ?_) rfl rfl (by kernel_rfl) (fun _ _ _ h => h) (Or.inl ⟨by rfl, ?_⟩) ?_ ?_
  rotate_left
  · intro w'
    go_simp
    with_reducible rfl
  rotate_left
  · simp only [Act.put, List.setIfInBounds_toArray, List.set_cons_zero, List.set_cons_succ, i64_w, i32_w]
    rfl
  refine done_ (by kernel_rfl) ?_
  clear hS0 hHeld
  replace x10 := (hB7.cell (block_lt_of_cell x10)).trans x10
  replace x11 := (hB7.cell (block_lt_of_cell x11)).trans x11
  replace x12 := (hB7.cell (block_lt_of_cell x12)).trans x12
  replace x13 := (hB7.cell (block_lt_of_cell x13)).trans x13
  replace x14 := (hB7.cell (block_lt_of_cell x14)).trans x14
  replace x15 := (hB7.cell (block_lt_of_cell x15)).trans x15
  replace x16 := (hB7.cell (block_lt_of_cell x16)).trans x16
  replace x17 := (hB7.cell (block_lt_of_cell x17)).trans x17
  replace x20 := (hB7.cell (block_lt_of_cell x20)).trans x20
  replace x21 := (hB7.cell (block_lt_of_cell x21)).trans x21
  replace x22 := (hB7.cell (block_lt_of_cell x22)).trans x22
  replace x23 := (hB7.cell (block_lt_of_cell x23)).trans x23
  replace x24 := (hB7.cell (block_lt_of_cell x24)).trans x24
  replace x25 := (hB7.cell (block_lt_of_cell x25)).trans x25
  replace x26 := (hB7.cell (block_lt_of_cell x26)).trans x26
  replace x27 := (hB7.cell (block_lt_of_cell x27)).trans x27
  replace x30 := (hB7.cell (block_lt_of_cell x30)).trans x30
  replace x31 := (hB7.cell (block_lt_of_cell x31)).trans x31
  replace x32 := (hB7.cell (block_lt_of_cell x32)).trans x32
  replace x33 := (hB7.cell (block_lt_of_cell x33)).trans x33
  replace x34 := (hB7.cell (block_lt_of_cell x34)).trans x34
  replace x35 := (hB7.cell (block_lt_of_cell x35)).trans x35
  replace x36 := (hB7.cell (block_lt_of_cell x36)).trans x36
  replace x37 := (hB7.cell (block_lt_of_cell x37)).trans x37
  replace hD1 := Kd.C_below hD1 hB7
  replace hD2 := Kd.C_below hD2 hB7
  replace hD3 := Kd.C_below hD3 hB7
  replace g35 := (hB7.cell (block_lt_of_cell g35)).trans g35
  replace HG6 := Aside0.mk ((hB7.block _ (blk_lt HG6.out)).trans HG6.out)
  replace HR6 := Aside0.mk (Kd.R_below HR6.out hB7)
  replace hB5 := hB5.trans (hB7.mono hB5.size)
  clear hB7
  go_wp2_with fail
  (with_reducible refine (from_ex w7).mono ?_)
  rintro e w8 ⟨A8, c8, rfl, hb8⟩
  replace x10 := (hb8.cell (block_lt_of_cell x10)).trans x10
  replace x11 := (hb8.cell (block_lt_of_cell x11)).trans x11
  replace x12 := (hb8.cell (block_lt_of_cell x12)).trans x12
  replace x13 := (hb8.cell (block_lt_of_cell x13)).trans x13
  replace x14 := (hb8.cell (block_lt_of_cell x14)).trans x14
  replace x15 := (hb8.cell (block_lt_of_cell x15)).trans x15
  replace x16 := (hb8.cell (block_lt_of_cell x16)).trans x16
  replace x17 := (hb8.cell (block_lt_of_cell x17)).trans x17
  replace x20 := (hb8.cell (block_lt_of_cell x20)).trans x20
  replace x21 := (hb8.cell (block_lt_of_cell x21)).trans x21
  replace x22 := (hb8.cell (block_lt_of_cell x22)).trans x22
  replace x23 := (hb8.cell (block_lt_of_cell x23)).trans x23
  replace x24 := (hb8.cell (block_lt_of_cell x24)).trans x24
  replace x25 := (hb8.cell (block_lt_of_cell x25)).trans x25
  replace x26 := (hb8.cell (block_lt_of_cell x26)).trans x26
  replace x27 := (hb8.cell (block_lt_of_cell x27)).trans x27
  replace x30 := (hb8.cell (block_lt_of_cell x30)).trans x30
  replace x31 := (hb8.cell (block_lt_of_cell x31)).trans x31
  replace x32 := (hb8.cell (block_lt_of_cell x32)).trans x32
  replace x33 := (hb8.cell (block_lt_of_cell x33)).trans x33
  replace x34 := (hb8.cell (block_lt_of_cell x34)).trans x34
  replace x35 := (hb8.cell (block_lt_of_cell x35)).trans x35
  replace x36 := (hb8.cell (block_lt_of_cell x36)).trans x36
  replace x37 := (hb8.cell (block_lt_of_cell x37)).trans x37
  replace hD1 := Kd.C_below hD1 hb8
  replace hD2 := Kd.C_below hD2 hb8
  replace hD3 := Kd.C_below hD3 hb8
  replace g35 := (hb8.cell (block_lt_of_cell g35)).trans g35
  replace HG6 := Aside0.mk ((hb8.block _ (blk_lt HG6.out)).trans HG6.out)
  replace HR6 := Aside0.mk (Kd.R_below HR6.out hb8)
  replace hB5 := hB5.trans (hb8.mono hB5.size)
  clear hb8
  dsimp only [vWn, zWn]
  have HZ8 := World.alloc_heap_new w8 (.cells #[.int .i64 0, .int .i64 0, .int .i64 0, .int .i64 0, .int .i64 0, .int .i64 0, .int .i64 0, .int .i64 0, .int .i64 0, .int .i64 0, .bool false, .slice none 0 0] 30)
  have hb9 : Below w8.heap.size w8 ((w8.alloc (.cells #[.int .i64 0, .int .i64 0, .int .i64 0, .int .i64 0, .int .i64 0, .int .i64 0, .int .i64 0, .int .i64 0, .int .i64 0, .int .i64 0, .bool false, .slice none 0 0] 30)).setRow w8.heap.size #[.int .i64 0, .int .i64 0, .int .i64 0, .int .i64 0, .int .i64 0, .int .i64 0, .int .i64 0, .int .i64 0, .int .i64 0, .int .i64 0, .bool false, .slice A8 0 c8]) := below_setRow ((Below.refl _ _).alloc (Nat.le_refl _) _) (Nat.le_refl _) _
  have HB9 := Aside0.mk hb9
  clear hb9
  go_wp2_with (first | (refine wpList_store_row rfl 30 (.tmp 6) (.tmp 71) rfl w8.heap.size rfl #[.int .i64 0, .int .i64 0, .int .i64 0, .int .i64 0, .int .i64 0, .int .i64 0, .int .i64 0, .int .i64 0, .int .i64 0, .int .i64 0, .bool false, .slice A8 0 c8] rfl 30 #[.int .i64 0, .int .i64 0, .int .i64 0, .int .i64 0, .int .i64 0, .int .i64 0, .int .i64 0, .int .i64 0, .int .i64 0, .int .i64 0, .bool false, .slice none 0 0] HZ8 rfl ?h1 hi30 ?_; (case h1 => simp [Value.oneCell'])))
  have hb9 := HB9.out
  clear HB9 HZ8
  generalize (w8.alloc (.cells #[.int .i64 0, .int .i64 0, .int .i64 0, .int .i64 0, .int .i64 0, .int .i64 0, .int .i64 0, .int .i64 0, .int .i64 0, .int .i64 0, .bool false, .slice none 0 0] 30)).setRow w8.heap.size #[.int .i64 0, .int .i64 0, .int .i64 0, .int .i64 0, .int .i64 0, .int .i64 0, .int .i64 0, .int .i64 0, .int .i64 0, .int .i64 0, .bool false, .slice A8 0 c8] = w9 at hb9 ⊢
  replace x10 := (hb9.cell (block_lt_of_cell x10)).trans x10
  replace x11 := (hb9.cell (block_lt_of_cell x11)).trans x11
  replace x12 := (hb9.cell (block_lt_of_cell x12)).trans x12
  replace x13 := (hb9.cell (block_lt_of_cell x13)).trans x13
  replace x14 := (hb9.cell (block_lt_of_cell x14)).trans x14
  replace x15 := (hb9.cell (block_lt_of_cell x15)).trans x15
  replace x16 := (hb9.cell (block_lt_of_cell x16)).trans x16
  replace x17 := (hb9.cell (block_lt_of_cell x17)).trans x17
  replace x20 := (hb9.cell (block_lt_of_cell x20)).trans x20
  replace x21 := (hb9.cell (block_lt_of_cell x21)).trans x21
  replace x22 := (hb9.cell (block_lt_of_cell x22)).trans x22
  replace x23 := (hb9.cell (block_lt_of_cell x23)).trans x23
  replace x24 := (hb9.cell (block_lt_of_cell x24)).trans x24
  replace x25 := (hb9.cell (block_lt_of_cell x25)).trans x25
  replace x26 := (hb9.cell (block_lt_of_cell x26)).trans x26
  replace x27 := (hb9.cell (block_lt_of_cell x27)).trans x27
  replace x30 := (hb9.cell (block_lt_of_cell x30)).trans x30
  replace x31 := (hb9.cell (block_lt_of_cell x31)).trans x31
  replace x32 := (hb9.cell (block_lt_of_cell x32)).trans x32
  replace x33 := (hb9.cell (block_lt_of_cell x33)).trans x33
  replace x34 := (hb9.cell (block_lt_of_cell x34)).trans x34
  replace x35 := (hb9.cell (block_lt_of_cell x35)).trans x35
  replace x36 := (hb9.cell (block_lt_of_cell x36)).trans x36
  replace x37 := (hb9.cell (block_lt_of_cell x37)).trans x37
  replace hD1 := Kd.C_below hD1 hb9
  replace hD2 := Kd.C_below hD2 hb9
  replace hD3 := Kd.C_below hD3 hb9
  replace g35 := (hb9.cell (block_lt_of_cell g35)).trans g35
  replace HG6 := Aside0.mk ((hb9.block _ (blk_lt HG6.out)).trans HG6.out)
  replace HR6 := Aside0.mk (Kd.R_below HR6.out hb9)
  replace hB5 := hB5.trans (hb9.mono hB5.size)
  clear hb9
  have z0 : w9.cell? ⟨g, 0, none⟩ = some (.int .i64 5) := (blk_cell HG6.out 0).trans rfl
  have z1 : w9.cell? ⟨g, 1, none⟩ = some (.int .i64 2) := (blk_cell HG6.out 1).trans rfl
  have z2 : w9.cell? ⟨g, 2, none⟩ = some (.int .i64 7) := (blk_cell HG6.out 2).trans rfl
  have z3 : w9.cell? ⟨g, 3, none⟩ = some (.int .i64 10) := (blk_cell HG6.out 3).trans rfl
  have z4 : w9.cell? ⟨g, 4, none⟩ = some (.int .i64 100) := (blk_cell HG6.out 4).trans rfl
  have z5 : w9.cell? ⟨g, 5, none⟩ = some (.int .i64 0) := (blk_cell HG6.out 5).trans rfl
  have z6 : w9.cell? ⟨g, 6, none⟩ = some (.int .i64 60) := (blk_cell HG6.out 6).trans rfl
  have z7 : w9.cell? ⟨g, 7, none⟩ = some (.int .i64 (-2)) := (blk_cell HG6.out 7).trans rfl
  have z8 : w9.cell? ⟨g, 8, none⟩ = some (.int .i64 5) := (blk_cell HG6.out 8).trans rfl
  have z9 : w9.cell? ⟨g, 9, none⟩ = some (.int .i64 3) := (blk_cell HG6.out 9).trans rfl
  have z10 : w9.cell? ⟨g, 10, none⟩ = some (.bool false) := (blk_cell HG6.out 10).trans rfl
  have z11 : w9.cell? ⟨g, 11, none⟩ = some (.slice A6 1 c6) := (blk_cell HG6.out 11).trans rfl
  have hS0 : (fun w' => Below w9.heap.size w9 w') w9.drew := (Below.refl _ _).drew
  refine start_ (n := 31) (S := (fun w' => Below w9.heap.size w9 w')) (ds := []) (Array.replicate 31 false) hmix rfl rfl hS0 (fun hHeld => ?_)
  refine pureS (i := 0) (N := (some 73)) (v := ?_) (a' := ?_) rfl rfl (by kernel_rfl) (fun _ _ _ h => h) (Or.inl ⟨by rfl, ?_⟩) ?_ ?_
  rotate_left
  · intro w'
    go_simp
    with_reducible rfl
  rotate_left
  · simp only [Act.put, List.setIfInBounds_toArray, List.set_cons_zero, List.set_cons_succ, i64_w, i32_w]
    rfl
  refine pureS (i := 1) (N := (some 74)) (v := ?_) (a' := ?_) rfl rfl (by kernel_rfl) (fun _ _ _ h => h) (Or.inl ⟨by rfl, ?_⟩) ?_ ?_
  rotate_left
  · intro w'
    go_simp
    with_reducible rfl
  rotate_left
  · simp only [Act.put, List.setIfInBounds_toArray, List.set_cons_zero, List.set_cons_succ, i64_w, i32_w]
    rfl
  refine pureS (i := 2) (N := (some 75)) (v := ?_) (a' := ?_) rfl rfl (by kernel_rfl) (fun _ _ _ h => h) (Or.inl ⟨by rfl, ?_⟩) ?_ ?_
  rotate_left
  · intro w'
    go_simp
    with_reducible rfl
  rotate_left
  · simp only [Act.put, List.setIfInBounds_toArray, List.set_cons_zero, List.set_cons_succ, i64_w, i32_w]
    rfl
  refine pureS (i := 3) (N := (some 76)) (v := ?_) (a' := ?_) rfl rfl (by kernel_rfl) (fun _ _ _ h => h) (Or.inl ⟨by rfl, ?_⟩) ?_ ?_
  rotate_left
  · intro w'
    go_simp
    with_reducible rfl
  rotate_left
  · simp only [Act.put, List.setIfInBounds_toArray, List.set_cons_zero, List.set_cons_succ, i64_w, i32_w]
    rfl
  refine pureS (i := 4) (N := (some 77)) (v := ?_) (a' := ?_) rfl rfl (by kernel_rfl) (fun _ _ _ h => h) (Or.inl ⟨by rfl, ?_⟩) ?_ ?_
  rotate_left
  · intro w'
    go_simp
    with_reducible rfl
  rotate_left
  · simp only [Act.put, List.setIfInBounds_toArray, List.set_cons_zero, List.set_cons_succ, i64_w, i32_w]
    rfl
  refine pureS (i := 5) (N := (some 78)) (v := ?_) (a' := ?_) rfl rfl (by kernel_rfl) (fun _ _ _ h => h) (Or.inl ⟨by rfl, ?_⟩) ?_ ?_
  rotate_left
  · intro w'
    go_simp
    with_reducible rfl
  rotate_left
  · simp only [Act.put, List.setIfInBounds_toArray, List.set_cons_zero, List.set_cons_succ, i64_w, i32_w]
    rfl
  refine pureS (i := 6) (N := (some 79)) (v := ?_) (a' := ?_) rfl rfl (by kernel_rfl) (fun _ _ _ h => h) (Or.inl ⟨by rfl, ?_⟩) ?_ ?_
  rotate_left
  · intro w'
    go_simp
    with_reducible rfl
  rotate_left
  · simp only [Act.put, List.setIfInBounds_toArray, List.set_cons_zero, List.set_cons_succ, i64_w, i32_w]
    rfl
  refine pureS (i := 7) (N := (some 80)) (v := ?_) (a' := ?_) rfl rfl (by kernel_rfl) (fun _ _ _ h => h) (Or.inl ⟨by rfl, ?_⟩) ?_ ?_
  rotate_left
  · intro w'
    go_simp
    with_reducible rfl
  rotate_left
  · simp only [Act.put, List.setIfInBounds_toArray, List.set_cons_zero, List.set_cons_succ, i64_w, i32_w]
    rfl
  refine pureS (i := 8) (N := (some 81)) (v := ?_) (a' := ?_) rfl rfl (by kernel_rfl) (fun _ _ _ h => h) (Or.inl ⟨by rfl, ?_⟩) ?_ ?_
  rotate_left
  · intro w'
    go_simp
    with_reducible rfl
  rotate_left
  · simp only [Act.put, List.setIfInBounds_toArray, List.set_cons_zero, List.set_cons_succ, i64_w, i32_w]
    rfl
  refine pureS (i := 9) (N := (some 82)) (v := ?_) (a' := ?_) rfl rfl (by kernel_rfl) (fun _ _ _ h => h) (Or.inl ⟨by rfl, ?_⟩) ?_ ?_
  rotate_left
  · intro w'
    go_simp
    with_reducible rfl
  rotate_left
  · simp only [Act.put, List.setIfInBounds_toArray, List.set_cons_zero, List.set_cons_succ, i64_w, i32_w]
    rfl
  refine pureS (i := 10) (N := (some 83)) (v := ?_) (a' := ?_) rfl rfl (by kernel_rfl) (fun _ _ _ h => h) (Or.inl ⟨by rfl, ?_⟩) ?_ ?_
  rotate_left
  · intro w'
    go_simp
    with_reducible rfl
  rotate_left
  · simp only [Act.put, List.setIfInBounds_toArray, List.set_cons_zero, List.set_cons_succ, i64_w, i32_w]
    rfl
  refine takeS (i := 11) (N := (some 84)) (v := ?_) (a' := ?_) rfl rfl (by kernel_rfl) (fun _ _ _ h => h) (Or.inl ⟨by rfl, ?_⟩) hHeld ?_ ?_
  rotate_left
  · intro w' hs
    have z0_ := (hs.cell (block_lt_of_cell z0)).trans z0
    have z1_ := (hs.cell (block_lt_of_cell z1)).trans z1
    have z2_ := (hs.cell (block_lt_of_cell z2)).trans z2
    have z3_ := (hs.cell (block_lt_of_cell z3)).trans z3
    have z4_ := (hs.cell (block_lt_of_cell z4)).trans z4
    have z5_ := (hs.cell (block_lt_of_cell z5)).trans z5
    have z6_ := (hs.cell (block_lt_of_cell z6)).trans z6
    have z7_ := (hs.cell (block_lt_of_cell z7)).trans z7
    have z8_ := (hs.cell (block_lt_of_cell z8)).trans z8
    have z9_ := (hs.cell (block_lt_of_cell z9)).trans z9
    have z10_ := (hs.cell (block_lt_of_cell z10)).trans z10
    have z11_ := (hs.cell (block_lt_of_cell z11)).trans z11
    go_simp
    with_reducible rfl
  rotate_left
  · simp only [Act.put, List.setIfInBounds_toArray, List.set_cons_zero, List.set_cons_succ, i64_w, i32_w]
    rfl
  refine oneS (i := 12) (N := (some 85)) rfl rfl (by kernel_rfl) (by decide) (fun K hK => ?_)
  go_simp
  (with_reducible refine (small_calls _).mono ?_)
  rintro e ws ⟨As, cs, rfl, hcs, hCs, hbs⟩
  have hBs : Below w9.heap.size w9 ws := hS0.trans (hbs.mono hS0.size)
  dsimp only [vWn, smallW]
  refine hK.out _ _ hBs (fun hHeld => ?_)
  clear hK K hbs
  refine oneS (i := 13) (N := (some 86)) rfl rfl (by kernel_rfl) (by decide) (fun K hK => ?_)
  have hcl := same_ex A6 c6 As cs ws Hc6.out (Kd.R_reads' (Kd.R_below HR6.out hBs)).2.2 hcs hCs
  go_simp
  (with_reducible refine hcl.mono ?_)
  clear hcl
  rintro e wt ⟨rfl, hbt⟩
  have hBt : Below w9.heap.size w9 wt := hBs.trans (hbt.mono hBs.size)
  refine hK.out _ _ hBt (fun hHeld => ?_)
  clear hK K hbt hBs hCs hcs
  refine pureS (i := 14) (N := (some 87)) (v := ?_) (a' := ?_) rfl rfl (by kernel_rfl) (fun _ _ _ h => h) (Or.inl ⟨by rfl, ?_⟩) ?_ ?_
  rotate_left
  · intro w'
    go_simp
    with_reducible rfl
  rotate_left
  · simp only [Act.put, List.setIfInBounds_toArray, List.set_cons_zero, List.set_cons_succ, i64_w, i32_w]
    rfl
  refine pureS (i := 15) (N := (some 88)) (v := ?_) (a' := ?_) rfl rfl (by kernel_rfl) (fun _ _ _ h => h) (Or.inl ⟨by rfl, ?_⟩) ?_ ?_
  rotate_left
  · intro w'
    go_simp
    with_reducible rfl
  rotate_left
  · simp only [Act.put, List.setIfInBounds_toArray, List.set_cons_zero, List.set_cons_succ, i64_w, i32_w]
    rfl
  refine pureS (i := 16) (N := (some 89)) (v := ?_) (a' := ?_) rfl rfl (by kernel_rfl) (fun _ _ _ h => h) (Or.inl ⟨by rfl, ?_⟩) ?_ ?_
  rotate_left
  · intro w'
    go_simp
    with_reducible rfl
  rotate_left
  · simp only [Act.put, List.setIfInBounds_toArray, List.set_cons_zero, List.set_cons_succ, i64_w, i32_w]
    rfl
  refine pureS (i := 17) (N := (some 90)) (v := ?_) (a' := ?_) rfl rfl (by kernel_rfl) (fun _ _ _ h => h) (Or.inl ⟨by rfl, ?_⟩) ?_ ?_
  rotate_left
  · intro w'
    go_simp
    with_reducible rfl
  rotate_left
  · simp only [Act.put, List.setIfInBounds_toArray, List.set_cons_zero, List.set_cons_succ, i64_w, i32_w]
    rfl
  refine pureS (i := 18) (N := (some 91)) (v := ?_) (a' := ?_) rfl rfl (by kernel_rfl) (fun _ _ _ h => h) (Or.inl ⟨by rfl, ?_⟩) ?_ ?_
  rotate_left
  · intro w'
    go_simp
    with_reducible rfl
  rotate_left
  · simp only [Act.put, List.setIfInBounds_toArray, List.set_cons_zero, List.set_cons_succ, i64_w, i32_w]
    rfl
  refine takeS (i := 19) (N := (some 92)) (v := ?_) (a' := ?_) rfl rfl (by kernel_rfl) (fun _ _ _ h => h) (Or.inl ⟨by rfl, ?_⟩) hHeld ?_ ?_
  rotate_left
  · intro w' hs
    have g35_ := (hs.cell (block_lt_of_cell g35)).trans g35
    go_simp
    with_reducible rfl
  rotate_left
  · simp only [Act.put, List.setIfInBounds_toArray, List.set_cons_zero, List.set_cons_succ, i64_w, i32_w]
    rfl
  refine pureS (i := 20) (N := (some 93)) (v := ?_) (a' := ?_) rfl rfl (by kernel_rfl) (fun _ _ _ h => h) (Or.inl ⟨by rfl, ?_⟩) ?_ ?_
  rotate_left
  · intro w'
    go_simp
    with_reducible rfl
  rotate_left
  · simp only [Act.put, List.setIfInBounds_toArray, List.set_cons_zero, List.set_cons_succ, i64_w, i32_w]
    rfl
  refine pureS (i := 21) (N := (some 94)) (v := ?_) (a' := ?_) rfl rfl (by kernel_rfl) (fun _ _ _ h => h) (Or.inl ⟨by rfl, ?_⟩) ?_ ?_
  rotate_left
  · intro w'
    go_simp
    with_reducible rfl
  rotate_left
  · simp only [Act.put, List.setIfInBounds_toArray, List.set_cons_zero, List.set_cons_succ, i64_w, i32_w]
    rfl
  refine pureS (i := 22) (N := (some 95)) (v := ?_) (a' := ?_) rfl rfl (by kernel_rfl) (fun _ _ _ h => h) (Or.inl ⟨by rfl, ?_⟩) ?_ ?_
  rotate_left
  · intro w'
    go_simp
    with_reducible rfl
  rotate_left
  · simp only [Act.put, List.setIfInBounds_toArray, List.set_cons_zero, List.set_cons_succ, i64_w, i32_w]
    rfl
  refine pureS (i := 23) (N := (some 96)) (v := ?_) (a' := ?_) rfl rfl (by kernel_rfl) (fun _ _ _ h => h) (Or.inl ⟨by rfl, ?_⟩) ?_ ?_
  rotate_left
  · intro w'
    go_simp
    with_reducible rfl
  rotate_left
  · simp only [Act.put, List.setIfInBounds_toArray, List.set_cons_zero, List.set_cons_succ, i64_w, i32_w]
    rfl
  refine pureS (i := 24) (N := (some 97)) (v := ?_) (a' := ?_) rfl rfl (by kernel_rfl) (fun _ _ _ h => h) (Or.inl ⟨by rfl, ?_⟩) ?_ ?_
  rotate_left
  · intro w'
    go_simp
    with_reducible rfl
  rotate_left
  · simp only [Act.put, List.setIfInBounds_toArray, List.set_cons_zero, List.set_cons_succ, i64_w, i32_w]
    rfl
  refine pureS (i := 25) (N := (some 98)) (v := ?_) (a' := ?_) rfl rfl (by kernel_rfl) (fun _ _ _ h => h) (Or.inl ⟨by rfl, ?_⟩) ?_ ?_
  rotate_left
  · intro w'
    go_simp
    with_reducible rfl
  rotate_left
  · simp only [Act.put, List.setIfInBounds_toArray, List.set_cons_zero, List.set_cons_succ, i64_w, i32_w]
    rfl
  refine takeS (i := 26) (N := (some 99)) (v := ?_) (a' := ?_) rfl rfl (by kernel_rfl) (fun _ _ _ h => h) (Or.inl ⟨by rfl, ?_⟩) hHeld ?_ ?_
  rotate_left
  · intro w' hs
    have x27_ := (hs.cell (block_lt_of_cell x27)).trans x27
    go_simp
    with_reducible rfl
  rotate_left
  · simp only [Act.put, List.setIfInBounds_toArray, List.set_cons_zero, List.set_cons_succ, i64_w, i32_w]
    rfl
  refine oneS (i := 27) (N := (some 100)) rfl rfl (by kernel_rfl) (by decide) (fun K hK => ?_)
  go_simp
  have hBu : Below w9.heap.size w9 (wt.alloc (.cells #[.int .u8 6, .int .u8 0, .int .u8 194, .int .u8 1, .int .u8 0] 5)) := hBt.alloc hBt.size _
  have hl5 := lit5_ex D2 d2 wt (Kd.C_below hD2 hBt) hd2
  refine hK.out _ _ hBu (fun hHeld => ?_)
  clear hK K
  refine oneS (i := 28) (N := (some 101)) rfl rfl (by kernel_rfl) (by decide) (fun K hK => ?_)
  go_simp
  (with_reducible refine hl5.mono ?_)
  rintro e wv ⟨rfl, hbv⟩
  have hB9 : Below w9.heap.size w9 wv := hBt.trans (hbv.mono hBt.size)
  refine hK.out _ _ hB9 (fun hHeld => ?_)
  clear hK K hbv hl5 hBt hBu
  refine pureS (i := 29) (N := (some 102)) (v := ?_) (a' := ?_) rfl rfl (by kernel_rfl) (fun _ _ _ h => h) (Or.inl ⟨by rfl, ?_⟩) ?_ ?_
  rotate_left
  · intro w'
    go_simp
    with_reducible rfl
  rotate_left
  · simp only [Act.put, List.setIfInBounds_toArray, List.set_cons_zero, List.set_cons_succ, i64_w, i32_w]
    rfl
  refine pureS (i := 30) (N := (some 8)) (v := ?_) (a' := ?_) rfl rfl (by kernel_rfl) (fun _ _ _ h => h) (Or.inl ⟨by rfl, ?_⟩) ?_ ?_
  rotate_left
  · intro w'
    go_simp
    with_reducible rfl
  rotate_left
  · simp only [Act.put, List.setIfInBounds_toArray, List.set_cons_zero, List.set_cons_succ, i64_w, i32_w]
    rfl
  refine done_ (by kernel_rfl) ?_
  clear hS0 hHeld
  clear z0 z1 z2 z3 z4 z5 z6 z7 z8 z9 z10 z11
  replace x10 := (hB9.cell (block_lt_of_cell x10)).trans x10
  replace x11 := (hB9.cell (block_lt_of_cell x11)).trans x11
  replace x12 := (hB9.cell (block_lt_of_cell x12)).trans x12
  replace x13 := (hB9.cell (block_lt_of_cell x13)).trans x13
  replace x14 := (hB9.cell (block_lt_of_cell x14)).trans x14
  replace x15 := (hB9.cell (block_lt_of_cell x15)).trans x15
  replace x16 := (hB9.cell (block_lt_of_cell x16)).trans x16
  replace x17 := (hB9.cell (block_lt_of_cell x17)).trans x17
  replace x20 := (hB9.cell (block_lt_of_cell x20)).trans x20
  replace x21 := (hB9.cell (block_lt_of_cell x21)).trans x21
  replace x22 := (hB9.cell (block_lt_of_cell x22)).trans x22
  replace x23 := (hB9.cell (block_lt_of_cell x23)).trans x23
  replace x24 := (hB9.cell (block_lt_of_cell x24)).trans x24
  replace x25 := (hB9.cell (block_lt_of_cell x25)).trans x25
  replace x26 := (hB9.cell (block_lt_of_cell x26)).trans x26
  replace x27 := (hB9.cell (block_lt_of_cell x27)).trans x27
  replace x30 := (hB9.cell (block_lt_of_cell x30)).trans x30
  replace x31 := (hB9.cell (block_lt_of_cell x31)).trans x31
  replace x32 := (hB9.cell (block_lt_of_cell x32)).trans x32
  replace x33 := (hB9.cell (block_lt_of_cell x33)).trans x33
  replace x34 := (hB9.cell (block_lt_of_cell x34)).trans x34
  replace x35 := (hB9.cell (block_lt_of_cell x35)).trans x35
  replace x36 := (hB9.cell (block_lt_of_cell x36)).trans x36
  replace x37 := (hB9.cell (block_lt_of_cell x37)).trans x37
  replace hD1 := Kd.C_below hD1 hB9
  replace hD2 := Kd.C_below hD2 hB9
  replace hD3 := Kd.C_below hD3 hB9
  replace g35 := (hB9.cell (block_lt_of_cell g35)).trans g35
  replace HG6 := Aside0.mk ((hB9.block _ (blk_lt HG6.out)).trans HG6.out)
  replace HR6 := Aside0.mk (Kd.R_below HR6.out hB9)
  replace hB5 := hB5.trans (hB9.mono hB5.size)
  clear hB9
  go_wp2_with fail
  (with_reducible refine (frame_ex D3 d3 wv hd3 hD3).mono ?_)
  rintro e wa ⟨A9, c9, rfl, hc9, hC9, hba⟩
  replace x10 := (hba.cell (block_lt_of_cell x10)).trans x10
  replace x11 := (hba.cell (block_lt_of_cell x11)).trans x11
  replace x12 := (hba.cell (block_lt_of_cell x12)).trans x12
  replace x13 := (hba.cell (block_lt_of_cell x13)).trans x13
  replace x14 := (hba.cell (block_lt_of_cell x14)).trans x14
  replace x15 := (hba.cell (block_lt_of_cell x15)).trans x15
  replace x16 := (hba.cell (block_lt_of_cell x16)).trans x16
  replace x17 := (hba.cell (block_lt_of_cell x17)).trans x17
  replace x20 := (hba.cell (block_lt_of_cell x20)).trans x20
  replace x21 := (hba.cell (block_lt_of_cell x21)).trans x21
  replace x22 := (hba.cell (block_lt_of_cell x22)).trans x22
  replace x23 := (hba.cell (block_lt_of_cell x23)).trans x23
  replace x24 := (hba.cell (block_lt_of_cell x24)).trans x24
  replace x25 := (hba.cell (block_lt_of_cell x25)).trans x25
  replace x26 := (hba.cell (block_lt_of_cell x26)).trans x26
  replace x27 := (hba.cell (block_lt_of_cell x27)).trans x27
  replace x30 := (hba.cell (block_lt_of_cell x30)).trans x30
  replace x31 := (hba.cell (block_lt_of_cell x31)).trans x31
  replace x32 := (hba.cell (block_lt_of_cell x32)).trans x32
  replace x33 := (hba.cell (block_lt_of_cell x33)).trans x33
  replace x34 := (hba.cell (block_lt_of_cell x34)).trans x34
  replace x35 := (hba.cell (block_lt_of_cell x35)).trans x35
  replace x36 := (hba.cell (block_lt_of_cell x36)).trans x36
  replace x37 := (hba.cell (block_lt_of_cell x37)).trans x37
  replace hD1 := Kd.C_below hD1 hba
  replace hD2 := Kd.C_below hD2 hba
  replace hD3 := Kd.C_below hD3 hba
  replace g35 := (hba.cell (block_lt_of_cell g35)).trans g35
  replace HG6 := Aside0.mk ((hba.block _ (blk_lt HG6.out)).trans HG6.out)
  replace HR6 := Aside0.mk (Kd.R_below HR6.out hba)
  replace hB5 := hB5.trans (hba.mono hB5.size)
  clear hba
  go_wp2_with fail
  (with_reducible refine (read_ex A9 c9 wa hc9 hC9).mono ?_)
  rintro e wb ⟨A10, c10, rfl, hc10, hR10, hbb⟩
  replace x10 := (hbb.cell (block_lt_of_cell x10)).trans x10
  replace x11 := (hbb.cell (block_lt_of_cell x11)).trans x11
  replace x12 := (hbb.cell (block_lt_of_cell x12)).trans x12
  replace x13 := (hbb.cell (block_lt_of_cell x13)).trans x13
  replace x14 := (hbb.cell (block_lt_of_cell x14)).trans x14
  replace x15 := (hbb.cell (block_lt_of_cell x15)).trans x15
  replace x16 := (hbb.cell (block_lt_of_cell x16)).trans x16
  replace x17 := (hbb.cell (block_lt_of_cell x17)).trans x17
  replace x20 := (hbb.cell (block_lt_of_cell x20)).trans x20
  replace x21 := (hbb.cell (block_lt_of_cell x21)).trans x21
  replace x22 := (hbb.cell (block_lt_of_cell x22)).trans x22
  replace x23 := (hbb.cell (block_lt_of_cell x23)).trans x23
  replace x24 := (hbb.cell (block_lt_of_cell x24)).trans x24
  replace x25 := (hbb.cell (block_lt_of_cell x25)).trans x25
  replace x26 := (hbb.cell (block_lt_of_cell x26)).trans x26
  replace x27 := (hbb.cell (block_lt_of_cell x27)).trans x27
  replace x30 := (hbb.cell (block_lt_of_cell x30)).trans x30
  replace x31 := (hbb.cell (block_lt_of_cell x31)).trans x31
  replace x32 := (hbb.cell (block_lt_of_cell x32)).trans x32
  replace x33 := (hbb.cell (block_lt_of_cell x33)).trans x33
  replace x34 := (hbb.cell (block_lt_of_cell x34)).trans x34
  replace x35 := (hbb.cell (block_lt_of_cell x35)).trans x35
  replace x36 := (hbb.cell (block_lt_of_cell x36)).trans x36
  replace x37 := (hbb.cell (block_lt_of_cell x37)).trans x37
  replace hD1 := Kd.C_below hD1 hbb
  replace hD2 := Kd.C_below hD2 hbb
  replace hD3 := Kd.C_below hD3 hbb
  replace g35 := (hbb.cell (block_lt_of_cell g35)).trans g35
  replace HG6 := Aside0.mk ((hbb.block _ (blk_lt HG6.out)).trans HG6.out)
  replace HR6 := Aside0.mk (Kd.R_below HR6.out hbb)
  replace hB5 := hB5.trans (hbb.mono hB5.size)
  clear hbb
  clear hC9 hc9
  have HZ49 := World.alloc_heap_new wb (.cells #[.int .i64 0, .int .i64 0, .int .i64 0, .int .i64 0, .int .i64 0, .int .i64 0, .int .i64 0, .slice none 0 0] 49)
  have HBc := Aside0.mk (below_setRow ((Below.refl wb.heap.size wb).alloc (Nat.le_refl _) (.cells #[.int .i64 0, .int .i64 0, .int .i64 0, .int .i64 0, .int .i64 0, .int .i64 0, .int .i64 0, .slice none 0 0] 49)) (Nat.le_refl _) #[.int .i64 5, .int .i64 2, .int .i64 7, .int .i64 3, .int .i64 3, .int .i64 14, .int .i64 4030454094, .slice A10 5 c10])
  have HH : Aside0 (((wb.alloc (.cells #[.int .i64 0, .int .i64 0, .int .i64 0, .int .i64 0, .int .i64 0, .int .i64 0, .int .i64 0, .slice none 0 0] 49)).setRow wb.heap.size #[.int .i64 5, .int .i64 2, .int .i64 7, .int .i64 3, .int .i64 3, .int .i64 14, .int .i64 4030454094, .slice A10 5 c10]).heap[wb.heap.size]? = some (.cells #[.int .i64 5, .int .i64 2, .int .i64 7, .int .i64 3, .int .i64 3, .int .i64 14, .int .i64 4030454094, .slice A10 5 c10] 49 (0, 0))) := ⟨setRow_heap _ _ _ _ _ _ HZ49⟩
  have HR10 := Aside0.mk (Kd.R_below hR10 HBc.out)
  clear hR10
  go_wp2_with (first | (refine wpList_store_row rfl 49 (.tmp 11) (.tmp 113) rfl wb.heap.size rfl #[.int .i64 5, .int .i64 2, .int .i64 7, .int .i64 3, .int .i64 3, .int .i64 14, .int .i64 4030454094, .slice A10 5 c10] rfl 49 #[.int .i64 0, .int .i64 0, .int .i64 0, .int .i64 0, .int .i64 0, .int .i64 0, .int .i64 0, .slice none 0 0] HZ49 rfl ?h1 hi49 ?_; (case h1 => simp [Value.oneCell'])))
  clear HZ49
  generalize hqb : wb.heap.size = gb at HBc HH HR10 ⊢
  generalize (wb.alloc (.cells #[.int .i64 0, .int .i64 0, .int .i64 0, .int .i64 0, .int .i64 0, .int .i64 0, .int .i64 0, .slice none 0 0] 49)).setRow gb #[.int .i64 5, .int .i64 2, .int .i64 7, .int .i64 3, .int .i64 3, .int .i64 14, .int .i64 4030454094, .slice A10 5 c10] = wc at HBc HH HR10 ⊢
  subst hqb
  have hbc := HBc.out
  clear HBc
  replace x10 := (hbc.cell (block_lt_of_cell x10)).trans x10
  replace x11 := (hbc.cell (block_lt_of_cell x11)).trans x11
  replace x12 := (hbc.cell (block_lt_of_cell x12)).trans x12
  replace x13 := (hbc.cell (block_lt_of_cell x13)).trans x13
  replace x14 := (hbc.cell (block_lt_of_cell x14)).trans x14
  replace x15 := (hbc.cell (block_lt_of_cell x15)).trans x15
  replace x16 := (hbc.cell (block_lt_of_cell x16)).trans x16
  replace x17 := (hbc.cell (block_lt_of_cell x17)).trans x17
  replace x20 := (hbc.cell (block_lt_of_cell x20)).trans x20
  replace x21 := (hbc.cell (block_lt_of_cell x21)).trans x21
  replace x22 := (hbc.cell (block_lt_of_cell x22)).trans x22
  replace x23 := (hbc.cell (block_lt_of_cell x23)).trans x23
  replace x24 := (hbc.cell (block_lt_of_cell x24)).trans x24
  replace x25 := (hbc.cell (block_lt_of_cell x25)).trans x25
  replace x26 := (hbc.cell (block_lt_of_cell x26)).trans x26
  replace x27 := (hbc.cell (block_lt_of_cell x27)).trans x27
  replace x30 := (hbc.cell (block_lt_of_cell x30)).trans x30
  replace x31 := (hbc.cell (block_lt_of_cell x31)).trans x31
  replace x32 := (hbc.cell (block_lt_of_cell x32)).trans x32
  replace x33 := (hbc.cell (block_lt_of_cell x33)).trans x33
  replace x34 := (hbc.cell (block_lt_of_cell x34)).trans x34
  replace x35 := (hbc.cell (block_lt_of_cell x35)).trans x35
  replace x36 := (hbc.cell (block_lt_of_cell x36)).trans x36
  replace x37 := (hbc.cell (block_lt_of_cell x37)).trans x37
  replace hD1 := Kd.C_below hD1 hbc
  replace hD2 := Kd.C_below hD2 hbc
  replace hD3 := Kd.C_below hD3 hbc
  replace g35 := (hbc.cell (block_lt_of_cell g35)).trans g35
  replace HG6 := Aside0.mk ((hbc.block _ (blk_lt HG6.out)).trans HG6.out)
  replace HR6 := Aside0.mk (Kd.R_below HR6.out hbc)
  replace hB5 := hB5.trans (hbc.mono hB5.size)
  clear hbc
  have z0 : wc.cell? ⟨g, 0, none⟩ = some (.int .i64 5) := (blk_cell HG6.out 0).trans rfl
  have z1 : wc.cell? ⟨g, 1, none⟩ = some (.int .i64 2) := (blk_cell HG6.out 1).trans rfl
  have z2 : wc.cell? ⟨g, 2, none⟩ = some (.int .i64 7) := (blk_cell HG6.out 2).trans rfl
  have z3 : wc.cell? ⟨g, 3, none⟩ = some (.int .i64 10) := (blk_cell HG6.out 3).trans rfl
  have z4 : wc.cell? ⟨g, 4, none⟩ = some (.int .i64 100) := (blk_cell HG6.out 4).trans rfl
  have z5 : wc.cell? ⟨g, 5, none⟩ = some (.int .i64 0) := (blk_cell HG6.out 5).trans rfl
  have z6 : wc.cell? ⟨g, 6, none⟩ = some (.int .i64 60) := (blk_cell HG6.out 6).trans rfl
  have z7 : wc.cell? ⟨g, 7, none⟩ = some (.int .i64 (-2)) := (blk_cell HG6.out 7).trans rfl
  have z8 : wc.cell? ⟨g, 8, none⟩ = some (.int .i64 5) := (blk_cell HG6.out 8).trans rfl
  have z9 : wc.cell? ⟨g, 9, none⟩ = some (.int .i64 3) := (blk_cell HG6.out 9).trans rfl
  have z10 : wc.cell? ⟨g, 10, none⟩ = some (.bool false) := (blk_cell HG6.out 10).trans rfl
  have z11 : wc.cell? ⟨g, 11, none⟩ = some (.slice A6 1 c6) := (blk_cell HG6.out 11).trans rfl
  have y0 : wc.cell? ⟨wb.heap.size, 0, none⟩ = some (.int .i64 5) := (blk_cell HH.out 0).trans rfl
  have y1 : wc.cell? ⟨wb.heap.size, 1, none⟩ = some (.int .i64 2) := (blk_cell HH.out 1).trans rfl
  have y2 : wc.cell? ⟨wb.heap.size, 2, none⟩ = some (.int .i64 7) := (blk_cell HH.out 2).trans rfl
  have y3 : wc.cell? ⟨wb.heap.size, 3, none⟩ = some (.int .i64 3) := (blk_cell HH.out 3).trans rfl
  have y4 : wc.cell? ⟨wb.heap.size, 4, none⟩ = some (.int .i64 3) := (blk_cell HH.out 4).trans rfl
  have y5 : wc.cell? ⟨wb.heap.size, 5, none⟩ = some (.int .i64 14) := (blk_cell HH.out 5).trans rfl
  have y6 : wc.cell? ⟨wb.heap.size, 6, none⟩ = some (.int .i64 4030454094) := (blk_cell HH.out 6).trans rfl
  have y7 : wc.cell? ⟨wb.heap.size, 7, none⟩ = some (.slice A10 5 c10) := (blk_cell HH.out 7).trans rfl
  have hS0 : (fun w' => Below wc.heap.size wc w') wc.drew := (Below.refl _ _).drew
  refine start_ (n := 30) (S := (fun w' => Below wc.heap.size wc w')) (ds := []) (Array.replicate 30 false) hmix rfl rfl hS0 (fun hHeld => ?_)
  refine pureS (i := 0) (N := (some 115)) (v := ?_) (a' := ?_) rfl rfl (by kernel_rfl) (fun _ _ _ h => h) (Or.inl ⟨by rfl, ?_⟩) ?_ ?_
  rotate_left
  · intro w'
    go_simp
    with_reducible rfl
  rotate_left
  · simp only [Act.put, List.setIfInBounds_toArray, List.set_cons_zero, List.set_cons_succ, i64_w, i32_w]
    rfl
  refine pureS (i := 1) (N := (some 116)) (v := ?_) (a' := ?_) rfl rfl (by kernel_rfl) (fun _ _ _ h => h) (Or.inl ⟨by rfl, ?_⟩) ?_ ?_
  rotate_left
  · intro w'
    go_simp
    with_reducible rfl
  rotate_left
  · simp only [Act.put, List.setIfInBounds_toArray, List.set_cons_zero, List.set_cons_succ, i64_w, i32_w]
    rfl
  refine pureS (i := 2) (N := (some 117)) (v := ?_) (a' := ?_) rfl rfl (by kernel_rfl) (fun _ _ _ h => h) (Or.inl ⟨by rfl, ?_⟩) ?_ ?_
  rotate_left
  · intro w'
    go_simp
    with_reducible rfl
  rotate_left
  · simp only [Act.put, List.setIfInBounds_toArray, List.set_cons_zero, List.set_cons_succ, i64_w, i32_w]
    rfl
  refine pureS (i := 3) (N := (some 118)) (v := ?_) (a' := ?_) rfl rfl (by kernel_rfl) (fun _ _ _ h => h) (Or.inl ⟨by rfl, ?_⟩) ?_ ?_
  rotate_left
  · intro w'
    go_simp
    with_reducible rfl
  rotate_left
  · simp only [Act.put, List.setIfInBounds_toArray, List.set_cons_zero, List.set_cons_succ, i64_w, i32_w]
    rfl
  refine pureS (i := 4) (N := (some 119)) (v := ?_) (a' := ?_) rfl rfl (by kernel_rfl) (fun _ _ _ h => h) (Or.inl ⟨by rfl, ?_⟩) ?_ ?_
  rotate_left
  · intro w'
    go_simp
    with_reducible rfl
  rotate_left
  · simp only [Act.put, List.setIfInBounds_toArray, List.set_cons_zero, List.set_cons_succ, i64_w, i32_w]
    rfl
  refine pureS (i := 5) (N := (some 120)) (v := ?_) (a' := ?_) rfl rfl (by kernel_rfl) (fun _ _ _ h => h) (Or.inl ⟨by rfl, ?_⟩) ?_ ?_
  rotate_left
  · intro w'
    go_simp
    with_reducible rfl
  rotate_left
  · simp only [Act.put, List.setIfInBounds_toArray, List.set_cons_zero, List.set_cons_succ, i64_w, i32_w]
    rfl
  refine pureS (i := 6) (N := (some 121)) (v := ?_) (a' := ?_) rfl rfl (by kernel_rfl) (fun _ _ _ h => h) (Or.inl ⟨by rfl, ?_⟩) ?_ ?_
  rotate_left
  · intro w'
    go_simp
    with_reducible rfl
  rotate_left
  · simp only [Act.put, List.setIfInBounds_toArray, List.set_cons_zero, List.set_cons_succ, i64_w, i32_w]
    rfl
  refine pureS (i := 7) (N := (some 122)) (v := ?_) (a' := ?_) rfl rfl (by kernel_rfl) (fun _ _ _ h => h) (Or.inl ⟨by rfl, ?_⟩) ?_ ?_
  rotate_left
  · intro w'
    go_simp
    with_reducible rfl
  rotate_left
  · simp only [Act.put, List.setIfInBounds_toArray, List.set_cons_zero, List.set_cons_succ, i64_w, i32_w]
    rfl
  refine pureS (i := 8) (N := (some 123)) (v := ?_) (a' := ?_) rfl rfl (by kernel_rfl) (fun _ _ _ h => h) (Or.inl ⟨by rfl, ?_⟩) ?_ ?_
  rotate_left
  · intro w'
    go_simp
    with_reducible rfl
  rotate_left
  · simp only [Act.put, List.setIfInBounds_toArray, List.set_cons_zero, List.set_cons_succ, i64_w, i32_w]
    rfl
  refine pureS (i := 9) (N := (some 124)) (v := ?_) (a' := ?_) rfl rfl (by kernel_rfl) (fun _ _ _ h => h) (Or.inl ⟨by rfl, ?_⟩) ?_ ?_
  rotate_left
  · intro w'
    go_simp
    with_reducible rfl
  rotate_left
  · simp only [Act.put, List.setIfInBounds_toArray, List.set_cons_zero, List.set_cons_succ, i64_w, i32_w]
    rfl
  refine takeS (i := 10) (N := (some 125)) (v := ?_) (a' := ?_) rfl rfl (by kernel_rfl) (fun _ _ _ h => h) (Or.inl ⟨by rfl, ?_⟩) hHeld ?_ ?_
  rotate_left
  · intro w' hs
    have y0_ := (hs.cell (block_lt_of_cell y0)).trans y0
    have y1_ := (hs.cell (block_lt_of_cell y1)).trans y1
    have y2_ := (hs.cell (block_lt_of_cell y2)).trans y2
    have y3_ := (hs.cell (block_lt_of_cell y3)).trans y3
    have y4_ := (hs.cell (block_lt_of_cell y4)).trans y4
    have y5_ := (hs.cell (block_lt_of_cell y5)).trans y5
    have y6_ := (hs.cell (block_lt_of_cell y6)).trans y6
    have y7_ := (hs.cell (block_lt_of_cell y7)).trans y7
    go_simp
    with_reducible rfl
  rotate_left
  · simp only [Act.put, List.setIfInBounds_toArray, List.set_cons_zero, List.set_cons_succ, i64_w, i32_w]
    rfl
  refine pureS (i := 11) (N := (some 126)) (v := ?_) (a' := ?_) rfl rfl (by kernel_rfl) (fun _ _ _ h => h) (Or.inl ⟨by rfl, ?_⟩) ?_ ?_
  rotate_left
  · intro w'
    go_simp
    with_reducible rfl
  rotate_left
  · simp only [Act.put, List.setIfInBounds_toArray, List.set_cons_zero, List.set_cons_succ, i64_w, i32_w]
    rfl
  refine pureS (i := 12) (N := (some 127)) (v := ?_) (a' := ?_) rfl rfl (by kernel_rfl) (fun _ _ _ h => h) (Or.inl ⟨by rfl, ?_⟩) ?_ ?_
  rotate_left
  · intro w'
    go_simp
    with_reducible rfl
  rotate_left
  · simp only [Act.put, List.setIfInBounds_toArray, List.set_cons_zero, List.set_cons_succ, i64_w, i32_w]
    rfl
  refine takeS (i := 13) (N := (some 128)) (v := ?_) (a' := ?_) rfl rfl (by kernel_rfl) (fun _ _ _ h => h) (Or.inl ⟨by rfl, ?_⟩) hHeld ?_ ?_
  rotate_left
  · intro w' hs
    have x30_ := (hs.cell (block_lt_of_cell x30)).trans x30
    have x31_ := (hs.cell (block_lt_of_cell x31)).trans x31
    have x32_ := (hs.cell (block_lt_of_cell x32)).trans x32
    have x33_ := (hs.cell (block_lt_of_cell x33)).trans x33
    have x34_ := (hs.cell (block_lt_of_cell x34)).trans x34
    have x35_ := (hs.cell (block_lt_of_cell x35)).trans x35
    have x36_ := (hs.cell (block_lt_of_cell x36)).trans x36
    have x37_ := (hs.cell (block_lt_of_cell x37)).trans x37
    go_simp
    with_reducible rfl
  rotate_left
  · simp only [Act.put, List.setIfInBounds_toArray, List.set_cons_zero, List.set_cons_succ, i64_w, i32_w]
    rfl
  refine oneS (i := 14) (N := (some 129)) rfl rfl (by kernel_rfl) (by decide) (fun K hK => ?_)
  have hcl := equal_ex A10 c10 D3 d3 _ hc10 (Kd.R_reads' (Kd.R_below HR10.out hS0)).2.2 hd3 (Kd.C_below hD3 hS0)
  go_simp
  (with_reducible refine hcl.mono ?_)
  clear hcl
  rintro e wd ⟨rfl, hbd⟩
  have hBd : Below wc.heap.size wc wd := hS0.trans (hbd.mono hS0.size)
  refine hK.out _ _ hBd (fun hHeld => ?_)
  clear hK K hbd
  refine pureS (i := 15) (N := (some 130)) (v := ?_) (a' := ?_) rfl rfl (by kernel_rfl) (fun _ _ _ h => h) (Or.inl ⟨by rfl, ?_⟩) ?_ ?_
  rotate_left
  · intro w'
    go_simp
    with_reducible rfl
  rotate_left
  · simp only [Act.put, List.setIfInBounds_toArray, List.set_cons_zero, List.set_cons_succ, i64_w, i32_w]
    rfl
  refine pureS (i := 16) (N := (some 131)) (v := ?_) (a' := ?_) rfl rfl (by kernel_rfl) (fun _ _ _ h => h) (Or.inl ⟨by rfl, ?_⟩) ?_ ?_
  rotate_left
  · intro w'
    go_simp
    with_reducible rfl
  rotate_left
  · simp only [Act.put, List.setIfInBounds_toArray, List.set_cons_zero, List.set_cons_succ, i64_w, i32_w]
    rfl
  refine takeS (i := 17) (N := (some 132)) (v := ?_) (a' := ?_) rfl rfl (by kernel_rfl) (fun _ _ _ h => h) (Or.inl ⟨by rfl, ?_⟩) hHeld ?_ ?_
  rotate_left
  · intro w' hs
    have z0_ := (hs.cell (block_lt_of_cell z0)).trans z0
    have z1_ := (hs.cell (block_lt_of_cell z1)).trans z1
    have z2_ := (hs.cell (block_lt_of_cell z2)).trans z2
    have z3_ := (hs.cell (block_lt_of_cell z3)).trans z3
    have z4_ := (hs.cell (block_lt_of_cell z4)).trans z4
    have z5_ := (hs.cell (block_lt_of_cell z5)).trans z5
    have z6_ := (hs.cell (block_lt_of_cell z6)).trans z6
    have z7_ := (hs.cell (block_lt_of_cell z7)).trans z7
    have z8_ := (hs.cell (block_lt_of_cell z8)).trans z8
    have z9_ := (hs.cell (block_lt_of_cell z9)).trans z9
    have z10_ := (hs.cell (block_lt_of_cell z10)).trans z10
    have z11_ := (hs.cell (block_lt_of_cell z11)).trans z11
    go_simp
    with_reducible rfl
  rotate_left
  · simp only [Act.put, List.setIfInBounds_toArray, List.set_cons_zero, List.set_cons_succ, i64_w, i32_w]
    rfl
  refine oneS (i := 18) (N := (some 133)) rfl rfl (by kernel_rfl) (by decide) (fun K hK => ?_)
  have hcl := valid_ex A6 c6 wd Hc6.out (Kd.R_reads' (Kd.R_below HR6.out hBd)).2.2
  go_simp
  (with_reducible refine hcl.mono ?_)
  clear hcl
  rintro e we ⟨rfl, hbe⟩
  have hBe : Below wc.heap.size wc we := hBd.trans (hbe.mono hBd.size)
  refine hK.out _ _ hBe (fun hHeld => ?_)
  clear hK K hbe hBd
  refine pureS (i := 19) (N := (some 134)) (v := ?_) (a' := ?_) rfl rfl (by kernel_rfl) (fun _ _ _ h => h) (Or.inl ⟨by rfl, ?_⟩) ?_ ?_
  rotate_left
  · intro w'
    go_simp
    with_reducible rfl
  rotate_left
  · simp only [Act.put, List.setIfInBounds_toArray, List.set_cons_zero, List.set_cons_succ, i64_w, i32_w]
    rfl
  refine pureS (i := 20) (N := (some 135)) (v := ?_) (a' := ?_) rfl rfl (by kernel_rfl) (fun _ _ _ h => h) (Or.inl ⟨by rfl, ?_⟩) ?_ ?_
  rotate_left
  · intro w'
    go_simp
    with_reducible rfl
  rotate_left
  · simp only [Act.put, List.setIfInBounds_toArray, List.set_cons_zero, List.set_cons_succ, i64_w, i32_w]
    rfl
  refine takeS (i := 21) (N := (some 136)) (v := ?_) (a' := ?_) rfl rfl (by kernel_rfl) (fun _ _ _ h => h) (Or.inl ⟨by rfl, ?_⟩) hHeld ?_ ?_
  rotate_left
  · intro w' hs
    have y0_ := (hs.cell (block_lt_of_cell y0)).trans y0
    have y1_ := (hs.cell (block_lt_of_cell y1)).trans y1
    have y2_ := (hs.cell (block_lt_of_cell y2)).trans y2
    have y3_ := (hs.cell (block_lt_of_cell y3)).trans y3
    have y4_ := (hs.cell (block_lt_of_cell y4)).trans y4
    have y5_ := (hs.cell (block_lt_of_cell y5)).trans y5
    have y6_ := (hs.cell (block_lt_of_cell y6)).trans y6
    have y7_ := (hs.cell (block_lt_of_cell y7)).trans y7
    go_simp
    with_reducible rfl
  rotate_left
  · simp only [Act.put, List.setIfInBounds_toArray, List.set_cons_zero, List.set_cons_succ, i64_w, i32_w]
    rfl
  refine oneS (i := 22) (N := (some 137)) rfl rfl (by kernel_rfl) (by decide) (fun K hK => ?_)
  have hcl := piece_ex A10 c10 we hc10 (Kd.R_reads' (Kd.R_below HR10.out hBe)).2.2
  go_simp
  (with_reducible refine hcl.mono ?_)
  clear hcl
  rintro e wf ⟨rfl, hbf⟩
  have hBf : Below wc.heap.size wc wf := hBe.trans (hbf.mono hBe.size)
  refine hK.out _ _ hBf (fun hHeld => ?_)
  clear hK K hbf hBe
  refine pureS (i := 23) (N := (some 138)) (v := ?_) (a' := ?_) rfl rfl (by kernel_rfl) (fun _ _ _ h => h) (Or.inl ⟨by rfl, ?_⟩) ?_ ?_
  rotate_left
  · intro w'
    go_simp
    with_reducible rfl
  rotate_left
  · simp only [Act.put, List.setIfInBounds_toArray, List.set_cons_zero, List.set_cons_succ, i64_w, i32_w]
    rfl
  refine pureS (i := 24) (N := (some 139)) (v := ?_) (a' := ?_) rfl rfl (by kernel_rfl) (fun _ _ _ h => h) (Or.inl ⟨by rfl, ?_⟩) ?_ ?_
  rotate_left
  · intro w'
    go_simp
    with_reducible rfl
  rotate_left
  · simp only [Act.put, List.setIfInBounds_toArray, List.set_cons_zero, List.set_cons_succ, i64_w, i32_w]
    rfl
  refine pureS (i := 25) (N := (some 140)) (v := ?_) (a' := ?_) rfl rfl (by kernel_rfl) (fun _ _ _ h => h) (Or.inl ⟨by rfl, ?_⟩) ?_ ?_
  rotate_left
  · intro w'
    go_simp
    with_reducible rfl
  rotate_left
  · simp only [Act.put, List.setIfInBounds_toArray, List.set_cons_zero, List.set_cons_succ, i64_w, i32_w]
    rfl
  refine oneS (i := 26) (N := (some 141)) rfl rfl (by kernel_rfl) (by decide) (fun K hK => ?_)
  go_simp
  (with_reducible refine (validz_ex wf).mono ?_)
  rintro e wg ⟨rfl, hbg⟩
  have hBg : Below wc.heap.size wc wg := hBf.trans (hbg.mono hBf.size)
  refine hK.out _ _ hBg (fun hHeld => ?_)
  clear hK K hbg hBf
  refine pureS (i := 27) (N := (some 142)) (v := ?_) (a' := ?_) rfl rfl (by kernel_rfl) (fun _ _ _ h => h) (Or.inl ⟨by rfl, ?_⟩) ?_ ?_
  rotate_left
  · intro w'
    go_simp
    with_reducible rfl
  rotate_left
  · simp only [Act.put, List.setIfInBounds_toArray, List.set_cons_zero, List.set_cons_succ, i64_w, i32_w]
    rfl
  refine pureS (i := 28) (N := (some 143)) (v := ?_) (a' := ?_) rfl rfl (by kernel_rfl) (fun _ _ _ h => h) (Or.inl ⟨by rfl, ?_⟩) ?_ ?_
  rotate_left
  · intro w'
    go_simp
    with_reducible rfl
  rotate_left
  · simp only [Act.put, List.setIfInBounds_toArray, List.set_cons_zero, List.set_cons_succ, i64_w, i32_w]
    rfl
  refine pureS (i := 29) (N := (some 0)) (v := ?_) (a' := ?_) rfl rfl (by kernel_rfl) (fun _ _ _ h => h) (Or.inl ⟨by rfl, ?_⟩) ?_ ?_
  rotate_left
  · intro w'
    go_simp
    with_reducible rfl
  rotate_left
  · simp only [Act.put, List.setIfInBounds_toArray, List.set_cons_zero, List.set_cons_succ, i64_w, i32_w]
    rfl
  refine done_ (by kernel_rfl) ?_
  have hBB := hB5.trans (hBg.mono hB5.size)
  clear hS0 hHeld hBg hB5
  go_wp2_with fail
  go_ret
  exact ⟨rfl, hBB⟩
end Go.Proofs.YthiealhmcfdakaaH
end
section
set_option linter.unusedVariables false
set_option linter.unusedSimpArgs false
namespace Go.Proofs.YthiealhmcfdakaaM
open Go Go.RowKit Go.Proofs.YthiealhmcfdakaaH Go.Proofs.YthiealhmcfdakaaW.PrintWords
theorem xor_lt32 {a b : Nat} (ha : a < 2 ^ 32) (hb : b < 2 ^ 32) : a ^^^ b < 2 ^ 32 := Nat.xor_lt_two_pow ha hb
theorem crcBit_nat {c : Nat} (h : c < 2 ^ 32) : crcBit (c : Int) = (B c : Int) := by
  unfold crcBit B
  rw [and1_u32 c (by omega)]
  have e : (c : Int) / 2 = ((c / 2 : Nat) : Int) := by omega
  by_cases hc : c % 2 = 1
  · rw [if_pos hc, hc, if_pos (by decide), e]
    exact xor_u32 (c / 2) P (by omega) (by decide)
  · rw [if_neg hc, show c % 2 = 0 by omega, if_neg (by decide), e]
theorem crcBits_nat {c : Nat} (h : c < 2 ^ 32) : ∀ k, crcBits k (c : Int) = (Bn k c : Int)
  | 0 => rfl
  | k + 1 => by rw [crcBits, crcBits_nat h k, crcBit_nat (Bn_lt k h)]; rfl
theorem xor_mod256 (a b : Nat) : (a ^^^ b) % 256 = a % 256 ^^^ b % 256 := by
  have := Nat.xor_mod_two_pow (a := a) (b := b) (n := 8)
  simpa using this
theorem xor_div256 (a b : Nat) : (a ^^^ b) / 256 = a / 256 ^^^ b / 256 := by
  have := Nat.xor_div_two_pow (a := a) (b := b) (n := 8)
  simpa using this
theorem crcStep_nat {c : Nat} (h : c < 2 ^ 32) {x : Int} (h0 : 0 ≤ x) (h1 : x ≤ 255) : crcStep (c : Int) x = (M (c ^^^ x.toNat) : Int) := by
  obtain ⟨n, rfl⟩ := Int.eq_ofNat_of_zero_le h0
  unfold crcStep
  have e : (c : Int) % 256 = ((c % 256 : Nat) : Int) := by omega
  have e2 : (c : Int) / 256 = ((c / 256 : Nat) : Int) := by omega
  have h8 : c % 256 ^^^ n < 2 ^ 8 := Nat.xor_lt_two_pow (by omega) (by omega)
  have hM : Bn 8 (c % 256 ^^^ n) < 2 ^ 32 := Bn_lt 8 (by omega)
  rw [e, e2, xor_u8 _ _ (by omega) (by omega), crcBits_nat (by omega), xor_u32 _ _ (by omega) (by omega), Int.toNat_natCast, M_table (c ^^^ n), xor_mod256, xor_div256,
    show n % 256 = n by omega, show n / 256 = 0 by omega, Nat.xor_zero]
  rfl
def nfold (c : Nat) (l : List Int) : Nat := l.foldl (fun c x => M (c ^^^ x.toNat)) c
theorem nfold_nil (c : Nat) : nfold c [] = c := rfl
theorem nfold_cons (c : Nat) (x : Int) (l : List Int) : nfold c (x :: l) = nfold (M (c ^^^ x.toNat)) l := by simp only [nfold, List.foldl_cons]
theorem nfold_append (c : Nat) (a b : List Int) : nfold c (a ++ b) = nfold (nfold c a) b := by simp [nfold]
theorem U8.cons {x : Int} {l : List Int} (h : U8 (x :: l)) : (0 ≤ x ∧ x ≤ 255) ∧ U8 l := ⟨h x (List.mem_cons_self ..), fun y hy => h y (List.mem_cons_of_mem _ hy)⟩
theorem U8.append {a b : List Int} (ha : U8 a) (hb : U8 b) : U8 (a ++ b) := fun x hx => (List.mem_append.1 hx).elim (ha x) (hb x)
theorem U8.left {a b : List Int} (h : U8 (a ++ b)) : U8 a := fun x hx => h x (List.mem_append_left _ hx)
theorem U8.right {a b : List Int} (h : U8 (a ++ b)) : U8 b := fun x hx => h x (List.mem_append_right _ hx)
theorem U8.take {a : List Int} (h : U8 a) (k : Nat) : U8 (a.take k) := fun x hx => h x (List.mem_of_mem_take hx)
theorem U8.drop {a : List Int} (h : U8 a) (k : Nat) : U8 (a.drop k) := fun x hx => h x (List.mem_of_mem_drop hx)
theorem nfold_lt : ∀ (l : List Int) (c : Nat), U8 l → c < 2 ^ 32 → nfold c l < 2 ^ 32
  | [], c, _, h => by rw [nfold_nil]; exact h
  | x :: l, c, hU, h => by
    obtain ⟨hx, hl⟩ := hU.cons
    rw [nfold_cons]
    exact nfold_lt l _ hl (M_lt (xor_lt32 h (by omega)))
theorem crcFold_nat : ∀ (l : List Int) (c : Nat), U8 l → c < 2 ^ 32 → crcFold (c : Int) l = (nfold c l : Int)
  | [], c, _, h => by rw [nfold_nil, crcFold, List.foldl_nil]
  | x :: l, c, hU, h => by
    obtain ⟨hx, hl⟩ := hU.cons
    have := crcFold_nat l (M (c ^^^ x.toNat)) hl (M_lt (xor_lt32 h (by omega)))
    rw [nfold_cons, ← this]
    rw [crcFold, List.foldl_cons, crcStep_nat h hx.1 hx.2, crcFold]
def F : Nat := 4294967295
theorem crcSum_nat {l : List Int} (h : U8 l) : crcSum l = ((F ^^^ nfold F l : Nat) : Int) := by
  have h1 := crcFold_nat l F h (by decide)
  have h2 := nfold_lt l F h (by decide)
  unfold crcSum
  rw [show (4294967295 : Int) = ((F : Nat) : Int) from rfl, h1, xor_u32 _ _ (by decide) (by omega)]
def le : List Int → Nat
  | [] => 0
  | x :: t => x.toNat + 256 * le t
def Mj : Nat → Nat → Nat
  | 0, c => c
  | k + 1, c => Mj k (M c)
theorem xor_le {a : Nat} (h : a < 256) (b : Nat) : a ^^^ 256 * b = a + 256 * b := by
  have := split256 (a + 256 * b)
  rw [show (a + 256 * b) % 256 = a by omega, show (a + 256 * b) / 256 = b by omega] at this
  exact this.symm
theorem nfold_le : ∀ (w : List Int) (c : Nat), U8 w → nfold c w = Mj w.length (c ^^^ le w)
  | [], c, _ => by simp [nfold, Mj, le]
  | x :: t, c, hU => by
    obtain ⟨hx, hl⟩ := hU.cons
    have e : M (c ^^^ x.toNat ^^^ 256 * le t) = M (c ^^^ x.toNat) ^^^ le t := by rw [M_xor _ (256 * le t), M_shift]
    rw [nfold_cons, nfold_le t _ hl, List.length_cons, Mj, le, ← xor_le (by omega), ← Nat.xor_assoc, e]
theorem le_lt : ∀ (w : List Int), U8 w → le w < 256 ^ w.length
  | [], _ => by simp [le]
  | x :: t, hU => by
    obtain ⟨hx, hl⟩ := hU.cons
    have := le_lt t hl
    rw [le, List.length_cons, Nat.pow_succ]
    omega
theorem le_inj : ∀ (a b : List Int), U8 a → U8 b → a.length = b.length → le a = le b → a = b
  | [], [], _, _, _, _ => rfl
  | [], _ :: _, _, _, h, _ => by simp at h
  | _ :: _, [], _, _, h, _ => by simp at h
  | x :: t, y :: u, hU, hV, hl, he => by
    obtain ⟨hx, ht⟩ := hU.cons
    obtain ⟨hy, hu⟩ := hV.cons
    rw [le, le] at he
    have := le_inj t u ht hu (by simpa using hl) (by omega)
    rw [this, show x = y by omega]
theorem Mj_lt : ∀ (k c : Nat), c < 2 ^ 32 → Mj k c < 2 ^ 32
  | 0, _, h => h
  | k + 1, c, h => Mj_lt k _ (M_lt h)
theorem Mj_inj : ∀ (k a b : Nat), a < 2 ^ 32 → b < 2 ^ 32 → Mj k a = Mj k b → a = b
  | 0, _, _, _, _, h => h
  | k + 1, a, b, ha, hb, h => M_inj ha hb (Mj_inj k _ _ (M_lt ha) (M_lt hb) h)
theorem nfold_inj : ∀ (l : List Int) (a b : Nat), U8 l → a < 2 ^ 32 → b < 2 ^ 32 → nfold a l = nfold b l → a = b
  | [], _, _, _, _, _, h => h
  | x :: l, a, b, hU, ha, hb, h => by
    obtain ⟨hx, hl⟩ := hU.cons
    rw [nfold_cons, nfold_cons] at h
    have h1 := nfold_inj l _ _ hl (M_lt (xor_lt32 ha (by omega))) (M_lt (xor_lt32 hb (by omega))) h
    have h2 := M_inj (xor_lt32 ha (by omega)) (xor_lt32 hb (by omega)) h1
    have := congrArg (· ^^^ x.toNat) h2
    simpa [Nat.xor_assoc] using this
theorem xor_cancel {a b c : Nat} (h : a ^^^ b = a ^^^ c) : b = c := by
  have := congrArg (a ^^^ ·) h
  simpa [← Nat.xor_assoc] using this
theorem nfold_window (p u v q : List Int) (c : Nat) (hp : U8 p) (hu : U8 u) (hv : U8 v) (hq : U8 q) (hc : c < 2 ^ 32) (hl : u.length = v.length) (h4 : u.length ≤ 4)
    (h : nfold c (p ++ u ++ q) = nfold c (p ++ v ++ q)) : u = v := by
  have hS := nfold_lt p c hp hc
  have lu := le_lt u hu
  have lv := le_lt v hv
  have hp4 : 256 ^ u.length ≤ 256 ^ 4 := Nat.pow_le_pow_right (by decide) h4
  rw [hl] at hp4
  rw [hl] at lu
  have hb1 : nfold c p ^^^ le u < 2 ^ 32 := xor_lt32 hS (by omega)
  have hb2 : nfold c p ^^^ le v < 2 ^ 32 := xor_lt32 hS (by omega)
  rw [nfold_append, nfold_append, nfold_append, nfold_append] at h
  rw [nfold_le u _ hu, nfold_le v _ hv] at h
  have h1 := nfold_inj q _ _ hq (Mj_lt _ _ hb1) (Mj_lt _ _ hb2) h
  rw [hl] at h1
  exact le_inj u v hu hv hl (xor_cancel (Mj_inj _ _ _ hb1 hb2 h1))
theorem fourOf_U8 {s : Int} (h : 0 ≤ s) : U8 (fourOf s) := by
  intro x hx
  simp only [fourOf, List.mem_cons, List.not_mem_nil, or_false] at hx
  omega
theorem le_fourOf {s : Int} (h0 : 0 ≤ s) (h1 : s < 4294967296) : (le (fourOf s) : Int) = s := by
  simp only [fourOf, le]
  omega
theorem crcSum_range {l : List Int} (h : U8 l) : 0 ≤ crcSum l ∧ crcSum l < 4294967296 := by
  rw [crcSum_nat h]
  have := xor_lt32 (a := F) (by decide) (nfold_lt l F h (by decide))
  omega
theorem closes (l w : List Int) (hl : U8 l) (hw : U8 w) (h4 : w.length = 4) : w = fourOf (crcSum l) ↔ nfold F (l ++ w) = Mj 4 F := by
  have hS := nfold_lt l F hl (by decide)
  have hs := crcSum_range hl
  have hf := fourOf_U8 hs.1
  have hle := le_fourOf hs.1 hs.2
  have hn := crcSum_nat hl
  have hlw := le_lt w hw
  rw [h4] at hlw
  have e : le (fourOf (crcSum l)) = F ^^^ nfold F l := by omega
  rw [nfold_append, nfold_le w _ hw, h4]
  constructor
  · rintro rfl
    rw [e, Nat.xor_comm F, ← Nat.xor_assoc, Nat.xor_self, Nat.zero_xor]
  · intro h
    have h1 := Mj_inj _ _ _ (xor_lt32 hS (by omega)) (by decide) h
    apply le_inj _ _ hw hf (by rw [h4]; rfl)
    rw [e]
    generalize nfold F l = S at *
    rw [← h1, Nat.xor_comm S, Nat.xor_assoc, Nat.xor_self, Nat.xor_zero]
theorem residue : F ^^^ Mj 4 F = 558161692 := by decide +kernel
end Go.Proofs.YthiealhmcfdakaaM
end
section
set_option linter.unusedVariables false
set_option linter.unusedSimpArgs false
namespace Go.Proofs.YthiealhmcfdakaaM
open Go Go.RowKit Go.Proofs.YthiealhmcfdakaaH Go.Proofs.Ythiealhmcfdakaa.E Go.Proofs.YthiealhmcfdakaaW.PrintWords
theorem sum_f (l : List Int) : codec_Sum.f l = some (crcSum l) := rfl
def headOf (l : List Int) : List Int := (l.length : Int) / 256 % 256 :: (l.length : Int) % 256 :: l
def frameOf (l : List Int) : List Int := headOf l ++ fourOf (crcSum (headOf l))
theorem headOf_len (l : List Int) : (headOf l).length = l.length + 2 := rfl
theorem frameOf_len (l : List Int) : (frameOf l).length = l.length + 6 := by
  unfold frameOf; rw [List.length_append, headOf_len]; rfl
theorem headOf_U8 {l : List Int} (h : U8 l) : U8 (headOf l) := by
  intro x hx
  unfold headOf at hx
  rcases List.mem_cons.1 hx with rfl | hx
  · omega
  rcases List.mem_cons.1 hx with rfl | hx
  · omega
  exact h x hx
theorem frameOf_U8 {l : List Int} (h : U8 l) : U8 (frameOf l) := (headOf_U8 h).append (fourOf_U8 (crcSum_range (headOf_U8 h)).1)
theorem bytesOk_of {l : List Int} (h : U8 l) : bytesOk l = true := by
  unfold bytesOk
  rw [List.all_eq_true]
  intro x hx
  exact decide_eq_true (h x hx)
theorem frame_f {l : List Int} (hl : l.length ≤ 65535) : codec_Frame.f l = some (frameOf l, 0) := by
  unfold codec_Frame.f
  rw [if_neg (by omega)]
  simp only [Option.bind_some, sum_f]
  rw [if_pos (by simp; omega), if_pos (by simp; omega)]
  rfl
theorem frame_big {l : List Int} (hl : ¬ l.length ≤ 65535) : codec_Frame.f l = some ([], 2) := by
  unfold codec_Frame.f
  rw [if_pos (by omega)]
theorem rd_zero (x : Int) (l : List Int) : rd (x :: l) 0 = x := by simp [rd]
theorem rd_one (x y : Int) (l : List Int) : rd (x :: y :: l) 1 = y := by simp [rd]
theorem frameLen_of {l r : List Int} (hl : l.length ≤ 65535) : frameLen (headOf l ++ r) = l.length := by
  unfold frameLen headOf
  rw [List.cons_append, List.cons_append, rd_zero, rd_one]
  omega
theorem open_frame {l r : List Int} (hU : U8 l) (hr : U8 r) (hl : l.length ≤ 65535) : codec_Open.f (frameOf l ++ r) = some (l, (l.length : Int) + 6, 0) := by
  have e : frameOf l ++ r = headOf l ++ (fourOf (crcSum (headOf l)) ++ r) := by unfold frameOf; rw [List.append_assoc]
  have hlen : (frameOf l ++ r).length = l.length + 6 + r.length := by rw [List.length_append, frameOf_len]
  unfold codec_Open.f
  rw [if_pos (bytesOk_of ((frameOf_U8 hU).append hr)), if_neg (by omega)]
  rw [hlen, e, frameLen_of hl, if_neg (by omega), List.take_left' (headOf_len l), List.drop_left' (headOf_len l), List.take_left' (show (fourOf (crcSum (headOf l))).length = 4 from rfl), if_pos rfl]
  rfl
theorem open_cut {l : List Int} (hU : U8 l) (hl : l.length ≤ 65535) (m : Nat) (hm : m < l.length + 6) : codec_Open.f ((frameOf l).take m) = some ([], 0, 8) := by
  have hlen : ((frameOf l).take m).length = m := by rw [List.length_take, frameOf_len]; omega
  unfold codec_Open.f
  rw [if_pos (bytesOk_of ((frameOf_U8 hU).take m)), hlen]
  by_cases h2 : m < 2
  · rw [if_pos h2]
  rw [if_neg h2]
  have : frameLen ((frameOf l).take m) = l.length := by
    obtain ⟨m', rfl⟩ : ∃ m', m = m' + 2 := ⟨m - 2, by omega⟩
    unfold frameLen frameOf headOf
    rw [List.cons_append, List.cons_append, List.take_succ_cons, List.take_succ_cons, rd_zero, rd_one]
    omega
  rw [this, if_pos hm]
end Go.Proofs.YthiealhmcfdakaaM
end
section
set_option linter.unusedVariables false
set_option linter.unusedSimpArgs false
namespace Go.Proofs.YthiealhmcfdakaaM
open Go Go.RowKit Go.Proofs.YthiealhmcfdakaaH Go.Proofs.Ythiealhmcfdakaa.E Go.Proofs.YthiealhmcfdakaaW.PrintWords
def payload (p : S49) : List Int :=
  [p.f0.f0, p.f0.f1, p.f0.f2, p.f1, p.f2, p.f3 / 256, p.f3 % 256, p.f4 / 16777216, p.f4 / 65536 % 256, p.f4 / 256 % 256, p.f4 % 256] ++ p.f5
theorem payload_len (p : S49) : (payload p).length = p.f5.length + 11 := by simp [payload]
theorem okP_data {p : S49} (h : okP p) : p.f5.length ≤ 200 := by
  obtain ⟨_, _, _, h4, h5, h6, h7, _, _, h10⟩ := h
  have : (p.f3 + p.f2 - 1) / p.f2 < 201 := Int.ediv_lt_of_lt_mul (by omega) (by omega)
  omega
theorem big2 (x : Int) (h0 : 0 ≤ x) (h1 : x < 65536) : piece_big.f x 2 = some [x / 256, x % 256] := by
  unfold piece_big.f
  rw [if_pos (by omega)]
  have : bigOf x 2 = [x / 256, x % 256] := by
    simp [bigOf, List.range_succ]
    omega
  exact congrArg some this
theorem big4 (x : Int) (h0 : 0 ≤ x) (h1 : x < 4294967296) : piece_big.f x 4 = some [x / 16777216, x / 65536 % 256, x / 256 % 256, x % 256] := by
  unfold piece_big.f
  rw [if_pos (by omega)]
  have : bigOf x 4 = [x / 16777216, x / 65536 % 256, x / 256 % 256, x % 256] := by
    simp [bigOf, List.range_succ]
    omega
  exact congrArg some this
def frameP (p : S49) : Option (List Int × Int) := piece_Frame.f p.f0.f0 p.f0.f1 p.f0.f2 p.f1 p.f2 p.f3 p.f4 p.f5
theorem pFrame_ok {p : S49} (h : okP p) : frameP p = some (frameOf (payload p), 0) := by
  have hd := okP_data h
  have h' := h
  obtain ⟨⟨n1, n2, n3, n4, n5, n6⟩, h2, h3, h4, h5, h6, h7, h8, h9, h10⟩ := h
  have hs : p.f3 < 65536 := by omega
  unfold frameP piece_Frame.f piece_Piece.f
  rw [decide_eq_true (show pieceOk p.f0.f0 p.f0.f1 p.f0.f2 p.f1 p.f2 p.f3 p.f4 p.f5.length from h')]
  simp only [Option.bind_some, if_true, big2 p.f3 (by omega) hs, big4 p.f4 h8 h9]
  rw [if_pos (by simp), if_pos (by simp), if_pos (by simp; omega)]
  have e : ([p.f0.f0 % 256, p.f0.f1 % 256, p.f0.f2 % 256, p.f1 % 256, p.f2 % 256] ++ [p.f3 / 256, p.f3 % 256] ++ [p.f4 / 16777216, p.f4 / 65536 % 256, p.f4 / 256 % 256, p.f4 % 256] ++ p.f5) = payload p := by
    rw [Int.emod_eq_of_lt (by omega) (by omega), Int.emod_eq_of_lt (by omega) (by omega), Int.emod_eq_of_lt (by omega) (by omega), Int.emod_eq_of_lt (by omega) (by omega), Int.emod_eq_of_lt (by omega) (by omega)]
    rfl
  rw [e, frame_f (by rw [payload_len]; omega)]
  rfl
theorem pFrame_bad {p : S49} (h : ¬ okP p) : frameP p = some ([], 1) := by
  unfold frameP piece_Frame.f piece_Piece.f
  rw [decide_eq_false (show ¬ pieceOk p.f0.f0 p.f0.f1 p.f0.f2 p.f1 p.f2 p.f3 p.f4 p.f5.length from h)]
  rfl
theorem payload_U8 {p : S49} (h : okP p) (hU : U8 p.f5) : U8 (payload p) := by
  obtain ⟨⟨n1, n2, n3, n4, n5, n6⟩, h2, h3, h4, h5, h6, h7, h8, h9, h10⟩ := h
  intro x hx
  rcases List.mem_append.1 hx with hx | hx
  · simp only [List.mem_cons, List.not_mem_nil, or_false] at hx
    omega
  · exact hU x hx
theorem readP_payload {p : S49} (h : okP p) : readP (payload p) = p := by
  obtain ⟨⟨n1, n2, n3, n4, n5, n6⟩, h2, h3, h4, h5, h6, h7, h8, h9, h10⟩ := h
  obtain ⟨⟨a, b, c⟩, i, n, s, m, d⟩ := p
  dsimp only at *
  unfold readP payload
  simp only [rd, List.cons_append, List.nil_append, List.drop_succ_cons, List.drop_zero]
  simp
  omega
theorem pRead_frame {p : S49} (h : okP p) (hU : U8 p.f5) : piece_Read.f (frameOf (payload p)) = some (p, 0) := by
  have hd := okP_data h
  have ho := open_frame (r := []) (payload_U8 h hU) (fun x hx => by simp at hx) (show (payload p).length ≤ 65535 by rw [payload_len]; omega)
  rw [List.append_nil] at ho
  unfold piece_Read.f
  rw [ho, Option.bind_some]
  dsimp only
  rw [if_neg (by simp), frameOf_len, payload_len, if_neg (by omega), if_pos (by omega), readP_payload h, if_pos h]
theorem len11 {c : List Int} (h : ¬ c.length < 11) : ∃ a b d e f g i j k l m r, c = a :: b :: d :: e :: f :: g :: i :: j :: k :: l :: m :: r := by
  match c, h with
  | a :: b :: d :: e :: f :: g :: i :: j :: k :: l :: m :: r, _ => exact ⟨a, b, d, e, f, g, i, j, k, l, m, r, rfl⟩
  | [], h => simp at h
  | [_], h => simp at h
  | [_, _], h => simp at h
  | [_, _, _], h => simp at h
  | [_, _, _, _], h => simp at h
  | [_, _, _, _, _], h => simp at h
  | [_, _, _, _, _, _], h => simp at h
  | [_, _, _, _, _, _, _], h => simp at h
  | [_, _, _, _, _, _, _, _], h => simp at h
  | [_, _, _, _, _, _, _, _, _], h => simp at h
  | [_, _, _, _, _, _, _, _, _, _], h => simp at h
theorem payload_readP {c : List Int} (hU : U8 c) (h : ¬ c.length < 11) : payload (readP c) = c := by
  obtain ⟨a, b, d, e, f, g, i, j, k, l, m, r, rfl⟩ := len11 h
  have hg := hU g (by simp)
  have hi := hU i (by simp)
  have hj := hU j (by simp)
  have hk := hU k (by simp)
  have hl := hU l (by simp)
  have hm := hU m (by simp)
  unfold payload readP
  simp only [rd, List.cons_append, List.nil_append, List.drop_succ_cons, List.drop_zero]
  simp
  omega
theorem open_back {b : List Int} (hU : U8 b) {c : List Int} (h : codec_Open.f b = some (c, (b.length : Int), 0)) : b = frameOf c ∧ c.length ≤ 65535 ∧ U8 c := by
  unfold codec_Open.f at h
  rw [if_pos (bytesOk_of hU)] at h
  by_cases h1 : b.length < 2
  · rw [if_pos h1] at h; exact absurd h (by simp)
  rw [if_neg h1] at h
  by_cases h2 : b.length < frameLen b + 6
  · rw [if_pos h2] at h; exact absurd h (by simp)
  rw [if_neg h2] at h
  by_cases h3 : (b.drop (frameLen b + 2)).take 4 = fourOf (crcSum (b.take (frameLen b + 2)))
  case neg => rw [if_neg h3] at h; exact absurd h (by simp)
  rw [if_pos h3] at h
  simp only [Option.some.injEq, Prod.mk.injEq] at h
  obtain ⟨hc, hn, _⟩ := h
  have hn2 : b.length = frameLen b + 6 := by omega
  obtain ⟨x, y, t, rfl⟩ : ∃ x y t, b = x :: y :: t := by
    match b, h1 with
    | x :: y :: t, _ => exact ⟨x, y, t, rfl⟩
    | [], h => simp at h
    | [_], h => simp at h
  have hx := hU x (by simp)
  have hy := hU y (by simp)
  have hfl : frameLen (x :: y :: t) = (256 * x + y).toNat := by unfold frameLen; rw [rd_zero, rd_one]
  generalize frameLen (x :: y :: t) = n at *
  have htake : (x :: y :: t).take (n + 2) = headOf c := by
    have hcl : c.length = n := by rw [← hc, List.length_drop, List.length_take]; omega
    unfold headOf
    rw [hcl, ← hc, List.take_succ_cons, List.take_succ_cons, List.drop_succ_cons, List.drop_succ_cons, List.drop_zero]
    congr 1
    · omega
    · congr 1
      omega
  have hcl : c.length = n := by rw [← hc, List.length_drop, List.length_take]; omega
  have hcU : U8 c := by rw [← hc]; exact (hU.take _).drop _
  refine ⟨?_, by omega, hcU⟩
  unfold frameOf
  rw [htake] at h3
  rw [← h3, ← htake, List.take_of_length_le (l := (x :: y :: t).drop (n + 2)) (by rw [List.length_drop]; omega), List.take_append_drop]
theorem pRead_back {b : List Int} (hU : U8 b) (hl : b.length < 100000) : ∃ q e, piece_Read.f b = some (q, e) ∧ ((e = 0 ∧ okP q ∧ U8 q.f5 ∧ frameOf (payload q) = b) ∨ ((e = 7 ∨ e = 8 ∨ e = 9) ∧ q = z49)) := by
  unfold piece_Read.f
  obtain ⟨c, n, e, ho⟩ : ∃ c n e, codec_Open.f b = some (c, n, e) := by
    unfold codec_Open.f
    rw [if_pos (bytesOk_of hU)]
    repeat' split
    all_goals exact ⟨_, _, _, rfl⟩
  have he : e = 0 ∨ e = 8 ∨ e = 9 := by
    unfold codec_Open.f at ho
    rw [if_pos (bytesOk_of hU)] at ho
    repeat' split at ho
    all_goals (simp only [Option.some.injEq, Prod.mk.injEq] at ho; omega)
  rw [ho, Option.bind_some]
  dsimp only
  by_cases h0 : e = 0
  case neg => rw [if_pos h0]; exact ⟨_, _, rfl, .inr ⟨by omega, rfl⟩⟩
  subst h0
  rw [if_neg (by simp)]
  by_cases h1 : n ≠ (b.length : Int) ∨ c.length < 11
  · rw [if_pos h1]; exact ⟨_, _, rfl, .inr ⟨by omega, rfl⟩⟩
  rw [if_neg h1, if_pos hl]
  by_cases h2 : okP (readP c)
  case neg => rw [if_neg h2]; exact ⟨_, _, rfl, .inr ⟨by omega, rfl⟩⟩
  rw [if_pos h2]
  obtain rfl : n = (b.length : Int) := Decidable.not_not.1 (fun h => h1 (.inl h))
  obtain ⟨hb, _, hcU⟩ := open_back hU ho
  have h11 : ¬ c.length < 11 := fun h => h1 (.inr h)
  refine ⟨_, _, rfl, .inl ⟨rfl, h2, ?_, ?_⟩⟩
  · exact hcU.drop 11
  · rw [payload_readP hcU h11, ← hb]
end Go.Proofs.YthiealhmcfdakaaM
end
section
set_option linter.unusedVariables false
set_option linter.unusedSimpArgs false
namespace Go.Proofs.YthiealhmcfdakaaM
open Go Go.RowKit Go.Proofs.YthiealhmcfdakaaH Go.Proofs.Ythiealhmcfdakaa.E Go.Proofs.YthiealhmcfdakaaW.PrintWords
theorem bits_or_comm (k : IntKind) (a b : Int) : Go.bits .or k a b = Go.bits .or k b a := by simp [Go.bits, BitVec.or_comm]
theorem bits_xor_comm (k : IntKind) (a b : Int) : Go.bits .xor k a b = Go.bits .xor k b a := by simp [Go.bits, BitVec.xor_comm]
def val : List Int → Nat
  | [] => 0
  | x :: t => x.toNat % 128 + 128 * val t
theorem val_lt : ∀ a : List Int, val a < 128 ^ a.length
  | [] => by simp [val]
  | x :: t => by
    have := val_lt t
    rw [List.length_cons, Nat.pow_succ, val]
    omega
theorem val_snoc (x : Int) : ∀ a : List Int, val (a ++ [x]) = val a + 128 ^ a.length * (x.toNat % 128)
  | [] => by simp [val]
  | y :: t => by
    rw [List.cons_append, val, val, val_snoc x t, List.length_cons, Nat.pow_succ, Nat.mul_add, Nat.mul_comm (128 ^ t.length) 128, Nat.mul_assoc, Nat.add_assoc]
theorem val_digs (n : Nat) : val (digs n) = n := by
  induction n using Nat.strongRecOn with
  | ind n ih =>
    by_cases hn : 127 < n
    · rw [digs_big hn, val, ih _ (by omega)]; omega
    · rw [digs_small (by omega)]; simp [val]; omega
theorem rd_get {b : List Int} {k : Nat} (hk : k < b.length) : rd b (k : Int) = b[k] := by
  unfold rd; rw [Int.toNat_natCast, List.getD_eq_getElem?_getD, List.getElem?_eq_getElem hk]; rfl
theorem take_next {b : List Int} {k : Nat} (hk : k < b.length) : b.take (k + 1) = b.take k ++ [rd b (k : Int)] := by
  rw [rd_get hk, List.take_succ_eq_append_getElem hk]
theorem U8.rd_in {b : List Int} (h : U8 b) {k : Nat} (hk : k < b.length) : 0 ≤ rd b (k : Int) ∧ rd b (k : Int) ≤ 255 := by
  rw [rd_get hk]; exact h _ (List.getElem_mem hk)
theorem and127 {x : Int} (h0 : 0 ≤ x) (h1 : x ≤ 255) : Go.bits .and .u8 x 127 = x % 128 := bits_mask .u8 8 (by decide) wraps_u8 7 (by decide) x h0 (by omega)
theorem digTo_val {b : List Int} (hU : U8 b) : ∀ k : Nat, k ≤ b.length → k ≤ 10 → (k = 10 → rd b 9 ≤ 1) → digTo b k = (val (b.take k) : Int) ∧ val (b.take k) < 2 ^ 64
  | 0, _, _, _ => by simp [digTo, val]
  | k + 1, hk, h10, h9 => by
    obtain ⟨ih, _⟩ := digTo_val hU k (by omega) (by omega) (by omega)
    have hx := hU.rd_in (k := k) (by omega)
    have hv := val_lt (b.take k)
    have hl : (b.take k).length = k := by rw [List.length_take]; omega
    rw [hl] at hv
    have hp : (128 : Nat) ^ k = 2 ^ (7 * k) := by rw [Nat.pow_mul]
    rw [take_next (by omega), val_snoc, hl, hp, digTo, ih, and127 hx.1 hx.2]
    rw [hp] at hv
    generalize hv' : val (b.take k) = v at *
    have e0 : rd b (k : Int) % 128 = (((rd b (k : Int)).toNat % 128 : Nat) : Int) := by omega
    have hd : (rd b (k : Int)).toNat % 128 * 2 ^ (7 * k) + 2 ^ (7 * k) ≤ 2 ^ 64 := by
      by_cases h8 : k ≤ 8
      · have h1 : 2 ^ (7 * k) ≤ 2 ^ 56 := Nat.pow_le_pow_right (by decide) (by omega)
        have h2 : (rd b (k : Int)).toNat % 128 * 2 ^ (7 * k) ≤ 127 * 2 ^ 56 := Nat.mul_le_mul (by omega) h1
        omega
      · obtain rfl : k = 9 := by omega
        have := h9 rfl
        have e9 : ((9 : Nat) : Int) = 9 := rfl
        rw [e9] at hx ⊢
        generalize rd b 9 = z at *
        have : z.toNat % 128 ≤ 1 := by omega
        omega
    rw [e0]
    generalize (rd b (k : Int)).toNat % 128 = d at *
    have hpos : 0 < 2 ^ (7 * k) := Nat.two_pow_pos _
    have hd1 : d ≤ d * 2 ^ (7 * k) := Nat.le_mul_of_pos_right _ hpos
    have e1 : IntKind.u64.wrap (d : Int) = d := by rw [IntKind.wrap_u64]; omega
    have e2 : IntKind.u64.wrap ((d : Int) * 2 ^ (7 * k)) = ((d * 2 ^ (7 * k) : Nat) : Int) := by
      have : (d : Int) * 2 ^ (7 * k) = ((d * 2 ^ (7 * k) : Nat) : Int) := by push_cast; rfl
      rw [this, IntKind.wrap_u64]
      omega
    rw [e1, e2, bits_or_u64_nat _ _ (by omega) (by omega), Nat.or_comm, Nat.mul_comm d, ← Nat.two_pow_add_eq_or_of_lt hv]
    rw [Nat.mul_comm] at hd
    exact ⟨by congr 1; omega, by omega⟩
def CanT : List Int → Prop
  | [] => False
  | x :: t => if t = [] then 0 < x ∧ x < 128 else 128 ≤ x ∧ x ≤ 255 ∧ CanT t
def Can : List Int → Prop
  | [] => False
  | x :: t => if t = [] then 0 ≤ x ∧ x < 128 else 128 ≤ x ∧ x ≤ 255 ∧ CanT t
theorem digs_ne (n : Nat) : digs n ≠ [] := fun h => by have := digs_pos n; rw [h] at this; simp at this
theorem digs_canT (n : Nat) (h : 0 < n) : CanT (digs n) := by
  induction n using Nat.strongRecOn with
  | ind n ih =>
    by_cases hn : 127 < n
    · rw [digs_big hn, CanT, if_neg (digs_ne _)]
      exact ⟨by omega, by omega, ih _ (by omega) (by omega)⟩
    · rw [digs_small (by omega), CanT, if_pos rfl]; omega
theorem digs_can (n : Nat) : Can (digs n) := by
  by_cases hn : 127 < n
  · rw [digs_big hn, Can, if_neg (digs_ne _)]
    exact ⟨by omega, by omega, digs_canT _ (by omega)⟩
  · rw [digs_small (by omega), Can, if_pos rfl]; omega
theorem canT_digs : ∀ c : List Int, CanT c → 0 < val c ∧ digs (val c) = c
  | [], h => h.elim
  | x :: t, h => by
    unfold CanT at h
    by_cases ht : t = []
    · rw [if_pos ht] at h
      subst ht
      have e : val [x] = x.toNat := by simp [val]; omega
      rw [e, digs_small (by omega)]
      exact ⟨by omega, by rw [Int.toNat_of_nonneg (by omega)]⟩
    · rw [if_neg ht] at h
      obtain ⟨h1, h2⟩ := canT_digs t h.2.2
      rw [val]
      refine ⟨by omega, ?_⟩
      rw [digs_big (by omega), show (x.toNat % 128 + 128 * val t) / 128 = val t by omega, h2]
      congr 1; omega
theorem can_digs : ∀ c : List Int, Can c → digs (val c) = c
  | [], h => h.elim
  | x :: t, h => by
    simp only [Can] at h
    by_cases ht : t = []
    · rw [if_pos ht] at h
      subst ht
      have e : val [x] = x.toNat := by simp [val]; omega
      rw [e, digs_small (by omega), Int.toNat_of_nonneg (by omega)]
    · rw [if_neg ht] at h
      obtain ⟨h1, h2⟩ := canT_digs t h.2.2
      rw [val]
      rw [digs_big (by omega), show (x.toNat % 128 + 128 * val t) / 128 = val t by omega, h2]
      congr 1; omega
theorem rd_cons_succ (x : Int) (t : List Int) (k : Nat) : rd (x :: t) ((k + 1 : Nat) : Int) = rd t (k : Int) := by
  unfold rd; rw [Int.toNat_natCast, Int.toNat_natCast]; simp
theorem canT_last : ∀ (c r : List Int), CanT c → lastAt (c ++ r) = some (c.length - 1) ∧ 0 < rd (c ++ r) ((c.length - 1 : Nat) : Int) ∧ rd (c ++ r) ((c.length - 1 : Nat) : Int) < 128
  | [], r, h => h.elim
  | x :: t, r, h => by
    unfold CanT at h
    by_cases ht : t = []
    · rw [if_pos ht] at h
      subst ht
      exact ⟨by simp [lastAt, h.2], by simpa [rd] using h⟩
    · rw [if_neg ht] at h
      obtain ⟨h1, h2⟩ := canT_last t r h.2.2
      have hp : 0 < t.length := List.length_pos_iff.2 ht
      have e : (x :: t).length - 1 = (t.length - 1) + 1 := by simp; omega
      refine ⟨?_, ?_⟩
      · rw [List.cons_append, lastAt, if_neg (by omega), h1, e]; rfl
      · rw [e, List.cons_append, rd_cons_succ]; exact h2
theorem can_last : ∀ (c r : List Int), Can c → lastAt (c ++ r) = some (c.length - 1) ∧ (1 < c.length → 0 < rd (c ++ r) ((c.length - 1 : Nat) : Int)) ∧ rd (c ++ r) ((c.length - 1 : Nat) : Int) < 128
  | [], r, h => h.elim
  | x :: t, r, h => by
    simp only [Can] at h
    by_cases ht : t = []
    · rw [if_pos ht] at h
      subst ht
      exact ⟨by simp [lastAt, h.2], by simp, by simpa [rd] using h.2⟩
    · rw [if_neg ht] at h
      obtain ⟨h1, h2, h3⟩ := canT_last t r h.2.2
      have hp : 0 < t.length := List.length_pos_iff.2 ht
      have e : (x :: t).length - 1 = (t.length - 1) + 1 := by simp; omega
      refine ⟨?_, ?_⟩
      · rw [List.cons_append, lastAt, if_neg (by omega), h1, e]; rfl
      · rw [e, List.cons_append, rd_cons_succ]; exact ⟨fun _ => h2, h3⟩
theorem lastAt_canT : ∀ (b : List Int) (i : Nat), lastAt b = some i → U8 b → rd b (i : Int) ≠ 0 → CanT (b.take (i + 1))
  | [], i, h, _, _ => by cases h
  | x :: t, i, h, hU, hz => by
    have hx := hU x (List.mem_cons_self ..)
    unfold lastAt at h
    by_cases h0 : x < 128
    · rw [if_pos h0] at h
      obtain rfl := Option.some.inj h
      have : x ≠ 0 := by simpa [rd] using hz
      simp [CanT]; omega
    · rw [if_neg h0] at h
      obtain ⟨j, hj, rfl⟩ := Option.map_eq_some_iff.1 h
      rw [rd_cons_succ] at hz
      have := lastAt_canT t j hj (fun y hy => hU y (List.mem_cons_of_mem _ hy)) hz
      rw [List.take_succ_cons, CanT, if_neg (fun he => by rw [he] at this; exact this)]
      exact ⟨by omega, by omega, this⟩
theorem lastAt_can (b : List Int) (i : Nat) (h : lastAt b = some i) (hU : U8 b) (hz : ¬(1 < i + 1 ∧ rd b (i : Int) = 0)) : Can (b.take (i + 1)) := by
  match b, h, hU, hz with
  | x :: t, h, hU, hz =>
    have hx := hU x (List.mem_cons_self ..)
    unfold lastAt at h
    by_cases h0 : x < 128
    · rw [if_pos h0] at h
      obtain rfl := Option.some.inj h
      simp [Can]; omega
    · rw [if_neg h0] at h
      obtain ⟨j, hj, rfl⟩ := Option.map_eq_some_iff.1 h
      rw [rd_cons_succ] at hz
      have := lastAt_canT t j hj (fun y hy => hU y (List.mem_cons_of_mem _ hy)) (fun h => hz ⟨by omega, h⟩)
      rw [List.take_succ_cons, Can, if_neg (fun he => by rw [he] at this; exact this)]
      exact ⟨by omega, by omega, this⟩
theorem xor_i64_zero (y : Nat) (h : y < 9223372036854775808) : Go.bits .xor .i64 (y : Int) 0 = (y : Int) := by
  show IntKind.i64.wrap ((BitVec.ofInt 64 (y : Int) ^^^ BitVec.ofInt 64 0).toNat : Int) = _
  have h1 : (BitVec.ofInt 64 (y : Int)).toNat = y := by rw [BitVec.ofInt_natCast, BitVec.toNat_ofNat]; exact Nat.mod_eq_of_lt (by omega)
  rw [BitVec.toNat_xor, h1, show (BitVec.ofInt 64 0).toNat = 0 by decide, Nat.xor_zero, IntKind.wrap_i64]
  omega
theorem unzig_eq (n : Nat) (h : n < 2 ^ 64) : unzig (n : Int) = if n % 2 = 0 then ((n / 2 : Nat) : Int) else -1 - ((n / 2 : Nat) : Int) := by
  unfold unzig
  have e1 : wrap64 ((n : Int) / 2) = ((n / 2 : Nat) : Int) := by unfold wrap64; omega
  have e2 : Go.bits .and .u64 (n : Int) 1 = ((n % 2 : Nat) : Int) := by
    have := bits_and_u64_nat n 1 (by omega) (by decide)
    rw [Nat.and_one_is_mod] at this
    exact this
  rw [e1, e2]
  split
  · next hz =>
    rw [hz, show wrap64 (-wrap64 ((0 : Nat) : Int)) = 0 by unfold wrap64; omega, xor_i64_zero _ (by omega)]
  · next hz =>
    rw [show n % 2 = 1 by omega, show wrap64 (-wrap64 ((1 : Nat) : Int)) = -1 by unfold wrap64; omega, bits_xor_comm, i64_not _ (by omega)]
theorem unzig_zig {x : Int} (h0 : -9223372036854775808 ≤ x) (h1 : x ≤ 9223372036854775807) : unzig (zig x : Int) = x := by
  rw [unzig_eq _ (zig_lt h0 h1)]
  unfold zig
  split <;> split <;> omega
theorem zig_unzig {n : Nat} (h : n < 2 ^ 64) : zig (unzig (n : Int)) = n := by
  rw [unzig_eq _ h]
  unfold zig
  split <;> split <;> omega
theorem unzig_bounds {n : Nat} (h : n < 2 ^ 64) : -9223372036854775808 ≤ unzig (n : Int) ∧ unzig (n : Int) ≤ 9223372036854775807 := by
  rw [unzig_eq _ h]
  split <;> omega
theorem rd9 (n : Nat) (h : n < 2 ^ 64) (r : List Int) (h10 : 9 < (digs n).length) : rd (digs n ++ r) 9 ≤ 1 := by
  have h1 := digs_le10 h
  have hl : (digs n).length = 10 := by omega
  have hv := val_digs n
  have ht : digs n = (digs n).take 9 ++ [rd (digs n) ((9 : Nat) : Int)] := by
    rw [← take_next (by omega)]; exact (List.take_of_length_le (by omega)).symm
  rw [ht, val_snoc, List.length_take, hl] at hv
  have hc := (can_last (digs n) r (digs_can n)).2.2
  rw [hl] at hc
  have e : rd (digs n ++ r) ((9 : Nat) : Int) = rd (digs n) ((9 : Nat) : Int) := by
    rw [rd_get (b := digs n) (k := 9) (by omega), rd_get (b := digs n ++ r) (k := 9) (by rw [List.length_append]; omega), List.getElem_append_left]
  have e9 : ((9 : Nat) : Int) = 9 := rfl
  have e10 : ((10 - 1 : Nat) : Int) = 9 := rfl
  rw [e9] at hv e
  rw [e10] at hc
  rw [e] at hc ⊢
  have hm : min 9 10 = 9 := rfl
  rw [hm] at hv
  generalize rd (digs n) 9 = z at *
  omega
theorem get_enc : ∀ (l acc : List Int) (k : Nat), I64 l → acc.length + l.length ≤ 17592186044416 → l.length + 1 ≤ k → codec_Get.l0 k acc (enc l) = some (acc ++ l, 0)
  | [], acc, 0, _, _, h => by simp at h
  | [], acc, k + 1, _, _, _ => by simp [codec_Get.l0, enc]
  | x :: l, acc, 0, _, _, h => by simp at h
  | x :: l, acc, k + 1, hi, ha, hk => by
    have hx := hi x (List.mem_cons_self ..)
    have hz := zig_lt hx.1 hx.2
    rw [enc_cons]
    obtain ⟨h1, h2, h3⟩ := can_last (digs (zig x)) (enc l) (digs_can _)
    have hp := digs_pos (zig x)
    have h10 := digs_le10 hz
    have e : (digs (zig x)).length - 1 + 1 = (digs (zig x)).length := by omega
    have r9 := rd9 (zig x) hz (enc l)
    have ht : (digs (zig x) ++ enc l).take (digs (zig x)).length = digs (zig x) := by simp
    have hv := (digTo_val (b := digs (zig x) ++ enc l) (fun y hy => by
      rcases List.mem_append.1 hy with hy | hy
      · exact digs_bytes _ y hy
      · exact enc_U8 l y hy) (digs (zig x)).length (by simp) h10 (fun he => r9 (by omega))).1
    rw [ht, val_digs] at hv
    rw [codec_Get.l0, if_neg (by rw [List.length_append]; omega)]
    simp only [h1, e]
    rw [if_neg (by rintro ⟨ha, hb⟩; have := r9 ha; omega), if_neg (by rintro ⟨ha, hb⟩; have := h2 ha; omega), if_pos (by simp at ha; omega), hv, unzig_zig hx.1 hx.2]
    have hd : (digs (zig x) ++ enc l).drop (digs (zig x)).length = enc l := by simp
    rw [hd, get_enc l (acc ++ [x]) k (fun y hy => hi y (List.mem_cons_of_mem _ hy)) (by simp at ha ⊢; omega) (by simp at hk; omega)]
    simp
theorem get_f {l : List Int} (h : I64 l) (hl : l.length ≤ 17592186044416) : codec_Get.f (enc l) = some (l, 0) := by
  have h1 : l.length ≤ (enc l).length := by
    clear hl h
    induction l with
    | nil => simp
    | cons x l ih => rw [enc_cons, List.length_append, List.length_cons]; have := digs_pos (zig x); omega
  have := get_enc l [] ((enc l).length + 1) h (by simpa using hl) (by omega)
  simpa [codec_Get.f] using this
theorem get_back : ∀ (k : Nat) (acc b : List Int), U8 b → b.length < k → acc.length + b.length ≤ 17592186044416 →
    (∃ m, codec_Get.l0 k acc b = some (acc ++ m, 0) ∧ enc m = b ∧ I64 m ∧ m.length ≤ b.length) ∨ codec_Get.l0 k acc b = some ([], 7) ∨ codec_Get.l0 k acc b = some ([], 8)
  | 0, acc, b, _, h, _ => by omega
  | k + 1, acc, b, hU, hk, ha => by
    rw [codec_Get.l0]
    by_cases hz : b.length = 0
    · rw [if_pos hz]
      left
      refine ⟨[], by simp, ?_, (by intro x hx; cases hx), by simp⟩
      rw [enc_nil, List.eq_nil_of_length_eq_zero hz]
    rw [if_neg hz]
    cases hla : lastAt b with
    | none =>
      right
      simp only
      split
      · exact .inl rfl
      · exact .inr rfl
    | some i =>
      simp only
      by_cases c1 : 9 < i + 1 ∧ 1 < rd b 9
      · rw [if_pos c1]; exact .inr (.inl rfl)
      rw [if_neg c1]
      by_cases c2 : 1 < i + 1 ∧ rd b (i : Int) = 0
      · rw [if_pos c2]; exact .inr (.inl rfl)
      rw [if_neg c2, if_pos (by omega)]
      have hi := lastAt_lt hla
      have h10 : i + 1 ≤ 10 := by
        by_cases h : i + 1 ≤ 10
        · exact h
        · have := lastAt_before hla 9 (by omega)
          have e9 : ((9 : Nat) : Int) = 9 := rfl
          rw [e9] at this
          exact absurd ⟨by omega, by omega⟩ c1
      obtain ⟨hv, hlt⟩ := digTo_val hU (i + 1) (by omega) h10 (fun he => by
        by_cases h : rd b 9 ≤ 1
        · exact h
        · exact absurd ⟨by omega, by omega⟩ c1)
      rw [hv]
      have hcan := can_digs _ (lastAt_can b i hla hU c2)
      have hUd : U8 (b.drop (i + 1)) := fun y hy => hU y (List.mem_of_mem_drop hy)
      rcases get_back k (acc ++ [unzig (val (b.take (i + 1)) : Int)]) (b.drop (i + 1)) hUd (by rw [List.length_drop]; omega) (by rw [List.length_drop, List.length_append, List.length_singleton]; omega) with ⟨m, h1, h2, h3, h4⟩ | h | h
      · left
        refine ⟨unzig (val (b.take (i + 1)) : Int) :: m, by rw [h1]; simp, ?_, ?_, ?_⟩
        · rw [enc_cons, zig_unzig hlt, hcan, h2, List.take_append_drop]
        · intro y hy
          rcases List.mem_cons.1 hy with rfl | hy
          · exact unzig_bounds hlt
          · exact h3 y hy
        · rw [List.length_drop] at h4; simp; omega
      · exact .inr (.inl h)
      · exact .inr (.inr h)
theorem get_f_back {b : List Int} (h : U8 b) (hl : b.length ≤ 17592186044416) :
    (∃ m, codec_Get.f b = some (m, 0) ∧ enc m = b ∧ I64 m ∧ m.length ≤ b.length) ∨ codec_Get.f b = some ([], 7) ∨ codec_Get.f b = some ([], 8) := by
  have := get_back (b.length + 1) [] b h (by omega) (by simpa using hl)
  simpa [codec_Get.f] using this
end Go.Proofs.YthiealhmcfdakaaM
end
section
set_option linter.unusedVariables false
set_option linter.unusedSimpArgs false
namespace Go.Proofs.YthiealhmcfdakaaM
open Go Go.RowKit Go.Proofs.YthiealhmcfdakaaH Go.Proofs.Ythiealhmcfdakaa.E Go.Proofs.YthiealhmcfdakaaW.PrintWords
def headW (w : Wn) : List Int := [w.st, w.ki, w.nu, w.iss, w.unt, w.xlo, w.xhi, w.ylo, w.yhi, w.pri, if w.wd then 1 else 0]
def intsOf (w : Wn) : List Int := headW w ++ w.text
theorem intsOf_len (w : Wn) : (intsOf w).length = w.text.length + 11 := by simp [intsOf, headW]
theorem intsOf_I64 {w : Wn} (h : validW w) (hU : U8 w.text) : I64 (intsOf w) := by
  obtain ⟨⟨n1, n2, n3, n4, n5, n6⟩, h2, h3, h4, h5, h6, h7, h8, h9⟩ := h
  intro x hx
  rcases List.mem_append.1 hx with hx | hx
  · simp only [headW, List.mem_cons, List.not_mem_nil, or_false] at hx
    split at hx <;> omega
  · have := hU x hx; omega
theorem wbytes_l0 {t : List Int} (hU : U8 t) (ht : t.length ≤ 200) (r : List Int) (K : Nat) : ∀ (d i : Nat) (acc : List Int), i + d = t.length → acc.length + d ≤ 1000 → codec_Put.f K (acc ++ t.drop i) = some r →
    piece_Bytes.l0 (d + K + 1) acc t (t.length : Int) (i : Int) = some (r, 0)
  | 0, i, acc, h, ha, hp => by
    rw [Nat.zero_add, piece_Bytes.l0, if_neg (by omega)]
    rw [List.drop_of_length_le (by omega), List.append_nil] at hp
    rw [hp]; rfl
  | d + 1, i, acc, h, ha, hp => by
    have hi : i < t.length := by omega
    have hr : rd t (i : Int) = t[i] := rd_get hi
    have hb := hU.rd_in hi
    rw [show d + 1 + K + 1 = (d + K + 1) + 1 by omega, piece_Bytes.l0, if_pos (by omega), if_pos (by omega), if_pos (by omega), if_pos (by omega)]
    have e1 : wrap64 ((i : Int) + 1) = ((i + 1 : Nat) : Int) := by unfold wrap64; omega
    have e2 : wrap64 (rd t (i : Int)) = rd t (i : Int) := by unfold wrap64; omega
    rw [e1, e2]
    refine wbytes_l0 hU ht r K d (i + 1) (acc ++ [rd t (i : Int)]) (by omega) (by simp; omega) ?_
    rw [← hp, List.append_assoc, hr, List.singleton_append, ← List.drop_eq_getElem_cons hi]
theorem bytes_ok {w : Wn} (h : validW w) (hU : U8 w.text) : bytesF 4000 w = some (enc (intsOf w), 0) := by
  have ht : w.text.length ≤ 200 := h.2.2.2.2.2.2.2.2
  have hI := intsOf_I64 h hU
  have hl := intsOf_len w
  have hp := put_f hI (by omega) (show 11 * (intsOf w).length + 1 ≤ 3998 - w.text.length by omega)
  unfold bytesF piece_Bytes.f piece_Valid.f
  rw [Option.bind_some, decide_eq_true (show validW ⟨w.st, w.ki, w.nu, w.iss, w.unt, w.xlo, w.xhi, w.ylo, w.yhi, w.pri, w.wd, w.text⟩ from h), if_pos rfl]
  have hb := wbytes_l0 hU ht (enc (intsOf w)) (3998 - w.text.length) w.text.length 0 (headW w) (by omega) (by simp [headW]; omega) (by rw [List.drop_zero]; exact hp)
  rw [show w.text.length + (3998 - w.text.length) + 1 = 3999 by omega] at hb
  cases hw : w.wd with
  | true =>
    rw [if_pos rfl]
    rw [show (4000 : Nat) = 3999 + 1 from rfl, piece_Bytes.j0, ← hb]
    simp only [headW, hw, if_true]
    rfl
  | false =>
    rw [if_neg (by simp)]
    rw [show (4000 : Nat) = 3999 + 1 from rfl, piece_Bytes.j0, ← hb]
    simp only [headW, hw]
    rfl
theorem bytes_bad {w : Wn} (h : ¬ validW w) (k : Nat) : bytesF k w = some ([], 1) := by
  unfold bytesF piece_Bytes.f piece_Valid.f
  rw [Option.bind_some, decide_eq_false (show ¬ validW ⟨w.st, w.ki, w.nu, w.iss, w.unt, w.xlo, w.xhi, w.ylo, w.yhi, w.pri, w.wd, w.text⟩ from h), if_neg (by simp)]
theorem warnOf_ints (w : Wn) : warnOf (intsOf w) = w := by
  obtain ⟨a, b, c, d, e, f, g, i, j, k, l, t⟩ := w
  unfold warnOf intsOf headW
  simp only [rd, List.cons_append, List.nil_append, List.drop_succ_cons, List.drop_zero]
  cases l <;> simp
theorem from_bytes {w : Wn} (h : validW w) (hU : U8 w.text) : piece_From.f (enc (intsOf w)) = some (w, 0) := by
  have ht : w.text.length ≤ 200 := h.2.2.2.2.2.2.2.2
  have hl := intsOf_len w
  unfold piece_From.f
  rw [get_f (intsOf_I64 h hU) (by omega), Option.bind_some]
  dsimp only
  rw [if_neg (by simp), if_neg (by omega), if_pos (by omega), warnOf_ints, if_pos]
  have hd : (intsOf w).drop 11 = w.text := rfl
  refine ⟨?_, ?_, ?_, h⟩
  · unfold textOk
    rw [hd, List.all_eq_true]
    exact fun x hx => decide_eq_true (hU x hx)
  · show 0 ≤ (if w.wd then (1 : Int) else 0)
    split <;> omega
  · show (if w.wd then (1 : Int) else 0) ≤ 1
    split <;> omega
theorem ints_warn {l : List Int} (h : ¬ l.length < 11) (h0 : 0 ≤ rd l 10) (h1 : rd l 10 ≤ 1) : intsOf (warnOf l) = l := by
  obtain ⟨a, b, d, e, f, g, i, j, k, lo, m, r, rfl⟩ : ∃ a b d e f g i j k l' m r, l = a :: b :: d :: e :: f :: g :: i :: j :: k :: l' :: m :: r := by
    match l, h with
    | a :: b :: d :: e :: f :: g :: i :: j :: k :: l :: m :: r, _ => exact ⟨a, b, d, e, f, g, i, j, k, l, m, r, rfl⟩
    | [], h => simp at h
    | [_], h => simp at h
    | [_, _], h => simp at h
    | [_, _, _], h => simp at h
    | [_, _, _, _], h => simp at h
    | [_, _, _, _, _], h => simp at h
    | [_, _, _, _, _, _], h => simp at h
    | [_, _, _, _, _, _, _], h => simp at h
    | [_, _, _, _, _, _, _, _], h => simp at h
    | [_, _, _, _, _, _, _, _, _], h => simp at h
    | [_, _, _, _, _, _, _, _, _, _], h => simp at h
  have hm : rd (a :: b :: d :: e :: f :: g :: i :: j :: k :: lo :: m :: r) 10 = m := rfl
  rw [hm] at h0 h1
  have hw : (if (m == 1) = true then (1 : Int) else 0) = m := by
    rcases (show m = 0 ∨ m = 1 by omega) with rfl | rfl <;> rfl
  unfold intsOf headW warnOf
  simp only [rd, List.cons_append, List.nil_append, List.drop_succ_cons, List.drop_zero]
  simp
  simpa using hw
theorem textOk_U8 {l : List Int} (h : textOk l = true) : U8 (l.drop 11) := by
  unfold textOk at h
  rw [List.all_eq_true] at h
  exact fun x hx => of_decide_eq_true (h x hx)
theorem from_back {b : List Int} (hU : U8 b) (hl : b.length < 1000000) : ∃ x e, piece_From.f b = some (x, e) ∧ ((e = 0 ∧ validW x ∧ U8 x.text ∧ enc (intsOf x) = b) ∨ ((e = 7 ∨ e = 8) ∧ x = zWn)) := by
  unfold piece_From.f
  rcases get_f_back hU (by omega) with ⟨m, h1, h2, h3, h4⟩ | h | h
  · rw [h1, Option.bind_some]
    dsimp only
    rw [if_neg (by simp)]
    by_cases c1 : m.length < 11
    · rw [if_pos c1]; exact ⟨_, _, rfl, .inr ⟨by omega, rfl⟩⟩
    rw [if_neg c1, if_pos (by omega)]
    by_cases c2 : textOk m = true ∧ 0 ≤ rd m 10 ∧ rd m 10 ≤ 1 ∧ validW (warnOf m)
    case neg => rw [if_neg c2]; exact ⟨_, _, rfl, .inr ⟨by omega, rfl⟩⟩
    rw [if_pos c2]
    refine ⟨_, _, rfl, .inl ⟨rfl, c2.2.2.2, textOk_U8 c2.1, ?_⟩⟩
    rw [ints_warn c1 c2.2.1 c2.2.2.1, h2]
  · rw [h, Option.bind_some]
    dsimp only
    rw [if_pos (by simp)]
    exact ⟨_, _, rfl, .inr ⟨by omega, rfl⟩⟩
  · rw [h, Option.bind_some]
    dsimp only
    rw [if_pos (by simp)]
    exact ⟨_, _, rfl, .inr ⟨by omega, rfl⟩⟩
theorem enc_le {l : List Int} {c : Nat} (h : ∀ x ∈ l, zig x < 128 ^ (c + 1)) : (enc l).length ≤ (c + 1) * l.length := by
  induction l with
  | nil => simp [enc_nil]
  | cons x l ih =>
    rw [enc_cons, List.length_append, List.length_cons]
    have h1 := digs_le c (zig x) (h x (List.mem_cons_self ..))
    have h2 := ih (fun y hy => h y (List.mem_cons_of_mem _ hy))
    rw [Nat.mul_add, Nat.mul_one]
    omega
theorem bytes_len {w : Wn} (h : validW w) (hU : U8 w.text) : (enc (intsOf w)).length ≤ 444 ∧ 1 ≤ (enc (intsOf w)).length := by
  have ht : w.text.length ≤ 200 := h.2.2.2.2.2.2.2.2
  obtain ⟨⟨n1, n2, n3, n4, n5, n6⟩, h2, h3, h4, h5, h6, h7, h8, h9⟩ := h
  have a1 : (enc (headW w)).length ≤ 4 * (headW w).length := enc_le (c := 3) (fun x hx => by
    simp only [headW, List.mem_cons, List.not_mem_nil, or_false] at hx
    have : -1000000 ≤ x ∧ x ≤ 10000000 := by split at hx <;> omega
    unfold zig
    split <;> omega)
  have a2 : (enc w.text).length ≤ 2 * w.text.length := enc_le (c := 1) (fun x hx => by
    have := hU x hx
    unfold zig
    split <;> omega)
  have a3 : (headW w).length = 11 := rfl
  have a4 : 1 ≤ (enc (headW w)).length := by
    rw [headW, enc_cons, List.length_append]
    have := digs_pos (zig w.st)
    omega
  unfold intsOf
  rw [enc_append, List.length_append]
  omega
theorem enc_inj {a b : List Int} (ha : I64 a) (hb : I64 b) (la : a.length ≤ 1000000) (lb : b.length ≤ 1000000) (h : enc a = enc b) : a = b := by
  have h1 := get_f ha (by omega)
  have h2 := get_f hb (by omega)
  rw [h, h2] at h1
  simpa using h1.symm
theorem ints_inj {a b : Wn} (h : intsOf a = intsOf b) : a = b := by rw [← warnOf_ints a, h, warnOf_ints]
end Go.Proofs.YthiealhmcfdakaaM
end
