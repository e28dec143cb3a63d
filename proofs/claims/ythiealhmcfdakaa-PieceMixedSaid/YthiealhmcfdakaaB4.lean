/- Lemmas and contracts that the laws of this seat share, part 4 (put together by this session's program out of its own texts and of the words that print.sh wrote for this seat). -/
import Derived.Lib.QuietBelow
import Derived.Maps.AppendAt
import Derived.Maps.OwnSet
import Derived.Maps.Views
import Derived.RangeFuncBox
import Derived.Test.YthiealhmcfdakaaB3
section
set_option linter.unusedVariables false
set_option linter.unusedSimpArgs false
namespace Go.Proofs.YthiealhmcfdakaaH
open Go Go.RowKit Go.Proofs.YthiealhmcfdakaaW.PrintWords Go.Proofs.YthiealhmcfdakaaW.PrintLast Go.Proofs.YthiealhmcfdakaaW.PrintMore Go.Proofs.Ythiealhmcfdakaa.E Go.Proofs.YthiealhmcfdakaaM
def heldR (v : Value) : Option (DataW Value × List MemPlace) := some (.held v, [])
theorem zero_row (w : World) : (zeroValue 28).run Try.prog w = .ok (.slice none 0 0) w := by
  obtain ⟨i0, hi, hz0, hz1, hz2⟩ := info_parts (show (Try.prog.info? 28).map (fun i => (i.zero, i.size, i.bytes)) = some (some (.slice none 0 0), 1, 24) by kernel_rfl)
  simp [zeroValue, typeInfo, Sem.run_bind, hi, hz0, Result.andThen]
theorem eqW (d : Nat) (w : World) (x0 y0 x1 y1 x2 y2 x3 y3 x4 y4 x5 y5 : Int) :
    (Op.equalIn (d + 3) 118 (.agg #[.int .i64 x0, .int .i64 x1, .int .i64 x2, .int .i64 x3, .int .i64 x4, .int .i64 x5]) (.agg #[.int .i64 y0, .int .i64 y1, .int .i64 y2, .int .i64 y3, .int .i64 y4, .int .i64 y5])).run Try.prog w = .ok ((x0 == y0 && (x1 == y1 && (x2 == y2))) && (x3 == y3 && (x4 == y4 && (x5 == y5)))) w := by
  refine eqA_of Try.underlying118 (by kernel_rfl) ?_
  refine eqf_cons (by rfl) (by go_simp) (by go_simp) (eqName (d + 0) w _ _ _ _ _ _) ?_
  refine eqf_cons (by rfl) (by go_simp; rfl) (by go_simp; rfl) (by go_simp) ?_
  refine eqf_cons (by rfl) (by go_simp; rfl) (by go_simp; rfl) (by go_simp) ?_
  exact eqf_last (by rfl) (by go_simp; rfl) (by go_simp; rfl) (by go_simp)
theorem guardW : Try.prog.eqGuardType Try.prog.depth 118 = false := by kernel_rfl
def gstep (f : Int → Option (List Int)) (p : S49) : Int → Option (List Int) := fun k => if k = p.f1 then some p.f5 else f k
def gathB (p0 : S49) : (Int → Option (List Int)) → List S49 → Option (Int → Option (List Int))
  | f, [] => some f
  | f, p :: r => if wholeEq p p0 = false then none else match f p.f1 with
    | some d => if d = p.f5 then gathB p0 (gstep f p) r else none
    | none => gathB p0 (gstep f p) r
def MapOK (w W : World) (b N : Nat) (f : Int → Option (List Int)) : Prop :=
  ∃ D : DataW Value, W.ownsMap Try.prog 3 heldR b N D ∧ ∀ k : Int, 0 ≤ k → k < 32 → match f k with
    | none => Maps.has D (.int .i64 k) = false
    | some d => Maps.has D (.int .i64 k) = true ∧ ∃ A c, (∀ zd, D.atKey (.int .i64 k) zd = .held (.slice A d.length c)) ∧ d.length ≤ c ∧ (Kd.int .u8).C w A d.length d ∧ d.length ≤ 200
theorem MapOK.of {w W W' : World} {b N : Nat} {f : Int → Option (List Int)} (h : MapOK w W b N f) (he : W'.heap[b]? = W.heap[b]?) : MapOK w W' b N f := by
  obtain ⟨D, ⟨es, cl, h1, h2, h3, h4⟩, h5⟩ := h
  exact ⟨D, ⟨es, cl, he.trans h1, h2, h3, h4⟩, h5⟩
theorem MapOK.isMap {W : World} {b N : Nat} {D : DataW Value} (h : W.ownsMap Try.prog 3 heldR b N D) : Maps.IsMap D := by
  obtain ⟨es, cl, h1, h2, h3, h4⟩ := h
  exact ⟨_, h4⟩
theorem keyLit (i : Int) : WideAt.IsKeyLit (.int .i64 i) := by simp [WideAt.IsKeyLit]
theorem MapOK.mono {w W : World} {b N N' : Nat} {f : Int → Option (List Int)} (h : MapOK w W b N f) (hN : N ≤ N') : MapOK w W b N' f := by
  obtain ⟨D, h1, h2⟩ := h
  exact ⟨D, h1.mono hN, h2⟩
theorem mapok_put {w : World} {D : DataW Value} {f : Int → Option (List Int)} {p : S49} {A : Option Addr} {c : Nat} (hm : Maps.IsMap D) (hA : p.f5.length ≤ c) (hC : (Kd.int .u8).C w A p.f5.length p.f5) (h200 : p.f5.length ≤ 200)
    (h : ∀ k : Int, 0 ≤ k → k < 32 → match f k with
      | none => Maps.has D (.int .i64 k) = false
      | some d => Maps.has D (.int .i64 k) = true ∧ ∃ A c, (∀ zd, D.atKey (.int .i64 k) zd = .held (.slice A d.length c)) ∧ d.length ≤ c ∧ (Kd.int .u8).C w A d.length d ∧ d.length ≤ 200) :
    ∀ k : Int, 0 ≤ k → k < 32 → match gstep f p k with
      | none => Maps.has (D.put (.int .i64 p.f1) (.held (.slice A p.f5.length c))) (.int .i64 k) = false
      | some d => Maps.has (D.put (.int .i64 p.f1) (.held (.slice A p.f5.length c))) (.int .i64 k) = true ∧ ∃ A' c', (∀ zd, (D.put (.int .i64 p.f1) (.held (.slice A p.f5.length c))).atKey (.int .i64 k) zd = .held (.slice A' d.length c')) ∧ d.length ≤ c' ∧ (Kd.int .u8).C w A' d.length d ∧ d.length ≤ 200 := by
  intro k h0 h1
  by_cases hk : k = p.f1
  · have e : gstep f p k = some p.f5 := if_pos hk
    rw [e, hk]
    exact ⟨Maps.has_put_same hm (keyLit _) _, A, c, fun zd => Maps.atKey_put_same hm (keyLit _) _ zd, hA, hC, h200⟩
  · have e : gstep f p k = f k := if_neg hk
    rw [e]
    have hne : (Lit.int .i64 k) ≠ (Lit.int .i64 p.f1) := fun h => hk (by injection h)
    have h2 := h k h0 h1
    cases hf : f k with
    | none =>
      rw [hf] at h2
      exact (Maps.has_put_other hne _).trans h2
    | some d =>
      rw [hf] at h2
      obtain ⟨h3, A', c', h4, h5, h6⟩ := h2
      exact ⟨(Maps.has_put_other hne _).trans h3, A', c', fun zd => (Maps.atKey_put_other hne _ zd).trans (h4 zd), h5, h6⟩
theorem okP_len {p : S49} (h : okP p) : p.f5.length ≤ 200 := by
  obtain ⟨_, _, _, h4, h5, h6, h7, _, _, h8⟩ := h
  have h9 := Int.ediv_lt_of_lt_mul (a := p.f3 + p.f2 - 1) (b := 201) (c := p.f2) (by omega) (by omega)
  omega
theorem wf_idx (i : Int) (h0 : 0 ≤ i) (h1 : i < 32) : (Lit.int .i64 i).wf = true := by
  have h2 : -9223372036854775808 ≤ i ∧ i ≤ 9223372036854775807 := by omega
  simp [Lit.wf, IntKind.min, IntKind.max, IntKind.signed, IntKind.bits]
  omega
theorem wpList_lookup_held {w : World} {ops : Array Oper} {rest : List Oper} {o : Oper} {a : Act} {Q : Exit → Act → World → Prop} (hg : o.guard = none) (m x : Operand) (hop : o.op = Op.lookup 89 m x true)
    (b n : Nat) (D : DataW Value) (hm : a.eval m = .map (some b)) (hown : w.ownsMap Try.prog 3 heldR b n D) (key : Value) (kl : Lit) (hx : a.eval x = key) (hkey : keyOf Try.prog 3 key = some kl)
    (u : Value) (hat : ∀ zd, D.atKey kl zd = .held u) (hh : Maps.has D kl = true) (h : wpList Try.prog ops Q rest (a.put o.dst (.tuple #[u, .bool true])) w) : wpList Try.prog ops Q (o :: rest) a w := by
  refine wpList_lookup_own_ok w hg m x 89 hop 3 28 (Maps.int_keyed Try.underlying3) Try.underlying89 heldR (zero_row _) (.held (.slice none 0 0)) [] rfl b n D hm hown key kl hx hkey (fun v ps hv => ?_)
  rw [hat] at hv
  simp only [heldR, Option.some.injEq, Prod.mk.injEq, DataW.held.injEq] at hv
  rw [hv.1, hh]
  exact h
def gathPost (w w' : World) (e : Ending) : Option (Int → Option (List Int)) → Prop
  | none => e = .returned (.tuple #[.map none, .bool false])
  | some f => ∃ b, e = .returned (.tuple #[.map (some b), .bool true]) ∧ MapOK w w' b 1000 f
set_option maxHeartbeats 8000000 in
set_option maxRecDepth 100000 in
theorem gathered_calls (A : Option Addr) (c : Nat) (l : List S49) (w : World) (hr : Kd.C k49 w A l.length l) (hc : l.length ≤ c) (hok : allOk l = true) (hne : 0 < l.length) (hl : l.length ≤ 1000) :
    Calls Try.prog 43 #[.slice A l.length c] w fun e w' => gathPost w w' e (gathB (l.getD 0 z49) (fun _ => none) l) ∧ Below w.heap.size w w' := by
  have hu49 := Try.underlying49
  have hu23 := Try.underlying23
  have hu118 := Try.underlying118
  have hmm := @run_makeMap Try.prog
  have hi49 : (Try.prog.info? 49).map (·.size) = some 8 := by kernel_rfl
  have HR := Aside0.mk hr
  have hgd := guardW
  have hmix : Try.prog.follows .mixedOrders = true := by kernel_rfl
  obtain ⟨p0, hp0⟩ : ∃ p0, p0 = l.getD 0 z49 := ⟨_, rfl⟩
  obtain ⟨ad, A0, c0, e0, g0, g1, g2, g3, g4, g5, g6, g7, g8, g9⟩ := at_T49 hr 0 (by omega) (by omega)
  have hr0 : rd_T49 l 0 = p0 := by rw [hp0]; rfl
  rw [hr0] at g0 g1 g2 g3 g4 g5 g6 g7 g8 g9
  subst e0
  simp only [Int.toNat_zero, Nat.zero_mul, show ad.add 0 = ad from rfl] at g0 g1 g2 g3 g4 g5 g6 g7
  rw [← hp0]
  have HP0 := Aside0.mk hp0
  clear hp0 hr0 hr
  go_enter Try.func43, Try.ntmps43
  go_wp2_with fail
  have hB0 : Below w.heap.size w (w.alloc (.map #[] 0)) := (Below.refl _ _).alloc (Nat.le_refl _) _
  have hM0 : MapOK w (w.alloc (.map #[] 0)) w.heap.size 0 (fun _ => none) := by
    exact ⟨.map [], World.ownsMap_made w _ _ _, fun k _ _ => rfl⟩
  go_loopw [12] (fun q wr => ∃ (i : Nat) (f : Int → Option (List Int)), q = .int .i64 (i : Int) ∧ i ≤ l.length ∧ MapOK w wr w.heap.size i f ∧ Below w.heap.size w wr ∧ w.heap.size < wr.heap.size ∧ Aside0 (gathB p0 (fun _ => none) l = gathB p0 f (l.drop i))) (fun q _ => l.length - (intOf q).toNat)
  case atStart => exact ⟨0, fun _ => none, rfl, Nat.zero_le _, hM0, hB0, by simp, ⟨rfl⟩⟩
  case round =>
    clear hM0 hB0
    obtain ⟨i, f, rfl, hi, hM, hB, hsz, HG⟩ := hrel
    by_cases hil : i < l.length
    · have hi2 : (i : Int) < (l.length : Int) := by omega
      have hi3 : (0 : Int) ≤ (i : Int) := by omega
      obtain ⟨ad', A7, c7, e7, h0, h1, h2, h3, h4, h5, h6, h7, h8, h9⟩ := at_T49 HR.out (i : Int) hi3 hi2
      obtain rfl := Option.some.inj e7
      rw [Int.toNat_natCast] at h0 h1 h2 h3 h4 h5 h6 h7
      have hpi : rd_T49 l (i : Int) = l[i] := by rw [rd_T49, Int.toNat_natCast, List.getD_eq_getElem?_getD, List.getElem?_eq_getElem hil, Option.getD_some]
      rw [hpi] at h0 h1 h2 h3 h4 h5 h6 h7 h8 h9
      have hokp : okP l[i] := by
        have := List.all_eq_true.1 hok l[i] (List.getElem_mem hil)
        exact of_decide_eq_true this
      have h200 := okP_len hokp
      obtain ⟨hname, hx0, hx1, hrest⟩ := hokp
      have hdr : l.drop i = l[i] :: l.drop (i + 1) := List.drop_eq_getElem_cons hil
      have hg := HG.out
      rw [hdr, gathB] at hg
      obtain ⟨p, hp⟩ : ∃ p, p = l[i] := ⟨_, rfl⟩
      rw [← hp] at h0 h1 h2 h3 h4 h5 h6 h7 h8 h9 hg hx0 hx1 h200
      have HGG := Aside0.mk hg
      have HPI := Aside0.mk hp
      clear hg hdr hp hpi hname hrest HG
      have hlow : ∀ {a : Addr} {v : Value}, w.cell? a = some v → wr.cell? a = some v := fun {a v} h => (hB.cell (Nat.lt_of_not_le (fun hge => by have := Array.getElem?_eq_none hge; simp [World.cell?, this] at h))).trans h
      have j0 := hlow h0
      have j1 := hlow h1
      have j2 := hlow h2
      have j3 := hlow h3
      have j4 := hlow h4
      have j5 := hlow h5
      have j6 := hlow h6
      have j7 := hlow h7
      have y0 := hlow g0
      have y1 := hlow g1
      have y2 := hlow g2
      have y3 := hlow g3
      have y4 := hlow g4
      have y5 := hlow g5
      have y6 := hlow g6
      have y7 := hlow g7
      clear hlow h0 h1 h2 h3 h4 h5 h6 h7
      obtain ⟨⟨n0, n1, n2⟩, ix, nd, sz, sm, dat⟩ := p
      dsimp only at *
      obtain ⟨W1, hW1⟩ : ∃ W1, W1 = wr.alloc (.cells #[.int .i64 n0, .int .i64 n1, .int .i64 n2, .int .i64 ix, .int .i64 nd, .int .i64 sz, .int .i64 sm, .slice A7 dat.length c7] 49) := ⟨_, rfl⟩
      have hbx : W1.heap[wr.heap.size]? = some (.cells #[.int .i64 n0, .int .i64 n1, .int .i64 n2, .int .i64 ix, .int .i64 nd, .int .i64 sz, .int .i64 sm, .slice A7 dat.length c7] 49 (0, 0)) := by rw [hW1]; exact World.alloc_heap_new _ _
      have hb1 : Below wr.heap.size wr W1 := by rw [hW1]; exact (Below.refl _ _).alloc (Nat.le_refl _) _
      have hM1 : MapOK w W1 w.heap.size i f := hM.of (hb1.block _ hsz)
      have hB1 : Below w.heap.size w W1 := hB.trans (hb1.mono hB.size)
      have HBX := Aside0.mk hbx
      clear hM
      obtain ⟨D, hown, hD⟩ := hM1
      have hDk := hD ix hx0 hx1
      have hkey : keyOf Try.prog 3 (.int .i64 ix) = some (.int .i64 ix) := Maps.keyOf_int_mk Try.underlying3 (wf_idx ix hx0 hx1)
      have hc1 : W1.cell? ⟨wr.heap.size, 3, none⟩ = some (.int .i64 ix) := (blk_cell hbx 3).trans rfl
      clear hbx
      subst hW1
      cases hf : f ix with
      | none =>
        rw [hf] at hDk
        have HF := Aside0.mk hf
        have hhas : Maps.has D (.int .i64 ix) = false := hDk
        clear hf hDk
        go_wp2_with (first | (refine wpList_store_row rfl 49 (.tmp 6) (.tmp 15) rfl wr.heap.size rfl #[.int .i64 n0, .int .i64 n1, .int .i64 n2, .int .i64 ix, .int .i64 nd, .int .i64 sz, .int .i64 sm, .slice A7 dat.length c7] rfl 49 #[.int .i64 0, .int .i64 0, .int .i64 0, .int .i64 0, .int .i64 0, .int .i64 0, .int .i64 0, .slice none 0 0] (World.alloc_heap_new _ _) rfl ?h1 hi49 ?_; (case h1 => simp [Value.oneCell']); rw [World.setRow_alloc_new]) | (at_lookup; refine wpList_lookup_own_ok _ rfl (.tmp 17) (.tmp 19) 89 rfl 3 28 (Maps.int_keyed Try.underlying3) Try.underlying89 heldR (zero_row _) (.held (.slice none 0 0)) [] rfl w.heap.size i D rfl hown (.int .i64 ix) (.int .i64 ix) rfl hkey ?_; intro v ps hv; rw [hhas]))
        obtain ⟨W1, hW1⟩ : ∃ W1, W1 = wr.alloc (.cells #[.int .i64 n0, .int .i64 n1, .int .i64 n2, .int .i64 ix, .int .i64 nd, .int .i64 sz, .int .i64 sm, .slice A7 dat.length c7] 49) := ⟨_, rfl⟩
        rw [← hW1] at hown hB1 HBX hb1 hc1 ⊢
        clear hW1
        have hS : ∀ W, Below W1.heap.size W1 W → (fun w' : World => w'.cell? ⟨wr.heap.size, 0, none⟩ = some (.int .i64 n0) ∧ w'.cell? ⟨wr.heap.size, 1, none⟩ = some (.int .i64 n1) ∧ w'.cell? ⟨wr.heap.size, 2, none⟩ = some (.int .i64 n2) ∧ w'.cell? ⟨wr.heap.size, 3, none⟩ = some (.int .i64 ix) ∧ w'.cell? ⟨wr.heap.size, 4, none⟩ = some (.int .i64 nd) ∧ w'.cell? ⟨wr.heap.size, 5, none⟩ = some (.int .i64 sz) ∧ w'.cell? ⟨wr.heap.size, 6, none⟩ = some (.int .i64 sm) ∧ w'.cell? ⟨wr.heap.size, 7, none⟩ = some (.slice A7 dat.length c7) ∧ w'.cell? ad = some (.int .i64 p0.f0.f0) ∧ w'.cell? ⟨ad.block, ad.off + 1, none⟩ = some (.int .i64 p0.f0.f1) ∧ w'.cell? ⟨ad.block, ad.off + 2, none⟩ = some (.int .i64 p0.f0.f2) ∧ w'.cell? ⟨ad.block, ad.off + 3, none⟩ = some (.int .i64 p0.f1) ∧ w'.cell? ⟨ad.block, ad.off + 4, none⟩ = some (.int .i64 p0.f2) ∧ w'.cell? ⟨ad.block, ad.off + 5, none⟩ = some (.int .i64 p0.f3) ∧ w'.cell? ⟨ad.block, ad.off + 6, none⟩ = some (.int .i64 p0.f4) ∧ w'.cell? ⟨ad.block, ad.off + 7, none⟩ = some (.slice A0 p0.f5.length c0)) W := fun W hW => ⟨((hW.cell (p := ⟨wr.heap.size, 0, none⟩) (blk_lt HBX.out)).trans (blk_cell HBX.out 0)).trans rfl, ((hW.cell (p := ⟨wr.heap.size, 1, none⟩) (blk_lt HBX.out)).trans (blk_cell HBX.out 1)).trans rfl, ((hW.cell (p := ⟨wr.heap.size, 2, none⟩) (blk_lt HBX.out)).trans (blk_cell HBX.out 2)).trans rfl, ((hW.cell (p := ⟨wr.heap.size, 3, none⟩) (blk_lt HBX.out)).trans (blk_cell HBX.out 3)).trans rfl, ((hW.cell (p := ⟨wr.heap.size, 4, none⟩) (blk_lt HBX.out)).trans (blk_cell HBX.out 4)).trans rfl, ((hW.cell (p := ⟨wr.heap.size, 5, none⟩) (blk_lt HBX.out)).trans (blk_cell HBX.out 5)).trans rfl, ((hW.cell (p := ⟨wr.heap.size, 6, none⟩) (blk_lt HBX.out)).trans (blk_cell HBX.out 6)).trans rfl, ((hW.cell (p := ⟨wr.heap.size, 7, none⟩) (blk_lt HBX.out)).trans (blk_cell HBX.out 7)).trans rfl, (hW.cell (block_lt_of_cell ((hb1.cell (block_lt_of_cell y0)).trans y0))).trans ((hb1.cell (block_lt_of_cell y0)).trans y0), (hW.cell (block_lt_of_cell ((hb1.cell (block_lt_of_cell y1)).trans y1))).trans ((hb1.cell (block_lt_of_cell y1)).trans y1), (hW.cell (block_lt_of_cell ((hb1.cell (block_lt_of_cell y2)).trans y2))).trans ((hb1.cell (block_lt_of_cell y2)).trans y2), (hW.cell (block_lt_of_cell ((hb1.cell (block_lt_of_cell y3)).trans y3))).trans ((hb1.cell (block_lt_of_cell y3)).trans y3), (hW.cell (block_lt_of_cell ((hb1.cell (block_lt_of_cell y4)).trans y4))).trans ((hb1.cell (block_lt_of_cell y4)).trans y4), (hW.cell (block_lt_of_cell ((hb1.cell (block_lt_of_cell y5)).trans y5))).trans ((hb1.cell (block_lt_of_cell y5)).trans y5), (hW.cell (block_lt_of_cell ((hb1.cell (block_lt_of_cell y6)).trans y6))).trans ((hb1.cell (block_lt_of_cell y6)).trans y6), (hW.cell (block_lt_of_cell ((hb1.cell (block_lt_of_cell y7)).trans y7))).trans ((hb1.cell (block_lt_of_cell y7)).trans y7)⟩
        have hof1 := fun W (hW : Below W1.heap.size W1 W) => piece_of.calls n0 n1 n2 ix nd sz sm A7 c7 dat _ _ _ _ _ _ W (Kd.C_below h9 (hB1.trans (hW.mono hB1.size))) h8 rfl
        have hof2 := fun W (hW : Below W1.heap.size W1 W) => piece_of.calls p0.f0.f0 p0.f0.f1 p0.f0.f2 p0.f1 p0.f2 p0.f3 p0.f4 A0 c0 p0.f5 _ _ _ _ _ _ W (Kd.C_below g9 (hB1.trans (hW.mono hB1.size))) g8 rfl
        obtain ⟨we, hwe⟩ : ∃ we, we = wholeEq ⟨⟨n0, n1, n2⟩, ix, nd, sz, sm, dat⟩ p0 := ⟨_, rfl⟩
        have heq : ∀ wx, (Op.equalIn 10000 118 (.agg #[.int .i64 n0, .int .i64 n1, .int .i64 n2, .int .i64 nd, .int .i64 sz, .int .i64 sm]) (.agg #[.int .i64 p0.f0.f0, .int .i64 p0.f0.f1, .int .i64 p0.f0.f2, .int .i64 p0.f2, .int .i64 p0.f3, .int .i64 p0.f4])).run Try.prog wx = .ok we wx := fun wx => by rw [hwe]; exact eqW 9997 wx n0 p0.f0.f0 n1 p0.f0.f1 n2 p0.f0.f2 nd p0.f2 sz p0.f3 sm p0.f4
        have HWE := Aside0.mk hwe
        clear hwe
        cases we with
        | false =>
          have hBd : Below W1.heap.size W1 W1.drew := (Below.refl _ _).drew
          have hS0 := hS W1.drew hBd
          refine start_ (n := 17) (S := fun w' => w'.cell? ⟨wr.heap.size, 0, none⟩ = some (.int .i64 n0) ∧ w'.cell? ⟨wr.heap.size, 1, none⟩ = some (.int .i64 n1) ∧ w'.cell? ⟨wr.heap.size, 2, none⟩ = some (.int .i64 n2) ∧ w'.cell? ⟨wr.heap.size, 3, none⟩ = some (.int .i64 ix) ∧ w'.cell? ⟨wr.heap.size, 4, none⟩ = some (.int .i64 nd) ∧ w'.cell? ⟨wr.heap.size, 5, none⟩ = some (.int .i64 sz) ∧ w'.cell? ⟨wr.heap.size, 6, none⟩ = some (.int .i64 sm) ∧ w'.cell? ⟨wr.heap.size, 7, none⟩ = some (.slice A7 dat.length c7) ∧ w'.cell? ad = some (.int .i64 p0.f0.f0) ∧ w'.cell? ⟨ad.block, ad.off + 1, none⟩ = some (.int .i64 p0.f0.f1) ∧ w'.cell? ⟨ad.block, ad.off + 2, none⟩ = some (.int .i64 p0.f0.f2) ∧ w'.cell? ⟨ad.block, ad.off + 3, none⟩ = some (.int .i64 p0.f1) ∧ w'.cell? ⟨ad.block, ad.off + 4, none⟩ = some (.int .i64 p0.f2) ∧ w'.cell? ⟨ad.block, ad.off + 5, none⟩ = some (.int .i64 p0.f3) ∧ w'.cell? ⟨ad.block, ad.off + 6, none⟩ = some (.int .i64 p0.f4) ∧ w'.cell? ⟨ad.block, ad.off + 7, none⟩ = some (.slice A0 p0.f5.length c0)) (ds := []) #[false, false, false, false, false, false, false, false, false, false, false, false, false, false, false, false, false] hmix rfl rfl hS0 (fun hHeld => ?_)
          refine pure_ (i := 2) (N := (some 25)) (v := ?_) (a' := ?_) #[false, false, true, false, false, false, false, false, false, false, false, false, false, false, false, false, false] rfl rfl (by kernel_rfl) (fun _ _ _ h => h) (Or.inl ⟨by rfl, ?_⟩) ?_ ?_
          rotate_left
          · intro w'
            go_simp
            with_reducible rfl
          rotate_left
          · simp only [Act.put, List.setIfInBounds_toArray, List.set_cons_zero, List.set_cons_succ, i64_w, i32_w]
            rfl
          refine pure_ (i := 3) (N := (some 26)) (v := ?_) (a' := ?_) #[false, false, true, true, false, false, false, false, false, false, false, false, false, false, false, false, false] rfl rfl (by kernel_rfl) (fun _ _ _ h => h) (Or.inl ⟨by rfl, ?_⟩) ?_ ?_
          rotate_left
          · intro w'
            go_simp
            with_reducible rfl
          rotate_left
          · simp only [Act.put, List.setIfInBounds_toArray, List.set_cons_zero, List.set_cons_succ, i64_w, i32_w]
            rfl
          refine take_ (i := 0) (N := (some 23)) (v := ?_) (a' := ?_) #[true, false, true, true, false, false, false, false, false, false, false, false, false, false, false, false, false] rfl rfl (by kernel_rfl) (fun _ _ _ h => h) (Or.inl ⟨by rfl, ?_⟩) hHeld ?_ ?_
          rotate_left
          · rintro w' ⟨s0, s1, s2, s3, s4, s5, s6, s7, s8, s9, s10, s11, s12, s13, s14, s15⟩
            go_simp
            with_reducible rfl
          rotate_left
          · simp only [Act.put, List.setIfInBounds_toArray, List.set_cons_zero, List.set_cons_succ, i64_w, i32_w]
            rfl
          refine take_ (i := 4) (N := (some 27)) (v := ?_) (a' := ?_) #[true, false, true, true, true, false, false, false, false, false, false, false, false, false, false, false, false] rfl rfl (by kernel_rfl) (fun _ _ _ h => h) (Or.inl ⟨by rfl, ?_⟩) hHeld ?_ ?_
          rotate_left
          · rintro w' ⟨s0, s1, s2, s3, s4, s5, s6, s7, s8, s9, s10, s11, s12, s13, s14, s15⟩
            go_simp
            with_reducible rfl
          rotate_left
          · simp only [Act.put, List.setIfInBounds_toArray, List.set_cons_zero, List.set_cons_succ, i64_w, i32_w]
            rfl
          refine one_ (i := 1) (N := some 24) #[true, true, true, true, true, false, false, false, false, false, false, false, false, false, false, false, false] rfl rfl (by kernel_rfl) (by decide) (fun K hK => ?_)
          go_simp
          (with_reducible refine (hof1 _ hBd).mono ?_)
          rintro e w2 ⟨rfl, hbw2⟩
          have hB2 : Below W1.heap.size W1 w2 := hBd.trans (hbw2.mono hBd.size)
          refine hK.out _ _ (hS _ hB2) (fun hHeld => ?_)
          clear hK K
          refine one_ (i := 5) (N := some 28) #[true, true, true, true, true, true, false, false, false, false, false, false, false, false, false, false, false] rfl rfl (by kernel_rfl) (by decide) (fun K hK => ?_)
          go_simp
          (with_reducible refine (hof2 _ hB2).mono ?_)
          rintro e w3 ⟨rfl, hbw3⟩
          have hB3 : Below W1.heap.size W1 w3 := hB2.trans (hbw3.mono hB2.size)
          refine hK.out _ _ (hS _ hB3) (fun hHeld => ?_)
          clear hK K
          refine pure_ (i := 6) (N := (some 29)) (v := ?_) (a' := ?_) #[true, true, true, true, true, true, true, false, false, false, false, false, false, false, false, false, false] rfl rfl (by kernel_rfl) (fun _ _ _ h => h) (Or.inl ⟨by rfl, ?_⟩) ?_ ?_
          rotate_left
          · intro w'
            go_simp
            with_reducible rfl
          rotate_left
          · simp only [Act.put, List.setIfInBounds_toArray, List.set_cons_zero, List.set_cons_succ, i64_w, i32_w]
            rfl
          refine pure_ (i := 7) (N := (some 30)) (v := ?_) (a' := ?_) #[true, true, true, true, true, true, true, true, false, false, false, false, false, false, false, false, false] rfl rfl (by kernel_rfl) (fun _ _ _ h => h) (Or.inl ⟨by rfl, ?_⟩) ?_ ?_
          rotate_left
          · intro w'
            go_simp
            with_reducible rfl
          rotate_left
          · simp only [Act.put, List.setIfInBounds_toArray, List.set_cons_zero, List.set_cons_succ, i64_w, i32_w]
            rfl
          refine pure_ (i := 8) (N := some 31) (v := undef) (a' := ?_) #[true, true, true, true, true, true, true, true, true, false, false, false, false, false, false, false, false] rfl rfl (by kernel_rfl) (fun _ _ _ h => h) (Or.inr ⟨by rfl, rfl⟩) ?_ ?_
          rotate_left
          · simp only [Act.put, List.setIfInBounds_toArray, List.set_cons_zero, List.set_cons_succ, i64_w, i32_w]
            rfl
          refine pure_ (i := 9) (N := some 32) (v := undef) (a' := ?_) #[true, true, true, true, true, true, true, true, true, true, false, false, false, false, false, false, false] rfl rfl (by kernel_rfl) (fun _ _ _ h => h) (Or.inr ⟨by rfl, rfl⟩) ?_ ?_
          rotate_left
          · simp only [Act.put, List.setIfInBounds_toArray, List.set_cons_zero, List.set_cons_succ, i64_w, i32_w]
            rfl
          refine pure_ (i := 10) (N := some 33) (v := undef) (a' := ?_) #[true, true, true, true, true, true, true, true, true, true, true, false, false, false, false, false, false] rfl rfl (by kernel_rfl) (fun _ _ _ h => h) (Or.inr ⟨by rfl, rfl⟩) ?_ ?_
          rotate_left
          · simp only [Act.put, List.setIfInBounds_toArray, List.set_cons_zero, List.set_cons_succ, i64_w, i32_w]
            rfl
          refine pure_ (i := 11) (N := some 34) (v := undef) (a' := ?_) #[true, true, true, true, true, true, true, true, true, true, true, true, false, false, false, false, false] rfl rfl (by kernel_rfl) (fun _ _ _ h => h) (Or.inr ⟨by rfl, rfl⟩) ?_ ?_
          rotate_left
          · simp only [Act.put, List.setIfInBounds_toArray, List.set_cons_zero, List.set_cons_succ, i64_w, i32_w]
            rfl
          refine pure_ (i := 12) (N := some 35) (v := undef) (a' := ?_) #[true, true, true, true, true, true, true, true, true, true, true, true, true, false, false, false, false] rfl rfl (by kernel_rfl) (fun _ _ _ h => h) (Or.inr ⟨by rfl, rfl⟩) ?_ ?_
          rotate_left
          · simp only [Act.put, List.setIfInBounds_toArray, List.set_cons_zero, List.set_cons_succ, i64_w, i32_w]
            rfl
          refine pure_ (i := 13) (N := some 36) (v := undef) (a' := ?_) #[true, true, true, true, true, true, true, true, true, true, true, true, true, true, false, false, false] rfl rfl (by kernel_rfl) (fun _ _ _ h => h) (Or.inr ⟨by rfl, rfl⟩) ?_ ?_
          rotate_left
          · simp only [Act.put, List.setIfInBounds_toArray, List.set_cons_zero, List.set_cons_succ, i64_w, i32_w]
            rfl
          refine pure_ (i := 14) (N := some 37) (v := undef) (a' := ?_) #[true, true, true, true, true, true, true, true, true, true, true, true, true, true, true, false, false] rfl rfl (by kernel_rfl) (fun _ _ _ h => h) (Or.inr ⟨by rfl, rfl⟩) ?_ ?_
          rotate_left
          · simp only [Act.put, List.setIfInBounds_toArray, List.set_cons_zero, List.set_cons_succ, i64_w, i32_w]
            rfl
          refine pure_ (i := 15) (N := some 38) (v := undef) (a' := ?_) #[true, true, true, true, true, true, true, true, true, true, true, true, true, true, true, true, false] rfl rfl (by kernel_rfl) (fun _ _ _ h => h) (Or.inr ⟨by rfl, rfl⟩) ?_ ?_
          rotate_left
          · simp only [Act.put, List.setIfInBounds_toArray, List.set_cons_zero, List.set_cons_succ, i64_w, i32_w]
            rfl
          refine pure_ (i := 16) (N := (some 39)) (v := ?_) (a' := ?_) #[true, true, true, true, true, true, true, true, true, true, true, true, true, true, true, true, true] rfl rfl (by kernel_rfl) (fun _ _ _ h => h) (Or.inl ⟨by rfl, ?_⟩) ?_ ?_
          rotate_left
          · intro w'
            go_simp
            with_reducible rfl
          rotate_left
          · simp only [Act.put, List.setIfInBounds_toArray, List.set_cons_zero, List.set_cons_succ, i64_w, i32_w]
            rfl
          refine done_ (by kernel_rfl) ?_
          clear heq hof1 hof2 hS hHeld hS0
          have hBq := hB1.trans (hB3.mono hB1.size)
          go_wp2_with fail
          go_ret2
          refine ⟨?_, hBq⟩
          have hgn : gathB p0 (fun _ => none) l = none := by rw [HGG.out, ← HWE.out, if_pos rfl]
          rw [hgn]
          rfl
        | true =>
          have hBd : Below W1.heap.size W1 W1.drew := (Below.refl _ _).drew
          have hS0 := hS W1.drew hBd
          refine start_ (n := 17) (S := fun w' => w'.cell? ⟨wr.heap.size, 0, none⟩ = some (.int .i64 n0) ∧ w'.cell? ⟨wr.heap.size, 1, none⟩ = some (.int .i64 n1) ∧ w'.cell? ⟨wr.heap.size, 2, none⟩ = some (.int .i64 n2) ∧ w'.cell? ⟨wr.heap.size, 3, none⟩ = some (.int .i64 ix) ∧ w'.cell? ⟨wr.heap.size, 4, none⟩ = some (.int .i64 nd) ∧ w'.cell? ⟨wr.heap.size, 5, none⟩ = some (.int .i64 sz) ∧ w'.cell? ⟨wr.heap.size, 6, none⟩ = some (.int .i64 sm) ∧ w'.cell? ⟨wr.heap.size, 7, none⟩ = some (.slice A7 dat.length c7) ∧ w'.cell? ad = some (.int .i64 p0.f0.f0) ∧ w'.cell? ⟨ad.block, ad.off + 1, none⟩ = some (.int .i64 p0.f0.f1) ∧ w'.cell? ⟨ad.block, ad.off + 2, none⟩ = some (.int .i64 p0.f0.f2) ∧ w'.cell? ⟨ad.block, ad.off + 3, none⟩ = some (.int .i64 p0.f1) ∧ w'.cell? ⟨ad.block, ad.off + 4, none⟩ = some (.int .i64 p0.f2) ∧ w'.cell? ⟨ad.block, ad.off + 5, none⟩ = some (.int .i64 p0.f3) ∧ w'.cell? ⟨ad.block, ad.off + 6, none⟩ = some (.int .i64 p0.f4) ∧ w'.cell? ⟨ad.block, ad.off + 7, none⟩ = some (.slice A0 p0.f5.length c0)) (ds := []) #[false, false, false, false, false, false, false, false, false, false, false, false, false, false, false, false, false] hmix rfl rfl hS0 (fun hHeld => ?_)
          refine pure_ (i := 2) (N := (some 25)) (v := ?_) (a' := ?_) #[false, false, true, false, false, false, false, false, false, false, false, false, false, false, false, false, false] rfl rfl (by kernel_rfl) (fun _ _ _ h => h) (Or.inl ⟨by rfl, ?_⟩) ?_ ?_
          rotate_left
          · intro w'
            go_simp
            with_reducible rfl
          rotate_left
          · simp only [Act.put, List.setIfInBounds_toArray, List.set_cons_zero, List.set_cons_succ, i64_w, i32_w]
            rfl
          refine pure_ (i := 3) (N := (some 26)) (v := ?_) (a' := ?_) #[false, false, true, true, false, false, false, false, false, false, false, false, false, false, false, false, false] rfl rfl (by kernel_rfl) (fun _ _ _ h => h) (Or.inl ⟨by rfl, ?_⟩) ?_ ?_
          rotate_left
          · intro w'
            go_simp
            with_reducible rfl
          rotate_left
          · simp only [Act.put, List.setIfInBounds_toArray, List.set_cons_zero, List.set_cons_succ, i64_w, i32_w]
            rfl
          refine take_ (i := 0) (N := (some 23)) (v := ?_) (a' := ?_) #[true, false, true, true, false, false, false, false, false, false, false, false, false, false, false, false, false] rfl rfl (by kernel_rfl) (fun _ _ _ h => h) (Or.inl ⟨by rfl, ?_⟩) hHeld ?_ ?_
          rotate_left
          · rintro w' ⟨s0, s1, s2, s3, s4, s5, s6, s7, s8, s9, s10, s11, s12, s13, s14, s15⟩
            go_simp
            with_reducible rfl
          rotate_left
          · simp only [Act.put, List.setIfInBounds_toArray, List.set_cons_zero, List.set_cons_succ, i64_w, i32_w]
            rfl
          refine take_ (i := 4) (N := (some 27)) (v := ?_) (a' := ?_) #[true, false, true, true, true, false, false, false, false, false, false, false, false, false, false, false, false] rfl rfl (by kernel_rfl) (fun _ _ _ h => h) (Or.inl ⟨by rfl, ?_⟩) hHeld ?_ ?_
          rotate_left
          · rintro w' ⟨s0, s1, s2, s3, s4, s5, s6, s7, s8, s9, s10, s11, s12, s13, s14, s15⟩
            go_simp
            with_reducible rfl
          rotate_left
          · simp only [Act.put, List.setIfInBounds_toArray, List.set_cons_zero, List.set_cons_succ, i64_w, i32_w]
            rfl
          refine one_ (i := 1) (N := some 24) #[true, true, true, true, true, false, false, false, false, false, false, false, false, false, false, false, false] rfl rfl (by kernel_rfl) (by decide) (fun K hK => ?_)
          go_simp
          (with_reducible refine (hof1 _ hBd).mono ?_)
          rintro e w2 ⟨rfl, hbw2⟩
          have hB2 : Below W1.heap.size W1 w2 := hBd.trans (hbw2.mono hBd.size)
          refine hK.out _ _ (hS _ hB2) (fun hHeld => ?_)
          clear hK K
          refine one_ (i := 5) (N := some 28) #[true, true, true, true, true, true, false, false, false, false, false, false, false, false, false, false, false] rfl rfl (by kernel_rfl) (by decide) (fun K hK => ?_)
          go_simp
          (with_reducible refine (hof2 _ hB2).mono ?_)
          rintro e w3 ⟨rfl, hbw3⟩
          have hB3 : Below W1.heap.size W1 w3 := hB2.trans (hbw3.mono hB2.size)
          refine hK.out _ _ (hS _ hB3) (fun hHeld => ?_)
          clear hK K
          refine pure_ (i := 6) (N := (some 29)) (v := ?_) (a' := ?_) #[true, true, true, true, true, true, true, false, false, false, false, false, false, false, false, false, false] rfl rfl (by kernel_rfl) (fun _ _ _ h => h) (Or.inl ⟨by rfl, ?_⟩) ?_ ?_
          rotate_left
          · intro w'
            go_simp
            with_reducible rfl
          rotate_left
          · simp only [Act.put, List.setIfInBounds_toArray, List.set_cons_zero, List.set_cons_succ, i64_w, i32_w]
            rfl
          refine pure_ (i := 7) (N := (some 30)) (v := ?_) (a' := ?_) #[true, true, true, true, true, true, true, true, false, false, false, false, false, false, false, false, false] rfl rfl (by kernel_rfl) (fun _ _ _ h => h) (Or.inl ⟨by rfl, ?_⟩) ?_ ?_
          rotate_left
          · intro w'
            go_simp
            with_reducible rfl
          rotate_left
          · simp only [Act.put, List.setIfInBounds_toArray, List.set_cons_zero, List.set_cons_succ, i64_w, i32_w]
            rfl
          refine pure_ (i := 8) (N := (some 31)) (v := ?_) (a' := ?_) #[true, true, true, true, true, true, true, true, true, false, false, false, false, false, false, false, false] rfl rfl (by kernel_rfl) (fun _ _ _ h => h) (Or.inl ⟨by rfl, ?_⟩) ?_ ?_
          rotate_left
          · intro w'
            go_simp
            with_reducible rfl
          rotate_left
          · simp only [Act.put, List.setIfInBounds_toArray, List.set_cons_zero, List.set_cons_succ, i64_w, i32_w]
            rfl
          refine pure_ (i := 9) (N := (some 32)) (v := ?_) (a' := ?_) #[true, true, true, true, true, true, true, true, true, true, false, false, false, false, false, false, false] rfl rfl (by kernel_rfl) (fun _ _ _ h => h) (Or.inl ⟨by rfl, ?_⟩) ?_ ?_
          rotate_left
          · intro w'
            go_simp
            with_reducible rfl
          rotate_left
          · simp only [Act.put, List.setIfInBounds_toArray, List.set_cons_zero, List.set_cons_succ, i64_w, i32_w]
            rfl
          refine pure_ (i := 10) (N := some 33) (v := undef) (a' := ?_) #[true, true, true, true, true, true, true, true, true, true, true, false, false, false, false, false, false] rfl rfl (by kernel_rfl) (fun _ _ _ h => h) (Or.inr ⟨by rfl, rfl⟩) ?_ ?_
          rotate_left
          · simp only [Act.put, List.setIfInBounds_toArray, List.set_cons_zero, List.set_cons_succ, i64_w, i32_w]
            rfl
          refine pure_ (i := 11) (N := some 34) (v := undef) (a' := ?_) #[true, true, true, true, true, true, true, true, true, true, true, true, false, false, false, false, false] rfl rfl (by kernel_rfl) (fun _ _ _ h => h) (Or.inr ⟨by rfl, rfl⟩) ?_ ?_
          rotate_left
          · simp only [Act.put, List.setIfInBounds_toArray, List.set_cons_zero, List.set_cons_succ, i64_w, i32_w]
            rfl
          refine pure_ (i := 12) (N := some 35) (v := undef) (a' := ?_) #[true, true, true, true, true, true, true, true, true, true, true, true, true, false, false, false, false] rfl rfl (by kernel_rfl) (fun _ _ _ h => h) (Or.inr ⟨by rfl, rfl⟩) ?_ ?_
          rotate_left
          · simp only [Act.put, List.setIfInBounds_toArray, List.set_cons_zero, List.set_cons_succ, i64_w, i32_w]
            rfl
          refine pure_ (i := 13) (N := some 36) (v := undef) (a' := ?_) #[true, true, true, true, true, true, true, true, true, true, true, true, true, true, false, false, false] rfl rfl (by kernel_rfl) (fun _ _ _ h => h) (Or.inr ⟨by rfl, rfl⟩) ?_ ?_
          rotate_left
          · simp only [Act.put, List.setIfInBounds_toArray, List.set_cons_zero, List.set_cons_succ, i64_w, i32_w]
            rfl
          refine pure_ (i := 14) (N := some 37) (v := undef) (a' := ?_) #[true, true, true, true, true, true, true, true, true, true, true, true, true, true, true, false, false] rfl rfl (by kernel_rfl) (fun _ _ _ h => h) (Or.inr ⟨by rfl, rfl⟩) ?_ ?_
          rotate_left
          · simp only [Act.put, List.setIfInBounds_toArray, List.set_cons_zero, List.set_cons_succ, i64_w, i32_w]
            rfl
          refine pure_ (i := 15) (N := (some 38)) (v := ?_) (a' := ?_) #[true, true, true, true, true, true, true, true, true, true, true, true, true, true, true, true, false] rfl rfl (by kernel_rfl) (fun _ _ _ h => h) (Or.inl ⟨by rfl, ?_⟩) ?_ ?_
          rotate_left
          · intro w'
            go_simp
            with_reducible rfl
          rotate_left
          · simp only [Act.put, List.setIfInBounds_toArray, List.set_cons_zero, List.set_cons_succ, i64_w, i32_w]
            rfl
          refine pure_ (i := 16) (N := (some 39)) (v := ?_) (a' := ?_) #[true, true, true, true, true, true, true, true, true, true, true, true, true, true, true, true, true] rfl rfl (by kernel_rfl) (fun _ _ _ h => h) (Or.inl ⟨by rfl, ?_⟩) ?_ ?_
          rotate_left
          · intro w'
            go_simp
            with_reducible rfl
          rotate_left
          · simp only [Act.put, List.setIfInBounds_toArray, List.set_cons_zero, List.set_cons_succ, i64_w, i32_w]
            rfl
          refine done_ (by kernel_rfl) ?_
          clear heq hof1 hof2 hHeld hS0
          have hBq := hB1.trans (hB3.mono hB1.size)
          have hS3 := hS _ hB3
          clear hS
          obtain ⟨s0, s1, s2, s3, s4, s5, s6, s7, _⟩ := hS3
          have hlt1 : w.heap.size < W1.heap.size := Nat.lt_of_lt_of_le hsz hb1.size
          have hown3 : w3.ownsMap Try.prog 3 heldR w.heap.size i D := by
            obtain ⟨es, cl, q1, q2, q3, q4⟩ := hown
            exact ⟨es, cl, (hB3.block _ hlt1).trans q1, q2, q3, q4⟩
          have HBQ := Aside0.mk hBq
          have HS3 := Aside0.mk (Nat.lt_of_lt_of_le hlt1 hB3.size)
          clear hown hBq hB1 hB2 hB3 hBd hbw2 hbw3 hb1 hlt1
          go_wp2_with (first | (at_mapUpdate; refine wpList_mapUpdate_own _ rfl (.tmp 40) (.tmp 42) (.tmp 44) 89 rfl 3 28 (Maps.int_keyed Try.underlying3) Try.underlying89 heldR w.heap.size i D rfl hown3 (by unfold maxLen; omega) (.int .i64 ix) (.slice A7 dat.length c7) (.int .i64 ix) rfl rfl hkey (.held (.slice A7 dat.length c7)) [] rfl ?_; intro w4 hown4 hg4))
          go_roundw
          case rel =>
            refine ⟨i + 1, gstep f ⟨⟨n0, n1, n2⟩, ix, nd, sz, sm, dat⟩, rfl, by omega, ⟨_, hown4, mapok_put (p := ⟨⟨n0, n1, n2⟩, ix, nd, sz, sm, dat⟩) (MapOK.isMap hown3) h8 h9 h200 hD⟩, HBQ.out.grown hg4 HBQ.out.size (fun k e => by cases e; exact Nat.le_refl _), Nat.lt_of_lt_of_le HS3.out hg4.size, ⟨?_⟩⟩
            rw [HGG.out, ← HWE.out, if_neg (by decide), HF.out]
          case measure => first | (simp [intOf]; done) | (simp [intOf]; omega)
      | some d =>
        rw [hf] at hDk
        have HF := Aside0.mk hf
        obtain ⟨hhas, Ad, cd, hat, hcd, hCd, hd200⟩ := hDk
        clear hf
        go_wp2_with (first | (refine wpList_store_row rfl 49 (.tmp 6) (.tmp 15) rfl wr.heap.size rfl #[.int .i64 n0, .int .i64 n1, .int .i64 n2, .int .i64 ix, .int .i64 nd, .int .i64 sz, .int .i64 sm, .slice A7 dat.length c7] rfl 49 #[.int .i64 0, .int .i64 0, .int .i64 0, .int .i64 0, .int .i64 0, .int .i64 0, .int .i64 0, .slice none 0 0] (World.alloc_heap_new _ _) rfl ?h1 hi49 ?_; (case h1 => simp [Value.oneCell']); rw [World.setRow_alloc_new]) | (at_lookup; refine wpList_lookup_held rfl (.tmp 17) (.tmp 19) rfl w.heap.size i D rfl hown (.int .i64 ix) (.int .i64 ix) rfl hkey (.slice Ad d.length cd) hat hhas ?_))
        obtain ⟨W1, hW1⟩ : ∃ W1, W1 = wr.alloc (.cells #[.int .i64 n0, .int .i64 n1, .int .i64 n2, .int .i64 ix, .int .i64 nd, .int .i64 sz, .int .i64 sm, .slice A7 dat.length c7] 49) := ⟨_, rfl⟩
        rw [← hW1] at hown hB1 HBX hb1 hc1 ⊢
        clear hW1
        have hS : ∀ W, Below W1.heap.size W1 W → (fun w' : World => w'.cell? ⟨wr.heap.size, 0, none⟩ = some (.int .i64 n0) ∧ w'.cell? ⟨wr.heap.size, 1, none⟩ = some (.int .i64 n1) ∧ w'.cell? ⟨wr.heap.size, 2, none⟩ = some (.int .i64 n2) ∧ w'.cell? ⟨wr.heap.size, 3, none⟩ = some (.int .i64 ix) ∧ w'.cell? ⟨wr.heap.size, 4, none⟩ = some (.int .i64 nd) ∧ w'.cell? ⟨wr.heap.size, 5, none⟩ = some (.int .i64 sz) ∧ w'.cell? ⟨wr.heap.size, 6, none⟩ = some (.int .i64 sm) ∧ w'.cell? ⟨wr.heap.size, 7, none⟩ = some (.slice A7 dat.length c7) ∧ w'.cell? ad = some (.int .i64 p0.f0.f0) ∧ w'.cell? ⟨ad.block, ad.off + 1, none⟩ = some (.int .i64 p0.f0.f1) ∧ w'.cell? ⟨ad.block, ad.off + 2, none⟩ = some (.int .i64 p0.f0.f2) ∧ w'.cell? ⟨ad.block, ad.off + 3, none⟩ = some (.int .i64 p0.f1) ∧ w'.cell? ⟨ad.block, ad.off + 4, none⟩ = some (.int .i64 p0.f2) ∧ w'.cell? ⟨ad.block, ad.off + 5, none⟩ = some (.int .i64 p0.f3) ∧ w'.cell? ⟨ad.block, ad.off + 6, none⟩ = some (.int .i64 p0.f4) ∧ w'.cell? ⟨ad.block, ad.off + 7, none⟩ = some (.slice A0 p0.f5.length c0)) W := fun W hW => ⟨((hW.cell (p := ⟨wr.heap.size, 0, none⟩) (blk_lt HBX.out)).trans (blk_cell HBX.out 0)).trans rfl, ((hW.cell (p := ⟨wr.heap.size, 1, none⟩) (blk_lt HBX.out)).trans (blk_cell HBX.out 1)).trans rfl, ((hW.cell (p := ⟨wr.heap.size, 2, none⟩) (blk_lt HBX.out)).trans (blk_cell HBX.out 2)).trans rfl, ((hW.cell (p := ⟨wr.heap.size, 3, none⟩) (blk_lt HBX.out)).trans (blk_cell HBX.out 3)).trans rfl, ((hW.cell (p := ⟨wr.heap.size, 4, none⟩) (blk_lt HBX.out)).trans (blk_cell HBX.out 4)).trans rfl, ((hW.cell (p := ⟨wr.heap.size, 5, none⟩) (blk_lt HBX.out)).trans (blk_cell HBX.out 5)).trans rfl, ((hW.cell (p := ⟨wr.heap.size, 6, none⟩) (blk_lt HBX.out)).trans (blk_cell HBX.out 6)).trans rfl, ((hW.cell (p := ⟨wr.heap.size, 7, none⟩) (blk_lt HBX.out)).trans (blk_cell HBX.out 7)).trans rfl, (hW.cell (block_lt_of_cell ((hb1.cell (block_lt_of_cell y0)).trans y0))).trans ((hb1.cell (block_lt_of_cell y0)).trans y0), (hW.cell (block_lt_of_cell ((hb1.cell (block_lt_of_cell y1)).trans y1))).trans ((hb1.cell (block_lt_of_cell y1)).trans y1), (hW.cell (block_lt_of_cell ((hb1.cell (block_lt_of_cell y2)).trans y2))).trans ((hb1.cell (block_lt_of_cell y2)).trans y2), (hW.cell (block_lt_of_cell ((hb1.cell (block_lt_of_cell y3)).trans y3))).trans ((hb1.cell (block_lt_of_cell y3)).trans y3), (hW.cell (block_lt_of_cell ((hb1.cell (block_lt_of_cell y4)).trans y4))).trans ((hb1.cell (block_lt_of_cell y4)).trans y4), (hW.cell (block_lt_of_cell ((hb1.cell (block_lt_of_cell y5)).trans y5))).trans ((hb1.cell (block_lt_of_cell y5)).trans y5), (hW.cell (block_lt_of_cell ((hb1.cell (block_lt_of_cell y6)).trans y6))).trans ((hb1.cell (block_lt_of_cell y6)).trans y6), (hW.cell (block_lt_of_cell ((hb1.cell (block_lt_of_cell y7)).trans y7))).trans ((hb1.cell (block_lt_of_cell y7)).trans y7)⟩
        have hof1 := fun W (hW : Below W1.heap.size W1 W) => piece_of.calls n0 n1 n2 ix nd sz sm A7 c7 dat _ _ _ _ _ _ W (Kd.C_below h9 (hB1.trans (hW.mono hB1.size))) h8 rfl
        have hof2 := fun W (hW : Below W1.heap.size W1 W) => piece_of.calls p0.f0.f0 p0.f0.f1 p0.f0.f2 p0.f1 p0.f2 p0.f3 p0.f4 A0 c0 p0.f5 _ _ _ _ _ _ W (Kd.C_below g9 (hB1.trans (hW.mono hB1.size))) g8 rfl
        obtain ⟨we, hwe⟩ : ∃ we, we = wholeEq ⟨⟨n0, n1, n2⟩, ix, nd, sz, sm, dat⟩ p0 := ⟨_, rfl⟩
        have heq : ∀ wx, (Op.equalIn 10000 118 (.agg #[.int .i64 n0, .int .i64 n1, .int .i64 n2, .int .i64 nd, .int .i64 sz, .int .i64 sm]) (.agg #[.int .i64 p0.f0.f0, .int .i64 p0.f0.f1, .int .i64 p0.f0.f2, .int .i64 p0.f2, .int .i64 p0.f3, .int .i64 p0.f4])).run Try.prog wx = .ok we wx := fun wx => by rw [hwe]; exact eqW 9997 wx n0 p0.f0.f0 n1 p0.f0.f1 n2 p0.f0.f2 nd p0.f2 sz p0.f3 sm p0.f4
        have HWE := Aside0.mk hwe
        clear hwe
        cases we with
        | false =>
          have hBd : Below W1.heap.size W1 W1.drew := (Below.refl _ _).drew
          have hS0 := hS W1.drew hBd
          refine start_ (n := 17) (S := fun w' => w'.cell? ⟨wr.heap.size, 0, none⟩ = some (.int .i64 n0) ∧ w'.cell? ⟨wr.heap.size, 1, none⟩ = some (.int .i64 n1) ∧ w'.cell? ⟨wr.heap.size, 2, none⟩ = some (.int .i64 n2) ∧ w'.cell? ⟨wr.heap.size, 3, none⟩ = some (.int .i64 ix) ∧ w'.cell? ⟨wr.heap.size, 4, none⟩ = some (.int .i64 nd) ∧ w'.cell? ⟨wr.heap.size, 5, none⟩ = some (.int .i64 sz) ∧ w'.cell? ⟨wr.heap.size, 6, none⟩ = some (.int .i64 sm) ∧ w'.cell? ⟨wr.heap.size, 7, none⟩ = some (.slice A7 dat.length c7) ∧ w'.cell? ad = some (.int .i64 p0.f0.f0) ∧ w'.cell? ⟨ad.block, ad.off + 1, none⟩ = some (.int .i64 p0.f0.f1) ∧ w'.cell? ⟨ad.block, ad.off + 2, none⟩ = some (.int .i64 p0.f0.f2) ∧ w'.cell? ⟨ad.block, ad.off + 3, none⟩ = some (.int .i64 p0.f1) ∧ w'.cell? ⟨ad.block, ad.off + 4, none⟩ = some (.int .i64 p0.f2) ∧ w'.cell? ⟨ad.block, ad.off + 5, none⟩ = some (.int .i64 p0.f3) ∧ w'.cell? ⟨ad.block, ad.off + 6, none⟩ = some (.int .i64 p0.f4) ∧ w'.cell? ⟨ad.block, ad.off + 7, none⟩ = some (.slice A0 p0.f5.length c0)) (ds := []) #[false, false, false, false, false, false, false, false, false, false, false, false, false, false, false, false, false] hmix rfl rfl hS0 (fun hHeld => ?_)
          refine pure_ (i := 2) (N := (some 25)) (v := ?_) (a' := ?_) #[false, false, true, false, false, false, false, false, false, false, false, false, false, false, false, false, false] rfl rfl (by kernel_rfl) (fun _ _ _ h => h) (Or.inl ⟨by rfl, ?_⟩) ?_ ?_
          rotate_left
          · intro w'
            go_simp
            with_reducible rfl
          rotate_left
          · simp only [Act.put, List.setIfInBounds_toArray, List.set_cons_zero, List.set_cons_succ, i64_w, i32_w]
            rfl
          refine pure_ (i := 3) (N := (some 26)) (v := ?_) (a' := ?_) #[false, false, true, true, false, false, false, false, false, false, false, false, false, false, false, false, false] rfl rfl (by kernel_rfl) (fun _ _ _ h => h) (Or.inl ⟨by rfl, ?_⟩) ?_ ?_
          rotate_left
          · intro w'
            go_simp
            with_reducible rfl
          rotate_left
          · simp only [Act.put, List.setIfInBounds_toArray, List.set_cons_zero, List.set_cons_succ, i64_w, i32_w]
            rfl
          refine take_ (i := 0) (N := (some 23)) (v := ?_) (a' := ?_) #[true, false, true, true, false, false, false, false, false, false, false, false, false, false, false, false, false] rfl rfl (by kernel_rfl) (fun _ _ _ h => h) (Or.inl ⟨by rfl, ?_⟩) hHeld ?_ ?_
          rotate_left
          · rintro w' ⟨s0, s1, s2, s3, s4, s5, s6, s7, s8, s9, s10, s11, s12, s13, s14, s15⟩
            go_simp
            with_reducible rfl
          rotate_left
          · simp only [Act.put, List.setIfInBounds_toArray, List.set_cons_zero, List.set_cons_succ, i64_w, i32_w]
            rfl
          refine take_ (i := 4) (N := (some 27)) (v := ?_) (a' := ?_) #[true, false, true, true, true, false, false, false, false, false, false, false, false, false, false, false, false] rfl rfl (by kernel_rfl) (fun _ _ _ h => h) (Or.inl ⟨by rfl, ?_⟩) hHeld ?_ ?_
          rotate_left
          · rintro w' ⟨s0, s1, s2, s3, s4, s5, s6, s7, s8, s9, s10, s11, s12, s13, s14, s15⟩
            go_simp
            with_reducible rfl
          rotate_left
          · simp only [Act.put, List.setIfInBounds_toArray, List.set_cons_zero, List.set_cons_succ, i64_w, i32_w]
            rfl
          refine one_ (i := 1) (N := some 24) #[true, true, true, true, true, false, false, false, false, false, false, false, false, false, false, false, false] rfl rfl (by kernel_rfl) (by decide) (fun K hK => ?_)
          go_simp
          (with_reducible refine (hof1 _ hBd).mono ?_)
          rintro e w2 ⟨rfl, hbw2⟩
          have hB2 : Below W1.heap.size W1 w2 := hBd.trans (hbw2.mono hBd.size)
          refine hK.out _ _ (hS _ hB2) (fun hHeld => ?_)
          clear hK K
          refine one_ (i := 5) (N := some 28) #[true, true, true, true, true, true, false, false, false, false, false, false, false, false, false, false, false] rfl rfl (by kernel_rfl) (by decide) (fun K hK => ?_)
          go_simp
          (with_reducible refine (hof2 _ hB2).mono ?_)
          rintro e w3 ⟨rfl, hbw3⟩
          have hB3 : Below W1.heap.size W1 w3 := hB2.trans (hbw3.mono hB2.size)
          refine hK.out _ _ (hS _ hB3) (fun hHeld => ?_)
          clear hK K
          refine pure_ (i := 6) (N := (some 29)) (v := ?_) (a' := ?_) #[true, true, true, true, true, true, true, false, false, false, false, false, false, false, false, false, false] rfl rfl (by kernel_rfl) (fun _ _ _ h => h) (Or.inl ⟨by rfl, ?_⟩) ?_ ?_
          rotate_left
          · intro w'
            go_simp
            with_reducible rfl
          rotate_left
          · simp only [Act.put, List.setIfInBounds_toArray, List.set_cons_zero, List.set_cons_succ, i64_w, i32_w]
            rfl
          refine pure_ (i := 7) (N := (some 30)) (v := ?_) (a' := ?_) #[true, true, true, true, true, true, true, true, false, false, false, false, false, false, false, false, false] rfl rfl (by kernel_rfl) (fun _ _ _ h => h) (Or.inl ⟨by rfl, ?_⟩) ?_ ?_
          rotate_left
          · intro w'
            go_simp
            with_reducible rfl
          rotate_left
          · simp only [Act.put, List.setIfInBounds_toArray, List.set_cons_zero, List.set_cons_succ, i64_w, i32_w]
            rfl
          refine pure_ (i := 8) (N := some 31) (v := undef) (a' := ?_) #[true, true, true, true, true, true, true, true, true, false, false, false, false, false, false, false, false] rfl rfl (by kernel_rfl) (fun _ _ _ h => h) (Or.inr ⟨by rfl, rfl⟩) ?_ ?_
          rotate_left
          · simp only [Act.put, List.setIfInBounds_toArray, List.set_cons_zero, List.set_cons_succ, i64_w, i32_w]
            rfl
          refine pure_ (i := 9) (N := some 32) (v := undef) (a' := ?_) #[true, true, true, true, true, true, true, true, true, true, false, false, false, false, false, false, false] rfl rfl (by kernel_rfl) (fun _ _ _ h => h) (Or.inr ⟨by rfl, rfl⟩) ?_ ?_
          rotate_left
          · simp only [Act.put, List.setIfInBounds_toArray, List.set_cons_zero, List.set_cons_succ, i64_w, i32_w]
            rfl
          refine pure_ (i := 10) (N := some 33) (v := undef) (a' := ?_) #[true, true, true, true, true, true, true, true, true, true, true, false, false, false, false, false, false] rfl rfl (by kernel_rfl) (fun _ _ _ h => h) (Or.inr ⟨by rfl, rfl⟩) ?_ ?_
          rotate_left
          · simp only [Act.put, List.setIfInBounds_toArray, List.set_cons_zero, List.set_cons_succ, i64_w, i32_w]
            rfl
          refine pure_ (i := 11) (N := some 34) (v := undef) (a' := ?_) #[true, true, true, true, true, true, true, true, true, true, true, true, false, false, false, false, false] rfl rfl (by kernel_rfl) (fun _ _ _ h => h) (Or.inr ⟨by rfl, rfl⟩) ?_ ?_
          rotate_left
          · simp only [Act.put, List.setIfInBounds_toArray, List.set_cons_zero, List.set_cons_succ, i64_w, i32_w]
            rfl
          refine pure_ (i := 12) (N := some 35) (v := undef) (a' := ?_) #[true, true, true, true, true, true, true, true, true, true, true, true, true, false, false, false, false] rfl rfl (by kernel_rfl) (fun _ _ _ h => h) (Or.inr ⟨by rfl, rfl⟩) ?_ ?_
          rotate_left
          · simp only [Act.put, List.setIfInBounds_toArray, List.set_cons_zero, List.set_cons_succ, i64_w, i32_w]
            rfl
          refine pure_ (i := 13) (N := some 36) (v := undef) (a' := ?_) #[true, true, true, true, true, true, true, true, true, true, true, true, true, true, false, false, false] rfl rfl (by kernel_rfl) (fun _ _ _ h => h) (Or.inr ⟨by rfl, rfl⟩) ?_ ?_
          rotate_left
          · simp only [Act.put, List.setIfInBounds_toArray, List.set_cons_zero, List.set_cons_succ, i64_w, i32_w]
            rfl
          refine pure_ (i := 14) (N := some 37) (v := undef) (a' := ?_) #[true, true, true, true, true, true, true, true, true, true, true, true, true, true, true, false, false] rfl rfl (by kernel_rfl) (fun _ _ _ h => h) (Or.inr ⟨by rfl, rfl⟩) ?_ ?_
          rotate_left
          · simp only [Act.put, List.setIfInBounds_toArray, List.set_cons_zero, List.set_cons_succ, i64_w, i32_w]
            rfl
          refine pure_ (i := 15) (N := some 38) (v := undef) (a' := ?_) #[true, true, true, true, true, true, true, true, true, true, true, true, true, true, true, true, false] rfl rfl (by kernel_rfl) (fun _ _ _ h => h) (Or.inr ⟨by rfl, rfl⟩) ?_ ?_
          rotate_left
          · simp only [Act.put, List.setIfInBounds_toArray, List.set_cons_zero, List.set_cons_succ, i64_w, i32_w]
            rfl
          refine pure_ (i := 16) (N := (some 39)) (v := ?_) (a' := ?_) #[true, true, true, true, true, true, true, true, true, true, true, true, true, true, true, true, true] rfl rfl (by kernel_rfl) (fun _ _ _ h => h) (Or.inl ⟨by rfl, ?_⟩) ?_ ?_
          rotate_left
          · intro w'
            go_simp
            with_reducible rfl
          rotate_left
          · simp only [Act.put, List.setIfInBounds_toArray, List.set_cons_zero, List.set_cons_succ, i64_w, i32_w]
            rfl
          refine done_ (by kernel_rfl) ?_
          clear heq hof1 hof2 hS hHeld hS0
          have hBq := hB1.trans (hB3.mono hB1.size)
          go_wp2_with fail
          go_ret2
          refine ⟨?_, hBq⟩
          have hgn : gathB p0 (fun _ => none) l = none := by rw [HGG.out, ← HWE.out, if_pos rfl]
          rw [hgn]
          rfl
        | true =>
          have hBd : Below W1.heap.size W1 W1.drew := (Below.refl _ _).drew
          have hS0 := hS W1.drew hBd
          refine start_ (n := 17) (S := fun w' => w'.cell? ⟨wr.heap.size, 0, none⟩ = some (.int .i64 n0) ∧ w'.cell? ⟨wr.heap.size, 1, none⟩ = some (.int .i64 n1) ∧ w'.cell? ⟨wr.heap.size, 2, none⟩ = some (.int .i64 n2) ∧ w'.cell? ⟨wr.heap.size, 3, none⟩ = some (.int .i64 ix) ∧ w'.cell? ⟨wr.heap.size, 4, none⟩ = some (.int .i64 nd) ∧ w'.cell? ⟨wr.heap.size, 5, none⟩ = some (.int .i64 sz) ∧ w'.cell? ⟨wr.heap.size, 6, none⟩ = some (.int .i64 sm) ∧ w'.cell? ⟨wr.heap.size, 7, none⟩ = some (.slice A7 dat.length c7) ∧ w'.cell? ad = some (.int .i64 p0.f0.f0) ∧ w'.cell? ⟨ad.block, ad.off + 1, none⟩ = some (.int .i64 p0.f0.f1) ∧ w'.cell? ⟨ad.block, ad.off + 2, none⟩ = some (.int .i64 p0.f0.f2) ∧ w'.cell? ⟨ad.block, ad.off + 3, none⟩ = some (.int .i64 p0.f1) ∧ w'.cell? ⟨ad.block, ad.off + 4, none⟩ = some (.int .i64 p0.f2) ∧ w'.cell? ⟨ad.block, ad.off + 5, none⟩ = some (.int .i64 p0.f3) ∧ w'.cell? ⟨ad.block, ad.off + 6, none⟩ = some (.int .i64 p0.f4) ∧ w'.cell? ⟨ad.block, ad.off + 7, none⟩ = some (.slice A0 p0.f5.length c0)) (ds := []) #[false, false, false, false, false, false, false, false, false, false, false, false, false, false, false, false, false] hmix rfl rfl hS0 (fun hHeld => ?_)
          refine pure_ (i := 2) (N := (some 25)) (v := ?_) (a' := ?_) #[false, false, true, false, false, false, false, false, false, false, false, false, false, false, false, false, false] rfl rfl (by kernel_rfl) (fun _ _ _ h => h) (Or.inl ⟨by rfl, ?_⟩) ?_ ?_
          rotate_left
          · intro w'
            go_simp
            with_reducible rfl
          rotate_left
          · simp only [Act.put, List.setIfInBounds_toArray, List.set_cons_zero, List.set_cons_succ, i64_w, i32_w]
            rfl
          refine pure_ (i := 3) (N := (some 26)) (v := ?_) (a' := ?_) #[false, false, true, true, false, false, false, false, false, false, false, false, false, false, false, false, false] rfl rfl (by kernel_rfl) (fun _ _ _ h => h) (Or.inl ⟨by rfl, ?_⟩) ?_ ?_
          rotate_left
          · intro w'
            go_simp
            with_reducible rfl
          rotate_left
          · simp only [Act.put, List.setIfInBounds_toArray, List.set_cons_zero, List.set_cons_succ, i64_w, i32_w]
            rfl
          refine take_ (i := 0) (N := (some 23)) (v := ?_) (a' := ?_) #[true, false, true, true, false, false, false, false, false, false, false, false, false, false, false, false, false] rfl rfl (by kernel_rfl) (fun _ _ _ h => h) (Or.inl ⟨by rfl, ?_⟩) hHeld ?_ ?_
          rotate_left
          · rintro w' ⟨s0, s1, s2, s3, s4, s5, s6, s7, s8, s9, s10, s11, s12, s13, s14, s15⟩
            go_simp
            with_reducible rfl
          rotate_left
          · simp only [Act.put, List.setIfInBounds_toArray, List.set_cons_zero, List.set_cons_succ, i64_w, i32_w]
            rfl
          refine take_ (i := 4) (N := (some 27)) (v := ?_) (a' := ?_) #[true, false, true, true, true, false, false, false, false, false, false, false, false, false, false, false, false] rfl rfl (by kernel_rfl) (fun _ _ _ h => h) (Or.inl ⟨by rfl, ?_⟩) hHeld ?_ ?_
          rotate_left
          · rintro w' ⟨s0, s1, s2, s3, s4, s5, s6, s7, s8, s9, s10, s11, s12, s13, s14, s15⟩
            go_simp
            with_reducible rfl
          rotate_left
          · simp only [Act.put, List.setIfInBounds_toArray, List.set_cons_zero, List.set_cons_succ, i64_w, i32_w]
            rfl
          refine one_ (i := 1) (N := some 24) #[true, true, true, true, true, false, false, false, false, false, false, false, false, false, false, false, false] rfl rfl (by kernel_rfl) (by decide) (fun K hK => ?_)
          go_simp
          (with_reducible refine (hof1 _ hBd).mono ?_)
          rintro e w2 ⟨rfl, hbw2⟩
          have hB2 : Below W1.heap.size W1 w2 := hBd.trans (hbw2.mono hBd.size)
          refine hK.out _ _ (hS _ hB2) (fun hHeld => ?_)
          clear hK K
          refine one_ (i := 5) (N := some 28) #[true, true, true, true, true, true, false, false, false, false, false, false, false, false, false, false, false] rfl rfl (by kernel_rfl) (by decide) (fun K hK => ?_)
          go_simp
          (with_reducible refine (hof2 _ hB2).mono ?_)
          rintro e w3 ⟨rfl, hbw3⟩
          have hB3 : Below W1.heap.size W1 w3 := hB2.trans (hbw3.mono hB2.size)
          refine hK.out _ _ (hS _ hB3) (fun hHeld => ?_)
          clear hK K
          refine pure_ (i := 6) (N := (some 29)) (v := ?_) (a' := ?_) #[true, true, true, true, true, true, true, false, false, false, false, false, false, false, false, false, false] rfl rfl (by kernel_rfl) (fun _ _ _ h => h) (Or.inl ⟨by rfl, ?_⟩) ?_ ?_
          rotate_left
          · intro w'
            go_simp
            with_reducible rfl
          rotate_left
          · simp only [Act.put, List.setIfInBounds_toArray, List.set_cons_zero, List.set_cons_succ, i64_w, i32_w]
            rfl
          refine pure_ (i := 7) (N := (some 30)) (v := ?_) (a' := ?_) #[true, true, true, true, true, true, true, true, false, false, false, false, false, false, false, false, false] rfl rfl (by kernel_rfl) (fun _ _ _ h => h) (Or.inl ⟨by rfl, ?_⟩) ?_ ?_
          rotate_left
          · intro w'
            go_simp
            with_reducible rfl
          rotate_left
          · simp only [Act.put, List.setIfInBounds_toArray, List.set_cons_zero, List.set_cons_succ, i64_w, i32_w]
            rfl
          refine pure_ (i := 8) (N := (some 31)) (v := ?_) (a' := ?_) #[true, true, true, true, true, true, true, true, true, false, false, false, false, false, false, false, false] rfl rfl (by kernel_rfl) (fun _ _ _ h => h) (Or.inl ⟨by rfl, ?_⟩) ?_ ?_
          rotate_left
          · intro w'
            go_simp
            with_reducible rfl
          rotate_left
          · simp only [Act.put, List.setIfInBounds_toArray, List.set_cons_zero, List.set_cons_succ, i64_w, i32_w]
            rfl
          refine pure_ (i := 9) (N := (some 32)) (v := ?_) (a' := ?_) #[true, true, true, true, true, true, true, true, true, true, false, false, false, false, false, false, false] rfl rfl (by kernel_rfl) (fun _ _ _ h => h) (Or.inl ⟨by rfl, ?_⟩) ?_ ?_
          rotate_left
          · intro w'
            go_simp
            with_reducible rfl
          rotate_left
          · simp only [Act.put, List.setIfInBounds_toArray, List.set_cons_zero, List.set_cons_succ, i64_w, i32_w]
            rfl
          have heq2 := fun W (hW : Below W1.heap.size W1 W) => slices_Equal_byte_byte.calls (d.length + 1) Ad cd d A7 c7 dat _ W (Kd.C_below hCd (hB1.trans (hW.mono hB1.size))) hcd (Kd.C_below h9 (hB1.trans (hW.mono hB1.size))) h8 (equal_f d dat (by omega))
          obtain ⟨dq, hdq⟩ : ∃ dq, dq = decide (d = dat) := ⟨_, rfl⟩
          rw [← hdq] at heq2
          have HDQ := Aside0.mk hdq
          clear hdq
          refine pure_ (i := 10) (N := (some 33)) (v := ?_) (a' := ?_) #[true, true, true, true, true, true, true, true, true, true, true, false, false, false, false, false, false] rfl rfl (by kernel_rfl) (fun _ _ _ h => h) (Or.inl ⟨by rfl, ?_⟩) ?_ ?_
          rotate_left
          · intro w'
            go_simp
            with_reducible rfl
          rotate_left
          · simp only [Act.put, List.setIfInBounds_toArray, List.set_cons_zero, List.set_cons_succ, i64_w, i32_w]
            rfl
          refine pure_ (i := 11) (N := (some 34)) (v := ?_) (a' := ?_) #[true, true, true, true, true, true, true, true, true, true, true, true, false, false, false, false, false] rfl rfl (by kernel_rfl) (fun _ _ _ h => h) (Or.inl ⟨by rfl, ?_⟩) ?_ ?_
          rotate_left
          · intro w'
            go_simp
            with_reducible rfl
          rotate_left
          · simp only [Act.put, List.setIfInBounds_toArray, List.set_cons_zero, List.set_cons_succ, i64_w, i32_w]
            rfl
          refine take_ (i := 12) (N := (some 35)) (v := ?_) (a' := ?_) #[true, true, true, true, true, true, true, true, true, true, true, true, true, false, false, false, false] rfl rfl (by kernel_rfl) (fun _ _ _ h => h) (Or.inl ⟨by rfl, ?_⟩) hHeld ?_ ?_
          rotate_left
          · rintro w' ⟨s0, s1, s2, s3, s4, s5, s6, s7, s8, s9, s10, s11, s12, s13, s14, s15⟩
            go_simp
            with_reducible rfl
          rotate_left
          · simp only [Act.put, List.setIfInBounds_toArray, List.set_cons_zero, List.set_cons_succ, i64_w, i32_w]
            rfl
          refine one_ (i := 13) (N := some 36) #[true, true, true, true, true, true, true, true, true, true, true, true, true, true, false, false, false] rfl rfl (by kernel_rfl) (by decide) (fun K hK => ?_)
          go_simp
          (with_reducible refine (heq2 _ hB3).mono ?_)
          rintro e w5 ⟨rfl, ⟨nq5, rfl⟩⟩
          have hB5 : Below W1.heap.size W1 (w3.drewN nq5) := pw_below_drewN hB3 _
          refine hK.out _ _ (hS _ hB5) (fun hHeld => ?_)
          clear hK K heq2
          refine pure_ (i := 14) (N := (some 37)) (v := ?_) (a' := ?_) #[true, true, true, true, true, true, true, true, true, true, true, true, true, true, true, false, false] rfl rfl (by kernel_rfl) (fun _ _ _ h => h) (Or.inl ⟨by rfl, ?_⟩) ?_ ?_
          rotate_left
          · intro w'
            go_simp
            with_reducible rfl
          rotate_left
          · simp only [Act.put, List.setIfInBounds_toArray, List.set_cons_zero, List.set_cons_succ, i64_w, i32_w]
            rfl
          refine pure_ (i := 15) (N := (some 38)) (v := ?_) (a' := ?_) #[true, true, true, true, true, true, true, true, true, true, true, true, true, true, true, true, false] rfl rfl (by kernel_rfl) (fun _ _ _ h => h) (Or.inl ⟨by rfl, ?_⟩) ?_ ?_
          rotate_left
          · intro w'
            go_simp
            with_reducible rfl
          rotate_left
          · simp only [Act.put, List.setIfInBounds_toArray, List.set_cons_zero, List.set_cons_succ, i64_w, i32_w]
            rfl
          refine pure_ (i := 16) (N := (some 39)) (v := ?_) (a' := ?_) #[true, true, true, true, true, true, true, true, true, true, true, true, true, true, true, true, true] rfl rfl (by kernel_rfl) (fun _ _ _ h => h) (Or.inl ⟨by rfl, ?_⟩) ?_ ?_
          rotate_left
          · intro w'
            go_simp
            with_reducible rfl
          rotate_left
          · simp only [Act.put, List.setIfInBounds_toArray, List.set_cons_zero, List.set_cons_succ, i64_w, i32_w]
            rfl
          refine done_ (by kernel_rfl) ?_
          clear heq hof1 hof2 hHeld hS0
          have hBq := hB1.trans (hB5.mono hB1.size)
          have hS3 := hS _ hB5
          clear hS
          obtain ⟨s0, s1, s2, s3, s4, s5, s6, s7, _⟩ := hS3
          have hlt1 : w.heap.size < W1.heap.size := Nat.lt_of_lt_of_le hsz hb1.size
          have hown3 : (w3.drewN nq5).ownsMap Try.prog 3 heldR w.heap.size i D := by
            obtain ⟨es, cl, q1, q2, q3, q4⟩ := hown
            exact ⟨es, cl, (hB5.block _ hlt1).trans q1, q2, q3, q4⟩
          have HBQ := Aside0.mk hBq
          have HS3 := Aside0.mk (Nat.lt_of_lt_of_le hlt1 hB5.size)
          clear hown hBq hB1 hB2 hB3 hB5 hBd hbw2 hbw3 hb1 hlt1
          cases dq with
          | false =>
            go_wp2_with fail
            go_ret2
            refine ⟨?_, HBQ.out⟩
            have hgn : gathB p0 (fun _ => none) l = none := by
              have hdd : ¬ d = dat := of_decide_eq_false HDQ.out.symm
              rw [HGG.out, ← HWE.out, if_neg (by decide), HF.out]
              dsimp only
              rw [if_neg hdd]
            rw [hgn]
            rfl
          | true =>
            go_wp2_with (first | (at_mapUpdate; refine wpList_mapUpdate_own _ rfl (.tmp 40) (.tmp 42) (.tmp 44) 89 rfl 3 28 (Maps.int_keyed Try.underlying3) Try.underlying89 heldR w.heap.size i D rfl hown3 (by unfold maxLen; omega) (.int .i64 ix) (.slice A7 dat.length c7) (.int .i64 ix) rfl rfl hkey (.held (.slice A7 dat.length c7)) [] rfl ?_; intro w4 hown4 hg4))
            go_roundw
            case rel =>
              refine ⟨i + 1, gstep f ⟨⟨n0, n1, n2⟩, ix, nd, sz, sm, dat⟩, rfl, by omega, ⟨_, hown4, mapok_put (p := ⟨⟨n0, n1, n2⟩, ix, nd, sz, sm, dat⟩) (MapOK.isMap hown3) h8 h9 h200 hD⟩, HBQ.out.grown hg4 HBQ.out.size (fun k e => by cases e; exact Nat.le_refl _), Nat.lt_of_lt_of_le HS3.out hg4.size, ⟨?_⟩⟩
              have hdd : d = dat := of_decide_eq_true HDQ.out.symm
              rw [HGG.out, ← HWE.out, if_neg (by decide), HF.out]
              dsimp only
              rw [if_pos hdd]
            case measure => first | (simp [intOf]; done) | (simp [intOf]; omega)
    · have hie : i = l.length := by omega
      have hg : gathB p0 (fun _ => none) l = some f := by
        rw [HG.out, hie, List.drop_length, gathB]
      have HGF := Aside0.mk hg
      have HM := Aside0.mk (hM.mono (show i ≤ 1000 by omega))
      clear hg hM
      go_wp2_with fail
      go_ret2
      refine ⟨?_, hB⟩
      rw [HGF.out]
      exact ⟨_, rfl, HM.out⟩
end Go.Proofs.YthiealhmcfdakaaH
end
section
set_option linter.unusedVariables false
set_option linter.unusedSimpArgs false
namespace Go.Proofs.YthiealhmcfdakaaH
open Go Go.RowKit Go.Shelf Go.Proofs.YthiealhmcfdakaaW.PrintWords Go.Proofs.YthiealhmcfdakaaW.PrintLast Go.Proofs.YthiealhmcfdakaaW.PrintMore Go.Proofs.Ythiealhmcfdakaa.E
attribute [local go_sem] Oper.semAt_some
theorem info_row : (Try.prog.info? 28).map (fun i => (i.zero, i.size, i.bytes)) = some (some (.slice none 0 0), 1, 24) := by kernel_rfl
def AllR (w : World) (W : World) (g c : Nat) (pd : List Int) : Prop := Kd.R (Kd.int .u8) 5 W w.heap.size (fun _ => True) (.slice (some ⟨g, 0, none⟩) pd.length c) pd
def rowV (g c n i : Nat) : Value := .slice (some ⟨g, i * n, none⟩) n (c - i * n)
def cutR (pd : List Int) (n need : Nat) : List (List Int) := (List.range need).map fun i => (pd.drop (i * n)).take n
structure RI (w : World) (g c n : Nat) (pd : List Int) (k : Nat) (W : World) : Prop where
  ex : ∃ v, Boxed W w.heap.size 79 v ∧ W.ownsRow w.heap.size 28 1 v k ((List.range k).map fun i => rowV g c n i)
  all : 0 < k → AllR w W g c pd
  low : Below w.heap.size w W
theorem AllR.kept {w W W' : World} {g c : Nat} {pd : List Int} {r : Option Nat} (h : AllR w W g c pd) (hp : 0 < pd.length) (hg : W.grownBy W' r) (hr : r ≠ some g) : AllR w W' g c pd :=
  Kd.R_grown1 h rfl hg (by simpa [Value.ownBlock] using hr)
theorem RI.kept {w : World} {g c n : Nat} {pd : List Int} {k : Nat} {W W' : World} {r : Option Nat} (h : RI w g c n pd k W) (hp : 0 < pd.length) (hg : W.grownBy W' r) (hr : ∀ j, r = some j → W.heap.size ≤ j ∨ (w.heap.size < j ∧ ∀ cs t f, W.heap[j]? ≠ some (.cells cs t f))) : RI w g c n pd k W' := by
  have hne : ∀ (b : Nat) (cs : Array Value) (t : TypeId) (f : Nat × Nat), W.heap[b]? = some (.cells cs t f) → some b ≠ r := by
    intro b cs t f hb e
    rcases hr b e.symm with h1 | ⟨_, h2⟩
    · exact absurd (Array.getElem?_eq_some_iff.1 hb).1 (by omega)
    · exact h2 cs t f hb
  obtain ⟨v, hbx, hrow⟩ := h.ex
  refine ⟨⟨v, hbx.kept hg (hne _ _ _ _ hbx), ?_⟩, fun hk => ?_, h.low.grown hg h.low.size (fun j e => by rcases hr j e with h1 | ⟨h1, _⟩; exact Nat.le_trans h.low.size h1; omega)⟩
  · refine hrow.kept hg ?_
    cases ho : v.ownBlock with
    | none => exact .inl rfl
    | some j =>
      refine .inr ?_
      obtain ⟨cs, hcs⟩ := own_typed hrow j ho
      exact hne j _ _ _ hcs
  · have hA := h.all hk
    obtain ⟨cs, hcs⟩ := Kd.R_typed hA g (by simp [Value.ownBlock])
    exact hA.kept hp hg (fun e => hne g _ _ _ hcs e.symm)
theorem grown_drewN0 (w : World) (n : Nat) : w.grownBy (w.drewN n) none := ⟨rfl, rfl, rfl, Nat.le_refl _, fun _ _ _ => rfl⟩
def preOf (g c k : Nat) : List (Nat × Nat × Nat) := (List.range k).map fun i => (g, c, i)
theorem preOf_len (g c k : Nat) : (preOf g c k).length = k := by simp [preOf]
theorem preOf_succ (g c k : Nat) : preOf g c (k + 1) = preOf g c k ++ [(g, c, k)] := by simp [preOf, List.range_succ]
theorem preOf_inj {g c g' c' k : Nat} (hk : 0 < k) (h : preOf g c k = preOf g' c' k) : g = g' ∧ c = c' := by
  obtain ⟨m, rfl⟩ : ∃ m, k = m + 1 := ⟨k - 1, by omega⟩
  have h2 := congrArg (fun l => l[0]?) h
  simp [preOf] at h2
  exact h2
set_option maxHeartbeats 8000000 in
set_option maxRecDepth 100000 in
theorem appendSeq_rows (A : Option Addr) (c0 : Nat) (b : List Int) (need n : Nat) (pb pn : Nat) (w : World) (hpb : w.cell? ⟨pb, 0, none⟩ = some (.slice A b.length c0)) (hpn : w.cell? ⟨pn, 0, none⟩ = some (.int .i64 (need : Int)))
    (hC : Kd.C (Kd.int .u8) w A b.length b) (hc : b.length ≤ c0) (hn1 : 1 ≤ need) (hn2 : need ≤ 32) (hb1 : 1 ≤ b.length) (hn : n = (b.length + need - 1) / need) (hn3 : n ≤ 200) :
    Calls Try.prog 57 #[.slice none 0 0, .func (.func 58) #[] #[.pointer (some ⟨pb, 0, none⟩), .pointer (some ⟨pn, 0, none⟩)]] w fun e w' =>
      ∃ A' c', e = .returned (.slice A' need c') ∧ need ≤ c' ∧ Kd.C (Kd.slice 5 (Kd.int .u8)) w' A' need (cutR (b ++ List.replicate (n * need - b.length) 0) n need) ∧ Below w.heap.size w w' := by
  obtain ⟨pd, hpd⟩ : ∃ pd, pd = b ++ List.replicate (n * need - b.length) 0 := ⟨_, rfl⟩
  have hle : b.length ≤ n * need := by
    rw [hn]
    have := Nat.div_add_mod (b.length + need - 1) need
    have h2 := Nat.mod_lt (b.length + need - 1) (show need > 0 by omega)
    rw [Nat.mul_comm]
    omega
  have hpl : pd.length = n * need := by rw [hpd, List.length_append, List.length_replicate]; omega
  have hnn : n * need ≤ 6400 := Nat.mul_le_mul hn3 hn2
  have hp0 : 0 < pd.length := by omega
  have hn00 : 0 < n := by
    rcases Nat.eq_zero_or_pos n with h | h
    · rw [h] at hle; omega
    · exact h
  rw [← hpd]
  have HPD := Aside0.mk hpd
  have HN := Aside0.mk hn
  clear hpd hn
  refine (callsIn_wide (n := 8)).1 ?_
  refine callsIn_of_wp_marks Try.func57 rfl trivial ?_ rfl
  simp only [Try.ntmps57, List.size_toArray, List.length_cons, List.length_nil, Nat.reduceAdd, Nat.reduceSub, Array.replicate_succ, Array.replicate_zero, List.push_toArray, List.append_toArray, List.nil_append, List.cons_append]
  gi_wp2
  obtain ⟨W0, hW0⟩ : ∃ W0, (w.alloc (Obj.cells #[Value.slice none 0 0] 79)) = W0 := ⟨_, rfl⟩
  have hsz : W0.heap.size = w.heap.size + 1 := by rw [← hW0]; simp
  have hB0 : Below w.heap.size w W0 := by rw [← hW0]; exact (Below.refl _ w).alloc (Nat.le_refl _) _
  have hI0 : ∀ g c, RI w g c n pd 0 W0 := fun g c => ⟨⟨.slice none 0 0, by rw [← hW0]; exact Boxed.new w _ _, World.ownsRow_nil _ _ _ _⟩, fun h => absurd h (by omega), hB0⟩
  rw [hW0]
  clear hW0
  refine range_all (α := Nat × Nat × Nat) rfl (by decide) (gf := 58) rfl trivial (enters_of Try.func58 (by kernel_rfl) rfl) (fun x => #[rowV x.1 x.2.1 n x.2.2]) (fun _ => rfl)
    (fun pre W => ∃ g c, pre = preOf g c pre.length ∧ pre.length ≤ need ∧ RI w g c n pd pre.length W) (fun pre x W => ∃ g c, x = (g, c, pre.length) ∧ pre = preOf g c pre.length ∧ pre.length < need ∧ AllR w W g c pd) (fun W => ∃ g c, RI w g c n pd need W) ?turn ?start
    (fun x => { tmps := #[.slice none 0 0, .func (.func 58) #[] #[.pointer (some ⟨pb, 0, none⟩), .pointer (some ⟨pn, 0, none⟩)], .pointer (some ⟨w.heap.size, 0, none⟩), undef, .slice none 0 0, rowV x.1 x.2.1 n x.2.2, .func (.func 58) #[] #[.pointer (some ⟨pb, 0, none⟩), .pointer (some ⟨pn, 0, none⟩)], rowV x.1 x.2.1 n x.2.2, undef, undef, undef, undef, undef], defers := [] }) ?assign ?body ?iter ?done
  case turn =>
    intro W k o o' hk ho hc'
    have hg := grownBy_putObj' W k o'
    have hr : ∀ j, some k = some j → W.heap.size ≤ j ∨ (w.heap.size < j ∧ ∀ cs t f, W.heap[j]? ≠ some (.cells cs t f)) := fun j e => by
      obtain rfl := Option.some.inj e
      exact .inr ⟨by omega, fun cs t f h => by rw [ho] at h; cases h; cases hc'⟩
    refine ⟨fun xs ⟨g, c, h1, h2, h3⟩ => ⟨g, c, h1, h2, h3.kept hp0 hg hr⟩, fun xs x ⟨g, c, h1, h2, h3, h4⟩ => ⟨g, c, h1, h2, h3, ?_⟩, fun ⟨g, c, h⟩ => ⟨g, c, h.kept hp0 hg hr⟩⟩
    obtain ⟨cs, hcs⟩ := Kd.R_typed h4 g (by simp [Value.ownBlock])
    exact h4.kept hp0 hg (fun e => by
      obtain rfl := Option.some.inj e
      rw [ho] at hcs; cases hcs; cases hc')
  case start =>
    intro o1 o2
    have h1 := (hI0 0 0).kept hp0 (World.grownBy_alloc W0 o1 none) (fun j e => by cases e)
    exact ⟨0, 0, rfl, Nat.zero_le _, h1.kept hp0 (World.grownBy_alloc _ o2 none) (fun j e => by cases e)⟩
  case assign =>
    intro l x W K hK
    gi_wp2
    exact hK
  case body =>
    rintro l pre ⟨g, c, k⟩ W ⟨g1, c1, hpre, hle1, hI⟩ ⟨g2, c2, hx, hpre2, hlt, hA⟩
    simp only [Prod.mk.injEq] at hx
    obtain ⟨rfl, rfl, hk⟩ := hx
    have hI' : RI w g c n pd k W := by
      rw [hk]
      by_cases h0 : 0 < pre.length
      · have h2 : preOf g c pre.length = preOf g1 c1 pre.length := hpre2.symm.trans hpre
        obtain ⟨rfl, rfl⟩ := preOf_inj h0 h2
        exact hI
      · have h1 : pre.length = 0 := by omega
        rw [h1] at hI ⊢
        exact ⟨hI.ex, fun h => absurd h (by omega), hI.low⟩
    have hlt' : k < need := by omega
    have HPRE : Aside0 (pre = preOf g c k) := ⟨by rw [hk]; exact hpre2⟩
    have HK := Aside0.mk hk
    clear hI hpre hpre2 hk hlt hle1
    obtain ⟨v, hv, hrow⟩ := hI'.ex
    have hB := hI'.low
    have hvc := hv.cell
    obtain ⟨i0, hi, hz0, hz1, hz2⟩ := info_parts info_row
    simp only [rowV]
    obtain ⟨off, hoff⟩ : ∃ off, off = k * n := ⟨_, rfl⟩
    obtain ⟨cp, hcp⟩ : ∃ cp, cp = c - k * n := ⟨_, rfl⟩
    rw [← hoff] at hcp ⊢
    rw [← hcp]
    have HOFF := Aside0.mk hoff
    have HCP := Aside0.mk hcp
    clear hoff hcp
    gi_wp2_with (gi_at_builtin; refine wpListIn_append_own _ rfl _ _ 79 rfl w.heap.size 28 i0 (.slice none 0 0) 1 24 Try.underlying79 hi hz0 hz1 hz2 rfl (by decide) _ _ _ rfl (hrow.alloc _) ⟨W.heap.size, 0, none⟩ 1 1 [.slice (some ⟨g, off, none⟩) n cp] rfl rfl (cell_one_new _ _ _) (by simp [Value.oneCell']) (by unfold maxLen; omega) (by omega) (by have := hB.size; simp; omega) ?_; intro v' w1 hown' hgrow _; obtain ⟨g', cap', rfl⟩ := ownsRow_succ hown'; obtain ⟨hv1, hv2, hr2, hk2, hb2⟩ := hv.appended (by decide) hrow hB.size (Nat.le_refl _) hown' hgrow; have hc1 := hv1.cell; have hf1 := hv1.frozen)
    have hA2 : AllR w (w1.setCell ⟨w.heap.size, 0, none⟩ (Value.slice (some ⟨g', 0, none⟩) (k + 1) cap')) g c pd := by
      obtain ⟨cs, hcs⟩ := Kd.R_typed hA g (by simp [Value.ownBlock])
      have h1 : AllR w (W.alloc (.cells #[.slice (some ⟨g, off, none⟩) n cp] 28)) g c pd := Kd.R_alloc hA _
      obtain ⟨cs1, hcs1⟩ := Kd.R_typed h1 g (by simp [Value.ownBlock])
      have hne : v.ownBlock ≠ some g := by
        intro e
        obtain ⟨cs2, hcs2⟩ := own_typed hrow g e
        rw [hcs] at hcs2
        cases hcs2
      have h2 := h1.kept hp0 hgrow hne
      have h3 := Kd.R_bound h2
      refine h2.kept hp0 (grownBy_setCell' w1 w.heap.size _) (fun e => ?_)
      obtain ⟨cs3, hcs3⟩ := Kd.R_typed h2 g (by simp [Value.ownBlock])
      obtain rfl := Option.some.inj e
      rw [show w1.heap[w.heap.size]? = _ from hv1] at hcs3
      cases hcs3
    refine ⟨hk2.from _, g, c, ?_, ?_, ?_⟩
    · rw [List.length_append, List.length_singleton, ← HK.out, preOf_succ, HPRE.out]
    · rw [List.length_append, List.length_singleton, ← HK.out]; omega
    · rw [List.length_append, List.length_singleton, ← HK.out]
      refine ⟨⟨_, hv2, ?_⟩, fun _ => hA2, hB.trans hb2⟩
      rw [List.range_succ, List.map_append, List.map_singleton, rowV]
      rw [HCP.out, HOFF.out] at hr2
      exact hr2
  case iter =>
    intro l W1 R hlow hsz1 hR hY hI1 hR1
    refine callsIn_of_wp Try.func58 rfl trivial ?_ rfl
    simp only [Try.ntmps58, List.size_toArray, List.length_cons, List.length_nil, Nat.reduceAdd, Nat.reduceSub, Array.replicate_succ, Array.replicate_zero, List.push_toArray, List.append_toArray, List.nil_append, List.cons_append]
    have hbl : ∀ {q : Nat} {v : Value}, w.cell? ⟨q, 0, none⟩ = some v → q < w.heap.size := fun {q v} h => Nat.lt_of_not_le (fun hge => by have := Array.getElem?_eq_none hge; simp [World.cell?, this] at h)
    have hL1 : Below w.heap.size w W1 := hB0.trans (hlow.mono (by omega))
    have h1b := (hL1.cell (p := ⟨pb, 0, none⟩) (hbl hpb)).trans hpb
    have h1n := (hL1.cell (p := ⟨pn, 0, none⟩) (hbl hpn)).trans hpn
    have hlf : piece_length.f (b.length : Int) (need : Int) = some (n : Int) := by
      rw [length_f _ _ (by omega) (by omega) ?_ (by omega)]
      · have e1 : (b.length : Int) + (need : Int) - 1 = ((b.length + need - 1 : Nat) : Int) := by omega
        rw [HN.out, e1, Int.natCast_ediv]
      · have : (b.length : Int) ≤ ((n * need : Nat) : Int) := by omega
        have h2 : ((n * need : Nat) : Int) ≤ ((200 * need : Nat) : Int) := by
          have := Nat.mul_le_mul_right need hn3; omega
        omega
    have hlen := fun W => piece_length.calls (b.length : Int) (need : Int) _ W hlf
    have hmix : Try.prog.follows .mixedOrders = true := by kernel_rfl
    gi_wp2
    refine ⟨trivial, (callsIn_wide.2 (hlen _)).mono ?_⟩
    rintro e w' ⟨rfl, ⟨n1, rfl⟩⟩
    gi_wp2
    refine wpIn_wide.2 ?_
    have hw1 : IntKind.i64.wrap ((n : Int) * (need : Int)) = ((n * need : Nat) : Int) := by rw [IntKind.wrap_i64]; rw [← Int.natCast_mul]; omega
    have hw2 : IntKind.i64.wrap (((n * need : Nat) : Int) - (b.length : Int)) = ((n * need - b.length : Nat) : Int) := by rw [IntKind.wrap_i64]; omega
    have hS0 : (fun w' : World => w'.cell? ⟨pb, 0, none⟩ = some (.slice A b.length c0) ∧ w'.cell? ⟨pn, 0, none⟩ = some (.int .i64 (need : Int))) (W1.drewN n1).drew := ⟨h1b, h1n⟩
    refine start_ (n := 10) (S := fun w' => w'.cell? ⟨pb, 0, none⟩ = some (.slice A b.length c0) ∧ w'.cell? ⟨pn, 0, none⟩ = some (.int .i64 (need : Int))) (ds := []) #[false, false, false, false, false, false, false, false, false, false] hmix rfl rfl hS0 (fun hHeld => ?_)
    refine pure_ (i := 2) (N := (some 13)) (v := ?_) (a' := ?_) #[false, false, true, false, false, false, false, false, false, false] rfl rfl (by kernel_rfl) (fun _ _ _ h => h) (Or.inl ⟨by rfl, ?_⟩) ?_ ?_
    rotate_left
    · intro w'
      go_simp
      with_reducible rfl
    rotate_left
    · simp only [Act.put, List.setIfInBounds_toArray, List.set_cons_zero, List.set_cons_succ, i64_w, i32_w]
      rfl
    refine take_ (i := 0) (N := (some 11)) (v := ?_) (a' := ?_) #[true, false, true, false, false, false, false, false, false, false] rfl rfl (by kernel_rfl) (fun _ _ _ h => h) (Or.inl ⟨by rfl, ?_⟩) hHeld ?_ ?_
    rotate_left
    · rintro w' ⟨s0, s1⟩
      go_simp
      with_reducible rfl
    rotate_left
    · simp only [Act.put, List.setIfInBounds_toArray, List.set_cons_zero, List.set_cons_succ, i64_w, i32_w]
      rfl
    refine take_ (i := 3) (N := (some 14)) (v := ?_) (a' := ?_) #[true, false, true, true, false, false, false, false, false, false] rfl rfl (by kernel_rfl) (fun _ _ _ h => h) (Or.inl ⟨by rfl, ?_⟩) hHeld ?_ ?_
    rotate_left
    · rintro w' ⟨s0, s1⟩
      go_simp
      with_reducible rfl
    rotate_left
    · simp only [Act.put, List.setIfInBounds_toArray, List.set_cons_zero, List.set_cons_succ, i64_w, i32_w]
      rfl
    refine take_ (i := 5) (N := (some 16)) (v := ?_) (a' := ?_) #[true, false, true, true, false, true, false, false, false, false] rfl rfl (by kernel_rfl) (fun _ _ _ h => h) (Or.inl ⟨by rfl, ?_⟩) hHeld ?_ ?_
    rotate_left
    · rintro w' ⟨s0, s1⟩
      go_simp
      with_reducible rfl
    rotate_left
    · simp only [Act.put, List.setIfInBounds_toArray, List.set_cons_zero, List.set_cons_succ, i64_w, i32_w]
      rfl
    refine pure_ (i := 4) (N := (some 15)) (v := ?_) (a' := ?_) #[true, false, true, true, true, true, false, false, false, false] rfl rfl (by kernel_rfl) (fun _ _ _ h => h) (Or.inl ⟨by rfl, ?_⟩) ?_ ?_
    rotate_left
    · intro w'
      go_simp
      with_reducible rfl
    rotate_left
    · simp only [Act.put, List.setIfInBounds_toArray, List.set_cons_zero, List.set_cons_succ, i64_w, i32_w]
      rfl
    refine pure_ (i := 6) (N := (some 17)) (v := ?_) (a' := ?_) #[true, false, true, true, true, true, true, false, false, false] rfl rfl (by kernel_rfl) (fun _ _ _ h => h) (Or.inl ⟨by rfl, ?_⟩) ?_ ?_
    rotate_left
    · intro w'
      go_simp
      with_reducible rfl
    rotate_left
    · simp only [Act.put, List.setIfInBounds_toArray, List.set_cons_zero, List.set_cons_succ, i64_w, i32_w]
      rfl
    refine pure_ (i := 7) (N := (some 18)) (v := ?_) (a' := ?_) #[true, false, true, true, true, true, true, true, false, false] rfl rfl (by kernel_rfl) (fun _ _ _ h => h) (Or.inl ⟨by rfl, ?_⟩) ?_ ?_
    rotate_left
    · intro w'
      go_simp
      with_reducible rfl
    rotate_left
    · simp only [Act.put, List.setIfInBounds_toArray, List.set_cons_zero, List.set_cons_succ, i64_w, i32_w]
      rfl
    refine one_ (i := 1) (N := some 12) #[true, true, true, true, true, true, true, true, false, false] rfl rfl (by kernel_rfl) (by decide) (fun K hK => ?_)
    go_simp
    have hclf : slices_Clone_byte_byte.f b = some b := by unfold slices_Clone_byte_byte.f; rw [if_pos (by omega)]
    have hLd := pw_below_drewN hL1 (n1 + 1)
    (with_reducible refine (slices_Clone_byte_byte.calls A c0 b b _ (Kd.C_below hC hLd) hc hclf).mono ?_)
    rintro e w2 ⟨v2, rfl, hR2, hb2⟩
    have hsD : (W1.drewN (n1 + 1)).heap.size = W1.heap.size := rfl
    rw [hsD] at hR2 hb2
    have hbb := hL1.size
    have hpbl := hbl hpb
    have hpnl := hbl hpn
    have h2b : w2.cell? ⟨pb, 0, none⟩ = some (.slice A b.length c0) := (hb2.cell (p := ⟨pb, 0, none⟩) (show pb < W1.heap.size by omega)).trans h1b
    have h2n : w2.cell? ⟨pn, 0, none⟩ = some (.int .i64 (need : Int)) := (hb2.cell (p := ⟨pn, 0, none⟩) (show pn < W1.heap.size by omega)).trans h1n
    refine hK.out _ _ ⟨h2b, h2n⟩ (fun hHeld => ?_)
    clear hK K
    have hzz : wrap64 ((n : Int) * (need : Int) - (b.length : Int)) = ((n * need - b.length : Nat) : Int) := by
      rw [← Int.natCast_mul]; unfold wrap64; omega
    have HZZ := Aside0.mk hzz
    clear hzz hw1 hw2
    have hR2' := Kd.R_lower hR2 (show w.heap.size ≤ W1.heap.size by omega)
    refine one_ (i := 8) (N := some 19) #[true, true, true, true, true, true, true, true, true, false] rfl rfl (by kernel_rfl) (by decide) (fun K hK => ?_)
    refine Kd.R_append_zeros_step (Kd.int .u8) (w0 := w) w.heap.size (by rfl) (.tmp 12) (.tmp 18) 28 3 5 (.int .u8 0) 1 rfl Try.underlying28 Try.underlying3 info_u8 rfl (by decide) (by omega) v2 b (0 : Int) (wrap64 ((n : Int) * (need : Int) - (b.length : Int))) (fun _ => True) rfl rfl rfl (fun _ _ => trivial) hR2' (by rw [HZZ.out]; omega) (hLd.trans (hb2.mono (by omega))) (by have := hb2.size; omega) (by rw [HZZ.out]; omega) ?_
    intro v3 w3 ho hb3 hg3 hat
    have hb3' : Below W1.heap.size (W1.drewN (n1 + 1)) w3 := hb2.grown hg3 hb2.size (fun k e => Kd.R_base hR2 k e)
    rw [HZZ.out, Int.toNat_natCast, ← HPD.out] at ho
    have h3b : w3.cell? ⟨pb, 0, none⟩ = some (.slice A b.length c0) := (hb3'.cell (p := ⟨pb, 0, none⟩) (show pb < W1.heap.size by omega)).trans h1b
    have h3n : w3.cell? ⟨pn, 0, none⟩ = some (.int .i64 (need : Int)) := (hb3'.cell (p := ⟨pn, 0, none⟩) (show pn < W1.heap.size by omega)).trans h1n
    obtain ⟨g, cp, rfl, hgb, hgl, hgc⟩ := Kd.R_form ho hp0
    refine hK.out _ _ ⟨h3b, h3n⟩ (fun hHeld => ?_)
    clear hK K
    refine norm_ (a' := ?_) ?_ ?_
    rotate_left
    · show Act.put _ (some 19) _ = _
      simp only [Act.put, List.setIfInBounds_toArray, List.set_cons_zero, List.set_cons_succ, i64_w, i32_w]
      rfl
    refine pure_ (i := 9) (N := (some 5)) (v := ?_) (a' := ?_) #[true, true, true, true, true, true, true, true, true, true] rfl rfl (by kernel_rfl) (fun _ _ _ h => h) (Or.inl ⟨by rfl, ?_⟩) ?_ ?_
    rotate_left
    · intro w'
      go_simp
      with_reducible rfl
    rotate_left
    · simp only [Act.put, List.setIfInBounds_toArray, List.set_cons_zero, List.set_cons_succ, i64_w, i32_w]
      rfl
    refine done_ (by kernel_rfl) ?_
    have hgn : (W1.drewN (n1 + 1)).grownBy w3 none := ⟨hb3'.os, hb3'.tape, hb3'.output, hb3'.size, fun k hk _ => hb3'.block k hk⟩
    have hR3 : R w3 := hR _ _ none (hR _ _ none hR1 (grown_drewN0 W1 (n1 + 1)) (fun j e => by cases e)) hgn (fun j e => by cases e)
    have hI3 : RI w g cp n pd 0 w3 := by
      obtain ⟨g0, c00, _, _, h0⟩ := hI1
      have h1 := (h0.kept hp0 (grown_drewN0 W1 (n1 + 1)) (fun j e => by cases e)).kept hp0 hgn (fun j e => by cases e)
      exact ⟨h1.ex, fun h => absurd h (by omega), h1.low⟩
    have hA3 : AllR w w3 g cp pd := ho
    clear ho hb3 hg3 hat hR2 hR2' hb2 hgn hHeld hS0 h2b h2n hgc h3b
    gi_wp2
    have HPL := Aside0.mk hpl
    clear hpl
    gi_loopw [21] (fun p wr => ∃ k : Nat, p = .int .i64 (k : Int) ∧ k ≤ need ∧ RI w g cp n pd k wr ∧ AllR w wr g cp pd ∧ R wr) (fun p _ => need - (intOf p).toNat)
    case atStart => exact ⟨0, rfl, Nat.zero_le _, hI3, hA3, hR3⟩
    case round =>
      clear hI3 hA3 hR3
      obtain ⟨k, rfl, hk, hI, hA, hRr⟩ := hrel
      by_cases hkn : k < need
      · have hk2 : (k : Int) < (need : Int) := by omega
        obtain ⟨lo, hlo⟩ : ∃ lo, lo = k * n := ⟨_, rfl⟩
        have hhi : lo + n ≤ n * need := by
          rw [hlo, Nat.mul_comm n need, ← Nat.succ_mul]; exact Nat.mul_le_mul_right n hkn
        have hcp : n * need ≤ cp := by
          obtain ⟨_, h1, _⟩ := Kd.R_reads' hA
          rw [← HPL.out]; exact h1
        have m1 : (k : Int) * (n : Int) = (lo : Int) := by rw [hlo, Int.natCast_mul]
        have m2 : ((k : Int) + 1) * (n : Int) = ((lo + n : Nat) : Int) := by rw [Int.natCast_add, hlo, Int.natCast_mul]; exact Int.add_mul _ _ _ |>.trans (by rw [Int.one_mul])
        have hy := hY (preOf g cp k) (g, cp, k) wr ⟨g, cp, by rw [preOf_len], by rw [preOf_len]; omega, by rw [preOf_len]; exact hI⟩ hRr ⟨g, cp, by rw [preOf_len], by rw [preOf_len], by rw [preOf_len]; exact hkn, hA⟩
        obtain ⟨fn, tmps, assign, body, hyr, hRd⟩ := hy
        simp only [rowV, ← hlo] at hyr
        have HLO := Aside0.mk hlo
        clear hlo
        have q1 : (lo : Int) ≤ ((lo + n : Nat) : Int) := by omega
        have q2 : ((lo + n : Nat) : Int) ≤ (cp : Int) := by omega
        have q3 : (lo + n) - lo = n := by omega
        have q4 : ¬ cp = lo := by omega
        have q5 : 0 ≤ (lo : Int) := by omega
        gi_wp2
        refine hRd.mono ?_
        rintro e W3 ⟨rfl, ⟨g', c', hpre, hle3, hI3⟩, hR3⟩
        rw [List.length_append, List.length_singleton, preOf_len] at hpre hle3 hI3
        rw [← preOf_succ] at hpre
        obtain ⟨rfl, rfl⟩ := preOf_inj (by omega) hpre
        have hA3 := hI3.all (by omega)
        clear hRd hyr hI hA hRr
        gi_wp2
        go_roundw
        case rel => exact ⟨k + 1, rfl, hle3, hI3, hA3, hR3⟩
        case measure => first | (simp [intOf]; done) | (simp [intOf]; omega)
      · have hke : k = need := by omega
        clear hkn hk
        subst hke
        gi_wp2
        go_end0
        exact ⟨⟨_, rfl⟩, hRr, g, cp, hI⟩
  case done =>
    rintro D W hD ⟨g, c, hF⟩ hd
    obtain ⟨v, hbx, hrow⟩ := hF.ex
    have hc1 := hbx.cell
    gi_wp2
    refine ⟨by simp, .inl ⟨_, _, rfl, run_takeDeferred hd, ?_⟩⟩
    have hg := grownBy_putObj' W D (.deferred none)
    have hE := hF.kept hp0 hg (fun j e => by
      obtain rfl := Option.some.inj e
      exact .inr ⟨by omega, fun cs t f h => by rw [hd] at h; cases h⟩)
    obtain ⟨v2, hbx2, hrow2⟩ := hE.ex
    have hvv : v2 = v := by
      have h1 := hbx.kept hg (fun e => by have := Option.some.inj e; omega)
      have h2 := h1.cell.symm.trans hbx2.cell
      exact (Option.some.inj h2).symm
    subst hvv
    have hA := hE.all (by omega)
    have hlen : (cutR pd n need).length = need := by simp [cutR]
    have hreps : Reps ((Kd.slice 5 (Kd.int .u8)).K (W.putObj D (.deferred none))) 1 (cutR pd n need) ((List.range need).map fun i => rowV g c n i) := by
      obtain ⟨_, hcc, hCA⟩ := Kd.R_reads' hA
      refine ⟨by simp [cutR], fun j p hj => ?_⟩
      have hjn : j < need := by
        have := (List.getElem?_eq_some_iff.1 hj).1
        simpa [cutR] using this
      have hjm : j * n + n ≤ n * need := by
        rw [Nat.mul_comm n need, ← Nat.succ_mul]; exact Nat.mul_le_mul_right n hjn
      have hp : p = (pd.take (j * n + n)).drop (j * n) := by
        rw [cutR, List.getElem?_map, List.getElem?_range hjn] at hj
        rw [← Option.some.inj hj]
        exact List.take_drop
      have hpl2 : p.length = n := by rw [hp, List.length_drop, List.length_take]; omega
      have hn0 : 0 < n := by
        rcases Nat.eq_zero_or_pos n with h | h
        · rw [h] at hle; omega
        · exact h
      have hm := Kd.C_mid (lo := j * n) (hi := j * n + n) (c := c) hCA (by omega) (by omega) hcc
      rw [if_neg (by omega), ← hp] at hm
      have hadr : (some (⟨g, 0, none⟩ : Addr)).map (·.add (j * n * (Kd.int .u8).sz)) = some ⟨g, j * n, none⟩ := by
        show some (Addr.add ⟨g, 0, none⟩ (j * n * 1)) = _
        rw [Nat.mul_one]
        unfold Addr.add
        split
        · rename_i h; rw [h]
        · rw [Nat.zero_add]
      rw [hadr, hpl2] at hm
      refine ⟨some ⟨g, j * n, none⟩, c - j * n, ?_, by rw [hpl2]; omega, by rw [hpl2]; exact hm⟩
      rw [hpl2, Nat.mul_one, List.drop_eq_getElem_cons (by simpa using hjn)]
      simp [rowV]
    obtain ⟨A', c', hv', hR'⟩ := own_reads_row hrow2 hreps hlen
    subst hv'
    refine ⟨_, results_tmp rfl _ _ _, A', c', rfl, ?_, hR', hE.low⟩
    rcases hrow2.2 with ⟨h, h2⟩ | ⟨g', cap', cur', h, _, _, h5, _⟩
    · cases h; omega
    · cases h; exact h5
set_option maxRecDepth 100000 in
theorem rows_calls (A : Option Addr) (m c : Nat) (x : Int) (w : World) : Calls Try.prog 39 #[.slice A m c, .int .i64 x] w fun e w' =>
    e = .returned (.func (.func 58) #[] #[.pointer (some ⟨w.heap.size, 0, none⟩), .pointer (some ⟨w.heap.size + 1, 0, none⟩)]) ∧ w' = (w.alloc (.cells #[.slice A m c] 28)).alloc (.cells #[.int .i64 x] 3) := by
  have hmf : ∀ (fn : Fn) (first cap : Array Value) (w : World), (Instr.makeFunc fn first cap).run Try.prog w = .ok (.func fn first cap) w := fun _ _ _ _ => rfl
  go_enter Try.func39, Try.ntmps39
  go_wp2_with fail
  go_ret
  exact ⟨rfl, rfl⟩
set_option maxHeartbeats 4000000 in
set_option maxRecDepth 100000 in
theorem collect_rows (A : Option Addr) (c0 : Nat) (b : List Int) (need n : Nat) (pb pn : Nat) (w : World) (hpb : w.cell? ⟨pb, 0, none⟩ = some (.slice A b.length c0)) (hpn : w.cell? ⟨pn, 0, none⟩ = some (.int .i64 (need : Int)))
    (hC : Kd.C (Kd.int .u8) w A b.length b) (hc : b.length ≤ c0) (hn1 : 1 ≤ need) (hn2 : need ≤ 32) (hb1 : 1 ≤ b.length) (hn : n = (b.length + need - 1) / need) (hn3 : n ≤ 200) :
    Calls Try.prog 38 #[.func (.func 58) #[] #[.pointer (some ⟨pb, 0, none⟩), .pointer (some ⟨pn, 0, none⟩)]] w fun e w' =>
      ∃ A' c', e = .returned (.slice A' need c') ∧ need ≤ c' ∧ Kd.C (Kd.slice 5 (Kd.int .u8)) w' A' need (cutR (b ++ List.replicate (n * need - b.length) 0) n need) ∧ Below w.heap.size w w' := by
  have hap := appendSeq_rows A c0 b need n pb pn w hpb hpn hC hc hn1 hn2 hb1 hn hn3
  clear hn
  go_enter Try.func38, Try.ntmps38
  go_wp2_with fail
  (with_reducible refine hap.mono ?_)
  rintro e w' ⟨A', c', rfl, h1, h2, h3⟩
  go_wp2_with fail
  go_ret
  exact ⟨A', c', rfl, h1, h2, h3⟩
end Go.Proofs.YthiealhmcfdakaaH
end
section
set_option linter.unusedVariables false
set_option linter.unusedSimpArgs false
namespace Go.Proofs.YthiealhmcfdakaaH
open Go Go.RowKit Go.Proofs.YthiealhmcfdakaaW.PrintWords Go.Proofs.YthiealhmcfdakaaW.PrintLast Go.Proofs.YthiealhmcfdakaaW.PrintMore Go.Proofs.Ythiealhmcfdakaa.E
def FF (w1 W : World) (gf : Nat) (l : List Int) (j : Nat) : Prop :=
  ∃ A c, W.heap[gf]? = some (.cells #[.slice A (l.length - j) c] 71 (0, 0)) ∧ l.length - j ≤ c ∧ (Kd.int .i64).C w1 A (l.drop j).length (l.drop j)
theorem FF.of {w1 W W' : World} {gf : Nat} {l : List Int} {j : Nat} (h : FF w1 W gf l j) (he : W'.heap[gf]? = W.heap[gf]?) : FF w1 W' gf l j := by
  obtain ⟨A, c, h1, h2, h3⟩ := h
  exact ⟨A, c, he.trans h1, h2, h3⟩
set_option maxHeartbeats 4000000 in
set_option maxRecDepth 100000 in
theorem next_calls (w1 W : World) (gf : Nat) (l : List Int) (j : Nat) (hF : FF w1 W gf l j) (hj : j < l.length) (hB : Below w1.heap.size w1 W) (hgf : w1.heap.size ≤ gf) :
    Calls Try.prog 31 #[.pointer (some ⟨gf, 0, none⟩)] W fun e w' => e = .returned (.int .i64 (rd l (j : Int))) ∧ FF w1 w' gf l (j + 1) ∧ (∀ k, k ≠ gf → w'.heap[k]? = W.heap[k]?) ∧ Below w1.heap.size w1 w' ∧ w'.heap.size = W.heap.size := by
  obtain ⟨A, c, h1, h2, h3⟩ := hF
  have hl : (l.drop j).length = l.length - j := List.length_drop
  have hCW := Kd.C_below h3 hB
  obtain ⟨ad, rfl, hy⟩ := Kd.at_int hCW 0 (by omega) (by omega)
  have hrd : rd (l.drop j) 0 = rd l (j : Int) := by
    simp [rd, List.getD_eq_getElem?_getD]
  rw [hrd] at hy
  have had : ad.add 0 = ad := rfl
  have hy' : W.cell? ad = some (.int .i64 (rd l (j : Int))) := hy
  obtain ⟨n, hn⟩ : ∃ n, l.length - j = n + 1 := ⟨l.length - j - 1, by omega⟩
  rw [hn] at h1 h2
  have hc0 : W.cell? ⟨gf, 0, none⟩ = some (.slice (some ad) (n + 1) c) := blk_cell h1 0
  have hfz : W.frozen? ⟨gf, 0, none⟩ = false := blk_frozen h1 0
  have hd : (Kd.int .i64).C w1 (if c = 1 then some ad else some (ad.add 1)) (l.drop (j + 1)).length (l.drop (j + 1)) := by
    have := Kd.C_drop (m := 1) (c := c) h3 (by omega) (by omega)
    rw [List.drop_drop] at this
    exact this
  have hl2 : l.length - (j + 1) = n := by omega
  have H1 := Aside0.mk h1
  have HD := Aside0.mk hd
  have HL := Aside0.mk hl2
  have hi1 : (0 : Int) < ((n : Int) + 1) := by omega
  have hi2 : (1 : Int) ≤ (c : Int) := by omega
  have hi3 : (1 : Int) ≤ ((n : Int) + 1) := by omega
  have hi4 : (n : Int) + 1 ≤ (c : Int) := by omega
  clear hl hrd hy hn h1 hd hl2 h3 hCW had
  by_cases hq : c = 1
  · subst hq
    obtain rfl : n = 0 := by omega
    have HD' := HD.out
    rw [if_pos rfl] at HD'
    go_enter Try.func31, Try.ntmps31
    go_wp2_with fail
    go_ret
    exact ⟨rfl, ⟨_, _, by rw [HL.out]; exact blk_put H1.out 0 _ rfl, by rw [HL.out]; omega, HD'⟩, fun k hk => Below.heap_setCell _ _ _ _ hk, hB.setCell (p := ⟨gf, 0, none⟩) hgf _, by simp⟩
  · have HD' := HD.out
    rw [if_neg hq] at HD'
    go_enter Try.func31, Try.ntmps31
    go_wp2_with fail
    go_ret
    exact ⟨rfl, ⟨_, _, by rw [HL.out]; exact blk_put H1.out 0 _ rfl, by rw [HL.out]; omega, HD'⟩, fun k hk => Below.heap_setCell _ _ _ _ hk, hB.setCell (p := ⟨gf, 0, none⟩) hgf _, by simp⟩
end Go.Proofs.YthiealhmcfdakaaH
end
section
set_option linter.unusedVariables false
set_option linter.unusedSimpArgs false
namespace Go.Proofs.YthiealhmcfdakaaH
open Go Go.RowKit Go.Proofs.YthiealhmcfdakaaW.PrintWords Go.Proofs.YthiealhmcfdakaaW.PrintLast Go.Proofs.YthiealhmcfdakaaW.PrintMore Go.Proofs.Ythiealhmcfdakaa.E
def wcs (l : List Int) (k : Nat) (bt : Bool) (tx : Value) : Array Value :=
  #[.int .i64 (if 0 < k then rd l 0 else 0), .int .i64 (if 1 < k then rd l 1 else 0), .int .i64 (if 2 < k then rd l 2 else 0), .int .i64 (if 3 < k then rd l 3 else 0), .int .i64 (if 4 < k then rd l 4 else 0),
    .int .i64 (if 5 < k then rd l 5 else 0), .int .i64 (if 6 < k then rd l 6 else 0), .int .i64 (if 7 < k then rd l 7 else 0), .int .i64 (if 8 < k then rd l 8 else 0), .int .i64 (if 9 < k then rd l 9 else 0), .bool bt, tx]
theorem wcs_succ (l : List Int) (k : Nat) (hk : k < 10) (bt : Bool) (tx : Value) : (wcs l k bt tx).setIfInBounds k (.int .i64 (rd l (k : Int))) = wcs l (k + 1) bt tx := by
  obtain rfl | rfl | rfl | rfl | rfl | rfl | rfl | rfl | rfl | rfl : k = 0 ∨ k = 1 ∨ k = 2 ∨ k = 3 ∨ k = 4 ∨ k = 5 ∨ k = 6 ∨ k = 7 ∨ k = 8 ∨ k = 9 := by omega
  all_goals simp [wcs]
structure FS (w1 W : World) (l : List Int) (j k : Nat) (bt : Bool) (tx : Value) : Prop where
  f : FF w1 W w1.heap.size l j
  g : W.heap[w1.heap.size + 1]? = some (.cells (wcs l k bt tx) 30 (0, 0))
  b : Below w1.heap.size w1 W
  s : w1.heap.size + 2 ≤ W.heap.size
theorem FS.store {w1 W : World} {l : List Int} {j k : Nat} {bt : Bool} {tx : Value} (h : FS w1 W l j k bt tx) (hk : k < 10) : FS w1 (W.setCell ⟨w1.heap.size + 1, k, none⟩ (.int .i64 (rd l (k : Int)))) l j (k + 1) bt tx where
  f := h.f.of (Below.heap_setCell _ _ _ _ (by simp))
  g := blk_put h.g k _ (wcs_succ l k hk bt tx)
  b := h.b.setCell (p := ⟨w1.heap.size + 1, k, none⟩) (Nat.le_succ _) _
  s := by have := h.s; simpa using this
theorem FS.next {w1 W : World} {l : List Int} {j k : Nat} {bt : Bool} {tx : Value} (h : FS w1 W l j k bt tx) (hj : j < l.length) :
    Calls Try.prog 31 #[.pointer (some ⟨w1.heap.size, 0, none⟩)] W fun e w' => e = .returned (.int .i64 (rd l (j : Int))) ∧ FS w1 w' l (j + 1) k bt tx :=
  (next_calls w1 W w1.heap.size l j h.f hj h.b (Nat.le_refl _)).mono (fun e w' ⟨h1, h2, h3, h4, h5⟩ => ⟨h1, h2, (h3 _ (by omega)).trans h.g, h4, by have := h.s; omega⟩)
theorem FS.next2 {w1 W : World} {l : List Int} {j k : Nat} {bt : Bool} {tx : Value} (h : FS w1 W l j k bt tx) (hj : j < l.length) :
    Calls Try.prog 31 #[.pointer (some ⟨w1.heap.size, 0, none⟩)] W fun e w' => e = .returned (.int .i64 (rd l (j : Int))) ∧ FS w1 w' l (j + 1) k bt tx ∧ (∀ k, k ≠ w1.heap.size → w'.heap[k]? = W.heap[k]?) :=
  (next_calls w1 W w1.heap.size l j h.f hj h.b (Nat.le_refl _)).mono (fun e w' ⟨h1, h2, h3, h4, h5⟩ => ⟨h1, ⟨h2, (h3 _ (by omega)).trans h.g, h4, by have := h.s; omega⟩, h3⟩)
theorem FS.grown {w1 W W' : World} {l : List Int} {j k : Nat} {bt : Bool} {tx : Value} {r : Option Nat} (h : FS w1 W l j k bt tx) (hg : W.grownBy W' r) (hr : ∀ k, r = some k → w1.heap.size + 2 ≤ k) : FS w1 W' l j k bt tx where
  f := h.f.of (hg.block _ (by have := h.s; omega) (fun e => by have := hr _ e.symm; omega))
  g := (hg.block _ (by have := h.s; omega) (fun e => by have := hr _ e.symm; omega)).trans h.g
  b := h.b.grown hg (by have := h.s; omega) (fun k e => by have := hr k e; omega)
  s := Nat.le_trans h.s hg.size
theorem FS.storeB {w1 W : World} {l : List Int} {j k : Nat} {bt : Bool} {tx : Value} (h : FS w1 W l j k bt tx) (b : Bool) : FS w1 (W.setCell ⟨w1.heap.size + 1, 10, none⟩ (.bool b)) l j k b tx where
  f := h.f.of (Below.heap_setCell _ _ _ _ (by simp))
  g := blk_put h.g 10 _ (by simp [wcs])
  b := h.b.setCell (p := ⟨w1.heap.size + 1, 10, none⟩) (Nat.le_succ _) _
  s := by have := h.s; simpa using this
theorem FS.storeT {w1 W : World} {l : List Int} {j k : Nat} {bt : Bool} {tx : Value} (h : FS w1 W l j k bt tx) (t : Value) : FS w1 (W.setCell ⟨w1.heap.size + 1, 11, none⟩ t) l j k bt t where
  f := h.f.of (Below.heap_setCell _ _ _ _ (by simp))
  g := blk_put h.g 11 _ (by simp [wcs])
  b := h.b.setCell (p := ⟨w1.heap.size + 1, 11, none⟩) (Nat.le_succ _) _
  s := by have := h.s; simpa using this
theorem FS.alloc {w1 W : World} {l : List Int} {j k : Nat} {bt : Bool} {tx : Value} (h : FS w1 W l j k bt tx) (o : Obj) : FS w1 (W.alloc o) l j k bt tx where
  f := h.f.of (Below.heap_alloc _ _ _ (by have := h.s; omega))
  g := (Below.heap_alloc _ _ _ (by have := h.s; omega)).trans h.g
  b := h.b.alloc (by have := h.s; omega) _
  s := by have := h.s; simp; omega
theorem FS.fz {w1 W : World} {l : List Int} {j k : Nat} {bt : Bool} {tx : Value} (h : FS w1 W l j k bt tx) (i : Nat) : W.frozen? ⟨w1.heap.size + 1, i, none⟩ = false := blk_frozen h.g i
def textOk (l : List Int) : Bool := (l.drop 11).all fun c => decide (0 ≤ c ∧ c ≤ 255)
def warnOf (l : List Int) : Wn := ⟨rd l 0, rd l 1, rd l 2, rd l 3, rd l 4, rd l 5, rd l 6, rd l 7, rd l 8, rd l 9, rd l 10 == 1, l.drop 11⟩
def piece_From.f (l0 : List Int) : Option (Wn × Int) :=
  (codec_Get.f l0).bind fun t => if t.2 ≠ 0 then some (zWn, t.2) else if t.1.length < 11 then some (zWn, 7)
    else if t.1.length < 1000000 then (if textOk t.1 = true ∧ 0 ≤ rd t.1 10 ∧ rd t.1 10 ≤ 1 ∧ validW (warnOf t.1) then some (warnOf t.1, 0) else some (zWn, 7)) else none
set_option maxHeartbeats 8000000 in
set_option maxRecDepth 100000 in
theorem piece_From.calls (A0 : Option Addr) (c0 : Nat) (l0 : List Int) (p : Wn) (er : Int) (w : World) (hr0 : Kd.C (Kd.int .u8) w A0 l0.length l0) (hc0 : l0.length ≤ c0) (h : piece_From.f l0 = some (p, er)) :
    Calls Try.prog 13 #[.slice A0 l0.length c0] w fun e w' => ∃ v : Value, e = .returned (.tuple #[vWn p v, .int .i64 er]) ∧ Kd.R (Kd.int .u8) 5 w' w.heap.size (fun _ => True) v p.text ∧ Below w.heap.size w w' := by
  have hu30 := Try.underlying30
  have hu27 := Try.underlying27
  have hu23 := Try.underlying23
  have hu25 := Try.underlying25
  have hu71 := Try.underlying71
  have hmf : ∀ (fn : Fn) (first cap : Array Value) (w : World), (Instr.makeFunc fn first cap).run Try.prog w = .ok (.func fn first cap) w := fun _ _ _ _ => rfl
  unfold piece_From.f at h
  obtain ⟨⟨l, r2⟩, ho, h⟩ := Option.bind_eq_some_iff.1 h
  dsimp only at h
  have hget := fun W (hB : Below w.heap.size w W) => codec_Get.calls A0 c0 l0 l r2 W (Kd.C_below hr0 hB) hc0 ho
  clear ho
  have hi30 : (Try.prog.info? 30).map (·.size) = some 12 := by kernel_rfl
  go_enter Try.func13, Try.ntmps13
  go_wp2_with fail
  obtain ⟨W0, hW0⟩ : ∃ W0, w.alloc (.cells #[.int .i64 0, .int .i64 0, .int .i64 0, .int .i64 0, .int .i64 0, .int .i64 0, .int .i64 0, .int .i64 0, .int .i64 0, .int .i64 0, .bool false, .slice none 0 0] 30) = W0 := ⟨_, rfl⟩
  have hB0 : Below w.heap.size w W0 := by rw [← hW0]; exact (Below.refl _ _).alloc (Nat.le_refl _) _
  have hs0 : W0.heap.size = w.heap.size + 1 := by rw [← hW0]; simp
  have hk0 : W0.heap[w.heap.size]? = some (.cells #[.int .i64 0, .int .i64 0, .int .i64 0, .int .i64 0, .int .i64 0, .int .i64 0, .int .i64 0, .int .i64 0, .int .i64 0, .int .i64 0, .bool false, .slice none 0 0] 30 (0, 0)) := by rw [← hW0]; exact World.alloc_heap_new _ _
  rw [hW0]
  clear hW0
  (with_reducible refine (hget W0 hB0).mono ?_)
  rintro e w1 ⟨v0, rfl, hR, hb⟩
  have HK1 := Aside0.mk ((hb.block _ (by omega)).trans hk0)
  have HB1 := Aside0.mk (hB0.trans (hb.mono (by omega)))
  clear hb hB0 hk0 hget
  obtain ⟨A1, c1, rfl, hc1, hC⟩ := Kd.R_reads hR
  by_cases c1' : r2 = 0
  case neg =>
    rw [if_pos c1'] at h
    obtain ⟨rfl, rfl⟩ := Prod.mk.inj (Option.some.inj h)
    have k1 : ((r2 : Int) == 0) = false := beq_eq_false_iff_ne.mpr c1'
    go_wp2_with (first | (refine wpList_store_row rfl 30 (.tmp 2) (.tmp 21) rfl w.heap.size rfl #[.int .i64 0, .int .i64 0, .int .i64 0, .int .i64 0, .int .i64 0, .int .i64 0, .int .i64 0, .int .i64 0, .int .i64 0, .int .i64 0, .bool false, .slice none 0 0] rfl 30 #[.int .i64 0, .int .i64 0, .int .i64 0, .int .i64 0, .int .i64 0, .int .i64 0, .int .i64 0, .int .i64 0, .int .i64 0, .int .i64 0, .bool false, .slice none 0 0] HK1.out rfl ?h1 hi30 ?_; (case h1 => simp [Value.oneCell'])))
    refine bodyPost_ret (results_list (rs := [.cell 2 30, .tmp 3]) rfl (by simp) (.cell w.heap.size 30 #[.int .i64 0, .int .i64 0, .int .i64 0, .int .i64 0, .int .i64 0, .int .i64 0, .int .i64 0, .int .i64 0, .int .i64 0, .int .i64 0, .bool false, .slice none 0 0] (0, 0) _ rfl (setRow_heap _ _ _ _ _ _ HK1.out) hu30 rfl hi30 (.tmp .nil))) rfl ?_
    exact ⟨_, rfl, Kd.R_nil _ _ _ _ _, below_setRow HB1.out (Nat.le_refl _) _⟩
  subst c1'
  rw [if_neg (by simp)] at h
  by_cases c3 : l.length < 11
  · rw [if_pos c3] at h
    obtain ⟨rfl, rfl⟩ := Prod.mk.inj (Option.some.inj h)
    have k3 : (l.length : Int) < 11 := by omega
    go_wp2_with (first | (refine wpList_store_row rfl 30 (.tmp 2) (.tmp 26) rfl w.heap.size rfl #[.int .i64 0, .int .i64 0, .int .i64 0, .int .i64 0, .int .i64 0, .int .i64 0, .int .i64 0, .int .i64 0, .int .i64 0, .int .i64 0, .bool false, .slice none 0 0] rfl 30 #[.int .i64 0, .int .i64 0, .int .i64 0, .int .i64 0, .int .i64 0, .int .i64 0, .int .i64 0, .int .i64 0, .int .i64 0, .int .i64 0, .bool false, .slice none 0 0] HK1.out rfl ?h1 hi30 ?_; (case h1 => simp [Value.oneCell'])))
    refine bodyPost_ret (results_list (rs := [.cell 2 30, .tmp 3]) rfl (by simp) (.cell w.heap.size 30 #[.int .i64 0, .int .i64 0, .int .i64 0, .int .i64 0, .int .i64 0, .int .i64 0, .int .i64 0, .int .i64 0, .int .i64 0, .int .i64 0, .bool false, .slice none 0 0] (0, 0) _ rfl (setRow_heap _ _ _ _ _ _ HK1.out) hu30 rfl hi30 (.tmp .nil))) rfl ?_
    exact ⟨_, rfl, Kd.R_nil _ _ _ _ _, below_setRow HB1.out (Nat.le_refl _) _⟩
  rw [if_neg c3] at h
  by_cases c4 : l.length < 1000000
  case neg => rw [if_neg c4] at h; cases h
  rw [if_pos c4] at h
  have k3 : ¬ (l.length : Int) < 11 := by omega
  have HH := Aside0.mk h
  clear h
  go_wp2_with fail
  have hS : FS w1 ((w1.alloc (.cells #[.slice A1 l.length c1] 71)).alloc (.cells #[.int .i64 0, .int .i64 0, .int .i64 0, .int .i64 0, .int .i64 0, .int .i64 0, .int .i64 0, .int .i64 0, .int .i64 0, .int .i64 0, .bool false, .slice none 0 0] 30)) l 0 0 false (.slice none 0 0) := by
    refine ⟨⟨A1, c1, ?_, hc1, hC⟩, ?_, ((Below.refl _ _).alloc (Nat.le_refl _) _).alloc (by simp) _, by simp⟩
    · exact (Below.heap_alloc _ _ _ (by simp)).trans (World.alloc_heap_new w1 _)
    · have := World.alloc_heap_new (w1.alloc (.cells #[.slice A1 l.length c1] 71)) (.cells #[.int .i64 0, .int .i64 0, .int .i64 0, .int .i64 0, .int .i64 0, .int .i64 0, .int .i64 0, .int .i64 0, .int .i64 0, .int .i64 0, .bool false, .slice none 0 0] 30)
      rw [World.size_alloc] at this
      exact this
  have hlen : 11 ≤ l.length := by omega
  clear hC hc1 c3 k3 hR
  (with_reducible refine (hS.next (by omega)).mono ?_)
  clear hS
  rintro e W ⟨rfl, hS⟩
  go_wp2_with fail
  (with_reducible refine (hS.next (by omega)).mono ?_)
  clear hS
  rintro e W ⟨rfl, hS⟩
  go_wp2_with fail
  (with_reducible refine (hS.next (by omega)).mono ?_)
  clear hS
  rintro e W ⟨rfl, hS⟩
  have hq0 : W.cell? ⟨w1.heap.size + 1, 0, none⟩ = some (.int .i64 (if 0 < 0 then rd l 0 else 0)) := blk_cell hS.g 0
  have hz0 := hS.fz 0
  have hq1 : W.cell? ⟨w1.heap.size + 1, 1, none⟩ = some (.int .i64 (if 1 < 0 then rd l 1 else 0)) := blk_cell hS.g 1
  have hz1 := hS.fz 1
  have hq2 : W.cell? ⟨w1.heap.size + 1, 2, none⟩ = some (.int .i64 (if 2 < 0 then rd l 2 else 0)) := blk_cell hS.g 2
  have hz2 := hS.fz 2
  go_wp2_with fail
  clear hq0 hz0 hq1 hz1 hq2 hz2
  have hS' : FS w1 (((W.setCell ⟨w1.heap.size + 1, 0, none⟩ (.int .i64 (rd l 0))).setCell ⟨w1.heap.size + 1, 1, none⟩ (.int .i64 (rd l 1))).setCell ⟨w1.heap.size + 1, 2, none⟩ (.int .i64 (rd l 2))) l 3 3 false (.slice none 0 0) := (((hS.store (by omega)).store (by omega)).store (by omega))
  clear hS
  have hS := hS'
  clear hS'
  (with_reducible refine (hS.next (by omega)).mono ?_)
  clear hS
  rintro e W ⟨rfl, hS⟩
  go_wp2_with fail
  (with_reducible refine (hS.next (by omega)).mono ?_)
  clear hS
  rintro e W ⟨rfl, hS⟩
  have hq3 : W.cell? ⟨w1.heap.size + 1, 3, none⟩ = some (.int .i64 (if 3 < 3 then rd l 3 else 0)) := blk_cell hS.g 3
  have hz3 := hS.fz 3
  have hq4 : W.cell? ⟨w1.heap.size + 1, 4, none⟩ = some (.int .i64 (if 4 < 3 then rd l 4 else 0)) := blk_cell hS.g 4
  have hz4 := hS.fz 4
  go_wp2_with fail
  clear hq3 hz3 hq4 hz4
  have hS' : FS w1 ((W.setCell ⟨w1.heap.size + 1, 3, none⟩ (.int .i64 (rd l 3))).setCell ⟨w1.heap.size + 1, 4, none⟩ (.int .i64 (rd l 4))) l 5 5 false (.slice none 0 0) := ((hS.store (by omega)).store (by omega))
  clear hS
  have hS := hS'
  clear hS'
  obtain ⟨V, hV⟩ : ∃ V, V = ((W.setCell ⟨w1.heap.size + 1, 3, none⟩ (.int .i64 (rd l 3))).setCell ⟨w1.heap.size + 1, 4, none⟩ (.int .i64 (rd l 4))) := ⟨_, rfl⟩
  rw [← hV] at hS ⊢
  have hsV := hS.s
  have hS0 := hS.alloc (.cells #[.pointer (some ⟨w1.heap.size + 1, 5, none⟩), .pointer (some ⟨w1.heap.size + 1, 7, none⟩)] 73)
  have hP0 : (V.alloc (.cells #[.pointer (some ⟨w1.heap.size + 1, 5, none⟩), .pointer (some ⟨w1.heap.size + 1, 7, none⟩)] 73)).heap[V.heap.size]? = some (.cells #[.pointer (some ⟨w1.heap.size + 1, 5, none⟩), .pointer (some ⟨w1.heap.size + 1, 7, none⟩)] 73 (0, 0)) := World.alloc_heap_new _ _
  have hvs : (W.setCell ⟨w1.heap.size + 1, 3, none⟩ (.int .i64 (rd l 3))).heap.size = W.heap.size := by simp
  have hVs : V.heap.size = W.heap.size := by rw [hV]; simp
  have HV := Aside0.mk hVs
  rw [hVs] at hP0 hsV
  clear hV hS hvs hVs
  go_loopw [57] (fun p wr => ∃ j : Nat, p = .int .i64 (j : Int) ∧ j ≤ 2 ∧ FS w1 wr l (5 + 2 * j) (5 + 2 * j) false (.slice none 0 0) ∧ wr.heap[W.heap.size]? = some (.cells #[.pointer (some ⟨w1.heap.size + 1, 5, none⟩), .pointer (some ⟨w1.heap.size + 1, 7, none⟩)] 73 (0, 0))) (fun p _ => 2 - (intOf p).toNat)
  case atStart => exact ⟨0, rfl, by omega, hS0, hP0⟩
  case round =>
    clear hS0 hP0
    obtain ⟨j, rfl, hj, hS, hP⟩ := hrel
    obtain rfl | rfl | rfl : j = 0 ∨ j = 1 ∨ j = 2 := by omega
    · have hp : wr.cell? ⟨W.heap.size, 0, none⟩ = some (.pointer (some ⟨w1.heap.size + 1, 5, none⟩)) := blk_cell hP 0
      go_wp2_with fail
      (with_reducible refine (hS.next2 (by omega)).mono ?_)
      rintro e W2 ⟨rfl, hS2, ho2⟩
      have hP2 := (ho2 _ (by omega)).trans hP
      clear hS ho2 hP hp
      go_wp2_with fail
      (with_reducible refine (hS2.next2 (by omega)).mono ?_)
      rintro e W3 ⟨rfl, hS3, ho3⟩
      have hP3 := (ho3 _ (by omega)).trans hP2
      clear hS2 ho3 hP2
      have hqa : W3.cell? ⟨w1.heap.size + 1, 5, none⟩ = some (.int .i64 (if 5 < 5 then rd l 5 else 0)) := blk_cell hS3.g 5
      have hqb : W3.cell? ⟨w1.heap.size + 1, 6, none⟩ = some (.int .i64 (if 6 < 5 then rd l 6 else 0)) := blk_cell hS3.g 6
      have hza := hS3.fz 5
      have hzb := hS3.fz 6
      go_wp2_with fail
      refine ⟨⟨1, rfl, by omega, (hS3.store (k := 5) (by omega)).store (k := 6) (by omega), ?_⟩, by simp [intOf]⟩
      rw [Below.heap_setCell _ _ _ _ (by simp; omega), Below.heap_setCell _ _ _ _ (by simp; omega)]
      exact hP3
    · have hp : wr.cell? ⟨W.heap.size, 1, none⟩ = some (.pointer (some ⟨w1.heap.size + 1, 7, none⟩)) := blk_cell hP 1
      go_wp2_with fail
      (with_reducible refine (hS.next2 (by omega)).mono ?_)
      rintro e W2 ⟨rfl, hS2, ho2⟩
      have hP2 := (ho2 _ (by omega)).trans hP
      clear hS ho2 hP hp
      go_wp2_with fail
      (with_reducible refine (hS2.next2 (by omega)).mono ?_)
      rintro e W3 ⟨rfl, hS3, ho3⟩
      have hP3 := (ho3 _ (by omega)).trans hP2
      clear hS2 ho3 hP2
      have hqa : W3.cell? ⟨w1.heap.size + 1, 7, none⟩ = some (.int .i64 (if 7 < 7 then rd l 7 else 0)) := blk_cell hS3.g 7
      have hqb : W3.cell? ⟨w1.heap.size + 1, 8, none⟩ = some (.int .i64 (if 8 < 7 then rd l 8 else 0)) := blk_cell hS3.g 8
      have hza := hS3.fz 7
      have hzb := hS3.fz 8
      go_wp2_with fail
      refine ⟨⟨2, rfl, by omega, (hS3.store (k := 7) (by omega)).store (k := 8) (by omega), ?_⟩, by simp [intOf]⟩
      rw [Below.heap_setCell _ _ _ _ (by simp; omega), Below.heap_setCell _ _ _ _ (by simp; omega)]
      exact hP3
    · clear hP hsV HV
      go_wp2_with fail
      (with_reducible refine (hS.next (by omega)).mono ?_)
      clear hS
      rintro e W5 ⟨rfl, hS⟩
      have hq9 : W5.cell? ⟨w1.heap.size + 1, 9, none⟩ = some (.int .i64 (if 9 < 9 then rd l 9 else 0)) := blk_cell hS.g 9
      have hz9 := hS.fz 9
      go_wp2_with fail
      clear hq9 hz9
      have hS' : FS w1 (W5.setCell ⟨w1.heap.size + 1, 9, none⟩ (.int .i64 (rd l 9))) l 10 10 false (.slice none 0 0) := hS.store (k := 9) (by omega)
      (with_reducible refine (hS'.next (by omega)).mono ?_)
      clear hS hS'
      rintro e W6 ⟨rfl, hS⟩
      have hq10 : W6.cell? ⟨w1.heap.size + 1, 10, none⟩ = some (.bool false) := blk_cell hS.g 10
      have hz10 := hS.fz 10
      have hS6 := hS.storeB (rd l 10 == 1)
      obtain ⟨A7, c7, hk7, hc7, hC7⟩ := hS.f
      have hq0 : W6.cell? ⟨w1.heap.size, 0, none⟩ = some (.slice A7 (l.length - 11) c7) := blk_cell hk7 0
      clear hS hk7
      obtain ⟨d, hd⟩ : ∃ d, d = l.drop 11 := ⟨_, rfl⟩
      have hdl : d.length = l.length - 11 := by rw [hd, List.length_drop]
      rw [← hd] at hC7
      rw [← hdl] at hq0 hc7
      have HD := Aside0.mk hd
      have HDL := Aside0.mk hdl
      clear hd hdl
      go_wp2_with fail
      clear hq10 hz10 hq0
      obtain ⟨V6, hV6⟩ : ∃ V6, V6 = W6.setCell ⟨w1.heap.size + 1, 10, none⟩ (.bool (rd l 10 == 1)) := ⟨_, rfl⟩
      rw [← hV6] at hS6 ⊢
      clear hV6
      have hlw : w.heap.size < w1.heap.size := blk_lt HK1.out
      go_loopw [85] (fun p wr => ∃ (i : Nat) (tx : Value), p = .int .i64 (i : Int) ∧ i ≤ d.length ∧ FS w1 wr l 11 10 (rd l 10 == 1) tx ∧ Kd.R (Kd.int .u8) 5 wr w1.heap.size (fun k => w1.heap.size + 2 ≤ k) tx (d.take i) ∧ Aside0 ((d.take i).all (fun c => decide (0 ≤ c ∧ c ≤ 255)) = true)) (fun p _ => d.length - (intOf p).toNat)
      case atStart => exact ⟨0, .slice none 0 0, rfl, Nat.zero_le _, hS6, Kd.R_nil _ _ _ _ _, ⟨rfl⟩⟩
      case round =>
        clear hS6
        obtain ⟨i, tx, rfl, hi, hS, hR, HA⟩ := hrel
        have HKr := Aside0.mk ((hS.b.block _ hlw).trans HK1.out)
        have hSb := hS.b
        by_cases hil : i < d.length
        · have hi2 : (i : Int) < (d.length : Int) := by omega
          have hi3 : (0 : Int) ≤ (i : Int) := by omega
          obtain ⟨ad, e4, hy⟩ := Kd.at_int (Kd.C_below hC7 hS.b) (i : Int) hi3 hi2
          subst e4
          rw [Int.toNat_natCast] at hy
          have hxd : d[i] = rd d (i : Int) := by rw [rd, Int.toNat_natCast, List.getD_eq_getElem?_getD, List.getElem?_eq_getElem hil, Option.getD_some]
          obtain ⟨x, hx⟩ : ∃ x, x = rd d (i : Int) := ⟨_, rfl⟩
          rw [← hx] at hy hxd
          clear hx
          have HX := Aside0.mk hxd
          clear hxd
          have hmx : i + 1 ≤ 9223372036854775807 := by have := Kd.C_max hC7; omega
          have hbad0 : ¬ (0 ≤ x ∧ x ≤ 255) → zWn = p ∧ 7 = er := by
            intro hn
            have h2 := HH.out
            rw [if_neg (fun h => hn (by
              have h3 := h.1
              unfold textOk at h3
              rw [← HD.out, List.all_eq_true] at h3
              have h4 := h3 d[i] (List.getElem_mem hil)
              rw [HX.out, decide_eq_true_iff] at h4
              exact h4))] at h2
            have h5 := Prod.mk.inj (Option.some.inj h2)
            exact h5
          by_cases h0 : x < 0
          · have hbad := hbad0 (by omega)
            clear hbad0
            go_wp2_with (first | (refine wpList_store_row rfl 30 (.tmp 2) (.tmp 95) rfl w.heap.size rfl #[.int .i64 0, .int .i64 0, .int .i64 0, .int .i64 0, .int .i64 0, .int .i64 0, .int .i64 0, .int .i64 0, .int .i64 0, .int .i64 0, .bool false, .slice none 0 0] rfl 30 #[.int .i64 0, .int .i64 0, .int .i64 0, .int .i64 0, .int .i64 0, .int .i64 0, .int .i64 0, .int .i64 0, .int .i64 0, .int .i64 0, .bool false, .slice none 0 0] HKr.out rfl ?h1 hi30 ?_; (case h1 => simp [Value.oneCell'])))
            refine bodyPost_ret (results_list (rs := [.cell 2 30, .tmp 3]) rfl (by simp) (.cell w.heap.size 30 #[.int .i64 0, .int .i64 0, .int .i64 0, .int .i64 0, .int .i64 0, .int .i64 0, .int .i64 0, .int .i64 0, .int .i64 0, .int .i64 0, .bool false, .slice none 0 0] (0, 0) _ rfl (setRow_heap _ _ _ _ _ _ HKr.out) hu30 rfl hi30 (.tmp .nil))) rfl ?_
            obtain ⟨rfl, rfl⟩ := hbad
            exact ⟨_, rfl, Kd.R_nil _ _ _ _ _, below_setRow (HB1.out.trans (hSb.mono (by omega))) (Nat.le_refl _) _⟩
          by_cases h5 : x > 255
          · have hbad := hbad0 (by omega)
            clear hbad0
            go_wp2_with (first | (refine wpList_store_row rfl 30 (.tmp 2) (.tmp 95) rfl w.heap.size rfl #[.int .i64 0, .int .i64 0, .int .i64 0, .int .i64 0, .int .i64 0, .int .i64 0, .int .i64 0, .int .i64 0, .int .i64 0, .int .i64 0, .bool false, .slice none 0 0] rfl 30 #[.int .i64 0, .int .i64 0, .int .i64 0, .int .i64 0, .int .i64 0, .int .i64 0, .int .i64 0, .int .i64 0, .int .i64 0, .int .i64 0, .bool false, .slice none 0 0] HKr.out rfl ?h1 hi30 ?_; (case h1 => simp [Value.oneCell'])))
            refine bodyPost_ret (results_list (rs := [.cell 2 30, .tmp 3]) rfl (by simp) (.cell w.heap.size 30 #[.int .i64 0, .int .i64 0, .int .i64 0, .int .i64 0, .int .i64 0, .int .i64 0, .int .i64 0, .int .i64 0, .int .i64 0, .int .i64 0, .bool false, .slice none 0 0] (0, 0) _ rfl (setRow_heap _ _ _ _ _ _ HKr.out) hu30 rfl hi30 (.tmp .nil))) rfl ?_
            obtain ⟨rfl, rfl⟩ := hbad
            exact ⟨_, rfl, Kd.R_nil _ _ _ _ _, below_setRow (HB1.out.trans (hSb.mono (by omega))) (Nat.le_refl _) _⟩
          clear hbad0
          have hx256 : x % 256 = x := by omega
          obtain ⟨acc, hacc⟩ : ∃ acc, acc = d.take i := ⟨_, rfl⟩
          have hLI : acc.length = i := by rw [hacc, List.length_take]; omega
          rw [← hacc] at hR
          have HACC := Aside0.mk hacc
          have HLI := Aside0.mk hLI
          clear hacc hLI
          obtain ⟨At, ct, rfl⟩ := Kd.R_slice hR
          have hq11 : wr.cell? ⟨w1.heap.size + 1, 11, none⟩ = some (.slice At acc.length ct) := blk_cell hS.g 11
          have HO := Aside0.mk hR
          have HS := Aside0.mk hS
          have HSb := Aside0.mk hSb
          have HLL := Aside0.mk c4
          have HDLL := Aside0.mk (show d.length ≤ l.length by rw [HDL.out]; omega)
          clear hR hS hSb
          go_wp2_with (first | ((with_reducible refine gate_builtin (b := .append) (xs := #[.tmp 97, .tmp 100]) rfl ?_); at_builtin; refine Kd.R_append (Kd.int .u8) (w0 := w1) w1.heap.size rfl (.tmp 97) (.tmp 100) 28 5 (.int .u8 0) 1 rfl Try.underlying28 info_u8 rfl (by decide) (by omega) (.slice At acc.length ct) acc x [.int .u8 x] (fun k => w1.heap.size + 2 ≤ k) (fun _ => False) rfl rfl ?aP (fun _ hk => hk.elim) ?aF ?aO ?aB ?aS ?aL ?_; (case aP => exact rfl); (case aB => exact HS.out.b); (case aF => exact (fun k hk => by have := HS.out.s; omega)); (case aO => exact HO.out); (case aS => exact HS.out.b.size); (case aL => have := HLI.out; have := HDLL.out; have := HLL.out; omega); intro v103 w7 ho hb hg hat; obtain ⟨A9, c9, rfl⟩ := Kd.R_slice ho; have HS7 := Aside0.mk (HS.out.grown hg (fun k hk => HO.out.1 k hk)); have HO7 := Aside0.mk ho; have hq7 : w7.cell? ⟨w1.heap.size + 1, 11, none⟩ = some (.slice At acc.length ct) := blk_cell HS7.out.g 11; have hz7 := HS7.out.fz 11; clear ho hb hg hat))
          have htk : d.take (i + 1) = acc ++ [x] := by rw [List.take_succ_eq_append_getElem hil, ← HACC.out, HX.out]
          refine ⟨⟨i + 1, .slice A9 (acc.length + 1) c9, rfl, by omega, HS7.out.storeT _, ?_, ⟨?_⟩⟩, by simp only [intOf]; omega⟩
          · rw [htk]
            have h1 := HO7.out
            rw [List.length_append, List.length_singleton] at h1
            exact Kd.R_far h1 (fun k hk => by show k ≠ w1.heap.size + 1; omega) _
          · rw [htk, List.all_append, HACC.out, HA.out]
            simp only [List.all_cons, List.all_nil, Bool.and_true, Bool.true_and, decide_eq_true_iff]
            omega
        · have hie : i = d.length := by omega
          clear hil hi
          subst hie
          rw [List.take_length] at hR HA
          obtain ⟨At, ct, rfl, hct, hCt⟩ := Kd.R_reads hR
          have htxt : textOk l = true := by unfold textOk; rw [← HD.out]; exact HA.out
          have hh := HH.out
          by_cases h0 : rd l 10 < 0
          · have hbad : zWn = p ∧ 7 = er := by
              rw [if_neg (fun h => by have := h.2.1; omega)] at hh
              exact Prod.mk.inj (Option.some.inj hh)
            have k0 : decide (rd l 10 < 0) = true := decide_eq_true h0
            clear hh
            go_wp2_with (first | (refine wpList_store_row rfl 30 (.tmp 2) (.tmp 115) rfl w.heap.size rfl #[.int .i64 0, .int .i64 0, .int .i64 0, .int .i64 0, .int .i64 0, .int .i64 0, .int .i64 0, .int .i64 0, .int .i64 0, .int .i64 0, .bool false, .slice none 0 0] rfl 30 #[.int .i64 0, .int .i64 0, .int .i64 0, .int .i64 0, .int .i64 0, .int .i64 0, .int .i64 0, .int .i64 0, .int .i64 0, .int .i64 0, .bool false, .slice none 0 0] HKr.out rfl ?h1 hi30 ?_; (case h1 => simp [Value.oneCell'])))
            refine bodyPost_ret (results_list (rs := [.cell 2 30, .tmp 3]) rfl (by simp) (.cell w.heap.size 30 #[.int .i64 0, .int .i64 0, .int .i64 0, .int .i64 0, .int .i64 0, .int .i64 0, .int .i64 0, .int .i64 0, .int .i64 0, .int .i64 0, .bool false, .slice none 0 0] (0, 0) _ rfl (setRow_heap _ _ _ _ _ _ HKr.out) hu30 rfl hi30 (.tmp .nil))) rfl ?_
            obtain ⟨rfl, rfl⟩ := hbad
            exact ⟨_, rfl, Kd.R_nil _ _ _ _ _, below_setRow (HB1.out.trans (hSb.mono (by omega))) (Nat.le_refl _) _⟩
          by_cases h1 : rd l 10 > 1
          · have hbad : zWn = p ∧ 7 = er := by
              rw [if_neg (fun h => by have := h.2.2.1; omega)] at hh
              exact Prod.mk.inj (Option.some.inj hh)
            have k0 : decide (rd l 10 < 0) = false := decide_eq_false h0
            have k1 : decide (1 < rd l 10) = true := decide_eq_true h1
            clear hh
            go_wp2_with (first | (refine wpList_store_row rfl 30 (.tmp 2) (.tmp 115) rfl w.heap.size rfl #[.int .i64 0, .int .i64 0, .int .i64 0, .int .i64 0, .int .i64 0, .int .i64 0, .int .i64 0, .int .i64 0, .int .i64 0, .int .i64 0, .bool false, .slice none 0 0] rfl 30 #[.int .i64 0, .int .i64 0, .int .i64 0, .int .i64 0, .int .i64 0, .int .i64 0, .int .i64 0, .int .i64 0, .int .i64 0, .int .i64 0, .bool false, .slice none 0 0] HKr.out rfl ?h1 hi30 ?_; (case h1 => simp [Value.oneCell'])))
            refine bodyPost_ret (results_list (rs := [.cell 2 30, .tmp 3]) rfl (by simp) (.cell w.heap.size 30 #[.int .i64 0, .int .i64 0, .int .i64 0, .int .i64 0, .int .i64 0, .int .i64 0, .int .i64 0, .int .i64 0, .int .i64 0, .int .i64 0, .bool false, .slice none 0 0] (0, 0) _ rfl (setRow_heap _ _ _ _ _ _ HKr.out) hu30 rfl hi30 (.tmp .nil))) rfl ?_
            obtain ⟨rfl, rfl⟩ := hbad
            exact ⟨_, rfl, Kd.R_nil _ _ _ _ _, below_setRow (HB1.out.trans (hSb.mono (by omega))) (Nat.le_refl _) _⟩
          have k0 : decide (rd l 10 < 0) = false := decide_eq_false h0
          have k1 : decide (1 < rd l 10) = false := decide_eq_false h1
          have hvf : piece_Valid.f (rd l 0) (rd l 1) (rd l 2) (rd l 3) (rd l 4) (rd l 5) (rd l 6) (rd l 7) (rd l 8) (rd l 9) (rd l 10 == 1) d = some (decide (validW (warnOf l))) := by rw [HD.out]; rfl
          have hvl := piece_Valid.calls (rd l 0) (rd l 1) (rd l 2) (rd l 3) (rd l 4) (rd l 5) (rd l 6) (rd l 7) (rd l 8) (rd l 9) (rd l 10 == 1) At ct d _ wr hCt hct hvf
          have hlt : w1.heap.size + 1 < wr.heap.size := blk_lt hS.g
          have hv0 : wr.cell? ⟨w1.heap.size + 1, 0, none⟩ = some (.int .i64 (rd l 0)) := (blk_cell hS.g 0).trans rfl
          have hv1 : wr.cell? ⟨w1.heap.size + 1, 1, none⟩ = some (.int .i64 (rd l 1)) := (blk_cell hS.g 1).trans rfl
          have hv2 : wr.cell? ⟨w1.heap.size + 1, 2, none⟩ = some (.int .i64 (rd l 2)) := (blk_cell hS.g 2).trans rfl
          have hv3 : wr.cell? ⟨w1.heap.size + 1, 3, none⟩ = some (.int .i64 (rd l 3)) := (blk_cell hS.g 3).trans rfl
          have hv4 : wr.cell? ⟨w1.heap.size + 1, 4, none⟩ = some (.int .i64 (rd l 4)) := (blk_cell hS.g 4).trans rfl
          have hv5 : wr.cell? ⟨w1.heap.size + 1, 5, none⟩ = some (.int .i64 (rd l 5)) := (blk_cell hS.g 5).trans rfl
          have hv6 : wr.cell? ⟨w1.heap.size + 1, 6, none⟩ = some (.int .i64 (rd l 6)) := (blk_cell hS.g 6).trans rfl
          have hv7 : wr.cell? ⟨w1.heap.size + 1, 7, none⟩ = some (.int .i64 (rd l 7)) := (blk_cell hS.g 7).trans rfl
          have hv8 : wr.cell? ⟨w1.heap.size + 1, 8, none⟩ = some (.int .i64 (rd l 8)) := (blk_cell hS.g 8).trans rfl
          have hv9 : wr.cell? ⟨w1.heap.size + 1, 9, none⟩ = some (.int .i64 (rd l 9)) := (blk_cell hS.g 9).trans rfl
          have hv10 : wr.cell? ⟨w1.heap.size + 1, 10, none⟩ = some (.bool (rd l 10 == 1)) := (blk_cell hS.g 10).trans rfl
          have hv11 : wr.cell? ⟨w1.heap.size + 1, 11, none⟩ = some (.slice At d.length ct) := (blk_cell hS.g 11).trans rfl
          have HS := Aside0.mk hS
          clear hS hvf hCt
          go_wp2_with fail
          (with_reducible refine hvl.mono ?_)
          rintro e w8 ⟨rfl, hb8⟩
          clear hvl
          replace hv0 := (hb8.cell (p := ⟨w1.heap.size + 1, 0, none⟩) hlt).trans hv0
          replace hv1 := (hb8.cell (p := ⟨w1.heap.size + 1, 1, none⟩) hlt).trans hv1
          replace hv2 := (hb8.cell (p := ⟨w1.heap.size + 1, 2, none⟩) hlt).trans hv2
          replace hv3 := (hb8.cell (p := ⟨w1.heap.size + 1, 3, none⟩) hlt).trans hv3
          replace hv4 := (hb8.cell (p := ⟨w1.heap.size + 1, 4, none⟩) hlt).trans hv4
          replace hv5 := (hb8.cell (p := ⟨w1.heap.size + 1, 5, none⟩) hlt).trans hv5
          replace hv6 := (hb8.cell (p := ⟨w1.heap.size + 1, 6, none⟩) hlt).trans hv6
          replace hv7 := (hb8.cell (p := ⟨w1.heap.size + 1, 7, none⟩) hlt).trans hv7
          replace hv8 := (hb8.cell (p := ⟨w1.heap.size + 1, 8, none⟩) hlt).trans hv8
          replace hv9 := (hb8.cell (p := ⟨w1.heap.size + 1, 9, none⟩) hlt).trans hv9
          replace hv10 := (hb8.cell (p := ⟨w1.heap.size + 1, 10, none⟩) hlt).trans hv10
          replace hv11 := (hb8.cell (p := ⟨w1.heap.size + 1, 11, none⟩) hlt).trans hv11
          have hR8 := Kd.R_below hR hb8
          replace HKr := Aside0.mk ((hb8.block _ (by omega)).trans HKr.out)
          replace hSb := hSb.trans (hb8.mono (by omega))
          clear hR hb8
          by_cases hval : validW (warnOf l)
          case neg =>
            have hbad : zWn = p ∧ 7 = er := by
              rw [if_neg (fun h => hval h.2.2.2)] at hh
              exact Prod.mk.inj (Option.some.inj hh)
            rw [decide_eq_false hval]
            clear hh hval
            go_wp2_with (first | (refine wpList_store_row rfl 30 (.tmp 2) (.tmp 115) rfl w.heap.size rfl #[.int .i64 0, .int .i64 0, .int .i64 0, .int .i64 0, .int .i64 0, .int .i64 0, .int .i64 0, .int .i64 0, .int .i64 0, .int .i64 0, .bool false, .slice none 0 0] rfl 30 #[.int .i64 0, .int .i64 0, .int .i64 0, .int .i64 0, .int .i64 0, .int .i64 0, .int .i64 0, .int .i64 0, .int .i64 0, .int .i64 0, .bool false, .slice none 0 0] HKr.out rfl ?h1 hi30 ?_; (case h1 => simp [Value.oneCell'])))
            refine bodyPost_ret (results_list (rs := [.cell 2 30, .tmp 3]) rfl (by simp) (.cell w.heap.size 30 #[.int .i64 0, .int .i64 0, .int .i64 0, .int .i64 0, .int .i64 0, .int .i64 0, .int .i64 0, .int .i64 0, .int .i64 0, .int .i64 0, .bool false, .slice none 0 0] (0, 0) _ rfl (setRow_heap _ _ _ _ _ _ HKr.out) hu30 rfl hi30 (.tmp .nil))) rfl ?_
            obtain ⟨rfl, rfl⟩ := hbad
            exact ⟨_, rfl, Kd.R_nil _ _ _ _ _, below_setRow (HB1.out.trans (hSb.mono (by omega))) (Nat.le_refl _) _⟩
          have hgood : Aside0 (warnOf l = p ∧ 0 = er) := ⟨by
            rw [if_pos ⟨htxt, by omega, by omega, hval⟩] at hh
            exact Prod.mk.inj (Option.some.inj hh)⟩
          rw [decide_eq_true hval]
          clear hh hval
          go_wp2_with (first | (refine wpList_store_row rfl 30 (.tmp 2) (.tmp 116) rfl w.heap.size rfl #[.int .i64 (rd l 0), .int .i64 (rd l 1), .int .i64 (rd l 2), .int .i64 (rd l 3), .int .i64 (rd l 4), .int .i64 (rd l 5), .int .i64 (rd l 6), .int .i64 (rd l 7), .int .i64 (rd l 8), .int .i64 (rd l 9), .bool (rd l 10 == 1), .slice At d.length ct] rfl 30 #[.int .i64 0, .int .i64 0, .int .i64 0, .int .i64 0, .int .i64 0, .int .i64 0, .int .i64 0, .int .i64 0, .int .i64 0, .int .i64 0, .bool false, .slice none 0 0] HKr.out rfl ?h1 hi30 ?_; (case h1 => simp [Value.oneCell'])))
          refine bodyPost_ret (results_list (rs := [.cell 2 30, .tmp 3]) rfl (by simp) (.cell w.heap.size 30 #[.int .i64 (rd l 0), .int .i64 (rd l 1), .int .i64 (rd l 2), .int .i64 (rd l 3), .int .i64 (rd l 4), .int .i64 (rd l 5), .int .i64 (rd l 6), .int .i64 (rd l 7), .int .i64 (rd l 8), .int .i64 (rd l 9), .bool (rd l 10 == 1), .slice At d.length ct] (0, 0) _ rfl (setRow_heap _ _ _ _ _ _ HKr.out) hu30 rfl hi30 (.tmp .nil))) rfl ?_
          obtain ⟨rfl, rfl⟩ := hgood.out
          refine ⟨.slice At d.length ct, rfl, ?_, below_setRow (HB1.out.trans (hSb.mono (by omega))) (Nat.le_refl _) _⟩
          have hdt : (warnOf l).text = d := by rw [HD.out]; rfl
          rw [hdt]
          refine Kd.R_mono (Kd.R_lower (Kd.R_step hR8 (fun k hk _ => ?_)) (by omega)) (fun _ _ => trivial)
          exact setRow_other _ _ _ _ (by omega)
end Go.Proofs.YthiealhmcfdakaaH
end
section
namespace Go.Proofs.Ythiealhmcfdakaa.E
open Go.RowKit Go.Proofs.YthiealhmcfdakaaH Go.Proofs.YthiealhmcfdakaaW.PrintWords Go.Proofs.YthiealhmcfdakaaW.PrintLast Go.Proofs.YthiealhmcfdakaaW.PrintMore
attribute [local go_sem] max2_int min2_int max_two min_two max_three min_three max_four min_four   -- for this text's walks alone
set_option linter.unusedVariables false
set_option linter.unusedSimpArgs false
def bytes_Equal.f (l0 : List Int) (l1 : List Int) : Option (Bool) := some ((strOfNums l0).toList == (strOfNums l1).toList)
set_option maxHeartbeats 8000000 in
set_option maxRecDepth 100000 in
theorem bytes_Equal.calls (A0 : Option Addr) (c0 : Nat) (l0 : List Int) (A1 : Option Addr) (c1 : Nat) (l1 : List Int) (r : Bool) (w : World) (hr0 : Kd.C (Kd.int .u8) w A0 l0.length l0) (hc0 : l0.length ≤ c0) (hr1 : Kd.C (Kd.int .u8) w A1 l1.length l1) (hc1 : l1.length ≤ c1) (h : bytes_Equal.f l0 l1 = some r) :
    Calls Try.prog 77 #[.slice A0 l0.length c0, .slice A1 l1.length c1] w fun e w' => e = .returned (.bool r) ∧ Drawn0 w w' := by
  have HR0 := Aside0.mk hr0
  have HC0 := Aside0.mk hc0
  clear hr0 hc0
  have HR1 := Aside0.mk hr1
  have HC1 := Aside0.mk hc1
  clear hr1 hc1
  have H : (some ((strOfNums l0).toList == (strOfNums l1).toList)) = some r := h
  clear h
  obtain rfl := Option.some.inj H
  have hcv3 := Kd.C_string (P := Try.prog) (A := A0) (c := c0) Try.underlying28 Try.underlying5 Try.underlying9 HR0.out
  have hcv4 := Kd.C_string (P := Try.prog) (A := A1) (c := c1) Try.underlying28 Try.underlying5 Try.underlying9 HR1.out
  go_enter Try.func77, Try.ntmps77
  go_wp2
  go_ret
  exact ⟨by first | rfl | (simp; done) | (simp [*]; done), by repeat (first | exact Drawn0.refl _ | apply Drawn0.step)⟩
def erasure_fit.l0 : Nat → Int → List Int → List (List Int) → Int → Option (Bool)
  | 0, _, _, _, _ => none
  | k + 1, x0, x1, x2, x7 => if x7 < (x1.length : Int) then (if 0 ≤ x0 then (if x0 ≤ (x1.length : Int) then (if x0 ≤ (x2.length : Int) then (if 0 ≤ x7 then ((erasure_value.f (x1.take (x0 : Int).toNat) (x2.take (x0 : Int).toNat) (rd x1 x7)).bind fun t139 => (if x7 < (x2.length : Int) then ((bytes_Equal.f t139 (rd_L2 x2 x7)).bind fun t143 => (if t143 = true then (erasure_fit.l0 k x0 x1 x2 (wrap64 (x7 + 1))) else (some false))) else (none))) else (none)) else (none)) else (none)) else (none)) else (some true)
def erasure_fit.f (k : Nat) (a0 : Int) (l1 : List Int) (l2 : List (List Int)) : Option (Bool) := erasure_fit.l0 k a0 l1 l2 a0
theorem erasure_fit.mono_l : ∀ k, (∀ y0 y1 y2 y3, LeO (erasure_fit.l0 k y0 y1 y2 y3) (erasure_fit.l0 (k + 1) y0 y1 y2 y3))
  | 0 => fun _ _ _ _ r h => by simp [erasure_fit.l0] at h
  | k + 1 => by
    have ih0 := erasure_fit.mono_l k
    · intro y0 y1 y2 y3
      unfold erasure_fit.l0
      repeat' first
      | (with_reducible exact ih0 _ _ _ _)
      | (with_reducible exact LeO.refl _)
      | (with_reducible exact LeO.none _)
      | (with_reducible refine LeO.ite ?_ ?_)
      | (with_reducible refine LeO.bind ?_ (fun _ => ?_))
      | exact ih0 _ _ _ _
      | exact LeO.none _
      | refine LeO.ite ?_ ?_
      | refine LeO.bind ?_ (fun _ => ?_)
theorem erasure_fit.mono : ∀ a0 a1 a2 k, LeO (erasure_fit.f k a0 a1 a2) (erasure_fit.f (k + 1) a0 a1 a2) := by
  intro a0 a1 a2 k
  have ih0 := erasure_fit.mono_l k
  unfold erasure_fit.f
  repeat' first
      | (with_reducible exact ih0 _ _ _ _)
      | (with_reducible exact LeO.refl _)
      | (with_reducible exact LeO.none _)
      | (with_reducible refine LeO.ite ?_ ?_)
      | (with_reducible refine LeO.bind ?_ (fun _ => ?_))
      | exact ih0 _ _ _ _
      | exact LeO.none _
      | refine LeO.ite ?_ ?_
      | refine LeO.bind ?_ (fun _ => ?_)
def erasure_fit.T4 : Bool × List (List Nat × List Nat) := (true, [([], []), ([], []), ([0, 1], [0, 1]), ([], []), ([], []), ([3, 4], [3, 4]), ([], []), ([], []), ([6, 7], [6, 7]), ([8], [8]), ([2, 5, 9], [2, 5, 9]), ([], []), ([], []), ([11, 12], [11, 12]), ([13], [13]), ([10, 14, 10], [10, 14]), ([15], [15])])
def erasure_fit.B4 : List Nat := [0, 0, 3, 0, 0, 24, 0, 0, 192, 448, 1023, 0, 0, 6144, 14336, 32767, 65535]
theorem erasure_fit.tab4 : rtab .any (opsOf Try.f70 4) = erasure_fit.T4 := by kernel_rfl
theorem erasure_fit.bits4 : waitsOk erasure_fit.T4.2 erasure_fit.B4 = true := by kernel_rfl
set_option maxHeartbeats 8000000 in
set_option maxRecDepth 100000 in
theorem erasure_fit.calls (k : Nat) (a0 : Int) (A1 : Option Addr) (c1 : Nat) (l1 : List Int) (A2 : Option Addr) (c2 : Nat) (l2 : List (List Int)) (r : Bool) (w : World) (hr1 : Kd.C (Kd.int .i64) w A1 l1.length l1) (hc1 : l1.length ≤ c1) (hr2 : Kd.C (Kd.slice 5 (Kd.int .u8)) w A2 l2.length l2) (hc2 : l2.length ≤ c2) (h : erasure_fit.f k a0 l1 l2 = some r) :
    Calls Try.prog 70 #[.int .i64 a0, .slice A1 l1.length c1, .slice A2 l2.length c2] w fun e w' => e = .returned (.bool r) ∧ Below w.heap.size w w' := by
  have HR1 := Aside0.mk hr1
  have HC1 := Aside0.mk hc1
  clear hr1 hc1
  have HR2 := Aside0.mk hr2
  have HC2 := Aside0.mk hc2
  clear hr2 hc2
  have HB := Aside0.mk (Below.refl w.heap.size w)
  have H : (erasure_fit.l0 k a0 l1 l2 a0) = some r := h
  clear h
  have H' := Aside0.mk H
  clear H
  go_enter Try.func70, Try.ntmps70
  go_wp2
  go_loopg [7] k (fun kq v7 w' => ∃ (x7_1 : Int), v7 = .int .i64 x7_1 ∧ Aside0 (erasure_fit.l0 kq a0 l1 l2 x7_1 = some r) ∧ Aside0 (kq ≤ k) ∧ Aside0 (Below w.heap.size w w'))
  case atStart => exact ⟨(a0), (by first | rfl | (simp; done) | (simp [*]; done)), H', ⟨Nat.le_refl _⟩, ⟨by repeat (first | (with_reducible first | exact HB.out | apply below_alloc | apply pw_below_drewN | apply below_drew1) | exact HB.out)⟩⟩
  case round =>
    clear H'
    try clear c1
    try clear c2
    try clear p2
    obtain ⟨x7_1, rfl, HA, HK1, HB⟩ := hrel
    cases gk with
    | zero => exact absurd HA.out (by simp [erasure_fit.l0])
    | succ k1 =>
      have H := HA.out
      clear HA
      simp only [erasure_fit.l0] at H
      by_cases c4 : x7_1 < (l1.length : Int)
      · rw [if_pos c4] at H
        have c4b0 : decide (x7_1 < (l1.length : Int)) = true := decide_eq_true c4
        clear c4
        by_cases c5 : 0 ≤ a0
        · rw [if_pos c5] at H
          have c5b0 := eq_true c5
          have c5b1 : decide (0 ≤ a0) = true := decide_eq_true c5
          clear c5
          by_cases c6 : a0 ≤ (l1.length : Int)
          · rw [if_pos c6] at H
            have c6b0 := eq_true c6
            have c6b1 : decide (a0 ≤ (l1.length : Int)) = true := decide_eq_true c6
            clear c6
            have c7b0 := eq_true (of_decide_eq_true (by first | (with_reducible assumption) | assumption) : 0 ≤ a0)
            by_cases c8 : a0 ≤ (l2.length : Int)
            · rw [if_pos c8] at H
              have c8b0 := eq_true c8
              have c8b1 : decide (a0 ≤ (l2.length : Int)) = true := decide_eq_true c8
              clear c8
              obtain ⟨y134, hy134⟩ : ∃ y_ : List (List Int), y_ = (l2.take (a0 : Int).toNat) := ⟨_, rfl⟩
              replace H : (if 0 ≤ x7_1 then ((erasure_value.f (l1.take (a0 : Int).toNat) y134 (rd l1 x7_1)).bind fun t139 => (if x7_1 < (l2.length : Int) then ((bytes_Equal.f t139 (rd_L2 l2 x7_1)).bind fun t143 => (if t143 = true then (erasure_fit.l0 k1 a0 l1 l2 (wrap64 (x7_1 + 1))) else (some false))) else (none))) else (none)) = some r := by first | (rw [hy134]; with_reducible exact H) | (have H2_ := (Option.bind_some _ _).symm.trans H; rw [hy134]; with_reducible exact H2_) | (have H2_ := (Option.bind_some _ _).symm.trans H; with_reducible exact H2_) | with_reducible exact H | (rw [hy134]; exact H) | exact H
              have Ny134 := Aside0.mk hy134
              clear hy134
              by_cases c9 : 0 ≤ x7_1
              · rw [if_pos c9] at H
                have c9b0 : decide (0 ≤ x7_1) = true := decide_eq_true c9
                clear c9
                replace H := Option.bind_eq_some_iff.mp H
                obtain ⟨t139, A100, H⟩ := H
                replace H : (if x7_1 < (l2.length : Int) then ((bytes_Equal.f t139 (rd_L2 l2 x7_1)).bind fun t143 => (if t143 = true then (erasure_fit.l0 k1 a0 l1 l2 (wrap64 (x7_1 + 1))) else (some false))) else (none)) = some r := H
                have A10 := Aside0.mk A100
                clear A100
                by_cases c11 : x7_1 < (l2.length : Int)
                · rw [if_pos c11] at H
                  have c11b0 : decide (x7_1 < (l2.length : Int)) = true := decide_eq_true c11
                  clear c11
                  replace H := Option.bind_eq_some_iff.mp H
                  obtain ⟨t143, A120, H⟩ := H
                  replace H : (if t143 = true then (erasure_fit.l0 k1 a0 l1 l2 (wrap64 (x7_1 + 1))) else (some false)) = some r := H
                  have A12 := Aside0.mk A120
                  clear A120
                  by_cases c13 : t143 = true
                  · subst c13
                    have H1 : (erasure_fit.l0 k1 a0 l1 l2 (wrap64 (x7_1 + 1))) = some r := by rw [if_pos rfl] at H; exact H
                    clear H
                    have H := H1
                    clear H1
                    have H' := Aside0.mk H
                    clear H
                    try go_wp2
                    have n0_ := Aside0.mk (below_drew1 HB.out)
                    clear HB
                    have HB := n0_
                    clear n0_
                    obtain ⟨i015, hi015, _, hsz15, _⟩ := info_parts info3
                    obtain ⟨hcut15, hA15, hC15⟩ := print_take_of (P := Try.prog) (Value.int .i64) 0 65 3 .i64 Try.underlying65 hi015 hsz15 A1 c1 l1 a0 (of_decide_eq_true (by first | (with_reducible assumption) | assumption)) (of_decide_eq_true (by first | (with_reducible assumption) | assumption)) HC1.out
                    have HR133 := Aside0.mk (Kd.C_of_reads (h1 := fun _ => rfl) (hA15 _ (Kd.reads_of_C HR1.out)))
                    have HC133 := Aside0.mk hC15
                    clear hA15 hC15 hi015 hsz15
                    have q16 : (a0 : Int) ≤ ((l2.length : Int) : Int) := of_decide_eq_true (by first | (with_reducible assumption) | assumption)
                    obtain ⟨i016, hi016, _, hsz16, _⟩ := info_parts info28
                    have hroom16 : l2.length ≤ c2 := HC2.out
                    have hC16 : Kd.C (Kd.slice 5 (Kd.int .u8)) _ A2 l2.length l2 := HR2.out
                    have hcut16 := cut_to (P := Try.prog) 79 28 .i64 Try.underlying79 hi016 A2 l2.length c2 a0 (of_decide_eq_true (by first | (with_reducible assumption) | assumption)) q16 hroom16
                    have hr16 := Kd.C_take (m := (a0 : Int).toNat) hC16 (by omega)
                    have hy16 : y134.length = (a0 : Int).toNat := (by rw [Ny134.out, List.length_take]; omega)
                    rw [← Ny134.out] at hr16
                    rw [← hy16] at hcut16
                    have HR137 := Aside0.mk hr16
                    have HC137 := Aside0.mk (show y134.length ≤ c2 from by omega)
                    clear hr16 hC16 hroom16 hi016 hsz16
                    have KY16 := Aside0.mk hy16
                    clear hy16
                    replace q16 := eq_true q16
                    have p138 : 0 ≤ (x7_1 : Int) := of_decide_eq_true (by first | (with_reducible assumption) | assumption)
                    have q138 : x7_1 < (l1.length : Int) := of_decide_eq_true (by first | (with_reducible assumption) | assumption)
                    obtain ⟨ad138, e138, hx138_0⟩ := Kd.at_int HR1.out x7_1 p138 q138
                    have hw138_0 := hx138_0
                    cases e138
                    replace hx138_0 := (HB.out.cell (World.block_lt_of_cell? w _ hx138_0)).trans hx138_0
                    replace p138 := eq_true p138
                    replace q138 := eq_true q138
                    have p142 : 0 ≤ (x7_1 : Int) := of_decide_eq_true (by first | (with_reducible assumption) | assumption)
                    have q142 : x7_1 < (l2.length : Int) := of_decide_eq_true (by first | (with_reducible assumption) | assumption)
                    obtain ⟨ad142, A142_0, c142_0, e142, hx142_0, hl142_0, hi142_0⟩ := at_L2 HR2.out x7_1 p142 q142
                    have hw142_0 := hx142_0
                    cases e142
                    replace hx142_0 := (HB.out.cell (World.block_lt_of_cell? w _ hx142_0)).trans hx142_0
                    have HR142_0 := Aside0.mk hi142_0
                    have HC142_0 := Aside0.mk hl142_0
                    clear hi142_0 hl142_0
                    replace p142 := eq_true p142
                    replace q142 := eq_true q142
                    refine start_ (n := 17) (S := fun w' => w'.cell? (ad138.add (x7_1).toNat) = some (.int .i64 (rd l1 x7_1)) ∧ w'.cell? (ad142.add (x7_1).toNat) = some (.slice A142_0 (rd_L2 l2 x7_1).length c142_0)) (ds := []) #[false, false, false, false, false, false, false, false, false, false, false, false, false, false, false, false, false] (by kernel_rfl) rfl rfl ⟨((HB.out.cell (World.block_lt_of_cell? w _ hw138_0)).trans hw138_0), ((HB.out.cell (World.block_lt_of_cell? w _ hw142_0)).trans hw142_0)⟩ (fun hHeld => ?_); refine with_tabW erasure_fit.tab4 erasure_fit.bits4 (fun HT_ HW_ => ?_)
                    generalize wr.drew = w14 at HB HR133 HR137 HR142_0 hx138_0 hx142_0 hHeld ⊢
                    refine pure_ (i := 0) (N := some 15) (v := ?_) (a' := ?_) #[true, false, false, false, false, false, false, false, false, false, false, false, false, false, false, false, false] rfl rfl (any_of HT_.out (by kernel_rfl)) (fun _ _ _ h => h) (Or.inl ⟨by rfl, ?_⟩) ?_ ?_
                    rotate_left
                    · intro w'
                      go_simp
                      with_reducible rfl
                    rotate_left
                    · simp only [Act.put, List.setIfInBounds_toArray, List.set_cons_zero, List.set_cons_succ, i64_w, i32_w]
                      rfl
                    refine pure_ (i := 1) (N := some 16) (v := ?_) (a' := ?_) #[true, true, false, false, false, false, false, false, false, false, false, false, false, false, false, false, false] rfl rfl (any_of HT_.out (by kernel_rfl)) (fun _ _ _ h => h) (Or.inl ⟨by rfl, ?_⟩) ?_ ?_
                    rotate_left
                    · intro w'
                      go_simp
                      with_reducible rfl
                    rotate_left
                    · simp only [Act.put, List.setIfInBounds_toArray, List.set_cons_zero, List.set_cons_succ, i64_w, i32_w]
                      rfl
                    refine pure_ (i := 2) (N := some 17) (v := ?_) (a' := ?_) #[true, true, true, false, false, false, false, false, false, false, false, false, false, false, false, false, false] rfl rfl (any_of HT_.out (by kernel_rfl)) (fun _ _ _ h => h) (Or.inl ⟨by rfl, ?_⟩) ?_ ?_
                    rotate_left
                    · intro w'
                      go_simp
                      with_reducible rfl
                    rotate_left
                    · simp only [Act.put, List.setIfInBounds_toArray, List.set_cons_zero, List.set_cons_succ, i64_w, i32_w]
                      rfl
                    refine pure_ (i := 3) (N := some 18) (v := ?_) (a' := ?_) #[true, true, true, true, false, false, false, false, false, false, false, false, false, false, false, false, false] rfl rfl (any_of HT_.out (by kernel_rfl)) (fun _ _ _ h => h) (Or.inl ⟨by rfl, ?_⟩) ?_ ?_
                    rotate_left
                    · intro w'
                      go_simp
                      with_reducible rfl
                    rotate_left
                    · simp only [Act.put, List.setIfInBounds_toArray, List.set_cons_zero, List.set_cons_succ, i64_w, i32_w]
                      rfl
                    refine pure_ (i := 4) (N := some 19) (v := ?_) (a' := ?_) #[true, true, true, true, true, false, false, false, false, false, false, false, false, false, false, false, false] rfl rfl (any_of HT_.out (by kernel_rfl)) (fun _ _ _ h => h) (Or.inl ⟨by rfl, ?_⟩) ?_ ?_
                    rotate_left
                    · intro w'
                      go_simp
                      with_reducible rfl
                    rotate_left
                    · simp only [Act.put, List.setIfInBounds_toArray, List.set_cons_zero, List.set_cons_succ, i64_w, i32_w]
                      rfl
                    refine pure_ (i := 5) (N := some 20) (v := ?_) (a' := ?_) #[true, true, true, true, true, true, false, false, false, false, false, false, false, false, false, false, false] rfl rfl (any_of HT_.out (by kernel_rfl)) (fun _ _ _ h => h) (Or.inl ⟨by rfl, ?_⟩) ?_ ?_
                    rotate_left
                    · intro w'
                      go_simp
                      with_reducible rfl
                    rotate_left
                    · simp only [Act.put, List.setIfInBounds_toArray, List.set_cons_zero, List.set_cons_succ, i64_w, i32_w]
                      rfl
                    refine pure_ (i := 6) (N := some 21) (v := ?_) (a' := ?_) #[true, true, true, true, true, true, true, false, false, false, false, false, false, false, false, false, false] rfl rfl (any_of HT_.out (by kernel_rfl)) (fun _ _ _ h => h) (Or.inl ⟨by rfl, ?_⟩) ?_ ?_
                    rotate_left
                    · intro w'
                      go_simp
                      with_reducible rfl
                    rotate_left
                    · simp only [Act.put, List.setIfInBounds_toArray, List.set_cons_zero, List.set_cons_succ, i64_w, i32_w]
                      rfl
                    refine pure_ (i := 7) (N := some 22) (v := ?_) (a' := ?_) #[true, true, true, true, true, true, true, true, false, false, false, false, false, false, false, false, false] rfl rfl (any_of HT_.out (by kernel_rfl)) (fun _ _ _ h => h) (Or.inl ⟨by rfl, ?_⟩) ?_ ?_
                    rotate_left
                    · intro w'
                      go_simp
                      with_reducible rfl
                    rotate_left
                    · simp only [Act.put, List.setIfInBounds_toArray, List.set_cons_zero, List.set_cons_succ, i64_w, i32_w]
                      rfl
                    refine pure_ (i := 8) (N := some 23) (v := ?_) (a' := ?_) #[true, true, true, true, true, true, true, true, true, false, false, false, false, false, false, false, false] rfl rfl (any_of HT_.out (by kernel_rfl)) (fun _ _ _ h => h) (Or.inl ⟨by rfl, ?_⟩) ?_ ?_
                    rotate_left
                    · intro w'
                      go_simp
                      with_reducible rfl
                    rotate_left
                    · simp only [Act.put, List.setIfInBounds_toArray, List.set_cons_zero, List.set_cons_succ, i64_w, i32_w]
                      rfl
                    refine pure_ (i := 11) (N := some 26) (v := ?_) (a' := ?_) #[true, true, true, true, true, true, true, true, true, false, false, true, false, false, false, false, false] rfl rfl (any_of HT_.out (by kernel_rfl)) (fun _ _ _ h => h) (Or.inl ⟨by rfl, ?_⟩) ?_ ?_
                    rotate_left
                    · intro w'
                      go_simp
                      with_reducible rfl
                    rotate_left
                    · simp only [Act.put, List.setIfInBounds_toArray, List.set_cons_zero, List.set_cons_succ, i64_w, i32_w]
                      rfl
                    refine pure_ (i := 12) (N := some 27) (v := ?_) (a' := ?_) #[true, true, true, true, true, true, true, true, true, false, false, true, true, false, false, false, false] rfl rfl (any_of HT_.out (by kernel_rfl)) (fun _ _ _ h => h) (Or.inl ⟨by rfl, ?_⟩) ?_ ?_
                    rotate_left
                    · intro w'
                      go_simp
                      with_reducible rfl
                    rotate_left
                    · simp only [Act.put, List.setIfInBounds_toArray, List.set_cons_zero, List.set_cons_succ, i64_w, i32_w]
                      rfl
                    refine pure_ (i := 13) (N := some 28) (v := ?_) (a' := ?_) #[true, true, true, true, true, true, true, true, true, false, false, true, true, true, false, false, false] rfl rfl (any_of HT_.out (by kernel_rfl)) (fun _ _ _ h => h) (Or.inl ⟨by rfl, ?_⟩) ?_ ?_
                    rotate_left
                    · intro w'
                      go_simp
                      with_reducible rfl
                    rotate_left
                    · simp only [Act.put, List.setIfInBounds_toArray, List.set_cons_zero, List.set_cons_succ, i64_w, i32_w]
                      rfl
                    refine take_ (i := 9) (N := some 24) (v := ?_) (a' := ?_) #[true, true, true, true, true, true, true, true, true, true, false, true, true, true, false, false, false] rfl rfl (take_ofW HT_.out HW_.out (by kernel_rfl)) (fun _ _ _ h => h) (Or.inl ⟨by rfl, ?_⟩) hHeld ?_ ?_
                    rotate_left
                    · rintro w' ⟨s0, s1⟩
                      go_simp
                      with_reducible rfl
                    rotate_left
                    · simp only [Act.put, List.setIfInBounds_toArray, List.set_cons_zero, List.set_cons_succ, i64_w, i32_w]
                      rfl
                    refine take_ (i := 14) (N := some 29) (v := ?_) (a' := ?_) #[true, true, true, true, true, true, true, true, true, true, false, true, true, true, true, false, false] rfl rfl (take_ofW HT_.out HW_.out (by kernel_rfl)) (fun _ _ _ h => h) (Or.inl ⟨by rfl, ?_⟩) hHeld ?_ ?_
                    rotate_left
                    · rintro w' ⟨s0, s1⟩
                      go_simp
                      with_reducible rfl
                    rotate_left
                    · simp only [Act.put, List.setIfInBounds_toArray, List.set_cons_zero, List.set_cons_succ, i64_w, i32_w]
                      rfl
                    refine one_ (i := 10) (N := some 25) #[true, true, true, true, true, true, true, true, true, true, true, true, true, true, true, false, false] rfl rfl (one_of HT_.out (by kernel_rfl)) (by decide) (fun K hK => ?_)
                    refine goes_ Try.func56 (by kernel_rfl) rfl #[.slice (some ad138) (l1.take (a0 : Int).toNat).length c1, .slice (some ad142) y134.length c2, .int .i64 (rd l1 x7_1)] (by rfl) rfl rfl (by (try simp only [List.map_toArray, List.map_cons, List.map_nil]); first | done | (rw [show (l1.take (a0 : Int).toNat).length = a0.toNat from (by rw [List.length_take]; have h_ : (a0 : Int) ≤ (l1.length : Int) := of_decide_eq_true (by first | (with_reducible assumption) | assumption); omega)] <;> rfl) | rfl | (simp only [List.length_drop, List.length_take]; rfl)) ?_
                    with_reducible refine (erasure_value.calls _ _ (l1.take (a0 : Int).toNat) _ _ y134 (rd l1 x7_1) t139 _ ?side1 ?side2 ?side3 ?side4 A10.out).mono ?_
                    (case side1 => repeat (first | exact (Kd.C_below HR133.out HB.out) | (with_reducible refine Kd.C_alloc ?_ _) | (with_reducible refine Kd.C_drewN ?_ _) | (with_reducible refine Kd.C_drew ?_)))
                    (case side2 => exact HC133.out)
                    (case side3 => repeat (first | exact (Kd.C_below HR137.out HB.out) | (with_reducible refine Kd.C_alloc ?_ _) | (with_reducible refine Kd.C_drewN ?_ _) | (with_reducible refine Kd.C_drew ?_)))
                    (case side4 => exact HC137.out)
                    rintro e w17 ⟨v140, rfl, ho0, hb⟩
                    refine ⟨_, rfl, ?_⟩
                    have n0_ := Aside0.mk (Kd.R_lower ho0 (below_size (by repeat (first | (with_reducible first | exact HB.out | apply below_alloc | apply pw_below_drewN | apply below_drew1) | exact HB.out))))
                    have n1_ := Aside0.mk (below_step (by repeat (first | (with_reducible first | exact HB.out | apply below_alloc | apply pw_below_drewN | apply below_drew1) | exact HB.out)) hb)
                    clear HB
                    have HO141 := n0_
                    have HB := n1_
                    clear n0_ n1_
                    (try clear hb)
                    (try clear hb2)
                    (try clear hk)
                    (try clear hi)
                    (try clear ho0)
                    obtain ⟨Ao18, co18, eo18⟩ := Kd.R_slice HO141.out
                    (first | subst eo18 | (injection eo18 with f1_ f2_ f3_; have f4_ := f1_.symm; have f5_ := f3_.symm; clear f1_ f2_ f3_; subst f4_; subst f5_))
                    refine hK.out _ _ ⟨((HB.out.cell (World.block_lt_of_cell? w _ hw138_0)).trans hw138_0), ((HB.out.cell (World.block_lt_of_cell? w _ hw142_0)).trans hw142_0)⟩ (fun hHeld => ?_)
                    clear hK K
                    refine norm_ (a' := ?_) ?_ ?_
                    rotate_left
                    · show Act.put _ (some 25) _ = _
                      simp only [Act.put, List.setIfInBounds_toArray, List.set_cons_zero, List.set_cons_succ, i64_w, i32_w]
                      rfl
                    refine one_ (i := 15) (N := some 30) #[true, true, true, true, true, true, true, true, true, true, true, true, true, true, true, true, false] rfl rfl (one_of HT_.out (by kernel_rfl)) (by decide) (fun K hK => ?_)
                    refine goes_ Try.func77 (by kernel_rfl) rfl #[.slice Ao18 t139.length co18, .slice A142_0 (rd_L2 l2 x7_1).length c142_0] (by rfl) rfl rfl (by (try simp only [List.map_toArray, List.map_cons, List.map_nil]); first | done | rfl | (simp only [List.length_drop, List.length_take]; rfl)) ?_
                    with_reducible refine (bytes_Equal.calls _ _ t139 _ _ (rd_L2 l2 x7_1) true _ ?side1 ?side2 ?side3 ?side4 A12.out).mono ?_
                    (case side1 => repeat (first | exact (Kd.R_reads' HO141.out).2.2 | (with_reducible refine Kd.C_alloc ?_ _) | (with_reducible refine Kd.C_drewN ?_ _) | (with_reducible refine Kd.C_drew ?_)))
                    (case side2 => exact (Kd.R_reads' HO141.out).2.1)
                    (case side3 => repeat (first | exact (Kd.C_below HR142_0.out HB.out) | (with_reducible refine Kd.C_alloc ?_ _) | (with_reducible refine Kd.C_drewN ?_ _) | (with_reducible refine Kd.C_drew ?_)))
                    (case side4 => exact HC142_0.out)
                    rintro e w' ⟨rfl, ⟨nd, rfl⟩⟩
                    refine ⟨_, rfl, ?_⟩
                    refine hK.out _ _ ⟨((HB.out.cell (World.block_lt_of_cell? w _ hw138_0)).trans hw138_0), ((HB.out.cell (World.block_lt_of_cell? w _ hw142_0)).trans hw142_0)⟩ (fun hHeld => ?_)
                    clear hK K
                    refine norm_ (a' := ?_) ?_ ?_
                    rotate_left
                    · show Act.put _ (some 30) _ = _
                      simp only [Act.put, List.setIfInBounds_toArray, List.set_cons_zero, List.set_cons_succ, i64_w, i32_w]
                      rfl
                    refine pure_ (i := 16) (N := some 31) (v := ?_) (a' := ?_) #[true, true, true, true, true, true, true, true, true, true, true, true, true, true, true, true, true] rfl rfl (any_of HT_.out (by kernel_rfl)) (fun _ _ _ h => h) (Or.inl ⟨by rfl, ?_⟩) ?_ ?_
                    rotate_left
                    · intro w'
                      go_simp
                      with_reducible rfl
                    rotate_left
                    · simp only [Act.put, List.setIfInBounds_toArray, List.set_cons_zero, List.set_cons_succ, i64_w, i32_w]
                      rfl
                    refine done_ (done_of HT_.out (by kernel_rfl)) ?_
                    try go_wp2
                    go_roundg k1
                    case measure => have := HK1.out; omega
                    case rel => exact ⟨(wrap64 (x7_1 + 1)), (by first | rfl | (simp; done) | (simp [*]; done)), H', ⟨by have := HK1.out; omega⟩, ⟨by repeat (first | (with_reducible first | exact HB.out | apply below_alloc | apply pw_below_drewN | apply below_drew1) | exact HB.out)⟩⟩
                  · replace c13 := Bool.eq_false_iff.mpr c13
                    subst c13
                    have H1 : (some false) = some r := by rw [if_neg (show ¬ (false = true) by decide)] at H; exact H
                    clear H
                    have H := H1
                    clear H1
                    obtain rfl := Option.some.inj H
                    try go_wp2
                    have n0_ := Aside0.mk (below_drew1 HB.out)
                    clear HB
                    have HB := n0_
                    clear n0_
                    obtain ⟨i020, hi020, _, hsz20, _⟩ := info_parts info3
                    obtain ⟨hcut20, hA20, hC20⟩ := print_take_of (P := Try.prog) (Value.int .i64) 0 65 3 .i64 Try.underlying65 hi020 hsz20 A1 c1 l1 a0 (of_decide_eq_true (by first | (with_reducible assumption) | assumption)) (of_decide_eq_true (by first | (with_reducible assumption) | assumption)) HC1.out
                    have HR133 := Aside0.mk (Kd.C_of_reads (h1 := fun _ => rfl) (hA20 _ (Kd.reads_of_C HR1.out)))
                    have HC133 := Aside0.mk hC20
                    clear hA20 hC20 hi020 hsz20
                    have q21 : (a0 : Int) ≤ ((l2.length : Int) : Int) := of_decide_eq_true (by first | (with_reducible assumption) | assumption)
                    obtain ⟨i021, hi021, _, hsz21, _⟩ := info_parts info28
                    have hroom21 : l2.length ≤ c2 := HC2.out
                    have hC21 : Kd.C (Kd.slice 5 (Kd.int .u8)) _ A2 l2.length l2 := HR2.out
                    have hcut21 := cut_to (P := Try.prog) 79 28 .i64 Try.underlying79 hi021 A2 l2.length c2 a0 (of_decide_eq_true (by first | (with_reducible assumption) | assumption)) q21 hroom21
                    have hr21 := Kd.C_take (m := (a0 : Int).toNat) hC21 (by omega)
                    have hy21 : y134.length = (a0 : Int).toNat := (by rw [Ny134.out, List.length_take]; omega)
                    rw [← Ny134.out] at hr21
                    rw [← hy21] at hcut21
                    have HR137 := Aside0.mk hr21
                    have HC137 := Aside0.mk (show y134.length ≤ c2 from by omega)
                    clear hr21 hC21 hroom21 hi021 hsz21
                    have KY21 := Aside0.mk hy21
                    clear hy21
                    replace q21 := eq_true q21
                    have p138 : 0 ≤ (x7_1 : Int) := of_decide_eq_true (by first | (with_reducible assumption) | assumption)
                    have q138 : x7_1 < (l1.length : Int) := of_decide_eq_true (by first | (with_reducible assumption) | assumption)
                    obtain ⟨ad138, e138, hx138_0⟩ := Kd.at_int HR1.out x7_1 p138 q138
                    have hw138_0 := hx138_0
                    cases e138
                    replace hx138_0 := (HB.out.cell (World.block_lt_of_cell? w _ hx138_0)).trans hx138_0
                    replace p138 := eq_true p138
                    replace q138 := eq_true q138
                    have p142 : 0 ≤ (x7_1 : Int) := of_decide_eq_true (by first | (with_reducible assumption) | assumption)
                    have q142 : x7_1 < (l2.length : Int) := of_decide_eq_true (by first | (with_reducible assumption) | assumption)
                    obtain ⟨ad142, A142_0, c142_0, e142, hx142_0, hl142_0, hi142_0⟩ := at_L2 HR2.out x7_1 p142 q142
                    have hw142_0 := hx142_0
                    cases e142
                    replace hx142_0 := (HB.out.cell (World.block_lt_of_cell? w _ hx142_0)).trans hx142_0
                    have HR142_0 := Aside0.mk hi142_0
                    have HC142_0 := Aside0.mk hl142_0
                    clear hi142_0 hl142_0
                    replace p142 := eq_true p142
                    replace q142 := eq_true q142
                    refine start_ (n := 17) (S := fun w' => w'.cell? (ad138.add (x7_1).toNat) = some (.int .i64 (rd l1 x7_1)) ∧ w'.cell? (ad142.add (x7_1).toNat) = some (.slice A142_0 (rd_L2 l2 x7_1).length c142_0)) (ds := []) #[false, false, false, false, false, false, false, false, false, false, false, false, false, false, false, false, false] (by kernel_rfl) rfl rfl ⟨((HB.out.cell (World.block_lt_of_cell? w _ hw138_0)).trans hw138_0), ((HB.out.cell (World.block_lt_of_cell? w _ hw142_0)).trans hw142_0)⟩ (fun hHeld => ?_); refine with_tabW erasure_fit.tab4 erasure_fit.bits4 (fun HT_ HW_ => ?_)
                    generalize wr.drew = w19 at HB HR133 HR137 HR142_0 hx138_0 hx142_0 hHeld ⊢
                    refine pure_ (i := 0) (N := some 15) (v := ?_) (a' := ?_) #[true, false, false, false, false, false, false, false, false, false, false, false, false, false, false, false, false] rfl rfl (any_of HT_.out (by kernel_rfl)) (fun _ _ _ h => h) (Or.inl ⟨by rfl, ?_⟩) ?_ ?_
                    rotate_left
                    · intro w'
                      go_simp
                      with_reducible rfl
                    rotate_left
                    · simp only [Act.put, List.setIfInBounds_toArray, List.set_cons_zero, List.set_cons_succ, i64_w, i32_w]
                      rfl
                    refine pure_ (i := 1) (N := some 16) (v := ?_) (a' := ?_) #[true, true, false, false, false, false, false, false, false, false, false, false, false, false, false, false, false] rfl rfl (any_of HT_.out (by kernel_rfl)) (fun _ _ _ h => h) (Or.inl ⟨by rfl, ?_⟩) ?_ ?_
                    rotate_left
                    · intro w'
                      go_simp
                      with_reducible rfl
                    rotate_left
                    · simp only [Act.put, List.setIfInBounds_toArray, List.set_cons_zero, List.set_cons_succ, i64_w, i32_w]
                      rfl
                    refine pure_ (i := 2) (N := some 17) (v := ?_) (a' := ?_) #[true, true, true, false, false, false, false, false, false, false, false, false, false, false, false, false, false] rfl rfl (any_of HT_.out (by kernel_rfl)) (fun _ _ _ h => h) (Or.inl ⟨by rfl, ?_⟩) ?_ ?_
                    rotate_left
                    · intro w'
                      go_simp
                      with_reducible rfl
                    rotate_left
                    · simp only [Act.put, List.setIfInBounds_toArray, List.set_cons_zero, List.set_cons_succ, i64_w, i32_w]
                      rfl
                    refine pure_ (i := 3) (N := some 18) (v := ?_) (a' := ?_) #[true, true, true, true, false, false, false, false, false, false, false, false, false, false, false, false, false] rfl rfl (any_of HT_.out (by kernel_rfl)) (fun _ _ _ h => h) (Or.inl ⟨by rfl, ?_⟩) ?_ ?_
                    rotate_left
                    · intro w'
                      go_simp
                      with_reducible rfl
                    rotate_left
                    · simp only [Act.put, List.setIfInBounds_toArray, List.set_cons_zero, List.set_cons_succ, i64_w, i32_w]
                      rfl
                    refine pure_ (i := 4) (N := some 19) (v := ?_) (a' := ?_) #[true, true, true, true, true, false, false, false, false, false, false, false, false, false, false, false, false] rfl rfl (any_of HT_.out (by kernel_rfl)) (fun _ _ _ h => h) (Or.inl ⟨by rfl, ?_⟩) ?_ ?_
                    rotate_left
                    · intro w'
                      go_simp
                      with_reducible rfl
                    rotate_left
                    · simp only [Act.put, List.setIfInBounds_toArray, List.set_cons_zero, List.set_cons_succ, i64_w, i32_w]
                      rfl
                    refine pure_ (i := 5) (N := some 20) (v := ?_) (a' := ?_) #[true, true, true, true, true, true, false, false, false, false, false, false, false, false, false, false, false] rfl rfl (any_of HT_.out (by kernel_rfl)) (fun _ _ _ h => h) (Or.inl ⟨by rfl, ?_⟩) ?_ ?_
                    rotate_left
                    · intro w'
                      go_simp
                      with_reducible rfl
                    rotate_left
                    · simp only [Act.put, List.setIfInBounds_toArray, List.set_cons_zero, List.set_cons_succ, i64_w, i32_w]
                      rfl
                    refine pure_ (i := 6) (N := some 21) (v := ?_) (a' := ?_) #[true, true, true, true, true, true, true, false, false, false, false, false, false, false, false, false, false] rfl rfl (any_of HT_.out (by kernel_rfl)) (fun _ _ _ h => h) (Or.inl ⟨by rfl, ?_⟩) ?_ ?_
                    rotate_left
                    · intro w'
                      go_simp
                      with_reducible rfl
                    rotate_left
                    · simp only [Act.put, List.setIfInBounds_toArray, List.set_cons_zero, List.set_cons_succ, i64_w, i32_w]
                      rfl
                    refine pure_ (i := 7) (N := some 22) (v := ?_) (a' := ?_) #[true, true, true, true, true, true, true, true, false, false, false, false, false, false, false, false, false] rfl rfl (any_of HT_.out (by kernel_rfl)) (fun _ _ _ h => h) (Or.inl ⟨by rfl, ?_⟩) ?_ ?_
                    rotate_left
                    · intro w'
                      go_simp
                      with_reducible rfl
                    rotate_left
                    · simp only [Act.put, List.setIfInBounds_toArray, List.set_cons_zero, List.set_cons_succ, i64_w, i32_w]
                      rfl
                    refine pure_ (i := 8) (N := some 23) (v := ?_) (a' := ?_) #[true, true, true, true, true, true, true, true, true, false, false, false, false, false, false, false, false] rfl rfl (any_of HT_.out (by kernel_rfl)) (fun _ _ _ h => h) (Or.inl ⟨by rfl, ?_⟩) ?_ ?_
                    rotate_left
                    · intro w'
                      go_simp
                      with_reducible rfl
                    rotate_left
                    · simp only [Act.put, List.setIfInBounds_toArray, List.set_cons_zero, List.set_cons_succ, i64_w, i32_w]
                      rfl
                    refine pure_ (i := 11) (N := some 26) (v := ?_) (a' := ?_) #[true, true, true, true, true, true, true, true, true, false, false, true, false, false, false, false, false] rfl rfl (any_of HT_.out (by kernel_rfl)) (fun _ _ _ h => h) (Or.inl ⟨by rfl, ?_⟩) ?_ ?_
                    rotate_left
                    · intro w'
                      go_simp
                      with_reducible rfl
                    rotate_left
                    · simp only [Act.put, List.setIfInBounds_toArray, List.set_cons_zero, List.set_cons_succ, i64_w, i32_w]
                      rfl
                    refine pure_ (i := 12) (N := some 27) (v := ?_) (a' := ?_) #[true, true, true, true, true, true, true, true, true, false, false, true, true, false, false, false, false] rfl rfl (any_of HT_.out (by kernel_rfl)) (fun _ _ _ h => h) (Or.inl ⟨by rfl, ?_⟩) ?_ ?_
                    rotate_left
                    · intro w'
                      go_simp
                      with_reducible rfl
                    rotate_left
                    · simp only [Act.put, List.setIfInBounds_toArray, List.set_cons_zero, List.set_cons_succ, i64_w, i32_w]
                      rfl
                    refine pure_ (i := 13) (N := some 28) (v := ?_) (a' := ?_) #[true, true, true, true, true, true, true, true, true, false, false, true, true, true, false, false, false] rfl rfl (any_of HT_.out (by kernel_rfl)) (fun _ _ _ h => h) (Or.inl ⟨by rfl, ?_⟩) ?_ ?_
                    rotate_left
                    · intro w'
                      go_simp
                      with_reducible rfl
                    rotate_left
                    · simp only [Act.put, List.setIfInBounds_toArray, List.set_cons_zero, List.set_cons_succ, i64_w, i32_w]
                      rfl
                    refine take_ (i := 9) (N := some 24) (v := ?_) (a' := ?_) #[true, true, true, true, true, true, true, true, true, true, false, true, true, true, false, false, false] rfl rfl (take_ofW HT_.out HW_.out (by kernel_rfl)) (fun _ _ _ h => h) (Or.inl ⟨by rfl, ?_⟩) hHeld ?_ ?_
                    rotate_left
                    · rintro w' ⟨s0, s1⟩
                      go_simp
                      with_reducible rfl
                    rotate_left
                    · simp only [Act.put, List.setIfInBounds_toArray, List.set_cons_zero, List.set_cons_succ, i64_w, i32_w]
                      rfl
                    refine take_ (i := 14) (N := some 29) (v := ?_) (a' := ?_) #[true, true, true, true, true, true, true, true, true, true, false, true, true, true, true, false, false] rfl rfl (take_ofW HT_.out HW_.out (by kernel_rfl)) (fun _ _ _ h => h) (Or.inl ⟨by rfl, ?_⟩) hHeld ?_ ?_
                    rotate_left
                    · rintro w' ⟨s0, s1⟩
                      go_simp
                      with_reducible rfl
                    rotate_left
                    · simp only [Act.put, List.setIfInBounds_toArray, List.set_cons_zero, List.set_cons_succ, i64_w, i32_w]
                      rfl
                    refine one_ (i := 10) (N := some 25) #[true, true, true, true, true, true, true, true, true, true, true, true, true, true, true, false, false] rfl rfl (one_of HT_.out (by kernel_rfl)) (by decide) (fun K hK => ?_)
                    refine goes_ Try.func56 (by kernel_rfl) rfl #[.slice (some ad138) (l1.take (a0 : Int).toNat).length c1, .slice (some ad142) y134.length c2, .int .i64 (rd l1 x7_1)] (by rfl) rfl rfl (by (try simp only [List.map_toArray, List.map_cons, List.map_nil]); first | done | (rw [show (l1.take (a0 : Int).toNat).length = a0.toNat from (by rw [List.length_take]; have h_ : (a0 : Int) ≤ (l1.length : Int) := of_decide_eq_true (by first | (with_reducible assumption) | assumption); omega)] <;> rfl) | rfl | (simp only [List.length_drop, List.length_take]; rfl)) ?_
                    with_reducible refine (erasure_value.calls _ _ (l1.take (a0 : Int).toNat) _ _ y134 (rd l1 x7_1) t139 _ ?side1 ?side2 ?side3 ?side4 A10.out).mono ?_
                    (case side1 => repeat (first | exact (Kd.C_below HR133.out HB.out) | (with_reducible refine Kd.C_alloc ?_ _) | (with_reducible refine Kd.C_drewN ?_ _) | (with_reducible refine Kd.C_drew ?_)))
                    (case side2 => exact HC133.out)
                    (case side3 => repeat (first | exact (Kd.C_below HR137.out HB.out) | (with_reducible refine Kd.C_alloc ?_ _) | (with_reducible refine Kd.C_drewN ?_ _) | (with_reducible refine Kd.C_drew ?_)))
                    (case side4 => exact HC137.out)
                    rintro e w22 ⟨v140, rfl, ho0, hb⟩
                    refine ⟨_, rfl, ?_⟩
                    have n0_ := Aside0.mk (Kd.R_lower ho0 (below_size (by repeat (first | (with_reducible first | exact HB.out | apply below_alloc | apply pw_below_drewN | apply below_drew1) | exact HB.out))))
                    have n1_ := Aside0.mk (below_step (by repeat (first | (with_reducible first | exact HB.out | apply below_alloc | apply pw_below_drewN | apply below_drew1) | exact HB.out)) hb)
                    clear HB
                    have HO141 := n0_
                    have HB := n1_
                    clear n0_ n1_
                    (try clear hb)
                    (try clear hb2)
                    (try clear hk)
                    (try clear hi)
                    (try clear ho0)
                    obtain ⟨Ao23, co23, eo23⟩ := Kd.R_slice HO141.out
                    (first | subst eo23 | (injection eo23 with f1_ f2_ f3_; have f4_ := f1_.symm; have f5_ := f3_.symm; clear f1_ f2_ f3_; subst f4_; subst f5_))
                    refine hK.out _ _ ⟨((HB.out.cell (World.block_lt_of_cell? w _ hw138_0)).trans hw138_0), ((HB.out.cell (World.block_lt_of_cell? w _ hw142_0)).trans hw142_0)⟩ (fun hHeld => ?_)
                    clear hK K
                    refine norm_ (a' := ?_) ?_ ?_
                    rotate_left
                    · show Act.put _ (some 25) _ = _
                      simp only [Act.put, List.setIfInBounds_toArray, List.set_cons_zero, List.set_cons_succ, i64_w, i32_w]
                      rfl
                    refine one_ (i := 15) (N := some 30) #[true, true, true, true, true, true, true, true, true, true, true, true, true, true, true, true, false] rfl rfl (one_of HT_.out (by kernel_rfl)) (by decide) (fun K hK => ?_)
                    refine goes_ Try.func77 (by kernel_rfl) rfl #[.slice Ao23 t139.length co23, .slice A142_0 (rd_L2 l2 x7_1).length c142_0] (by rfl) rfl rfl (by (try simp only [List.map_toArray, List.map_cons, List.map_nil]); first | done | rfl | (simp only [List.length_drop, List.length_take]; rfl)) ?_
                    with_reducible refine (bytes_Equal.calls _ _ t139 _ _ (rd_L2 l2 x7_1) false _ ?side1 ?side2 ?side3 ?side4 A12.out).mono ?_
                    (case side1 => repeat (first | exact (Kd.R_reads' HO141.out).2.2 | (with_reducible refine Kd.C_alloc ?_ _) | (with_reducible refine Kd.C_drewN ?_ _) | (with_reducible refine Kd.C_drew ?_)))
                    (case side2 => exact (Kd.R_reads' HO141.out).2.1)
                    (case side3 => repeat (first | exact (Kd.C_below HR142_0.out HB.out) | (with_reducible refine Kd.C_alloc ?_ _) | (with_reducible refine Kd.C_drewN ?_ _) | (with_reducible refine Kd.C_drew ?_)))
                    (case side4 => exact HC142_0.out)
                    rintro e w' ⟨rfl, ⟨nd, rfl⟩⟩
                    refine ⟨_, rfl, ?_⟩
                    refine hK.out _ _ ⟨((HB.out.cell (World.block_lt_of_cell? w _ hw138_0)).trans hw138_0), ((HB.out.cell (World.block_lt_of_cell? w _ hw142_0)).trans hw142_0)⟩ (fun hHeld => ?_)
                    clear hK K
                    refine norm_ (a' := ?_) ?_ ?_
                    rotate_left
                    · show Act.put _ (some 30) _ = _
                      simp only [Act.put, List.setIfInBounds_toArray, List.set_cons_zero, List.set_cons_succ, i64_w, i32_w]
                      rfl
                    refine pure_ (i := 16) (N := some 31) (v := ?_) (a' := ?_) #[true, true, true, true, true, true, true, true, true, true, true, true, true, true, true, true, true] rfl rfl (any_of HT_.out (by kernel_rfl)) (fun _ _ _ h => h) (Or.inl ⟨by rfl, ?_⟩) ?_ ?_
                    rotate_left
                    · intro w'
                      go_simp
                      with_reducible rfl
                    rotate_left
                    · simp only [Act.put, List.setIfInBounds_toArray, List.set_cons_zero, List.set_cons_succ, i64_w, i32_w]
                      rfl
                    refine done_ (done_of HT_.out (by kernel_rfl)) ?_
                    try go_wp2
                    go_ret
                    exact ⟨by first | rfl | (simp [errW_none, errW_some] <;> rfl) | (simp [*, errW_none, errW_some] <;> rfl), by repeat (first | (with_reducible first | exact HB.out | apply below_alloc | apply pw_below_drewN | apply below_drew1) | exact HB.out)⟩
                · rw [if_neg c11] at H
                  exact absurd H (by simp)
              · rw [if_neg c9] at H
                exact absurd H (by simp)
            · rw [if_neg c8] at H
              exact absurd H (by simp)
          · rw [if_neg c6] at H
            exact absurd H (by simp)
        · rw [if_neg c5] at H
          exact absurd H (by simp)
      · rw [if_neg c4] at H
        have c4b0 : decide (x7_1 < (l1.length : Int)) = false := decide_eq_false c4
        clear c4
        obtain rfl := Option.some.inj H
        go_wp2
        go_ret
        exact ⟨by first | rfl | (simp [errW_none, errW_some] <;> rfl) | (simp [*, errW_none, errW_some] <;> rfl), by repeat (first | (with_reducible first | exact HB.out | apply below_alloc | apply pw_below_drewN | apply below_drew1) | exact HB.out)⟩
end Go.Proofs.Ythiealhmcfdakaa.E
end
section
set_option linter.unusedVariables false
namespace Go.Proofs.YthiealhmcfdakaaH
open Go Go.RowKit
def seenC (s : List Int) : Array Value := ((List.range 32).map fun (i : Nat) => Value.bool (decide ((i : Int) ∈ s))).toArray
theorem seenC_at (s : List Int) (i : Nat) (hi : i < 32) : (seenC s)[i]? = some (.bool (decide ((i : Int) ∈ s))) := by
  simp [seenC, hi]
theorem seenC_set (s : List Int) (i : Nat) : (seenC s).setIfInBounds i (.bool true) = seenC ((i : Int) :: s) := by
  apply Array.ext
  · simp [seenC]
  · intro j h1 h2
    have hj : j < 32 := by simpa [seenC] using h2
    rw [Array.getElem_setIfInBounds (by simpa [seenC] using hj)]
    by_cases h : i = j
    · subst h; simp [seenC]
    · rw [if_neg h]
      simp only [seenC, List.getElem_toArray, List.getElem_map, List.getElem_range]
      congr 1
      simp only [List.mem_cons, decide_eq_decide]
      constructor
      · exact fun h => .inr h
      · rintro (h2 | h2)
        · omega
        · exact h2
def SeenAt (W : World) (g : Nat) (t : TypeId) (s : List Int) : Prop := W.heap[g]? = some (.cells (seenC s) t (0, 0))
theorem SeenAt.cell {W : World} {g t : Nat} {s : List Int} (h : SeenAt W g t s) (i : Nat) (hi : i < 32) : W.cell? ⟨g, i, none⟩ = some (.bool (decide ((i : Int) ∈ s))) := by
  simp [World.cell?, show W.heap[g]? = _ from h, seenC_at s i hi]
theorem SeenAt.frozen {W : World} {g t : Nat} {s : List Int} (h : SeenAt W g t s) (i : Nat) : W.frozen? ⟨g, i, none⟩ = false := by
  simp [World.frozen?, show W.heap[g]? = _ from h]
theorem SeenAt.set {W : World} {g t : Nat} {s : List Int} (h : SeenAt W g t s) (i : Nat) : SeenAt (W.setCell ⟨g, i, none⟩ (.bool true)) g t ((i : Int) :: s) := by
  obtain ⟨hlt, hk⟩ := Array.getElem?_eq_some_iff.1 h
  show (W.heap.modify g _)[g]? = _
  rw [Array.getElem?_eq_getElem (by rw [Array.size_modify]; exact hlt), Array.getElem_modify_self, hk]
  simp [seenC_set]
theorem SeenAt.new (W : World) (t : TypeId) : SeenAt (W.alloc (.cells (seenC []) t)) W.heap.size t [] := World.alloc_heap_new W _
theorem SeenAt.drew {W : World} {g t : Nat} {s : List Int} (h : SeenAt W g t s) : SeenAt W.drew g t s := h
end Go.Proofs.YthiealhmcfdakaaH
end
section
set_option linter.unusedVariables false
set_option linter.unusedSimpArgs false
namespace Go.Proofs.YthiealhmcfdakaaH
open Go Go.RowKit Go.Proofs.YthiealhmcfdakaaW.PrintWords Go.Proofs.YthiealhmcfdakaaW.PrintLast Go.Proofs.YthiealhmcfdakaaW.PrintMore Go.Proofs.Ythiealhmcfdakaa.E
def freshB : List Int → List Int → Bool
  | _, [] => true
  | s, i :: r => if i < 0 ∨ i ≥ 32 ∨ i ∈ s then false else freshB (i :: s) r
def erasure_given.f (k : Nat) (a0 : Int) (l1 : List Int) (l2 : List (List Int)) : Option Bool :=
  if a0 < 1 then some false else if a0 > 32 then some false else if l1.length = l2.length then (erasure_equal.f k l2).bind fun b => if b = true then some (freshB [] l1) else some false else some false
theorem erasure_given.mono : ∀ a0 a1 a2 k, LeO (erasure_given.f k a0 a1 a2) (erasure_given.f (k + 1) a0 a1 a2) := by
  intro a0 a1 a2 k
  unfold erasure_given.f
  repeat' (first | exact LeO.refl _ | refine LeO.ite ?_ ?_ | refine LeO.bind (erasure_equal.mono _ _) (fun _ => ?_))
set_option maxHeartbeats 4000000 in
set_option maxRecDepth 100000 in
theorem erasure_given.calls (k : Nat) (a0 : Int) (A1 : Option Addr) (c1 : Nat) (l1 : List Int) (A2 : Option Addr) (c2 : Nat) (l2 : List (List Int)) (r : Bool) (w : World) (hr1 : Kd.C (Kd.int .i64) w A1 l1.length l1) (hc1 : l1.length ≤ c1) (hr2 : Kd.C (Kd.slice 5 (Kd.int .u8)) w A2 l2.length l2) (hc2 : l2.length ≤ c2) (h : erasure_given.f k a0 l1 l2 = some r) :
    Calls Try.prog 62 #[.int .i64 a0, .slice A1 l1.length c1, .slice A2 l2.length c2] w fun e w' => e = .returned (.bool r) ∧ Below w.heap.size w w' := by
  unfold erasure_given.f at h
  by_cases h1 : a0 < 1
  · rw [if_pos h1] at h
    obtain rfl := Option.some.inj h
    go_enter Try.func62, Try.ntmps62
    go_wp2
    go_ret
    exact ⟨rfl, Below.refl _ _⟩
  rw [if_neg h1] at h
  by_cases h2 : a0 > 32
  · rw [if_pos h2] at h
    obtain rfl := Option.some.inj h
    go_enter Try.func62, Try.ntmps62
    go_wp2
    go_ret
    exact ⟨rfl, Below.refl _ _⟩
  rw [if_neg h2] at h
  by_cases h3 : l1.length = l2.length
  case neg =>
    rw [if_neg h3] at h
    obtain rfl := Option.some.inj h
    have h3' : ¬ (l1.length : Int) = (l2.length : Int) := by omega
    go_enter Try.func62, Try.ntmps62
    go_wp2
    go_ret
    exact ⟨rfl, Below.refl _ _⟩
  rw [if_pos h3] at h
  obtain ⟨b, hb, h⟩ := Option.bind_eq_some_iff.1 h
  have hcall := fun W (hB : Below w.heap.size w W) => erasure_equal.calls k A2 c2 l2 b W (Kd.C_below hr2 hB) hc2 hb
  have h3' : (l1.length : Int) = (l2.length : Int) := by omega
  cases b with
  | false =>
    rw [if_neg (by decide)] at h
    obtain rfl := Option.some.inj h
    go_enter Try.func62, Try.ntmps62
    go_wp2_with fail
    (with_reducible refine (hcall _ (Below.refl _ _)).mono ?_)
    rintro e w' ⟨rfl, ⟨nd, rfl⟩⟩
    go_wp2_with fail
    go_ret
    exact ⟨rfl, pw_below_drewN (Below.refl _ _) _⟩
  | true =>
    rw [if_pos rfl] at h
    replace h := Option.some.inj h
    have hz : (Try.prog.info? 95).map (·.zero) = some (some (.agg (seenC []))) := by kernel_rfl
    go_enter Try.func62, Try.ntmps62
    go_wp2_with fail
    (with_reducible refine (hcall _ (Below.refl _ _)).mono ?_)
    rintro e w' ⟨rfl, ⟨nd, rfl⟩⟩
    have hs0 := SeenAt.new (w.drewN nd) 95
    have hB0 : Below w.heap.size w ((w.drewN nd).alloc (.cells (seenC []) 95)) := (pw_below_drewN (Below.refl _ _) nd).alloc (Nat.le_refl _) _
    go_wp2_with (first | ((with_reducible refine wpList_alloc_cells rfl 95 rfl (seenC []) hz ?_)))
    obtain ⟨W0, hW0⟩ : ∃ W0, ((w.drewN nd).alloc (.cells (seenC []) 95)) = W0 := ⟨_, rfl⟩
    rw [hW0]
    rw [hW0] at hs0 hB0
    have hg0 : (w.drewN nd).heap.size = w.heap.size := rfl
    rw [hg0] at hs0
    go_loopw [30] (fun p wr => ∃ (i : Nat) (s : List Int), p = .int .i64 (i : Int) ∧ i ≤ l1.length ∧ SeenAt wr w.heap.size 95 s ∧ Below w.heap.size w wr ∧ freshB s (l1.drop i) = r) (fun p _ => l1.length - (intOf p).toNat)
    case atStart => exact ⟨0, [], rfl, Nat.zero_le _, hs0, hB0, h⟩
    case round =>
      clear hW0 hs0 hB0 hg0 h
      obtain ⟨i, s, rfl, hi, hs, hB, hf⟩ := hrel
      by_cases hil : i < l1.length
      · have hi2 : (i : Int) < (l1.length : Int) := by omega
        have hi3 : (0 : Int) ≤ (i : Int) := by omega
        obtain ⟨ad, e4, hy⟩ := Kd.at_int (Kd.C_below hr1 hB) (i : Int) hi3 hi2
        subst e4
        rw [Int.toNat_natCast] at hy
        obtain ⟨v, hv⟩ : ∃ v, v = rd l1 (i : Int) := ⟨_, rfl⟩
        rw [← hv] at hy
        rw [List.drop_eq_getElem_cons hil, freshB, show l1[i] = v by rw [hv, rd, Int.toNat_natCast, List.getD_eq_getElem?_getD, List.getElem?_eq_getElem hil, Option.getD_some]] at hf
        clear hv
        have HF := Aside0.mk hf
        clear hf
        have hmx : i + 1 ≤ 9223372036854775807 := by have := Kd.C_max hr1; omega
        by_cases h0 : v < 0
        · go_wp2_with fail
          go_ret
          have hf := HF.out
          rw [if_pos (.inl h0)] at hf
          exact ⟨by rw [← hf]; rfl, hB⟩
        by_cases h5 : v ≥ 32
        · go_wp2_with fail
          go_ret
          have hf := HF.out
          rw [if_pos (.inr (.inl h5))] at hf
          exact ⟨by rw [← hf]; rfl, hB⟩
        obtain ⟨n, rfl⟩ : ∃ n : Nat, v = (n : Int) := Int.eq_ofNat_of_zero_le (by omega)
        have hc := hs.cell n (by omega)
        have hfz := hs.frozen n
        have hn1 : (n : Int) < 32 := by omega
        by_cases hm : (n : Int) ∈ s
        · rw [decide_eq_true hm] at hc
          have HM := Aside0.mk hm
          clear hm
          go_wp2_with fail
          go_ret
          have hf := HF.out
          rw [if_pos (.inr (.inr HM.out))] at hf
          exact ⟨by rw [← hf]; rfl, hB⟩
        · rw [decide_eq_false hm] at hc
          have HM := Aside0.mk hm
          clear hm
          go_wp2_with fail
          have hf := HF.out
          rw [if_neg (by intro hh; rcases hh with h | h | h; exact h0 h; exact h5 h; exact HM.out h)] at hf
          go_roundw
          case rel => exact ⟨i + 1, (n : Int) :: s, rfl, by omega, hs.set n, hB.setCell (p := ⟨w.heap.size, n, none⟩) (Nat.le_refl _) _, hf⟩
          case measure => first | (simp [intOf]; done) | (simp [intOf]; omega)
      · have hie : i = l1.length := by omega
        subst hie
        rw [List.drop_length] at hf
        clear hil hi
        subst hf
        go_wp2_with fail
        go_ret
        exact ⟨rfl, hB⟩
end Go.Proofs.YthiealhmcfdakaaH
end
