/- PieceFrames: whatever the piece and the bytes: the law returns true, and what was handed in reads as it did. Conditions: none beyond the given row's. -/
import Derived.Below
import Derived.ChangeOld
import Derived.Laws.IdiomArrays
import Derived.OpenShut
import Derived.ProofKit
import Derived.ShutString
import Derived.SizedLaws
import Derived.Test.YthiealhmcfdakaaRows
import Derived.WalkKit
import Derived.Test.YthiealhmcfdakaaB6
section
set_option linter.unusedVariables false
set_option linter.unusedSimpArgs false
namespace Go.Proofs.YthiealhmcfdakaaH
open Go Go.RowKit Go.Proofs.YthiealhmcfdakaaW.PrintWords Go.Proofs.YthiealhmcfdakaaW.PrintLast Go.Proofs.YthiealhmcfdakaaW.PrintMore Go.Proofs.Ythiealhmcfdakaa.E Go.Proofs.YthiealhmcfdakaaM
theorem eqPiece_self (p : S49) : eqPiece p p = true := by simp [eqPiece, wholeEq]
set_option maxHeartbeats 8000000 in
set_option maxRecDepth 100000 in
theorem frames_walk (p : S49) (Ap : Option Addr) (cp : Nat) (b : List Int) (Ab : Option Addr) (cb : Nat) (w : World) (hrp : Kd.C (Kd.int .u8) w Ap p.f5.length p.f5) (hcp : p.f5.length ≤ cp) (hrb : Kd.C (Kd.int .u8) w Ab b.length b) (hcb : b.length ≤ cb) (hUp : U8 p.f5) (hUb : U8 b) :
    Calls Try.prog 5 #[v49 p (.slice Ap p.f5.length cp), .slice Ab b.length cb] w fun e w' => e = .returned (.bool true) ∧ Below w.heap.size w w' := by
  have hu49 := Try.underlying49
  have hu23 := Try.underlying23
  have hi49 : (Try.prog.info? 49).map (·.size) = some 8 := by kernel_rfl
  have HRP := Aside0.mk hrp
  have HRB := Aside0.mk hrb
  have HUP := Aside0.mk hUp
  have HUB := Aside0.mk hUb
  clear hrp hrb hUp hUb
  dsimp only [v49]
  go_enter Try.func5, Try.ntmps5
  go_wp2_with (first | ((with_reducible refine gate_dst (N := 2) rfl ?_); (try (refine gate_guard (by rfl) ?_; dsimp only)); refine box_event ?hg (N := 2) ?hd (cs := #[.int .i64 p.f0.f0, .int .i64 p.f0.f1, .int .i64 p.f0.f2, .int .i64 p.f1, .int .i64 p.f2, .int .i64 p.f3, .int .i64 p.f4, .slice Ap p.f5.length cp]) (t := 49) ?hr ?_; (case hd => rfl); (case hg => rfl); (case hr => first | (go_simp; done) | (go_simp; rfl)); intro gb hg w1 hbox hb1; have HBX := Aside0.mk hbox; clear hbox hg))
  (with_reducible refine (head_calls _).mono ?_)
  rintro e w2 ⟨rfl, hb2⟩
  have hB2 : Below w.heap.size w w2 := hb1.trans (hb2.mono hb1.size)
  have HBX2 := Aside0.mk ((hb2.block _ (blk_lt HBX.out)).trans HBX.out)
  clear hb1 hb2 HBX
  have x0 : w2.cell? ⟨gb, 0, none⟩ = some (.int .i64 p.f0.f0) := (blk_cell HBX2.out 0).trans rfl
  have x1 : w2.cell? ⟨gb, 1, none⟩ = some (.int .i64 p.f0.f1) := (blk_cell HBX2.out 1).trans rfl
  have x2 : w2.cell? ⟨gb, 2, none⟩ = some (.int .i64 p.f0.f2) := (blk_cell HBX2.out 2).trans rfl
  have x3 : w2.cell? ⟨gb, 3, none⟩ = some (.int .i64 p.f1) := (blk_cell HBX2.out 3).trans rfl
  have x4 : w2.cell? ⟨gb, 4, none⟩ = some (.int .i64 p.f2) := (blk_cell HBX2.out 4).trans rfl
  have x5 : w2.cell? ⟨gb, 5, none⟩ = some (.int .i64 p.f3) := (blk_cell HBX2.out 5).trans rfl
  have x6 : w2.cell? ⟨gb, 6, none⟩ = some (.int .i64 p.f4) := (blk_cell HBX2.out 6).trans rfl
  have x7 : w2.cell? ⟨gb, 7, none⟩ = some (.slice Ap p.f5.length cp) := (blk_cell HBX2.out 7).trans rfl
  by_cases hok : okP p
  · have hF := pFrame_ok hok
    have hRd := pRead_frame hok HUP.out
    have hlF := frameOf_len (payload p)
    generalize frameOf (payload p) = F at hF hRd hlF
    have hcall := piece_Frame.calls _ _ _ _ _ _ _ Ap cp p.f5 F 0 w2 (Kd.C_below HRP.out hB2) hcp hF
    have hdl := okP_data hok
    clear hF hlF
    have HRD := Aside0.mk hRd
    have HOK := Aside0.mk hok
    clear hok hRd
    go_wp2_with fail
    (with_reducible refine hcall.mono ?_)
    clear hcall
    rintro e w3 ⟨v3, rfl, hR3, hb3⟩
    obtain ⟨A3, c3, rfl, hc3, hC3⟩ := Kd.R_reads hR3
    have hB3 := hB2.trans (hb3.mono hB2.size)
    replace HBX2 := Aside0.mk ((hb3.block _ (blk_lt HBX2.out)).trans HBX2.out)
    have hcall := piece_Read.calls A3 c3 F p 0 w3 hC3 hc3 HRD.out
    clear HRD hR3 hb3
    go_wp2_with fail
    (with_reducible refine hcall.mono ?_)
    clear hcall
    rintro e w4 ⟨v4, rfl, hR4, hb4⟩
    obtain ⟨A4, c4, rfl, hc4, hC4⟩ := Kd.R_reads hR4
    have hB4 := hB3.trans (hb4.mono hB3.size)
    replace HBX2 := Aside0.mk ((hb4.block _ (blk_lt HBX2.out)).trans HBX2.out)
    dsimp only [v49]
    have HZ := World.alloc_heap_new w4 (.cells #[.int .i64 0, .int .i64 0, .int .i64 0, .int .i64 0, .int .i64 0, .int .i64 0, .int .i64 0, .slice none 0 0] 49)
    have hbs : Below w4.heap.size w4 ((w4.alloc (.cells #[.int .i64 0, .int .i64 0, .int .i64 0, .int .i64 0, .int .i64 0, .int .i64 0, .int .i64 0, .slice none 0 0] 49)).setRow w4.heap.size #[.int .i64 p.f0.f0, .int .i64 p.f0.f1, .int .i64 p.f0.f2, .int .i64 p.f1, .int .i64 p.f2, .int .i64 p.f3, .int .i64 p.f4, .slice A4 p.f5.length c4]) := below_setRow ((Below.refl _ _).alloc (Nat.le_refl _) _) (Nat.le_refl _) _
    have HH : Aside0 (((w4.alloc (.cells #[.int .i64 0, .int .i64 0, .int .i64 0, .int .i64 0, .int .i64 0, .int .i64 0, .int .i64 0, .slice none 0 0] 49)).setRow w4.heap.size #[.int .i64 p.f0.f0, .int .i64 p.f0.f1, .int .i64 p.f0.f2, .int .i64 p.f1, .int .i64 p.f2, .int .i64 p.f3, .int .i64 p.f4, .slice A4 p.f5.length c4]).heap[w4.heap.size]? = some (.cells #[.int .i64 p.f0.f0, .int .i64 p.f0.f1, .int .i64 p.f0.f2, .int .i64 p.f1, .int .i64 p.f2, .int .i64 p.f3, .int .i64 p.f4, .slice A4 p.f5.length c4] 49 (0, 0))) := ⟨setRow_heap _ _ _ _ _ _ HZ⟩
    have HBS := Aside0.mk (hB4.trans (hbs.mono hB4.size))
    have HCS := Aside0.mk (Kd.C_below hC4 hbs)
    replace HBX2 := Aside0.mk ((hbs.block _ (blk_lt HBX2.out)).trans HBX2.out)
    clear hbs hC4 hR4 hb4 hB4
    obtain ⟨ws, hws⟩ : ∃ ws, ws = (w4.alloc (.cells #[.int .i64 0, .int .i64 0, .int .i64 0, .int .i64 0, .int .i64 0, .int .i64 0, .int .i64 0, .slice none 0 0] 49)).setRow w4.heap.size #[.int .i64 p.f0.f0, .int .i64 p.f0.f1, .int .i64 p.f0.f2, .int .i64 p.f1, .int .i64 p.f2, .int .i64 p.f3, .int .i64 p.f4, .slice A4 p.f5.length c4] := ⟨_, rfl⟩
    rw [← hws] at HH HBS HCS HBX2
    have HWS := Aside0.mk hws
    clear hws
    clear x0 x1 x2 x3 x4 x5 x6 x7
    have x0 : ws.cell? ⟨gb, 0, none⟩ = some (.int .i64 p.f0.f0) := (blk_cell HBX2.out 0).trans rfl
    have x1 : ws.cell? ⟨gb, 1, none⟩ = some (.int .i64 p.f0.f1) := (blk_cell HBX2.out 1).trans rfl
    have x2 : ws.cell? ⟨gb, 2, none⟩ = some (.int .i64 p.f0.f2) := (blk_cell HBX2.out 2).trans rfl
    have x3 : ws.cell? ⟨gb, 3, none⟩ = some (.int .i64 p.f1) := (blk_cell HBX2.out 3).trans rfl
    have x4 : ws.cell? ⟨gb, 4, none⟩ = some (.int .i64 p.f2) := (blk_cell HBX2.out 4).trans rfl
    have x5 : ws.cell? ⟨gb, 5, none⟩ = some (.int .i64 p.f3) := (blk_cell HBX2.out 5).trans rfl
    have x6 : ws.cell? ⟨gb, 6, none⟩ = some (.int .i64 p.f4) := (blk_cell HBX2.out 6).trans rfl
    have x7 : ws.cell? ⟨gb, 7, none⟩ = some (.slice Ap p.f5.length cp) := (blk_cell HBX2.out 7).trans rfl
    have y0 : ws.cell? ⟨w4.heap.size, 0, none⟩ = some (.int .i64 p.f0.f0) := (blk_cell HH.out 0).trans rfl
    have y1 : ws.cell? ⟨w4.heap.size, 1, none⟩ = some (.int .i64 p.f0.f1) := (blk_cell HH.out 1).trans rfl
    have y2 : ws.cell? ⟨w4.heap.size, 2, none⟩ = some (.int .i64 p.f0.f2) := (blk_cell HH.out 2).trans rfl
    have y3 : ws.cell? ⟨w4.heap.size, 3, none⟩ = some (.int .i64 p.f1) := (blk_cell HH.out 3).trans rfl
    have y4 : ws.cell? ⟨w4.heap.size, 4, none⟩ = some (.int .i64 p.f2) := (blk_cell HH.out 4).trans rfl
    have y5 : ws.cell? ⟨w4.heap.size, 5, none⟩ = some (.int .i64 p.f3) := (blk_cell HH.out 5).trans rfl
    have y6 : ws.cell? ⟨w4.heap.size, 6, none⟩ = some (.int .i64 p.f4) := (blk_cell HH.out 6).trans rfl
    have y7 : ws.cell? ⟨w4.heap.size, 7, none⟩ = some (.slice A4 p.f5.length c4) := (blk_cell HH.out 7).trans rfl
    have hcall := requal_calls p p Ap cp A4 c4 ws (Kd.C_below HRP.out HBS.out) hcp HCS.out hc4 (by omega)
    rw [eqPiece_self] at hcall
    go_wp2_with (first | (refine wpList_store_row rfl 49 (.tmp 8) (.tmp 25) rfl w4.heap.size rfl #[.int .i64 p.f0.f0, .int .i64 p.f0.f1, .int .i64 p.f0.f2, .int .i64 p.f1, .int .i64 p.f2, .int .i64 p.f3, .int .i64 p.f4, .slice A4 p.f5.length c4] rfl 49 #[.int .i64 0, .int .i64 0, .int .i64 0, .int .i64 0, .int .i64 0, .int .i64 0, .int .i64 0, .slice none 0 0] HZ rfl ?h1 hi49 ?_; (case h1 => simp [Value.oneCell']); rw [← HWS.out]))
    (with_reducible refine hcall.mono ?_)
    clear hcall
    rintro e w5 ⟨rfl, hb5⟩
    have hB5 := HBS.out.trans (hb5.mono HBS.out.size)
    clear hb5 HBS HH HCS HWS HZ x0 y0 x1 y1 x2 y2 x3 y3 x4 y4 x5 y5 x6 y6 x7 y7
    by_cases hb3 : 300 < (b.length : Int)
    · go_wp2_with fail
      go_ret
      exact ⟨rfl, hB5⟩
    obtain ⟨q, er, hrd, hcase⟩ := pRead_back HUB.out (show b.length < 100000 by omega)
    have hcall := piece_Read.calls Ab cb b q er w5 (Kd.C_below HRB.out hB5) hcb hrd
    clear hrd
    go_wp2_with fail
    (with_reducible refine hcall.mono ?_)
    clear hcall
    rintro e wr ⟨vq, rfl, hRq, hbq⟩
    have hBq := hB5.trans (hbq.mono hB5.size)
    obtain ⟨Aq, cq, rfl, hcq, hCq⟩ := Kd.R_reads hRq
    dsimp only [v49]
    have HZ := World.alloc_heap_new wr (.cells #[.int .i64 0, .int .i64 0, .int .i64 0, .int .i64 0, .int .i64 0, .int .i64 0, .int .i64 0, .slice none 0 0] 49)
    have hbs : Below wr.heap.size wr ((wr.alloc (.cells #[.int .i64 0, .int .i64 0, .int .i64 0, .int .i64 0, .int .i64 0, .int .i64 0, .int .i64 0, .slice none 0 0] 49)).setRow wr.heap.size #[.int .i64 q.f0.f0, .int .i64 q.f0.f1, .int .i64 q.f0.f2, .int .i64 q.f1, .int .i64 q.f2, .int .i64 q.f3, .int .i64 q.f4, .slice Aq q.f5.length cq]) := below_setRow ((Below.refl _ _).alloc (Nat.le_refl _) _) (Nat.le_refl _) _
    have HH : Aside0 (((wr.alloc (.cells #[.int .i64 0, .int .i64 0, .int .i64 0, .int .i64 0, .int .i64 0, .int .i64 0, .int .i64 0, .slice none 0 0] 49)).setRow wr.heap.size #[.int .i64 q.f0.f0, .int .i64 q.f0.f1, .int .i64 q.f0.f2, .int .i64 q.f1, .int .i64 q.f2, .int .i64 q.f3, .int .i64 q.f4, .slice Aq q.f5.length cq]).heap[wr.heap.size]? = some (.cells #[.int .i64 q.f0.f0, .int .i64 q.f0.f1, .int .i64 q.f0.f2, .int .i64 q.f1, .int .i64 q.f2, .int .i64 q.f3, .int .i64 q.f4, .slice Aq q.f5.length cq] 49 (0, 0))) := ⟨setRow_heap _ _ _ _ _ _ HZ⟩
    have hBs := hBq.trans (hbs.mono hBq.size)
    have hCs := Kd.C_below hCq hbs
    have HBS := Aside0.mk hBs
    have HCS := Aside0.mk hCs
    clear hbs hBs hCs hCq hRq hbq hBq
    obtain ⟨ws, hws⟩ : ∃ ws, ws = (wr.alloc (.cells #[.int .i64 0, .int .i64 0, .int .i64 0, .int .i64 0, .int .i64 0, .int .i64 0, .int .i64 0, .slice none 0 0] 49)).setRow wr.heap.size #[.int .i64 q.f0.f0, .int .i64 q.f0.f1, .int .i64 q.f0.f2, .int .i64 q.f1, .int .i64 q.f2, .int .i64 q.f3, .int .i64 q.f4, .slice Aq q.f5.length cq] := ⟨_, rfl⟩
    rw [← hws] at HH HBS HCS
    have HWS := Aside0.mk hws
    clear hws
    rcases hcase with ⟨rfl, hok, hUq, hfr⟩ | ⟨he, hq⟩
    · have hff := piece_Frame.calls _ _ _ _ _ _ _ Aq cq q.f5 _ _ ws HCS.out hcq (pFrame_ok hok)
      rw [hfr] at hff
      have HFF := Aside0.mk hff
      clear hff hfr hUq hok
      have y0 : ws.cell? ⟨wr.heap.size, 0, none⟩ = some (.int .i64 q.f0.f0) := (blk_cell HH.out 0).trans rfl
      have y1 : ws.cell? ⟨wr.heap.size, 1, none⟩ = some (.int .i64 q.f0.f1) := (blk_cell HH.out 1).trans rfl
      have y2 : ws.cell? ⟨wr.heap.size, 2, none⟩ = some (.int .i64 q.f0.f2) := (blk_cell HH.out 2).trans rfl
      have y3 : ws.cell? ⟨wr.heap.size, 3, none⟩ = some (.int .i64 q.f1) := (blk_cell HH.out 3).trans rfl
      have y4 : ws.cell? ⟨wr.heap.size, 4, none⟩ = some (.int .i64 q.f2) := (blk_cell HH.out 4).trans rfl
      have y5 : ws.cell? ⟨wr.heap.size, 5, none⟩ = some (.int .i64 q.f3) := (blk_cell HH.out 5).trans rfl
      have y6 : ws.cell? ⟨wr.heap.size, 6, none⟩ = some (.int .i64 q.f4) := (blk_cell HH.out 6).trans rfl
      have y7 : ws.cell? ⟨wr.heap.size, 7, none⟩ = some (.slice Aq q.f5.length cq) := (blk_cell HH.out 7).trans rfl
      go_wp2_with (first | (refine wpList_store_row rfl 49 (.tmp 10) (.tmp 54) rfl wr.heap.size rfl #[.int .i64 q.f0.f0, .int .i64 q.f0.f1, .int .i64 q.f0.f2, .int .i64 q.f1, .int .i64 q.f2, .int .i64 q.f3, .int .i64 q.f4, .slice Aq q.f5.length cq] rfl 49 #[.int .i64 0, .int .i64 0, .int .i64 0, .int .i64 0, .int .i64 0, .int .i64 0, .int .i64 0, .slice none 0 0] HZ rfl ?h1 hi49 ?_; (case h1 => simp [Value.oneCell']); rw [← HWS.out]))
      (with_reducible refine HFF.out.mono ?_)
      clear HFF
      rintro e wt ⟨vt, rfl, hRt, hbt⟩
      obtain ⟨At, ct, rfl, hct, hCt⟩ := Kd.R_reads hRt
      have hBt := HBS.out.trans (hbt.mono HBS.out.size)
      have hby := seamarkref08_Bytes.calls (b.length + 1) At ct b Ab cb b _ wt hCt hct (Kd.C_below HRB.out hBt) hcb (bytes_f b b (by omega))
      rw [decide_eq_true rfl] at hby
      clear hRt hbt hCt hct y0 y1 y2 y3 y4 y5 y6 y7
      go_wp2_with fail
      (with_reducible refine hby.mono ?_)
      rintro e wu ⟨rfl, hd⟩
      have hBu := hBt.trans ((hd.below).mono hBt.size)
      clear hby hd
      go_wp2_with fail
      go_ret
      exact ⟨rfl, hBu⟩
    · clear hq
      rcases he with rfl | rfl | rfl
      all_goals (go_wp2_with (first | (refine wpList_store_row rfl 49 (.tmp 10) (.tmp 54) rfl wr.heap.size rfl #[.int .i64 q.f0.f0, .int .i64 q.f0.f1, .int .i64 q.f0.f2, .int .i64 q.f1, .int .i64 q.f2, .int .i64 q.f3, .int .i64 q.f4, .slice Aq q.f5.length cq] rfl 49 #[.int .i64 0, .int .i64 0, .int .i64 0, .int .i64 0, .int .i64 0, .int .i64 0, .int .i64 0, .slice none 0 0] HZ rfl ?h1 hi49 ?_; (case h1 => simp [Value.oneCell']); rw [← HWS.out])); go_ret; exact ⟨rfl, HBS.out⟩)
  · have hcall := piece_Frame.calls _ _ _ _ _ _ _ Ap cp p.f5 _ _ w2 (Kd.C_below HRP.out hB2) hcp (pFrame_bad hok)
    have hpc := fun W (hW : Below w.heap.size w W) => piece_Piece.calls p.f0.f0 p.f0.f1 p.f0.f2 p.f1 p.f2 p.f3 p.f4 Ap cp p.f5 false W (Kd.C_below HRP.out hW) hcp (congrArg some (decide_eq_false hok))
    go_wp2_with fail
    (with_reducible refine hcall.mono ?_)
    clear hcall
    rintro e w3 ⟨v3, rfl, hR3, hb3⟩
    obtain ⟨A3, c3, rfl, hc3, hC3⟩ := Kd.R_reads hR3
    have hB3 := hB2.trans (hb3.mono hB2.size)
    replace HBX2 := Aside0.mk ((hb3.block _ (blk_lt HBX2.out)).trans HBX2.out)
    clear hR3 hb3 hC3 hc3 hok
    clear x0 x1 x2 x3 x4 x5 x6 x7
    have x0 : w3.cell? ⟨gb, 0, none⟩ = some (.int .i64 p.f0.f0) := (blk_cell HBX2.out 0).trans rfl
    have x1 : w3.cell? ⟨gb, 1, none⟩ = some (.int .i64 p.f0.f1) := (blk_cell HBX2.out 1).trans rfl
    have x2 : w3.cell? ⟨gb, 2, none⟩ = some (.int .i64 p.f0.f2) := (blk_cell HBX2.out 2).trans rfl
    have x3 : w3.cell? ⟨gb, 3, none⟩ = some (.int .i64 p.f1) := (blk_cell HBX2.out 3).trans rfl
    have x4 : w3.cell? ⟨gb, 4, none⟩ = some (.int .i64 p.f2) := (blk_cell HBX2.out 4).trans rfl
    have x5 : w3.cell? ⟨gb, 5, none⟩ = some (.int .i64 p.f3) := (blk_cell HBX2.out 5).trans rfl
    have x6 : w3.cell? ⟨gb, 6, none⟩ = some (.int .i64 p.f4) := (blk_cell HBX2.out 6).trans rfl
    have x7 : w3.cell? ⟨gb, 7, none⟩ = some (.slice Ap p.f5.length cp) := (blk_cell HBX2.out 7).trans rfl
    have hcall := hpc w3 hB3
    clear hpc
    go_wp2_with fail
    (with_reducible refine hcall.mono ?_)
    clear hcall
    rintro e w5 ⟨rfl, hb5⟩
    have hB5 := hB3.trans (hb5.mono hB3.size)
    clear hb5 HBX2 x0 x1 x2 x3 x4 x5 x6 x7
    by_cases hb3 : 300 < (b.length : Int)
    · go_wp2_with fail
      go_ret
      exact ⟨rfl, hB5⟩
    obtain ⟨q, er, hrd, hcase⟩ := pRead_back HUB.out (show b.length < 100000 by omega)
    have hcall := piece_Read.calls Ab cb b q er w5 (Kd.C_below HRB.out hB5) hcb hrd
    clear hrd
    go_wp2_with fail
    (with_reducible refine hcall.mono ?_)
    clear hcall
    rintro e wr ⟨vq, rfl, hRq, hbq⟩
    have hBq := hB5.trans (hbq.mono hB5.size)
    obtain ⟨Aq, cq, rfl, hcq, hCq⟩ := Kd.R_reads hRq
    dsimp only [v49]
    have HZ := World.alloc_heap_new wr (.cells #[.int .i64 0, .int .i64 0, .int .i64 0, .int .i64 0, .int .i64 0, .int .i64 0, .int .i64 0, .slice none 0 0] 49)
    have hbs : Below wr.heap.size wr ((wr.alloc (.cells #[.int .i64 0, .int .i64 0, .int .i64 0, .int .i64 0, .int .i64 0, .int .i64 0, .int .i64 0, .slice none 0 0] 49)).setRow wr.heap.size #[.int .i64 q.f0.f0, .int .i64 q.f0.f1, .int .i64 q.f0.f2, .int .i64 q.f1, .int .i64 q.f2, .int .i64 q.f3, .int .i64 q.f4, .slice Aq q.f5.length cq]) := below_setRow ((Below.refl _ _).alloc (Nat.le_refl _) _) (Nat.le_refl _) _
    have HH : Aside0 (((wr.alloc (.cells #[.int .i64 0, .int .i64 0, .int .i64 0, .int .i64 0, .int .i64 0, .int .i64 0, .int .i64 0, .slice none 0 0] 49)).setRow wr.heap.size #[.int .i64 q.f0.f0, .int .i64 q.f0.f1, .int .i64 q.f0.f2, .int .i64 q.f1, .int .i64 q.f2, .int .i64 q.f3, .int .i64 q.f4, .slice Aq q.f5.length cq]).heap[wr.heap.size]? = some (.cells #[.int .i64 q.f0.f0, .int .i64 q.f0.f1, .int .i64 q.f0.f2, .int .i64 q.f1, .int .i64 q.f2, .int .i64 q.f3, .int .i64 q.f4, .slice Aq q.f5.length cq] 49 (0, 0))) := ⟨setRow_heap _ _ _ _ _ _ HZ⟩
    have hBs := hBq.trans (hbs.mono hBq.size)
    have hCs := Kd.C_below hCq hbs
    have HBS := Aside0.mk hBs
    have HCS := Aside0.mk hCs
    clear hbs hBs hCs hCq hRq hbq hBq
    obtain ⟨ws, hws⟩ : ∃ ws, ws = (wr.alloc (.cells #[.int .i64 0, .int .i64 0, .int .i64 0, .int .i64 0, .int .i64 0, .int .i64 0, .int .i64 0, .slice none 0 0] 49)).setRow wr.heap.size #[.int .i64 q.f0.f0, .int .i64 q.f0.f1, .int .i64 q.f0.f2, .int .i64 q.f1, .int .i64 q.f2, .int .i64 q.f3, .int .i64 q.f4, .slice Aq q.f5.length cq] := ⟨_, rfl⟩
    rw [← hws] at HH HBS HCS
    have HWS := Aside0.mk hws
    clear hws
    rcases hcase with ⟨rfl, hok, hUq, hfr⟩ | ⟨he, hq⟩
    · have hff := piece_Frame.calls _ _ _ _ _ _ _ Aq cq q.f5 _ _ ws HCS.out hcq (pFrame_ok hok)
      rw [hfr] at hff
      have HFF := Aside0.mk hff
      clear hff hfr hUq hok
      have y0 : ws.cell? ⟨wr.heap.size, 0, none⟩ = some (.int .i64 q.f0.f0) := (blk_cell HH.out 0).trans rfl
      have y1 : ws.cell? ⟨wr.heap.size, 1, none⟩ = some (.int .i64 q.f0.f1) := (blk_cell HH.out 1).trans rfl
      have y2 : ws.cell? ⟨wr.heap.size, 2, none⟩ = some (.int .i64 q.f0.f2) := (blk_cell HH.out 2).trans rfl
      have y3 : ws.cell? ⟨wr.heap.size, 3, none⟩ = some (.int .i64 q.f1) := (blk_cell HH.out 3).trans rfl
      have y4 : ws.cell? ⟨wr.heap.size, 4, none⟩ = some (.int .i64 q.f2) := (blk_cell HH.out 4).trans rfl
      have y5 : ws.cell? ⟨wr.heap.size, 5, none⟩ = some (.int .i64 q.f3) := (blk_cell HH.out 5).trans rfl
      have y6 : ws.cell? ⟨wr.heap.size, 6, none⟩ = some (.int .i64 q.f4) := (blk_cell HH.out 6).trans rfl
      have y7 : ws.cell? ⟨wr.heap.size, 7, none⟩ = some (.slice Aq q.f5.length cq) := (blk_cell HH.out 7).trans rfl
      go_wp2_with (first | (refine wpList_store_row rfl 49 (.tmp 10) (.tmp 54) rfl wr.heap.size rfl #[.int .i64 q.f0.f0, .int .i64 q.f0.f1, .int .i64 q.f0.f2, .int .i64 q.f1, .int .i64 q.f2, .int .i64 q.f3, .int .i64 q.f4, .slice Aq q.f5.length cq] rfl 49 #[.int .i64 0, .int .i64 0, .int .i64 0, .int .i64 0, .int .i64 0, .int .i64 0, .int .i64 0, .slice none 0 0] HZ rfl ?h1 hi49 ?_; (case h1 => simp [Value.oneCell']); rw [← HWS.out]))
      (with_reducible refine HFF.out.mono ?_)
      clear HFF
      rintro e wt ⟨vt, rfl, hRt, hbt⟩
      obtain ⟨At, ct, rfl, hct, hCt⟩ := Kd.R_reads hRt
      have hBt := HBS.out.trans (hbt.mono HBS.out.size)
      have hby := seamarkref08_Bytes.calls (b.length + 1) At ct b Ab cb b _ wt hCt hct (Kd.C_below HRB.out hBt) hcb (bytes_f b b (by omega))
      rw [decide_eq_true rfl] at hby
      clear hRt hbt hCt hct y0 y1 y2 y3 y4 y5 y6 y7
      go_wp2_with fail
      (with_reducible refine hby.mono ?_)
      rintro e wu ⟨rfl, hd⟩
      have hBu := hBt.trans ((hd.below).mono hBt.size)
      clear hby hd
      go_wp2_with fail
      go_ret
      exact ⟨rfl, hBu⟩
    · clear hq
      rcases he with rfl | rfl | rfl
      all_goals (go_wp2_with (first | (refine wpList_store_row rfl 49 (.tmp 10) (.tmp 54) rfl wr.heap.size rfl #[.int .i64 q.f0.f0, .int .i64 q.f0.f1, .int .i64 q.f0.f2, .int .i64 q.f1, .int .i64 q.f2, .int .i64 q.f3, .int .i64 q.f4, .slice Aq q.f5.length cq] rfl 49 #[.int .i64 0, .int .i64 0, .int .i64 0, .int .i64 0, .int .i64 0, .int .i64 0, .int .i64 0, .slice none 0 0] HZ rfl ?h1 hi49 ?_; (case h1 => simp [Value.oneCell']); rw [← HWS.out])); go_ret; exact ⟨rfl, HBS.out⟩)
end Go.Proofs.YthiealhmcfdakaaH
end
section
namespace Go.Proofs.Ythiealhmcfdakaa.pieceFrames
open Go.ChangeShapes Go.WideShapes Go.ChangeAt Go.RowKit
open Go.ChangeMaps (open_string shut_string)
open Go.Proofs.YthiealhmcfdakaaH Go.Proofs.YthiealhmcfdakaaM
set_option linter.unusedVariables false
theorem own : ownKnob Try.prog.godebug = none := by kernel_rfl
theorem laidOut : laidOutB Try.prog = true := by kernel_rfl
set_option maxHeartbeats 4000000 in
set_option maxRecDepth 100000 in
theorem lifted (os : Os) (started : os.Started) (H : Type) (enc : TypeId × Value → H) :
    ReturnsInHanded {} Try.checked os 5 .any (Rows.pieceFramesSpec.pre6 enc Try.prog Try.f5 Rows.pieceFramesRow.domain false) (Rows.pieceFramesSpec.post enc Try.prog Try.f5 false true false false) := by
  refine returnsInHanded_of_change_sized (C := Try.checked) own started (by kernel_rfl) Try.func5
    (ChangeSpec.witness6 (enc := enc) (C := Try.checked) false ⟨#[], #[.agg #[.int .i64 0, .int .i64 0, .int .i64 0, .int .i64 0, .int .i64 0, .int .i64 0, .int .i64 0, .slice none 0 0], .slice none 0 0], []⟩ 8 (by kernel_rfl) (by kernel_rfl) (by kernel_rfl) (by kernel_rfl)) ?_
  intro W base args ds gs before hval0 hW hcnd hsz0 _
  have hsz : (DataW.weightsEach Try.prog (Try.f5.params.toList ++ Rows.pieceFramesSpec.plain.varTypes Try.prog) (ds ++ gs)).all (· ≤ reachBytes) = true := hsz0
  have hval : ∀ (j : Nat) t v, Try.f5.params[j]? = some t → args[j]? = some v → Value.okWide Try.prog W .any base t v := hval0
  have hW' := hW
  obtain ⟨p, q, hA0, hV, rfl, hfz, hnd⟩ := hW
  have hA : DataW.TrodAll enc Try.prog W 0 (fun _ => true) true Try.f5.params.toList args.toList ds p := hA0
  rw [Try.params5] at hA hval hsz
  obtain ⟨v0, vs0, d0, ds0, p0, q0, hargs, rfl, rfl, h0, r0⟩ := trodAll_cons hA
  obtain ⟨v1, vs1, d1, ds1, p1, q1, rfl, rfl, rfl, h1, r1⟩ := trodAll_cons r0
  obtain ⟨rfl, rfl, rfl⟩ := trodAll_nil r1
  obtain rfl : args = #[v0, v1] := by cases args; simp_all
  obtain ⟨rfl, rfl⟩ := trodVars_none hV
  have k0 := h0
  have lt0 : ∀ x ∈ p0, x.block < W.heap.size := by obtain ⟨m, hm⟩ := k0; exact DataW.trod_lt m _ _ _ hm
  obtain ⟨cs0, rfl, hz0⟩ := okWide_struct Try.underlying49 (hval 0 49 v0 rfl rfl)
  obtain ⟨l0⟩ := cs0
  obtain ⟨fuel0, hf0⟩ := h0
  obtain ⟨x0, A0, c0, hcs0, hc0, hC0, hU0⟩ := open_piece hf0
  have hcs0' : l0 = _ := hcs0
  subst hcs0'
  have k1 := h1
  have lt1 : ∀ x ∈ p1, x.block < W.heap.size := by obtain ⟨m, hm⟩ := k1; exact DataW.trod_lt m _ _ _ hm
  obtain ⟨b1, n1, m1, rfl⟩ := okWide_slice Try.underlying28 (hval 1 28 v1 rfl rfl)
  obtain ⟨fuel1, hf1⟩ := h1
  obtain ⟨A1, c1, x1, hcs1, hc1, hC1, hU1⟩ := open_u8s hf1
  have hcs1' : [Value.slice b1 n1 m1] = _ := hcs1
  simp only [List.cons.injEq, Value.slice.injEq, and_true] at hcs1'
  obtain ⟨rfl, rfl, rfl⟩ := hcs1'
  clear hA0 hval0 hsz0 hsz
  refine (frames_walk x0 _ _ x1 _ _ W hC0 hc0 hC1 hc1 hU0 hU1).mono fun e W' ⟨he, bel⟩ => ?_
  subst he
  exact ⟨_, rfl, _, _, _, [], _, [], hW', trodAll_mk1 (shut_bool Try.underlying4 _), (trodAll_cons_mk (Below.trod laidOut (by kernel_rfl) (of_decide_eq_true (by kernel_rfl)) k0 bel lt0) (trodAll_cons_mk (Below.trod laidOut (by kernel_rfl) (of_decide_eq_true (by kernel_rfl)) k1 bel lt1) trodAll_mk0)), rfl, bel.frame _, fun h => by cases h⟩
theorem over : Rows.pieceFramesRow.holds Try.pinned (OpenSpec.ofChange Rows.pieceFramesSpec) :=
  OpenClaim.holds_of_wide 5 Try.f5 rfl rfl rfl rfl rfl rfl rfl ⟨rfl, rfl, rfl, rfl, rfl⟩ rfl rfl rfl rfl rfl (by kernel_rfl) Try.func5 (by kernel_rfl)
    (of_decide_eq_true (by kernel_rfl)) (by unfold Func.isWrapper; first | (rw [if_pos (by decide +kernel)]; kernel_rfl) | (rw [if_neg (by decide +kernel)]; exact ⟨rfl, rfl⟩))
    (fun os started H enc _ => lifted os started H enc)
theorem proved : Rows.PieceFramesSaid := over
#print axioms proved
end Go.Proofs.Ythiealhmcfdakaa.pieceFrames
namespace Go.Proofs.Ythiealhmcfdakaa
theorem pieceFrames_holds : Rows.PieceFramesSaid := pieceFrames.proved
end Go.Proofs.Ythiealhmcfdakaa
end
