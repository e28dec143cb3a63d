/- PieceBack: whatever the two warnings and the bytes: the law returns true, and what was handed in reads as it did. Conditions: none beyond the given row's. -/
import Derived.Below
import Derived.ChangeOld
import Derived.Laws.IdiomArrays
import Derived.OpenShut
import Derived.ProofKit
import Derived.ShutString
import Derived.SizedLaws
import Derived.Test.YthiealhmcfdakaaRows
import Derived.WalkKit
import Derived.Test.YthiealhmcfdakaaB6
section
set_option linter.unusedVariables false
set_option linter.unusedSimpArgs false
namespace Go.Proofs.YthiealhmcfdakaaH
open Go Go.RowKit Go.Proofs.YthiealhmcfdakaaW.PrintWords Go.Proofs.YthiealhmcfdakaaW.PrintLast Go.Proofs.YthiealhmcfdakaaW.PrintMore Go.Proofs.Ythiealhmcfdakaa.E Go.Proofs.YthiealhmcfdakaaM
theorem dec_bytes {p q : Wn} (hp : validW p) (hq : validW q) (up : U8 p.text) (uq : U8 q.text) : decide (enc (intsOf p) = enc (intsOf q)) = decide (p = q) := by
  rw [decide_eq_decide]
  have lp : p.text.length ≤ 200 := hp.2.2.2.2.2.2.2.2
  have lq : q.text.length ≤ 200 := hq.2.2.2.2.2.2.2.2
  refine ⟨fun h => ?_, fun h => by rw [h]⟩
  exact ints_inj (enc_inj (intsOf_I64 hp up) (intsOf_I64 hq uq) (by rw [intsOf_len]; omega) (by rw [intsOf_len]; omega) h)
theorem bytes_any (p : Wn) (hU : U8 p.text) : ∃ l e, bytesF 4000 p = some (l, e) := by
  by_cases h : validW p
  · exact ⟨_, _, bytes_ok h hU⟩
  · exact ⟨_, _, bytes_bad h 4000⟩
theorem bytes_calls (p : Wn) (A : Option Addr) (c : Nat) (l : List Int) (e : Int) (w : World) (hr : Kd.C (Kd.int .u8) w A p.text.length p.text) (hc : p.text.length ≤ c) (h : bytesF 4000 p = some (l, e)) :
    Calls Try.prog 12 #[.agg #[.int .i64 p.st, .int .i64 p.ki, .int .i64 p.nu, .int .i64 p.iss, .int .i64 p.unt, .int .i64 p.xlo, .int .i64 p.xhi, .int .i64 p.ylo, .int .i64 p.yhi, .int .i64 p.pri, .bool p.wd, .slice A p.text.length c]] w fun e' w' => ∃ A' c', e' = .returned (.tuple #[.slice A' l.length c', .int .i64 e]) ∧ l.length ≤ c' ∧ Kd.C (Kd.int .u8) w' A' l.length l ∧ Below w.heap.size w w' := by
  refine (piece_Bytes.calls 4000 p.st p.ki p.nu p.iss p.unt p.xlo p.xhi p.ylo p.yhi p.pri p.wd A c p.text l e w hr hc h).mono ?_
  rintro e' w' ⟨v, rfl, hR, hb⟩
  obtain ⟨A', c', rfl, hc', hC'⟩ := Kd.R_reads hR
  exact ⟨A', c', rfl, hc', hC', hb⟩
theorem from_calls (A : Option Addr) (c : Nat) (l : List Int) (p : Wn) (e : Int) (w : World) (hr : Kd.C (Kd.int .u8) w A l.length l) (hc : l.length ≤ c) (h : piece_From.f l = some (p, e)) :
    Calls Try.prog 13 #[.slice A l.length c] w fun e' w' => ∃ A' c', e' = .returned (.tuple #[.agg #[.int .i64 p.st, .int .i64 p.ki, .int .i64 p.nu, .int .i64 p.iss, .int .i64 p.unt, .int .i64 p.xlo, .int .i64 p.xhi, .int .i64 p.ylo, .int .i64 p.yhi, .int .i64 p.pri, .bool p.wd, .slice A' p.text.length c'], .int .i64 e]) ∧ p.text.length ≤ c' ∧ Kd.C (Kd.int .u8) w' A' p.text.length p.text ∧ Below w.heap.size w w' := by
  refine (piece_From.calls A c l p e w hr hc h).mono ?_
  rintro e' w' ⟨v, rfl, hR, hb⟩
  obtain ⟨A', c', rfl, hc', hC'⟩ := Kd.R_reads hR
  exact ⟨A', c', rfl, hc', hC', hb⟩
theorem valid_calls (p : Wn) (A : Option Addr) (c : Nat) (b : Bool) (w : World) (hr : Kd.C (Kd.int .u8) w A p.text.length p.text) (hc : p.text.length ≤ c) (h : decide (validW p) = b) :
    Calls Try.prog 17 #[.agg #[.int .i64 p.st, .int .i64 p.ki, .int .i64 p.nu, .int .i64 p.iss, .int .i64 p.unt, .int .i64 p.xlo, .int .i64 p.xhi, .int .i64 p.ylo, .int .i64 p.yhi, .int .i64 p.pri, .bool p.wd, .slice A p.text.length c]] w fun e' w' => e' = .returned (.bool b) ∧ Below w.heap.size w w' :=
  piece_Valid.calls p.st p.ki p.nu p.iss p.unt p.xlo p.xhi p.ylo p.yhi p.pri p.wd A c p.text b w hr hc (congrArg some h)
set_option maxHeartbeats 8000000 in
set_option maxRecDepth 100000 in
theorem back_walk (p : Wn) (Ap : Option Addr) (cp : Nat) (q : Wn) (Aq : Option Addr) (cq : Nat) (b : List Int) (Ab : Option Addr) (cb : Nat) (w : World) (hrp : Kd.C (Kd.int .u8) w Ap p.text.length p.text) (hcp : p.text.length ≤ cp) (hrq : Kd.C (Kd.int .u8) w Aq q.text.length q.text) (hcq : q.text.length ≤ cq) (hrb : Kd.C (Kd.int .u8) w Ab b.length b) (hcb : b.length ≤ cb) (hUp : U8 p.text) (hUq : U8 q.text) (hUb : U8 b) :
    Calls Try.prog 3 #[vWn p (.slice Ap p.text.length cp), vWn q (.slice Aq q.text.length cq), .slice Ab b.length cb] w fun e w' => e = .returned (.bool true) ∧ Below w.heap.size w w' := by
  have hu30 := Try.underlying30
  have hi30 : (Try.prog.info? 30).map (·.size) = some 12 := by kernel_rfl
  have hmix : Try.prog.follows .mixedOrders = true := by kernel_rfl
  have HRP := Aside0.mk hrp
  have HRQ := Aside0.mk hrq
  have HRB := Aside0.mk hrb
  have HUP := Aside0.mk hUp
  have HUQ := Aside0.mk hUq
  have HUB := Aside0.mk hUb
  clear hrp hrq hrb hUp hUq hUb
  dsimp only [vWn]
  go_enter Try.func3, Try.ntmps3
  go_wp2_with (first | ((with_reducible refine gate_dst (N := 3) rfl ?_); (try (refine gate_guard (by rfl) ?_; dsimp only)); refine box_event ?hg (N := 3) ?hd (cs := #[.int .i64 p.st, .int .i64 p.ki, .int .i64 p.nu, .int .i64 p.iss, .int .i64 p.unt, .int .i64 p.xlo, .int .i64 p.xhi, .int .i64 p.ylo, .int .i64 p.yhi, .int .i64 p.pri, .bool p.wd, .slice Ap p.text.length cp]) (t := 30) ?hr ?_; (case hd => rfl); (case hg => rfl); (case hr => first | (go_simp; done) | (go_simp; rfl)); intro gp hg w0 hbox hbgp; have HP := Aside0.mk hbox; clear hbox hg) | ((with_reducible refine gate_dst (N := 4) rfl ?_); (try (refine gate_guard (by rfl) ?_; dsimp only)); refine box_event ?hg (N := 4) ?hd (cs := #[.int .i64 q.st, .int .i64 q.ki, .int .i64 q.nu, .int .i64 q.iss, .int .i64 q.unt, .int .i64 q.xlo, .int .i64 q.xhi, .int .i64 q.ylo, .int .i64 q.yhi, .int .i64 q.pri, .bool q.wd, .slice Aq q.text.length cq]) (t := 30) ?hr ?_; (case hd => rfl); (case hg => rfl); (case hr => first | (go_simp; done) | (go_simp; rfl)); intro gq hg w1 hbox hbgq; have HQ := Aside0.mk hbox; replace HP := Aside0.mk ((hbgq.block _ (blk_lt HP.out)).trans HP.out); clear hbox hg))
  (with_reducible refine (head_calls _).mono ?_)
  rintro e w2 ⟨rfl, hb2⟩
  have hB2 : Below w.heap.size w w2 := (hbgp.trans (hbgq.mono hbgp.size)).trans (hb2.mono (hbgp.trans (hbgq.mono hbgp.size)).size)
  replace HP := Aside0.mk ((hb2.block _ (blk_lt HP.out)).trans HP.out)
  replace HQ := Aside0.mk ((hb2.block _ (blk_lt HQ.out)).trans HQ.out)
  clear hbgp hbgq hb2
  have x0 : w2.cell? ⟨gp, 0, none⟩ = some (.int .i64 p.st) := (blk_cell HP.out 0).trans rfl
  have x1 : w2.cell? ⟨gp, 1, none⟩ = some (.int .i64 p.ki) := (blk_cell HP.out 1).trans rfl
  have x2 : w2.cell? ⟨gp, 2, none⟩ = some (.int .i64 p.nu) := (blk_cell HP.out 2).trans rfl
  have x3 : w2.cell? ⟨gp, 3, none⟩ = some (.int .i64 p.iss) := (blk_cell HP.out 3).trans rfl
  have x4 : w2.cell? ⟨gp, 4, none⟩ = some (.int .i64 p.unt) := (blk_cell HP.out 4).trans rfl
  have x5 : w2.cell? ⟨gp, 5, none⟩ = some (.int .i64 p.xlo) := (blk_cell HP.out 5).trans rfl
  have x6 : w2.cell? ⟨gp, 6, none⟩ = some (.int .i64 p.xhi) := (blk_cell HP.out 6).trans rfl
  have x7 : w2.cell? ⟨gp, 7, none⟩ = some (.int .i64 p.ylo) := (blk_cell HP.out 7).trans rfl
  have x8 : w2.cell? ⟨gp, 8, none⟩ = some (.int .i64 p.yhi) := (blk_cell HP.out 8).trans rfl
  have x9 : w2.cell? ⟨gp, 9, none⟩ = some (.int .i64 p.pri) := (blk_cell HP.out 9).trans rfl
  have x10 : w2.cell? ⟨gp, 10, none⟩ = some (.bool p.wd) := (blk_cell HP.out 10).trans rfl
  have x11 : w2.cell? ⟨gp, 11, none⟩ = some (.slice Ap p.text.length cp) := (blk_cell HP.out 11).trans rfl
  by_cases hok : validW p
  · have HLT := Aside0.mk (show p.text.length ≤ 200 from hok.2.2.2.2.2.2.2.2)
    by_cases hoq : validW q
    · have hF := bytes_calls p Ap cp _ _ w2 (Kd.C_below HRP.out hB2) hcp (bytes_ok hok HUP.out)
      have hG := fun W (hW : Below w.heap.size w W) => bytes_calls q Aq cq _ _ W (Kd.C_below HRQ.out hW) hcq (bytes_ok hoq HUQ.out)
      have HDE := Aside0.mk (dec_bytes hok hoq HUP.out HUQ.out)
      have hfb := from_bytes hok HUP.out
      have hlen := (bytes_len hok HUP.out).1
      obtain ⟨F, hFd⟩ : ∃ F, F = enc (intsOf p) := ⟨_, rfl⟩
      rw [← hFd] at hF hfb hlen HDE
      obtain ⟨G, hGd⟩ : ∃ G, G = enc (intsOf q) := ⟨_, rfl⟩
      rw [← hGd] at hG HDE
      clear hGd
      have HFB := Aside0.mk hfb
      clear hfb hFd hok hoq
      go_wp2_with fail
      (with_reducible refine (hF).mono ?_)
      rintro e w3 ⟨A3, c3, rfl, hc3, hC3, hb⟩
      have hB3 : Below w.heap.size w w3 := hB2.trans (hb.mono hB2.size)
      replace HP := Aside0.mk ((hb.block _ (blk_lt HP.out)).trans HP.out)
      replace HQ := Aside0.mk ((hb.block _ (blk_lt HQ.out)).trans HQ.out)
      clear hF hb
      clear x0 x1 x2 x3 x4 x5 x6 x7 x8 x9 x10 x11
      have y0 : w3.cell? ⟨gq, 0, none⟩ = some (.int .i64 q.st) := (blk_cell HQ.out 0).trans rfl
      have y1 : w3.cell? ⟨gq, 1, none⟩ = some (.int .i64 q.ki) := (blk_cell HQ.out 1).trans rfl
      have y2 : w3.cell? ⟨gq, 2, none⟩ = some (.int .i64 q.nu) := (blk_cell HQ.out 2).trans rfl
      have y3 : w3.cell? ⟨gq, 3, none⟩ = some (.int .i64 q.iss) := (blk_cell HQ.out 3).trans rfl
      have y4 : w3.cell? ⟨gq, 4, none⟩ = some (.int .i64 q.unt) := (blk_cell HQ.out 4).trans rfl
      have y5 : w3.cell? ⟨gq, 5, none⟩ = some (.int .i64 q.xlo) := (blk_cell HQ.out 5).trans rfl
      have y6 : w3.cell? ⟨gq, 6, none⟩ = some (.int .i64 q.xhi) := (blk_cell HQ.out 6).trans rfl
      have y7 : w3.cell? ⟨gq, 7, none⟩ = some (.int .i64 q.ylo) := (blk_cell HQ.out 7).trans rfl
      have y8 : w3.cell? ⟨gq, 8, none⟩ = some (.int .i64 q.yhi) := (blk_cell HQ.out 8).trans rfl
      have y9 : w3.cell? ⟨gq, 9, none⟩ = some (.int .i64 q.pri) := (blk_cell HQ.out 9).trans rfl
      have y10 : w3.cell? ⟨gq, 10, none⟩ = some (.bool q.wd) := (blk_cell HQ.out 10).trans rfl
      have y11 : w3.cell? ⟨gq, 11, none⟩ = some (.slice Aq q.text.length cq) := (blk_cell HQ.out 11).trans rfl
      have hG3 := hG w3 hB3
      clear hG
      go_wp2_with fail
      (with_reducible refine (hG3).mono ?_)
      rintro e w4 ⟨A4, c4, rfl, hc4, hC4, hb⟩
      have hB4 : Below w.heap.size w w4 := hB3.trans (hb.mono hB3.size)
      replace HP := Aside0.mk ((hb.block _ (blk_lt HP.out)).trans HP.out)
      replace HQ := Aside0.mk ((hb.block _ (blk_lt HQ.out)).trans HQ.out)
      have hC34 := Kd.C_below hC3 hb
      clear hG3 hb hC3
      clear y0 y1 y2 y3 y4 y5 y6 y7 y8 y9 y10 y11
      have hcall := from_calls A3 c3 F p 0 w4 hC34 hc3 HFB.out
      clear HFB
      go_wp2_with fail
      (with_reducible refine (hcall).mono ?_)
      rintro e w5 ⟨A5, c5, rfl, hc5, hC5, hb⟩
      have hB5 : Below w.heap.size w w5 := hB4.trans (hb.mono hB4.size)
      replace HP := Aside0.mk ((hb.block _ (blk_lt HP.out)).trans HP.out)
      replace HQ := Aside0.mk ((hb.block _ (blk_lt HQ.out)).trans HQ.out)
      have hC35 := Kd.C_below hC34 hb
      have hC45 := Kd.C_below hC4 hb
      clear hcall hb hC34 hC4
      have HZ := World.alloc_heap_new w5 (.cells #[.int .i64 0, .int .i64 0, .int .i64 0, .int .i64 0, .int .i64 0, .int .i64 0, .int .i64 0, .int .i64 0, .int .i64 0, .int .i64 0, .bool false, .slice none 0 0] 30)
      have hbs : Below w5.heap.size w5 ((w5.alloc (.cells #[.int .i64 0, .int .i64 0, .int .i64 0, .int .i64 0, .int .i64 0, .int .i64 0, .int .i64 0, .int .i64 0, .int .i64 0, .int .i64 0, .bool false, .slice none 0 0] 30)).setRow w5.heap.size #[.int .i64 p.st, .int .i64 p.ki, .int .i64 p.nu, .int .i64 p.iss, .int .i64 p.unt, .int .i64 p.xlo, .int .i64 p.xhi, .int .i64 p.ylo, .int .i64 p.yhi, .int .i64 p.pri, .bool p.wd, .slice A5 p.text.length c5]) := below_setRow ((Below.refl _ _).alloc (Nat.le_refl _) _) (Nat.le_refl _) _
      have HH : Aside0 (((w5.alloc (.cells #[.int .i64 0, .int .i64 0, .int .i64 0, .int .i64 0, .int .i64 0, .int .i64 0, .int .i64 0, .int .i64 0, .int .i64 0, .int .i64 0, .bool false, .slice none 0 0] 30)).setRow w5.heap.size #[.int .i64 p.st, .int .i64 p.ki, .int .i64 p.nu, .int .i64 p.iss, .int .i64 p.unt, .int .i64 p.xlo, .int .i64 p.xhi, .int .i64 p.ylo, .int .i64 p.yhi, .int .i64 p.pri, .bool p.wd, .slice A5 p.text.length c5]).heap[w5.heap.size]? = some (.cells #[.int .i64 p.st, .int .i64 p.ki, .int .i64 p.nu, .int .i64 p.iss, .int .i64 p.unt, .int .i64 p.xlo, .int .i64 p.xhi, .int .i64 p.ylo, .int .i64 p.yhi, .int .i64 p.pri, .bool p.wd, .slice A5 p.text.length c5] 30 (0, 0))) := ⟨setRow_heap _ _ _ _ _ _ HZ⟩
      have HBS := Aside0.mk (hB5.trans (hbs.mono hB5.size))
      have HCS := Aside0.mk (Kd.C_below hC5 hbs)
      have HC3 := Aside0.mk (Kd.C_below hC35 hbs)
      have HC4 := Aside0.mk (Kd.C_below hC45 hbs)
      replace HP := Aside0.mk ((hbs.block _ (blk_lt HP.out)).trans HP.out)
      replace HQ := Aside0.mk ((hbs.block _ (blk_lt HQ.out)).trans HQ.out)
      clear hbs hC5 hC35 hC45 hB5
      obtain ⟨ws, hws⟩ : ∃ ws, ws = (w5.alloc (.cells #[.int .i64 0, .int .i64 0, .int .i64 0, .int .i64 0, .int .i64 0, .int .i64 0, .int .i64 0, .int .i64 0, .int .i64 0, .int .i64 0, .bool false, .slice none 0 0] 30)).setRow w5.heap.size #[.int .i64 p.st, .int .i64 p.ki, .int .i64 p.nu, .int .i64 p.iss, .int .i64 p.unt, .int .i64 p.xlo, .int .i64 p.xhi, .int .i64 p.ylo, .int .i64 p.yhi, .int .i64 p.pri, .bool p.wd, .slice A5 p.text.length c5] := ⟨_, rfl⟩
      rw [← hws] at HH HBS HCS HC3 HC4 HP HQ
      have HWS := Aside0.mk hws
      clear hws
      have x0 : ws.cell? ⟨gp, 0, none⟩ = some (.int .i64 p.st) := (blk_cell HP.out 0).trans rfl
      have x1 : ws.cell? ⟨gp, 1, none⟩ = some (.int .i64 p.ki) := (blk_cell HP.out 1).trans rfl
      have x2 : ws.cell? ⟨gp, 2, none⟩ = some (.int .i64 p.nu) := (blk_cell HP.out 2).trans rfl
      have x3 : ws.cell? ⟨gp, 3, none⟩ = some (.int .i64 p.iss) := (blk_cell HP.out 3).trans rfl
      have x4 : ws.cell? ⟨gp, 4, none⟩ = some (.int .i64 p.unt) := (blk_cell HP.out 4).trans rfl
      have x5 : ws.cell? ⟨gp, 5, none⟩ = some (.int .i64 p.xlo) := (blk_cell HP.out 5).trans rfl
      have x6 : ws.cell? ⟨gp, 6, none⟩ = some (.int .i64 p.xhi) := (blk_cell HP.out 6).trans rfl
      have x7 : ws.cell? ⟨gp, 7, none⟩ = some (.int .i64 p.ylo) := (blk_cell HP.out 7).trans rfl
      have x8 : ws.cell? ⟨gp, 8, none⟩ = some (.int .i64 p.yhi) := (blk_cell HP.out 8).trans rfl
      have x9 : ws.cell? ⟨gp, 9, none⟩ = some (.int .i64 p.pri) := (blk_cell HP.out 9).trans rfl
      have x10 : ws.cell? ⟨gp, 10, none⟩ = some (.bool p.wd) := (blk_cell HP.out 10).trans rfl
      have x11 : ws.cell? ⟨gp, 11, none⟩ = some (.slice Ap p.text.length cp) := (blk_cell HP.out 11).trans rfl
      have z0 : ws.cell? ⟨w5.heap.size, 0, none⟩ = some (.int .i64 p.st) := (blk_cell HH.out 0).trans rfl
      have z1 : ws.cell? ⟨w5.heap.size, 1, none⟩ = some (.int .i64 p.ki) := (blk_cell HH.out 1).trans rfl
      have z2 : ws.cell? ⟨w5.heap.size, 2, none⟩ = some (.int .i64 p.nu) := (blk_cell HH.out 2).trans rfl
      have z3 : ws.cell? ⟨w5.heap.size, 3, none⟩ = some (.int .i64 p.iss) := (blk_cell HH.out 3).trans rfl
      have z4 : ws.cell? ⟨w5.heap.size, 4, none⟩ = some (.int .i64 p.unt) := (blk_cell HH.out 4).trans rfl
      have z5 : ws.cell? ⟨w5.heap.size, 5, none⟩ = some (.int .i64 p.xlo) := (blk_cell HH.out 5).trans rfl
      have z6 : ws.cell? ⟨w5.heap.size, 6, none⟩ = some (.int .i64 p.xhi) := (blk_cell HH.out 6).trans rfl
      have z7 : ws.cell? ⟨w5.heap.size, 7, none⟩ = some (.int .i64 p.ylo) := (blk_cell HH.out 7).trans rfl
      have z8 : ws.cell? ⟨w5.heap.size, 8, none⟩ = some (.int .i64 p.yhi) := (blk_cell HH.out 8).trans rfl
      have z9 : ws.cell? ⟨w5.heap.size, 9, none⟩ = some (.int .i64 p.pri) := (blk_cell HH.out 9).trans rfl
      have z10 : ws.cell? ⟨w5.heap.size, 10, none⟩ = some (.bool p.wd) := (blk_cell HH.out 10).trans rfl
      have z11 : ws.cell? ⟨w5.heap.size, 11, none⟩ = some (.slice A5 p.text.length c5) := (blk_cell HH.out 11).trans rfl
      have hcall := same_calls p p A5 c5 Ap cp ws HCS.out hc5 (Kd.C_below HRP.out HBS.out) hcp (by have := HLT.out; omega)
      rw [decide_eq_true rfl] at hcall
      dsimp only [vWn] at hcall
      go_wp2_with (first | (refine wpList_store_row rfl 30 (.tmp 12) (.tmp 34) rfl w5.heap.size rfl #[.int .i64 p.st, .int .i64 p.ki, .int .i64 p.nu, .int .i64 p.iss, .int .i64 p.unt, .int .i64 p.xlo, .int .i64 p.xhi, .int .i64 p.ylo, .int .i64 p.yhi, .int .i64 p.pri, .bool p.wd, .slice A5 p.text.length c5] rfl 30 #[.int .i64 0, .int .i64 0, .int .i64 0, .int .i64 0, .int .i64 0, .int .i64 0, .int .i64 0, .int .i64 0, .int .i64 0, .int .i64 0, .bool false, .slice none 0 0] HZ rfl ?h1 hi30 ?_; (case h1 => simp [Value.oneCell']); rw [← HWS.out]))
      (with_reducible refine hcall.mono ?_)
      rintro e w6 ⟨rfl, hb⟩
      have hB6 := HBS.out.trans (hb.mono HBS.out.size)
      replace HP := Aside0.mk ((hb.block _ (blk_lt HP.out)).trans HP.out)
      replace HQ := Aside0.mk ((hb.block _ (blk_lt HQ.out)).trans HQ.out)
      replace HC3 := Aside0.mk (Kd.C_below HC3.out hb)
      replace HC4 := Aside0.mk (Kd.C_below HC4.out hb)
      clear hcall hb HH HCS HBS HZ HWS hc5
      clear x0 x1 x2 x3 x4 x5 x6 x7 x8 x9 x10 x11
      clear z0 z1 z2 z3 z4 z5 z6 z7 z8 z9 z10 z11
      have hl600 : (F.length : Int) ≤ 600 := by omega
      go_wp2_with fail
      have hS0 : (fun w' => Below w6.heap.size w6 w') w6.drew := (Below.refl _ _).drew
      have x0 : w6.cell? ⟨gp, 0, none⟩ = some (.int .i64 p.st) := (blk_cell HP.out 0).trans rfl
      have x1 : w6.cell? ⟨gp, 1, none⟩ = some (.int .i64 p.ki) := (blk_cell HP.out 1).trans rfl
      have x2 : w6.cell? ⟨gp, 2, none⟩ = some (.int .i64 p.nu) := (blk_cell HP.out 2).trans rfl
      have x3 : w6.cell? ⟨gp, 3, none⟩ = some (.int .i64 p.iss) := (blk_cell HP.out 3).trans rfl
      have x4 : w6.cell? ⟨gp, 4, none⟩ = some (.int .i64 p.unt) := (blk_cell HP.out 4).trans rfl
      have x5 : w6.cell? ⟨gp, 5, none⟩ = some (.int .i64 p.xlo) := (blk_cell HP.out 5).trans rfl
      have x6 : w6.cell? ⟨gp, 6, none⟩ = some (.int .i64 p.xhi) := (blk_cell HP.out 6).trans rfl
      have x7 : w6.cell? ⟨gp, 7, none⟩ = some (.int .i64 p.ylo) := (blk_cell HP.out 7).trans rfl
      have x8 : w6.cell? ⟨gp, 8, none⟩ = some (.int .i64 p.yhi) := (blk_cell HP.out 8).trans rfl
      have x9 : w6.cell? ⟨gp, 9, none⟩ = some (.int .i64 p.pri) := (blk_cell HP.out 9).trans rfl
      have x10 : w6.cell? ⟨gp, 10, none⟩ = some (.bool p.wd) := (blk_cell HP.out 10).trans rfl
      have x11 : w6.cell? ⟨gp, 11, none⟩ = some (.slice Ap p.text.length cp) := (blk_cell HP.out 11).trans rfl
      have y0 : w6.cell? ⟨gq, 0, none⟩ = some (.int .i64 q.st) := (blk_cell HQ.out 0).trans rfl
      have y1 : w6.cell? ⟨gq, 1, none⟩ = some (.int .i64 q.ki) := (blk_cell HQ.out 1).trans rfl
      have y2 : w6.cell? ⟨gq, 2, none⟩ = some (.int .i64 q.nu) := (blk_cell HQ.out 2).trans rfl
      have y3 : w6.cell? ⟨gq, 3, none⟩ = some (.int .i64 q.iss) := (blk_cell HQ.out 3).trans rfl
      have y4 : w6.cell? ⟨gq, 4, none⟩ = some (.int .i64 q.unt) := (blk_cell HQ.out 4).trans rfl
      have y5 : w6.cell? ⟨gq, 5, none⟩ = some (.int .i64 q.xlo) := (blk_cell HQ.out 5).trans rfl
      have y6 : w6.cell? ⟨gq, 6, none⟩ = some (.int .i64 q.xhi) := (blk_cell HQ.out 6).trans rfl
      have y7 : w6.cell? ⟨gq, 7, none⟩ = some (.int .i64 q.ylo) := (blk_cell HQ.out 7).trans rfl
      have y8 : w6.cell? ⟨gq, 8, none⟩ = some (.int .i64 q.yhi) := (blk_cell HQ.out 8).trans rfl
      have y9 : w6.cell? ⟨gq, 9, none⟩ = some (.int .i64 q.pri) := (blk_cell HQ.out 9).trans rfl
      have y10 : w6.cell? ⟨gq, 10, none⟩ = some (.bool q.wd) := (blk_cell HQ.out 10).trans rfl
      have y11 : w6.cell? ⟨gq, 11, none⟩ = some (.slice Aq q.text.length cq) := (blk_cell HQ.out 11).trans rfl
      refine start_ (n := 15) (S := (fun w' => Below w6.heap.size w6 w')) (ds := []) (Array.replicate 15 false) hmix rfl rfl hS0 (fun hHeld => ?_)
      refine pureS (i := 0) (N := (some 51)) (v := ?_) (a' := ?_) rfl rfl (by kernel_rfl) (fun _ _ _ h => h) (Or.inl ⟨by rfl, ?_⟩) ?_ ?_
      rotate_left
      · intro w'
        go_simp
        with_reducible rfl
      rotate_left
      · simp only [Act.put, List.setIfInBounds_toArray, List.set_cons_zero, List.set_cons_succ, i64_w, i32_w]
        rfl
      refine pureS (i := 1) (N := (some 52)) (v := ?_) (a' := ?_) rfl rfl (by kernel_rfl) (fun _ _ _ h => h) (Or.inl ⟨by rfl, ?_⟩) ?_ ?_
      rotate_left
      · intro w'
        go_simp
        with_reducible rfl
      rotate_left
      · simp only [Act.put, List.setIfInBounds_toArray, List.set_cons_zero, List.set_cons_succ, i64_w, i32_w]
        rfl
      refine pureS (i := 2) (N := (some 53)) (v := ?_) (a' := ?_) rfl rfl (by kernel_rfl) (fun _ _ _ h => h) (Or.inl ⟨by rfl, ?_⟩) ?_ ?_
      rotate_left
      · intro w'
        go_simp
        with_reducible rfl
      rotate_left
      · simp only [Act.put, List.setIfInBounds_toArray, List.set_cons_zero, List.set_cons_succ, i64_w, i32_w]
        rfl
      refine pureS (i := 3) (N := (some 54)) (v := ?_) (a' := ?_) rfl rfl (by kernel_rfl) (fun _ _ _ h => h) (Or.inl ⟨by rfl, ?_⟩) ?_ ?_
      rotate_left
      · intro w'
        go_simp
        with_reducible rfl
      rotate_left
      · simp only [Act.put, List.setIfInBounds_toArray, List.set_cons_zero, List.set_cons_succ, i64_w, i32_w]
        rfl
      refine pureS (i := 4) (N := (some 55)) (v := ?_) (a' := ?_) rfl rfl (by kernel_rfl) (fun _ _ _ h => h) (Or.inl ⟨by rfl, ?_⟩) ?_ ?_
      rotate_left
      · intro w'
        go_simp
        with_reducible rfl
      rotate_left
      · simp only [Act.put, List.setIfInBounds_toArray, List.set_cons_zero, List.set_cons_succ, i64_w, i32_w]
        rfl
      refine pureS (i := 5) (N := (some 56)) (v := ?_) (a' := ?_) rfl rfl (by kernel_rfl) (fun _ _ _ h => h) (Or.inl ⟨by rfl, ?_⟩) ?_ ?_
      rotate_left
      · intro w'
        go_simp
        with_reducible rfl
      rotate_left
      · simp only [Act.put, List.setIfInBounds_toArray, List.set_cons_zero, List.set_cons_succ, i64_w, i32_w]
        rfl
      refine pureS (i := 6) (N := (some 57)) (v := ?_) (a' := ?_) rfl rfl (by kernel_rfl) (fun _ _ _ h => h) (Or.inl ⟨by rfl, ?_⟩) ?_ ?_
      rotate_left
      · intro w'
        go_simp
        with_reducible rfl
      rotate_left
      · simp only [Act.put, List.setIfInBounds_toArray, List.set_cons_zero, List.set_cons_succ, i64_w, i32_w]
        rfl
      have hcl := seamarkref08_Bytes.calls (F.length + 1) A3 c3 F A4 c4 G _ w6.drew (Kd.C_below HC3.out hS0) hc3 (Kd.C_below HC4.out hS0) hc4 (bytes_f F G (by omega))
      rw [HDE.out] at hcl
      refine takeS (i := 8) (N := (some 59)) (v := ?_) (a' := ?_) rfl rfl (by kernel_rfl) (fun _ _ _ h => h) (Or.inl ⟨by rfl, ?_⟩) hHeld ?_ ?_
      rotate_left
      · intro w' hs
        have x0_ := (hs.cell (block_lt_of_cell x0)).trans x0
        have x1_ := (hs.cell (block_lt_of_cell x1)).trans x1
        have x2_ := (hs.cell (block_lt_of_cell x2)).trans x2
        have x3_ := (hs.cell (block_lt_of_cell x3)).trans x3
        have x4_ := (hs.cell (block_lt_of_cell x4)).trans x4
        have x5_ := (hs.cell (block_lt_of_cell x5)).trans x5
        have x6_ := (hs.cell (block_lt_of_cell x6)).trans x6
        have x7_ := (hs.cell (block_lt_of_cell x7)).trans x7
        have x8_ := (hs.cell (block_lt_of_cell x8)).trans x8
        have x9_ := (hs.cell (block_lt_of_cell x9)).trans x9
        have x10_ := (hs.cell (block_lt_of_cell x10)).trans x10
        have x11_ := (hs.cell (block_lt_of_cell x11)).trans x11
        go_simp
        with_reducible rfl
      rotate_left
      · simp only [Act.put, List.setIfInBounds_toArray, List.set_cons_zero, List.set_cons_succ, i64_w, i32_w]
        rfl
      refine takeS (i := 9) (N := (some 60)) (v := ?_) (a' := ?_) rfl rfl (by kernel_rfl) (fun _ _ _ h => h) (Or.inl ⟨by rfl, ?_⟩) hHeld ?_ ?_
      rotate_left
      · intro w' hs
        have y0_ := (hs.cell (block_lt_of_cell y0)).trans y0
        have y1_ := (hs.cell (block_lt_of_cell y1)).trans y1
        have y2_ := (hs.cell (block_lt_of_cell y2)).trans y2
        have y3_ := (hs.cell (block_lt_of_cell y3)).trans y3
        have y4_ := (hs.cell (block_lt_of_cell y4)).trans y4
        have y5_ := (hs.cell (block_lt_of_cell y5)).trans y5
        have y6_ := (hs.cell (block_lt_of_cell y6)).trans y6
        have y7_ := (hs.cell (block_lt_of_cell y7)).trans y7
        have y8_ := (hs.cell (block_lt_of_cell y8)).trans y8
        have y9_ := (hs.cell (block_lt_of_cell y9)).trans y9
        have y10_ := (hs.cell (block_lt_of_cell y10)).trans y10
        have y11_ := (hs.cell (block_lt_of_cell y11)).trans y11
        go_simp
        with_reducible rfl
      rotate_left
      · simp only [Act.put, List.setIfInBounds_toArray, List.set_cons_zero, List.set_cons_succ, i64_w, i32_w]
        rfl
      refine oneS (i := 7) (N := (some 58)) rfl rfl (by kernel_rfl) (by decide) (fun K hK => ?_)
      go_simp
      (with_reducible refine hcl.mono ?_)
      rintro e w7 ⟨rfl, hd⟩
      have hB67 : Below w6.heap.size w6 w7 := hS0.trans ((hd.below).mono hS0.size)
      refine hK.out _ _ hB67 (fun hHeld => ?_)
      clear hK K hcl hd
      have hcl := rsame_calls p q Ap cp Aq cq w7 (Kd.C_below HRP.out (hB6.trans (hB67.mono hB6.size))) hcp (Kd.C_below HRQ.out (hB6.trans (hB67.mono hB6.size))) hcq (by have := HLT.out; omega)
      dsimp only [vWn] at hcl
      refine oneS (i := 10) (N := (some 61)) rfl rfl (by kernel_rfl) (by decide) (fun K hK => ?_)
      go_simp
      (with_reducible refine hcl.mono ?_)
      rintro e w8 ⟨rfl, hd⟩
      have hB68 : Below w6.heap.size w6 w8 := hB67.trans (hd.mono hB67.size)
      refine hK.out _ _ hB68 (fun hHeld => ?_)
      clear hK K hcl hd hB67
      refine pureS (i := 11) (N := (some 62)) (v := ?_) (a' := ?_) rfl rfl (by kernel_rfl) (fun _ _ _ h => h) (Or.inl ⟨by rfl, ?_⟩) ?_ ?_
      rotate_left
      · intro w'
        go_simp
        with_reducible rfl
      rotate_left
      · simp only [Act.put, List.setIfInBounds_toArray, List.set_cons_zero, List.set_cons_succ, i64_w, i32_w]
        rfl
      refine pureS (i := 12) (N := (some 63)) (v := ?_) (a' := ?_) rfl rfl (by kernel_rfl) (fun _ _ _ h => h) (Or.inl ⟨by rfl, ?_⟩) ?_ ?_
      rotate_left
      · intro w'
        go_simp
        with_reducible rfl
      rotate_left
      · simp only [Act.put, List.setIfInBounds_toArray, List.set_cons_zero, List.set_cons_succ, i64_w, i32_w]
        rfl
      refine pureS (i := 13) (N := (some 64)) (v := ?_) (a' := ?_) rfl rfl (by kernel_rfl) (fun _ _ _ h => h) (Or.inl ⟨by rfl, ?_⟩) ?_ ?_
      rotate_left
      · intro w'
        go_simp
        with_reducible rfl
      rotate_left
      · simp only [Act.put, List.setIfInBounds_toArray, List.set_cons_zero, List.set_cons_succ, i64_w, i32_w]
        rfl
      refine pureS (i := 14) (N := (some 7)) (v := ?_) (a' := ?_) rfl rfl (by kernel_rfl) (fun _ _ _ h => h) (Or.inl ⟨by rfl, ?_⟩) ?_ ?_
      rotate_left
      · intro w'
        go_simp
        with_reducible rfl
      rotate_left
      · simp only [Act.put, List.setIfInBounds_toArray, List.set_cons_zero, List.set_cons_succ, i64_w, i32_w]
        rfl
      refine done_ (by kernel_rfl) ?_
      have hB8 := hB6.trans (hB68.mono hB6.size)
      clear hB68 hHeld hS0 HC3 HC4 hc3 hc4 hlen hl600 HP HQ hB6 HDE
      clear x0 x1 x2 x3 x4 x5 x6 x7 x8 x9 x10 x11
      clear y0 y1 y2 y3 y4 y5 y6 y7 y8 y9 y10 y11
      generalize hw8 : w8 = w9 at hB8 ⊢
      clear hw8
      by_cases hb3 : 600 < (b.length : Int)
      · go_wp2_with fail
        go_ret
        exact ⟨rfl, hB8⟩
      obtain ⟨y, er, hrd, hcase⟩ := from_back HUB.out (show b.length < 1000000 by omega)
      have hcall := from_calls Ab cb b y er w9 (Kd.C_below HRB.out hB8) hcb hrd
      clear hrd
      go_wp2_with fail
      (with_reducible refine hcall.mono ?_)
      clear hcall
      rintro e wr ⟨Ay, cy, rfl, hcy, hCy, hby⟩
      have hBy := hB8.trans (hby.mono hB8.size)
      have HZ := World.alloc_heap_new wr (.cells #[.int .i64 0, .int .i64 0, .int .i64 0, .int .i64 0, .int .i64 0, .int .i64 0, .int .i64 0, .int .i64 0, .int .i64 0, .int .i64 0, .bool false, .slice none 0 0] 30)
      have hbs : Below wr.heap.size wr ((wr.alloc (.cells #[.int .i64 0, .int .i64 0, .int .i64 0, .int .i64 0, .int .i64 0, .int .i64 0, .int .i64 0, .int .i64 0, .int .i64 0, .int .i64 0, .bool false, .slice none 0 0] 30)).setRow wr.heap.size #[.int .i64 y.st, .int .i64 y.ki, .int .i64 y.nu, .int .i64 y.iss, .int .i64 y.unt, .int .i64 y.xlo, .int .i64 y.xhi, .int .i64 y.ylo, .int .i64 y.yhi, .int .i64 y.pri, .bool y.wd, .slice Ay y.text.length cy]) := below_setRow ((Below.refl _ _).alloc (Nat.le_refl _) _) (Nat.le_refl _) _
      have HH : Aside0 (((wr.alloc (.cells #[.int .i64 0, .int .i64 0, .int .i64 0, .int .i64 0, .int .i64 0, .int .i64 0, .int .i64 0, .int .i64 0, .int .i64 0, .int .i64 0, .bool false, .slice none 0 0] 30)).setRow wr.heap.size #[.int .i64 y.st, .int .i64 y.ki, .int .i64 y.nu, .int .i64 y.iss, .int .i64 y.unt, .int .i64 y.xlo, .int .i64 y.xhi, .int .i64 y.ylo, .int .i64 y.yhi, .int .i64 y.pri, .bool y.wd, .slice Ay y.text.length cy]).heap[wr.heap.size]? = some (.cells #[.int .i64 y.st, .int .i64 y.ki, .int .i64 y.nu, .int .i64 y.iss, .int .i64 y.unt, .int .i64 y.xlo, .int .i64 y.xhi, .int .i64 y.ylo, .int .i64 y.yhi, .int .i64 y.pri, .bool y.wd, .slice Ay y.text.length cy] 30 (0, 0))) := ⟨setRow_heap _ _ _ _ _ _ HZ⟩
      have HBS := Aside0.mk (hBy.trans (hbs.mono hBy.size))
      have HCS := Aside0.mk (Kd.C_below hCy hbs)
      clear hbs hCy hby hBy
      obtain ⟨ws, hws⟩ : ∃ ws, ws = (wr.alloc (.cells #[.int .i64 0, .int .i64 0, .int .i64 0, .int .i64 0, .int .i64 0, .int .i64 0, .int .i64 0, .int .i64 0, .int .i64 0, .int .i64 0, .bool false, .slice none 0 0] 30)).setRow wr.heap.size #[.int .i64 y.st, .int .i64 y.ki, .int .i64 y.nu, .int .i64 y.iss, .int .i64 y.unt, .int .i64 y.xlo, .int .i64 y.xhi, .int .i64 y.ylo, .int .i64 y.yhi, .int .i64 y.pri, .bool y.wd, .slice Ay y.text.length cy] := ⟨_, rfl⟩
      rw [← hws] at HH HBS HCS
      have HWS := Aside0.mk hws
      clear hws
      rcases hcase with ⟨rfl, hok, hUy, hfr⟩ | ⟨he, hq⟩
      · have hff := bytes_calls y Ay cy _ _ ws HCS.out hcy (bytes_ok hok hUy)
        rw [hfr] at hff
        have HFF := Aside0.mk hff
        have hvv := fun W (hW : Below ws.heap.size ws W) => valid_calls y Ay cy true W (Kd.C_below HCS.out hW) hcy (decide_eq_true hok)
        clear hff hfr hUy hok
        have z0 : ws.cell? ⟨wr.heap.size, 0, none⟩ = some (.int .i64 y.st) := (blk_cell HH.out 0).trans rfl
        have z1 : ws.cell? ⟨wr.heap.size, 1, none⟩ = some (.int .i64 y.ki) := (blk_cell HH.out 1).trans rfl
        have z2 : ws.cell? ⟨wr.heap.size, 2, none⟩ = some (.int .i64 y.nu) := (blk_cell HH.out 2).trans rfl
        have z3 : ws.cell? ⟨wr.heap.size, 3, none⟩ = some (.int .i64 y.iss) := (blk_cell HH.out 3).trans rfl
        have z4 : ws.cell? ⟨wr.heap.size, 4, none⟩ = some (.int .i64 y.unt) := (blk_cell HH.out 4).trans rfl
        have z5 : ws.cell? ⟨wr.heap.size, 5, none⟩ = some (.int .i64 y.xlo) := (blk_cell HH.out 5).trans rfl
        have z6 : ws.cell? ⟨wr.heap.size, 6, none⟩ = some (.int .i64 y.xhi) := (blk_cell HH.out 6).trans rfl
        have z7 : ws.cell? ⟨wr.heap.size, 7, none⟩ = some (.int .i64 y.ylo) := (blk_cell HH.out 7).trans rfl
        have z8 : ws.cell? ⟨wr.heap.size, 8, none⟩ = some (.int .i64 y.yhi) := (blk_cell HH.out 8).trans rfl
        have z9 : ws.cell? ⟨wr.heap.size, 9, none⟩ = some (.int .i64 y.pri) := (blk_cell HH.out 9).trans rfl
        have z10 : ws.cell? ⟨wr.heap.size, 10, none⟩ = some (.bool y.wd) := (blk_cell HH.out 10).trans rfl
        have z11 : ws.cell? ⟨wr.heap.size, 11, none⟩ = some (.slice Ay y.text.length cy) := (blk_cell HH.out 11).trans rfl
        go_wp2_with (first | (refine wpList_store_row rfl 30 (.tmp 14) (.tmp 82) rfl wr.heap.size rfl #[.int .i64 y.st, .int .i64 y.ki, .int .i64 y.nu, .int .i64 y.iss, .int .i64 y.unt, .int .i64 y.xlo, .int .i64 y.xhi, .int .i64 y.ylo, .int .i64 y.yhi, .int .i64 y.pri, .bool y.wd, .slice Ay y.text.length cy] rfl 30 #[.int .i64 0, .int .i64 0, .int .i64 0, .int .i64 0, .int .i64 0, .int .i64 0, .int .i64 0, .int .i64 0, .int .i64 0, .int .i64 0, .bool false, .slice none 0 0] HZ rfl ?h1 hi30 ?_; (case h1 => simp [Value.oneCell']); rw [← HWS.out]))
        (with_reducible refine HFF.out.mono ?_)
        clear HFF
        rintro e wt ⟨At, ct, rfl, hct, hCt, hbt⟩
        have hBt := HBS.out.trans (hbt.mono HBS.out.size)
        have hyy := seamarkref08_Bytes.calls (b.length + 1) At ct b Ab cb b _ wt hCt hct (Kd.C_below HRB.out hBt) hcb (bytes_f b b (by omega))
        rw [decide_eq_true rfl] at hyy
        replace HH := Aside0.mk ((hbt.block _ (blk_lt HH.out)).trans HH.out)
        clear z0 z1 z2 z3 z4 z5 z6 z7 z8 z9 z10 z11
        go_wp2_with fail
        (with_reducible refine hyy.mono ?_)
        rintro e wu ⟨rfl, hd⟩
        have hbu := hbt.trans ((hd.below).mono hbt.size)
        have hcall := hvv wu hbu
        have hBu := HBS.out.trans (hbu.mono HBS.out.size)
        replace HH := Aside0.mk ((hd.below.block _ (blk_lt HH.out)).trans HH.out)
        clear hyy hd hvv hbu hCt hct hbt
        have z0 : wu.cell? ⟨wr.heap.size, 0, none⟩ = some (.int .i64 y.st) := (blk_cell HH.out 0).trans rfl
        have z1 : wu.cell? ⟨wr.heap.size, 1, none⟩ = some (.int .i64 y.ki) := (blk_cell HH.out 1).trans rfl
        have z2 : wu.cell? ⟨wr.heap.size, 2, none⟩ = some (.int .i64 y.nu) := (blk_cell HH.out 2).trans rfl
        have z3 : wu.cell? ⟨wr.heap.size, 3, none⟩ = some (.int .i64 y.iss) := (blk_cell HH.out 3).trans rfl
        have z4 : wu.cell? ⟨wr.heap.size, 4, none⟩ = some (.int .i64 y.unt) := (blk_cell HH.out 4).trans rfl
        have z5 : wu.cell? ⟨wr.heap.size, 5, none⟩ = some (.int .i64 y.xlo) := (blk_cell HH.out 5).trans rfl
        have z6 : wu.cell? ⟨wr.heap.size, 6, none⟩ = some (.int .i64 y.xhi) := (blk_cell HH.out 6).trans rfl
        have z7 : wu.cell? ⟨wr.heap.size, 7, none⟩ = some (.int .i64 y.ylo) := (blk_cell HH.out 7).trans rfl
        have z8 : wu.cell? ⟨wr.heap.size, 8, none⟩ = some (.int .i64 y.yhi) := (blk_cell HH.out 8).trans rfl
        have z9 : wu.cell? ⟨wr.heap.size, 9, none⟩ = some (.int .i64 y.pri) := (blk_cell HH.out 9).trans rfl
        have z10 : wu.cell? ⟨wr.heap.size, 10, none⟩ = some (.bool y.wd) := (blk_cell HH.out 10).trans rfl
        have z11 : wu.cell? ⟨wr.heap.size, 11, none⟩ = some (.slice Ay y.text.length cy) := (blk_cell HH.out 11).trans rfl
        go_wp2_with fail
        (with_reducible refine hcall.mono ?_)
        clear hcall
        rintro e wv ⟨rfl, hbv⟩
        have hBv := hBu.trans (hbv.mono hBu.size)
        clear hbv
        clear z0 z1 z2 z3 z4 z5 z6 z7 z8 z9 z10 z11
        go_wp2_with fail
        go_ret
        exact ⟨rfl, hBv⟩
      · clear hq
        rcases he with rfl | rfl
        all_goals (go_wp2_with (first | (refine wpList_store_row rfl 30 (.tmp 14) (.tmp 82) rfl wr.heap.size rfl #[.int .i64 y.st, .int .i64 y.ki, .int .i64 y.nu, .int .i64 y.iss, .int .i64 y.unt, .int .i64 y.xlo, .int .i64 y.xhi, .int .i64 y.ylo, .int .i64 y.yhi, .int .i64 y.pri, .bool y.wd, .slice Ay y.text.length cy] rfl 30 #[.int .i64 0, .int .i64 0, .int .i64 0, .int .i64 0, .int .i64 0, .int .i64 0, .int .i64 0, .int .i64 0, .int .i64 0, .int .i64 0, .bool false, .slice none 0 0] HZ rfl ?h1 hi30 ?_; (case h1 => simp [Value.oneCell']); rw [← HWS.out])); go_ret; exact ⟨rfl, HBS.out⟩)
    · have hF := bytes_calls p Ap cp _ _ w2 (Kd.C_below HRP.out hB2) hcp (bytes_ok hok HUP.out)
      have hG := fun W (hW : Below w.heap.size w W) => bytes_calls q Aq cq _ _ W (Kd.C_below HRQ.out hW) hcq (bytes_bad hoq 4000)
      have hfb := from_bytes hok HUP.out
      have hlen := (bytes_len hok HUP.out).1
      obtain ⟨F, hFd⟩ : ∃ F, F = enc (intsOf p) := ⟨_, rfl⟩
      rw [← hFd] at hF hfb hlen
      have HFB := Aside0.mk hfb
      clear hfb hFd hok hoq
      go_wp2_with fail
      (with_reducible refine (hF).mono ?_)
      rintro e w3 ⟨A3, c3, rfl, hc3, hC3, hb⟩
      have hB3 : Below w.heap.size w w3 := hB2.trans (hb.mono hB2.size)
      replace HP := Aside0.mk ((hb.block _ (blk_lt HP.out)).trans HP.out)
      replace HQ := Aside0.mk ((hb.block _ (blk_lt HQ.out)).trans HQ.out)
      clear hF hb
      clear x0 x1 x2 x3 x4 x5 x6 x7 x8 x9 x10 x11
      have y0 : w3.cell? ⟨gq, 0, none⟩ = some (.int .i64 q.st) := (blk_cell HQ.out 0).trans rfl
      have y1 : w3.cell? ⟨gq, 1, none⟩ = some (.int .i64 q.ki) := (blk_cell HQ.out 1).trans rfl
      have y2 : w3.cell? ⟨gq, 2, none⟩ = some (.int .i64 q.nu) := (blk_cell HQ.out 2).trans rfl
      have y3 : w3.cell? ⟨gq, 3, none⟩ = some (.int .i64 q.iss) := (blk_cell HQ.out 3).trans rfl
      have y4 : w3.cell? ⟨gq, 4, none⟩ = some (.int .i64 q.unt) := (blk_cell HQ.out 4).trans rfl
      have y5 : w3.cell? ⟨gq, 5, none⟩ = some (.int .i64 q.xlo) := (blk_cell HQ.out 5).trans rfl
      have y6 : w3.cell? ⟨gq, 6, none⟩ = some (.int .i64 q.xhi) := (blk_cell HQ.out 6).trans rfl
      have y7 : w3.cell? ⟨gq, 7, none⟩ = some (.int .i64 q.ylo) := (blk_cell HQ.out 7).trans rfl
      have y8 : w3.cell? ⟨gq, 8, none⟩ = some (.int .i64 q.yhi) := (blk_cell HQ.out 8).trans rfl
      have y9 : w3.cell? ⟨gq, 9, none⟩ = some (.int .i64 q.pri) := (blk_cell HQ.out 9).trans rfl
      have y10 : w3.cell? ⟨gq, 10, none⟩ = some (.bool q.wd) := (blk_cell HQ.out 10).trans rfl
      have y11 : w3.cell? ⟨gq, 11, none⟩ = some (.slice Aq q.text.length cq) := (blk_cell HQ.out 11).trans rfl
      have hG3 := hG w3 hB3
      clear hG
      go_wp2_with fail
      (with_reducible refine (hG3).mono ?_)
      rintro e w4 ⟨A4, c4, rfl, hc4, hC4, hb⟩
      have hB4 : Below w.heap.size w w4 := hB3.trans (hb.mono hB3.size)
      replace HP := Aside0.mk ((hb.block _ (blk_lt HP.out)).trans HP.out)
      replace HQ := Aside0.mk ((hb.block _ (blk_lt HQ.out)).trans HQ.out)
      have hC34 := Kd.C_below hC3 hb
      clear hG3 hb hC3
      clear y0 y1 y2 y3 y4 y5 y6 y7 y8 y9 y10 y11
      have hcall := from_calls A3 c3 F p 0 w4 hC34 hc3 HFB.out
      clear HFB
      go_wp2_with fail
      (with_reducible refine (hcall).mono ?_)
      rintro e w5 ⟨A5, c5, rfl, hc5, hC5, hb⟩
      have hB5 : Below w.heap.size w w5 := hB4.trans (hb.mono hB4.size)
      replace HP := Aside0.mk ((hb.block _ (blk_lt HP.out)).trans HP.out)
      replace HQ := Aside0.mk ((hb.block _ (blk_lt HQ.out)).trans HQ.out)
      have hC35 := Kd.C_below hC34 hb
      have hC45 := Kd.C_below hC4 hb
      clear hcall hb hC34 hC4
      have HZ := World.alloc_heap_new w5 (.cells #[.int .i64 0, .int .i64 0, .int .i64 0, .int .i64 0, .int .i64 0, .int .i64 0, .int .i64 0, .int .i64 0, .int .i64 0, .int .i64 0, .bool false, .slice none 0 0] 30)
      have hbs : Below w5.heap.size w5 ((w5.alloc (.cells #[.int .i64 0, .int .i64 0, .int .i64 0, .int .i64 0, .int .i64 0, .int .i64 0, .int .i64 0, .int .i64 0, .int .i64 0, .int .i64 0, .bool false, .slice none 0 0] 30)).setRow w5.heap.size #[.int .i64 p.st, .int .i64 p.ki, .int .i64 p.nu, .int .i64 p.iss, .int .i64 p.unt, .int .i64 p.xlo, .int .i64 p.xhi, .int .i64 p.ylo, .int .i64 p.yhi, .int .i64 p.pri, .bool p.wd, .slice A5 p.text.length c5]) := below_setRow ((Below.refl _ _).alloc (Nat.le_refl _) _) (Nat.le_refl _) _
      have HH : Aside0 (((w5.alloc (.cells #[.int .i64 0, .int .i64 0, .int .i64 0, .int .i64 0, .int .i64 0, .int .i64 0, .int .i64 0, .int .i64 0, .int .i64 0, .int .i64 0, .bool false, .slice none 0 0] 30)).setRow w5.heap.size #[.int .i64 p.st, .int .i64 p.ki, .int .i64 p.nu, .int .i64 p.iss, .int .i64 p.unt, .int .i64 p.xlo, .int .i64 p.xhi, .int .i64 p.ylo, .int .i64 p.yhi, .int .i64 p.pri, .bool p.wd, .slice A5 p.text.length c5]).heap[w5.heap.size]? = some (.cells #[.int .i64 p.st, .int .i64 p.ki, .int .i64 p.nu, .int .i64 p.iss, .int .i64 p.unt, .int .i64 p.xlo, .int .i64 p.xhi, .int .i64 p.ylo, .int .i64 p.yhi, .int .i64 p.pri, .bool p.wd, .slice A5 p.text.length c5] 30 (0, 0))) := ⟨setRow_heap _ _ _ _ _ _ HZ⟩
      have HBS := Aside0.mk (hB5.trans (hbs.mono hB5.size))
      have HCS := Aside0.mk (Kd.C_below hC5 hbs)
      have HC3 := Aside0.mk (Kd.C_below hC35 hbs)
      have HC4 := Aside0.mk (Kd.C_below hC45 hbs)
      replace HP := Aside0.mk ((hbs.block _ (blk_lt HP.out)).trans HP.out)
      replace HQ := Aside0.mk ((hbs.block _ (blk_lt HQ.out)).trans HQ.out)
      clear hbs hC5 hC35 hC45 hB5
      obtain ⟨ws, hws⟩ : ∃ ws, ws = (w5.alloc (.cells #[.int .i64 0, .int .i64 0, .int .i64 0, .int .i64 0, .int .i64 0, .int .i64 0, .int .i64 0, .int .i64 0, .int .i64 0, .int .i64 0, .bool false, .slice none 0 0] 30)).setRow w5.heap.size #[.int .i64 p.st, .int .i64 p.ki, .int .i64 p.nu, .int .i64 p.iss, .int .i64 p.unt, .int .i64 p.xlo, .int .i64 p.xhi, .int .i64 p.ylo, .int .i64 p.yhi, .int .i64 p.pri, .bool p.wd, .slice A5 p.text.length c5] := ⟨_, rfl⟩
      rw [← hws] at HH HBS HCS HC3 HC4 HP HQ
      have HWS := Aside0.mk hws
      clear hws
      have x0 : ws.cell? ⟨gp, 0, none⟩ = some (.int .i64 p.st) := (blk_cell HP.out 0).trans rfl
      have x1 : ws.cell? ⟨gp, 1, none⟩ = some (.int .i64 p.ki) := (blk_cell HP.out 1).trans rfl
      have x2 : ws.cell? ⟨gp, 2, none⟩ = some (.int .i64 p.nu) := (blk_cell HP.out 2).trans rfl
      have x3 : ws.cell? ⟨gp, 3, none⟩ = some (.int .i64 p.iss) := (blk_cell HP.out 3).trans rfl
      have x4 : ws.cell? ⟨gp, 4, none⟩ = some (.int .i64 p.unt) := (blk_cell HP.out 4).trans rfl
      have x5 : ws.cell? ⟨gp, 5, none⟩ = some (.int .i64 p.xlo) := (blk_cell HP.out 5).trans rfl
      have x6 : ws.cell? ⟨gp, 6, none⟩ = some (.int .i64 p.xhi) := (blk_cell HP.out 6).trans rfl
      have x7 : ws.cell? ⟨gp, 7, none⟩ = some (.int .i64 p.ylo) := (blk_cell HP.out 7).trans rfl
      have x8 : ws.cell? ⟨gp, 8, none⟩ = some (.int .i64 p.yhi) := (blk_cell HP.out 8).trans rfl
      have x9 : ws.cell? ⟨gp, 9, none⟩ = some (.int .i64 p.pri) := (blk_cell HP.out 9).trans rfl
      have x10 : ws.cell? ⟨gp, 10, none⟩ = some (.bool p.wd) := (blk_cell HP.out 10).trans rfl
      have x11 : ws.cell? ⟨gp, 11, none⟩ = some (.slice Ap p.text.length cp) := (blk_cell HP.out 11).trans rfl
      have z0 : ws.cell? ⟨w5.heap.size, 0, none⟩ = some (.int .i64 p.st) := (blk_cell HH.out 0).trans rfl
      have z1 : ws.cell? ⟨w5.heap.size, 1, none⟩ = some (.int .i64 p.ki) := (blk_cell HH.out 1).trans rfl
      have z2 : ws.cell? ⟨w5.heap.size, 2, none⟩ = some (.int .i64 p.nu) := (blk_cell HH.out 2).trans rfl
      have z3 : ws.cell? ⟨w5.heap.size, 3, none⟩ = some (.int .i64 p.iss) := (blk_cell HH.out 3).trans rfl
      have z4 : ws.cell? ⟨w5.heap.size, 4, none⟩ = some (.int .i64 p.unt) := (blk_cell HH.out 4).trans rfl
      have z5 : ws.cell? ⟨w5.heap.size, 5, none⟩ = some (.int .i64 p.xlo) := (blk_cell HH.out 5).trans rfl
      have z6 : ws.cell? ⟨w5.heap.size, 6, none⟩ = some (.int .i64 p.xhi) := (blk_cell HH.out 6).trans rfl
      have z7 : ws.cell? ⟨w5.heap.size, 7, none⟩ = some (.int .i64 p.ylo) := (blk_cell HH.out 7).trans rfl
      have z8 : ws.cell? ⟨w5.heap.size, 8, none⟩ = some (.int .i64 p.yhi) := (blk_cell HH.out 8).trans rfl
      have z9 : ws.cell? ⟨w5.heap.size, 9, none⟩ = some (.int .i64 p.pri) := (blk_cell HH.out 9).trans rfl
      have z10 : ws.cell? ⟨w5.heap.size, 10, none⟩ = some (.bool p.wd) := (blk_cell HH.out 10).trans rfl
      have z11 : ws.cell? ⟨w5.heap.size, 11, none⟩ = some (.slice A5 p.text.length c5) := (blk_cell HH.out 11).trans rfl
      have hcall := same_calls p p A5 c5 Ap cp ws HCS.out hc5 (Kd.C_below HRP.out HBS.out) hcp (by have := HLT.out; omega)
      rw [decide_eq_true rfl] at hcall
      dsimp only [vWn] at hcall
      go_wp2_with (first | (refine wpList_store_row rfl 30 (.tmp 12) (.tmp 34) rfl w5.heap.size rfl #[.int .i64 p.st, .int .i64 p.ki, .int .i64 p.nu, .int .i64 p.iss, .int .i64 p.unt, .int .i64 p.xlo, .int .i64 p.xhi, .int .i64 p.ylo, .int .i64 p.yhi, .int .i64 p.pri, .bool p.wd, .slice A5 p.text.length c5] rfl 30 #[.int .i64 0, .int .i64 0, .int .i64 0, .int .i64 0, .int .i64 0, .int .i64 0, .int .i64 0, .int .i64 0, .int .i64 0, .int .i64 0, .bool false, .slice none 0 0] HZ rfl ?h1 hi30 ?_; (case h1 => simp [Value.oneCell']); rw [← HWS.out]))
      (with_reducible refine hcall.mono ?_)
      rintro e w6 ⟨rfl, hb⟩
      have hB6 := HBS.out.trans (hb.mono HBS.out.size)
      replace HP := Aside0.mk ((hb.block _ (blk_lt HP.out)).trans HP.out)
      replace HQ := Aside0.mk ((hb.block _ (blk_lt HQ.out)).trans HQ.out)
      replace HC3 := Aside0.mk (Kd.C_below HC3.out hb)
      replace HC4 := Aside0.mk (Kd.C_below HC4.out hb)
      clear hcall hb HH HCS HBS HZ HWS hc5
      clear x0 x1 x2 x3 x4 x5 x6 x7 x8 x9 x10 x11
      clear z0 z1 z2 z3 z4 z5 z6 z7 z8 z9 z10 z11
      have hl600 : (F.length : Int) ≤ 600 := by omega
      go_wp2_with fail
      have hS0 : (fun w' => Below w6.heap.size w6 w') w6.drew := (Below.refl _ _).drew
      have x0 : w6.cell? ⟨gp, 0, none⟩ = some (.int .i64 p.st) := (blk_cell HP.out 0).trans rfl
      have x1 : w6.cell? ⟨gp, 1, none⟩ = some (.int .i64 p.ki) := (blk_cell HP.out 1).trans rfl
      have x2 : w6.cell? ⟨gp, 2, none⟩ = some (.int .i64 p.nu) := (blk_cell HP.out 2).trans rfl
      have x3 : w6.cell? ⟨gp, 3, none⟩ = some (.int .i64 p.iss) := (blk_cell HP.out 3).trans rfl
      have x4 : w6.cell? ⟨gp, 4, none⟩ = some (.int .i64 p.unt) := (blk_cell HP.out 4).trans rfl
      have x5 : w6.cell? ⟨gp, 5, none⟩ = some (.int .i64 p.xlo) := (blk_cell HP.out 5).trans rfl
      have x6 : w6.cell? ⟨gp, 6, none⟩ = some (.int .i64 p.xhi) := (blk_cell HP.out 6).trans rfl
      have x7 : w6.cell? ⟨gp, 7, none⟩ = some (.int .i64 p.ylo) := (blk_cell HP.out 7).trans rfl
      have x8 : w6.cell? ⟨gp, 8, none⟩ = some (.int .i64 p.yhi) := (blk_cell HP.out 8).trans rfl
      have x9 : w6.cell? ⟨gp, 9, none⟩ = some (.int .i64 p.pri) := (blk_cell HP.out 9).trans rfl
      have x10 : w6.cell? ⟨gp, 10, none⟩ = some (.bool p.wd) := (blk_cell HP.out 10).trans rfl
      have x11 : w6.cell? ⟨gp, 11, none⟩ = some (.slice Ap p.text.length cp) := (blk_cell HP.out 11).trans rfl
      have y0 : w6.cell? ⟨gq, 0, none⟩ = some (.int .i64 q.st) := (blk_cell HQ.out 0).trans rfl
      have y1 : w6.cell? ⟨gq, 1, none⟩ = some (.int .i64 q.ki) := (blk_cell HQ.out 1).trans rfl
      have y2 : w6.cell? ⟨gq, 2, none⟩ = some (.int .i64 q.nu) := (blk_cell HQ.out 2).trans rfl
      have y3 : w6.cell? ⟨gq, 3, none⟩ = some (.int .i64 q.iss) := (blk_cell HQ.out 3).trans rfl
      have y4 : w6.cell? ⟨gq, 4, none⟩ = some (.int .i64 q.unt) := (blk_cell HQ.out 4).trans rfl
      have y5 : w6.cell? ⟨gq, 5, none⟩ = some (.int .i64 q.xlo) := (blk_cell HQ.out 5).trans rfl
      have y6 : w6.cell? ⟨gq, 6, none⟩ = some (.int .i64 q.xhi) := (blk_cell HQ.out 6).trans rfl
      have y7 : w6.cell? ⟨gq, 7, none⟩ = some (.int .i64 q.ylo) := (blk_cell HQ.out 7).trans rfl
      have y8 : w6.cell? ⟨gq, 8, none⟩ = some (.int .i64 q.yhi) := (blk_cell HQ.out 8).trans rfl
      have y9 : w6.cell? ⟨gq, 9, none⟩ = some (.int .i64 q.pri) := (blk_cell HQ.out 9).trans rfl
      have y10 : w6.cell? ⟨gq, 10, none⟩ = some (.bool q.wd) := (blk_cell HQ.out 10).trans rfl
      have y11 : w6.cell? ⟨gq, 11, none⟩ = some (.slice Aq q.text.length cq) := (blk_cell HQ.out 11).trans rfl
      refine start_ (n := 15) (S := (fun w' => Below w6.heap.size w6 w')) (ds := []) (Array.replicate 15 false) hmix rfl rfl hS0 (fun hHeld => ?_)
      refine pureS (i := 0) (N := (some 51)) (v := ?_) (a' := ?_) rfl rfl (by kernel_rfl) (fun _ _ _ h => h) (Or.inl ⟨by rfl, ?_⟩) ?_ ?_
      rotate_left
      · intro w'
        go_simp
        with_reducible rfl
      rotate_left
      · simp only [Act.put, List.setIfInBounds_toArray, List.set_cons_zero, List.set_cons_succ, i64_w, i32_w]
        rfl
      refine pureS (i := 1) (N := (some 52)) (v := ?_) (a' := ?_) rfl rfl (by kernel_rfl) (fun _ _ _ h => h) (Or.inl ⟨by rfl, ?_⟩) ?_ ?_
      rotate_left
      · intro w'
        go_simp
        with_reducible rfl
      rotate_left
      · simp only [Act.put, List.setIfInBounds_toArray, List.set_cons_zero, List.set_cons_succ, i64_w, i32_w]
        rfl
      refine pureS (i := 2) (N := (some 53)) (v := ?_) (a' := ?_) rfl rfl (by kernel_rfl) (fun _ _ _ h => h) (Or.inl ⟨by rfl, ?_⟩) ?_ ?_
      rotate_left
      · intro w'
        go_simp
        with_reducible rfl
      rotate_left
      · simp only [Act.put, List.setIfInBounds_toArray, List.set_cons_zero, List.set_cons_succ, i64_w, i32_w]
        rfl
      refine pureS (i := 3) (N := (some 54)) (v := ?_) (a' := ?_) rfl rfl (by kernel_rfl) (fun _ _ _ h => h) (Or.inl ⟨by rfl, ?_⟩) ?_ ?_
      rotate_left
      · intro w'
        go_simp
        with_reducible rfl
      rotate_left
      · simp only [Act.put, List.setIfInBounds_toArray, List.set_cons_zero, List.set_cons_succ, i64_w, i32_w]
        rfl
      refine pureS (i := 4) (N := (some 55)) (v := ?_) (a' := ?_) rfl rfl (by kernel_rfl) (fun _ _ _ h => h) (Or.inl ⟨by rfl, ?_⟩) ?_ ?_
      rotate_left
      · intro w'
        go_simp
        with_reducible rfl
      rotate_left
      · simp only [Act.put, List.setIfInBounds_toArray, List.set_cons_zero, List.set_cons_succ, i64_w, i32_w]
        rfl
      refine pureS (i := 5) (N := (some 56)) (v := undef) (a' := ?_) rfl rfl (by kernel_rfl) (fun _ _ _ h => h) (Or.inr ⟨by rfl, rfl⟩) ?_ ?_
      rotate_left
      · simp only [Act.put, List.setIfInBounds_toArray, List.set_cons_zero, List.set_cons_succ, i64_w, i32_w]
        rfl
      refine pureS (i := 6) (N := (some 57)) (v := undef) (a' := ?_) rfl rfl (by kernel_rfl) (fun _ _ _ h => h) (Or.inr ⟨by rfl, rfl⟩) ?_ ?_
      rotate_left
      · simp only [Act.put, List.setIfInBounds_toArray, List.set_cons_zero, List.set_cons_succ, i64_w, i32_w]
        rfl
      refine pureS (i := 7) (N := (some 58)) (v := undef) (a' := ?_) rfl rfl (by kernel_rfl) (fun _ _ _ h => h) (Or.inr ⟨by rfl, rfl⟩) ?_ ?_
      rotate_left
      · simp only [Act.put, List.setIfInBounds_toArray, List.set_cons_zero, List.set_cons_succ, i64_w, i32_w]
        rfl
      refine pureS (i := 8) (N := (some 59)) (v := undef) (a' := ?_) rfl rfl (by kernel_rfl) (fun _ _ _ h => h) (Or.inr ⟨by rfl, rfl⟩) ?_ ?_
      rotate_left
      · simp only [Act.put, List.setIfInBounds_toArray, List.set_cons_zero, List.set_cons_succ, i64_w, i32_w]
        rfl
      refine pureS (i := 9) (N := (some 60)) (v := undef) (a' := ?_) rfl rfl (by kernel_rfl) (fun _ _ _ h => h) (Or.inr ⟨by rfl, rfl⟩) ?_ ?_
      rotate_left
      · simp only [Act.put, List.setIfInBounds_toArray, List.set_cons_zero, List.set_cons_succ, i64_w, i32_w]
        rfl
      refine pureS (i := 10) (N := (some 61)) (v := undef) (a' := ?_) rfl rfl (by kernel_rfl) (fun _ _ _ h => h) (Or.inr ⟨by rfl, rfl⟩) ?_ ?_
      rotate_left
      · simp only [Act.put, List.setIfInBounds_toArray, List.set_cons_zero, List.set_cons_succ, i64_w, i32_w]
        rfl
      refine pureS (i := 11) (N := (some 62)) (v := undef) (a' := ?_) rfl rfl (by kernel_rfl) (fun _ _ _ h => h) (Or.inr ⟨by rfl, rfl⟩) ?_ ?_
      rotate_left
      · simp only [Act.put, List.setIfInBounds_toArray, List.set_cons_zero, List.set_cons_succ, i64_w, i32_w]
        rfl
      refine pureS (i := 12) (N := (some 63)) (v := ?_) (a' := ?_) rfl rfl (by kernel_rfl) (fun _ _ _ h => h) (Or.inl ⟨by rfl, ?_⟩) ?_ ?_
      rotate_left
      · intro w'
        go_simp
        with_reducible rfl
      rotate_left
      · simp only [Act.put, List.setIfInBounds_toArray, List.set_cons_zero, List.set_cons_succ, i64_w, i32_w]
        rfl
      refine pureS (i := 13) (N := (some 64)) (v := ?_) (a' := ?_) rfl rfl (by kernel_rfl) (fun _ _ _ h => h) (Or.inl ⟨by rfl, ?_⟩) ?_ ?_
      rotate_left
      · intro w'
        go_simp
        with_reducible rfl
      rotate_left
      · simp only [Act.put, List.setIfInBounds_toArray, List.set_cons_zero, List.set_cons_succ, i64_w, i32_w]
        rfl
      refine pureS (i := 14) (N := (some 7)) (v := ?_) (a' := ?_) rfl rfl (by kernel_rfl) (fun _ _ _ h => h) (Or.inl ⟨by rfl, ?_⟩) ?_ ?_
      rotate_left
      · intro w'
        go_simp
        with_reducible rfl
      rotate_left
      · simp only [Act.put, List.setIfInBounds_toArray, List.set_cons_zero, List.set_cons_succ, i64_w, i32_w]
        rfl
      refine done_ (by kernel_rfl) ?_
      have hB68 : Below w6.heap.size w6 w6.drew := hS0
      have hB8 := hB6.trans (hB68.mono hB6.size)
      clear hB68 hHeld hS0 HC3 HC4 hc3 hc4 hlen hl600 HP HQ hB6
      clear x0 x1 x2 x3 x4 x5 x6 x7 x8 x9 x10 x11
      clear y0 y1 y2 y3 y4 y5 y6 y7 y8 y9 y10 y11
      generalize hw8 : w6.drew = w9 at hB8 ⊢
      clear hw8
      by_cases hb3 : 600 < (b.length : Int)
      · go_wp2_with fail
        go_ret
        exact ⟨rfl, hB8⟩
      obtain ⟨y, er, hrd, hcase⟩ := from_back HUB.out (show b.length < 1000000 by omega)
      have hcall := from_calls Ab cb b y er w9 (Kd.C_below HRB.out hB8) hcb hrd
      clear hrd
      go_wp2_with fail
      (with_reducible refine hcall.mono ?_)
      clear hcall
      rintro e wr ⟨Ay, cy, rfl, hcy, hCy, hby⟩
      have hBy := hB8.trans (hby.mono hB8.size)
      have HZ := World.alloc_heap_new wr (.cells #[.int .i64 0, .int .i64 0, .int .i64 0, .int .i64 0, .int .i64 0, .int .i64 0, .int .i64 0, .int .i64 0, .int .i64 0, .int .i64 0, .bool false, .slice none 0 0] 30)
      have hbs : Below wr.heap.size wr ((wr.alloc (.cells #[.int .i64 0, .int .i64 0, .int .i64 0, .int .i64 0, .int .i64 0, .int .i64 0, .int .i64 0, .int .i64 0, .int .i64 0, .int .i64 0, .bool false, .slice none 0 0] 30)).setRow wr.heap.size #[.int .i64 y.st, .int .i64 y.ki, .int .i64 y.nu, .int .i64 y.iss, .int .i64 y.unt, .int .i64 y.xlo, .int .i64 y.xhi, .int .i64 y.ylo, .int .i64 y.yhi, .int .i64 y.pri, .bool y.wd, .slice Ay y.text.length cy]) := below_setRow ((Below.refl _ _).alloc (Nat.le_refl _) _) (Nat.le_refl _) _
      have HH : Aside0 (((wr.alloc (.cells #[.int .i64 0, .int .i64 0, .int .i64 0, .int .i64 0, .int .i64 0, .int .i64 0, .int .i64 0, .int .i64 0, .int .i64 0, .int .i64 0, .bool false, .slice none 0 0] 30)).setRow wr.heap.size #[.int .i64 y.st, .int .i64 y.ki, .int .i64 y.nu, .int .i64 y.iss, .int .i64 y.unt, .int .i64 y.xlo, .int .i64 y.xhi, .int .i64 y.ylo, .int .i64 y.yhi, .int .i64 y.pri, .bool y.wd, .slice Ay y.text.length cy]).heap[wr.heap.size]? = some (.cells #[.int .i64 y.st, .int .i64 y.ki, .int .i64 y.nu, .int .i64 y.iss, .int .i64 y.unt, .int .i64 y.xlo, .int .i64 y.xhi, .int .i64 y.ylo, .int .i64 y.yhi, .int .i64 y.pri, .bool y.wd, .slice Ay y.text.length cy] 30 (0, 0))) := ⟨setRow_heap _ _ _ _ _ _ HZ⟩
      have HBS := Aside0.mk (hBy.trans (hbs.mono hBy.size))
      have HCS := Aside0.mk (Kd.C_below hCy hbs)
      clear hbs hCy hby hBy
      obtain ⟨ws, hws⟩ : ∃ ws, ws = (wr.alloc (.cells #[.int .i64 0, .int .i64 0, .int .i64 0, .int .i64 0, .int .i64 0, .int .i64 0, .int .i64 0, .int .i64 0, .int .i64 0, .int .i64 0, .bool false, .slice none 0 0] 30)).setRow wr.heap.size #[.int .i64 y.st, .int .i64 y.ki, .int .i64 y.nu, .int .i64 y.iss, .int .i64 y.unt, .int .i64 y.xlo, .int .i64 y.xhi, .int .i64 y.ylo, .int .i64 y.yhi, .int .i64 y.pri, .bool y.wd, .slice Ay y.text.length cy] := ⟨_, rfl⟩
      rw [← hws] at HH HBS HCS
      have HWS := Aside0.mk hws
      clear hws
      rcases hcase with ⟨rfl, hok, hUy, hfr⟩ | ⟨he, hq⟩
      · have hff := bytes_calls y Ay cy _ _ ws HCS.out hcy (bytes_ok hok hUy)
        rw [hfr] at hff
        have HFF := Aside0.mk hff
        have hvv := fun W (hW : Below ws.heap.size ws W) => valid_calls y Ay cy true W (Kd.C_below HCS.out hW) hcy (decide_eq_true hok)
        clear hff hfr hUy hok
        have z0 : ws.cell? ⟨wr.heap.size, 0, none⟩ = some (.int .i64 y.st) := (blk_cell HH.out 0).trans rfl
        have z1 : ws.cell? ⟨wr.heap.size, 1, none⟩ = some (.int .i64 y.ki) := (blk_cell HH.out 1).trans rfl
        have z2 : ws.cell? ⟨wr.heap.size, 2, none⟩ = some (.int .i64 y.nu) := (blk_cell HH.out 2).trans rfl
        have z3 : ws.cell? ⟨wr.heap.size, 3, none⟩ = some (.int .i64 y.iss) := (blk_cell HH.out 3).trans rfl
        have z4 : ws.cell? ⟨wr.heap.size, 4, none⟩ = some (.int .i64 y.unt) := (blk_cell HH.out 4).trans rfl
        have z5 : ws.cell? ⟨wr.heap.size, 5, none⟩ = some (.int .i64 y.xlo) := (blk_cell HH.out 5).trans rfl
        have z6 : ws.cell? ⟨wr.heap.size, 6, none⟩ = some (.int .i64 y.xhi) := (blk_cell HH.out 6).trans rfl
        have z7 : ws.cell? ⟨wr.heap.size, 7, none⟩ = some (.int .i64 y.ylo) := (blk_cell HH.out 7).trans rfl
        have z8 : ws.cell? ⟨wr.heap.size, 8, none⟩ = some (.int .i64 y.yhi) := (blk_cell HH.out 8).trans rfl
        have z9 : ws.cell? ⟨wr.heap.size, 9, none⟩ = some (.int .i64 y.pri) := (blk_cell HH.out 9).trans rfl
        have z10 : ws.cell? ⟨wr.heap.size, 10, none⟩ = some (.bool y.wd) := (blk_cell HH.out 10).trans rfl
        have z11 : ws.cell? ⟨wr.heap.size, 11, none⟩ = some (.slice Ay y.text.length cy) := (blk_cell HH.out 11).trans rfl
        go_wp2_with (first | (refine wpList_store_row rfl 30 (.tmp 14) (.tmp 82) rfl wr.heap.size rfl #[.int .i64 y.st, .int .i64 y.ki, .int .i64 y.nu, .int .i64 y.iss, .int .i64 y.unt, .int .i64 y.xlo, .int .i64 y.xhi, .int .i64 y.ylo, .int .i64 y.yhi, .int .i64 y.pri, .bool y.wd, .slice Ay y.text.length cy] rfl 30 #[.int .i64 0, .int .i64 0, .int .i64 0, .int .i64 0, .int .i64 0, .int .i64 0, .int .i64 0, .int .i64 0, .int .i64 0, .int .i64 0, .bool false, .slice none 0 0] HZ rfl ?h1 hi30 ?_; (case h1 => simp [Value.oneCell']); rw [← HWS.out]))
        (with_reducible refine HFF.out.mono ?_)
        clear HFF
        rintro e wt ⟨At, ct, rfl, hct, hCt, hbt⟩
        have hBt := HBS.out.trans (hbt.mono HBS.out.size)
        have hyy := seamarkref08_Bytes.calls (b.length + 1) At ct b Ab cb b _ wt hCt hct (Kd.C_below HRB.out hBt) hcb (bytes_f b b (by omega))
        rw [decide_eq_true rfl] at hyy
        replace HH := Aside0.mk ((hbt.block _ (blk_lt HH.out)).trans HH.out)
        clear z0 z1 z2 z3 z4 z5 z6 z7 z8 z9 z10 z11
        go_wp2_with fail
        (with_reducible refine hyy.mono ?_)
        rintro e wu ⟨rfl, hd⟩
        have hbu := hbt.trans ((hd.below).mono hbt.size)
        have hcall := hvv wu hbu
        have hBu := HBS.out.trans (hbu.mono HBS.out.size)
        replace HH := Aside0.mk ((hd.below.block _ (blk_lt HH.out)).trans HH.out)
        clear hyy hd hvv hbu hCt hct hbt
        have z0 : wu.cell? ⟨wr.heap.size, 0, none⟩ = some (.int .i64 y.st) := (blk_cell HH.out 0).trans rfl
        have z1 : wu.cell? ⟨wr.heap.size, 1, none⟩ = some (.int .i64 y.ki) := (blk_cell HH.out 1).trans rfl
        have z2 : wu.cell? ⟨wr.heap.size, 2, none⟩ = some (.int .i64 y.nu) := (blk_cell HH.out 2).trans rfl
        have z3 : wu.cell? ⟨wr.heap.size, 3, none⟩ = some (.int .i64 y.iss) := (blk_cell HH.out 3).trans rfl
        have z4 : wu.cell? ⟨wr.heap.size, 4, none⟩ = some (.int .i64 y.unt) := (blk_cell HH.out 4).trans rfl
        have z5 : wu.cell? ⟨wr.heap.size, 5, none⟩ = some (.int .i64 y.xlo) := (blk_cell HH.out 5).trans rfl
        have z6 : wu.cell? ⟨wr.heap.size, 6, none⟩ = some (.int .i64 y.xhi) := (blk_cell HH.out 6).trans rfl
        have z7 : wu.cell? ⟨wr.heap.size, 7, none⟩ = some (.int .i64 y.ylo) := (blk_cell HH.out 7).trans rfl
        have z8 : wu.cell? ⟨wr.heap.size, 8, none⟩ = some (.int .i64 y.yhi) := (blk_cell HH.out 8).trans rfl
        have z9 : wu.cell? ⟨wr.heap.size, 9, none⟩ = some (.int .i64 y.pri) := (blk_cell HH.out 9).trans rfl
        have z10 : wu.cell? ⟨wr.heap.size, 10, none⟩ = some (.bool y.wd) := (blk_cell HH.out 10).trans rfl
        have z11 : wu.cell? ⟨wr.heap.size, 11, none⟩ = some (.slice Ay y.text.length cy) := (blk_cell HH.out 11).trans rfl
        go_wp2_with fail
        (with_reducible refine hcall.mono ?_)
        clear hcall
        rintro e wv ⟨rfl, hbv⟩
        have hBv := hBu.trans (hbv.mono hBu.size)
        clear hbv
        clear z0 z1 z2 z3 z4 z5 z6 z7 z8 z9 z10 z11
        go_wp2_with fail
        go_ret
        exact ⟨rfl, hBv⟩
      · clear hq
        rcases he with rfl | rfl
        all_goals (go_wp2_with (first | (refine wpList_store_row rfl 30 (.tmp 14) (.tmp 82) rfl wr.heap.size rfl #[.int .i64 y.st, .int .i64 y.ki, .int .i64 y.nu, .int .i64 y.iss, .int .i64 y.unt, .int .i64 y.xlo, .int .i64 y.xhi, .int .i64 y.ylo, .int .i64 y.yhi, .int .i64 y.pri, .bool y.wd, .slice Ay y.text.length cy] rfl 30 #[.int .i64 0, .int .i64 0, .int .i64 0, .int .i64 0, .int .i64 0, .int .i64 0, .int .i64 0, .int .i64 0, .int .i64 0, .int .i64 0, .bool false, .slice none 0 0] HZ rfl ?h1 hi30 ?_; (case h1 => simp [Value.oneCell']); rw [← HWS.out])); go_ret; exact ⟨rfl, HBS.out⟩)
  · obtain ⟨G, eG, hGe⟩ := bytes_any q HUQ.out
    have hF := bytes_calls p Ap cp _ _ w2 (Kd.C_below HRP.out hB2) hcp (bytes_bad hok 4000)
    have hG := fun W (hW : Below w.heap.size w W) => bytes_calls q Aq cq _ _ W (Kd.C_below HRQ.out hW) hcq hGe
    have hV := fun W (hW : Below w.heap.size w W) => valid_calls p Ap cp false W (Kd.C_below HRP.out hW) hcp (decide_eq_false hok)
    clear hGe hok
    go_wp2_with fail
    (with_reducible refine (hF).mono ?_)
    rintro e w3 ⟨A3, c3, rfl, hc3, hC3, hb⟩
    have hB3 : Below w.heap.size w w3 := hB2.trans (hb.mono hB2.size)
    replace HP := Aside0.mk ((hb.block _ (blk_lt HP.out)).trans HP.out)
    replace HQ := Aside0.mk ((hb.block _ (blk_lt HQ.out)).trans HQ.out)
    clear hF hb hc3 hC3
    clear x0 x1 x2 x3 x4 x5 x6 x7 x8 x9 x10 x11
    have y0 : w3.cell? ⟨gq, 0, none⟩ = some (.int .i64 q.st) := (blk_cell HQ.out 0).trans rfl
    have y1 : w3.cell? ⟨gq, 1, none⟩ = some (.int .i64 q.ki) := (blk_cell HQ.out 1).trans rfl
    have y2 : w3.cell? ⟨gq, 2, none⟩ = some (.int .i64 q.nu) := (blk_cell HQ.out 2).trans rfl
    have y3 : w3.cell? ⟨gq, 3, none⟩ = some (.int .i64 q.iss) := (blk_cell HQ.out 3).trans rfl
    have y4 : w3.cell? ⟨gq, 4, none⟩ = some (.int .i64 q.unt) := (blk_cell HQ.out 4).trans rfl
    have y5 : w3.cell? ⟨gq, 5, none⟩ = some (.int .i64 q.xlo) := (blk_cell HQ.out 5).trans rfl
    have y6 : w3.cell? ⟨gq, 6, none⟩ = some (.int .i64 q.xhi) := (blk_cell HQ.out 6).trans rfl
    have y7 : w3.cell? ⟨gq, 7, none⟩ = some (.int .i64 q.ylo) := (blk_cell HQ.out 7).trans rfl
    have y8 : w3.cell? ⟨gq, 8, none⟩ = some (.int .i64 q.yhi) := (blk_cell HQ.out 8).trans rfl
    have y9 : w3.cell? ⟨gq, 9, none⟩ = some (.int .i64 q.pri) := (blk_cell HQ.out 9).trans rfl
    have y10 : w3.cell? ⟨gq, 10, none⟩ = some (.bool q.wd) := (blk_cell HQ.out 10).trans rfl
    have y11 : w3.cell? ⟨gq, 11, none⟩ = some (.slice Aq q.text.length cq) := (blk_cell HQ.out 11).trans rfl
    have hG3 := hG w3 hB3
    clear hG
    go_wp2_with fail
    (with_reducible refine (hG3).mono ?_)
    rintro e w4 ⟨A4, c4, rfl, hc4, hC4, hb⟩
    have hB4 : Below w.heap.size w w4 := hB3.trans (hb.mono hB3.size)
    replace HP := Aside0.mk ((hb.block _ (blk_lt HP.out)).trans HP.out)
    replace HQ := Aside0.mk ((hb.block _ (blk_lt HQ.out)).trans HQ.out)
    have hcall := hV w4 hB4
    clear hG3 hb hV hc4 hC4
    clear y0 y1 y2 y3 y4 y5 y6 y7 y8 y9 y10 y11
    have x0 : w4.cell? ⟨gp, 0, none⟩ = some (.int .i64 p.st) := (blk_cell HP.out 0).trans rfl
    have x1 : w4.cell? ⟨gp, 1, none⟩ = some (.int .i64 p.ki) := (blk_cell HP.out 1).trans rfl
    have x2 : w4.cell? ⟨gp, 2, none⟩ = some (.int .i64 p.nu) := (blk_cell HP.out 2).trans rfl
    have x3 : w4.cell? ⟨gp, 3, none⟩ = some (.int .i64 p.iss) := (blk_cell HP.out 3).trans rfl
    have x4 : w4.cell? ⟨gp, 4, none⟩ = some (.int .i64 p.unt) := (blk_cell HP.out 4).trans rfl
    have x5 : w4.cell? ⟨gp, 5, none⟩ = some (.int .i64 p.xlo) := (blk_cell HP.out 5).trans rfl
    have x6 : w4.cell? ⟨gp, 6, none⟩ = some (.int .i64 p.xhi) := (blk_cell HP.out 6).trans rfl
    have x7 : w4.cell? ⟨gp, 7, none⟩ = some (.int .i64 p.ylo) := (blk_cell HP.out 7).trans rfl
    have x8 : w4.cell? ⟨gp, 8, none⟩ = some (.int .i64 p.yhi) := (blk_cell HP.out 8).trans rfl
    have x9 : w4.cell? ⟨gp, 9, none⟩ = some (.int .i64 p.pri) := (blk_cell HP.out 9).trans rfl
    have x10 : w4.cell? ⟨gp, 10, none⟩ = some (.bool p.wd) := (blk_cell HP.out 10).trans rfl
    have x11 : w4.cell? ⟨gp, 11, none⟩ = some (.slice Ap p.text.length cp) := (blk_cell HP.out 11).trans rfl
    go_wp2_with fail
    (with_reducible refine (hcall).mono ?_)
    rintro e w5 ⟨rfl, hb⟩
    have hB5 : Below w.heap.size w w5 := hB4.trans (hb.mono hB4.size)
    clear hcall hb HP HQ
    clear x0 x1 x2 x3 x4 x5 x6 x7 x8 x9 x10 x11
    by_cases hb3 : 600 < (b.length : Int)
    · go_wp2_with fail
      go_ret
      exact ⟨rfl, hB5⟩
    obtain ⟨y, er, hrd, hcase⟩ := from_back HUB.out (show b.length < 1000000 by omega)
    have hcall := from_calls Ab cb b y er w5 (Kd.C_below HRB.out hB5) hcb hrd
    clear hrd
    go_wp2_with fail
    (with_reducible refine hcall.mono ?_)
    clear hcall
    rintro e wr ⟨Ay, cy, rfl, hcy, hCy, hby⟩
    have hBy := hB5.trans (hby.mono hB5.size)
    have HZ := World.alloc_heap_new wr (.cells #[.int .i64 0, .int .i64 0, .int .i64 0, .int .i64 0, .int .i64 0, .int .i64 0, .int .i64 0, .int .i64 0, .int .i64 0, .int .i64 0, .bool false, .slice none 0 0] 30)
    have hbs : Below wr.heap.size wr ((wr.alloc (.cells #[.int .i64 0, .int .i64 0, .int .i64 0, .int .i64 0, .int .i64 0, .int .i64 0, .int .i64 0, .int .i64 0, .int .i64 0, .int .i64 0, .bool false, .slice none 0 0] 30)).setRow wr.heap.size #[.int .i64 y.st, .int .i64 y.ki, .int .i64 y.nu, .int .i64 y.iss, .int .i64 y.unt, .int .i64 y.xlo, .int .i64 y.xhi, .int .i64 y.ylo, .int .i64 y.yhi, .int .i64 y.pri, .bool y.wd, .slice Ay y.text.length cy]) := below_setRow ((Below.refl _ _).alloc (Nat.le_refl _) _) (Nat.le_refl _) _
    have HH : Aside0 (((wr.alloc (.cells #[.int .i64 0, .int .i64 0, .int .i64 0, .int .i64 0, .int .i64 0, .int .i64 0, .int .i64 0, .int .i64 0, .int .i64 0, .int .i64 0, .bool false, .slice none 0 0] 30)).setRow wr.heap.size #[.int .i64 y.st, .int .i64 y.ki, .int .i64 y.nu, .int .i64 y.iss, .int .i64 y.unt, .int .i64 y.xlo, .int .i64 y.xhi, .int .i64 y.ylo, .int .i64 y.yhi, .int .i64 y.pri, .bool y.wd, .slice Ay y.text.length cy]).heap[wr.heap.size]? = some (.cells #[.int .i64 y.st, .int .i64 y.ki, .int .i64 y.nu, .int .i64 y.iss, .int .i64 y.unt, .int .i64 y.xlo, .int .i64 y.xhi, .int .i64 y.ylo, .int .i64 y.yhi, .int .i64 y.pri, .bool y.wd, .slice Ay y.text.length cy] 30 (0, 0))) := ⟨setRow_heap _ _ _ _ _ _ HZ⟩
    have HBS := Aside0.mk (hBy.trans (hbs.mono hBy.size))
    have HCS := Aside0.mk (Kd.C_below hCy hbs)
    clear hbs hCy hby hBy
    obtain ⟨ws, hws⟩ : ∃ ws, ws = (wr.alloc (.cells #[.int .i64 0, .int .i64 0, .int .i64 0, .int .i64 0, .int .i64 0, .int .i64 0, .int .i64 0, .int .i64 0, .int .i64 0, .int .i64 0, .bool false, .slice none 0 0] 30)).setRow wr.heap.size #[.int .i64 y.st, .int .i64 y.ki, .int .i64 y.nu, .int .i64 y.iss, .int .i64 y.unt, .int .i64 y.xlo, .int .i64 y.xhi, .int .i64 y.ylo, .int .i64 y.yhi, .int .i64 y.pri, .bool y.wd, .slice Ay y.text.length cy] := ⟨_, rfl⟩
    rw [← hws] at HH HBS HCS
    have HWS := Aside0.mk hws
    clear hws
    rcases hcase with ⟨rfl, hok, hUy, hfr⟩ | ⟨he, hq⟩
    · have hff := bytes_calls y Ay cy _ _ ws HCS.out hcy (bytes_ok hok hUy)
      rw [hfr] at hff
      have HFF := Aside0.mk hff
      have hvv := fun W (hW : Below ws.heap.size ws W) => valid_calls y Ay cy true W (Kd.C_below HCS.out hW) hcy (decide_eq_true hok)
      clear hff hfr hUy hok
      have z0 : ws.cell? ⟨wr.heap.size, 0, none⟩ = some (.int .i64 y.st) := (blk_cell HH.out 0).trans rfl
      have z1 : ws.cell? ⟨wr.heap.size, 1, none⟩ = some (.int .i64 y.ki) := (blk_cell HH.out 1).trans rfl
      have z2 : ws.cell? ⟨wr.heap.size, 2, none⟩ = some (.int .i64 y.nu) := (blk_cell HH.out 2).trans rfl
      have z3 : ws.cell? ⟨wr.heap.size, 3, none⟩ = some (.int .i64 y.iss) := (blk_cell HH.out 3).trans rfl
      have z4 : ws.cell? ⟨wr.heap.size, 4, none⟩ = some (.int .i64 y.unt) := (blk_cell HH.out 4).trans rfl
      have z5 : ws.cell? ⟨wr.heap.size, 5, none⟩ = some (.int .i64 y.xlo) := (blk_cell HH.out 5).trans rfl
      have z6 : ws.cell? ⟨wr.heap.size, 6, none⟩ = some (.int .i64 y.xhi) := (blk_cell HH.out 6).trans rfl
      have z7 : ws.cell? ⟨wr.heap.size, 7, none⟩ = some (.int .i64 y.ylo) := (blk_cell HH.out 7).trans rfl
      have z8 : ws.cell? ⟨wr.heap.size, 8, none⟩ = some (.int .i64 y.yhi) := (blk_cell HH.out 8).trans rfl
      have z9 : ws.cell? ⟨wr.heap.size, 9, none⟩ = some (.int .i64 y.pri) := (blk_cell HH.out 9).trans rfl
      have z10 : ws.cell? ⟨wr.heap.size, 10, none⟩ = some (.bool y.wd) := (blk_cell HH.out 10).trans rfl
      have z11 : ws.cell? ⟨wr.heap.size, 11, none⟩ = some (.slice Ay y.text.length cy) := (blk_cell HH.out 11).trans rfl
      go_wp2_with (first | (refine wpList_store_row rfl 30 (.tmp 14) (.tmp 82) rfl wr.heap.size rfl #[.int .i64 y.st, .int .i64 y.ki, .int .i64 y.nu, .int .i64 y.iss, .int .i64 y.unt, .int .i64 y.xlo, .int .i64 y.xhi, .int .i64 y.ylo, .int .i64 y.yhi, .int .i64 y.pri, .bool y.wd, .slice Ay y.text.length cy] rfl 30 #[.int .i64 0, .int .i64 0, .int .i64 0, .int .i64 0, .int .i64 0, .int .i64 0, .int .i64 0, .int .i64 0, .int .i64 0, .int .i64 0, .bool false, .slice none 0 0] HZ rfl ?h1 hi30 ?_; (case h1 => simp [Value.oneCell']); rw [← HWS.out]))
      (with_reducible refine HFF.out.mono ?_)
      clear HFF
      rintro e wt ⟨At, ct, rfl, hct, hCt, hbt⟩
      have hBt := HBS.out.trans (hbt.mono HBS.out.size)
      have hyy := seamarkref08_Bytes.calls (b.length + 1) At ct b Ab cb b _ wt hCt hct (Kd.C_below HRB.out hBt) hcb (bytes_f b b (by omega))
      rw [decide_eq_true rfl] at hyy
      replace HH := Aside0.mk ((hbt.block _ (blk_lt HH.out)).trans HH.out)
      clear z0 z1 z2 z3 z4 z5 z6 z7 z8 z9 z10 z11
      go_wp2_with fail
      (with_reducible refine hyy.mono ?_)
      rintro e wu ⟨rfl, hd⟩
      have hbu := hbt.trans ((hd.below).mono hbt.size)
      have hcall := hvv wu hbu
      have hBu := HBS.out.trans (hbu.mono HBS.out.size)
      replace HH := Aside0.mk ((hd.below.block _ (blk_lt HH.out)).trans HH.out)
      clear hyy hd hvv hbu hCt hct hbt
      have z0 : wu.cell? ⟨wr.heap.size, 0, none⟩ = some (.int .i64 y.st) := (blk_cell HH.out 0).trans rfl
      have z1 : wu.cell? ⟨wr.heap.size, 1, none⟩ = some (.int .i64 y.ki) := (blk_cell HH.out 1).trans rfl
      have z2 : wu.cell? ⟨wr.heap.size, 2, none⟩ = some (.int .i64 y.nu) := (blk_cell HH.out 2).trans rfl
      have z3 : wu.cell? ⟨wr.heap.size, 3, none⟩ = some (.int .i64 y.iss) := (blk_cell HH.out 3).trans rfl
      have z4 : wu.cell? ⟨wr.heap.size, 4, none⟩ = some (.int .i64 y.unt) := (blk_cell HH.out 4).trans rfl
      have z5 : wu.cell? ⟨wr.heap.size, 5, none⟩ = some (.int .i64 y.xlo) := (blk_cell HH.out 5).trans rfl
      have z6 : wu.cell? ⟨wr.heap.size, 6, none⟩ = some (.int .i64 y.xhi) := (blk_cell HH.out 6).trans rfl
      have z7 : wu.cell? ⟨wr.heap.size, 7, none⟩ = some (.int .i64 y.ylo) := (blk_cell HH.out 7).trans rfl
      have z8 : wu.cell? ⟨wr.heap.size, 8, none⟩ = some (.int .i64 y.yhi) := (blk_cell HH.out 8).trans rfl
      have z9 : wu.cell? ⟨wr.heap.size, 9, none⟩ = some (.int .i64 y.pri) := (blk_cell HH.out 9).trans rfl
      have z10 : wu.cell? ⟨wr.heap.size, 10, none⟩ = some (.bool y.wd) := (blk_cell HH.out 10).trans rfl
      have z11 : wu.cell? ⟨wr.heap.size, 11, none⟩ = some (.slice Ay y.text.length cy) := (blk_cell HH.out 11).trans rfl
      go_wp2_with fail
      (with_reducible refine hcall.mono ?_)
      clear hcall
      rintro e wv ⟨rfl, hbv⟩
      have hBv := hBu.trans (hbv.mono hBu.size)
      clear hbv
      clear z0 z1 z2 z3 z4 z5 z6 z7 z8 z9 z10 z11
      go_wp2_with fail
      go_ret
      exact ⟨rfl, hBv⟩
    · clear hq
      rcases he with rfl | rfl
      all_goals (go_wp2_with (first | (refine wpList_store_row rfl 30 (.tmp 14) (.tmp 82) rfl wr.heap.size rfl #[.int .i64 y.st, .int .i64 y.ki, .int .i64 y.nu, .int .i64 y.iss, .int .i64 y.unt, .int .i64 y.xlo, .int .i64 y.xhi, .int .i64 y.ylo, .int .i64 y.yhi, .int .i64 y.pri, .bool y.wd, .slice Ay y.text.length cy] rfl 30 #[.int .i64 0, .int .i64 0, .int .i64 0, .int .i64 0, .int .i64 0, .int .i64 0, .int .i64 0, .int .i64 0, .int .i64 0, .int .i64 0, .bool false, .slice none 0 0] HZ rfl ?h1 hi30 ?_; (case h1 => simp [Value.oneCell']); rw [← HWS.out])); go_ret; exact ⟨rfl, HBS.out⟩)
end Go.Proofs.YthiealhmcfdakaaH
end
section
namespace Go.Proofs.Ythiealhmcfdakaa.pieceBack
open Go.ChangeShapes Go.WideShapes Go.ChangeAt Go.RowKit
open Go.ChangeMaps (open_string shut_string)
open Go.Proofs.YthiealhmcfdakaaH Go.Proofs.YthiealhmcfdakaaM
set_option linter.unusedVariables false
theorem own : ownKnob Try.prog.godebug = none := by kernel_rfl
theorem laidOut : laidOutB Try.prog = true := by kernel_rfl
set_option maxHeartbeats 4000000 in
set_option maxRecDepth 100000 in
theorem lifted (os : Os) (started : os.Started) (H : Type) (enc : TypeId × Value → H) :
    ReturnsInHanded {} Try.checked os 3 .any (Rows.pieceBackSpec.pre6 enc Try.prog Try.f3 Rows.pieceBackRow.domain false) (Rows.pieceBackSpec.post enc Try.prog Try.f3 false true false false) := by
  refine returnsInHanded_of_change_sized (C := Try.checked) own started (by kernel_rfl) Try.func3
    (ChangeSpec.witness6 (enc := enc) (C := Try.checked) false ⟨#[], #[.agg #[.int .i64 0, .int .i64 0, .int .i64 0, .int .i64 0, .int .i64 0, .int .i64 0, .int .i64 0, .int .i64 0, .int .i64 0, .int .i64 0, .bool false, .slice none 0 0], .agg #[.int .i64 0, .int .i64 0, .int .i64 0, .int .i64 0, .int .i64 0, .int .i64 0, .int .i64 0, .int .i64 0, .int .i64 0, .int .i64 0, .bool false, .slice none 0 0], .slice none 0 0], []⟩ 8 (by kernel_rfl) (by kernel_rfl) (by kernel_rfl) (by kernel_rfl)) ?_
  intro W base args ds gs before hval0 hW hcnd hsz0 _
  have hsz : (DataW.weightsEach Try.prog (Try.f3.params.toList ++ Rows.pieceBackSpec.plain.varTypes Try.prog) (ds ++ gs)).all (· ≤ reachBytes) = true := hsz0
  have hval : ∀ (j : Nat) t v, Try.f3.params[j]? = some t → args[j]? = some v → Value.okWide Try.prog W .any base t v := hval0
  have hW' := hW
  obtain ⟨p, q, hA0, hV, rfl, hfz, hnd⟩ := hW
  have hA : DataW.TrodAll enc Try.prog W 0 (fun _ => true) true Try.f3.params.toList args.toList ds p := hA0
  rw [Try.params3] at hA hval hsz
  obtain ⟨v0, vs0, d0, ds0, p0, q0, hargs, rfl, rfl, h0, r0⟩ := trodAll_cons hA
  obtain ⟨v1, vs1, d1, ds1, p1, q1, rfl, rfl, rfl, h1, r1⟩ := trodAll_cons r0
  obtain ⟨v2, vs2, d2, ds2, p2, q2, rfl, rfl, rfl, h2, r2⟩ := trodAll_cons r1
  obtain ⟨rfl, rfl, rfl⟩ := trodAll_nil r2
  obtain rfl : args = #[v0, v1, v2] := by cases args; simp_all
  obtain ⟨rfl, rfl⟩ := trodVars_none hV
  have k0 := h0
  have lt0 : ∀ x ∈ p0, x.block < W.heap.size := by obtain ⟨m, hm⟩ := k0; exact DataW.trod_lt m _ _ _ hm
  obtain ⟨cs0, rfl, hz0⟩ := okWide_struct Try.underlying30 (hval 0 30 v0 rfl rfl)
  obtain ⟨l0⟩ := cs0
  obtain ⟨fuel0, hf0⟩ := h0
  obtain ⟨x0, A0, c0, hcs0, hc0, hC0, hU0⟩ := open_warn hf0
  have hcs0' : l0 = _ := hcs0
  subst hcs0'
  have k1 := h1
  have lt1 : ∀ x ∈ p1, x.block < W.heap.size := by obtain ⟨m, hm⟩ := k1; exact DataW.trod_lt m _ _ _ hm
  obtain ⟨cs1, rfl, hz1⟩ := okWide_struct Try.underlying30 (hval 1 30 v1 rfl rfl)
  obtain ⟨l1⟩ := cs1
  obtain ⟨fuel1, hf1⟩ := h1
  obtain ⟨x1, A1, c1, hcs1, hc1, hC1, hU1⟩ := open_warn hf1
  have hcs1' : l1 = _ := hcs1
  subst hcs1'
  have k2 := h2
  have lt2 : ∀ x ∈ p2, x.block < W.heap.size := by obtain ⟨m, hm⟩ := k2; exact DataW.trod_lt m _ _ _ hm
  obtain ⟨b2, n2, m2, rfl⟩ := okWide_slice Try.underlying28 (hval 2 28 v2 rfl rfl)
  obtain ⟨fuel2, hf2⟩ := h2
  obtain ⟨A2, c2, x2, hcs2, hc2, hC2, hU2⟩ := open_u8s hf2
  have hcs2' : [Value.slice b2 n2 m2] = _ := hcs2
  simp only [List.cons.injEq, Value.slice.injEq, and_true] at hcs2'
  obtain ⟨rfl, rfl, rfl⟩ := hcs2'
  clear hA0 hval0 hsz0 hsz
  refine (back_walk x0 _ _ x1 _ _ x2 _ _ W hC0 hc0 hC1 hc1 hC2 hc2 hU0 hU1 hU2).mono fun e W' ⟨he, bel⟩ => ?_
  subst he
  exact ⟨_, rfl, _, _, _, [], _, [], hW', trodAll_mk1 (shut_bool Try.underlying4 _), (trodAll_cons_mk (Below.trod laidOut (by kernel_rfl) (of_decide_eq_true (by kernel_rfl)) k0 bel lt0) (trodAll_cons_mk (Below.trod laidOut (by kernel_rfl) (of_decide_eq_true (by kernel_rfl)) k1 bel lt1) (trodAll_cons_mk (Below.trod laidOut (by kernel_rfl) (of_decide_eq_true (by kernel_rfl)) k2 bel lt2) trodAll_mk0))), rfl, bel.frame _, fun h => by cases h⟩
theorem over : Rows.pieceBackRow.holds Try.pinned (OpenSpec.ofChange Rows.pieceBackSpec) :=
  OpenClaim.holds_of_wide 3 Try.f3 rfl rfl rfl rfl rfl rfl rfl ⟨rfl, rfl, rfl, rfl, rfl⟩ rfl rfl rfl rfl rfl (by kernel_rfl) Try.func3 (by kernel_rfl)
    (of_decide_eq_true (by kernel_rfl)) (by unfold Func.isWrapper; first | (rw [if_pos (by decide +kernel)]; kernel_rfl) | (rw [if_neg (by decide +kernel)]; exact ⟨rfl, rfl⟩))
    (fun os started H enc _ => lifted os started H enc)
theorem proved : Rows.PieceBackSaid := over
#print axioms proved
end Go.Proofs.Ythiealhmcfdakaa.pieceBack
namespace Go.Proofs.Ythiealhmcfdakaa
theorem pieceBack_holds : Rows.PieceBackSaid := pieceBack.proved
end Go.Proofs.Ythiealhmcfdakaa
end
