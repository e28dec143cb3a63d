/- Contracts of codec's helpers: a copy of bytes; a list cut behind the first last digit. -/
import Derived.Test.YtonhinepgkommaaHCodec
import Derived.Test.YtonhinepgkommaaWWords
import Derived.Test.YtonhinepgkommaaWLast
import Derived.Test.YtonhinepgkommaaWMore
import Derived.WalkSpells
set_option linter.unusedVariables false
set_option linter.unusedSimpArgs false
namespace Go.Proofs.YtonhinepgkommaaH
open Go Go.RowKit Go.Proofs.YtonhinepgkommaaW.PrintWords Go.Proofs.YtonhinepgkommaaW.PrintLast

theorem info_u8 : (Try.prog.info? 5).map (fun i => (i.zero, i.size, i.bytes)) = some (some (.int .u8 0), 1, 1) := by kernel_rfl

theorem R_lit0 {α : Type} (d : Kd α) (e : Nat) (w : World) : d.R e (w.alloc (.cells #[] e)) w.heap.size (fun _ => True) (.slice (some ⟨w.heap.size, 0, none⟩) 0 0) [] :=
  ⟨fun _ _ => trivial, [], by simpa using World.ownsRow_made (e := e) (size := d.sz) w #[] 0 (Nat.le_refl _) (by decide) (by simp), Reps.none _ _⟩

def bytes_Clone.f (l0 : List Int) : Option (List Int) := if l0.length < 140737488355328 then some l0 else none

set_option maxHeartbeats 1000000 in
theorem bytes_Clone.calls (A0 : Option Addr) (c0 : Nat) (l0 : List Int) (r : List Int) (w : World) (hr0 : Kd.C (Kd.int .u8) w A0 l0.length l0) (hc0 : l0.length ≤ c0) (h : bytes_Clone.f l0 = some r) :
    Calls Try.prog 31 #[.slice A0 l0.length c0] w fun e w' => ∃ v0_ : Value, e = .returned v0_ ∧ Kd.R (Kd.int .u8) 5 w' w.heap.size (fun _ => True) v0_ r ∧ Below w.heap.size w w' := by
  unfold bytes_Clone.f at h
  by_cases hl : l0.length < 140737488355328
  case neg => rw [if_neg hl] at h; cases h
  rw [if_pos hl] at h
  obtain rfl := Option.some.inj h
  clear h
  have HR := Aside0.mk hr0
  clear hr0
  cases A0 with
  | none =>
    have h0 : l0 = [] := by
      have h2 := HR.out.2.2
      by_cases hp : 0 < l0.length
      · obtain ⟨ad, e, _⟩ := h2 hp
        cases e
      · exact List.eq_nil_of_length_eq_zero (by omega)
    subst h0
    have he := fun wx => Lib.run_eql_slice_nil (P := Try.prog) (w := wx)
    go_enter Try.func31, Try.ntmps31
    go_wp2_with fail
    go_ret
    exact ⟨_, rfl, Kd.R_nil _ _ _ _ _, Below.refl _ _⟩
  | some ad =>
    have he := fun wx n' c' => Lib.run_eql_slice_nil (P := Try.prog) wx 23 5 (some ad) l0.length c0 n' c' Try.underlying23
    go_enter Try.func31, Try.ntmps31
    have HB1 : Aside0 (Below w.heap.size w (w.alloc (.cells #[] 5))) := ⟨(Below.refl _ _).alloc (Nat.le_refl _) _⟩
    go_wp2_with (first
      | (refine Kd.R_append_row (Value.int .u8) (0 : Int) (w0 := w) w.heap.size rfl (.tmp 5) (.tmp 6) 23 5 (.int .u8 0) 1 rfl Try.underlying23 info_u8 rfl (by decide) _ [] l0 (some ad) l0.length c0 (fun _ => True) rfl rfl (fun _ _ => trivial) (R_lit0 (Kd.int .u8) 5 w) (Kd.C_below HR.out HB1.out) HB1.out HB1.out.size ?_ ?_; (case _ => simp; omega); intro v2 w2 ho2 hb2 _ _; have HO2 := Aside0.mk ho2; have HB2 := Aside0.mk hb2; clear ho2 hb2))
    go_ret
    exact ⟨_, rfl, HO2.out, HB2.out⟩
end Go.Proofs.YtonhinepgkommaaH
