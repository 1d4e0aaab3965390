/- Arguments of acts. -/
import Derived.Test.YtkkhghipbnpiaaaRowKit
import Derived.Test.YtkkhghipbnpiaaaDicF
namespace Go.Proofs.Ytkkhghipbnpiaaa
open Go.ChangeShapes Go.WideShapes Go.ChangeAt Go.RowKit Go.Deep
set_option linter.unusedVariables false
section
variable {H : Type} {enc : TypeId × Value → H} {w : World} {spare : Nat → Bool} {held : Bool}
/-- An argument of acts. -/
theorem open_acs {v : Value} {d : DataW H} {p : List MemPlace} {r : Reach} {b : Nat} (hv : Value.okWide Try.prog w r b 22 v) (h : DataW.Trod enc Try.prog w 0 spare held 22 v d p) :
    ∃ (n : Nat) (l : List (Bool × Int × Int)), Sl w w.heap.size 3 v n (acs l) ∧ ∀ e ∈ l, (0 ≤ e.2.1 ∧ e.2.1 ≤ 18446744073709551615) ∧ wfI e.2.2 := by
  obtain ⟨A, len, cap, fuel, rfl, hf⟩ := slice_shape Try.underlying22 hv h
  obtain ⟨D, hs, hD⟩ := sl_of_slice (C := 3) Try.underlying22 (by kernel_rfl) (by omega) hf
  obtain ⟨l, h1, h2, h3⟩ := gather (D := D) (f := fun e : Bool × Int × Int => [.bool e.1, .int .u64 e.2.1, .int .i64 e.2.2]) (good := fun e => (0 ≤ e.2.1 ∧ e.2.1 ≤ 18446744073709551615) ∧ wfI e.2.2) (n := len) fun i hi => by
    obtain ⟨_, n, y, hy⟩ := hD i hi
    obtain ⟨v0, v1, v2, n', y0, y1, y2, hc, t0, t1, t2⟩ := fields3 Try.underlying30 (by kernel_rfl) ⟨rfl, rfl, rfl⟩ ⟨by kernel_rfl, by kernel_rfl, by kernel_rfl⟩ hy
    obtain ⟨a0, e0, _⟩ := DataW.trod_bool Try.underlying4 t0
    obtain ⟨a1, e1, _, w1⟩ := DataW.trod_int Try.underlying23 t1
    obtain ⟨a2, e2, _, w2⟩ := DataW.trod_int Try.underlying3 t2
    simp at e0 e1 e2
    subst e0 e1 e2
    exact ⟨(a0, a1, a2), hc, wf_u64 w1, wfI_of w2⟩
  exact ⟨len, l, by rw [h2] at hs; exact hs, h3⟩
end
end Go.Proofs.Ytkkhghipbnpiaaa
