/- Arguments of keys. -/
import Derived.Test.YtkkhghipbnpiaaaRowKit
import Derived.Test.YtkkhghipbnpiaaaDicK
namespace Go.Proofs.Ytkkhghipbnpiaaa
open Go.ChangeShapes Go.WideShapes Go.ChangeAt Go.RowKit Go.Deep
set_option linter.unusedVariables false
section
variable {H : Type} {enc : TypeId × Value → H} {w : World} {spare : Nat → Bool} {held : Bool}
/-- An argument of keys. -/
theorem open_uks {v : Value} {d : DataW H} {p : List MemPlace} {r : Reach} {b : Nat} (hv : Value.okWide Try.prog w r b 43 v) (h : DataW.Trod enc Try.prog w 0 spare held 43 v d p) :
    ∃ (n : Nat) (l : List Int), Sl w w.heap.size 1 v n (uks l) ∧ ∀ e ∈ l, 0 ≤ e ∧ e ≤ 18446744073709551615 := by
  obtain ⟨A, len, cap, fuel, rfl, hf⟩ := slice_shape Try.underlying43 hv h
  obtain ⟨D, hs, hD⟩ := sl_of_slice (C := 1) Try.underlying43 (by kernel_rfl) (by omega) hf
  obtain ⟨l, h1, h2, h3⟩ := gather (D := D) (f := fun e : Int => [.int .u64 e]) (good := fun e => 0 ≤ e ∧ e ≤ 18446744073709551615) (n := len) fun i hi => by
    obtain ⟨_, n, y, hy⟩ := hD i hi
    obtain ⟨a0, e0, _, w0⟩ := DataW.trod_int Try.underlying23 hy
    exact ⟨a0, e0, wf_u64 w0⟩
  refine ⟨len, l, ?_, h3⟩
  rw [h2] at hs
  have : uks l = l.flatMap fun e : Int => [.int .u64 e] := by simp [uks, List.map_eq_flatMap]
  rw [this]; exact hs
end
end Go.Proofs.Ytkkhghipbnpiaaa
