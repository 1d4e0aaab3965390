/- Arguments of slots. -/
import Derived.Test.YtcbedngimgkcoaaRowKit
import Derived.Test.YtcbedngimgkcoaaVerA
namespace Go.Proofs.Ytcbedngimgkcoaa
open Go.ChangeShapes Go.WideShapes Go.ChangeAt Go.RowKit Go.Deep
set_option linter.unusedVariables false
section
variable {H : Type} {enc : TypeId × Value → H} {w : World} {spare : Nat → Bool} {held : Bool}
theorem fields2 {t : TypeId} {n : Nat} {cs : List Value} {y : DataW H × List MemPlace} {f0 f1 : Field} (hs : Try.prog.underlying t = some (.struct #[f0, f1])) (hC : Try.prog.cellsOf t = 2)
    (o : f0.offset = 0 ∧ f1.offset = 1) (c : Try.prog.cellsOf f0.type = 1 ∧ Try.prog.cellsOf f1.type = 1) (h : DataW.trod enc Try.prog w 0 spare held n t cs = some y) :
    ∃ v0 v1 n' y0 y1, cs = [v0, v1] ∧ DataW.trod enc Try.prog w 0 spare held n' f0.type [v0] = some y0 ∧ DataW.trod enc Try.prog w 0 spare held n' f1.type [v1] = some y1 := by
  obtain ⟨ys, n', hn', hy, hlen, hyl, hf⟩ := DataW.trod_struct hs h
  rw [hC] at hlen
  match cs, hlen with
  | [v0, v1], _ =>
    match ys, hyl with
    | [y0, y1], _ =>
      refine ⟨v0, v1, n', y0, y1, rfl, ?_, ?_⟩
      · simpa [o.1, c.1] using hf 0 f0 rfl
      · simpa [o.2, c.2] using hf 1 f1 rfl
/-- An argument of slots. -/
theorem open_sls {v : Value} {d : DataW H} {p : List MemPlace} {r : Reach} {b : Nat} (hv : Value.okWide Try.prog w r b 22 v) (h : DataW.Trod enc Try.prog w 0 spare held 22 v d p) :
    ∃ (n : Nat) (l : List (Bool × Int)), Sl w w.heap.size 2 v n (sls l) ∧ ∀ e ∈ l, 0 ≤ e.2 ∧ e.2 ≤ 18446744073709551615 := by
  obtain ⟨A, len, cap, fuel, rfl, hf⟩ := slice_shape Try.underlying22 hv h
  obtain ⟨D, hs, hD⟩ := sl_of_slice (C := 2) Try.underlying22 (by kernel_rfl) (by omega) hf
  obtain ⟨l, h1, h2, h3⟩ := gather (D := D) (f := fun e : Bool × Int => [.bool e.1, .int .u64 e.2]) (good := fun e => 0 ≤ e.2 ∧ e.2 ≤ 18446744073709551615) (n := len) fun i hi => by
    obtain ⟨_, n, y, hy⟩ := hD i hi
    obtain ⟨v0, v1, n', y0, y1, hc, t0, t1⟩ := fields2 Try.underlying55 (by kernel_rfl) ⟨rfl, rfl⟩ ⟨by kernel_rfl, by kernel_rfl⟩ hy
    obtain ⟨a0, e0, _⟩ := DataW.trod_bool Try.underlying4 t0
    obtain ⟨a1, e1, _, w1⟩ := DataW.trod_int Try.underlying23 t1
    simp at e0 e1
    subst e0 e1
    exact ⟨(a0, a1), hc, wf_u64 w1⟩
  exact ⟨len, l, by rw [h2] at hs; exact hs, h3⟩
/-- An argument of acts. -/
theorem open_vacts {v : Value} {d : DataW H} {p : List MemPlace} {r : Reach} {b : Nat} (hv : Value.okWide Try.prog w r b 47 v) (h : DataW.Trod enc Try.prog w 0 spare held 47 v d p) :
    ∃ (n : Nat) (l : List (Bool × Int)), Sl w w.heap.size 2 v n (sls l) ∧ ∀ e ∈ l, 0 ≤ e.2 ∧ e.2 ≤ 18446744073709551615 := by
  obtain ⟨A, len, cap, fuel, rfl, hf⟩ := slice_shape Try.underlying47 hv h
  obtain ⟨D, hs, hD⟩ := sl_of_slice (C := 2) Try.underlying47 (by kernel_rfl) (by omega) hf
  obtain ⟨l, h1, h2, h3⟩ := gather (D := D) (f := fun e : Bool × Int => [.bool e.1, .int .u64 e.2]) (good := fun e => 0 ≤ e.2 ∧ e.2 ≤ 18446744073709551615) (n := len) fun i hi => by
    obtain ⟨_, n, y, hy⟩ := hD i hi
    obtain ⟨v0, v1, n', y0, y1, hc, t0, t1⟩ := fields2 Try.underlying51 (by kernel_rfl) ⟨rfl, rfl⟩ ⟨by kernel_rfl, by kernel_rfl⟩ hy
    obtain ⟨a0, e0, _⟩ := DataW.trod_bool Try.underlying4 t0
    obtain ⟨a1, e1, _, w1⟩ := DataW.trod_int Try.underlying23 t1
    simp at e0 e1
    subst e0 e1
    exact ⟨(a0, a1), hc, wf_u64 w1⟩
  exact ⟨len, l, by rw [h2] at hs; exact hs, h3⟩
end
end Go.Proofs.Ytcbedngimgkcoaa
