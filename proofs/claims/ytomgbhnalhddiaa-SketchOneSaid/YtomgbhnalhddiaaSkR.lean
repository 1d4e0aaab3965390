/- Arguments of hashes, words, sketches. -/
import Derived.Test.YtomgbhnalhddiaaRowKit
import Derived.Test.YtomgbhnalhddiaaSkA
import Derived.Lib.SmallJoins
namespace Go.Proofs.Ytomgbhnalhddiaa
open Go.ChangeShapes Go.WideShapes Go.ChangeAt Go.RowKit Go.Deep
set_option linter.unusedVariables false
section
variable {H : Type} {enc : TypeId × Value → H} {w : World} {spare : Nat → Bool} {held : Bool}
theorem fields2 {t : TypeId} {n : Nat} {cs : List Value} {y : DataW H × List MemPlace} {f0 f1 : Field} (hs : Try.prog.underlying t = some (.struct #[f0, f1])) (hC : Try.prog.cellsOf t = 2)
    (o : f0.offset = 0 ∧ f1.offset = 1) (c : Try.prog.cellsOf f0.type = 1 ∧ Try.prog.cellsOf f1.type = 1) (h : DataW.trod enc Try.prog w 0 spare held n t cs = some y) :
    ∃ v0 v1 n' y0 y1, cs = [v0, v1] ∧ DataW.trod enc Try.prog w 0 spare held n' f0.type [v0] = some y0 ∧ DataW.trod enc Try.prog w 0 spare held n' f1.type [v1] = some y1 := by
  obtain ⟨ys, n', hn', hy, hlen, hyl, hf⟩ := DataW.trod_struct hs h
  rw [hC] at hlen
  match cs, hlen with
  | [v0, v1], _ =>
    match ys, hyl with
    | [y0, y1], _ =>
      refine ⟨v0, v1, n', y0, y1, rfl, ?_, ?_⟩
      · simpa [o.1, c.1] using hf 0 f0 rfl
      · simpa [o.2, c.2] using hf 1 f1 rfl
/-- Words, out of a slice's cells. -/
theorem us_of {A : Option Addr} {len cap fuel : Nat} {y : DataW H × List MemPlace} (hf : DataW.trod enc Try.prog w 0 spare held fuel 23 [.slice A len cap] = some y) :
    ∃ l : List Nat, Sl w w.heap.size 1 (.slice A len cap) len (us l) ∧ Sk.Small l := by
  obtain ⟨D, hs, hD⟩ := sl_of_slice (C := 1) Try.underlying23 (by kernel_rfl) (by omega) hf
  obtain ⟨l, h1, h2, h3⟩ := gather (D := D) (f := fun e : Nat => [.int .u64 (e : Int)]) (good := fun e => e < 18446744073709551616) (n := len) fun i hi => by
    obtain ⟨_, n, y, hy⟩ := hD i hi
    obtain ⟨a0, e0, _, w0⟩ := DataW.trod_int Try.underlying31 hy
    have k0 := wf_u64 w0
    obtain ⟨a0, rfl⟩ := Int.eq_ofNat_of_zero_le k0.1
    exact ⟨a0, e0, by omega⟩
  refine ⟨l, ?_, h3⟩
  rw [h2] at hs
  have : us l = l.flatMap fun e : Nat => [.int .u64 (e : Int)] := by simp [us, List.map_eq_flatMap]
  rw [this]; exact hs
theorem open_us {v : Value} {d : DataW H} {p : List MemPlace} {r : Reach} {b : Nat} (hv : Value.okWide Try.prog w r b 23 v) (h : DataW.Trod enc Try.prog w 0 spare held 23 v d p) :
    ∃ (n : Nat) (l : List Nat), Sl w w.heap.size 1 v n (us l) ∧ Sk.Small l := by
  obtain ⟨A, len, cap, fuel, rfl, hf⟩ := slice_shape Try.underlying23 hv h
  obtain ⟨l, h1, h2⟩ := us_of hf
  exact ⟨len, l, h1, h2⟩
theorem open_hcs {v : Value} {d : DataW H} {p : List MemPlace} {r : Reach} {b : Nat} (hv : Value.okWide Try.prog w r b 22 v) (h : DataW.Trod enc Try.prog w 0 spare held 22 v d p) :
    ∃ (n : Nat) (l : List (Nat × Nat)), Sl w w.heap.size 2 v n (hcs l) ∧ ∀ h ∈ l, HSmall h := by
  obtain ⟨A, len, cap, fuel, rfl, hf⟩ := slice_shape Try.underlying22 hv h
  obtain ⟨D, hs, hD⟩ := sl_of_slice (C := 2) Try.underlying22 (by kernel_rfl) (by omega) hf
  obtain ⟨l, h1, h2, h3⟩ := gather (D := D) (f := fun h : Nat × Nat => [.int .u64 (h.1 : Int), .int .u64 (h.2 : Int)]) (good := HSmall) (n := len) fun i hi => by
    obtain ⟨_, n, y, hy⟩ := hD i hi
    obtain ⟨v0, v1, n', y0, y1, hc, t0, t1⟩ := fields2 Try.underlying46 (by kernel_rfl) ⟨rfl, rfl⟩ ⟨by kernel_rfl, by kernel_rfl⟩ hy
    obtain ⟨a0, e0, _, w0⟩ := DataW.trod_int Try.underlying31 t0
    obtain ⟨a1, e1, _, w1⟩ := DataW.trod_int Try.underlying31 t1
    simp at e0 e1
    subst e0 e1
    have k0 := wf_u64 w0
    have k1 := wf_u64 w1
    obtain ⟨a0, rfl⟩ := Int.eq_ofNat_of_zero_le k0.1
    obtain ⟨a1, rfl⟩ := Int.eq_ofNat_of_zero_le k1.1
    exact ⟨(a0, a1), hc, by constructor <;> simp <;> omega⟩
  exact ⟨len, l, by rw [h2] at hs; exact hs, h3⟩
/-- A sketch, by value. -/
theorem open_sk {v : Value} {d : DataW H} {p : List MemPlace} {r : Reach} {b : Nat} (hv : Value.okWide Try.prog w r b 26 v) (h : DataW.Trod enc Try.prog w 0 spare held 26 v d p) :
    ∃ (R V : Int) (va : Value) (n : Nat) (l : List Nat), v = .agg #[.int .i64 R, .int .i64 V, va] ∧ (Sl w w.heap.size 1 va n (us l) ∧ Sk.Small l ∧ wfI R ∧ wfI V) := by
  obtain ⟨c0, c1, c2, y0, y1, y2, m, rfl, rfl, rfl, h0, h1, h2⟩ := Go.Joins.open_agg3 Try.underlying26 (by kernel_rfl) (by kernel_rfl) hv h
  obtain ⟨a0, e0, _, w0⟩ := DataW.trod_int Try.underlying3 h0
  obtain ⟨a1, e1, _, w1⟩ := DataW.trod_int Try.underlying3 h1
  simp at e0 e1
  subst e0 e1
  have h2' := h2
  obtain ⟨A, len, cap, e2⟩ : ∃ A len cap, [c2] = [Value.slice A len cap] := by
    rcases DataW.trod_slice Try.underlying23 h2 with ⟨e, _⟩ | ⟨a, len, cap, _, _, _, _, e, _⟩
    · exact ⟨_, _, _, e⟩
    · exact ⟨_, _, _, e⟩
  simp at e2
  subst e2
  obtain ⟨l, h3, h4⟩ := us_of h2'
  exact ⟨a0, a1, _, len, l, rfl, h3, h4, wf_i64 w0, wf_i64 w1⟩
end
end Go.Proofs.Ytomgbhnalhddiaa
