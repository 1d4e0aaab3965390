/- From a row's arguments, read as data, to slices that read as lists of cells. -/
import Derived.Test.YtbafbnkmmpaomaaBase
import Derived.ProofKit
import Derived.OpenShut
import Derived.ShutString
import Derived.ChangeOld
import Derived.Deep.Slices
import Derived.Lib.SmallJoins
namespace Go.Proofs.Ytbafbnkmmpaomaa
open Go.ChangeShapes Go.WideShapes Go.ChangeAt Go.RowKit Go.Deep
set_option linter.unusedVariables false

set_option maxRecDepth 100000 in
theorem own_knob : ownKnob Try.prog.godebug = none := by kernel_rfl
set_option maxRecDepth 100000 in
theorem laid_out : laidOutB Try.prog = true := by kernel_rfl

section
variable {H : Type} {enc : TypeId × Value → H} {w : World} {spare : Nat → Bool} {held : Bool}
set_option maxRecDepth 100000 in
theorem add_flat (b o : Nat) (k j : Nat) : ((⟨b, o, none⟩ : Addr).add k).add j = ⟨b, o + (k + j), none⟩ := by
  rw [Addr.add_lit, Addr.add_lit, Nat.add_assoc]
set_option maxRecDepth 100000 in
theorem flat_at {D : Nat → List Value} {C n : Nat} (hD : ∀ i, i < n → (D i).length = C) : ((List.range n).flatMap D).length = n * C ∧
    ∀ j u, ((List.range n).flatMap D)[j]? = some u → ∃ i k, i < n ∧ k < C ∧ j = i * C + k ∧ (D i)[k]? = some u := by
  induction n with
  | zero => simp
  | succ n ih =>
    obtain ⟨h1, h2⟩ := ih fun i hi => hD i (by omega)
    rw [List.range_succ, List.flatMap_append]
    simp only [List.flatMap_cons, List.flatMap_nil, List.append_nil]
    refine ⟨by rw [List.length_append, h1, hD n (by omega), Nat.succ_mul], fun j u hu => ?_⟩
    by_cases hj : j < n * C
    · rw [List.getElem?_append_left (by rw [h1]; exact hj)] at hu
      obtain ⟨i, k, a, b, c, d⟩ := h2 j u hu
      exact ⟨i, k, by omega, b, c, d⟩
    · rw [List.getElem?_append_right (by rw [h1]; omega), h1] at hu
      have hk : j - n * C < (D n).length := (List.getElem?_eq_some_iff.1 hu).1
      rw [hD n (by omega)] at hk
      exact ⟨n, j - n * C, by omega, hk, by omega, hu⟩
set_option maxRecDepth 100000 in
/-- A slice that is read as data: its elements' cells. -/
theorem sl_of_slice {t e : TypeId} {C fuel len cap : Nat} {A : Option Addr} {x : DataW H × List MemPlace} (ht : Try.prog.underlying t = some (.slice e)) (hC : Try.prog.cellsOf e = C) (h0 : 0 < C)
    (h : DataW.trod enc Try.prog w 0 spare held fuel t [.slice A len cap] = some x) :
    ∃ D : Nat → List Value, Sl w w.heap.size C (.slice A len cap) len ((List.range len).flatMap D) ∧ ∀ i, i < len → (D i).length = C ∧ ∃ n y, DataW.trod enc Try.prog w 0 spare held n e (D i) = some y := by
  rcases open_slice ht h with ⟨hcs, _⟩ | ⟨a, len', cap', m, n, D, Pl, hcs, _, hl, hm, hmm, _, hi⟩
  · simp at hcs
    obtain ⟨rfl, rfl, rfl⟩ := hcs
    exact ⟨fun _ => [], Sl.none_ _ _ _, fun i hi => by omega⟩
  · simp at hcs
    obtain ⟨rfl, rfl, rfl⟩ := hcs
    rw [hC] at hi
    have hlm : len ≤ m := by rw [hmm]; split <;> omega
    have hex : ∀ i, ∃ cs', i < len → w.cells? 0 (a.add (i * C)) C = some cs' ∧ DataW.trod enc Try.prog w 0 spare held n e cs' = some (D i, Pl i) := by
      intro i
      by_cases hlt : i < len
      · obtain ⟨cs', h1, h2⟩ := hi i (by omega)
        exact ⟨cs', fun _ => ⟨h1, h2⟩⟩
      · exact ⟨[], fun h => absurd h hlt⟩
    have hD : ∃ E : Nat → List Value, ∀ i, i < len → w.cells? 0 (a.add (i * C)) C = some (E i) ∧ DataW.trod enc Try.prog w 0 spare held n e (E i) = some (D i, Pl i) :=
      ⟨fun i => Classical.choose (hex i), fun i => Classical.choose_spec (hex i)⟩
    obtain ⟨E, hE⟩ := hD
    have hlen : ∀ i, i < len → (E i).length = C := fun i hi => (World.cells?_some (hE i hi).1).2.1
    obtain ⟨f1, f2⟩ := flat_at hlen
    refine ⟨E, ⟨some a, cap, rfl, hl, hm, f1, fun hn => ?_⟩, fun i hi => ⟨hlen i hi, _, _, (hE i hi).2⟩⟩
    obtain ⟨_, q1, q2⟩ := World.cells?_some (hE 0 hn).1
    have hc0 := q2 0 h0
    have hv0 : (E 0)[0]? = some ((E 0)[0]'(by omega)) := List.getElem?_eq_getElem (by omega)
    rw [hv0] at hc0
    obtain ⟨b, o, spot⟩ := a
    have hspot : spot = none := by simpa [Addr.add] using World.cell?_spot hc0
    subst hspot
    refine ⟨b, o, rfl, by simpa [Addr.add] using World.block_lt_of_cell? w _ hc0, fun j u hu => ?_⟩
    obtain ⟨i, k, hi', hk, rfl, hu'⟩ := f2 j u hu
    have := (World.cells?_some (hE i hi').1).2.2 k hk
    rw [add_flat, hu'] at this
    exact this
set_option maxRecDepth 100000 in
theorem slice_shape {t e : TypeId} {v : Value} {d : DataW H} {p : List MemPlace} (ht : Try.prog.underlying t = some (.slice e)) {r : Reach} {b : Nat} (hv : Value.okWide Try.prog w r b t v) (h : DataW.Trod enc Try.prog w 0 spare held t v d p) :
    ∃ A len cap fuel, v = .slice A len cap ∧ DataW.trod enc Try.prog w 0 spare held fuel t [.slice A len cap] = some (d, p) := by
  obtain ⟨A, len, cap, rfl⟩ := okWide_slice ht hv
  obtain ⟨fuel, hf⟩ := h
  exact ⟨A, len, cap, fuel, rfl, by simpa [Value.cells] using hf⟩
end
def wfI (n : Int) : Prop := -9223372036854775808 ≤ n ∧ n ≤ 9223372036854775807
set_option maxRecDepth 100000 in
theorem wfI_of {n : Int} (h : (Lit.int .i64 n).wf = true) : wfI n := by
  have e1 : IntKind.i64.min = -9223372036854775808 := by decide
  have e2 : IntKind.i64.max = 9223372036854775807 := by decide
  simp [Lit.wf] at h
  unfold wfI; omega
section
variable {H : Type} {enc : TypeId × Value → H} {w : World} {spare : Nat → Bool} {held : Bool}
set_option maxRecDepth 100000 in
theorem fields3 {t : TypeId} {n : Nat} {cs : List Value} {y : DataW H × List MemPlace} {f0 f1 f2 : Field} (hs : Try.prog.underlying t = some (.struct #[f0, f1, f2])) (hC : Try.prog.cellsOf t = 3)
    (o : f0.offset = 0 ∧ f1.offset = 1 ∧ f2.offset = 2) (c : Try.prog.cellsOf f0.type = 1 ∧ Try.prog.cellsOf f1.type = 1 ∧ Try.prog.cellsOf f2.type = 1) (h : DataW.trod enc Try.prog w 0 spare held n t cs = some y) :
    ∃ v0 v1 v2 n' y0 y1 y2, cs = [v0, v1, v2] ∧ DataW.trod enc Try.prog w 0 spare held n' f0.type [v0] = some y0 ∧ DataW.trod enc Try.prog w 0 spare held n' f1.type [v1] = some y1 ∧ DataW.trod enc Try.prog w 0 spare held n' f2.type [v2] = some y2 := by
  obtain ⟨ys, n', hn', hy, hlen, hyl, hf⟩ := DataW.trod_struct hs h
  rw [hC] at hlen
  match cs, hlen with
  | [v0, v1, v2], _ =>
    match ys, hyl with
    | [y0, y1, y2], _ =>
      refine ⟨v0, v1, v2, n', y0, y1, y2, rfl, ?_, ?_, ?_⟩
      · simpa [o.1, c.1] using hf 0 f0 rfl
      · simpa [o.2.1, c.2.1] using hf 1 f1 rfl
      · simpa [o.2.2, c.2.2] using hf 2 f2 rfl
end
set_option maxRecDepth 100000 in
/-- Lists of cells, an element each, as a list of things. -/
theorem gather {α : Type} {D : Nat → List Value} {f : α → List Value} {good : α → Prop} {n : Nat} (h : ∀ i, i < n → ∃ a, D i = f a ∧ good a) :
    ∃ l : List α, l.length = n ∧ (List.range n).flatMap D = l.flatMap f ∧ ∀ a ∈ l, good a := by
  induction n with
  | zero => exact ⟨[], rfl, rfl, fun a ha => by cases ha⟩
  | succ n ih =>
    obtain ⟨l, h1, h2, h3⟩ := ih fun i hi => h i (by omega)
    obtain ⟨a, h4, h5⟩ := h n (by omega)
    refine ⟨l ++ [a], by simp [h1], by rw [List.range_succ, List.flatMap_append, List.flatMap_append, h2]; simp [h4], fun x hx => ?_⟩
    rcases List.mem_append.1 hx with hx | hx
    · exact h3 x hx
    · simp at hx; subst hx; exact h5
section
variable {H : Type} {enc : TypeId × Value → H} {w : World} {spare : Nat → Bool} {held : Bool}
set_option maxRecDepth 100000 in
/-- An argument of edges. -/
theorem open_eds {v : Value} {d : DataW H} {p : List MemPlace} {r : Reach} {b : Nat} (hv : Value.okWide Try.prog w r b 25 v) (h : DataW.Trod enc Try.prog w 0 spare held 25 v d p) :
    ∃ (n : Nat) (l : List (Int × Int × Int)), Sl w w.heap.size 3 v n (eds l) ∧ ∀ e ∈ l, wfI e.1 ∧ wfI e.2.1 ∧ wfI e.2.2 := by
  obtain ⟨A, len, cap, fuel, rfl, hf⟩ := slice_shape Try.underlying25 hv h
  obtain ⟨D, hs, hD⟩ := sl_of_slice (C := 3) Try.underlying25 (by kernel_rfl) (by omega) hf
  obtain ⟨l, h1, h2, h3⟩ := gather (D := D) (f := fun e : Int × Int × Int => [.int .i64 e.1, .int .i64 e.2.1, .int .i64 e.2.2]) (good := fun e => wfI e.1 ∧ wfI e.2.1 ∧ wfI e.2.2) (n := len) fun i hi => by
    obtain ⟨_, n, y, hy⟩ := hD i hi
    obtain ⟨v0, v1, v2, n', y0, y1, y2, hc, t0, t1, t2⟩ := fields3 Try.underlying61 (by kernel_rfl) ⟨rfl, rfl, rfl⟩ ⟨by kernel_rfl, by kernel_rfl, by kernel_rfl⟩ hy
    obtain ⟨a0, e0, _, w0⟩ := DataW.trod_int Try.underlying3 t0
    obtain ⟨a1, e1, _, w1⟩ := DataW.trod_int Try.underlying3 t1
    obtain ⟨a2, e2, _, w2⟩ := DataW.trod_int Try.underlying3 t2
    simp at e0 e1 e2
    subst e0 e1 e2
    exact ⟨(a0, a1, a2), hc, wfI_of w0, wfI_of w1, wfI_of w2⟩
  exact ⟨len, l, by rw [h2] at hs; exact hs, h3⟩
set_option maxRecDepth 100000 in
/-- An argument of integers. -/
theorem open_is {v : Value} {d : DataW H} {p : List MemPlace} {r : Reach} {b : Nat} (hv : Value.okWide Try.prog w r b 64 v) (h : DataW.Trod enc Try.prog w 0 spare held 64 v d p) :
    ∃ (n : Nat) (l : List Int), Sl w w.heap.size 1 v n (ints l) ∧ ∀ e ∈ l, wfI e := by
  obtain ⟨A, len, cap, fuel, rfl, hf⟩ := slice_shape Try.underlying64 hv h
  obtain ⟨D, hs, hD⟩ := sl_of_slice (C := 1) Try.underlying64 (by kernel_rfl) (by omega) hf
  obtain ⟨l, h1, h2, h3⟩ := gather (D := D) (f := fun e : Int => [.int .i64 e]) (good := wfI) (n := len) fun i hi => by
    obtain ⟨_, n, y, hy⟩ := hD i hi
    obtain ⟨a0, e0, _, w0⟩ := DataW.trod_int Try.underlying3 hy
    exact ⟨a0, e0, wfI_of w0⟩
  refine ⟨len, l, ?_, h3⟩
  rw [h2] at hs
  have : ints l = l.flatMap fun e : Int => [.int .i64 e] := by simp [ints, List.map_eq_flatMap]
  rw [this]; exact hs
end
set_option maxRecDepth 100000 in
theorem wf_i64 {n : Int} (h : (Lit.int .i64 n).wf = true) : wfI n := wfI_of h
set_option maxRecDepth 100000 in
theorem wf_u8 {n : Int} (h : (Lit.int .u8 n).wf = true) : 0 ≤ n ∧ n ≤ 255 := by
  have e1 : IntKind.u8.min = 0 := by decide
  have e2 : IntKind.u8.max = 255 := by decide
  simp [Lit.wf] at h
  omega
set_option maxRecDepth 100000 in
theorem wf_u16 {n : Int} (h : (Lit.int .u16 n).wf = true) : 0 ≤ n ∧ n ≤ 65535 := by
  have e1 : IntKind.u16.min = 0 := by decide
  have e2 : IntKind.u16.max = 65535 := by decide
  simp [Lit.wf] at h
  omega
set_option maxRecDepth 100000 in
theorem wf_u32 {n : Int} (h : (Lit.int .u32 n).wf = true) : 0 ≤ n ∧ n ≤ 4294967295 := by
  have e1 : IntKind.u32.min = 0 := by decide
  have e2 : IntKind.u32.max = 4294967295 := by decide
  simp [Lit.wf] at h
  omega
set_option maxRecDepth 100000 in
theorem wf_u64 {n : Int} (h : (Lit.int .u64 n).wf = true) : 0 ≤ n ∧ n ≤ 18446744073709551615 := by
  have e1 : IntKind.u64.min = 0 := by decide
  have e2 : IntKind.u64.max = 18446744073709551615 := by decide
  simp [Lit.wf] at h
  omega
section
variable {H : Type} {enc : TypeId × Value → H} {w : World} {spare : Nat → Bool} {held : Bool}
set_option maxRecDepth 100000 in
/-- A hash, by value. -/
theorem open_hash {v : Value} {d : DataW H} {p : List MemPlace} {r : Reach} {b : Nat} (hv : Value.okWide Try.prog w r b 59 v) (h : DataW.Trod enc Try.prog w 0 spare held 59 v d p) :
    ∃ (h : Nat × Nat), v = .agg #[.int .u64 (h.1 : Int), .int .u64 (h.2 : Int)] ∧ (h.1 < 18446744073709551616 ∧ h.2 < 18446744073709551616) := by
  obtain ⟨c0, c1, y0, y1, m, rfl, rfl, rfl, h0, h1⟩ := Go.Joins.open_agg2 Try.underlying59 (by kernel_rfl) (by kernel_rfl) hv h
  obtain ⟨a0, e0, _, w0⟩ := DataW.trod_int Try.underlying41 h0
  obtain ⟨a1, e1, _, w1⟩ := DataW.trod_int Try.underlying41 h1
  simp at e0 e1
  subst e0 e1
  have k0 := wf_u64 w0
  have k1 := wf_u64 w1
  obtain ⟨a0, rfl⟩ := Int.eq_ofNat_of_zero_le k0.1
  obtain ⟨a1, rfl⟩ := Int.eq_ofNat_of_zero_le k1.1
  exact ⟨(a0, a1), rfl, by omega, by omega⟩
end
end Go.Proofs.Ytbafbnkmmpaomaa
