/- Arguments that are states. -/
import Derived.Test.YtbafbnkmmpaomaaRowKit
import Derived.Test.YtbafbnkmmpaomaaSnH
import Derived.Lib.SmallJoins
namespace Go.Proofs.Ytbafbnkmmpaomaa
open Go.ChangeShapes Go.WideShapes Go.ChangeAt Go.RowKit Go.Deep
set_option linter.unusedVariables false
set_option maxRecDepth 100000
section
variable {H : Type} {enc : TypeId × Value → H} {w : World} {spare : Nat → Bool} {held : Bool}
theorem fieldsS {t : TypeId} {n : Nat} {cs : List Value} {y : DataW H × List MemPlace} {f0 f1 : Field} (hs : Try.prog.underlying t = some (.struct #[f0, f1])) (hC : Try.prog.cellsOf t = 2)
    (o : f0.offset = 0 ∧ f1.offset = 1) (c : Try.prog.cellsOf f0.type = 1 ∧ Try.prog.cellsOf f1.type = 1) (h : DataW.trod enc Try.prog w 0 spare held n t cs = some y) :
    ∃ v0 v1 n' y0 y1, cs = [v0, v1] ∧ DataW.trod enc Try.prog w 0 spare held n' f0.type [v0] = some y0 ∧ DataW.trod enc Try.prog w 0 spare held n' f1.type [v1] = some y1 := by
  obtain ⟨ys, n', hn', hy, hlen, hyl, hf⟩ := DataW.trod_struct hs h
  rw [hC] at hlen
  match cs, hlen with
  | [v0, v1], _ =>
    match ys, hyl with
    | [y0, y1], _ =>
      refine ⟨v0, v1, n', y0, y1, rfl, ?_, ?_⟩
      · simpa [o.1, c.1] using hf 0 f0 rfl
      · simpa [o.2, c.2] using hf 1 f1 rfl
theorem hs_of {A : Option Addr} {len cap fuel : Nat} {y : DataW H × List MemPlace} (hf : DataW.trod enc Try.prog w 0 spare held fuel 24 [.slice A len cap] = some y) :
    ∃ l : List (Int × Int), Sl w w.heap.size 2 (.slice A len cap) len (hcz l) ∧ ∀ h ∈ l, 0 ≤ h.1 ∧ 0 ≤ h.2 := by
  obtain ⟨D, hs, hD⟩ := sl_of_slice (C := 2) Try.underlying24 (by kernel_rfl) (by omega) hf
  obtain ⟨l, h1, h2, h3⟩ := gather (D := D) (f := fun h : Int × Int => [.int .u64 h.1, .int .u64 h.2]) (good := fun h => 0 ≤ h.1 ∧ 0 ≤ h.2) (n := len) fun i hi => by
    obtain ⟨_, n, y, hy⟩ := hD i hi
    obtain ⟨v0, v1, n', y0, y1, hc, t0, t1⟩ := fieldsS Try.underlying59 (by kernel_rfl) ⟨rfl, rfl⟩ ⟨by kernel_rfl, by kernel_rfl⟩ hy
    obtain ⟨a0, e0, _, w0⟩ := DataW.trod_int Try.underlying41 t0
    obtain ⟨a1, e1, _, w1⟩ := DataW.trod_int Try.underlying41 t1
    simp at e0 e1
    subst e0 e1
    exact ⟨(a0, a1), hc, (wf_u64 w0).1, (wf_u64 w1).1⟩
  exact ⟨l, by rw [h2] at hs; exact hs, h3⟩
theorem ss_of {A : Option Addr} {len cap fuel : Nat} {y : DataW H × List MemPlace} (hf : DataW.trod enc Try.prog w 0 spare held fuel 28 [.slice A len cap] = some y) :
    ∃ l : List (Bool × Int), Sl w w.heap.size 2 (.slice A len cap) len (sls l) ∧ ∀ e ∈ l, 0 ≤ e.2 ∧ e.2 ≤ 18446744073709551615 := by
  obtain ⟨D, hs, hD⟩ := sl_of_slice (C := 2) Try.underlying28 (by kernel_rfl) (by omega) hf
  obtain ⟨l, h1, h2, h3⟩ := gather (D := D) (f := fun e : Bool × Int => [.bool e.1, .int .u64 e.2]) (good := fun e => 0 ≤ e.2 ∧ e.2 ≤ 18446744073709551615) (n := len) fun i hi => by
    obtain ⟨_, n, y, hy⟩ := hD i hi
    obtain ⟨v0, v1, n', y0, y1, hc, t0, t1⟩ := fieldsS Try.underlying63 (by kernel_rfl) ⟨rfl, rfl⟩ ⟨by kernel_rfl, by kernel_rfl⟩ hy
    obtain ⟨a0, e0, _⟩ := DataW.trod_bool Try.underlying4 t0
    obtain ⟨a1, e1, _, w1⟩ := DataW.trod_int Try.underlying41 t1
    simp at e0 e1
    subst e0 e1
    exact ⟨(a0, a1), hc, wf_u64 w1⟩
  exact ⟨l, by rw [h2] at hs; exact hs, h3⟩
theorem es_of {A : Option Addr} {len cap fuel : Nat} {y : DataW H × List MemPlace} (hf : DataW.trod enc Try.prog w 0 spare held fuel 25 [.slice A len cap] = some y) :
    ∃ l : List (Int × Int × Int), Sl w w.heap.size 3 (.slice A len cap) len (eds l) ∧ ∀ e ∈ l, wfI e.1 ∧ wfI e.2.1 ∧ wfI e.2.2 := by
  obtain ⟨D, hs, hD⟩ := sl_of_slice (C := 3) Try.underlying25 (by kernel_rfl) (by omega) hf
  obtain ⟨l, h1, h2, h3⟩ := gather (D := D) (f := fun e : Int × Int × Int => [.int .i64 e.1, .int .i64 e.2.1, .int .i64 e.2.2]) (good := fun e => wfI e.1 ∧ wfI e.2.1 ∧ wfI e.2.2) (n := len) fun i hi => by
    obtain ⟨_, n, y, hy⟩ := hD i hi
    obtain ⟨v0, v1, v2, n', y0, y1, y2, hc, t0, t1, t2⟩ := fields3 Try.underlying61 (by kernel_rfl) ⟨rfl, rfl, rfl⟩ ⟨by kernel_rfl, by kernel_rfl, by kernel_rfl⟩ hy
    obtain ⟨a0, e0, _, w0⟩ := DataW.trod_int Try.underlying3 t0
    obtain ⟨a1, e1, _, w1⟩ := DataW.trod_int Try.underlying3 t1
    obtain ⟨a2, e2, _, w2⟩ := DataW.trod_int Try.underlying3 t2
    simp at e0 e1 e2
    subst e0 e1 e2
    exact ⟨(a0, a1, a2), hc, wfI_of w0, wfI_of w1, wfI_of w2⟩
  exact ⟨l, by rw [h2] at hs; exact hs, h3⟩
theorem slice_one {t e : TypeId} {n : Nat} {c : Value} {y : DataW H × List MemPlace} (ht : Try.prog.underlying t = some (.slice e)) (h : DataW.trod enc Try.prog w 0 spare held n t [c] = some y) : ∃ A len cap, c = .slice A len cap := by
  rcases DataW.trod_slice ht h with ⟨e, _⟩ | ⟨a, len, cap, _, _, _, _, e, _⟩
  · simp at e; exact ⟨_, _, _, e⟩
  · simp at e; exact ⟨_, _, _, e⟩
theorem array6 {cs : Array Value} (h : cs.size = 6) : ∃ a b c d e f, cs = #[a, b, c, d, e, f] := by
  obtain ⟨l⟩ := cs
  match l, h with
  | [a, b, c, d, e, f], _ => exact ⟨a, b, c, d, e, f, rfl⟩
/-- A state, by value. -/
theorem open_state {v : Value} {d : DataW H} {p : List MemPlace} {r : Reach} {b : Nat} (hv : Value.okWide Try.prog w r b 30 v) (h : DataW.Trod enc Try.prog w 0 spare held 30 v d p) :
    ∃ (s : Sn.St) (vh ve vs : Value) (nh ne ns : Nat), v = stV s.N s.L s.R vh ve vs ∧ (Sl w w.heap.size 2 vh nh (hcz s.hs) ∧ Sl w w.heap.size 3 ve ne (eds s.es) ∧ Sl w w.heap.size 2 vs ns (sls s.ss) ∧ Wide s) := by
  obtain ⟨cs, rfl, hsz⟩ := okWide_struct Try.underlying30 hv
  have hC : Try.prog.cellsOf 30 = 6 := by kernel_rfl
  obtain ⟨a, b, c, d, e, f, rfl⟩ := array6 (hsz.trans hC)
  obtain ⟨fuel, hf⟩ := h
  obtain ⟨xs, n1, -, -, -, hl, h1⟩ := DataW.trod_struct Try.underlying30 hf
  obtain ⟨x0, x1, rfl⟩ : ∃ x0 x1, xs = [x0, x1] := by match xs, hl with | [x0, x1], _ => exact ⟨x0, x1, rfl⟩
  have g0 : DataW.trod enc Try.prog w 0 spare held n1 27 [a, b, c, d, e] = some x0 := h1 0 _ rfl
  have g1 : DataW.trod enc Try.prog w 0 spare held n1 28 [f] = some x1 := h1 1 _ rfl
  obtain ⟨ys, n2, -, -, -, hl2, h2⟩ := DataW.trod_struct Try.underlying27 g0
  obtain ⟨y0, y1, y2, rfl⟩ : ∃ y0 y1 y2, ys = [y0, y1, y2] := by match ys, hl2 with | [y0, y1, y2], _ => exact ⟨y0, y1, y2, rfl⟩
  have k0 : DataW.trod enc Try.prog w 0 spare held n2 23 [a, b, c] = some y0 := h2 0 _ rfl
  have k1 : DataW.trod enc Try.prog w 0 spare held n2 24 [d] = some y1 := h2 1 _ rfl
  have k2 : DataW.trod enc Try.prog w 0 spare held n2 25 [e] = some y2 := h2 2 _ rfl
  obtain ⟨v0, v1, v2, n', z0, z1, z2, hc, t0, t1, t2⟩ := fields3 Try.underlying23 (by kernel_rfl) ⟨rfl, rfl, rfl⟩ ⟨by kernel_rfl, by kernel_rfl, by kernel_rfl⟩ k0
  simp at hc
  obtain ⟨rfl, rfl, rfl⟩ := hc
  obtain ⟨N, e0, _, w0⟩ := DataW.trod_int Try.underlying3 t0
  obtain ⟨L, e1, _, w1⟩ := DataW.trod_int Try.underlying3 t1
  obtain ⟨R, e2, _, w2⟩ := DataW.trod_int Try.underlying3 t2
  simp at e0 e1 e2
  subst e0 e1 e2
  obtain ⟨A1, nh, c1, rfl⟩ := slice_one Try.underlying24 k1
  obtain ⟨A2, ne, c2, rfl⟩ := slice_one Try.underlying25 k2
  obtain ⟨A3, ns, c3, rfl⟩ := slice_one Try.underlying28 g1
  obtain ⟨hs, s1, q1⟩ := hs_of k1
  obtain ⟨es, s2, q2⟩ := es_of k2
  obtain ⟨ss, s3, q3⟩ := ss_of g1
  exact ⟨{ N := N, L := L, R := R, hs := hs, es := es, ss := ss }, _, _, _, nh, ne, ns, rfl, s1, s2, s3, q1, q3⟩
end
end Go.Proofs.Ytbafbnkmmpaomaa
