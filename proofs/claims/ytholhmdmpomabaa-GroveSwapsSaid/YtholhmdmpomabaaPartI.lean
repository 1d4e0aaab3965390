/- Contract of raftsmanref09.Of. -/
import Derived.Test.YtholhmdmpomabaaPartH
import Derived.Deep.LoopGhost
namespace Go.Proofs.Ytholhmdmpomabaa
open Go.RowKit Pt
set_option linter.unusedVariables false

def RefRel (n : Nat) (l : List Ed) (v : Value) (W : World) (gk : Nat) (again : Value) (wr : World) : Prop :=
  ∃ (a : Bool) (q : List Int), again = .bool a ∧ wr.ownsRow W.heap.size 3 1 v n (ints q) ∧ Below W.heap.size W wr ∧ LI n (partOf n (uv l)) q ∧ gk = 2 * sumI q + (if a then 1 else 0) ∧ (a = false → ∀ e ∈ uv l, g q e.1 = g q e.2)
def RefIn (n : Nat) (l : List Ed) (v : Value) (W : World) (s0 : Nat) (again i : Value) (wr : World) : Prop :=
  ∃ (a : Bool) (k : Nat) (q : List Int), again = .bool a ∧ i = .int .i64 k ∧ k ≤ l.length ∧ wr.ownsRow W.heap.size 3 1 v n (ints q) ∧ Below W.heap.size W wr ∧ LI n (partOf n (uv l)) q ∧ sumI q ≤ s0 ∧ (a = true → sumI q < s0) ∧
    (a = false → ∀ j (h : j < l.length), j < k → g q l[j].1 = g q l[j].2.1)

end Go.Proofs.Ytholhmdmpomabaa
