/- Contract of dict.Delete. -/
import Derived.Test.YtbafbnkmmpaomaaDicC
namespace Go.Proofs.Ytbafbnkmmpaomaa
open Go.RowKit Sq
set_option linter.unusedVariables false
attribute [local go_sem ↓] Go.wp_at_zero Go.wp_at_succ

def DelPost (w : World) (l : List (Int × Int)) (b : Bool) (e : Ending) (w' : World) : Prop := ∃ v, e = .returned (.tuple #[.agg #[.pointer v], .bool b]) ∧ IsD w' v l ∧ Below w.heap.size w w'
theorem IsD.of_tree {w : World} {v : Option Addr} {t : Tr (Int × Int)} {l : List (Int × Int)} (h : IsTr w w.heap.size v t) (hb : Bal t) (hl : ls t = l) (hs : Dc.Srt l) : IsD w v l := ⟨t, h, hb, hl, hs⟩
end Go.Proofs.Ytbafbnkmmpaomaa
