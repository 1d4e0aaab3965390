/- Contract of seq.Of at one pair. -/
import Derived.Test.YtcbedngimgkcoaaPsC
namespace Go.Proofs.Ytcbedngimgkcoaa
open Go.RowKit Sq
set_option linter.unusedVariables false
attribute [local go_sem ↓] Go.wp_at_zero Go.wp_at_succ

theorem of_nil (A : Option Addr) (c : Nat) (w : World) : Calls Try.prog 38 #[.slice A 0 c] w (TrPost w .nil) := by
  go_enter Try.func38, Try.ntmps38
  go_wp2
  go_ret
  exact ⟨_, rfl, rfl, Below.refl _ _⟩
set_option maxRecDepth 100000 in
theorem of_one {b : Nat} {x : Int × Int} {w : World} (h0 : w.cell? ⟨b, 0, none⟩ = some (.int .u64 x.1)) (h1 : w.cell? ⟨b, 1, none⟩ = some (.int .i64 x.2)) :
    Calls Try.prog 38 #[.slice (some ⟨b, 0, none⟩) 1 1] w (TrPost w (.node .nil x .nil)) := by
  have B0 : Hid (Below w.heap.size w w) := hid (Below.refl _ _)
  have i12 : IntKind.i64.wrap 1 = 1 := by decide
  have i13 : IntKind.i64.wrap ((0 : Int) + 1) = 1 := by decide
  have s0 : sz (Tr.nil : Tr (Int × Int)) ≤ 1000000000 := by decide
  go_enter Try.func38, Try.ntmps38
  go_wp2_with fail
  go_region_held3 (fun w' => w'.cell? ⟨b, 0, none⟩ = some (.int .u64 x.1) ∧ w'.cell? ⟨b, 1, none⟩ = some (.int .i64 x.2))
    (first | go_keep | (go_split_ands; and_intros <;> (refine cell_later (by assumption) ?_; first | assumption | (rw [Qt.cell (qt_of _ _)]; assumption) | (rw [Qt.cell (qt_drew _)]; assumption))) | (refine cell_later (by assumption) ?_; first | assumption | (rw [Qt.cell (qt_of _ _)]; assumption) | (rw [Qt.cell (qt_drew _)]; assumption)))
    (first | (go_at_call 38; (with_reducible refine (of_nil _ _ _).mono ?_); rintro e w2 ⟨v2, rfl, hT, hb2⟩; obtain rfl := hT)
           | (go_at_call 44; (with_reducible refine (tree_any (IsTr.none_ _ _) (IsTr.none_ _ _) s0 s0).mono ?_); rintro e w4 ⟨v4, rfl, hT4, hb4⟩))
  all_goals
    go_wp2
    go_ret
    exact ⟨_, rfl, hT4, (by repeat (first | exact B0.out | exact Below.refl _ _ | refine Bl.call ?_ (by assumption) | refine Bl.qt ?_ (by assumption) | refine Bl.qt ?_ (qt_drew _) | refine Bl.qt ?_ (qt_of _ _)))⟩
end Go.Proofs.Ytcbedngimgkcoaa
