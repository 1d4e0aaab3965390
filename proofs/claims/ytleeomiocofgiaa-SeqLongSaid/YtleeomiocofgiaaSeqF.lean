/- Contract of seq.Join. -/
import Derived.Test.YtleeomiocofgiaaSeqE
namespace Go.Proofs.Ytleeomiocofgiaa
open Go.RowKit Sq
set_option linter.unusedVariables false

theorem sz_join (a b : Tr Int) : sz (join a b) = sz a + sz b := by rw [← len_ls, ls_join, List.length_append, len_ls, len_ls]
theorem join_none {va vb : Option Addr} {a b : Tr Int} {w : World} (ha : IsTr w w.heap.size va a) (hb : IsTr w w.heap.size vb b) (h : sz b = 0) :
    Calls Try.prog 8 #[.pointer va, .pointer vb] w (TrPost w (join a b)) := by
  have HA := hid ha
  have HB := hid hb
  have E : Hid (join a b = a) := hid (by rw [sz_zero h]; rfl)
  clear ha hb
  go_enter Try.func8, Try.ntmps8
  go_wp2_with fail
  refine (at_out (i := 0) HB.out (by omega)).mono ?_; rintro e w' ⟨rfl, rfl⟩
  go_wp2
  go_ret
  exact ⟨_, rfl, by rw [E.out]; exact HA.out, Below.refl _ _⟩
theorem join_some {va vb : Option Addr} {a b : Tr Int} {w : World} (ha : IsTr w w.heap.size va a) (hb : IsTr w w.heap.size vb b) (h : 0 < sz b) (hsa : sz a ≤ 1000000) (hsb : sz b ≤ 1000000) :
    Calls Try.prog 8 #[.pointer va, .pointer vb] w (TrPost w (join a b)) := by
  have HA := hid ha
  have HB := hid hb
  obtain ⟨x, hx⟩ : ∃ x, atT b 0 = some x := by
    rw [atT_ls]
    cases hl : (ls b)[0]? with
    | none => have := len_ls b; rw [List.getElem?_eq_none_iff] at hl; omega
    | some x => exact ⟨x, rfl⟩
  have HAT := at_in (i := 0) hb h (by omega)
  rw [hx] at HAT
  simp only [Option.getD_some] at HAT
  have HAT' := hid HAT
  have E : Hid (join a b = around a x (split b 1).2) := hid (by unfold join; rw [hx])
  have q := (split_sz b 1).2
  have q1 : sz a + sz (split b 1).2 ≤ 10000000 := by omega
  clear ha hb hx HAT
  go_enter Try.func8, Try.ntmps8
  go_wp2_with fail
  refine HAT'.out.mono ?_; rintro e w' ⟨rfl, rfl⟩
  go_wp2_with fail
  refine (split_any HB.out hsb (by omega)).mono ?_; rintro e wb ⟨v1, v2, rfl, hT1, hT2, hb2⟩
  go_wp2_with fail
  refine (around_any (HA.out.call hb2) hT2 q1).mono ?_; rintro e wc ⟨vt, rfl, hT, hb3⟩
  go_wp2
  go_ret
  exact ⟨_, rfl, by rw [E.out]; exact hT, Bl.call hb2 hb3⟩
theorem join_any {va vb : Option Addr} {a b : Tr Int} {w : World} (ha : IsTr w w.heap.size va a) (hb : IsTr w w.heap.size vb b) (hsa : sz a ≤ 1000000) (hsb : sz b ≤ 1000000) :
    Calls Try.prog 8 #[.pointer va, .pointer vb] w (TrPost w (join a b)) := by
  rcases Nat.eq_zero_or_pos (sz b) with h | h
  · exact join_none ha hb h
  · exact join_some ha hb h hsa hsb
end Go.Proofs.Ytleeomiocofgiaa
