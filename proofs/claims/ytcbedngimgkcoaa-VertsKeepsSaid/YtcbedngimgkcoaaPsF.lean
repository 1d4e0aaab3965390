/- Contract of seq.Join. -/
import Derived.Test.YtcbedngimgkcoaaPsE
namespace Go.Proofs.Ytcbedngimgkcoaa
open Go.RowKit Sq
set_option linter.unusedVariables false
attribute [local go_sem ↓] Go.wp_at_zero Go.wp_at_succ

theorem sz_join (a b : Tr (Int × Int)) : sz (join a b) = sz a + sz b := by rw [← len_ls, ls_join, List.length_append, len_ls, len_ls]
theorem join_none {va vb : Option Addr} {a b : Tr (Int × Int)} {w : World} (ha : IsTr w w.heap.size va a) (hb : IsTr w w.heap.size vb b) (h : sz b = 0) :
    Calls Try.prog 37 #[.pointer va, .pointer vb] w (TrPost w (join a b)) := by
  have HA := hid ha
  have HB := hid hb
  have E : Hid (join a b = a) := hid (by rw [sz_zero h]; rfl)
  clear ha hb
  go_enter Try.func37, Try.ntmps37
  go_wp2_with fail
  refine (at_out (i := 0) HB.out (by omega)).mono ?_; rintro e w1 ⟨rfl, b1⟩
  go_wp2
  go_ret
  exact ⟨_, rfl, by rw [E.out]; exact (HA.out.call b1).new _, Bl.new b1 _⟩
set_option maxRecDepth 100000 in
theorem join_some {va vb : Option Addr} {a b : Tr (Int × Int)} {w : World} (ha : IsTr w w.heap.size va a) (hb : IsTr w w.heap.size vb b) (h : 0 < sz b) (hsa : sz a ≤ 1000000) (hsb : sz b ≤ 1000000) :
    Calls Try.prog 37 #[.pointer va, .pointer vb] w (TrPost w (join a b)) := by
  have HA := hid ha
  have HB := hid hb
  obtain ⟨x, hx⟩ : ∃ x, atT b 0 = some x := by
    rw [atT_ls]
    cases hl : (ls b)[0]? with
    | none => have := len_ls b; rw [List.getElem?_eq_none_iff] at hl; omega
    | some x => exact ⟨x, rfl⟩
  have HAT := at_in (i := 0) hb h (by omega)
  rw [hx] at HAT
  simp only [Option.getD_some] at HAT
  have HAT' := hid HAT
  have E : Hid (join a b = around a x (split b 1).2) := hid (by unfold join; rw [hx])
  have q := (split_sz b 1).2
  have q1 : sz a + sz (split b 1).2 ≤ 10000000 := by omega
  clear ha hb hx HAT
  go_enter Try.func37, Try.ntmps37
  go_wp2_with fail
  refine HAT'.out.mono ?_; rintro e w1 ⟨rfl, b1⟩
  obtain ⟨w2, hw2⟩ : ∃ w2, w2 = w1.alloc (.cells #[.int .u64 x.1, .int .i64 x.2] 71) := ⟨_, rfl⟩
  obtain ⟨K, hK⟩ : ∃ K, K = w1.heap.size := ⟨_, rfl⟩
  have HK := hid hK
  have B2 : Hid (Below w.heap.size w w2) := hid (by rw [hw2]; exact Bl.new b1 _)
  have HA2 : Hid (IsTr w2 w2.heap.size va a) := hid (by rw [hw2]; exact (HA.out.call b1).new _)
  have HB2 : Hid (IsTr w2 w2.heap.size vb b) := hid (by rw [hw2]; exact (HB.out.call b1).new _)
  have y0 : w2.cell? ⟨K, 0, none⟩ = some (.int .u64 x.1) := by rw [hw2, hK]; exact (Blk.new w1 _ [.int .u64 x.1, .int .i64 x.2]).cell 0
  have y1 : w2.cell? ⟨K, 1, none⟩ = some (.int .i64 x.2) := by rw [hw2, hK]; exact (Blk.new w1 _ [.int .u64 x.1, .int .i64 x.2]).cell 1
  have HW2 := hid hw2
  have B1 := hid b1
  clear hw2 hK b1
  go_wp2_with fail
  rw [← HK.out, ← HW2.out]
  refine (split_any HB2.out hsb (by omega)).mono ?_; rintro e wb ⟨v1, v2, rfl, hT1, hT2, hb2⟩
  have u0 : wb.cell? ⟨K, 0, none⟩ = some (.int .u64 x.1) := cell_later hb2 y0
  have u1 : wb.cell? ⟨K, 1, none⟩ = some (.int .i64 x.2) := cell_later hb2 y1
  have HT2 := hid hT2
  have HA3 := hid (HA2.out.call hb2)
  have B3 := hid (Bl.call B2.out hb2)
  clear y0 y1 hT1 hT2 hb2
  go_wp2_with fail
  refine (around_any HA3.out HT2.out q1).mono ?_; rintro e wc ⟨vt, rfl, hT, hb3⟩
  go_wp2
  go_ret
  exact ⟨_, rfl, by rw [E.out]; exact hT, Bl.call B3.out hb3⟩
theorem join_any {va vb : Option Addr} {a b : Tr (Int × Int)} {w : World} (ha : IsTr w w.heap.size va a) (hb : IsTr w w.heap.size vb b) (hsa : sz a ≤ 1000000) (hsb : sz b ≤ 1000000) :
    Calls Try.prog 37 #[.pointer va, .pointer vb] w (TrPost w (join a b)) := by
  rcases Nat.eq_zero_or_pos (sz b) with h | h
  · exact join_none ha hb h
  · exact join_some ha hb h hsa hsb
end Go.Proofs.Ytcbedngimgkcoaa
