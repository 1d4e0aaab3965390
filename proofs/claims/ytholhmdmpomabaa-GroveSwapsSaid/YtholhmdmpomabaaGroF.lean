/- Contract of grove.Greatest, of two edges. -/
import Derived.Test.YtholhmdmpomabaaGroE
namespace Go.Proofs.Ytholhmdmpomabaa
open Go.RowKit Pt
set_option linter.unusedVariables false
set_option linter.unusedSimpArgs false

set_option maxHeartbeats 1000000 in
theorem greatest_two {a b s c d t : Int} {v0 : Value} {w : World} (hs : Sl w w.heap.size 3 v0 2 (eds [(a, b, s), (c, d, t)])) (hst : s < t) :
    Calls Try.prog 15 #[v0] w fun e w' => e = .returned (.tuple #[.agg #[.int .i64 c, .int .i64 d, .int .i64 t], .bool true]) ∧ Below w.heap.size w w' := by
  obtain ⟨A, cp, rfl, hnc, hcm, hll, hx⟩ := hs
  obtain ⟨bk, o, rfl, hlt, hc⟩ := hx (by omega)
  obtain ⟨q0, q1, q2⟩ := eds_cell hc (k := 0) (by simp)
  obtain ⟨p0, p1, p2⟩ := eds_cell hc (k := 1) (by simp)
  simp only [Nat.zero_mul, Nat.add_zero, Nat.one_mul, List.getElem_cons_zero, List.getElem_cons_succ, Nat.zero_add] at q0 q1 q2 p0 p1 p2
  have hcp : (2 : Int) ≤ (cp : Int) := by omega
  have hcp2 : 1 < cp := by omega
  have hcm' : (cp : Int) ≤ 9223372036854775807 := by unfold maxLen at hcm; omega
  have HP := hid (And.intro p0 (And.intro p1 p2))
  clear hx hc hll hcm p0 p1 p2
  go_enter Try.func15, Try.ntmps15
  go_wp2
  have hw0 : Below w.heap.size w ((w.alloc (.cells #[.int .i64 0, .int .i64 0, .int .i64 0] 29)).alloc (.cells #[.int .i64 a, .int .i64 b, .int .i64 s] 29)) := Bl.new (bel_new _ _) _
  have hb2 : Blk ((w.alloc (.cells #[.int .i64 0, .int .i64 0, .int .i64 0] 29)).alloc (.cells #[.int .i64 a, .int .i64 b, .int .i64 s] 29)) w.heap.size 29 [.int .i64 0, .int .i64 0, .int .i64 0] := (Blk.new w _ [.int .i64 0, .int .i64 0, .int .i64 0]).alloc _
  have hb4 : Blk ((w.alloc (.cells #[.int .i64 0, .int .i64 0, .int .i64 0] 29)).alloc (.cells #[.int .i64 a, .int .i64 b, .int .i64 s] 29)) (w.heap.size + 1) 29 [.int .i64 a, .int .i64 b, .int .i64 s] := by
    have := Blk.new (w.alloc (.cells #[.int .i64 0, .int .i64 0, .int .i64 0] 29)) 29 [.int .i64 a, .int .i64 b, .int .i64 s]
    simpa using this
  clear q0 q1 q2
  go_loopw [17] (fun i wr => ∃ k : Nat, i = .int .i64 (k : Int) ∧ k ≤ 1 ∧ Hid (Blk wr (w.heap.size + 1) 29 (if k = 0 then [.int .i64 a, .int .i64 b, .int .i64 s] else [.int .i64 c, .int .i64 d, .int .i64 t])) ∧ Hid (Blk wr w.heap.size 29 [.int .i64 0, .int .i64 0, .int .i64 0]) ∧ Hid (Below w.heap.size w wr)) (fun i _ => 1 - (intOf i).toNat)
  case atStart => exact ⟨0, rfl, by omega, hb4, hb2, hw0⟩
  case round =>
    clear hw0 hb2 hb4
    obtain ⟨k, rfl, hk, H4, H2, HB⟩ := hrel
    obtain ⟨p0, p1, p2⟩ := HP.out
    have r0 := (HB.out.cell (p := ⟨bk, o + 3, none⟩) hlt).trans p0
    have r1 := (HB.out.cell (p := ⟨bk, o + 3 + 1, none⟩) hlt).trans p1
    have r2 := (HB.out.cell (p := ⟨bk, o + 3 + 2, none⟩) hlt).trans p2
    clear p0 p1 p2
    have hlt4 := H4.out.lt
    by_cases hk0 : k = 0
    · subst hk0
      have H4' : Hid (Blk wr (w.heap.size + 1) 29 [.int .i64 a, .int .i64 b, .int .i64 s]) := H4
      have f0 := H4'.out.cell 0
      have f1 := H4'.out.cell 1
      have f2 := H4'.out.cell 2
      have g0 := H4'.out.frozen 0
      have g1 := H4'.out.frozen 1
      have g2 := H4'.out.frozen 2
      clear H4
      go_wp2
      go_roundw
      case rel =>
        refine ⟨1, by go_num, by omega, ?_, ?_, ?_⟩
        · exact (((H4'.out.put 0 (.int .i64 c)).put 1 (.int .i64 d)).put 2 (.int .i64 t)).alloc (.cells #[.int .i64 c, .int .i64 d, .int .i64 t] 29)
        · have hne : w.heap.size ≠ w.heap.size + 1 := by omega
          exact (((H2.out.far (p := ⟨w.heap.size + 1, 0, none⟩) hne (.int .i64 c)).far (p := ⟨w.heap.size + 1, 1, none⟩) hne (.int .i64 d)).far (p := ⟨w.heap.size + 1, 2, none⟩) hne (.int .i64 t)).alloc (.cells #[.int .i64 c, .int .i64 d, .int .i64 t] 29)
        · exact Bl.new (((HB.out.setCell (p := ⟨w.heap.size + 1, 0, none⟩) (by simp) (.int .i64 c)).setCell (p := ⟨w.heap.size + 1, 1, none⟩) (by simp) (.int .i64 d)).setCell (p := ⟨w.heap.size + 1, 2, none⟩) (by simp) (.int .i64 t)) (.cells #[.int .i64 c, .int .i64 d, .int .i64 t] 29)
      case measure => simp [intOf]
    · obtain rfl : k = 1 := by omega
      have H4' : Hid (Blk wr (w.heap.size + 1) 29 [.int .i64 c, .int .i64 d, .int .i64 t]) := H4
      have f0 := H4'.out.cell 0
      have f1 := H4'.out.cell 1
      have f2 := H4'.out.cell 2
      have g0 := H2.out.frozen 0
      have g1 := H2.out.frozen 1
      have g2 := H2.out.frozen 2
      have e0 := H2.out.cell 0
      have e1 := H2.out.cell 1
      have e2 := H2.out.cell 2
      clear H4
      go_wp2
      refine bodyPost_ret (v := .tuple #[.agg #[.int .i64 c, .int .i64 d, .int .i64 t], .bool true]) (by simp [results, Try.results15, go_sem, e0, e1, e2]) rfl ⟨rfl, ?_⟩
      exact ((HB.out.setCell (p := ⟨w.heap.size, 0, none⟩) (Nat.le_refl _) (.int .i64 c)).setCell (p := ⟨w.heap.size, 1, none⟩) (Nat.le_refl _) (.int .i64 d)).setCell (p := ⟨w.heap.size, 2, none⟩) (Nat.le_refl _) (.int .i64 t)
end Go.Proofs.Ytholhmdmpomabaa
