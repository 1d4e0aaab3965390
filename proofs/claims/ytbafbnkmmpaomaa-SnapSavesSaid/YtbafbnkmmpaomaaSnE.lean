/- Contract of table.Forest. -/
import Derived.Test.YtbafbnkmmpaomaaSnD
namespace Go.Proofs.Ytbafbnkmmpaomaa
open Go.RowKit
set_option linter.unusedVariables false
set_option linter.unusedSimpArgs false
attribute [local go_sem ↓] Go.wp_at_zero Go.wp_at_succ
theorem Tedg : SlT 25 61 (.agg #[.int .i64 0, .int .i64 0, .int .i64 0]) 3 24 := SlT.mk Try.underlying25 (by kernel_rfl) rfl (by decide) (by decide)
/-- The edges of a forest. -/
def frs (k : Int) (l : List (Int × Int × Int)) : List (Int × Int × Int) := l.filter fun e => decide (1 ≤ e.2.2) && decide (e.2.2 ≤ k)
theorem frs_yes {k : Int} {l : List (Int × Int × Int)} {j : Nat} (h : j < l.length) (h2 : 1 ≤ l[j].2.2 ∧ l[j].2.2 ≤ k) : frs k (l.take (j + 1)) = frs k (l.take j) ++ [l[j]] := by
  unfold frs
  rw [List.take_succ_eq_append_getElem h, List.filter_append]
  simp [h2]
theorem frs_no {k : Int} {l : List (Int × Int × Int)} {j : Nat} (h : j < l.length) (h2 : ¬ (1 ≤ l[j].2.2 ∧ l[j].2.2 ≤ k)) : frs k (l.take (j + 1)) = frs k (l.take j) := by
  unfold frs
  rw [List.take_succ_eq_append_getElem h, List.filter_append]
  simp only [List.filter_cons, List.filter_nil]
  rw [if_neg]
  · simp
  · simpa using h2
theorem frs_len (k : Int) (l : List (Int × Int × Int)) (j : Nat) : (frs k (l.take j)).length ≤ j := by
  have h1 : (frs k (l.take j)).length ≤ (l.take j).length := List.length_filter_le _ _
  rw [List.length_take] at h1
  omega
def FrsPost (w : World) (l : List (Int × Int × Int)) (e : Ending) (w' : World) : Prop := ∃ v, e = .returned v ∧ Sl w' w'.heap.size 3 v l.length (eds l) ∧ Below w.heap.size w w'
set_option maxRecDepth 100000 in
set_option maxHeartbeats 8000000 in
theorem tforest_any {n k : Int} {v : Value} {m : Nat} {l : List (Int × Int × Int)} {w : World} (hs : Sl w w.heap.size 3 v m (eds l)) (ht : TabR n l) (hm : m ≤ 1000000) :
    Calls Try.prog 47 #[.int .i64 n, v, .int .i64 k] w (FrsPost w (frs k l)) := by
  have hl : l.length = m := by have := hs.len; rw [len_eds] at this; omega
  have HS := hid hs
  have HT := hid ht
  obtain ⟨A, c, rfl, hnc, hcm, hll, hx⟩ := hs
  have HX := hid hx
  have HL := hid hl
  clear hx hll hl ht hcm hnc
  go_enter Try.func47, Try.ntmps47
  go_wp2_with fail
  refine (tright_is HS.out true ⟨fun _ => rfl, fun _ => HT.out⟩).mono ?_; rintro e w2 ⟨rfl, b2⟩
  have HB2 := hid b2
  clear b2
  go_wp2_with fail
  go_loopw [7, 16] (fun ov iv wr => ∃ (i q : Nat), i ≤ m ∧ iv = .int .i64 (i : Int) ∧ q ≤ i ∧ Hid ((frs k (l.take i)).length = q) ∧ Hid (wr.ownsRow w2.heap.size 61 3 ov q (eds (frs k (l.take i)))) ∧ Hid (Below w2.heap.size w2 wr)) (fun _ iv _ => m - (intOf iv).toNat)
  case atStart => exact ⟨0, 0, Nat.zero_le _, rfl, Nat.le_refl _, hid rfl, hid (World.ownsRow_nil _ _ _ _), hid (Below.refl _ _)⟩
  case round =>
    obtain ⟨i, q, hi, rfl, hqi, HQ, HO, HB⟩ := hrel
    by_cases hlt : i < m
    · have j0 : (i : Int) < (m : Int) := by omega
      have hil : i < l.length := by rw [HL.out]; exact hlt
      obtain ⟨b6, o6, rfl, hb6, hc6⟩ := HX.out (by omega)
      obtain ⟨p0, p1, p2⟩ := eds_cell hc6 hil
      have hb7 := Nat.lt_of_lt_of_le hb6 HB2.out.size
      have q0 := (HB.out.cell (p := ⟨b6, o6 + i * 3, none⟩) hb7).trans ((HB2.out.cell (p := ⟨b6, o6 + i * 3, none⟩) hb6).trans p0)
      have q1 := (HB.out.cell (p := ⟨b6, o6 + i * 3 + 1, none⟩) hb7).trans ((HB2.out.cell (p := ⟨b6, o6 + i * 3 + 1, none⟩) hb6).trans p1)
      have q2 := (HB.out.cell (p := ⟨b6, o6 + i * 3 + 2, none⟩) hb7).trans ((HB2.out.cell (p := ⟨b6, o6 + i * 3 + 2, none⟩) hb6).trans p2)
      have HY := hid (fun h => frs_yes (k := k) hil h)
      have HNO := hid (fun h => frs_no (k := k) hil h)
      obtain ⟨e, he⟩ : ∃ e, e = l[i] := ⟨_, rfl⟩
      rw [← he] at q0 q1 q2 HNO HY
      obtain ⟨x, y, t⟩ := e
      dsimp only at q0 q1 q2
      clear he p0 p1 p2 hc6 hb7
      have HBN := hid (HB.out.alloc HB.out.size (.cells #[.int .i64 x, .int .i64 y, .int .i64 t] 61))
      by_cases ht : 1 ≤ t ∧ t ≤ k
      · obtain ⟨t1, t2⟩ := ht
        have HN := hid (HY.out ⟨t1, t2⟩)
        have HO2 := hid (HO.out.alloc (.cells #[.int .i64 x, .int .i64 y, .int .i64 t] 61))
        have HH : Hid ((wr.alloc (.cells #[.int .i64 x, .int .i64 y, .int .i64 t] 61)).heap.size = wr.heap.size + 1) := hid (by simp)
        have HZ := hid HBN.out.size
        have hby : (q + 1) * 24 ≤ 140737488355328 := by omega
        clear HY HNO
        go_wp2_with (at_builtin; (refine wl_app1H rfl _ _ Tedg rfl (news := [.int .i64 x, .int .i64 y, .int .i64 t]) rfl HO2.out rfl HH.out rfl (eds_one [(x, y, t)]) hby HZ.out ?_))
        intro v9 w9 o9 b9
        have O9 : Hid (w9.ownsRow w2.heap.size 61 3 v9 (q + 1) (eds (frs k (l.take (i + 1))))) := hid (by rw [HN.out, ← eds_app]; exact o9)
        have HQ9 : Hid ((frs k (l.take (i + 1))).length = q + 1) := hid (by rw [HN.out, List.length_append, HQ.out]; rfl)
        have B9 := hid (HBN.out.trans b9)
        clear o9 b9
        go_wp2_with fail
        go_roundw
        case rel => exact ⟨i + 1, q + 1, by omega, by go_num, by omega, HQ9, O9, B9⟩
        case measure => simp [intOf]; omega
      · have HN := hid (HNO.out ht)
        have HO2 := hid (HO.out.alloc (.cells #[.int .i64 x, .int .i64 y, .int .i64 t] 61))
        clear HY HNO
        by_cases t1 : 1 ≤ t
        · have t2 : ¬ t ≤ k := fun h => ht ⟨t1, h⟩
          clear ht
          go_wp2_with fail
          go_roundw
          case rel => exact ⟨i + 1, q, by omega, by go_num, by omega, hid (by rw [HN.out]; exact HQ.out), hid (by rw [HN.out]; exact HO2.out), HBN⟩
          case measure => simp [intOf]; omega
        · clear ht
          go_wp2_with fail
          go_roundw
          case rel => exact ⟨i + 1, q, by omega, by go_num, by omega, hid (by rw [HN.out]; exact HQ.out), hid (by rw [HN.out]; exact HO2.out), HBN⟩
          case measure => simp [intOf]; omega
    · have j0 : ¬ (i : Int) < (m : Int) := by omega
      obtain rfl : i = m := by omega
      have HF : Hid (frs k (l.take i) = frs k l) := hid (by rw [List.take_of_length_le (by rw [HL.out]; exact Nat.le_refl _)])
      go_wp2
      go_ret
      exact ⟨_, rfl, by have h1 := Sl.of_own HO.out; have h2 := HQ.out; rw [HF.out] at h1 h2; rw [h2]; exact h1, HB2.out.trans (HB.out.mono HB2.out.size)⟩
end Go.Proofs.Ytbafbnkmmpaomaa
