/- The walk of the law PartNone. -/
import Derived.Test.YtkhgjffhelofdaaPartM
import Derived.Test.YtkhgjffhelofdaaPartLaws2
namespace Go.Proofs.Ytkhgjffhelofdaa
open Go.RowKit Pt
set_option linter.unusedVariables false

/-- []Edge -/
theorem Teds : SlT 22 33 (.agg #[.int .i64 0, .int .i64 0, .int .i64 0]) 3 24 := SlT.mk Try.underlying22 (by kernel_rfl) rfl (by decide) (by decide)

set_option maxRecDepth 100000 in
set_option maxHeartbeats 4000000 in
theorem partNone_walk (a : Int) (w : World) (ha : 0 ≤ a ∧ a ≤ 255) :
    Calls Try.prog 8 #[.int .u8 a] w (IsTrue w) := by
  obtain ⟨a0, a1⟩ := ha
  obtain ⟨k, hk⟩ : ∃ k : Nat, a % 61 = (k : Int) := ⟨(a % 61).toNat, by omega⟩
  have hk60 : k ≤ 60 := by omega
  go_enter Try.func8, Try.ntmps8
  go_wp2
  clear hk
  go_loopw [4, 5] (fun l i wr => ∃ m : Nat, m ≤ k - 1 ∧ i = .int .i64 ((m : Int) + 1) ∧ wr.ownsRow w.heap.size 33 3 l m (eds (chain m)) ∧ Below w.heap.size w wr) (fun _ i _ => k - (intOf i).toNat)
  case atStart => exact ⟨0, Nat.zero_le _, rfl, World.ownsRow_nil _ _ _ _, Below.refl _ _⟩
  case round =>
    obtain ⟨m, hm, rfl, hown, hbel⟩ := hrel
    have hsz := hbel.size
    by_cases hlt : m + 1 < k
    · have e1 : (m : Int) + 1 < k := by omega
      go_wp2_with (at_builtin; refine wl_app1 rfl _ _ Teds rfl (news := eds [((m : Int) + 1, (m : Int), 0)]) rfl hown rfl rfl (eds_one _) (by omega) hsz ?_)
      intro v' w' hown' hbel'
      go_wp2
      go_roundw
      case rel =>
        refine ⟨m + 1, by omega, by go_num, ?_, hbel.trans hbel'⟩
        rw [← chain_snoc, ← eds_app]
        exact hown'
      case measure => simp [intOf]; omega
    · have e1 : ¬ (m : Int) + 1 < k := by omega
      obtain rfl : m = k - 1 := by omega
      have hL := hid (Sl.of_own hown)
      have hB := hid hbel
      clear hown hbel
      have HMc := hid ((mayB_iff k (chain (k - 1))).2 (may_chain k))
      go_wp2_with fail
      refine (of_ok (n := k) (l := []) (by omega) (Sl.none_ wr wr.heap.size 3) (Nat.le_refl _) rfl).mono ?_; rintro e w1 ⟨v1, rfl, hP1, hb1⟩
      have hL1 := hid (hL.out.call hb1)
      have hB1 := hid (Bl.call hB.out hb1)
      have hP1' : Sl w1 w1.heap.size 1 v1 k (ints (idl k)) := hP1
      have HP1 := hid hP1'
      clear hP1 hb1 hP1' hL hB
      go_wp2_with fail
      refine (of_ok (n := k) (by omega) hL1.out (Nat.le_refl _) HMc.out).mono ?_; rintro e w2 ⟨v2, rfl, hQ2, hb2⟩
      rw [chain_part] at hQ2
      have hB2 := hid (Bl.call hB1.out hb2)
      have hP2 := HP1.out.call hb2
      have HP2 := hid hP2
      have HQ2 := hid hQ2
      obtain ⟨_, A1, c1, rfl, hn1, _, hx1⟩ := sl_ints_open hP2
      obtain ⟨_, A2, c2, rfl, hn2, _, hx2⟩ := sl_ints_open hQ2
      have HX1 := hid hx1
      have HX2 := hid hx2
      clear hx1 hx2 hP2 hQ2 hb2 hL1 hB1 HP1 HMc hlt e1 hm hsz
      go_wp2_with fail
      go_loopw [48] (fun i wr => ∃ j : Nat, j ≤ k ∧ i = .int .i64 j ∧ wr = w2) (fun i _ => k - (intOf i).toNat)
      case atStart => exact ⟨0, Nat.zero_le _, rfl, rfl⟩
      case round =>
        obtain ⟨j, hj, rfl, rfl⟩ := hrel
        by_cases hjk : j < k
        · obtain ⟨b1, o1, rfl, _, hc1⟩ := HX1.out (by omega)
          obtain ⟨b2, o2, rfl, _, hc2⟩ := HX2.out (by omega)
          have d1 := ints_cell hc1 (k := j) (by rw [len_idl]; exact hjk)
          have d2 := ints_cell hc2 (k := j) (by simpa using hjk)
          have g1 : (idl k).getD j 0 = (j : Int) := by
            have := g_idl (n := k) (v := (j : Int)) ⟨by omega, by omega⟩
            simpa [g] using this
          have g2 : (List.replicate k (0 : Int)).getD j 0 = 0 := by
            have := g_rep (k := k) (j : Int)
            simpa [g] using this
          rw [g1] at d1
          rw [g2] at d2
          clear hc1 hc2 g1 g2
          go_wp2
          go_roundw
          case rel => exact ⟨j + 1, by omega, by go_num, by first | rfl | trivial⟩
          case measure => simp [intOf]; omega
        · obtain rfl : j = k := by omega
          go_wp2_with fail
          refine (many_is (j : Int) (by rw [many_idl]) HP2.out).mono ?_; rintro e w' ⟨rfl, rfl⟩
          have hmn : Hid ((manyZ (List.replicate j (0 : Int)) : Int) = if 1 < (j : Int) then 1 else (j : Int)) := hid (by rw [many_rep]; split <;> omega)
          by_cases hj1 : 1 < (j : Int)
          · have hm1 := hmn.out
            rw [if_pos hj1] at hm1
            have HM1 := hid hm1
            clear hm1 hmn
            go_wp2_with fail
            refine (many_is 1 HM1.out HQ2.out).mono ?_; rintro e w' ⟨rfl, rfl⟩
            go_wp2_with fail
            refine (refines_is true (refines_rep j) HP2.out HQ2.out).mono ?_; rintro e w3 ⟨rfl, hq3⟩
            have hB3 := Bl.qt hB2.out hq3
            clear hq3
            go_wp2_with fail
            refine (awake_any _).mono ?_; rintro e w4 ⟨rfl, hb4⟩
            go_wp2
            go_ret
            exact ⟨rfl, Bl.call hB3 hb4⟩
          · have hm1 := hmn.out
            rw [if_neg hj1] at hm1
            have HM1 := hid hm1
            clear hm1 hmn
            go_wp2_with fail
            refine (many_is (j : Int) HM1.out HQ2.out).mono ?_; rintro e w' ⟨rfl, rfl⟩
            go_wp2_with fail
            refine (refines_is true (refines_rep j) HP2.out HQ2.out).mono ?_; rintro e w3 ⟨rfl, hq3⟩
            have hB3 := Bl.qt hB2.out hq3
            clear hq3
            go_wp2_with fail
            refine (awake_any _).mono ?_; rintro e w4 ⟨rfl, hb4⟩
            go_wp2
            go_ret
            exact ⟨rfl, Bl.call hB3 hb4⟩
end Go.Proofs.Ytkhgjffhelofdaa
