/- The walk of the law PartLeast. -/
import Derived.Test.YtkhgjffhelofdaaPartL
import Derived.Deep.RegionHeld3
namespace Go.Proofs.Ytkhgjffhelofdaa
open Go.RowKit Pt
set_option linter.unusedVariables false

/-- Boundaries of an integer slice, opened. -/
theorem sl_ints_open {w : World} {B n : Nat} {v : Value} {p : List Int} (hs : Sl w B 1 v n (ints p)) :
    p.length = n ∧ ∃ A c, v = .slice A n c ∧ n ≤ c ∧ c ≤ maxLen ∧ (0 < n → ∃ b o, A = some ⟨b, o, none⟩ ∧ b < B ∧ ∀ j u, (ints p)[j]? = some u → w.cell? ⟨b, o + j, none⟩ = some u) := by
  obtain ⟨A, c, rfl, hnc, hcm, hl, hx⟩ := hs
  exact ⟨by rw [len_ints] at hl; omega, A, c, rfl, hnc, hcm, hx⟩
theorem class_in {v : Value} {n B : Nat} {p : List Int} {u : Int} {w : World} (hR : Rt p) (hu : InR p.length u) (hs : Sl w B 1 v n (ints p)) (hB : B ≤ w.heap.size) (hr : n ≤ 17592186044416) :
    Calls Try.prog 18 #[v, .int .i64 u] w fun e w' => ∃ v' m, e = .returned v' ∧ Sl w' w'.heap.size 1 v' m (ints (clK p u p.length)) ∧ Below w.heap.size w w' :=
  (class_any v n B p u w hs hB hr).mono fun e w' ⟨v', he, ho, hb⟩ => ⟨v', _, he, by rw [← classL_eq hR hu]; exact Sl.of_own ho, hb⟩

set_option maxRecDepth 100000 in
set_option maxHeartbeats 4000000 in
theorem partLeast_walk (v : Value) (n : Nat) (p : List Int) (w : World) (hs : Sl w w.heap.size 1 v n (ints p)) (hp : ∀ e ∈ p, wfI e) :
    Calls Try.prog 7 #[v] w (IsTrue w) := by
  clear hp
  have HS := hid hs
  obtain ⟨hn, A, cp, rfl, hnc, hcm, hx⟩ := sl_ints_open hs
  subst hn
  have HX := hid hx
  clear hx hcm hs
  by_cases h1 : 60 < p.length
  · have h1' : (60 : Int) < (p.length : Int) := by omega
    go_enter Try.func7, Try.ntmps7
    go_wp2_with fail
    refine (awake_any _).mono ?_; rintro e w' ⟨rfl, hb⟩
    go_wp2
    go_ret
    exact ⟨rfl, hb⟩
  have h1' : ¬ (60 : Int) < (p.length : Int) := by omega
  cases hr : rightB p
  · have HR := hid hr
    clear hr
    go_enter Try.func7, Try.ntmps7
    go_wp2_with fail
    refine (right_is false HR.out HS.out).mono ?_; rintro e w' ⟨rfl, rfl⟩
    go_wp2_with fail
    refine (awake_any _).mono ?_; rintro e w' ⟨rfl, hb⟩
    go_wp2
    go_ret
    exact ⟨rfl, hb⟩
  have HR := hid hr
  have HRt := hid ((rightB_iff p).1 hr)
  clear hr
  go_enter Try.func7, Try.ntmps7
  go_wp2_with fail
  refine (right_is true HR.out HS.out).mono ?_; rintro e w' ⟨rfl, rfl⟩
  go_wp2_with fail
  go_loopw [20] (fun i wr => ∃ k : Nat, k ≤ p.length ∧ i = .int .i64 k ∧ Below w.heap.size w wr) (fun i _ => p.length - (intOf i).toNat)
  case atStart => exact ⟨0, Nat.zero_le _, rfl, Below.refl _ _⟩
  case round =>
    obtain ⟨k, hk, rfl, hbel⟩ := hrel
    obtain ⟨wo, hwo⟩ : ∃ wo : World, wo = wr := ⟨_, rfl⟩
    subst hwo
    by_cases hlt : k < p.length
    · have hS0 := HS.out.call hbel
      have hkr : InR p.length (k : Int) := ⟨by omega, by omega⟩
      have HKR := hid hkr
      obtain ⟨b, o, rfl, hb, hc⟩ := HX.out (by omega)
      have HC := hid hc
      have HB := hid hbel
      clear hkr hc hbel
      go_wp2_with fail
      refine (class_in HRt.out HKR.out hS0 (Nat.le_refl _) (by omega)).mono ?_; rintro e w1 ⟨vc, m, rfl, hC1, hb1⟩
      have hB1 := hid (Bl.call HB.out hb1)
      have hCS := hid hC1
      have hF := hid (first_clK HRt.out HKR.out)
      have hMem : Hid ((k : Int) ∈ clK p (k : Int) p.length) := hid (mem_clK.2 ⟨HKR.out, rfl⟩)
      have hAsc := hid (asc_clK p (k : Int) p.length)
      have hSC : Hid (∀ x, InR p.length x → (clK p x p.length == clK p (k : Int) p.length) = decide (g p (k : Int) = g p x)) := hid (fun x hx => same_class HRt.out HKR.out hx)
      clear hS0 hb1
      obtain ⟨hcl, A1, c1, rfl, hnc1, hcm1, hx1⟩ := sl_ints_open hC1
      subst hcl
      have HX1 := hid hx1
      have hml : (clK p (k : Int) p.length).length ≤ p.length := clK_le _ _ _
      clear hx1 hcm1 hC1
      generalize clK p (k : Int) p.length = cl at *
      go_wp2_with fail
      go_loop [5, 28] (fun a i => ∃ j : Nat, j ≤ cl.length ∧ i = .int .i64 j ∧ a = .bool (inB cl (k : Int) j)) (fun _ i => cl.length - (intOf i).toNat)
      case atStart => exact ⟨0, Nat.zero_le _, rfl, rfl⟩
      case round =>
        obtain ⟨j, hj, rfl, rfl⟩ := hrel
        by_cases hjl : j < cl.length
        · obtain ⟨b', o', rfl, hb', hc'⟩ := HX1.out (by omega)
          have d1 := ints_cell hc' hjl
          have d0 : 0 < j → w1.cell? ⟨b', o' + (j - 1), none⟩ = some (.int .i64 (cl.getD (j - 1) 0)) := fun _ => ints_cell hc' (by omega)
          have hST := hid (inB_step cl (k : Int) hjl)
          have hA : Hid (0 < j → cl.getD (j - 1) 0 < cl.getD j 0) := hid (fun h => asc_at hAsc.out h hjl)
          clear hc'
          have hJ0 : (cl.getD j 0 == (k : Int)) = true ∨ (cl.getD j 0 == (k : Int)) = false := by cases (cl.getD j 0 == (k : Int)) <;> simp
          by_cases hj0 : 0 < j
          · have d0' := d0 hj0
            have hlt' := hA.out hj0
            clear d0 hA
            generalize cl.getD (j - 1) 0 = y at *
            generalize cl.getD j 0 = x at *
            cases hq : inB cl (k : Int) j
            · have HQ := hid hq
              clear hq
              rcases hJ0 with h | h
              all_goals
                go_wp2
                go_round
                case rel => exact ⟨j + 1, by omega, by go_num, by rw [hST.out, HQ.out]; simp [h]⟩
                case measure => simp [intOf]; omega
            · have HQ := hid hq
              clear hq hJ0
              go_wp2
              go_round
              case rel => exact ⟨j + 1, by omega, by go_num, by rw [hST.out, HQ.out]; simp⟩
              case measure => simp [intOf]; omega
          · clear d0 hA
            generalize cl.getD j 0 = x at *
            have hj0' : j = 0 := by omega
            subst hj0'
            rw [Nat.add_zero] at d1
            clear hj0
            cases hq : inB cl (k : Int) 0
            · have HQ := hid hq
              clear hq
              rcases hJ0 with h | h
              all_goals
                go_wp2
                go_round
                case rel => exact ⟨1, by omega, rfl, by rw [hST.out, HQ.out]; simp [h]⟩
                case measure => simp [intOf]; omega
            · have HQ := hid hq
              clear hq hJ0
              go_wp2
              go_round
              case rel => exact ⟨1, by omega, rfl, by rw [hST.out, HQ.out]; simp⟩
              case measure => simp [intOf]; omega
        · obtain rfl : j = cl.length := by omega
          have hin : inB cl (k : Int) cl.length = true := inB_all hMem.out
          obtain ⟨b', o', rfl, hb', hc'⟩ := HX1.out hF.out.1
          have d1 := ints_cell hc' hF.out.1
          rw [hF.out.2, Nat.add_zero] at d1
          have d2 := (hB1.out.cell (p := ⟨b, o + k, none⟩) (by show b < _; omega)).trans (ints_cell HC.out hlt)
          have hgk : p.getD k 0 = g p (k : Int) := by simp [g]
          rw [hgk] at d2
          have hcl0 : (0 : Int) < (cl.length : Int) := by have := hF.out.1; omega
          have i1 : (k : Int) < p.length := by omega
          clear hgk hc'
          have hne : (g p (k : Int) != g p (k : Int)) = false := by simp
          generalize hG : g p (k : Int) = gk at *
          have HGk := hid hG
          clear hG
          go_wp2_with fail
          go_quiet (fail)
          go_wp2
          have hS2 := hid (HS.out.below hB1.out (Nat.le_refl _))
          clear d1 d2
          go_loopw [65] (fun i wr => ∃ j : Nat, j ≤ p.length ∧ i = .int .i64 j ∧ Below w1.heap.size w1 wr) (fun i _ => p.length - (intOf i).toNat)
          case atStart => exact ⟨0, Nat.zero_le _, rfl, ((Qt.refl _).drewN _).below _⟩
          case round =>
            obtain ⟨j, hj, rfl, hbw⟩ := hrel
            by_cases hjl : j < p.length
            · have hjr : InR p.length (j : Int) := ⟨by omega, by omega⟩
              have hJR := hid hjr
              have hsz := hB1.out.size
              have e2 := (hbw.cell (p := ⟨b, o + k, none⟩) (by show b < _; omega)).trans ((hB1.out.cell (p := ⟨b, o + k, none⟩) (by show b < _; omega)).trans (ints_cell HC.out hlt))
              have e3 := (hbw.cell (p := ⟨b, o + j, none⟩) (by show b < _; omega)).trans ((hB1.out.cell (p := ⟨b, o + j, none⟩) (by show b < _; omega)).trans (ints_cell HC.out hjl))
              have hgk : p.getD k 0 = gk := by rw [← HGk.out]; simp [g]
              have hgx : p.getD j 0 = g p (j : Int) := by simp [g]
              have hSp := hid ((hS2.out.below hbw hsz).more (Nat.le_trans hsz hbw.size))
              have hSc := hid ((hCS.out.below hbw (Nat.le_refl _)).more hbw.size)
              rw [hgk] at e2
              rw [hgx] at e3
              have hT := hid (hSC.out (j : Int) hjr)
              have i2 : (j : Int) < p.length := by omega
              have HBW := hid hbw
              clear hgk hgx hjr hbw hsz
              generalize hX : g p (j : Int) = x at *
              clear hX
              by_cases he : gk = x
              · have q1 : (gk == x) = true := by simp [he]
                have hTT : Hid ((clK p (j : Int) p.length == cl) = true) := hid (by rw [hT.out]; simp [he])
                clear he hT
                go_wp2_with fail
                go_region_held3 (fun w' => w'.cell? ⟨b, o + k, none⟩ = some (.int .i64 gk) ∧ w'.cell? ⟨b, o + j, none⟩ = some (.int .i64 x))
                  (first | go_keep | (go_split_ands; refine ⟨?_, ?_⟩ <;> (refine cell_later hb2 ?_; assumption)) | (go_split_ands; refine ⟨?_, ?_⟩ <;> (rw [hq2.cell]; assumption)))
                  (first | (go_at_call 18; refine (class_in HRt.out hJR.out (hSp.out.qt ⟨1, rfl⟩) (Nat.le_refl _) (by omega)).mono ?_; rintro e w' ⟨v2, m2, rfl, hC2, hb2⟩) | (go_at_call 12; refine (same_is true hTT.out hC2 ((hSc.out.qt ⟨1, rfl⟩).call hb2)).mono ?_; rintro e w' ⟨rfl, hq2⟩))
                go_wp2
                go_roundw
                case rel => exact ⟨j + 1, by omega, by go_num, Bl.qt (Bl.call (Bl.qt HBW.out ⟨1, rfl⟩) hb2) hq2⟩
                case measure => simp [intOf]; omega
              · have q1 : (gk == x) = false := by simp [he]
                have hTT : Hid ((clK p (j : Int) p.length == cl) = false) := hid (by rw [hT.out]; simp [he])
                clear he hT
                go_wp2_with fail
                go_region_held3 (fun w' => w'.cell? ⟨b, o + k, none⟩ = some (.int .i64 gk) ∧ w'.cell? ⟨b, o + j, none⟩ = some (.int .i64 x))
                  (first | go_keep | (go_split_ands; refine ⟨?_, ?_⟩ <;> (refine cell_later hb2 ?_; assumption)) | (go_split_ands; refine ⟨?_, ?_⟩ <;> (rw [hq2.cell]; assumption)))
                  (first | (go_at_call 18; refine (class_in HRt.out hJR.out (hSp.out.qt ⟨1, rfl⟩) (Nat.le_refl _) (by omega)).mono ?_; rintro e w' ⟨v2, m2, rfl, hC2, hb2⟩) | (go_at_call 12; refine (same_is false hTT.out hC2 ((hSc.out.qt ⟨1, rfl⟩).call hb2)).mono ?_; rintro e w' ⟨rfl, hq2⟩))
                go_wp2
                go_roundw
                case rel => exact ⟨j + 1, by omega, by go_num, Bl.qt (Bl.call (Bl.qt HBW.out ⟨1, rfl⟩) hb2) hq2⟩
                case measure => simp [intOf]; omega
            · obtain rfl : j = p.length := by omega
              have HBW := hid hbw
              clear hbw
              go_wp2
              go_roundw
              case rel => exact ⟨k + 1, by omega, by go_num, Bl.call hB1.out HBW.out⟩
              case measure => simp [intOf]; omega
    · obtain rfl : k = p.length := by omega
      go_wp2_with fail
      refine (awake_any _).mono ?_; rintro e w2 ⟨rfl, hb2⟩
      go_wp2
      go_ret
      exact ⟨rfl, Bl.call hbel hb2⟩
end Go.Proofs.Ytkhgjffhelofdaa
