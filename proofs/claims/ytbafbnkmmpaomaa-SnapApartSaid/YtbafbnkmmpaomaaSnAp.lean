/- The walk of SnapApart. -/
import Derived.Test.YtbafbnkmmpaomaaSnW
namespace Go.Proofs.Ytbafbnkmmpaomaa
open Go.RowKit
set_option linter.unusedVariables false
set_option linter.unusedSimpArgs false
attribute [local go_sem ↓] Go.wp_at_zero Go.wp_at_succ
theorem save_inj {s t : Sn.St} (hs : Sn.Ok s) (ht : Sn.Ok t) (h : Sn.save s = Sn.save t) : s = t := by
  have h2 := Sn.told_save hs
  rw [h, Sn.told_save ht] at h2
  exact h2.symm
set_option maxRecDepth 100000 in
set_option maxHeartbeats 32000000 in
theorem snapApart_walk (S : Sn.St) (vh ve vs : Value) (nh ne ns : Nat) (St : Sn.St) (vht vet vst : Value) (nht net nst : Nat) (w : World) (p1 : Sl w w.heap.size 2 vh nh (hcz S.hs)) (p2 : Sl w w.heap.size 3 ve ne (eds S.es)) (p3 : Sl w w.heap.size 2 vs ns (sls S.ss)) (p4 : Wide S) (pt1 : Sl w w.heap.size 2 vht nht (hcz St.hs)) (pt2 : Sl w w.heap.size 3 vet net (eds St.es)) (pt3 : Sl w w.heap.size 2 vst nst (sls St.ss)) (pt4 : Wide St) : Calls Try.prog 7 #[stV S.N S.L S.R vh ve vs, stV St.N St.L St.R vht vet vst] w (IsTrue w) := by
  have T1 := hid p1
  have m1 := p1.max
  have T2 := hid p2
  have m2 := p2.max
  have T3 := hid p3
  have m3 := p3.max
  have W := hid p4
  obtain ⟨A1, c1, rfl, -⟩ := p1
  obtain ⟨A2, c2, rfl, -⟩ := p2
  obtain ⟨A3, c3, rfl, -⟩ := p3
  clear p4
  have Tt1 := hid pt1
  have mt1 := pt1.max
  have Tt2 := hid pt2
  have mt2 := pt2.max
  have Tt3 := hid pt3
  have mt3 := pt3.max
  have Wt := hid pt4
  obtain ⟨At1, ct1, rfl, -⟩ := pt1
  obtain ⟨At2, ct2, rfl, -⟩ := pt2
  obtain ⟨At3, ct3, rfl, -⟩ := pt3
  clear pt4
  have HB := hid (Below.refl w.heap.size w)
  unfold stV
  obtain ⟨w1, hw1⟩ : ∃ W, W = w.alloc (.cells #[.int .i64 S.N, .int .i64 S.L, .int .i64 S.R, .slice A1 nh c1, .slice A2 ne c2, .slice A3 ns c3] 30) := ⟨_, rfl⟩
  obtain ⟨K, hK⟩ : ∃ K, K = w.heap.size := ⟨_, rfl⟩
  have b_ : Below w.heap.size w w1 := by rw [hw1]; exact bel_new _ _
  replace T1 := hid (T1.out.call b_)
  replace T2 := hid (T2.out.call b_)
  replace T3 := hid (T3.out.call b_)
  replace Tt1 := hid (Tt1.out.call b_)
  replace Tt2 := hid (Tt2.out.call b_)
  replace Tt3 := hid (Tt3.out.call b_)
  replace HB := hid (Bl.call HB.out b_)
  have D : Hid (Blk w1 K 30 [.int .i64 S.N, .int .i64 S.L, .int .i64 S.R, .slice A1 nh c1, .slice A2 ne c2, .slice A3 ns c3]) := hid (by rw [hw1, hK]; exact Blk.new _ _ _)
  have Qw1 := hid hw1
  have QK := hid hK
  clear b_ hw1 hK
  obtain ⟨w2, hw2⟩ : ∃ W, W = w1.alloc (.cells #[.int .i64 St.N, .int .i64 St.L, .int .i64 St.R, .slice At1 nht ct1, .slice At2 net ct2, .slice At3 nst ct3] 30) := ⟨_, rfl⟩
  obtain ⟨Kt, hKt⟩ : ∃ K, K = w1.heap.size := ⟨_, rfl⟩
  have b_ : Below w1.heap.size w1 w2 := by rw [hw2]; exact bel_new _ _
  replace T1 := hid (T1.out.call b_)
  replace T2 := hid (T2.out.call b_)
  replace T3 := hid (T3.out.call b_)
  replace Tt1 := hid (Tt1.out.call b_)
  replace Tt2 := hid (Tt2.out.call b_)
  replace Tt3 := hid (Tt3.out.call b_)
  replace D := hid (D.out.below b_ D.out.lt)
  replace HB := hid (Bl.call HB.out b_)
  have Dt : Hid (Blk w2 Kt 30 [.int .i64 St.N, .int .i64 St.L, .int .i64 St.R, .slice At1 nht ct1, .slice At2 net ct2, .slice At3 nst ct3]) := hid (by rw [hw2, hKt]; exact Blk.new _ _ _)
  have Qw2 := hid hw2
  have QKt := hid hKt
  clear b_ hw2 hKt
  have zK : K + 1 = Kt := by rw [QKt.out, QK.out, Qw1.out]; simp
  have ZK := hid zK
  clear zK
  go_enter Try.func7, Try.ntmps7
  go_wp2_with fail
  rw [← QK.out, ← Qw1.out, ← Qw2.out]
  rw [ZK.out]
  by_cases hsm : SmS S.N S.L S.R nh ne ns
  case neg =>
    have HF : Hid (SmS S.N S.L S.R nh ne ns ↔ false = true) := hid (by simp only [hsm]; simp)
    clear hsm
    refine (small_is m1 m2 false HF.out).mono ?_; rintro e w3 ⟨rfl, b_⟩
    replace T1 := hid (T1.out.call b_)
    replace T2 := hid (T2.out.call b_)
    replace T3 := hid (T3.out.call b_)
    replace Tt1 := hid (Tt1.out.call b_)
    replace Tt2 := hid (Tt2.out.call b_)
    replace Tt3 := hid (Tt3.out.call b_)
    replace D := hid (D.out.below b_ D.out.lt)
    replace Dt := hid (Dt.out.below b_ Dt.out.lt)
    replace HB := hid (Bl.call HB.out b_)
    clear b_
    go_wp2_with fail
    refine (awake_any _).mono ?_; rintro e w4 ⟨rfl, b_⟩
    replace T1 := hid (T1.out.call b_)
    replace T2 := hid (T2.out.call b_)
    replace T3 := hid (T3.out.call b_)
    replace Tt1 := hid (Tt1.out.call b_)
    replace Tt2 := hid (Tt2.out.call b_)
    replace Tt3 := hid (Tt3.out.call b_)
    replace D := hid (D.out.below b_ D.out.lt)
    replace Dt := hid (Dt.out.below b_ Dt.out.lt)
    replace HB := hid (Bl.call HB.out b_)
    clear b_
    go_wp2
    go_ret
    exact ⟨rfl, HB.out⟩
  case pos =>
    have HLE : Hid (ne ≤ 100000 ∧ ne ≤ 1000000 ∧ ns ≤ 100000 ∧ nh ≤ 100000) := hid (by have := hsm.1.2.2.2.1; have := hsm.1.2.2.2.2; have := hsm.2; omega)
    have HES : Hid (S.es.length ≤ 100000) := hid (by have h1 := T2.out.len; rw [len_eds] at h1; have := HLE.out; omega)
    have HSM := hid hsm
    clear hsm
    refine (small_is m1 m2 true ⟨fun _ => rfl, fun _ => HSM.out⟩).mono ?_; rintro e w3 ⟨rfl, b_⟩
    replace T1 := hid (T1.out.call b_)
    replace T2 := hid (T2.out.call b_)
    replace T3 := hid (T3.out.call b_)
    replace Tt1 := hid (Tt1.out.call b_)
    replace Tt2 := hid (Tt2.out.call b_)
    replace Tt3 := hid (Tt3.out.call b_)
    replace D := hid (D.out.below b_ D.out.lt)
    replace Dt := hid (Dt.out.below b_ Dt.out.lt)
    replace HB := hid (Bl.call HB.out b_)
    clear b_
    by_cases hsmt : SmS St.N St.L St.R nht net nst
    case neg =>
      have HF : Hid (SmS St.N St.L St.R nht net nst ↔ false = true) := hid (by simp only [hsmt]; simp)
      clear hsmt
      have x0 := Dt.out.cell 0
      have x1 := Dt.out.cell 1
      have x2 := Dt.out.cell 2
      have x3 := Dt.out.cell 3
      have x4 := Dt.out.cell 4
      have x5 := Dt.out.cell 5
      go_wp2_with fail
      refine (small_is mt1 mt2 false HF.out).mono ?_; rintro e w4 ⟨rfl, b_⟩
      replace T1 := hid (T1.out.call b_)
      replace T2 := hid (T2.out.call b_)
      replace T3 := hid (T3.out.call b_)
      replace Tt1 := hid (Tt1.out.call b_)
      replace Tt2 := hid (Tt2.out.call b_)
      replace Tt3 := hid (Tt3.out.call b_)
      replace D := hid (D.out.below b_ D.out.lt)
      replace Dt := hid (Dt.out.below b_ Dt.out.lt)
      replace HB := hid (Bl.call HB.out b_)
      clear b_
      clear x0 x1 x2 x3 x4 x5
      go_wp2_with fail
      refine (awake_any _).mono ?_; rintro e w5 ⟨rfl, b_⟩
      replace T1 := hid (T1.out.call b_)
      replace T2 := hid (T2.out.call b_)
      replace T3 := hid (T3.out.call b_)
      replace Tt1 := hid (Tt1.out.call b_)
      replace Tt2 := hid (Tt2.out.call b_)
      replace Tt3 := hid (Tt3.out.call b_)
      replace D := hid (D.out.below b_ D.out.lt)
      replace Dt := hid (Dt.out.below b_ Dt.out.lt)
      replace HB := hid (Bl.call HB.out b_)
      clear b_
      go_wp2
      go_ret
      exact ⟨rfl, HB.out⟩
    case pos =>
      have HLEt : Hid (net ≤ 100000 ∧ net ≤ 1000000 ∧ nst ≤ 100000 ∧ nht ≤ 100000) := hid (by have := hsmt.1.2.2.2.1; have := hsmt.1.2.2.2.2; have := hsmt.2; omega)
      have HESt : Hid (St.es.length ≤ 100000) := hid (by have h1 := Tt2.out.len; rw [len_eds] at h1; have := HLEt.out; omega)
      have HSMt := hid hsmt
      clear hsmt
      have x0 := Dt.out.cell 0
      have x1 := Dt.out.cell 1
      have x2 := Dt.out.cell 2
      have x3 := Dt.out.cell 3
      have x4 := Dt.out.cell 4
      have x5 := Dt.out.cell 5
      go_wp2_with fail
      refine (small_is mt1 mt2 true ⟨fun _ => rfl, fun _ => HSMt.out⟩).mono ?_; rintro e w4 ⟨rfl, b_⟩
      replace T1 := hid (T1.out.call b_)
      replace T2 := hid (T2.out.call b_)
      replace T3 := hid (T3.out.call b_)
      replace Tt1 := hid (Tt1.out.call b_)
      replace Tt2 := hid (Tt2.out.call b_)
      replace Tt3 := hid (Tt3.out.call b_)
      replace D := hid (D.out.below b_ D.out.lt)
      replace Dt := hid (Dt.out.below b_ Dt.out.lt)
      replace HB := hid (Bl.call HB.out b_)
      clear b_
      clear x0 x1 x2 x3 x4 x5
      obtain ⟨s0, hs0⟩ : ∃ s0, s0 = str [] := ⟨_, rfl⟩
      have HE0 := hid hs0
      have e0 : s0.toList = [] := by rw [hs0, str_list]
      have E0 := hid e0
      clear hs0 e0
      obtain ⟨sv, hsv⟩ : ∃ sv, sv = str (Sn.save S) := ⟨_, rfl⟩
      have HSV := hid hsv
      clear hsv
      obtain ⟨svt, hsvt⟩ : ∃ sv, sv = str (Sn.save St) := ⟨_, rfl⟩
      have HSVt := hid hsvt
      clear hsvt
      by_cases hr : SRS S
      case neg =>
        have HR := hid hr
        clear hr
        by_cases hrt : SRS St
        all_goals have HRt := hid hrt
        all_goals clear hrt
        case pos =>
          have x0 := D.out.cell 0
          have x1 := D.out.cell 1
          have x2 := D.out.cell 2
          have x3 := D.out.cell 3
          have x4 := D.out.cell 4
          have x5 := D.out.cell 5
          go_wp2_with fail
          refine (save_no T1.out T2.out T3.out HLE.out.1 HR.out).mono ?_; rintro e w5 ⟨rfl, b_⟩
          replace T1 := hid (T1.out.call b_)
          replace T2 := hid (T2.out.call b_)
          replace T3 := hid (T3.out.call b_)
          replace Tt1 := hid (Tt1.out.call b_)
          replace Tt2 := hid (Tt2.out.call b_)
          replace Tt3 := hid (Tt3.out.call b_)
          replace D := hid (D.out.below b_ D.out.lt)
          replace Dt := hid (Dt.out.below b_ Dt.out.lt)
          replace HB := hid (Bl.call HB.out b_)
          clear b_
          clear x0 x1 x2 x3 x4 x5
          rw [← HE0.out]
          have x0 := Dt.out.cell 0
          have x1 := Dt.out.cell 1
          have x2 := Dt.out.cell 2
          have x3 := Dt.out.cell 3
          have x4 := Dt.out.cell 4
          have x5 := Dt.out.cell 5
          go_wp2_with fail
          refine (save_any Tt1.out Tt2.out Tt3.out HLEt.out.1 HRt.out Wt.out).mono ?_; rintro e w6 ⟨rfl, b_⟩
          replace T1 := hid (T1.out.call b_)
          replace T2 := hid (T2.out.call b_)
          replace T3 := hid (T3.out.call b_)
          replace Tt1 := hid (Tt1.out.call b_)
          replace Tt2 := hid (Tt2.out.call b_)
          replace Tt3 := hid (Tt3.out.call b_)
          replace D := hid (D.out.below b_ D.out.lt)
          replace Dt := hid (Dt.out.below b_ Dt.out.lt)
          replace HB := hid (Bl.call HB.out b_)
          clear b_
          clear x0 x1 x2 x3 x4 x5
          rw [← HSVt.out]
          have e0 := E0.out
          go_wp2_with fail
          refine (awake_any _).mono ?_; rintro e w7 ⟨rfl, b_⟩
          replace T1 := hid (T1.out.call b_)
          replace T2 := hid (T2.out.call b_)
          replace T3 := hid (T3.out.call b_)
          replace Tt1 := hid (Tt1.out.call b_)
          replace Tt2 := hid (Tt2.out.call b_)
          replace Tt3 := hid (Tt3.out.call b_)
          replace D := hid (D.out.below b_ D.out.lt)
          replace Dt := hid (Dt.out.below b_ Dt.out.lt)
          replace HB := hid (Bl.call HB.out b_)
          clear b_
          go_wp2
          go_ret
          exact ⟨rfl, HB.out⟩
        case neg =>
          have x0 := D.out.cell 0
          have x1 := D.out.cell 1
          have x2 := D.out.cell 2
          have x3 := D.out.cell 3
          have x4 := D.out.cell 4
          have x5 := D.out.cell 5
          go_wp2_with fail
          refine (save_no T1.out T2.out T3.out HLE.out.1 HR.out).mono ?_; rintro e w5 ⟨rfl, b_⟩
          replace T1 := hid (T1.out.call b_)
          replace T2 := hid (T2.out.call b_)
          replace T3 := hid (T3.out.call b_)
          replace Tt1 := hid (Tt1.out.call b_)
          replace Tt2 := hid (Tt2.out.call b_)
          replace Tt3 := hid (Tt3.out.call b_)
          replace D := hid (D.out.below b_ D.out.lt)
          replace Dt := hid (Dt.out.below b_ Dt.out.lt)
          replace HB := hid (Bl.call HB.out b_)
          clear b_
          clear x0 x1 x2 x3 x4 x5
          rw [← HE0.out]
          have x0 := Dt.out.cell 0
          have x1 := Dt.out.cell 1
          have x2 := Dt.out.cell 2
          have x3 := Dt.out.cell 3
          have x4 := Dt.out.cell 4
          have x5 := Dt.out.cell 5
          go_wp2_with fail
          refine (save_no Tt1.out Tt2.out Tt3.out HLEt.out.1 HRt.out).mono ?_; rintro e w6 ⟨rfl, b_⟩
          replace T1 := hid (T1.out.call b_)
          replace T2 := hid (T2.out.call b_)
          replace T3 := hid (T3.out.call b_)
          replace Tt1 := hid (Tt1.out.call b_)
          replace Tt2 := hid (Tt2.out.call b_)
          replace Tt3 := hid (Tt3.out.call b_)
          replace D := hid (D.out.below b_ D.out.lt)
          replace Dt := hid (Dt.out.below b_ Dt.out.lt)
          replace HB := hid (Bl.call HB.out b_)
          clear b_
          clear x0 x1 x2 x3 x4 x5
          rw [← HE0.out]
          have e0 := E0.out
          go_wp2_with fail
          refine (awake_any _).mono ?_; rintro e w7 ⟨rfl, b_⟩
          replace T1 := hid (T1.out.call b_)
          replace T2 := hid (T2.out.call b_)
          replace T3 := hid (T3.out.call b_)
          replace Tt1 := hid (Tt1.out.call b_)
          replace Tt2 := hid (Tt2.out.call b_)
          replace Tt3 := hid (Tt3.out.call b_)
          replace D := hid (D.out.below b_ D.out.lt)
          replace Dt := hid (Dt.out.below b_ Dt.out.lt)
          replace HB := hid (Bl.call HB.out b_)
          clear b_
          go_wp2
          go_ret
          exact ⟨rfl, HB.out⟩
      case pos =>
        have HR := hid hr
        clear hr
        by_cases hrt : SRS St
        case neg =>
          have HRt := hid hrt
          clear hrt
          have x0 := D.out.cell 0
          have x1 := D.out.cell 1
          have x2 := D.out.cell 2
          have x3 := D.out.cell 3
          have x4 := D.out.cell 4
          have x5 := D.out.cell 5
          go_wp2_with fail
          refine (save_any T1.out T2.out T3.out HLE.out.1 HR.out W.out).mono ?_; rintro e w5 ⟨rfl, b_⟩
          replace T1 := hid (T1.out.call b_)
          replace T2 := hid (T2.out.call b_)
          replace T3 := hid (T3.out.call b_)
          replace Tt1 := hid (Tt1.out.call b_)
          replace Tt2 := hid (Tt2.out.call b_)
          replace Tt3 := hid (Tt3.out.call b_)
          replace D := hid (D.out.below b_ D.out.lt)
          replace Dt := hid (Dt.out.below b_ Dt.out.lt)
          replace HB := hid (Bl.call HB.out b_)
          clear b_
          clear x0 x1 x2 x3 x4 x5
          rw [← HSV.out]
          have x0 := Dt.out.cell 0
          have x1 := Dt.out.cell 1
          have x2 := Dt.out.cell 2
          have x3 := Dt.out.cell 3
          have x4 := Dt.out.cell 4
          have x5 := Dt.out.cell 5
          go_wp2_with fail
          refine (save_no Tt1.out Tt2.out Tt3.out HLEt.out.1 HRt.out).mono ?_; rintro e w6 ⟨rfl, b_⟩
          replace T1 := hid (T1.out.call b_)
          replace T2 := hid (T2.out.call b_)
          replace T3 := hid (T3.out.call b_)
          replace Tt1 := hid (Tt1.out.call b_)
          replace Tt2 := hid (Tt2.out.call b_)
          replace Tt3 := hid (Tt3.out.call b_)
          replace D := hid (D.out.below b_ D.out.lt)
          replace Dt := hid (Dt.out.below b_ Dt.out.lt)
          replace HB := hid (Bl.call HB.out b_)
          clear b_
          clear x0 x1 x2 x3 x4 x5
          rw [← HE0.out]
          have e0 := E0.out
          go_wp2_with fail
          refine (awake_any _).mono ?_; rintro e w7 ⟨rfl, b_⟩
          replace T1 := hid (T1.out.call b_)
          replace T2 := hid (T2.out.call b_)
          replace T3 := hid (T3.out.call b_)
          replace Tt1 := hid (Tt1.out.call b_)
          replace Tt2 := hid (Tt2.out.call b_)
          replace Tt3 := hid (Tt3.out.call b_)
          replace D := hid (D.out.below b_ D.out.lt)
          replace Dt := hid (Dt.out.below b_ Dt.out.lt)
          replace HB := hid (Bl.call HB.out b_)
          clear b_
          go_wp2
          go_ret
          exact ⟨rfl, HB.out⟩
        case pos =>
          have HRt := hid hrt
          clear hrt
          have x0 := D.out.cell 0
          have x1 := D.out.cell 1
          have x2 := D.out.cell 2
          have x3 := D.out.cell 3
          have x4 := D.out.cell 4
          have x5 := D.out.cell 5
          go_wp2_with fail
          refine (save_any T1.out T2.out T3.out HLE.out.1 HR.out W.out).mono ?_; rintro e w5 ⟨rfl, b_⟩
          replace T1 := hid (T1.out.call b_)
          replace T2 := hid (T2.out.call b_)
          replace T3 := hid (T3.out.call b_)
          replace Tt1 := hid (Tt1.out.call b_)
          replace Tt2 := hid (Tt2.out.call b_)
          replace Tt3 := hid (Tt3.out.call b_)
          replace D := hid (D.out.below b_ D.out.lt)
          replace Dt := hid (Dt.out.below b_ Dt.out.lt)
          replace HB := hid (Bl.call HB.out b_)
          clear b_
          clear x0 x1 x2 x3 x4 x5
          rw [← HSV.out]
          have x0 := Dt.out.cell 0
          have x1 := Dt.out.cell 1
          have x2 := Dt.out.cell 2
          have x3 := Dt.out.cell 3
          have x4 := Dt.out.cell 4
          have x5 := Dt.out.cell 5
          go_wp2_with fail
          refine (save_any Tt1.out Tt2.out Tt3.out HLEt.out.1 HRt.out Wt.out).mono ?_; rintro e w6 ⟨rfl, b_⟩
          replace T1 := hid (T1.out.call b_)
          replace T2 := hid (T2.out.call b_)
          replace T3 := hid (T3.out.call b_)
          replace Tt1 := hid (Tt1.out.call b_)
          replace Tt2 := hid (Tt2.out.call b_)
          replace Tt3 := hid (Tt3.out.call b_)
          replace D := hid (D.out.below b_ D.out.lt)
          replace Dt := hid (Dt.out.below b_ Dt.out.lt)
          replace HB := hid (Bl.call HB.out b_)
          clear b_
          clear x0 x1 x2 x3 x4 x5
          rw [← HSVt.out]
          have x0 := D.out.cell 0
          have x1 := D.out.cell 1
          have x2 := D.out.cell 2
          have x3 := D.out.cell 3
          have x4 := D.out.cell 4
          have x5 := D.out.cell 5
          go_upto_region 8 with fail
          clear x0 x1 x2 x3 x4 x5
          obtain ⟨w7, hwz⟩ : ∃ W, W = w6.alloc (.cells #[.int .i64 S.N, .int .i64 S.L, .int .i64 S.R] 23) := ⟨_, rfl⟩
          obtain ⟨Kc, hKc⟩ : ∃ K, K = w6.heap.size := ⟨_, rfl⟩
          have b_ : Below w6.heap.size w6 w7 := by rw [hwz]; exact bel_new _ _
          replace T1 := hid (T1.out.call b_)
          replace T2 := hid (T2.out.call b_)
          replace T3 := hid (T3.out.call b_)
          replace Tt1 := hid (Tt1.out.call b_)
          replace Tt2 := hid (Tt2.out.call b_)
          replace Tt3 := hid (Tt3.out.call b_)
          replace D := hid (D.out.below b_ D.out.lt)
          replace Dt := hid (Dt.out.below b_ Dt.out.lt)
          replace HB := hid (Bl.call HB.out b_)
          have Dc : Hid (Blk w7 Kc 23 [.int .i64 S.N, .int .i64 S.L, .int .i64 S.R]) := hid (by rw [hwz, hKc]; exact Blk.new _ _ _)
          rw [← hwz, ← hKc]
          clear b_ hwz hKc
          obtain ⟨m, hm⟩ : ∃ m, (Sn.save S).length = m := ⟨_, rfl⟩
          have hsz : sv.size = m := by rw [HSV.out, str_size, hm]
          have hm1 : m = 22 + 16 * nh + 9 * ns + 5 * ne := by rw [← hm, Sn.save_len]; have h1 := T1.out.len; have h2 := T2.out.len; have h3 := T3.out.len; rw [len_hcz] at h1; rw [len_eds] at h2; rw [len_sls] at h3; omega
          have hnl : (nh : Int) = S.L * S.R := by have h1 := T1.out.len; rw [len_hcz] at h1; have h2 := HR.out.1.2.1; omega
          have hnn : (ns : Int) = S.N := by have h1 := T3.out.len; rw [len_sls] at h1; have h2 := HR.out.2.2.1; omega
          have hlb := HR.out.1.1
          have hle := HLE.out
          obtain ⟨p1, hp1⟩ : ∃ p, 16 * S.L = p := ⟨_, rfl⟩
          obtain ⟨p2, hp2⟩ : ∃ p, p1 * S.R = p := ⟨_, rfl⟩
          have hp3 : p2 = 16 * (nh : Int) := by rw [← hp2, ← hp1, hnl, Int.mul_assoc]
          obtain ⟨l0, l1, l2, l3, l4, l5⟩ := hlb
          obtain ⟨p3, hq3⟩ : ∃ p, 22 + p2 = p := ⟨_, rfl⟩
          obtain ⟨p4, hq4⟩ : ∃ p, 9 * S.N = p := ⟨_, rfl⟩
          obtain ⟨p5, hq5⟩ : ∃ p, p3 + p4 = p := ⟨_, rfl⟩
          obtain ⟨p6, hq6⟩ : ∃ p, 5 * (ne : Int) = p := ⟨_, rfl⟩
          have hq7 : p5 + p6 = (m : Int) := by omega
          have wa0 : IntKind.i64.wrap (16 * S.L) = p1 := by rw [hp1]; exact IntWalk.i64_in _ (by omega)
          have wb0 : RowKit.wrap64 (16 * S.L) = p1 := by rw [hp1]; exact IntWalk.wrap64_in _ (by omega)
          have wa1 : IntKind.i64.wrap (p1 * S.R) = p2 := by rw [hp2]; exact IntWalk.i64_in _ (by omega)
          have wb1 : RowKit.wrap64 (p1 * S.R) = p2 := by rw [hp2]; exact IntWalk.wrap64_in _ (by omega)
          have wa2 : IntKind.i64.wrap (22 + p2) = p3 := by rw [hq3]; exact IntWalk.i64_in _ (by omega)
          have wb2 : RowKit.wrap64 (22 + p2) = p3 := by rw [hq3]; exact IntWalk.wrap64_in _ (by omega)
          have wa3 : IntKind.i64.wrap (9 * S.N) = p4 := by rw [hq4]; exact IntWalk.i64_in _ (by omega)
          have wb3 : RowKit.wrap64 (9 * S.N) = p4 := by rw [hq4]; exact IntWalk.wrap64_in _ (by omega)
          have wa4 : IntKind.i64.wrap (p3 + p4) = p5 := by rw [hq5]; exact IntWalk.i64_in _ (by omega)
          have wb4 : RowKit.wrap64 (p3 + p4) = p5 := by rw [hq5]; exact IntWalk.wrap64_in _ (by omega)
          have wa5 : IntKind.i64.wrap (5 * (ne : Int)) = p6 := by rw [hq6]; exact IntWalk.i64_in _ (by omega)
          have wb5 : RowKit.wrap64 (5 * (ne : Int)) = p6 := by rw [hq6]; exact IntWalk.wrap64_in _ (by omega)
          have wa6 : IntKind.i64.wrap (p5 + p6) = (m : Int) := by rw [hq7]; exact IntWalk.i64_in _ (by omega)
          have wb6 : RowKit.wrap64 (p5 + p6) = (m : Int) := by rw [hq7]; exact IntWalk.wrap64_in _ (by omega)
          have h5e : ne ≤ 100000 := hle.1
          clear hm hm1 hnl hnn hle hp1 hp2 hp3 l0 l1 l2 l3 l4 l5 hq3 hq4 hq5 hq6 hq7
          have R1 : Hid (∀ w' : World, Sl w' w'.heap.size 2 (.slice A3 ns c3) ns (sls S.ss) → Calls Try.prog 15 #[.agg #[.int .i64 S.N, .int .i64 S.L, .int .i64 S.R, .slice A1 nh c1, .slice A2 ne c2, .slice A3 ns c3]] w' (RefP w' S.N S.L S.R (.slice A1 nh c1) (.slice A2 ne c2) ns S.ss)) := hid (fun w' h => (ref_any h HLE.out.2.2.1).mono fun _ _ h => h.out)
          have R2 : Hid (∀ w' : World, Sl w' w'.heap.size 2 (.slice At3 nst ct3) nst (sls St.ss) → Calls Try.prog 15 #[.agg #[.int .i64 St.N, .int .i64 St.L, .int .i64 St.R, .slice At1 nht ct1, .slice At2 net ct2, .slice At3 nst ct3]] w' (RefP w' St.N St.L St.R (.slice At1 nht ct1) (.slice At2 net ct2) nst St.ss)) := hid (fun w' h => (ref_any h HLEt.out.2.2.1).mono fun _ _ h => h.out)
          have AW : Hid (∀ w', Calls Try.prog 12 #[] w' fun e w'' => e = .returned (.bool true) ∧ Below w'.heap.size w' w'') := hid (fun w' => awake_any w')
          have x0 := D.out.cell 0
          have x1 := D.out.cell 1
          have x2 := D.out.cell 2
          have x3 := D.out.cell 3
          have x4 := D.out.cell 4
          have x5 := D.out.cell 5
          have y0 := Dt.out.cell 0
          have y1 := Dt.out.cell 1
          have y2 := Dt.out.cell 2
          have y3 := Dt.out.cell 3
          have y4 := Dt.out.cell 4
          have y5 := Dt.out.cell 5
          have z0 := Dc.out.cell 0
          have z1 := Dc.out.cell 1
          have z2 := Dc.out.cell 2
          skip
          have hok := ok_srs HR.out W.out HES.out
          have hokt := ok_srs HRt.out Wt.out HESt.out
          by_cases hst : S = St
          case pos =>
            have e1 : (sv.toList == svt.toList) = true := by rw [HSV.out, HSVt.out, hst]; simp
            have hiff : S = St ↔ true = true := ⟨fun _ => rfl, fun _ => hst⟩
            have SM : Hid (∀ (w' : World) (A c A' c'), Sl w' w'.heap.size 2 (.slice A1 nh c1) nh (hcz S.hs) → Sl w' w'.heap.size 3 (.slice A2 ne c2) ne (eds S.es) → Sl w' w'.heap.size 2 (.slice A ns c) ns (sls S.ss) → Sl w' w'.heap.size 2 (.slice At1 nht ct1) nht (hcz St.hs) → Sl w' w'.heap.size 3 (.slice At2 net ct2) net (eds St.es) → Sl w' w'.heap.size 2 (.slice A' nst c') nst (sls St.ss) → Calls Try.prog 21 #[.agg #[.int .i64 S.N, .int .i64 S.L, .int .i64 S.R, .slice A1 nh c1, .slice A2 ne c2, .slice A ns c], .agg #[.int .i64 St.N, .int .i64 St.L, .int .i64 St.R, .slice At1 nht ct1, .slice At2 net ct2, .slice A' nst c']] w' fun e w'' => e = .returned (.bool true) ∧ Below w'.heap.size w' w'') := hid (fun w' A c A' c' h1 h2 h3 h4 h5 h6 => ssame_is (s := S) (s' := St) h1 h2 h3 h4 h5 h6 true hiff)
            clear hst hiff hok hokt
            go_region_held3 (fun w' => w'.cell? ⟨K, 0, none⟩ = some (.int .i64 S.N) ∧ w'.cell? ⟨K, 1, none⟩ = some (.int .i64 S.L) ∧ w'.cell? ⟨K, 2, none⟩ = some (.int .i64 S.R) ∧ w'.cell? ⟨K, 3, none⟩ = some (.slice A1 nh c1) ∧ w'.cell? ⟨K, 4, none⟩ = some (.slice A2 ne c2) ∧ w'.cell? ⟨K, 5, none⟩ = some (.slice A3 ns c3) ∧ w'.cell? ⟨Kt, 0, none⟩ = some (.int .i64 St.N) ∧ w'.cell? ⟨Kt, 1, none⟩ = some (.int .i64 St.L) ∧ w'.cell? ⟨Kt, 2, none⟩ = some (.int .i64 St.R) ∧ w'.cell? ⟨Kt, 3, none⟩ = some (.slice At1 nht ct1) ∧ w'.cell? ⟨Kt, 4, none⟩ = some (.slice At2 net ct2) ∧ w'.cell? ⟨Kt, 5, none⟩ = some (.slice At3 nst ct3) ∧ w'.cell? ⟨Kc, 0, none⟩ = some (.int .i64 S.N) ∧ w'.cell? ⟨Kc, 1, none⟩ = some (.int .i64 S.L) ∧ w'.cell? ⟨Kc, 2, none⟩ = some (.int .i64 S.R))
              (first | (first | go_keep | (go_split_ands; and_intros <;> (first | (refine cell_later (by assumption) ?_; first | assumption | (rw [Qt.cell (qt_of _ _)]; assumption) | (rw [Qt.cell (qt_drew _)]; assumption)) | (refine cell_later (bel_new _ _) ?_; assumption) | (rw [Qt.cell (by assumption)]; first | assumption | (rw [Qt.cell (qt_of _ _)]; assumption) | (rw [Qt.cell (qt_drew _)]; assumption))))) | (go_split_ands; and_intros <;> (simp [*]; done)))
              (first | (go_at_call 15; (with_reducible refine (R1.out _ (by repeat (first | exact T3.out | refine Sl.new ?_ _ | refine Sl.cqt ?_ (qt_drew _) | refine Sl.cqt ?_ (qt_of _ _) | refine Sl.call ?_ (by assumption) | refine Sl.cqt ?_ (by assumption)))).mono ?_); rintro e w37 ⟨A10, c10, rfl, s7, b7⟩) | (go_at_call 15; (with_reducible refine (R2.out _ (by repeat (first | exact Tt3.out | refine Sl.new ?_ _ | refine Sl.cqt ?_ (qt_drew _) | refine Sl.cqt ?_ (qt_of _ _) | refine Sl.call ?_ (by assumption) | refine Sl.cqt ?_ (by assumption)))).mono ?_); rintro e w38 ⟨A11, c11, rfl, s8, b8⟩) | (go_at_call 21; (with_reducible refine (SM.out _ _ _ _ _ (by repeat (first | exact T1.out | refine Sl.new ?_ _ | refine Sl.cqt ?_ (qt_drew _) | refine Sl.cqt ?_ (qt_of _ _) | refine Sl.call ?_ (by assumption) | refine Sl.cqt ?_ (by assumption))) (by repeat (first | exact T2.out | refine Sl.new ?_ _ | refine Sl.cqt ?_ (qt_drew _) | refine Sl.cqt ?_ (qt_of _ _) | refine Sl.call ?_ (by assumption) | refine Sl.cqt ?_ (by assumption))) (by repeat (first | exact s7 | refine Sl.new ?_ _ | refine Sl.cqt ?_ (qt_drew _) | refine Sl.cqt ?_ (qt_of _ _) | refine Sl.call ?_ (by assumption) | refine Sl.cqt ?_ (by assumption))) (by repeat (first | exact Tt1.out | refine Sl.new ?_ _ | refine Sl.cqt ?_ (qt_drew _) | refine Sl.cqt ?_ (qt_of _ _) | refine Sl.call ?_ (by assumption) | refine Sl.cqt ?_ (by assumption))) (by repeat (first | exact Tt2.out | refine Sl.new ?_ _ | refine Sl.cqt ?_ (qt_drew _) | refine Sl.cqt ?_ (qt_of _ _) | refine Sl.call ?_ (by assumption) | refine Sl.cqt ?_ (by assumption))) (by repeat (first | exact s8 | refine Sl.new ?_ _ | refine Sl.cqt ?_ (qt_drew _) | refine Sl.cqt ?_ (qt_of _ _) | refine Sl.call ?_ (by assumption) | refine Sl.cqt ?_ (by assumption)))).mono ?_); rintro e w39 ⟨rfl, b9⟩) | (go_at_call 12; (with_reducible refine (AW.out _).mono ?_); rintro e w41 ⟨rfl, b13⟩))
            all_goals
              go_wp2
              go_ret
              exact ⟨rfl, (by repeat (first | exact HB.out | refine Bl.new ?_ _ | refine Bl.call ?_ (by assumption) | refine Bl.qt ?_ (by assumption) | refine Bl.qt ?_ (qt_drew _) | refine Bl.qt ?_ (qt_of _ _)))⟩
          case neg =>
            have e1 : (sv.toList == svt.toList) = false := by rw [beq_eq_false_iff_ne, HSV.out, HSVt.out, str_list, str_list]; exact fun h => hst (save_inj hok hokt h)
            have hiff : S = St ↔ false = true := ⟨fun h => absurd h hst, fun h => by cases h⟩
            have SM : Hid (∀ (w' : World) (A c A' c'), Sl w' w'.heap.size 2 (.slice A1 nh c1) nh (hcz S.hs) → Sl w' w'.heap.size 3 (.slice A2 ne c2) ne (eds S.es) → Sl w' w'.heap.size 2 (.slice A ns c) ns (sls S.ss) → Sl w' w'.heap.size 2 (.slice At1 nht ct1) nht (hcz St.hs) → Sl w' w'.heap.size 3 (.slice At2 net ct2) net (eds St.es) → Sl w' w'.heap.size 2 (.slice A' nst c') nst (sls St.ss) → Calls Try.prog 21 #[.agg #[.int .i64 S.N, .int .i64 S.L, .int .i64 S.R, .slice A1 nh c1, .slice A2 ne c2, .slice A ns c], .agg #[.int .i64 St.N, .int .i64 St.L, .int .i64 St.R, .slice At1 nht ct1, .slice At2 net ct2, .slice A' nst c']] w' fun e w'' => e = .returned (.bool false) ∧ Below w'.heap.size w' w'') := hid (fun w' A c A' c' h1 h2 h3 h4 h5 h6 => ssame_is (s := S) (s' := St) h1 h2 h3 h4 h5 h6 false hiff)
            clear hst hiff hok hokt
            go_region_held3 (fun w' => w'.cell? ⟨K, 0, none⟩ = some (.int .i64 S.N) ∧ w'.cell? ⟨K, 1, none⟩ = some (.int .i64 S.L) ∧ w'.cell? ⟨K, 2, none⟩ = some (.int .i64 S.R) ∧ w'.cell? ⟨K, 3, none⟩ = some (.slice A1 nh c1) ∧ w'.cell? ⟨K, 4, none⟩ = some (.slice A2 ne c2) ∧ w'.cell? ⟨K, 5, none⟩ = some (.slice A3 ns c3) ∧ w'.cell? ⟨Kt, 0, none⟩ = some (.int .i64 St.N) ∧ w'.cell? ⟨Kt, 1, none⟩ = some (.int .i64 St.L) ∧ w'.cell? ⟨Kt, 2, none⟩ = some (.int .i64 St.R) ∧ w'.cell? ⟨Kt, 3, none⟩ = some (.slice At1 nht ct1) ∧ w'.cell? ⟨Kt, 4, none⟩ = some (.slice At2 net ct2) ∧ w'.cell? ⟨Kt, 5, none⟩ = some (.slice At3 nst ct3) ∧ w'.cell? ⟨Kc, 0, none⟩ = some (.int .i64 S.N) ∧ w'.cell? ⟨Kc, 1, none⟩ = some (.int .i64 S.L) ∧ w'.cell? ⟨Kc, 2, none⟩ = some (.int .i64 S.R))
              (first | (first | go_keep | (go_split_ands; and_intros <;> (first | (refine cell_later (by assumption) ?_; first | assumption | (rw [Qt.cell (qt_of _ _)]; assumption) | (rw [Qt.cell (qt_drew _)]; assumption)) | (refine cell_later (bel_new _ _) ?_; assumption) | (rw [Qt.cell (by assumption)]; first | assumption | (rw [Qt.cell (qt_of _ _)]; assumption) | (rw [Qt.cell (qt_drew _)]; assumption))))) | (go_split_ands; and_intros <;> (simp [*]; done)))
              (first | (go_at_call 15; (with_reducible refine (R1.out _ (by repeat (first | exact T3.out | refine Sl.new ?_ _ | refine Sl.cqt ?_ (qt_drew _) | refine Sl.cqt ?_ (qt_of _ _) | refine Sl.call ?_ (by assumption) | refine Sl.cqt ?_ (by assumption)))).mono ?_); rintro e w37 ⟨A10, c10, rfl, s7, b7⟩) | (go_at_call 15; (with_reducible refine (R2.out _ (by repeat (first | exact Tt3.out | refine Sl.new ?_ _ | refine Sl.cqt ?_ (qt_drew _) | refine Sl.cqt ?_ (qt_of _ _) | refine Sl.call ?_ (by assumption) | refine Sl.cqt ?_ (by assumption)))).mono ?_); rintro e w38 ⟨A11, c11, rfl, s8, b8⟩) | (go_at_call 21; (with_reducible refine (SM.out _ _ _ _ _ (by repeat (first | exact T1.out | refine Sl.new ?_ _ | refine Sl.cqt ?_ (qt_drew _) | refine Sl.cqt ?_ (qt_of _ _) | refine Sl.call ?_ (by assumption) | refine Sl.cqt ?_ (by assumption))) (by repeat (first | exact T2.out | refine Sl.new ?_ _ | refine Sl.cqt ?_ (qt_drew _) | refine Sl.cqt ?_ (qt_of _ _) | refine Sl.call ?_ (by assumption) | refine Sl.cqt ?_ (by assumption))) (by repeat (first | exact s7 | refine Sl.new ?_ _ | refine Sl.cqt ?_ (qt_drew _) | refine Sl.cqt ?_ (qt_of _ _) | refine Sl.call ?_ (by assumption) | refine Sl.cqt ?_ (by assumption))) (by repeat (first | exact Tt1.out | refine Sl.new ?_ _ | refine Sl.cqt ?_ (qt_drew _) | refine Sl.cqt ?_ (qt_of _ _) | refine Sl.call ?_ (by assumption) | refine Sl.cqt ?_ (by assumption))) (by repeat (first | exact Tt2.out | refine Sl.new ?_ _ | refine Sl.cqt ?_ (qt_drew _) | refine Sl.cqt ?_ (qt_of _ _) | refine Sl.call ?_ (by assumption) | refine Sl.cqt ?_ (by assumption))) (by repeat (first | exact s8 | refine Sl.new ?_ _ | refine Sl.cqt ?_ (qt_drew _) | refine Sl.cqt ?_ (qt_of _ _) | refine Sl.call ?_ (by assumption) | refine Sl.cqt ?_ (by assumption)))).mono ?_); rintro e w39 ⟨rfl, b9⟩) | (go_at_call 12; (with_reducible refine (AW.out _).mono ?_); rintro e w41 ⟨rfl, b13⟩))
            all_goals
              go_wp2
              go_ret
              exact ⟨rfl, (by repeat (first | exact HB.out | refine Bl.new ?_ _ | refine Bl.call ?_ (by assumption) | refine Bl.qt ?_ (by assumption) | refine Bl.qt ?_ (qt_drew _) | refine Bl.qt ?_ (qt_of _ _)))⟩
end Go.Proofs.Ytbafbnkmmpaomaa
