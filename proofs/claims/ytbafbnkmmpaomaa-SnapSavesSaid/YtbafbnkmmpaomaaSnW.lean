/- The walk of SnapBack. -/
import Derived.Test.YtbafbnkmmpaomaaSnS
namespace Go.Proofs.Ytbafbnkmmpaomaa
open Go.RowKit
set_option linter.unusedVariables false
set_option linter.unusedSimpArgs false
attribute [local go_sem ↓] Go.wp_at_zero Go.wp_at_succ
theorem str_nil_list : (str []).toList = [] := str_list []
theorem awake_any' (w : World) : Calls Try.prog 12 #[] w fun e w' => e = .returned (.bool true) ∧ Below w.heap.size w w' := awake_any w
set_option maxRecDepth 100000 in
set_option maxHeartbeats 16000000 in
theorem snapBack_walk (S : Sn.St) (vh ve vs : Value) (nh ne ns : Nat) (w : World) (p1 : Sl w w.heap.size 2 vh nh (hcz S.hs)) (p2 : Sl w w.heap.size 3 ve ne (eds S.es)) (p3 : Sl w w.heap.size 2 vs ns (sls S.ss)) (p4 : Wide S) : Calls Try.prog 4 #[stV S.N S.L S.R vh ve vs] w (IsTrue w) := by
  have T1 := hid p1
  have m1 := p1.max
  have T2 := hid p2
  have m2 := p2.max
  have T3 := hid p3
  have m3 := p3.max
  have W := hid p4
  obtain ⟨A1, c1, rfl, -⟩ := p1
  obtain ⟨A2, c2, rfl, -⟩ := p2
  obtain ⟨A3, c3, rfl, -⟩ := p3
  clear p4
  have HB := hid (Below.refl w.heap.size w)
  unfold stV
  obtain ⟨w1, hw1⟩ : ∃ W, W = w.alloc (.cells #[.int .i64 S.N, .int .i64 S.L, .int .i64 S.R, .slice A1 nh c1, .slice A2 ne c2, .slice A3 ns c3] 30) := ⟨_, rfl⟩
  obtain ⟨K, hK⟩ : ∃ K, K = w.heap.size := ⟨_, rfl⟩
  have b_ : Below w.heap.size w w1 := by rw [hw1]; exact bel_new _ _
  replace T1 := hid (T1.out.call b_)
  replace T2 := hid (T2.out.call b_)
  replace T3 := hid (T3.out.call b_)
  replace HB := hid (Bl.call HB.out b_)
  have D : Hid (Blk w1 K 30 [.int .i64 S.N, .int .i64 S.L, .int .i64 S.R, .slice A1 nh c1, .slice A2 ne c2, .slice A3 ns c3]) := hid (by rw [hw1, hK]; exact Blk.new _ _ _)
  have Qw1 := hid hw1
  have QK := hid hK
  clear b_ hw1 hK
  go_enter Try.func4, Try.ntmps4
  go_wp2_with fail
  rw [← QK.out, ← Qw1.out]
  by_cases hsm : SmS S.N S.L S.R nh ne ns
  case neg =>
    have HF : Hid (SmS S.N S.L S.R nh ne ns ↔ false = true) := hid (by simp only [hsm]; simp)
    clear hsm
    refine (small_is m1 m2 false HF.out).mono ?_; rintro e w2 ⟨rfl, b_⟩
    replace T1 := hid (T1.out.call b_)
    replace T2 := hid (T2.out.call b_)
    replace T3 := hid (T3.out.call b_)
    replace D := hid (D.out.below b_ D.out.lt)
    replace HB := hid (Bl.call HB.out b_)
    clear b_
    go_wp2_with fail
    refine (awake_any _).mono ?_; rintro e w3 ⟨rfl, b_⟩
    replace T1 := hid (T1.out.call b_)
    replace T2 := hid (T2.out.call b_)
    replace T3 := hid (T3.out.call b_)
    replace D := hid (D.out.below b_ D.out.lt)
    replace HB := hid (Bl.call HB.out b_)
    clear b_
    go_wp2
    go_ret
    exact ⟨rfl, HB.out⟩
  case pos =>
    have HLE : Hid (ne ≤ 100000 ∧ ne ≤ 1000000 ∧ ns ≤ 100000) := hid (by have := hsm.1.2.2.2.1; have := hsm.2; omega)
    have HES : Hid (S.es.length ≤ 100000) := hid (by have h1 := T2.out.len; rw [len_eds] at h1; have := HLE.out; omega)
    have HSM := hid hsm
    clear hsm
    refine (small_is m1 m2 true ⟨fun _ => rfl, fun _ => HSM.out⟩).mono ?_; rintro e w2 ⟨rfl, b_⟩
    replace T1 := hid (T1.out.call b_)
    replace T2 := hid (T2.out.call b_)
    replace T3 := hid (T3.out.call b_)
    replace D := hid (D.out.below b_ D.out.lt)
    replace HB := hid (Bl.call HB.out b_)
    clear b_
    by_cases hr : SRS S
    case neg =>
      have HR := hid hr
      clear hr
      have x0 := D.out.cell 0
      have x1 := D.out.cell 1
      have x2 := D.out.cell 2
      have x3 := D.out.cell 3
      have x4 := D.out.cell 4
      have x5 := D.out.cell 5
      go_wp2_with fail
      refine (save_no T1.out T2.out T3.out HLE.out.1 HR.out).mono ?_; rintro e w3 ⟨rfl, b_⟩
      replace T1 := hid (T1.out.call b_)
      replace T2 := hid (T2.out.call b_)
      replace T3 := hid (T3.out.call b_)
      replace D := hid (D.out.below b_ D.out.lt)
      replace HB := hid (Bl.call HB.out b_)
      clear b_
      clear x0 x1 x2 x3 x4 x5
      have x0 := D.out.cell 0
      have x1 := D.out.cell 1
      have x2 := D.out.cell 2
      have x3 := D.out.cell 3
      have x4 := D.out.cell 4
      have x5 := D.out.cell 5
      have e1 := str_nil_list
      generalize str [] = sv at *
      have e2 : sv.toList = ([] : List UInt8) := e1
      go_wp2_with fail
      refine (sr_any T1.out T2.out T3.out HLE.out.2.1 false ⟨fun h => absurd h HR.out, fun h => by cases h⟩).mono ?_; rintro e w4 ⟨rfl, b_⟩
      replace T1 := hid (T1.out.call b_)
      replace T2 := hid (T2.out.call b_)
      replace T3 := hid (T3.out.call b_)
      replace D := hid (D.out.below b_ D.out.lt)
      replace HB := hid (Bl.call HB.out b_)
      clear b_
      clear x0 x1 x2 x3 x4 x5
      go_wp2_with fail
      refine (awake_any _).mono ?_; rintro e w5 ⟨rfl, b_⟩
      replace T1 := hid (T1.out.call b_)
      replace T2 := hid (T2.out.call b_)
      replace T3 := hid (T3.out.call b_)
      replace D := hid (D.out.below b_ D.out.lt)
      replace HB := hid (Bl.call HB.out b_)
      clear b_
      go_wp2
      go_ret
      exact ⟨rfl, HB.out⟩
    case pos =>
      have HR := hid hr
      clear hr
      obtain ⟨sv, hsv⟩ : ∃ sv, sv = str (Sn.save S) := ⟨_, rfl⟩
      have HSL : Hid ((Sn.save S).length ≤ 100000) := hid (by rw [Sn.save_len]; have h1 := T1.out.len; have h2 := T2.out.len; have h3 := T3.out.len; rw [len_hcz] at h1; rw [len_eds] at h2; rw [len_sls] at h3; have := HSM.out.1; unfold SmG at this; have := HSM.out.2; omega)
      have RY : Hid (∀ w : World, Calls Try.prog 20 #[.string sv] w (StP w S S.N S.L S.R (.int .i64 0))) := hid (fun w => by rw [hsv]; exact res_yes' HSL.out HR.out W.out HES.out rfl _ _ _ rfl rfl rfl)
      have HSV := hid hsv
      clear hsv
      have x0 := D.out.cell 0
      have x1 := D.out.cell 1
      have x2 := D.out.cell 2
      have x3 := D.out.cell 3
      have x4 := D.out.cell 4
      have x5 := D.out.cell 5
      go_wp2_with fail
      refine (save_any T1.out T2.out T3.out HLE.out.1 HR.out W.out).mono ?_; rintro e w3 ⟨rfl, b_⟩
      replace T1 := hid (T1.out.call b_)
      replace T2 := hid (T2.out.call b_)
      replace T3 := hid (T3.out.call b_)
      replace D := hid (D.out.below b_ D.out.lt)
      replace HB := hid (Bl.call HB.out b_)
      clear b_
      clear x0 x1 x2 x3 x4 x5
      rw [← HSV.out]
      go_wp2_with fail
      refine (RY.out _).mono ?_; rintro e w9 ⟨At1, At2, At3, ct1, ct2, ct3, nht, net, nst, rfl, st_, b_⟩
      have Tt1 := hid st_.1
      have Tt2 := hid st_.2.1
      have Tt3 := hid st_.2.2
      replace T1 := hid (T1.out.call b_)
      replace T2 := hid (T2.out.call b_)
      replace T3 := hid (T3.out.call b_)
      replace D := hid (D.out.below b_ D.out.lt)
      replace HB := hid (Bl.call HB.out b_)
      clear b_ st_
      have HLT : Hid (nst ≤ 100000 ∧ net ≤ 1000000) := hid (by have h3 := Tt3.out.len; have h4 := T3.out.len; rw [len_sls] at h3 h4; have h5 := Tt2.out.len; have h6 := T2.out.len; rw [len_eds] at h5 h6; have := HLE.out; omega)
      go_wp2_with fail
      obtain ⟨w10, hw10⟩ : ∃ W, W = w9.alloc (.cells #[.int .i64 S.N, .int .i64 S.L, .int .i64 S.R, .slice At1 nht ct1, .slice At2 net ct2, .slice At3 nst ct3] 30) := ⟨_, rfl⟩
      obtain ⟨Kt, hKt⟩ : ∃ K, K = w9.heap.size := ⟨_, rfl⟩
      have b_ : Below w9.heap.size w9 w10 := by rw [hw10]; exact bel_new _ _
      replace T1 := hid (T1.out.call b_)
      replace T2 := hid (T2.out.call b_)
      replace T3 := hid (T3.out.call b_)
      replace Tt1 := hid (Tt1.out.call b_)
      replace Tt2 := hid (Tt2.out.call b_)
      replace Tt3 := hid (Tt3.out.call b_)
      replace D := hid (D.out.below b_ D.out.lt)
      replace HB := hid (Bl.call HB.out b_)
      have Dt : Hid (Blk w10 Kt 30 [.int .i64 S.N, .int .i64 S.L, .int .i64 S.R, .slice At1 nht ct1, .slice At2 net ct2, .slice At3 nst ct3]) := hid (by rw [hw10, hKt]; exact Blk.new _ _ _)
      have Qw10 := hid hw10
      have QKt := hid hKt
      clear b_ hw10 hKt
      rw [← QKt.out, ← Qw10.out]
      have R1 : Hid (∀ w' : World, Sl w' w'.heap.size 2 (.slice A3 ns c3) ns (sls S.ss) → Calls Try.prog 15 #[.agg #[.int .i64 S.N, .int .i64 S.L, .int .i64 S.R, .slice A1 nh c1, .slice A2 ne c2, .slice A3 ns c3]] w' (RefP w' S.N S.L S.R (.slice A1 nh c1) (.slice A2 ne c2) ns S.ss)) := hid (fun w' h => (ref_any h HLE.out.2.2).mono fun _ _ h => h.out)
      have R2 : Hid (∀ w' : World, Sl w' w'.heap.size 2 (.slice At3 nst ct3) nst (sls S.ss) → Calls Try.prog 15 #[.agg #[.int .i64 S.N, .int .i64 S.L, .int .i64 S.R, .slice At1 nht ct1, .slice At2 net ct2, .slice At3 nst ct3]] w' (RefP w' S.N S.L S.R (.slice At1 nht ct1) (.slice At2 net ct2) nst S.ss)) := hid (fun w' h => (ref_any h HLT.out.1).mono fun _ _ h => h.out)
      have SM : Hid (∀ (w' : World) (A c A' c'), Sl w' w'.heap.size 2 (.slice At1 nht ct1) nht (hcz S.hs) → Sl w' w'.heap.size 3 (.slice At2 net ct2) net (eds S.es) → Sl w' w'.heap.size 2 (.slice A nst c) nst (sls S.ss) → Sl w' w'.heap.size 2 (.slice A1 nh c1) nh (hcz S.hs) → Sl w' w'.heap.size 3 (.slice A2 ne c2) ne (eds S.es) → Sl w' w'.heap.size 2 (.slice A' ns c') ns (sls S.ss) → Calls Try.prog 21 #[.agg #[.int .i64 S.N, .int .i64 S.L, .int .i64 S.R, .slice At1 nht ct1, .slice At2 net ct2, .slice A nst c], .agg #[.int .i64 S.N, .int .i64 S.L, .int .i64 S.R, .slice A1 nh c1, .slice A2 ne c2, .slice A' ns c']] w' fun e w'' => e = .returned (.bool true) ∧ Below w'.heap.size w' w'') := hid (fun w' A c A' c' h1 h2 h3 h4 h5 h6 => ssame_is (s := S) (s' := S) h1 h2 h3 h4 h5 h6 true ⟨fun _ => rfl, fun _ => rfl⟩)
      have RT : Hid (∀ w' : World, Sl w' w'.heap.size 2 (.slice At1 nht ct1) nht (hcz S.hs) → Sl w' w'.heap.size 3 (.slice At2 net ct2) net (eds S.es) → Sl w' w'.heap.size 2 (.slice At3 nst ct3) nst (sls S.ss) → Calls Try.prog 16 #[.agg #[.int .i64 S.N, .int .i64 S.L, .int .i64 S.R, .slice At1 nht ct1, .slice At2 net ct2, .slice At3 nst ct3]] w' fun e w'' => e = .returned (.bool true) ∧ Below w'.heap.size w' w'') := hid (fun w' h1 h2 h3 => sr_any h1 h2 h3 HLT.out.2 true ⟨fun _ => rfl, fun _ => HR.out⟩)
      have x0 := D.out.cell 0
      have x1 := D.out.cell 1
      have x2 := D.out.cell 2
      have x3 := D.out.cell 3
      have x4 := D.out.cell 4
      have x5 := D.out.cell 5
      have y0 := Dt.out.cell 0
      have y1 := Dt.out.cell 1
      have y2 := Dt.out.cell 2
      have y3 := Dt.out.cell 3
      have y4 := Dt.out.cell 4
      have y5 := Dt.out.cell 5
      go_wp2_with fail
      go_region_held3 (fun w' => w'.cell? ⟨K, 0, none⟩ = some (.int .i64 S.N) ∧ w'.cell? ⟨K, 1, none⟩ = some (.int .i64 S.L) ∧ w'.cell? ⟨K, 2, none⟩ = some (.int .i64 S.R) ∧ w'.cell? ⟨K, 3, none⟩ = some (.slice A1 nh c1) ∧ w'.cell? ⟨K, 4, none⟩ = some (.slice A2 ne c2) ∧ w'.cell? ⟨K, 5, none⟩ = some (.slice A3 ns c3) ∧ w'.cell? ⟨Kt, 0, none⟩ = some (.int .i64 S.N) ∧ w'.cell? ⟨Kt, 1, none⟩ = some (.int .i64 S.L) ∧ w'.cell? ⟨Kt, 2, none⟩ = some (.int .i64 S.R) ∧ w'.cell? ⟨Kt, 3, none⟩ = some (.slice At1 nht ct1) ∧ w'.cell? ⟨Kt, 4, none⟩ = some (.slice At2 net ct2) ∧ w'.cell? ⟨Kt, 5, none⟩ = some (.slice At3 nst ct3))
        (first | (first | go_keep | (go_split_ands; and_intros <;> (first | (refine cell_later (by assumption) ?_; first | assumption | (rw [Qt.cell (qt_of _ _)]; assumption) | (rw [Qt.cell (qt_drew _)]; assumption)) | (refine cell_later (bel_new _ _) ?_; assumption) | (rw [Qt.cell (by assumption)]; first | assumption | (rw [Qt.cell (qt_of _ _)]; assumption) | (rw [Qt.cell (qt_drew _)]; assumption))))) | (go_split_ands; and_intros <;> (simp [*]; done)))
        (first | (go_at_call 15; (with_reducible refine (R2.out _ (by repeat (first | exact Tt3.out | refine Sl.new ?_ _ | refine Sl.cqt ?_ (qt_drew _) | refine Sl.cqt ?_ (qt_of _ _) | refine Sl.call ?_ (by assumption) | refine Sl.cqt ?_ (by assumption)))).mono ?_); rintro e w17 ⟨A10, c10, rfl, s7, b7⟩) | (go_at_call 15; (with_reducible refine (R1.out _ (by repeat (first | exact T3.out | refine Sl.new ?_ _ | refine Sl.cqt ?_ (qt_drew _) | refine Sl.cqt ?_ (qt_of _ _) | refine Sl.call ?_ (by assumption) | refine Sl.cqt ?_ (by assumption)))).mono ?_); rintro e w18 ⟨A11, c11, rfl, s8, b8⟩) | (go_at_call 21; (with_reducible refine (SM.out _ _ _ _ _ (by repeat (first | exact Tt1.out | refine Sl.new ?_ _ | refine Sl.cqt ?_ (qt_drew _) | refine Sl.cqt ?_ (qt_of _ _) | refine Sl.call ?_ (by assumption) | refine Sl.cqt ?_ (by assumption))) (by repeat (first | exact Tt2.out | refine Sl.new ?_ _ | refine Sl.cqt ?_ (qt_drew _) | refine Sl.cqt ?_ (qt_of _ _) | refine Sl.call ?_ (by assumption) | refine Sl.cqt ?_ (by assumption))) (by repeat (first | exact s7 | refine Sl.new ?_ _ | refine Sl.cqt ?_ (qt_drew _) | refine Sl.cqt ?_ (qt_of _ _) | refine Sl.call ?_ (by assumption) | refine Sl.cqt ?_ (by assumption))) (by repeat (first | exact T1.out | refine Sl.new ?_ _ | refine Sl.cqt ?_ (qt_drew _) | refine Sl.cqt ?_ (qt_of _ _) | refine Sl.call ?_ (by assumption) | refine Sl.cqt ?_ (by assumption))) (by repeat (first | exact T2.out | refine Sl.new ?_ _ | refine Sl.cqt ?_ (qt_drew _) | refine Sl.cqt ?_ (qt_of _ _) | refine Sl.call ?_ (by assumption) | refine Sl.cqt ?_ (by assumption))) (by repeat (first | exact s8 | refine Sl.new ?_ _ | refine Sl.cqt ?_ (qt_drew _) | refine Sl.cqt ?_ (qt_of _ _) | refine Sl.call ?_ (by assumption) | refine Sl.cqt ?_ (by assumption)))).mono ?_); rintro e w19 ⟨rfl, b9⟩) | (go_at_call 16; (with_reducible refine (RT.out _ (by repeat (first | exact Tt1.out | refine Sl.new ?_ _ | refine Sl.cqt ?_ (qt_drew _) | refine Sl.cqt ?_ (qt_of _ _) | refine Sl.call ?_ (by assumption) | refine Sl.cqt ?_ (by assumption))) (by repeat (first | exact Tt2.out | refine Sl.new ?_ _ | refine Sl.cqt ?_ (qt_drew _) | refine Sl.cqt ?_ (qt_of _ _) | refine Sl.call ?_ (by assumption) | refine Sl.cqt ?_ (by assumption))) (by repeat (first | exact Tt3.out | refine Sl.new ?_ _ | refine Sl.cqt ?_ (qt_drew _) | refine Sl.cqt ?_ (qt_of _ _) | refine Sl.call ?_ (by assumption) | refine Sl.cqt ?_ (by assumption)))).mono ?_); rintro e w20 ⟨rfl, b12⟩) | (go_at_call 12; (with_reducible refine (awake_any' _).mono ?_); rintro e w21 ⟨rfl, b13⟩))
      all_goals
        go_wp2
        go_ret
        exact ⟨rfl, (by repeat (first | exact HB.out | refine Bl.new ?_ _ | refine Bl.call ?_ (by assumption) | refine Bl.qt ?_ (by assumption) | refine Bl.qt ?_ (qt_drew _) | refine Bl.qt ?_ (qt_of _ _)))⟩
end Go.Proofs.Ytbafbnkmmpaomaa
