/- The walk of SnapSaves. -/
import Derived.Test.YtbafbnkmmpaomaaSnW
import Derived.Test.YtbafbnkmmpaomaaSnZ
import Derived.Test.YtbafbnkmmpaomaaSnRd
namespace Go.Proofs.Ytbafbnkmmpaomaa
open Go.RowKit
set_option linter.unusedVariables false
set_option linter.unusedSimpArgs false
attribute [local go_sem ↓] Go.wp_at_zero Go.wp_at_succ
set_option maxRecDepth 100000 in
set_option maxHeartbeats 16000000 in
theorem snapSaves_walk (S : Sn.St) (vh ve vs : Value) (nh ne ns : Nat) (mo : ByteArray) (w : World) (p1 : Sl w w.heap.size 2 vh nh (hcz S.hs)) (p2 : Sl w w.heap.size 3 ve ne (eds S.es)) (p3 : Sl w w.heap.size 2 vs ns (sls S.ss)) (p4 : Wide S) : Calls Try.prog 3 #[stV S.N S.L S.R vh ve vs, .string mo] w (IsTrue w) := by
  have T1 := hid p1
  have m1 := p1.max
  have T2 := hid p2
  have m2 := p2.max
  have T3 := hid p3
  have m3 := p3.max
  have W := hid p4
  obtain ⟨A1, c1, rfl, -⟩ := p1
  obtain ⟨A2, c2, rfl, -⟩ := p2
  obtain ⟨A3, c3, rfl, -⟩ := p3
  clear p4
  have HB := hid (Below.refl w.heap.size w)
  unfold stV
  obtain ⟨w1, hw1⟩ : ∃ W, W = w.alloc (.cells #[.int .i64 S.N, .int .i64 S.L, .int .i64 S.R, .slice A1 nh c1, .slice A2 ne c2, .slice A3 ns c3] 30) := ⟨_, rfl⟩
  obtain ⟨K, hK⟩ : ∃ K, K = w.heap.size := ⟨_, rfl⟩
  have b_ : Below w.heap.size w w1 := by rw [hw1]; exact bel_new _ _
  replace T1 := hid (T1.out.call b_)
  replace T2 := hid (T2.out.call b_)
  replace T3 := hid (T3.out.call b_)
  replace HB := hid (Bl.call HB.out b_)
  have D : Hid (Blk w1 K 30 [.int .i64 S.N, .int .i64 S.L, .int .i64 S.R, .slice A1 nh c1, .slice A2 ne c2, .slice A3 ns c3]) := hid (by rw [hw1, hK]; exact Blk.new _ _ _)
  have Qw1 := hid hw1
  have QK := hid hK
  clear b_ hw1 hK
  go_enter Try.func3, Try.ntmps3
  go_wp2_with fail
  rw [← QK.out, ← Qw1.out]
  by_cases hsm : SmS S.N S.L S.R nh ne ns
  case neg =>
    have HF : Hid (SmS S.N S.L S.R nh ne ns ↔ false = true) := hid (by simp only [hsm]; simp)
    clear hsm
    refine (small_is m1 m2 false HF.out).mono ?_; rintro e w2 ⟨rfl, b_⟩
    replace T1 := hid (T1.out.call b_)
    replace T2 := hid (T2.out.call b_)
    replace T3 := hid (T3.out.call b_)
    replace D := hid (D.out.below b_ D.out.lt)
    replace HB := hid (Bl.call HB.out b_)
    clear b_
    go_wp2_with fail
    refine (awake_any _).mono ?_; rintro e w3 ⟨rfl, b_⟩
    replace T1 := hid (T1.out.call b_)
    replace T2 := hid (T2.out.call b_)
    replace T3 := hid (T3.out.call b_)
    replace D := hid (D.out.below b_ D.out.lt)
    replace HB := hid (Bl.call HB.out b_)
    clear b_
    go_wp2
    go_ret
    exact ⟨rfl, HB.out⟩
  case pos =>
    have HLE : Hid (ne ≤ 100000 ∧ ne ≤ 1000000 ∧ ns ≤ 100000 ∧ ns ≤ 1000000) := hid (by have := hsm.1.2.2.2.1; have := hsm.2; omega)
    have HES : Hid (S.es.length ≤ 100000) := hid (by have h1 := T2.out.len; rw [len_eds] at h1; have := HLE.out; omega)
    have HSM := hid hsm
    clear hsm
    refine (small_is m1 m2 true ⟨fun _ => rfl, fun _ => HSM.out⟩).mono ?_; rintro e w2 ⟨rfl, b_⟩
    replace T1 := hid (T1.out.call b_)
    replace T2 := hid (T2.out.call b_)
    replace T3 := hid (T3.out.call b_)
    replace D := hid (D.out.below b_ D.out.lt)
    replace HB := hid (Bl.call HB.out b_)
    clear b_
    by_cases k1 : mo.size ≤ 300
    case neg =>
      have d1 : (300 : Int) < (mo.size : Int) := by omega
      clear k1
      go_wp2_with fail
      refine (awake_any _).mono ?_; rintro e w3 ⟨rfl, b_⟩
      replace T1 := hid (T1.out.call b_)
      replace T2 := hid (T2.out.call b_)
      replace T3 := hid (T3.out.call b_)
      replace D := hid (D.out.below b_ D.out.lt)
      replace HB := hid (Bl.call HB.out b_)
      clear b_
      go_wp2
      go_ret
      exact ⟨rfl, HB.out⟩
    case pos =>
      have d1 : ¬ (300 : Int) < (mo.size : Int) := by omega
      obtain ⟨lm, rfl, hlm⟩ := str_of mo
      obtain ⟨x, hx⟩ : ∃ x, Sn.sum lm = x := ⟨_, rfl⟩
      obtain ⟨mo, hmo⟩ : ∃ mo, mo = str lm := ⟨_, rfl⟩
      rw [← hmo] at hlm k1 d1 ⊢
      have SA : Hid (∀ w : World, Calls Try.prog 17 #[.string mo] w fun e w' => e = .returned (.int .u64 (x : Int)) ∧ Qt w w') := hid (fun w => by rw [← hx, hmo]; exact bsum_any (by omega))
      have SB : Hid (∀ w : World, Calls Try.prog 18 #[.string mo] w fun e w' => e = .returned (.int .u64 (x : Int)) ∧ Qt w w') := hid (fun w => by rw [← hx, hmo]; exact rsum_any (by omega))
      have ex : ((x : Int) != (x : Int)) = false := by simp
      clear hx hmo hlm k1
      have RF : Hid (∀ w' : World, Sl w' w'.heap.size 2 (.slice A3 ns c3) ns (sls S.ss) → Calls Try.prog 15 #[.agg #[.int .i64 S.N, .int .i64 S.L, .int .i64 S.R, .slice A1 nh c1, .slice A2 ne c2, .slice A3 ns c3]] w' (RefP w' S.N S.L S.R (.slice A1 nh c1) (.slice A2 ne c2) ns S.ss)) := hid (fun w' h => (ref_any h HLE.out.2.2.1).mono fun _ _ h => h.out)
      by_cases hr : SRS S
      case neg =>
        have HR := hid hr
        clear hr
        have x0 := D.out.cell 0
        have x1 := D.out.cell 1
        have x2 := D.out.cell 2
        have x3 := D.out.cell 3
        have x4 := D.out.cell 4
        have x5 := D.out.cell 5
        go_wp2_with fail
        refine (save_no T1.out T2.out T3.out HLE.out.1 HR.out).mono ?_; rintro e w3 ⟨rfl, b_⟩
        replace T1 := hid (T1.out.call b_)
        replace T2 := hid (T2.out.call b_)
        replace T3 := hid (T3.out.call b_)
        replace D := hid (D.out.below b_ D.out.lt)
        replace HB := hid (Bl.call HB.out b_)
        clear b_
        clear x0 x1 x2 x3 x4 x5
        have e1 := str_nil_list
        generalize str [] = sv at *
        have e2 : sv.toList = ([] : List UInt8) := e1
        have x0 := D.out.cell 0
        have x1 := D.out.cell 1
        have x2 := D.out.cell 2
        have x3 := D.out.cell 3
        have x4 := D.out.cell 4
        have x5 := D.out.cell 5
        go_wp2_with fail
        refine (RF.out _ T3.out).mono ?_; rintro e w4 ⟨Ar, cr, rfl, s_, b_⟩
        replace T1 := hid (T1.out.call b_)
        replace T2 := hid (T2.out.call b_)
        replace T3 := hid (T3.out.call b_)
        replace D := hid (D.out.below b_ D.out.lt)
        replace HB := hid (Bl.call HB.out b_)
        have Tr := hid s_
        clear s_ b_
        clear x0 x1 x2 x3 x4 x5
        go_wp2_with fail
        refine (rsr_any T1.out T2.out Tr.out HLE.out.2.1 HLE.out.2.2.2 false ⟨fun h => absurd h HR.out, fun h => by cases h⟩).mono ?_; rintro e w5 ⟨rfl, b_⟩
        replace T1 := hid (T1.out.call b_)
        replace T2 := hid (T2.out.call b_)
        replace T3 := hid (T3.out.call b_)
        replace Tr := hid (Tr.out.call b_)
        replace D := hid (D.out.below b_ D.out.lt)
        replace HB := hid (Bl.call HB.out b_)
        clear b_
        have x0 := D.out.cell 0
        have x1 := D.out.cell 1
        have x2 := D.out.cell 2
        have x3 := D.out.cell 3
        have x4 := D.out.cell 4
        have x5 := D.out.cell 5
        go_wp2_with fail
        refine (sr_any T1.out T2.out T3.out HLE.out.2.1 false ⟨fun h => absurd h HR.out, fun h => by cases h⟩).mono ?_; rintro e w6 ⟨rfl, b_⟩
        replace T1 := hid (T1.out.call b_)
        replace T2 := hid (T2.out.call b_)
        replace T3 := hid (T3.out.call b_)
        replace Tr := hid (Tr.out.call b_)
        replace D := hid (D.out.below b_ D.out.lt)
        replace HB := hid (Bl.call HB.out b_)
        clear b_
        clear x0 x1 x2 x3 x4 x5
        go_wp2_with fail
        refine (SA.out _).mono ?_; rintro e w7 ⟨rfl, b_⟩
        replace b_ := b_.bel
        replace T1 := hid (T1.out.call b_)
        replace T2 := hid (T2.out.call b_)
        replace T3 := hid (T3.out.call b_)
        replace Tr := hid (Tr.out.call b_)
        replace D := hid (D.out.below b_ D.out.lt)
        replace HB := hid (Bl.call HB.out b_)
        clear b_
        go_wp2_with fail
        refine (SB.out _).mono ?_; rintro e w8 ⟨rfl, b_⟩
        replace b_ := b_.bel
        replace T1 := hid (T1.out.call b_)
        replace T2 := hid (T2.out.call b_)
        replace T3 := hid (T3.out.call b_)
        replace Tr := hid (Tr.out.call b_)
        replace D := hid (D.out.below b_ D.out.lt)
        replace HB := hid (Bl.call HB.out b_)
        clear b_
        go_wp2_with fail
        refine (awake_any _).mono ?_; rintro e w9 ⟨rfl, b_⟩
        replace T1 := hid (T1.out.call b_)
        replace T2 := hid (T2.out.call b_)
        replace T3 := hid (T3.out.call b_)
        replace Tr := hid (Tr.out.call b_)
        replace D := hid (D.out.below b_ D.out.lt)
        replace HB := hid (Bl.call HB.out b_)
        clear b_
        go_wp2
        go_ret
        exact ⟨rfl, HB.out⟩
      case pos =>
        have HR := hid hr
        clear hr
        have x0 := D.out.cell 0
        have x1 := D.out.cell 1
        have x2 := D.out.cell 2
        have x3 := D.out.cell 3
        have x4 := D.out.cell 4
        have x5 := D.out.cell 5
        go_wp2_with fail
        refine (save_any T1.out T2.out T3.out HLE.out.1 HR.out W.out).mono ?_; rintro e w3 ⟨rfl, b_⟩
        replace T1 := hid (T1.out.call b_)
        replace T2 := hid (T2.out.call b_)
        replace T3 := hid (T3.out.call b_)
        replace D := hid (D.out.below b_ D.out.lt)
        replace HB := hid (Bl.call HB.out b_)
        clear b_
        clear x0 x1 x2 x3 x4 x5
        obtain ⟨sv, hsv⟩ : ∃ sv, sv = str (Sn.save S) := ⟨_, rfl⟩
        rw [← hsv]
        have HSV := hid hsv
        clear hsv
        have x0 := D.out.cell 0
        have x1 := D.out.cell 1
        have x2 := D.out.cell 2
        have x3 := D.out.cell 3
        have x4 := D.out.cell 4
        have x5 := D.out.cell 5
        go_wp2_with fail
        refine (RF.out _ T3.out).mono ?_; rintro e w4 ⟨Ar, cr, rfl, s_, b_⟩
        replace T1 := hid (T1.out.call b_)
        replace T2 := hid (T2.out.call b_)
        replace T3 := hid (T3.out.call b_)
        replace D := hid (D.out.below b_ D.out.lt)
        replace HB := hid (Bl.call HB.out b_)
        have Tr := hid s_
        clear s_ b_
        clear x0 x1 x2 x3 x4 x5
        go_wp2_with fail
        refine (rsr_any T1.out T2.out Tr.out HLE.out.2.1 HLE.out.2.2.2 true ⟨fun _ => rfl, fun _ => HR.out⟩).mono ?_; rintro e w5 ⟨rfl, b_⟩
        replace T1 := hid (T1.out.call b_)
        replace T2 := hid (T2.out.call b_)
        replace T3 := hid (T3.out.call b_)
        replace Tr := hid (Tr.out.call b_)
        replace D := hid (D.out.below b_ D.out.lt)
        replace HB := hid (Bl.call HB.out b_)
        clear b_
        have x0 := D.out.cell 0
        have x1 := D.out.cell 1
        have x2 := D.out.cell 2
        have x3 := D.out.cell 3
        have x4 := D.out.cell 4
        have x5 := D.out.cell 5
        go_wp2_with fail
        refine (sr_any T1.out T2.out T3.out HLE.out.2.1 true ⟨fun _ => rfl, fun _ => HR.out⟩).mono ?_; rintro e w6 ⟨rfl, b_⟩
        replace T1 := hid (T1.out.call b_)
        replace T2 := hid (T2.out.call b_)
        replace T3 := hid (T3.out.call b_)
        replace Tr := hid (Tr.out.call b_)
        replace D := hid (D.out.below b_ D.out.lt)
        replace HB := hid (Bl.call HB.out b_)
        clear b_
        clear x0 x1 x2 x3 x4 x5
        go_wp2_with fail
        refine (SA.out _).mono ?_; rintro e w7 ⟨rfl, b_⟩
        replace b_ := b_.bel
        replace T1 := hid (T1.out.call b_)
        replace T2 := hid (T2.out.call b_)
        replace T3 := hid (T3.out.call b_)
        replace Tr := hid (Tr.out.call b_)
        replace D := hid (D.out.below b_ D.out.lt)
        replace HB := hid (Bl.call HB.out b_)
        clear b_
        go_wp2_with fail
        refine (SB.out _).mono ?_; rintro e w8 ⟨rfl, b_⟩
        replace b_ := b_.bel
        replace T1 := hid (T1.out.call b_)
        replace T2 := hid (T2.out.call b_)
        replace T3 := hid (T3.out.call b_)
        replace Tr := hid (Tr.out.call b_)
        replace D := hid (D.out.below b_ D.out.lt)
        replace HB := hid (Bl.call HB.out b_)
        clear b_
        have x0 := D.out.cell 0
        have x1 := D.out.cell 1
        have x2 := D.out.cell 2
        have x3 := D.out.cell 3
        have x4 := D.out.cell 4
        have x5 := D.out.cell 5
        go_wp2_with fail
        refine (RF.out _ T3.out).mono ?_; rintro e w9 ⟨Aq, cq, rfl, s_, b_⟩
        replace T1 := hid (T1.out.call b_)
        replace T2 := hid (T2.out.call b_)
        replace T3 := hid (T3.out.call b_)
        replace Tr := hid (Tr.out.call b_)
        replace D := hid (D.out.below b_ D.out.lt)
        replace HB := hid (Bl.call HB.out b_)
        have Tq := hid s_
        clear s_ b_
        clear x0 x1 x2 x3 x4 x5
        have hok := ok_srs HR.out W.out HES.out
        have HOK := hid hok
        clear hok
        go_wp2_with fail
        refine (rsave_any T1.out T2.out Tq.out HLE.out.1 HOK.out).mono ?_; rintro e w10 ⟨rfl, b_⟩
        replace T1 := hid (T1.out.call b_)
        replace T2 := hid (T2.out.call b_)
        replace T3 := hid (T3.out.call b_)
        replace Tr := hid (Tr.out.call b_)
        replace Tq := hid (Tq.out.call b_)
        replace D := hid (D.out.below b_ D.out.lt)
        replace HB := hid (Bl.call HB.out b_)
        clear b_
        rw [← HSV.out]
        go_wp2_with fail
        refine (awake_any _).mono ?_; rintro e w11 ⟨rfl, b_⟩
        replace T1 := hid (T1.out.call b_)
        replace T2 := hid (T2.out.call b_)
        replace T3 := hid (T3.out.call b_)
        replace Tr := hid (Tr.out.call b_)
        replace Tq := hid (Tq.out.call b_)
        replace D := hid (D.out.below b_ D.out.lt)
        replace HB := hid (Bl.call HB.out b_)
        clear b_
        go_wp2
        go_ret
        exact ⟨rfl, HB.out⟩
end Go.Proofs.Ytbafbnkmmpaomaa
