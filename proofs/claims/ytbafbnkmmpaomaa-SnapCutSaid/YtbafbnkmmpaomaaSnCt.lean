/- The walk of SnapCut. -/
import Derived.Test.YtbafbnkmmpaomaaSnW
namespace Go.Proofs.Ytbafbnkmmpaomaa
open Go.RowKit
set_option linter.unusedVariables false
set_option linter.unusedSimpArgs false
attribute [local go_sem ↓] Go.wp_at_zero Go.wp_at_succ
theorem good_cut {l : Sn.By} {i : Nat} (h : Good l) (hi : i < l.length) : ¬ Good (l.take i) := fun g => by
  refine good_app g (m := l.drop i) (fun e => ?_) (by rw [List.take_append_drop]; exact h)
  have := congrArg List.length e
  simp at this
  omega
theorem str_cut (l : Sn.By) (i : Nat) : (str l).extract 0 i = str (l.take i) := by
  apply ByteArray.ext
  simp [str]
set_option maxRecDepth 100000 in
set_option maxHeartbeats 16000000 in
theorem snapCut_walk (S : Sn.St) (vh ve vs : Value) (nh ne ns : Nat) (n_ : Int) (mo : ByteArray) (w : World) (p1 : Sl w w.heap.size 2 vh nh (hcz S.hs)) (p2 : Sl w w.heap.size 3 ve ne (eds S.es)) (p3 : Sl w w.heap.size 2 vs ns (sls S.ss)) (p4 : Wide S) (hn_ : 0 ≤ n_ ∧ n_ ≤ 65535) : Calls Try.prog 8 #[stV S.N S.L S.R vh ve vs, .int .u16 n_, .string mo] w (IsTrue w) := by
  have T1 := hid p1
  have m1 := p1.max
  have T2 := hid p2
  have m2 := p2.max
  have T3 := hid p3
  have m3 := p3.max
  have W := hid p4
  obtain ⟨A1, c1, rfl, -⟩ := p1
  obtain ⟨A2, c2, rfl, -⟩ := p2
  obtain ⟨A3, c3, rfl, -⟩ := p3
  clear p4
  obtain ⟨n_, rfl⟩ := Int.eq_ofNat_of_zero_le hn_.1
  have HB := hid (Below.refl w.heap.size w)
  unfold stV
  obtain ⟨w1, hw1⟩ : ∃ W, W = w.alloc (.cells #[.int .i64 S.N, .int .i64 S.L, .int .i64 S.R, .slice A1 nh c1, .slice A2 ne c2, .slice A3 ns c3] 30) := ⟨_, rfl⟩
  obtain ⟨K, hK⟩ : ∃ K, K = w.heap.size := ⟨_, rfl⟩
  have b_ : Below w.heap.size w w1 := by rw [hw1]; exact bel_new _ _
  replace T1 := hid (T1.out.call b_)
  replace T2 := hid (T2.out.call b_)
  replace T3 := hid (T3.out.call b_)
  replace HB := hid (Bl.call HB.out b_)
  have D : Hid (Blk w1 K 30 [.int .i64 S.N, .int .i64 S.L, .int .i64 S.R, .slice A1 nh c1, .slice A2 ne c2, .slice A3 ns c3]) := hid (by rw [hw1, hK]; exact Blk.new _ _ _)
  have Qw1 := hid hw1
  have QK := hid hK
  clear b_ hw1 hK
  go_enter Try.func8, Try.ntmps8
  go_wp2_with fail
  rw [← QK.out, ← Qw1.out]
  by_cases hsm : SmS S.N S.L S.R nh ne ns
  case neg =>
    have HF : Hid (SmS S.N S.L S.R nh ne ns ↔ false = true) := hid (by simp only [hsm]; simp)
    clear hsm
    refine (small_is m1 m2 false HF.out).mono ?_; rintro e w2 ⟨rfl, b_⟩
    replace T1 := hid (T1.out.call b_)
    replace T2 := hid (T2.out.call b_)
    replace T3 := hid (T3.out.call b_)
    replace D := hid (D.out.below b_ D.out.lt)
    replace HB := hid (Bl.call HB.out b_)
    clear b_
    go_wp2_with fail
    refine (awake_any _).mono ?_; rintro e w3 ⟨rfl, b_⟩
    replace T1 := hid (T1.out.call b_)
    replace T2 := hid (T2.out.call b_)
    replace T3 := hid (T3.out.call b_)
    replace D := hid (D.out.below b_ D.out.lt)
    replace HB := hid (Bl.call HB.out b_)
    clear b_
    go_wp2
    go_ret
    exact ⟨rfl, HB.out⟩
  case pos =>
    have HLE : Hid (ne ≤ 100000 ∧ ne ≤ 1000000 ∧ ns ≤ 100000) := hid (by have := hsm.1.2.2.2.1; have := hsm.2; omega)
    have HES : Hid (S.es.length ≤ 100000) := hid (by have h1 := T2.out.len; rw [len_eds] at h1; have := HLE.out; omega)
    have HSM := hid hsm
    clear hsm
    refine (small_is m1 m2 true ⟨fun _ => rfl, fun _ => HSM.out⟩).mono ?_; rintro e w2 ⟨rfl, b_⟩
    replace T1 := hid (T1.out.call b_)
    replace T2 := hid (T2.out.call b_)
    replace T3 := hid (T3.out.call b_)
    replace D := hid (D.out.below b_ D.out.lt)
    replace HB := hid (Bl.call HB.out b_)
    clear b_
    by_cases k1 : mo.size ≤ 20
    case neg =>
      have d1 : (20 : Int) < (mo.size : Int) := by omega
      clear k1
      go_wp2_with fail
      refine (awake_any _).mono ?_; rintro e w3 ⟨rfl, b_⟩
      replace T1 := hid (T1.out.call b_)
      replace T2 := hid (T2.out.call b_)
      replace T3 := hid (T3.out.call b_)
      replace D := hid (D.out.below b_ D.out.lt)
      replace HB := hid (Bl.call HB.out b_)
      clear b_
      go_wp2
      go_ret
      exact ⟨rfl, HB.out⟩
    case pos =>
      have d1 : ¬ (20 : Int) < (mo.size : Int) := by omega
      by_cases hr : SRS S
      case neg =>
        have HR := hid hr
        clear hr
        have x0 := D.out.cell 0
        have x1 := D.out.cell 1
        have x2 := D.out.cell 2
        have x3 := D.out.cell 3
        have x4 := D.out.cell 4
        have x5 := D.out.cell 5
        go_wp2_with fail
        refine (save_no T1.out T2.out T3.out HLE.out.1 HR.out).mono ?_; rintro e w3 ⟨rfl, b_⟩
        replace T1 := hid (T1.out.call b_)
        replace T2 := hid (T2.out.call b_)
        replace T3 := hid (T3.out.call b_)
        replace D := hid (D.out.below b_ D.out.lt)
        replace HB := hid (Bl.call HB.out b_)
        clear b_
        clear x0 x1 x2 x3 x4 x5
        have e1 := str_nil_list
        generalize str [] = sv at *
        have e2 : sv.toList = ([] : List UInt8) := e1
        go_wp2_with fail
        refine (awake_any _).mono ?_; rintro e w4 ⟨rfl, b_⟩
        replace T1 := hid (T1.out.call b_)
        replace T2 := hid (T2.out.call b_)
        replace T3 := hid (T3.out.call b_)
        replace D := hid (D.out.below b_ D.out.lt)
        replace HB := hid (Bl.call HB.out b_)
        clear b_
        go_wp2
        go_ret
        exact ⟨rfl, HB.out⟩
      case pos =>
        have HR := hid hr
        have hok := ok_srs hr W.out HES.out
        obtain ⟨m, hm⟩ : ∃ m, (Sn.save S).length = m := ⟨_, rfl⟩
        have hm1 : m = 22 + 16 * nh + 9 * ns + 5 * ne := by rw [← hm, Sn.save_len]; have h1 := T1.out.len; have h2 := T2.out.len; have h3 := T3.out.len; rw [len_hcz] at h1; rw [len_eds] at h2; rw [len_sls] at h3; omega
        have hm2 : 30 ≤ m ∧ m ≤ 1000 := by
          have h1 := HSM.out.1
          unfold SmG at h1
          have h2 := HSM.out.2
          have h3 := hok.sl
          have h4 := T3.out.len
          rw [len_sls] at h4
          have h5 := hr.1.1.1
          have h6 : 1 ≤ ns := by omega
          have h7 := hr.1.2.1
          have h8 := T1.out.len
          rw [len_hcz] at h8
          have h9 : 1 ≤ S.L * S.R := Int.mul_pos hr.1.1.2.2.1 hr.1.1.2.2.2.2.1
          omega
        have hg := good_save hr W.out HES.out
        obtain ⟨lm, rfl, hlm⟩ := str_of mo
        obtain ⟨i, hi⟩ : ∃ i, n_ % m = i := ⟨_, rfl⟩
        have him : i < m := by rw [← hi]; exact Nat.mod_lt _ (by omega)
        have hi2 : (n_ : Int) % (m : Int) = (i : Int) := by rw [← hi]; omega
        obtain ⟨sv, hsv⟩ : ∃ sv, sv = str (Sn.save S) := ⟨_, rfl⟩
        have hsz : sv.size = m := by rw [hsv, str_size, hm]
        have CX : Hid (∀ w : World, Calls Try.prog 20 #[.string (sv.extract 0 i)] w (StP w st0 0 0 0 (.int .i64 12))) := hid (fun w => by rw [hsv, str_cut]; exact res_no' (by rw [List.length_take]; omega) (good_cut hg (by omega)))
        obtain ⟨mo, hmo⟩ : ∃ mo, mo = str lm := ⟨_, rfl⟩
        obtain ⟨mo, hmo⟩ : ∃ mo, mo = str lm := ⟨_, rfl⟩
        rw [← hmo] at hlm k1 d1 ⊢
        have hml : mo.toList = lm := by rw [hmo, str_list]
        have g1 : ¬ 9223372036854775807 < m + mo.size := by omega
        have HSV := hid hsv
        have HMO := hid hmo
        have HG := hid hg
        have HML := hid hml
        have HM1 := hid hm
        have HLM := hid hlm
        have d2 : ¬ (m : Int) < 30 := by omega
        have m1000 : m ≤ 1000 := hm2.2
        have im : (i : Int) ≤ (m : Int) := by omega
        clear hr hok hm hm1 hm2 hg hsv hmo hml hlm hi
        have x0 := D.out.cell 0
        have x1 := D.out.cell 1
        have x2 := D.out.cell 2
        have x3 := D.out.cell 3
        have x4 := D.out.cell 4
        have x5 := D.out.cell 5
        go_wp2_with fail
        refine (save_any T1.out T2.out T3.out HLE.out.1 HR.out W.out).mono ?_; rintro e w3 ⟨rfl, b_⟩
        replace T1 := hid (T1.out.call b_)
        replace T2 := hid (T2.out.call b_)
        replace T3 := hid (T3.out.call b_)
        replace D := hid (D.out.below b_ D.out.lt)
        replace HB := hid (Bl.call HB.out b_)
        clear b_
        clear x0 x1 x2 x3 x4 x5
        rw [← HSV.out]
        go_wp2_with fail
        refine (CX.out _).mono ?_; rintro e w9 ⟨A4, A5, A6, c4, c5, c6, n4, n5, n6, rfl, st_, b_⟩
        clear st_
        replace T1 := hid (T1.out.call b_)
        replace T2 := hid (T2.out.call b_)
        replace T3 := hid (T3.out.call b_)
        replace D := hid (D.out.below b_ D.out.lt)
        replace HB := hid (Bl.call HB.out b_)
        clear b_
        go_wp2_with fail
        have b_ := bel_new w9 (.cells #[.int .i64 0, .int .i64 0, .int .i64 0, .slice A4 n4 c4, .slice A5 n5 c5, .slice A6 n6 c6] 30)
        replace T1 := hid (T1.out.call b_)
        replace T2 := hid (T2.out.call b_)
        replace T3 := hid (T3.out.call b_)
        replace D := hid (D.out.below b_ D.out.lt)
        replace HB := hid (Bl.call HB.out b_)
        clear b_
        by_cases hl0 : lm = []
        case pos =>
          have ER : Hid (sv ++ mo = str (Sn.save S)) := hid (by rw [HSV.out, HMO.out, str_app, hl0, List.append_nil])
          have RY : Hid (∀ w : World, Calls Try.prog 20 #[.string (sv ++ mo)] w (StP w S S.N S.L S.R (.int .i64 0))) := hid (fun w => by rw [ER.out]; exact res_yes' (by rw [HM1.out]; omega) HR.out W.out HES.out rfl _ _ _ rfl rfl rfl)
          have e2 : mo.toList = [] := by rw [HML.out, hl0]
          clear hl0
          refine (RY.out _).mono ?_; rintro e w11 ⟨A7, A8, A9, c7, c8, c9, n7, n8, n9, rfl, st_, b_⟩
          clear st_
          replace T1 := hid (T1.out.call b_)
          replace T2 := hid (T2.out.call b_)
          replace T3 := hid (T3.out.call b_)
          replace D := hid (D.out.below b_ D.out.lt)
          replace HB := hid (Bl.call HB.out b_)
          clear b_
          go_wp2_with fail
          have b_ := bel_new w11 (.cells #[.int .i64 S.N, .int .i64 S.L, .int .i64 S.R, .slice A7 n7 c7, .slice A8 n8 c8, .slice A9 n9 c9] 30)
          replace T1 := hid (T1.out.call b_)
          replace T2 := hid (T2.out.call b_)
          replace T3 := hid (T3.out.call b_)
          replace D := hid (D.out.below b_ D.out.lt)
          replace HB := hid (Bl.call HB.out b_)
          clear b_
          refine (awake_any _).mono ?_; rintro e w12 ⟨rfl, b_⟩
          replace T1 := hid (T1.out.call b_)
          replace T2 := hid (T2.out.call b_)
          replace T3 := hid (T3.out.call b_)
          replace D := hid (D.out.below b_ D.out.lt)
          replace HB := hid (Bl.call HB.out b_)
          clear b_
          go_wp2
          go_ret
          exact ⟨rfl, HB.out⟩
        case neg =>
          have ER : Hid (sv ++ mo = str (Sn.save S ++ lm)) := hid (by rw [HSV.out, HMO.out, str_app])
          have hlm20 : lm.length ≤ 20 := by have h1 := HLM.out; have h2 : mo.size = lm.length := by rw [HMO.out, str_size]
                                            omega
          have HLL := hid hlm20
          clear hlm20
          have RY : Hid (∀ w : World, Calls Try.prog 20 #[.string (sv ++ mo)] w (StP w st0 0 0 0 (.int .i64 12))) := hid (fun w => by rw [ER.out]; exact res_no' (by rw [List.length_append, HM1.out]; have := HLL.out; omega) (good_app HG.out hl0))
          have e2 : (mo.toList == []) = false := by rw [HML.out, beq_eq_false_iff_ne]; exact hl0
          clear hl0
          refine (RY.out _).mono ?_; rintro e w11 ⟨A7, A8, A9, c7, c8, c9, n7, n8, n9, rfl, st_, b_⟩
          clear st_
          replace T1 := hid (T1.out.call b_)
          replace T2 := hid (T2.out.call b_)
          replace T3 := hid (T3.out.call b_)
          replace D := hid (D.out.below b_ D.out.lt)
          replace HB := hid (Bl.call HB.out b_)
          clear b_
          go_wp2_with fail
          have b_ := bel_new w11 (.cells #[.int .i64 0, .int .i64 0, .int .i64 0, .slice A7 n7 c7, .slice A8 n8 c8, .slice A9 n9 c9] 30)
          replace T1 := hid (T1.out.call b_)
          replace T2 := hid (T2.out.call b_)
          replace T3 := hid (T3.out.call b_)
          replace D := hid (D.out.below b_ D.out.lt)
          replace HB := hid (Bl.call HB.out b_)
          clear b_
          refine (awake_any _).mono ?_; rintro e w12 ⟨rfl, b_⟩
          replace T1 := hid (T1.out.call b_)
          replace T2 := hid (T2.out.call b_)
          replace T3 := hid (T3.out.call b_)
          replace D := hid (D.out.below b_ D.out.lt)
          replace HB := hid (Bl.call HB.out b_)
          clear b_
          go_wp2
          go_ret
          exact ⟨rfl, HB.out⟩
end Go.Proofs.Ytbafbnkmmpaomaa
