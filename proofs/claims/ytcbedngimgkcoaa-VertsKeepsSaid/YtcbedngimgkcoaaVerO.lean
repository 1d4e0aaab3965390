/- The walk of VertsBack. -/
import Derived.Test.YtcbedngimgkcoaaVerN
import Derived.Test.YtcbedngimgkcoaaVertsLaws2
namespace Go.Proofs.Ytcbedngimgkcoaa
open Go.RowKit
set_option linter.unusedVariables false
set_option linter.unusedSimpArgs false
attribute [local go_sem ↓] Go.wp_at_zero Go.wp_at_succ
theorem kd_yes {l : List (Bool × Int)} (h : Vt.Ok l) : (kd l).isSome = true := by obtain ⟨d, h1, -⟩ := kd_ok h; rw [h1]; rfl
theorem kd_no {l : List (Bool × Int)} (h : ¬ Vt.Ok l) : (kd l).isSome = false := by rw [kd_bad h]; rfl
set_option maxRecDepth 100000 in
set_option maxHeartbeats 4000000 in
theorem vertsBack_walk (v : Value) (n : Nat) (l : List (Bool × Int)) (k : Int) (w : World) (hs : Sl w w.heap.size 2 v n (sls l)) :
    Calls Try.prog 6 #[v, .int .u64 k] w (IsTrue w) := by
  have HB := hid (Below.refl w.heap.size w)
  have S0 := hid hs
  have hll : l.length = n := by have := hs.len; rw [len_sls] at this; omega
  obtain ⟨A, c, rfl, hnc, hcm, -, hx⟩ := hs
  have HX := hid hx
  clear hx hcm hnc
  by_cases g : n ≤ 60
  case neg =>
    have g1 : (60 : Int) < (n : Int) := by omega
    go_enter Try.func6, Try.ntmps6
    go_wp2_with fail
    refine (awake_any _).mono ?_; rintro e w1 ⟨rfl, b_⟩
    replace HB := hid (Bl.call HB.out b_)
    clear b_
    go_wp2
    go_ret
    exact ⟨rfl, HB.out⟩
  have g1 : ¬ (60 : Int) < (n : Int) := by omega
  have HN : Hid (n ≤ 100000) := hid (by omega)
  have HLN := hid hll
  clear hll
  by_cases ho : Vt.Ok l
  case neg =>
    have HK := hid (kd_no ho)
    clear ho
    go_enter Try.func6, Try.ntmps6
    go_wp2_with fail
    refine (vright_is S0.out false HK.out).mono ?_; rintro e w1 ⟨rfl, b_⟩
    replace S0 := hid (S0.out.call b_)
    replace HB := hid (Bl.call HB.out b_)
    clear b_
    go_wp2_with fail
    refine (awake_any _).mono ?_; rintro e w2 ⟨rfl, b_⟩
    replace S0 := hid (S0.out.call b_)
    replace HB := hid (Bl.call HB.out b_)
    clear b_
    go_wp2
    go_ret
    exact ⟨rfl, HB.out⟩
  case pos =>
    have HO := hid ho
    have HK := hid (kd_yes ho)
    have hfd := fd_ok ho k
    cases hf : Vt.fn l k with
    | none =>
      have HF1 : Hid ((fdP l k).getD 0 = 0) := hid (by rw [hfd, hf]; rfl)
      have HF2 : Hid ((fdP l k).isSome = false) := hid (by rw [hfd, hf]; rfl)
      have HFN := hid hf
      cases hff : Vt.ff l with
      | none =>
        have HA : Hid (Vt.add l k = (l, 0, 10)) := hid (Vt.add_full ho hf hff)
        clear ho hf hfd hff
        go_enter Try.func6, Try.ntmps6
        go_wp2_with fail
        refine (vright_is S0.out true HK.out).mono ?_; rintro e w1 ⟨rfl, b_⟩
        replace S0 := hid (S0.out.call b_)
        replace HB := hid (Bl.call HB.out b_)
        clear b_
        go_wp2_with fail
        refine (vfind_is S0.out 0 false HF1.out HF2.out).mono ?_; rintro e w2 ⟨rfl, b_⟩
        replace S0 := hid (S0.out.call b_)
        replace HB := hid (Bl.call HB.out b_)
        clear b_
        go_wp2_with fail
        refine (vadd_is S0.out l 0 10 HA.out (by decide) (by decide)).mono ?_; rintro e w3 ⟨v1, rfl, s1_, b_⟩
        replace S0 := hid (S0.out.call b_)
        replace HB := hid (Bl.call HB.out b_)
        have S1 := hid s1_
        clear s1_
        clear b_
        go_wp2_with fail
        refine (awake_any _).mono ?_; rintro e w4 ⟨rfl, b_⟩
        replace S0 := hid (S0.out.call b_)
        replace S1 := hid (S1.out.call b_)
        replace HB := hid (Bl.call HB.out b_)
        clear b_
        go_wp2
        go_ret
        exact ⟨rfl, HB.out⟩
      | some p =>
        have HA : Hid (Vt.add l k = (l.set p (true, k), (p : Int).toNat, 0)) := hid (by simpa using Vt.add_ok ho hf hff)
        obtain ⟨h1, h2, h3⟩ := Vt.back3 ho hf hff
        have HR : Hid (Vt.rem (l.set p (true, k)) k = (l, 0)) := hid (by rw [Vt.rem_ok h1 h2, h3])
        clear ho hf hfd hff h1 h2 h3
        go_enter Try.func6, Try.ntmps6
        go_wp2_with fail
        refine (vright_is S0.out true HK.out).mono ?_; rintro e w1 ⟨rfl, b_⟩
        replace S0 := hid (S0.out.call b_)
        replace HB := hid (Bl.call HB.out b_)
        clear b_
        go_wp2_with fail
        refine (vfind_is S0.out 0 false HF1.out HF2.out).mono ?_; rintro e w2 ⟨rfl, b_⟩
        replace S0 := hid (S0.out.call b_)
        replace HB := hid (Bl.call HB.out b_)
        clear b_
        go_wp2_with fail
        refine (vadd_is S0.out (l.set p (true, k)) (p : Int) 0 HA.out (by omega) (by decide)).mono ?_; rintro e w3 ⟨v1, rfl, s1_, b_⟩
        replace S0 := hid (S0.out.call b_)
        replace HB := hid (Bl.call HB.out b_)
        have S1 := hid s1_
        clear s1_
        clear b_
        go_wp2_with fail
        refine (vrem_is S1.out l 0 HR.out (by decide)).mono ?_; rintro e w4 ⟨v2, rfl, s2_, b_⟩
        replace S0 := hid (S0.out.call b_)
        replace S1 := hid (S1.out.call b_)
        replace HB := hid (Bl.call HB.out b_)
        have S2 := hid s2_
        clear s2_
        clear b_
        go_wp2_with fail
        refine (refs_any S2.out HN.out).mono ?_; rintro e w5 ⟨v3, rfl, s3_, b_⟩
        replace S0 := hid (S0.out.call b_)
        replace S1 := hid (S1.out.call b_)
        replace S2 := hid (S2.out.call b_)
        replace HB := hid (Bl.call HB.out b_)
        have S3 := hid s3_
        clear s3_
        clear b_
        go_wp2_with fail
        refine (refs_any S0.out HN.out).mono ?_; rintro e w6 ⟨v4, rfl, s4_, b_⟩
        replace S0 := hid (S0.out.call b_)
        replace S1 := hid (S1.out.call b_)
        replace S2 := hid (S2.out.call b_)
        replace S3 := hid (S3.out.call b_)
        replace HB := hid (Bl.call HB.out b_)
        have S4 := hid s4_
        clear s4_
        clear b_
        go_wp2_with fail
        refine (rsame_is _ _ _ _ _ _ _ _ _ true (by simp) S3.out S4.out).mono ?_; rintro e w7 ⟨rfl, b_⟩
        replace b_ := b_.bel
        replace S0 := hid (S0.out.call b_)
        replace S1 := hid (S1.out.call b_)
        replace S2 := hid (S2.out.call b_)
        replace S3 := hid (S3.out.call b_)
        replace S4 := hid (S4.out.call b_)
        replace HB := hid (Bl.call HB.out b_)
        clear b_
        go_wp2_with fail
        refine (awake_any _).mono ?_; rintro e w8 ⟨rfl, b_⟩
        replace S0 := hid (S0.out.call b_)
        replace S1 := hid (S1.out.call b_)
        replace S2 := hid (S2.out.call b_)
        replace S3 := hid (S3.out.call b_)
        replace S4 := hid (S4.out.call b_)
        replace HB := hid (Bl.call HB.out b_)
        clear b_
        go_wp2
        go_ret
        exact ⟨rfl, HB.out⟩
    | some j =>
      have HF1 : Hid ((fdP l k).getD 0 = (j : Int)) := hid (by rw [hfd, hf]; rfl)
      have HF2 : Hid ((fdP l k).isSome = true) := hid (by rw [hfd, hf]; rfl)
      obtain ⟨h1, h2, f, h3, h4, h5, h6, h7⟩ := Vt.back4 ho hf
      have hjl : j < l.length := (Vt.at_fn hf).1
      have HR : Hid (Vt.rem l k = (l.set j (false, 0), 0)) := hid (Vt.rem_ok ho hf)
      have HA : Hid (Vt.add (l.set j (false, 0)) k = ((l.set j (false, 0)).set f (true, k), (f : Int).toNat, 0)) := hid (by simpa using Vt.add_ok h1 h2 h3)
      have H5 := hid h5
      have H6 := hid h6
      have H7 := hid h7
      have HJ := hid hjl
      have hjn : j < n := by rw [HLN.out] at hjl; exact hjl
      clear ho hf hfd h1 h2 h3 h5 h6 h7 hjl
      go_enter Try.func6, Try.ntmps6
      go_wp2_with fail
      refine (vright_is S0.out true HK.out).mono ?_; rintro e w1 ⟨rfl, b_⟩
      replace S0 := hid (S0.out.call b_)
      replace HB := hid (Bl.call HB.out b_)
      clear b_
      go_wp2_with fail
      refine (vfind_is S0.out (j : Int) true HF1.out HF2.out).mono ?_; rintro e w2 ⟨rfl, b_⟩
      replace S0 := hid (S0.out.call b_)
      replace HB := hid (Bl.call HB.out b_)
      clear b_
      go_wp2_with fail
      refine (vrem_is S0.out (l.set j (false, 0)) 0 HR.out (by decide)).mono ?_; rintro e w3 ⟨v1, rfl, s1_, b_⟩
      replace S0 := hid (S0.out.call b_)
      replace HB := hid (Bl.call HB.out b_)
      have S1 := hid s1_
      clear s1_
      clear b_
      go_wp2_with fail
      refine (vadd_is S1.out ((l.set j (false, 0)).set f (true, k)) (f : Int) 0 HA.out (by omega) (by decide)).mono ?_; rintro e w4 ⟨v2, rfl, s2_, b_⟩
      replace S0 := hid (S0.out.call b_)
      replace S1 := hid (S1.out.call b_)
      replace HB := hid (Bl.call HB.out b_)
      have S2 := hid s2_
      clear s2_
      clear b_
      have HBW := HB
      go_wp2_with fail
      go_loop [17] (fun iv => ∃ p : Nat, iv = .int .i64 (p : Int) ∧ p ≤ f) (fun iv => f - (intOf iv).toNat)
      case atStart => exact ⟨0, rfl, Nat.zero_le _⟩
      case round =>
        obtain ⟨p, rfl, hp⟩ := hrel
        have j0 : (0 : Int) ≤ (p : Int) := by omega
        have j2 : (p : Int) < (n : Int) := by omega
        have hpl : p < l.length := by rw [HLN.out]; omega
        obtain ⟨b6, o6, rfl, hb6, hc6⟩ := HX.out (by omega)
        have c0 := (HB.out.cell (p := ⟨b6, o6 + p * 2, none⟩) hb6).trans (sls_cell hc6 hpl).1
        by_cases hpf : p < f
        · have j1 : (p : Int) < (j : Int) := by omega
          rw [H5.out p hpl hpf] at c0
          clear hc6 hpl
          go_wp2_with fail
          go_round
          case rel => exact ⟨p + 1, by go_num, by omega⟩
          case measure => simp [intOf]; omega
        · obtain rfl : p = f := by omega
          have x1 : ((p : Int) == (p : Int)) = true := by simp
          by_cases hfj : p < j
          · have j1 : (p : Int) < (j : Int) := by omega
            rw [H6.out hfj hpl] at c0
            clear hc6 hpl
            go_wp2_with fail
            refine (awake_any _).mono ?_; rintro e w5 ⟨rfl, b_⟩
            replace S0 := hid (S0.out.call b_)
            replace S1 := hid (S1.out.call b_)
            replace S2 := hid (S2.out.call b_)
            replace HB := hid (Bl.call HB.out b_)
            clear b_
            go_wp2
            go_ret
            exact ⟨rfl, HB.out⟩
          · obtain rfl : p = j := by omega
            have j1 : ¬ (p : Int) < (p : Int) := by omega
            have HE := hid (H7.out rfl)
            clear hc6 hpl c0
            go_wp2_with fail
            refine (refs_any S2.out HN.out).mono ?_; rintro e w5 ⟨v3, rfl, s3_, b_⟩
            replace S0 := hid (S0.out.call b_)
            replace S1 := hid (S1.out.call b_)
            replace S2 := hid (S2.out.call b_)
            replace HB := hid (Bl.call HB.out b_)
            have S3 := hid s3_
            clear s3_
            clear b_
            go_wp2_with fail
            refine (refs_any S0.out HN.out).mono ?_; rintro e w6 ⟨v4, rfl, s4_, b_⟩
            replace S0 := hid (S0.out.call b_)
            replace S1 := hid (S1.out.call b_)
            replace S2 := hid (S2.out.call b_)
            replace S3 := hid (S3.out.call b_)
            replace HB := hid (Bl.call HB.out b_)
            have S4 := hid s4_
            clear s4_
            clear b_
            go_wp2_with fail
            refine (rsame_is _ _ _ _ _ _ _ _ _ true (by rw [HE.out]; simp) S3.out S4.out).mono ?_; rintro e w7 ⟨rfl, b_⟩
            replace b_ := b_.bel
            replace S0 := hid (S0.out.call b_)
            replace S1 := hid (S1.out.call b_)
            replace S2 := hid (S2.out.call b_)
            replace S3 := hid (S3.out.call b_)
            replace S4 := hid (S4.out.call b_)
            replace HB := hid (Bl.call HB.out b_)
            clear b_
            go_wp2_with fail
            refine (awake_any _).mono ?_; rintro e w8 ⟨rfl, b_⟩
            replace S0 := hid (S0.out.call b_)
            replace S1 := hid (S1.out.call b_)
            replace S2 := hid (S2.out.call b_)
            replace S3 := hid (S3.out.call b_)
            replace S4 := hid (S4.out.call b_)
            replace HB := hid (Bl.call HB.out b_)
            clear b_
            go_wp2
            go_ret
            exact ⟨rfl, HB.out⟩
end Go.Proofs.Ytcbedngimgkcoaa
