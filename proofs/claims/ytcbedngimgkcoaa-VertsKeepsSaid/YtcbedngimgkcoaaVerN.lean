/- The walk of VertsTells. -/
import Derived.Test.YtcbedngimgkcoaaVerM
namespace Go.Proofs.Ytcbedngimgkcoaa
open Go.RowKit
set_option linter.unusedVariables false
set_option linter.unusedSimpArgs false
theorem ksP_bad {l : List (Bool × Int)} (h : ¬ Vt.Ok l) : ksP l = [] := by unfold ksP; rw [kd_bad h]; rfl
theorem fd_bad {l : List (Bool × Int)} (h : ¬ Vt.Ok l) (k : Int) : fdP l k = none := by unfold fdP; rw [kd_bad h]; rfl
set_option maxRecDepth 100000 in
set_option maxHeartbeats 4000000 in
theorem vertsTells_walk (v : Value) (n : Nat) (l : List (Bool × Int)) (k : Int) (w : World) (hs : Sl w w.heap.size 2 v n (sls l)) :
    Calls Try.prog 3 #[v, .int .u64 k] w (IsTrue w) := by
  have HB := hid (Below.refl w.heap.size w)
  have S0 := hid hs
  obtain ⟨A, c, rfl, -⟩ := hs
  by_cases g : n ≤ 60
  case neg =>
    have g1 : (60 : Int) < (n : Int) := by omega
    go_enter Try.func3, Try.ntmps3
    go_wp2_with fail
    refine (awake_any _).mono ?_; rintro e w1 ⟨rfl, b_⟩
    replace HB := hid (Bl.call HB.out b_)
    clear b_
    go_wp2
    go_ret
    exact ⟨rfl, HB.out⟩
  have g1 : ¬ (60 : Int) < (n : Int) := by omega
  obtain ⟨m, i, e, hadd⟩ : ∃ (m : List (Bool × Int)) (i e : Nat), Vt.add l k = (m, i, e) := ⟨_, _, _, rfl⟩
  obtain ⟨m2, e2, hrem⟩ : ∃ (m : List (Bool × Int)) (e : Nat), Vt.rem l k = (m, e) := ⟨_, _, rfl⟩
  have HADD : Hid (Vt.add l k = (m, (i : Int).toNat, (e : Int).toNat)) := hid (by simpa using hadd)
  have HREM : Hid (Vt.rem l k = (m2, (e2 : Int).toNat)) := hid (by simpa using hrem)
  have HN : Hid (n ≤ 100000) := hid (by omega)
  have x1 : ((i : Int) != (i : Int)) = false := by simp
  have x2 : ((e : Int) != (e : Int)) = false := by simp
  have x3 : ((e2 : Int) != (e2 : Int)) = false := by simp
  clear hadd hrem
  by_cases ho : Vt.Ok l
  case neg =>
    have HOK : Hid (Vt.Ok l ↔ false = true) := hid (by simp [ho])
    have HKD : Hid ((kd l).isSome = false) := hid (by rw [kd_bad ho]; rfl)
    have HF1 : Hid ((fdP l k).getD 0 = 0) := hid (by rw [fd_bad ho]; rfl)
    have HF2 : Hid ((fdP l k).isSome = false) := hid (by rw [fd_bad ho]; rfl)
    obtain ⟨ks, hks⟩ : ∃ ks : List Int, ks = [] := ⟨_, rfl⟩
    obtain ⟨nk, hnk⟩ : ∃ nk : Nat, nk = 0 := ⟨_, rfl⟩
    subst hnk
    have HK1 : Hid (ksP l = ks) := hid (by rw [ksP_bad ho, hks])
    have HK2 : Hid (ks.length = 0) := hid (by rw [hks]; rfl)
    clear ho hks
    go_enter Try.func3, Try.ntmps3
    go_wp2_with fail
    refine (refs_any S0.out HN.out).mono ?_; rintro e w1 ⟨v1, rfl, s1_, b_⟩
    replace S0 := hid (S0.out.call b_)
    replace HB := hid (Bl.call HB.out b_)
    have S1 := hid s1_
    clear s1_
    clear b_
    go_wp2_with fail
    refine (rright_is S1.out false HOK.out).mono ?_; rintro e w2 ⟨rfl, b_⟩
    replace b_ := b_.bel
    replace S0 := hid (S0.out.call b_)
    replace S1 := hid (S1.out.call b_)
    replace HB := hid (Bl.call HB.out b_)
    clear b_
    go_wp2_with fail
    refine (vadd_is S0.out m (i : Int) (e : Int) HADD.out (by omega) (by omega)).mono ?_; rintro e w3 ⟨v2, rfl, s2_, b_⟩
    replace S0 := hid (S0.out.call b_)
    replace S1 := hid (S1.out.call b_)
    replace HB := hid (Bl.call HB.out b_)
    have S2 := hid s2_
    clear s2_
    clear b_
    go_wp2_with fail
    refine (radd_is S1.out m (i : Int) (e : Int) HADD.out (by omega) (by omega)).mono ?_; rintro e w4 ⟨v3, rfl, s3_, b_⟩
    replace S0 := hid (S0.out.call b_)
    replace S1 := hid (S1.out.call b_)
    replace S2 := hid (S2.out.call b_)
    replace HB := hid (Bl.call HB.out b_)
    have S3 := hid s3_
    clear s3_
    clear b_
    go_wp2_with fail
    refine (vrem_is S0.out m2 (e2 : Int) HREM.out (by omega)).mono ?_; rintro e w5 ⟨v4, rfl, s4_, b_⟩
    replace S0 := hid (S0.out.call b_)
    replace S1 := hid (S1.out.call b_)
    replace S2 := hid (S2.out.call b_)
    replace S3 := hid (S3.out.call b_)
    replace HB := hid (Bl.call HB.out b_)
    have S4 := hid s4_
    clear s4_
    clear b_
    go_wp2_with fail
    refine (rrem_is S1.out m2 (e2 : Int) HREM.out (by omega)).mono ?_; rintro e w6 ⟨v5, rfl, s5_, b_⟩
    replace S0 := hid (S0.out.call b_)
    replace S1 := hid (S1.out.call b_)
    replace S2 := hid (S2.out.call b_)
    replace S3 := hid (S3.out.call b_)
    replace S4 := hid (S4.out.call b_)
    replace HB := hid (Bl.call HB.out b_)
    have S5 := hid s5_
    clear s5_
    clear b_
    go_wp2_with fail
    refine (vfind_is S0.out 0 false HF1.out HF2.out).mono ?_; rintro e w7 ⟨rfl, b_⟩
    replace S0 := hid (S0.out.call b_)
    replace S1 := hid (S1.out.call b_)
    replace S2 := hid (S2.out.call b_)
    replace S3 := hid (S3.out.call b_)
    replace S4 := hid (S4.out.call b_)
    replace S5 := hid (S5.out.call b_)
    replace HB := hid (Bl.call HB.out b_)
    clear b_
    go_wp2_with fail
    refine (vkeys_is S0.out ks 0 HK1.out HK2.out).mono ?_; rintro e w8 ⟨v6, rfl, s6_, b_⟩
    replace S0 := hid (S0.out.call b_)
    replace S1 := hid (S1.out.call b_)
    replace S2 := hid (S2.out.call b_)
    replace S3 := hid (S3.out.call b_)
    replace S4 := hid (S4.out.call b_)
    replace S5 := hid (S5.out.call b_)
    replace HB := hid (Bl.call HB.out b_)
    have S6 := hid s6_
    clear s6_
    clear b_
    obtain ⟨A6, c6, rfl, -⟩ := S6.out
    go_wp2_with fail
    refine (vright_is S0.out false HKD.out).mono ?_; rintro e w9 ⟨rfl, b_⟩
    replace S0 := hid (S0.out.call b_)
    replace S1 := hid (S1.out.call b_)
    replace S2 := hid (S2.out.call b_)
    replace S3 := hid (S3.out.call b_)
    replace S4 := hid (S4.out.call b_)
    replace S5 := hid (S5.out.call b_)
    replace S6 := hid (S6.out.call b_)
    replace HB := hid (Bl.call HB.out b_)
    clear b_
    go_wp2_with fail
    refine (refs_any S2.out HN.out).mono ?_; rintro e w10 ⟨v7, rfl, s7_, b_⟩
    replace S0 := hid (S0.out.call b_)
    replace S1 := hid (S1.out.call b_)
    replace S2 := hid (S2.out.call b_)
    replace S3 := hid (S3.out.call b_)
    replace S4 := hid (S4.out.call b_)
    replace S5 := hid (S5.out.call b_)
    replace S6 := hid (S6.out.call b_)
    replace HB := hid (Bl.call HB.out b_)
    have S7 := hid s7_
    clear s7_
    clear b_
    go_wp2_with fail
    refine (rsame_is _ _ _ _ _ _ _ _ _ true (by simp) S7.out S3.out).mono ?_; rintro e w11 ⟨rfl, b_⟩
    replace b_ := b_.bel
    replace S0 := hid (S0.out.call b_)
    replace S1 := hid (S1.out.call b_)
    replace S2 := hid (S2.out.call b_)
    replace S3 := hid (S3.out.call b_)
    replace S4 := hid (S4.out.call b_)
    replace S5 := hid (S5.out.call b_)
    replace S6 := hid (S6.out.call b_)
    replace S7 := hid (S7.out.call b_)
    replace HB := hid (Bl.call HB.out b_)
    clear b_
    go_wp2_with fail
    refine (refs_any S4.out HN.out).mono ?_; rintro e w12 ⟨v8, rfl, s8_, b_⟩
    replace S0 := hid (S0.out.call b_)
    replace S1 := hid (S1.out.call b_)
    replace S2 := hid (S2.out.call b_)
    replace S3 := hid (S3.out.call b_)
    replace S4 := hid (S4.out.call b_)
    replace S5 := hid (S5.out.call b_)
    replace S6 := hid (S6.out.call b_)
    replace S7 := hid (S7.out.call b_)
    replace HB := hid (Bl.call HB.out b_)
    have S8 := hid s8_
    clear s8_
    clear b_
    go_wp2_with fail
    refine (rsame_is _ _ _ _ _ _ _ _ _ true (by simp) S8.out S5.out).mono ?_; rintro e w13 ⟨rfl, b_⟩
    replace b_ := b_.bel
    replace S0 := hid (S0.out.call b_)
    replace S1 := hid (S1.out.call b_)
    replace S2 := hid (S2.out.call b_)
    replace S3 := hid (S3.out.call b_)
    replace S4 := hid (S4.out.call b_)
    replace S5 := hid (S5.out.call b_)
    replace S6 := hid (S6.out.call b_)
    replace S7 := hid (S7.out.call b_)
    replace S8 := hid (S8.out.call b_)
    replace HB := hid (Bl.call HB.out b_)
    clear b_
    go_wp2_with fail
    refine (awake_any _).mono ?_; rintro e w14 ⟨rfl, b_⟩
    replace S0 := hid (S0.out.call b_)
    replace S1 := hid (S1.out.call b_)
    replace S2 := hid (S2.out.call b_)
    replace S3 := hid (S3.out.call b_)
    replace S4 := hid (S4.out.call b_)
    replace S5 := hid (S5.out.call b_)
    replace S6 := hid (S6.out.call b_)
    replace S7 := hid (S7.out.call b_)
    replace S8 := hid (S8.out.call b_)
    replace HB := hid (Bl.call HB.out b_)
    clear b_
    go_wp2
    go_ret
    exact ⟨rfl, HB.out⟩
  case pos =>
    have HO := hid ho
    have HOK : Hid (Vt.Ok l ↔ true = true) := hid (by simp [ho])
    have HKD : Hid ((kd l).isSome = true) := hid (by obtain ⟨d, h1, -⟩ := kd_ok ho; rw [h1]; rfl)
    obtain ⟨ks, hks⟩ : ∃ ks, ks = ksP l := ⟨_, rfl⟩
    obtain ⟨nk, hnk⟩ : ∃ nk, nk = ks.length := ⟨_, rfl⟩
    have HK1 : Hid (ksP l = ks) := hid hks.symm
    have HK2 : Hid (ks.length = nk) := hid hnk.symm
    clear hks hnk
    have hfd := fd_ok ho k
    clear ho
    cases hf : Vt.fn l k with
    | none =>
      have HF1 : Hid ((fdP l k).getD 0 = 0) := hid (by rw [hfd, hf]; rfl)
      have HF2 : Hid ((fdP l k).isSome = false) := hid (by rw [hfd, hf]; rfl)
      have HF3 : Hid ((match Vt.fn l k with | none => -1 | some i => (i : Int)) = -1) := hid (by rw [hf])
      clear hf hfd
      go_enter Try.func3, Try.ntmps3
      go_wp2_with fail
      refine (refs_any S0.out HN.out).mono ?_; rintro e w1 ⟨v1, rfl, s1_, b_⟩
      replace S0 := hid (S0.out.call b_)
      replace HB := hid (Bl.call HB.out b_)
      have S1 := hid s1_
      clear s1_
      clear b_
      go_wp2_with fail
      refine (rright_is S1.out true ⟨fun _ => rfl, fun _ => HO.out⟩).mono ?_; rintro e w2 ⟨rfl, b_⟩
      replace b_ := b_.bel
      replace S0 := hid (S0.out.call b_)
      replace S1 := hid (S1.out.call b_)
      replace HB := hid (Bl.call HB.out b_)
      clear b_
      go_wp2_with fail
      refine (vadd_is S0.out m (i : Int) (e : Int) HADD.out (by omega) (by omega)).mono ?_; rintro e w3 ⟨v2, rfl, s2_, b_⟩
      replace S0 := hid (S0.out.call b_)
      replace S1 := hid (S1.out.call b_)
      replace HB := hid (Bl.call HB.out b_)
      have S2 := hid s2_
      clear s2_
      clear b_
      go_wp2_with fail
      refine (radd_is S1.out m (i : Int) (e : Int) HADD.out (by omega) (by omega)).mono ?_; rintro e w4 ⟨v3, rfl, s3_, b_⟩
      replace S0 := hid (S0.out.call b_)
      replace S1 := hid (S1.out.call b_)
      replace S2 := hid (S2.out.call b_)
      replace HB := hid (Bl.call HB.out b_)
      have S3 := hid s3_
      clear s3_
      clear b_
      go_wp2_with fail
      refine (vrem_is S0.out m2 (e2 : Int) HREM.out (by omega)).mono ?_; rintro e w5 ⟨v4, rfl, s4_, b_⟩
      replace S0 := hid (S0.out.call b_)
      replace S1 := hid (S1.out.call b_)
      replace S2 := hid (S2.out.call b_)
      replace S3 := hid (S3.out.call b_)
      replace HB := hid (Bl.call HB.out b_)
      have S4 := hid s4_
      clear s4_
      clear b_
      go_wp2_with fail
      refine (rrem_is S1.out m2 (e2 : Int) HREM.out (by omega)).mono ?_; rintro e w6 ⟨v5, rfl, s5_, b_⟩
      replace S0 := hid (S0.out.call b_)
      replace S1 := hid (S1.out.call b_)
      replace S2 := hid (S2.out.call b_)
      replace S3 := hid (S3.out.call b_)
      replace S4 := hid (S4.out.call b_)
      replace HB := hid (Bl.call HB.out b_)
      have S5 := hid s5_
      clear s5_
      clear b_
      go_wp2_with fail
      refine (vfind_is S0.out 0 false HF1.out HF2.out).mono ?_; rintro e w7 ⟨rfl, b_⟩
      replace S0 := hid (S0.out.call b_)
      replace S1 := hid (S1.out.call b_)
      replace S2 := hid (S2.out.call b_)
      replace S3 := hid (S3.out.call b_)
      replace S4 := hid (S4.out.call b_)
      replace S5 := hid (S5.out.call b_)
      replace HB := hid (Bl.call HB.out b_)
      clear b_
      go_wp2_with fail
      refine (vkeys_is S0.out ks nk HK1.out HK2.out).mono ?_; rintro e w8 ⟨v6, rfl, s6_, b_⟩
      replace S0 := hid (S0.out.call b_)
      replace S1 := hid (S1.out.call b_)
      replace S2 := hid (S2.out.call b_)
      replace S3 := hid (S3.out.call b_)
      replace S4 := hid (S4.out.call b_)
      replace S5 := hid (S5.out.call b_)
      replace HB := hid (Bl.call HB.out b_)
      have S6 := hid s6_
      clear s6_
      clear b_
      obtain ⟨A6, c6, rfl, -⟩ := S6.out
      go_wp2_with fail
      refine (vright_is S0.out true HKD.out).mono ?_; rintro e w9 ⟨rfl, b_⟩
      replace S0 := hid (S0.out.call b_)
      replace S1 := hid (S1.out.call b_)
      replace S2 := hid (S2.out.call b_)
      replace S3 := hid (S3.out.call b_)
      replace S4 := hid (S4.out.call b_)
      replace S5 := hid (S5.out.call b_)
      replace S6 := hid (S6.out.call b_)
      replace HB := hid (Bl.call HB.out b_)
      clear b_
      go_wp2_with fail
      refine (refs_any S2.out HN.out).mono ?_; rintro e w10 ⟨v7, rfl, s7_, b_⟩
      replace S0 := hid (S0.out.call b_)
      replace S1 := hid (S1.out.call b_)
      replace S2 := hid (S2.out.call b_)
      replace S3 := hid (S3.out.call b_)
      replace S4 := hid (S4.out.call b_)
      replace S5 := hid (S5.out.call b_)
      replace S6 := hid (S6.out.call b_)
      replace HB := hid (Bl.call HB.out b_)
      have S7 := hid s7_
      clear s7_
      clear b_
      go_wp2_with fail
      refine (rsame_is _ _ _ _ _ _ _ _ _ true (by simp) S7.out S3.out).mono ?_; rintro e w11 ⟨rfl, b_⟩
      replace b_ := b_.bel
      replace S0 := hid (S0.out.call b_)
      replace S1 := hid (S1.out.call b_)
      replace S2 := hid (S2.out.call b_)
      replace S3 := hid (S3.out.call b_)
      replace S4 := hid (S4.out.call b_)
      replace S5 := hid (S5.out.call b_)
      replace S6 := hid (S6.out.call b_)
      replace S7 := hid (S7.out.call b_)
      replace HB := hid (Bl.call HB.out b_)
      clear b_
      go_wp2_with fail
      refine (refs_any S4.out HN.out).mono ?_; rintro e w12 ⟨v8, rfl, s8_, b_⟩
      replace S0 := hid (S0.out.call b_)
      replace S1 := hid (S1.out.call b_)
      replace S2 := hid (S2.out.call b_)
      replace S3 := hid (S3.out.call b_)
      replace S4 := hid (S4.out.call b_)
      replace S5 := hid (S5.out.call b_)
      replace S6 := hid (S6.out.call b_)
      replace S7 := hid (S7.out.call b_)
      replace HB := hid (Bl.call HB.out b_)
      have S8 := hid s8_
      clear s8_
      clear b_
      go_wp2_with fail
      refine (rsame_is _ _ _ _ _ _ _ _ _ true (by simp) S8.out S5.out).mono ?_; rintro e w13 ⟨rfl, b_⟩
      replace b_ := b_.bel
      replace S0 := hid (S0.out.call b_)
      replace S1 := hid (S1.out.call b_)
      replace S2 := hid (S2.out.call b_)
      replace S3 := hid (S3.out.call b_)
      replace S4 := hid (S4.out.call b_)
      replace S5 := hid (S5.out.call b_)
      replace S6 := hid (S6.out.call b_)
      replace S7 := hid (S7.out.call b_)
      replace S8 := hid (S8.out.call b_)
      replace HB := hid (Bl.call HB.out b_)
      clear b_
      go_wp2_with fail
      refine (rfind_is S1.out (-1) HF3.out).mono ?_; rintro e _ ⟨rfl, rfl⟩
      go_wp2_with fail
      refine (rkeys_is S1.out HO.out ks nk HK1.out HK2.out).mono ?_; rintro e w14 ⟨v9, rfl, s9_, b_⟩
      replace S0 := hid (S0.out.call b_)
      replace S1 := hid (S1.out.call b_)
      replace S2 := hid (S2.out.call b_)
      replace S3 := hid (S3.out.call b_)
      replace S4 := hid (S4.out.call b_)
      replace S5 := hid (S5.out.call b_)
      replace S6 := hid (S6.out.call b_)
      replace S7 := hid (S7.out.call b_)
      replace S8 := hid (S8.out.call b_)
      replace HB := hid (Bl.call HB.out b_)
      have S9 := hid s9_
      clear s9_
      clear b_
      go_wp2_with fail
      refine (uksame_is true (by simp [uksameB]) S6.out S9.out).mono ?_; rintro e w15 ⟨rfl, b_⟩
      replace b_ := b_.bel
      replace S0 := hid (S0.out.call b_)
      replace S1 := hid (S1.out.call b_)
      replace S2 := hid (S2.out.call b_)
      replace S3 := hid (S3.out.call b_)
      replace S4 := hid (S4.out.call b_)
      replace S5 := hid (S5.out.call b_)
      replace S6 := hid (S6.out.call b_)
      replace S7 := hid (S7.out.call b_)
      replace S8 := hid (S8.out.call b_)
      replace S9 := hid (S9.out.call b_)
      replace HB := hid (Bl.call HB.out b_)
      clear b_
      go_wp2_with fail
      refine (awake_any _).mono ?_; rintro e w16 ⟨rfl, b_⟩
      replace S0 := hid (S0.out.call b_)
      replace S1 := hid (S1.out.call b_)
      replace S2 := hid (S2.out.call b_)
      replace S3 := hid (S3.out.call b_)
      replace S4 := hid (S4.out.call b_)
      replace S5 := hid (S5.out.call b_)
      replace S6 := hid (S6.out.call b_)
      replace S7 := hid (S7.out.call b_)
      replace S8 := hid (S8.out.call b_)
      replace S9 := hid (S9.out.call b_)
      replace HB := hid (Bl.call HB.out b_)
      clear b_
      go_wp2
      go_ret
      exact ⟨rfl, HB.out⟩
    | some j =>
      have HF1 : Hid ((fdP l k).getD 0 = (j : Int)) := hid (by rw [hfd, hf]; rfl)
      have HF2 : Hid ((fdP l k).isSome = true) := hid (by rw [hfd, hf]; rfl)
      have HF3 : Hid ((match Vt.fn l k with | none => -1 | some i => (i : Int)) = (j : Int)) := hid (by rw [hf])
      clear hf hfd
      have j0 : (0 : Int) ≤ (j : Int) := by omega
      go_enter Try.func3, Try.ntmps3
      go_wp2_with fail
      refine (refs_any S0.out HN.out).mono ?_; rintro e w1 ⟨v1, rfl, s1_, b_⟩
      replace S0 := hid (S0.out.call b_)
      replace HB := hid (Bl.call HB.out b_)
      have S1 := hid s1_
      clear s1_
      clear b_
      go_wp2_with fail
      refine (rright_is S1.out true ⟨fun _ => rfl, fun _ => HO.out⟩).mono ?_; rintro e w2 ⟨rfl, b_⟩
      replace b_ := b_.bel
      replace S0 := hid (S0.out.call b_)
      replace S1 := hid (S1.out.call b_)
      replace HB := hid (Bl.call HB.out b_)
      clear b_
      go_wp2_with fail
      refine (vadd_is S0.out m (i : Int) (e : Int) HADD.out (by omega) (by omega)).mono ?_; rintro e w3 ⟨v2, rfl, s2_, b_⟩
      replace S0 := hid (S0.out.call b_)
      replace S1 := hid (S1.out.call b_)
      replace HB := hid (Bl.call HB.out b_)
      have S2 := hid s2_
      clear s2_
      clear b_
      go_wp2_with fail
      refine (radd_is S1.out m (i : Int) (e : Int) HADD.out (by omega) (by omega)).mono ?_; rintro e w4 ⟨v3, rfl, s3_, b_⟩
      replace S0 := hid (S0.out.call b_)
      replace S1 := hid (S1.out.call b_)
      replace S2 := hid (S2.out.call b_)
      replace HB := hid (Bl.call HB.out b_)
      have S3 := hid s3_
      clear s3_
      clear b_
      go_wp2_with fail
      refine (vrem_is S0.out m2 (e2 : Int) HREM.out (by omega)).mono ?_; rintro e w5 ⟨v4, rfl, s4_, b_⟩
      replace S0 := hid (S0.out.call b_)
      replace S1 := hid (S1.out.call b_)
      replace S2 := hid (S2.out.call b_)
      replace S3 := hid (S3.out.call b_)
      replace HB := hid (Bl.call HB.out b_)
      have S4 := hid s4_
      clear s4_
      clear b_
      go_wp2_with fail
      refine (rrem_is S1.out m2 (e2 : Int) HREM.out (by omega)).mono ?_; rintro e w6 ⟨v5, rfl, s5_, b_⟩
      replace S0 := hid (S0.out.call b_)
      replace S1 := hid (S1.out.call b_)
      replace S2 := hid (S2.out.call b_)
      replace S3 := hid (S3.out.call b_)
      replace S4 := hid (S4.out.call b_)
      replace HB := hid (Bl.call HB.out b_)
      have S5 := hid s5_
      clear s5_
      clear b_
      go_wp2_with fail
      refine (vfind_is S0.out (j : Int) true HF1.out HF2.out).mono ?_; rintro e w7 ⟨rfl, b_⟩
      replace S0 := hid (S0.out.call b_)
      replace S1 := hid (S1.out.call b_)
      replace S2 := hid (S2.out.call b_)
      replace S3 := hid (S3.out.call b_)
      replace S4 := hid (S4.out.call b_)
      replace S5 := hid (S5.out.call b_)
      replace HB := hid (Bl.call HB.out b_)
      clear b_
      go_wp2_with fail
      refine (vkeys_is S0.out ks nk HK1.out HK2.out).mono ?_; rintro e w8 ⟨v6, rfl, s6_, b_⟩
      replace S0 := hid (S0.out.call b_)
      replace S1 := hid (S1.out.call b_)
      replace S2 := hid (S2.out.call b_)
      replace S3 := hid (S3.out.call b_)
      replace S4 := hid (S4.out.call b_)
      replace S5 := hid (S5.out.call b_)
      replace HB := hid (Bl.call HB.out b_)
      have S6 := hid s6_
      clear s6_
      clear b_
      obtain ⟨A6, c6, rfl, -⟩ := S6.out
      go_wp2_with fail
      refine (vright_is S0.out true HKD.out).mono ?_; rintro e w9 ⟨rfl, b_⟩
      replace S0 := hid (S0.out.call b_)
      replace S1 := hid (S1.out.call b_)
      replace S2 := hid (S2.out.call b_)
      replace S3 := hid (S3.out.call b_)
      replace S4 := hid (S4.out.call b_)
      replace S5 := hid (S5.out.call b_)
      replace S6 := hid (S6.out.call b_)
      replace HB := hid (Bl.call HB.out b_)
      clear b_
      go_wp2_with fail
      refine (refs_any S2.out HN.out).mono ?_; rintro e w10 ⟨v7, rfl, s7_, b_⟩
      replace S0 := hid (S0.out.call b_)
      replace S1 := hid (S1.out.call b_)
      replace S2 := hid (S2.out.call b_)
      replace S3 := hid (S3.out.call b_)
      replace S4 := hid (S4.out.call b_)
      replace S5 := hid (S5.out.call b_)
      replace S6 := hid (S6.out.call b_)
      replace HB := hid (Bl.call HB.out b_)
      have S7 := hid s7_
      clear s7_
      clear b_
      go_wp2_with fail
      refine (rsame_is _ _ _ _ _ _ _ _ _ true (by simp) S7.out S3.out).mono ?_; rintro e w11 ⟨rfl, b_⟩
      replace b_ := b_.bel
      replace S0 := hid (S0.out.call b_)
      replace S1 := hid (S1.out.call b_)
      replace S2 := hid (S2.out.call b_)
      replace S3 := hid (S3.out.call b_)
      replace S4 := hid (S4.out.call b_)
      replace S5 := hid (S5.out.call b_)
      replace S6 := hid (S6.out.call b_)
      replace S7 := hid (S7.out.call b_)
      replace HB := hid (Bl.call HB.out b_)
      clear b_
      go_wp2_with fail
      refine (refs_any S4.out HN.out).mono ?_; rintro e w12 ⟨v8, rfl, s8_, b_⟩
      replace S0 := hid (S0.out.call b_)
      replace S1 := hid (S1.out.call b_)
      replace S2 := hid (S2.out.call b_)
      replace S3 := hid (S3.out.call b_)
      replace S4 := hid (S4.out.call b_)
      replace S5 := hid (S5.out.call b_)
      replace S6 := hid (S6.out.call b_)
      replace S7 := hid (S7.out.call b_)
      replace HB := hid (Bl.call HB.out b_)
      have S8 := hid s8_
      clear s8_
      clear b_
      go_wp2_with fail
      refine (rsame_is _ _ _ _ _ _ _ _ _ true (by simp) S8.out S5.out).mono ?_; rintro e w13 ⟨rfl, b_⟩
      replace b_ := b_.bel
      replace S0 := hid (S0.out.call b_)
      replace S1 := hid (S1.out.call b_)
      replace S2 := hid (S2.out.call b_)
      replace S3 := hid (S3.out.call b_)
      replace S4 := hid (S4.out.call b_)
      replace S5 := hid (S5.out.call b_)
      replace S6 := hid (S6.out.call b_)
      replace S7 := hid (S7.out.call b_)
      replace S8 := hid (S8.out.call b_)
      replace HB := hid (Bl.call HB.out b_)
      clear b_
      go_wp2_with fail
      refine (rfind_is S1.out (j : Int) HF3.out).mono ?_; rintro e _ ⟨rfl, rfl⟩
      go_wp2_with fail
      refine (rkeys_is S1.out HO.out ks nk HK1.out HK2.out).mono ?_; rintro e w14 ⟨v9, rfl, s9_, b_⟩
      replace S0 := hid (S0.out.call b_)
      replace S1 := hid (S1.out.call b_)
      replace S2 := hid (S2.out.call b_)
      replace S3 := hid (S3.out.call b_)
      replace S4 := hid (S4.out.call b_)
      replace S5 := hid (S5.out.call b_)
      replace S6 := hid (S6.out.call b_)
      replace S7 := hid (S7.out.call b_)
      replace S8 := hid (S8.out.call b_)
      replace HB := hid (Bl.call HB.out b_)
      have S9 := hid s9_
      clear s9_
      clear b_
      go_wp2_with fail
      refine (uksame_is true (by simp [uksameB]) S6.out S9.out).mono ?_; rintro e w15 ⟨rfl, b_⟩
      replace b_ := b_.bel
      replace S0 := hid (S0.out.call b_)
      replace S1 := hid (S1.out.call b_)
      replace S2 := hid (S2.out.call b_)
      replace S3 := hid (S3.out.call b_)
      replace S4 := hid (S4.out.call b_)
      replace S5 := hid (S5.out.call b_)
      replace S6 := hid (S6.out.call b_)
      replace S7 := hid (S7.out.call b_)
      replace S8 := hid (S8.out.call b_)
      replace S9 := hid (S9.out.call b_)
      replace HB := hid (Bl.call HB.out b_)
      clear b_
      go_wp2_with fail
      refine (awake_any _).mono ?_; rintro e w16 ⟨rfl, b_⟩
      replace S0 := hid (S0.out.call b_)
      replace S1 := hid (S1.out.call b_)
      replace S2 := hid (S2.out.call b_)
      replace S3 := hid (S3.out.call b_)
      replace S4 := hid (S4.out.call b_)
      replace S5 := hid (S5.out.call b_)
      replace S6 := hid (S6.out.call b_)
      replace S7 := hid (S7.out.call b_)
      replace S8 := hid (S8.out.call b_)
      replace S9 := hid (S9.out.call b_)
      replace HB := hid (Bl.call HB.out b_)
      clear b_
      go_wp2
      go_ret
      exact ⟨rfl, HB.out⟩
end Go.Proofs.Ytcbedngimgkcoaa
