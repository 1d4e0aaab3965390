/- The walk of VertsKeys. -/
import Derived.Test.YtcbedngimgkcoaaVerO
import Derived.Test.YtcbedngimgkcoaaVertsLaws3
namespace Go.Proofs.Ytcbedngimgkcoaa
open Go.RowKit
set_option linter.unusedVariables false
set_option linter.unusedSimpArgs false
attribute [local go_sem ↓] Go.wp_at_zero Go.wp_at_succ
set_option maxRecDepth 100000 in
set_option maxHeartbeats 4000000 in
theorem vertsKeys_walk (v : Value) (n : Nat) (l : List (Bool × Int)) (k : Int) (w : World) (hs : Sl w w.heap.size 2 v n (sls l)) :
    Calls Try.prog 7 #[v, .int .u64 k] w (IsTrue w) := by
  have HB := hid (Below.refl w.heap.size w)
  have S0 := hid hs
  have hll : l.length = n := by have := hs.len; rw [len_sls] at this; omega
  obtain ⟨A, c, rfl, hnc, hcm, -, hx⟩ := hs
  have HX := hid hx
  clear hx hcm hnc
  by_cases g : n ≤ 60
  case neg =>
    have g1 : (60 : Int) < (n : Int) := by omega
    go_enter Try.func7, Try.ntmps7
    go_wp2_with fail
    refine (awake_any _).mono ?_; rintro e w1 ⟨rfl, b_⟩
    replace HB := hid (Bl.call HB.out b_)
    clear b_
    go_wp2
    go_ret
    exact ⟨rfl, HB.out⟩
  have g1 : ¬ (60 : Int) < (n : Int) := by omega
  have HN : Hid (n ≤ 100000) := hid (by omega)
  have HLN := hid hll
  clear hll
  by_cases ho : Vt.Ok l
  case neg =>
    have HK := hid (kd_no ho)
    clear ho
    go_enter Try.func7, Try.ntmps7
    go_wp2_with fail
    refine (vright_is S0.out false HK.out).mono ?_; rintro e w1 ⟨rfl, b_⟩
    replace S0 := hid (S0.out.call b_)
    replace HB := hid (Bl.call HB.out b_)
    clear b_
    go_wp2_with fail
    refine (awake_any _).mono ?_; rintro e w2 ⟨rfl, b_⟩
    replace S0 := hid (S0.out.call b_)
    replace HB := hid (Bl.call HB.out b_)
    clear b_
    go_wp2
    go_ret
    exact ⟨rfl, HB.out⟩
  case pos =>
    have HO := hid ho
    have HK := hid (kd_yes ho)
    obtain ⟨d, hd1, hd2⟩ := kd_ok ho
    obtain ⟨m, hm⟩ : ∃ m, m = d.length := ⟨_, rfl⟩
    have hmn : m ≤ 60 := by have := hd2.2.1; have := HLN.out; omega
    have HK1 : Hid (ksP l = Vt.ks d) := hid (by unfold ksP; rw [hd1]; rfl)
    have HK2 : Hid ((Vt.ks d).length = m) := hid (by rw [Vt.ks_len, hm])
    have HD := hid hd2
    have HM := hid hm
    have HFF : Hid (∀ k, ((fdP l k).isSome = (Vt.ks d).contains k)) := hid (fun k => by
      have := fd_ok ho k
      rw [this, ← Vt.ks_mem ho hd2 k]
      cases Vt.fn l k <;> rfl)
    clear ho hd1 hd2 hm
    go_enter Try.func7, Try.ntmps7
    go_wp2_with fail
    refine (vright_is S0.out true HK.out).mono ?_; rintro e w1 ⟨rfl, b_⟩
    replace S0 := hid (S0.out.call b_)
    replace HB := hid (Bl.call HB.out b_)
    clear b_
    go_wp2_with fail
    refine (vkeys_is S0.out (Vt.ks d) m HK1.out HK2.out).mono ?_; rintro e w2 ⟨v1, rfl, s1_, b_⟩
    replace S0 := hid (S0.out.call b_)
    replace HB := hid (Bl.call HB.out b_)
    have S1 := hid s1_
    clear s1_
    clear b_
    have S1h := S1
    obtain ⟨A1, c1, rfl, -, -, -, hx1⟩ := S1.out
    have HX1 := hid hx1
    clear hx1
    go_wp2_with fail
    have HB2 := HB
    have S02 := S0
    obtain ⟨wa, hwa⟩ : ∃ x, x = w2 := ⟨_, rfl⟩
    go_loopw [5, 26] (fun uv iv wr => ∃ (i : Nat) (u : Bool), iv = .int .i64 (i : Int) ∧ uv = .bool u ∧ i ≤ m ∧ Hid (u = ((Vt.ks d).take i).contains k) ∧ Hid (Below w2.heap.size w2 wr)) (fun _ iv _ => m - (intOf iv).toNat)
    case atStart => exact ⟨0, false, rfl, rfl, Nat.zero_le _, hid rfl, hid (Below.refl _ _)⟩
    case round =>
      obtain ⟨i, u, rfl, rfl, hi, HU, HBr⟩ := hrel
      by_cases hlt : i < m
      · have i0 : (i : Int) < (m : Int) := by omega
        have hik : i < (Vt.ks d).length := by rw [HK2.out]; exact hlt
        obtain ⟨b1, o1, rfl, hb1, hc1⟩ := HX1.out (by omega)
        have q1 := (HBr.out.cell (p := ⟨b1, o1 + i, none⟩) hb1).trans (uks_cell hc1 hik)
        obtain ⟨j, hj1, hj2, hj3⟩ := Vt.ks_find HO.out HD.out (p := i) (by rw [← HM.out]; exact hlt)
        have HCT := hid (Vt.contains_take (Vt.ks d) k hik)
        have hrise : ∀ i', i = i' + 1 → (Vt.ks d).getD i' 0 < (Vt.ks d).getD i 0 := fun i' e => Vt.ks_rise HD.out.1 (by omega) (by rw [← HM.out]; exact hlt)
        have hprev : ∀ i', i = i' + 1 → wr.cell? ⟨b1, o1 + i', none⟩ = some (.int .u64 ((Vt.ks d).getD i' 0)) := fun i' e => (HBr.out.cell (p := ⟨b1, o1 + i', none⟩) hb1).trans (uks_cell hc1 (by omega))
        obtain ⟨x, hxk⟩ : ∃ x, x = (Vt.ks d).getD i 0 := ⟨_, rfl⟩
        rw [← hxk] at q1 hj1 hj3 HCT hrise
        have hjn : j < n := by rw [← HLN.out]; exact hj2
        obtain ⟨b0, o0, rfl, hb0, hc0⟩ := HX.out (by omega)
        obtain ⟨p0, p1⟩ := sls_cell hc0 hj2
        rw [hj3] at p0 p1
        have P0 := hid p0
        have P1 := hid p1
        have HB0 := hid hb0
        have HB1 := hid hb1
        have HPREV := hid hprev
        have HRISE := hid hrise
        have HF1 : Hid ((fdP l x).getD 0 = (j : Int)) := hid (by rw [fd_ok HO.out, hj1]; rfl)
        have HF2 : Hid ((fdP l x).isSome = true) := hid (by rw [fd_ok HO.out, hj1]; rfl)
        clear hik hc1 hj1 hj2 hj3 hc0 p0 p1 hb0 hb1 hprev hrise hxk
        go_wp2_with fail
        refine (vfind_is (k := x) (S0.out.call HBr.out) (j : Int) true HF1.out HF2.out).mono ?_; rintro e w9 ⟨rfl, b9⟩
        have HB9 := hid (Bl.call HBr.out b9)
        have r0 := (HB9.out.cell (p := ⟨b0, o0 + j * 2, none⟩) (Nat.lt_of_lt_of_le HB0.out HB.out.size)).trans ((HB.out.cell (p := ⟨b0, o0 + j * 2, none⟩) HB0.out).trans P0.out)
        have r1 := (HB9.out.cell (p := ⟨b0, o0 + j * 2 + 1, none⟩) (Nat.lt_of_lt_of_le HB0.out HB.out.size)).trans ((HB.out.cell (p := ⟨b0, o0 + j * 2 + 1, none⟩) HB0.out).trans P1.out)
        have j0 : ¬ (j : Int) < 0 := by omega
        have j1 : (j : Int) < (n : Int) := by omega
        have x1 : (x != x) = false := by simp
        have e9 : ∀ i', i = i' + 1 → w9.cell? ⟨b1, o1 + i', none⟩ = some (.int .u64 ((Vt.ks d).getD i' 0)) := fun i' e => (b9.cell (p := ⟨b1, o1 + i', none⟩) (Nat.lt_of_lt_of_le HB1.out HBr.out.size)).trans (HPREV.out i' e)
        have HE9 := hid e9
        clear b9 q1 e9
        cases i with
        | zero =>
          obtain rfl : u = false := by rw [HU.out]; rfl
          by_cases hxe : x = k
          · have x2 : (x == k) = true := by simp [hxe]
            go_wp2_with fail
            go_roundw
            case rel => exact ⟨0 + 1, true, by go_num, rfl, by omega, hid (by rw [HCT.out, ← HU.out, x2]; rfl), HB9⟩
            case measure => simp [intOf]; omega
          · have x2 : (x == k) = false := by simp [hxe]
            go_wp2_with fail
            go_roundw
            case rel => exact ⟨0 + 1, false, by go_num, rfl, by omega, hid (by rw [HCT.out, ← HU.out, x2]; rfl), HB9⟩
            case measure => simp [intOf]; omega
        | succ i =>
          have e1 := HE9.out i rfl
          have e2 := HRISE.out i rfl
          generalize (Vt.ks d).getD i 0 = y at *
          have e3 : ¬ x ≤ y := by omega
          have i0' : (i : Int) + 1 < (m : Int) := by omega
          cases u with
          | true =>
            go_wp2_with fail
            go_roundw
            case rel => exact ⟨i + 1 + 1, true, by go_num, rfl, by omega, hid (by first | (rw [HCT.out, ← HU.out]; done) | (rw [HCT.out, ← HU.out]; rfl)), HB9⟩
            case measure => simp [intOf]; omega
          | false =>
            by_cases hxe : x = k
            · have x2 : (x == k) = true := by simp [hxe]
              go_wp2_with fail
              go_roundw
              case rel => exact ⟨i + 1 + 1, true, by go_num, rfl, by omega, hid (by rw [HCT.out, ← HU.out, x2]; rfl), HB9⟩
              case measure => simp [intOf]; omega
            · have x2 : (x == k) = false := by simp [hxe]
              go_wp2_with fail
              go_roundw
              case rel => exact ⟨i + 1 + 1, false, by go_num, rfl, by omega, hid (by rw [HCT.out, ← HU.out, x2]; rfl), HB9⟩
              case measure => simp [intOf]; omega
      · obtain rfl : i = m := by omega
        have i0 : ¬ (i : Int) < (i : Int) := by omega
        have HFB : Hid ((fdP l k).isSome = u) := hid (by rw [HFF.out, HU.out, List.take_of_length_le (by rw [HK2.out]; exact Nat.le_refl _)])
        obtain ⟨z, hz⟩ : ∃ z, z = (fdP l k).getD 0 := ⟨_, rfl⟩
        have HZ := hid hz.symm
        clear hz
        have x1 : (u == u) = true := by simp
        go_wp2_with fail
        refine (vfind_is (k := k) (S0.out.call HBr.out) z u HZ.out HFB.out).mono ?_; rintro e w9 ⟨rfl, b9⟩
        have HB9 := hid (Bl.call HBr.out b9)
        clear b9
        go_wp2_with fail
        refine (awake_any _).mono ?_; rintro e w10 ⟨rfl, b10⟩
        have HB10 := hid (Bl.call HB9.out b10)
        clear b10
        go_wp2
        go_ret
        exact ⟨rfl, Bl.call HB.out HB10.out⟩
end Go.Proofs.Ytcbedngimgkcoaa
