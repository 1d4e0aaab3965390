/- The walk of SketchOne. -/
import Derived.Test.YtomgbhnalhddiaaSkJ
namespace Go.Proofs.Ytomgbhnalhddiaa
open Go.RowKit
set_option linter.unusedVariables false
set_option linter.unusedSimpArgs false
attribute [local go_sem ↓] Go.wp_at_zero Go.wp_at_succ

theorem nil_us1 (w : World) : Sl w w.heap.size 1 (.slice none 0 0) 0 (us []) := Sl.none_ _ _ _
theorem lit1 (w : World) (n : Nat) : Sl (w.alloc (.cells #[.int .u64 (n : Int)] 31)) (w.alloc (.cells #[.int .u64 (n : Int)] 31)).heap.size 1 (.slice (some ⟨w.heap.size, 0, none⟩) 1 1) 1 (us [n]) := lit_us w [n] (by simp)
theorem nms_one {n : Nat} (b : Bool) (h : Sk.isE n = b) : Sk.nms [n] = if b then [n] else [] := by subst h; unfold Sk.nms; simp [List.filter]; cases Sk.isE n <;> rfl

set_option maxRecDepth 100000 in
set_option maxHeartbeats 8000000 in
theorem sketchOne_walk (v1 : Value) (R : Nat) (l : List (Nat × Nat)) (V : Int) (n : Nat) (w : World) (hl : Sl w w.heap.size 2 v1 R (hcs l)) (sh : ∀ h ∈ l, HSmall h) (hn : n < 18446744073709551616) :
    Calls Try.prog 4 #[v1, .int .i64 V, .int .u64 (n : Int)] w (IsTrue w) := by
  have hll : l.length = R := by have := hl.len; rw [len_hcs] at this; omega
  have HLN := hid hll
  have HSM := hid sh
  have HLw := hid hl
  have HNN := hid hn
  obtain ⟨A1, c1, rfl, _, hcm1, _, _⟩ := hl
  have hRi : (R : Int) ≤ 9223372036854775807 := by unfold maxLen at hcm1; omega
  clear hll sh hcm1 hn
  by_cases hz : SzOk (R : Int) V
  case neg =>
    have HZ := hid hz
    clear hz
    go_enter Try.func4, Try.ntmps4
    go_wp2_with fail
    refine (snew_no HZ.out _).mono ?_; rintro e w1 ⟨rfl, b1⟩
    have HB1 := hid b1
    clear b1
    go_wp2_with fail
    refine (skAwake_any _).mono ?_; rintro e w' ⟨rfl, hb⟩
    go_wp2
    go_ret
    exact ⟨by first | rfl | exact ret_bool (by simp; omega) | exact ret_bool (by simp), Bl.call (Bl.new HB1.out _) hb⟩
  obtain ⟨V, rfl⟩ := Int.eq_ofNat_of_zero_le (show 0 ≤ V by obtain ⟨_, _, h, _⟩ := hz; omega)
  have HZ := hid hz
  obtain ⟨hRV, hN1, hN2, hsok⟩ := szN hz
  obtain ⟨N, hN⟩ : ∃ N, N = R * V := ⟨_, rfl⟩
  rw [← hN] at hRV hN1 hN2 hsok
  have HSOK := hid hsok
  have HNE := hid hN
  have HRV := hid hRV
  obtain ⟨z1, z2, z3, z4⟩ := hz
  clear hsok hN hRV
  have HB : Hid (Below w.heap.size w w) := hid (Below.refl _ _)
  cases hE : Sk.isE n
  case false =>
    have HE := hid hE
    clear hE
    go_enter Try.func4, Try.ntmps4
    go_wp2_with fail
    refine (snew_ok HZ.out HRV.out.symm hN1 _).mono ?_; rintro e w1 ⟨vn, rfl, sn, bn⟩
    replace HLw := hid (HLw.out.call bn)
    replace HB := hid (Bl.call HB.out bn)
    have S_n := hid sn
    clear sn bn
    obtain ⟨An, cn, hvn, _, _, _, _⟩ := S_n.out
    subst hvn
    obtain ⟨w2, hw⟩ : ∃ z, z = w1.alloc (.cells #[.int .i64 (R : Int), .int .i64 (V : Int), .slice An N cn] 26) := ⟨_, rfl⟩
    obtain ⟨Ks, hK⟩ : ∃ z, z = w1.heap.size := ⟨_, rfl⟩
    have b : Below w1.heap.size w1 w2 := by rw [hw]; exact bel_new _ _
    have V_s' : Hid (Blk w2 Ks 26 [.int .i64 (R : Int), .int .i64 (V : Int), .slice An N cn]) := hid (by rw [hw, hK]; exact Blk.new _ _ _)
    have S_s' := hid (S_n.out.call b)
    have LO_s : Hid (w.heap.size ≤ Ks) := hid (by rw [hK]; exact HB.out.size)
    replace HLw := hid (HLw.out.call b)
    replace HB := hid (Bl.call HB.out b)
    have V_s := V_s'
    have HW2 := hid hw
    have HK2 := hid hK
    clear b hw hK V_s' S_n
    have S_s := S_s'
    clear S_s'
    go_upto_region 2 with (fail)
    rw [← HW2.out, ← HK2.out]
    go_wp2_with fail
    refine (rnames_ok (by decide) (lit1 _ n) (by intro x hx; simp at hx; subst hx; exact HNN.out)).mono ?_; rintro e w3 ⟨v8, rfl, s8, b8'⟩
    have b8 := Bl.call (bel_new w2 (.cells #[.int .u64 (n : Int)] 31)) b8'
    replace V_s := hid (V_s.out.on b8)
    replace S_s := hid (S_s.out.call b8)
    replace HLw := hid (HLw.out.call b8)
    replace HB := hid (Bl.call HB.out b8)
    rw [nms_one _ HE.out] at s8
    have S_8 := hid s8
    clear s8 b8 b8'
    go_wp2_with fail
    refine (usame_is true (by unfold usameB; simp) S_8.out (nil_us1 _)).mono ?_; rintro e w4 ⟨rfl, q9⟩
    have b9 := q9.bel
    replace V_s := hid (V_s.out.on b9)
    replace S_s := hid (S_s.out.call b9)
    replace HLw := hid (HLw.out.call b9)
    replace HB := hid (Bl.call HB.out b9)
    clear b9 q9 S_8
    go_wp2_with fail
    refine (skAwake_any _).mono ?_; rintro e w' ⟨rfl, hb⟩
    go_wp2
    go_ret
    exact ⟨rfl, Bl.call HB.out hb⟩
  case true =>
    have HE := hid hE
    clear hE
    go_enter Try.func4, Try.ntmps4
    go_wp2_with fail
    refine (snew_ok HZ.out HRV.out.symm hN1 _).mono ?_; rintro e w1 ⟨vn, rfl, sn, bn⟩
    replace HLw := hid (HLw.out.call bn)
    replace HB := hid (Bl.call HB.out bn)
    have S_n := hid sn
    clear sn bn
    obtain ⟨An, cn, hvn, _, _, _, _⟩ := S_n.out
    subst hvn
    obtain ⟨w2, hw⟩ : ∃ z, z = w1.alloc (.cells #[.int .i64 (R : Int), .int .i64 (V : Int), .slice An N cn] 26) := ⟨_, rfl⟩
    obtain ⟨Ks, hK⟩ : ∃ z, z = w1.heap.size := ⟨_, rfl⟩
    have b : Below w1.heap.size w1 w2 := by rw [hw]; exact bel_new _ _
    have V_s' : Hid (Blk w2 Ks 26 [.int .i64 (R : Int), .int .i64 (V : Int), .slice An N cn]) := hid (by rw [hw, hK]; exact Blk.new _ _ _)
    have S_s' := hid (S_n.out.call b)
    have LO_s : Hid (w.heap.size ≤ Ks) := hid (by rw [hK]; exact HB.out.size)
    replace HLw := hid (HLw.out.call b)
    replace HB := hid (Bl.call HB.out b)
    have V_s := V_s'
    have HW2 := hid hw
    have HK2 := hid hK
    clear b hw hK V_s' S_n
    have S_s := S_s'
    clear S_s'
    go_upto_region 2 with (fail)
    rw [← HW2.out, ← HK2.out]
    go_wp2_with fail
    refine (rnames_ok (by decide) (lit1 _ n) (by intro x hx; simp at hx; subst hx; exact HNN.out)).mono ?_; rintro e w3 ⟨v8, rfl, s8, b8'⟩
    have b8 := Bl.call (bel_new w2 (.cells #[.int .u64 (n : Int)] 31)) b8'
    replace V_s := hid (V_s.out.on b8)
    replace S_s := hid (S_s.out.call b8)
    replace HLw := hid (HLw.out.call b8)
    replace HB := hid (Bl.call HB.out b8)
    rw [nms_one _ HE.out] at s8
    have S_8 := hid s8
    clear s8 b8 b8'
    go_wp2_with fail
    refine (usame_is false (by unfold usameB; simp) S_8.out (nil_us1 _)).mono ?_; rintro e w4 ⟨rfl, q9⟩
    have b9 := q9.bel
    replace V_s := hid (V_s.out.on b9)
    replace S_s := hid (S_s.out.call b9)
    replace HLw := hid (HLw.out.call b9)
    replace HB := hid (Bl.call HB.out b9)
    clear b9 q9 S_8
    have ks0 := V_s.out.cell 0
    have ks1 := V_s.out.cell 1
    have ks2 := V_s.out.cell 2
    go_wp2_with fail
    refine (toggle_ok (N := N) HSOK.out S_s.out HLw.out HNN.out (Sk.small_rep N) HSM.out).mono ?_; rintro e w5 ⟨vt, rfl, st, bt⟩
    clear ks0 ks1 ks2
    replace V_s := hid (V_s.out.on bt)
    replace S_s := hid (S_s.out.call bt)
    replace HLw := hid (HLw.out.call bt)
    replace HB := hid (Bl.call HB.out bt)
    have S_t := hid st
    clear st bt
    obtain ⟨At, ct, hvt, _, _, _, _⟩ := S_t.out
    subst hvt
    have ks0 := V_s.out.cell 0
    have ks1 := V_s.out.cell 1
    have ks2 := V_s.out.cell 2
    have fs0 := V_s.out.frozen 0
    have fs1 := V_s.out.frozen 1
    have fs2 := V_s.out.frozen 2
    go_upto_region 5 with (fail)
    obtain ⟨w6, hw⟩ : ∃ z, z = ((w5.setCell ⟨Ks, 0, none⟩ (.int .i64 (R : Int))).setCell ⟨Ks, 1, none⟩ (.int .i64 (V : Int))).setCell ⟨Ks, 2, none⟩ (.slice At N ct) := ⟨_, rfl⟩
    have S_s' := hid (S_t.out.skset V_s.out (.int .i64 (R : Int)) (.int .i64 (V : Int)) (.slice At N ct))
    rw [← hw] at S_s'
    replace HLw := hid (HLw.out.hkset V_s.out (.int .i64 (R : Int)) (.int .i64 (V : Int)) (.slice At N ct))
    rw [← hw] at HLw
    replace HB : Hid (Below w.heap.size w w6) := hid (by rw [hw]; exact ((HB.out.setCell (p := ⟨Ks, 0, none⟩) LO_s.out _).setCell (p := ⟨Ks, 1, none⟩) LO_s.out _).setCell (p := ⟨Ks, 2, none⟩) LO_s.out _)
    replace V_s : Hid (Blk w6 Ks 26 [.int .i64 (R : Int), .int .i64 (V : Int), .slice At N ct]) := hid (by rw [hw]; exact ((V_s.out.put 0 (.int .i64 (R : Int))).put 1 (.int .i64 (V : Int))).put 2 (.slice At N ct))
    have HW6 := hid hw
    clear hw
    clear S_t
    replace S_s := S_s'
    clear S_s'
    rw [← HW6.out]
    clear ks0 ks1 ks2 fs0 fs1 fs2
    have HLS : Hid (R ≤ (Sk.nms (Sk.tog l V n (List.replicate N 0))).length ∧ (Sk.nms (Sk.tog l V n (List.replicate N 0))).length ≤ N) := hid ⟨by have := Sk.one_least (l := l) (v := V) (by omega) HE.out; rw [HLN.out, ← HNE.out] at this; exact this, Sk.one_most⟩
    have HRP : Hid (Sk.nms (Sk.tog l V n (List.replicate N 0)) = List.replicate (Sk.nms (Sk.tog l V n (List.replicate N 0))).length n) := hid Sk.nms_rep
    have ks0 := V_s.out.cell 0
    have ks1 := V_s.out.cell 1
    have ks2 := V_s.out.cell 2
    go_wp2_with fail
    refine (snames_ok HSOK.out S_s.out (Sk.small_tog HNN.out (Sk.small_rep N))).mono ?_; rintro e w7 ⟨v7, rfl, s7, b7⟩
    clear ks0 ks1 ks2
    replace V_s := hid (V_s.out.on b7)
    replace S_s := hid (S_s.out.call b7)
    replace HLw := hid (HLw.out.call b7)
    replace HB := hid (Bl.call HB.out b7)
    rw [HRP.out, List.length_replicate] at s7
    obtain ⟨k, hk⟩ : ∃ k, k = (Sk.nms (Sk.tog l V n (List.replicate N 0))).length := ⟨_, rfl⟩
    rw [← hk] at s7 HLS
    obtain ⟨hk1, hk2⟩ := HLS.out
    have S_7 := hid s7
    obtain ⟨A7, c7, rfl, _, _, _, hx⟩ := s7
    have HX := hid hx
    clear hx hk b7 HLS HRP S_s V_s
    go_wp2_with fail
    go_loopw [39] (fun i wr => ∃ j : Nat, i = .int .i64 (j : Int) ∧ j ≤ k ∧ Hid (Below w7.heap.size w7 wr)) (fun i _ => k - (intOf i).toNat)
    case atStart => exact ⟨0, rfl, Nat.zero_le _, hid (Below.refl _ _)⟩
    case round =>
      obtain ⟨j, rfl, hj, HBR⟩ := hrel
      by_cases hlt : j < k
      · have hji : (j : Int) < (k : Int) := by omega
        obtain ⟨b, o, rfl, hbb, hc⟩ := HX.out (by omega)
        have q0 := us_cell hc (k := j) (by rw [List.length_replicate]; exact hlt)
        have hg : (List.replicate k n).getD j 0 = n := by simp [List.getD, hlt]
        rw [hg] at q0
        have c0 := (HBR.out.cell (p := ⟨b, o + j, none⟩) hbb).trans q0
        have hnn : ((n : Int) != (n : Int)) = false := by simp
        clear q0 hc
        go_wp2
        go_roundw
        case rel => exact ⟨j + 1, by go_num, by omega, HBR⟩
        case measure => simp [intOf]; omega
      · obtain rfl : j = k := by omega
        have hji : ¬ (j : Int) < (j : Int) := by omega
        have g1 : (R : Int) ≤ (j : Int) := by omega
        have g2 : (j : Int) ≤ (N : Int) := by omega
        have g3 := HRV.out
        have g4 : (N : Int) ≤ 488 := by omega
        go_wp2_with fail
        refine (skAwake_any _).mono ?_; rintro e w' ⟨rfl, hb⟩
        go_wp2
        go_ret
        exact ⟨rfl, Bl.call (HB.out.trans (HBR.out.mono HB.out.size)) hb⟩
theorem sketchOne_int (v1 : Value) (R : Nat) (l : List (Nat × Nat)) (V : Int) (x : Int) (w : World) (hl : Sl w w.heap.size 2 v1 R (hcs l)) (sh : ∀ h ∈ l, HSmall h) (hx : 0 ≤ x ∧ x ≤ 18446744073709551615) :
    Calls Try.prog 4 #[v1, .int .i64 V, .int .u64 x] w (IsTrue w) := by
  obtain ⟨n, rfl⟩ := Int.eq_ofNat_of_zero_le hx.1
  exact sketchOne_walk v1 R l V n w hl sh (by omega)
end Go.Proofs.Ytomgbhnalhddiaa
