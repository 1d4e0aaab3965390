/- The walk of SnapTurned. -/
import Derived.Test.YtbafbnkmmpaomaaSnW
import Derived.Test.YtbafbnkmmpaomaaSnV
namespace Go.Proofs.Ytbafbnkmmpaomaa
open Go.RowKit
set_option linter.unusedVariables false
set_option linter.unusedSimpArgs false
attribute [local go_sem ↓] Go.wp_at_zero Go.wp_at_succ
theorem good_turned {s : Sn.St} {i : Nat} {x : UInt8} (hi : i < (Sn.save s).length) (hx : x ≠ (Sn.save s)[i]) : ¬ Good ((Sn.save s).set i x) := fun g => by
  have h := g.2.2
  exact hx (Sn.turned (a := Sn.body s) (c := Sn.body (Sn.told ((Sn.save s).set i x))) hi h.symm)
theorem conv_sb' (l : Sn.By) (w : World) (s : ByteArray) (hs : s = str l) (m : Nat) (hm : l.length = m) : ∃ cap W, (convert 9 50 (.string s)).run Try.prog w = .ok (.slice (some ⟨w.heap.size, 0, none⟩) m cap) W ∧ W.heap.size = w.heap.size + 1 ∧ Below w.heap.size w W ∧
    (∀ j, (h : j < l.length) → W.cell? ⟨w.heap.size, j, none⟩ = some (.int .u8 (l[j].toNat : Int))) ∧ (∀ j, j < l.length → W.frozen? ⟨w.heap.size, j, none⟩ = false) := by
  subst hs hm
  exact conv_sb l w
set_option maxRecDepth 100000 in
set_option maxHeartbeats 16000000 in
theorem snapTurned_walk (S : Sn.St) (vh ve vs : Value) (nh ne ns : Nat) (n_ y_ : Int) (w : World) (p1 : Sl w w.heap.size 2 vh nh (hcz S.hs)) (p2 : Sl w w.heap.size 3 ve ne (eds S.es)) (p3 : Sl w w.heap.size 2 vs ns (sls S.ss)) (p4 : Wide S) (hn_ : 0 ≤ n_ ∧ n_ ≤ 65535) (hy_ : 0 ≤ y_ ∧ y_ ≤ 255) : Calls Try.prog 9 #[stV S.N S.L S.R vh ve vs, .int .u16 n_, .int .u8 y_] w (IsTrue w) := by
  have T1 := hid p1
  have m1 := p1.max
  have T2 := hid p2
  have m2 := p2.max
  have T3 := hid p3
  have m3 := p3.max
  have W := hid p4
  obtain ⟨A1, c1, rfl, -⟩ := p1
  obtain ⟨A2, c2, rfl, -⟩ := p2
  obtain ⟨A3, c3, rfl, -⟩ := p3
  clear p4
  obtain ⟨n_, rfl⟩ := Int.eq_ofNat_of_zero_le hn_.1
  obtain ⟨y, rfl⟩ := Int.eq_ofNat_of_zero_le hy_.1
  have HB := hid (Below.refl w.heap.size w)
  unfold stV
  obtain ⟨w1, hw1⟩ : ∃ W, W = w.alloc (.cells #[.int .i64 S.N, .int .i64 S.L, .int .i64 S.R, .slice A1 nh c1, .slice A2 ne c2, .slice A3 ns c3] 30) := ⟨_, rfl⟩
  obtain ⟨K, hK⟩ : ∃ K, K = w.heap.size := ⟨_, rfl⟩
  have b_ : Below w.heap.size w w1 := by rw [hw1]; exact bel_new _ _
  replace T1 := hid (T1.out.call b_)
  replace T2 := hid (T2.out.call b_)
  replace T3 := hid (T3.out.call b_)
  replace HB := hid (Bl.call HB.out b_)
  have D : Hid (Blk w1 K 30 [.int .i64 S.N, .int .i64 S.L, .int .i64 S.R, .slice A1 nh c1, .slice A2 ne c2, .slice A3 ns c3]) := hid (by rw [hw1, hK]; exact Blk.new _ _ _)
  have Qw1 := hid hw1
  have QK := hid hK
  clear b_ hw1 hK
  go_enter Try.func9, Try.ntmps9
  go_wp2_with fail
  rw [← QK.out, ← Qw1.out]
  by_cases hsm : SmS S.N S.L S.R nh ne ns
  case neg =>
    have HF : Hid (SmS S.N S.L S.R nh ne ns ↔ false = true) := hid (by simp only [hsm]; simp)
    clear hsm
    refine (small_is m1 m2 false HF.out).mono ?_; rintro e w2 ⟨rfl, b_⟩
    replace T1 := hid (T1.out.call b_)
    replace T2 := hid (T2.out.call b_)
    replace T3 := hid (T3.out.call b_)
    replace D := hid (D.out.below b_ D.out.lt)
    replace HB := hid (Bl.call HB.out b_)
    clear b_
    go_wp2_with fail
    refine (awake_any _).mono ?_; rintro e w3 ⟨rfl, b_⟩
    replace T1 := hid (T1.out.call b_)
    replace T2 := hid (T2.out.call b_)
    replace T3 := hid (T3.out.call b_)
    replace D := hid (D.out.below b_ D.out.lt)
    replace HB := hid (Bl.call HB.out b_)
    clear b_
    go_wp2
    go_ret
    exact ⟨rfl, HB.out⟩
  case pos =>
    have HLE : Hid (ne ≤ 100000 ∧ ne ≤ 1000000 ∧ ns ≤ 100000) := hid (by have := hsm.1.2.2.2.1; have := hsm.2; omega)
    have HES : Hid (S.es.length ≤ 100000) := hid (by have h1 := T2.out.len; rw [len_eds] at h1; have := HLE.out; omega)
    have HSM := hid hsm
    clear hsm
    refine (small_is m1 m2 true ⟨fun _ => rfl, fun _ => HSM.out⟩).mono ?_; rintro e w2 ⟨rfl, b_⟩
    replace T1 := hid (T1.out.call b_)
    replace T2 := hid (T2.out.call b_)
    replace T3 := hid (T3.out.call b_)
    replace D := hid (D.out.below b_ D.out.lt)
    replace HB := hid (Bl.call HB.out b_)
    clear b_
    by_cases k1 : y = 0
    case pos =>
      subst k1
      clear hy_
      go_wp2_with fail
      refine (awake_any _).mono ?_; rintro e w3 ⟨rfl, b_⟩
      replace T1 := hid (T1.out.call b_)
      replace T2 := hid (T2.out.call b_)
      replace T3 := hid (T3.out.call b_)
      replace D := hid (D.out.below b_ D.out.lt)
      replace HB := hid (Bl.call HB.out b_)
      clear b_
      go_wp2
      go_ret
      exact ⟨rfl, HB.out⟩
    case neg =>
      have d1 : ((y : Int) == 0) = false := by rw [beq_eq_false_iff_ne]; omega
      by_cases hr : SRS S
      case neg =>
        have HR := hid hr
        clear hr k1
        have x0 := D.out.cell 0
        have x1 := D.out.cell 1
        have x2 := D.out.cell 2
        have x3 := D.out.cell 3
        have x4 := D.out.cell 4
        have x5 := D.out.cell 5
        go_wp2_with fail
        refine (save_no T1.out T2.out T3.out HLE.out.1 HR.out).mono ?_; rintro e w3 ⟨rfl, b_⟩
        replace T1 := hid (T1.out.call b_)
        replace T2 := hid (T2.out.call b_)
        replace T3 := hid (T3.out.call b_)
        replace D := hid (D.out.below b_ D.out.lt)
        replace HB := hid (Bl.call HB.out b_)
        clear b_
        clear x0 x1 x2 x3 x4 x5
        generalize str [] = sv at *
        go_wp2_with fail
        refine (awake_any _).mono ?_; rintro e w4 ⟨rfl, b_⟩
        replace T1 := hid (T1.out.call b_)
        replace T2 := hid (T2.out.call b_)
        replace T3 := hid (T3.out.call b_)
        replace D := hid (D.out.below b_ D.out.lt)
        replace HB := hid (Bl.call HB.out b_)
        clear b_
        go_wp2
        go_ret
        exact ⟨rfl, HB.out⟩
      case pos =>
        have HR := hid hr
        have hok := ok_srs hr W.out HES.out
        obtain ⟨m, hm⟩ : ∃ m, (Sn.save S).length = m := ⟨_, rfl⟩
        have hm1 : m = 22 + 16 * nh + 9 * ns + 5 * ne := by rw [← hm, Sn.save_len]; have h1 := T1.out.len; have h2 := T2.out.len; have h3 := T3.out.len; rw [len_hcz] at h1; rw [len_eds] at h2; rw [len_sls] at h3; omega
        have hm2 : 30 ≤ m ∧ m ≤ 1000 := by
          have h1 := HSM.out.1
          unfold SmG at h1
          have h2 := HSM.out.2
          have h3 := hok.sl
          have h4 := T3.out.len
          rw [len_sls] at h4
          have h5 := hr.1.1.1
          have h6 : 1 ≤ ns := by omega
          have h7 := hr.1.2.1
          have h8 := T1.out.len
          rw [len_hcz] at h8
          have h9 : 1 ≤ S.L * S.R := Int.mul_pos hr.1.1.2.2.1 hr.1.1.2.2.2.2.1
          omega
        obtain ⟨i, hi⟩ : ∃ i, n_ % m = i := ⟨_, rfl⟩
        have him : i < m := by rw [← hi]; exact Nat.mod_lt _ (by omega)
        have hi2 : (n_ : Int) % (m : Int) = (i : Int) := by rw [← hi]; omega
        have hil : i < (Sn.save S).length := by omega
        obtain ⟨x, hx⟩ : ∃ x, ((Sn.save S)[i]).toNat = x := ⟨_, rfl⟩
        have xb : x < 256 := by rw [← hx]; exact ((Sn.save S)[i]).toNat_lt
        obtain ⟨z, hz⟩ : ∃ z, (x + y) % 256 = z := ⟨_, rfl⟩
        have zb : z < 256 := by omega
        have hwr : IntKind.u8.wrap ((x : Int) + (y : Int)) = (z : Int) := by rw [IntKind.wrap_u8]; omega
        have hne : UInt8.ofNat z ≠ (Sn.save S)[i] := by
          intro e
          have := congrArg UInt8.toNat e
          rw [hx, UInt8.toNat_ofNat'] at this
          omega
        have hzz : ((UInt8.ofNat z).toNat : Int) = (z : Int) := by rw [UInt8.toNat_ofNat']; omega
        obtain ⟨sv, hsv⟩ : ∃ sv, sv = str (Sn.save S) := ⟨_, rfl⟩
        have hsz : sv.size = m := by rw [hsv, str_size, hm]
        obtain ⟨l2, hl2⟩ : ∃ l2, l2 = (Sn.save S).set i (UInt8.ofNat z) := ⟨_, rfl⟩
        have hl2n : l2.length = m := by rw [hl2, List.length_set, hm]
        obtain ⟨s2, hs2⟩ : ∃ s2, s2 = str l2 := ⟨_, rfl⟩
        have CX : Hid (∀ w : World, Calls Try.prog 20 #[.string s2] w (StP w st0 0 0 0 (.int .i64 12))) := hid (fun w => by rw [hs2]; exact res_no' (by omega) (by rw [hl2]; exact good_turned hil hne))
        have HSV := hid hsv
        have HM1 := hid hm
        have HZZ := hid hzz
        have HL2 := hid hl2
        have HL2N := hid hl2n
        have HS2 := hid hs2
        have HX := hid hx
        have d2 : ¬ (m : Int) < 30 := by omega
        have m1000 : m ≤ 1000 := hm2.2
        have im : (i : Int) < (m : Int) := by omega
        clear hr hok hm hm1 hm2 hsv hi hx hz hne hzz hl2 hl2n hs2 k1
        have x0 := D.out.cell 0
        have x1 := D.out.cell 1
        have x2 := D.out.cell 2
        have x3 := D.out.cell 3
        have x4 := D.out.cell 4
        have x5 := D.out.cell 5
        go_wp2_with fail
        refine (save_any T1.out T2.out T3.out HLE.out.1 HR.out W.out).mono ?_; rintro e w3 ⟨rfl, b_⟩
        replace T1 := hid (T1.out.call b_)
        replace T2 := hid (T2.out.call b_)
        replace T3 := hid (T3.out.call b_)
        replace D := hid (D.out.below b_ D.out.lt)
        replace HB := hid (Bl.call HB.out b_)
        clear b_
        clear x0 x1 x2 x3 x4 x5
        rw [← HSV.out]
        obtain ⟨cap, W4, hcv, hWs, hWb, hWc, hWf⟩ := conv_sb' (Sn.save S) w3 sv HSV.out m HM1.out
        have q0 : W4.cell? ⟨w3.heap.size, i, none⟩ = some (.int .u8 (x : Int)) := by rw [← HX.out]; exact hWc i hil
        have f0 := hWf i hil
        have hset := set_cells (b := UInt8.ofNat z) hil hWc
        rw [HZZ.out, ← HL2.out] at hset
        have hcv2 := conv_bs (cap := cap) HL2N.out hset
        rw [← HS2.out] at hcv2
        have bW : Below w3.heap.size w3 (W4.setCell ⟨w3.heap.size, i, none⟩ (.int .u8 (z : Int))) := Below.setCell hWb (Nat.le_refl _) _
        clear hWs hWb hWc hWf hset
        have HBW := hid (Bl.call HB.out bW)
        clear bW
        go_wp2_with fail
        refine (CX.out _).mono ?_; rintro e w9 ⟨A4, A5, A6, c4, c5, c6, n4, n5, n6, rfl, st_, b_⟩
        obtain ⟨rfl, rfl, rfl⟩ := stat_nil st_
        have HB9 := hid (Bl.call HBW.out b_)
        clear b_ st_ hcv hcv2 q0 f0
        go_wp2_with fail
        have HB10 := hid (Bl.new HB9.out (.cells #[.int .i64 0, .int .i64 0, .int .i64 0, .slice A4 0 c4, .slice A5 0 c5, .slice A6 0 c6] 30))
        refine (awake_any _).mono ?_; rintro e w11 ⟨rfl, b_⟩
        replace HB := hid (Bl.call HB10.out b_)
        clear b_
        go_wp2
        go_ret
        exact ⟨rfl, HB.out⟩
end Go.Proofs.Ytbafbnkmmpaomaa
