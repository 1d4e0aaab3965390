/- Contract of sketch.Toggle. -/
import Derived.Test.YtomgbhnalhddiaaSkC
namespace Go.Proofs.Ytomgbhnalhddiaa
open Go.RowKit
set_option linter.unusedVariables false
set_option linter.unusedSimpArgs false

theorem toggle_no {r v : Int} {A A2 : Option Addr} {n c m c2 : Nat} {x : Int} {w : World} (h : SOk r v n) (hm : (m : Int) ≠ r) :
    Calls Try.prog 9 #[.agg #[.int .i64 r, .int .i64 v, .slice A n c], .slice A2 m c2, .int .u64 x] w fun e w' => e = .returned (.tuple #[.agg #[.int .i64 r, .int .i64 v, .slice A n c], .int .i64 1]) ∧ Below w.heap.size w w' := by
  have H := hid h
  have t0 : ((m : Int) != r) = true := by simp [hm]
  clear h hm
  obtain ⟨wx0, hwx0⟩ : ∃ z, z = w.alloc (.cells #[.int .i64 r, .int .i64 v, .slice A n c] 26) := ⟨_, rfl⟩
  obtain ⟨w0, hw0⟩ : ∃ z, z = wx0.alloc (.cells #[.int .i64 0, .int .i64 0, .slice none 0 0] 26) := ⟨_, rfl⟩
  obtain ⟨K2, hK2⟩ : ∃ K, K = w.heap.size := ⟨_, rfl⟩
  have s0 : wx0.heap.size = K2 + 1 := by rw [hwx0]; simp [hK2]
  have q0 : Below w.heap.size w wx0 := by rw [hwx0]; exact bel_new _ _
  have s1 : w0.heap.size = K2 + 2 := by rw [hw0]; simp [s0]
  have q1 : Below wx0.heap.size wx0 w0 := by rw [hw0]; exact bel_new _ _
  have B2 : Hid (Blk w0 (K2) 26 [.int .i64 r, .int .i64 v, .slice A n c]) := hid (by rw [hK2]; exact ((show Blk wx0 w.heap.size 26 [.int .i64 r, .int .i64 v, .slice A n c] by rw [hwx0]; exact Blk.new _ _ _).on q1))
  have B3 : Hid (Blk w0 (K2 + 1) 26 [.int .i64 0, .int .i64 0, .slice none 0 0]) := hid (by rw [← s0]; exact (show Blk w0 wx0.heap.size 26 [.int .i64 0, .int .i64 0, .slice none 0 0] by rw [hw0]; exact Blk.new _ _ _))
  have HB0 : Hid (Below w.heap.size w w0) := hid (Bl.call q0 q1)
  have HW : Hid (w0 = ((w.alloc (.cells #[.int .i64 r, .int .i64 v, .slice A n c] 26)).alloc (.cells #[.int .i64 0, .int .i64 0, .slice none 0 0] 26))) := hid (by rw [hw0, hwx0])
  have HK : Hid (K2 = w.heap.size) := hid hK2
  clear hK2 hwx0 hw0 s0 q0 s1 q1
  go_enter Try.func9, Try.ntmps9
  go_upto_region 1 with (fail)
  rw [← HW.out, ← HK.out]
  have e0 := B2.out.cell 0
  have e1 := B2.out.cell 1
  have e2 := B2.out.cell 2
  go_wp2_with fail
  refine (sright_yes H.out _).mono ?_; rintro e w1 ⟨rfl, b1⟩
  clear e0 e1 e2
  have HB1 := hid (Bl.call HB0.out b1)
  replace B2 := hid (B2.out.on b1)
  replace B3 := hid (B3.out.on b1)
  clear b1
  have e0 := B2.out.cell 0
  have e1 := B2.out.cell 1
  have e2 := B2.out.cell 2
  have g0 := B3.out.cell 0
  have g1 := B3.out.cell 1
  have g2 := B3.out.cell 2
  have z0 := B3.out.frozen 0
  have z1 := B3.out.frozen 1
  have z2 := B3.out.frozen 2
  have hK5 : w.heap.size ≤ K2 + 1 := by rw [HK.out]; omega
  go_wp2
  exact bodyPost_ret (v := .tuple #[.agg #[.int .i64 r, .int .i64 v, .slice A n c], .int .i64 1]) (by simp [results, Try.results9, go_sem, g0, g1, g2]) rfl ⟨rfl, (((HB1.out).setCell (p := ⟨K2 + 1, 0, none⟩) hK5 _).setCell (p := ⟨K2 + 1, 1, none⟩) hK5 _).setCell (p := ⟨K2 + 1, 2, none⟩) hK5 _⟩

set_option maxHeartbeats 4000000 in
theorem toggle_ok {R V N n : Nat} {l : List (Nat × Nat)} {xs : List Nat} {va v1 : Value} {w : World} (h : SOk (R : Int) (V : Int) N) (ha : Sl w w.heap.size 1 va N (us xs)) (hl : Sl w w.heap.size 2 v1 R (hcs l)) (hn : n < 18446744073709551616) (sa : Sk.Small xs) (sh : ∀ h ∈ l, HSmall h) :
    Calls Try.prog 9 #[.agg #[.int .i64 (R : Int), .int .i64 (V : Int), va], v1, .int .u64 (n : Int)] w (SkPost (R : Int) (V : Int) N (Sk.tog l V n xs) w) := by
  have H := hid h
  obtain ⟨⟨h1, h2, h3, h4⟩, h5⟩ := h
  have hNR : N = R * V := by have : (N : Int) = ((R * V : Nat) : Int) := by rw [h5]; simp
                             omega
  have hN : N ≤ 488 := by
    have : (R : Int) * (V : Int) ≤ 8 * 61 := Int.mul_le_mul h2 h4 (by omega) (by omega)
    omega
  have hal : xs.length = N := by have := ha.len; rw [len_us] at this; omega
  have hll : l.length = R := by have := hl.len; rw [len_hcs] at this; omega
  have HL := hid (And.intro hal hll)
  have HS := hid (And.intro sa sh)
  have HNR := hid hNR
  obtain ⟨A, c, rfl, hnc, hcm, hl1, hx1⟩ := ha
  obtain ⟨A2, c2, rfl, hnc2, hcm2, hl2, hx2⟩ := hl
  have HA : Hid (Sl w w.heap.size 1 (.slice A N c) N (us xs)) := hid ⟨A, c, rfl, hnc, hcm, hl1, hx1⟩
  have HX2 := hid hx2
  have t0 : ((R : Int) != (R : Int)) = false := by simp
  clear hx1 hx2 hl1 hl2 hcm hcm2 hal hll sa sh h5 hNR
  obtain ⟨wx0, hwx0⟩ : ∃ z, z = w.alloc (.cells #[.int .i64 (R : Int), .int .i64 (V : Int), .slice A N c] 26) := ⟨_, rfl⟩
  obtain ⟨w0, hw0⟩ : ∃ z, z = wx0.alloc (.cells #[.int .i64 0, .int .i64 0, .slice none 0 0] 26) := ⟨_, rfl⟩
  obtain ⟨K2, hK2⟩ : ∃ K, K = w.heap.size := ⟨_, rfl⟩
  have s0 : wx0.heap.size = K2 + 1 := by rw [hwx0]; simp [hK2]
  have q0 : Below w.heap.size w wx0 := by rw [hwx0]; exact bel_new _ _
  have s1 : w0.heap.size = K2 + 2 := by rw [hw0]; simp [s0]
  have q1 : Below wx0.heap.size wx0 w0 := by rw [hw0]; exact bel_new _ _
  have B2 : Hid (Blk w0 (K2) 26 [.int .i64 (R : Int), .int .i64 (V : Int), .slice A N c]) := hid (by rw [hK2]; exact ((show Blk wx0 w.heap.size 26 [.int .i64 (R : Int), .int .i64 (V : Int), .slice A N c] by rw [hwx0]; exact Blk.new _ _ _).on q1))
  have B3 : Hid (Blk w0 (K2 + 1) 26 [.int .i64 0, .int .i64 0, .slice none 0 0]) := hid (by rw [← s0]; exact (show Blk w0 wx0.heap.size 26 [.int .i64 0, .int .i64 0, .slice none 0 0] by rw [hw0]; exact Blk.new _ _ _))
  have HB0 : Hid (Below w.heap.size w w0) := hid (Bl.call q0 q1)
  have HW : Hid (w0 = ((w.alloc (.cells #[.int .i64 (R : Int), .int .i64 (V : Int), .slice A N c] 26)).alloc (.cells #[.int .i64 0, .int .i64 0, .slice none 0 0] 26))) := hid (by rw [hw0, hwx0])
  have HK : Hid (K2 = w.heap.size) := hid hK2
  clear hK2 hwx0 hw0 s0 q0 s1 q1
  go_enter Try.func9, Try.ntmps9
  go_upto_region 1 with (fail)
  rw [← HW.out, ← HK.out]
  have e0 := B2.out.cell 0
  have e1 := B2.out.cell 1
  have e2 := B2.out.cell 2
  go_wp2_with fail
  refine (sright_yes H.out _).mono ?_; rintro e w1 ⟨rfl, b1⟩
  clear e0 e1 e2
  have HB1 := hid (Bl.call HB0.out b1)
  replace B2 := hid (B2.out.on b1)
  replace B3 := hid (B3.out.on b1)
  clear b1
  have e0 := B2.out.cell 0
  have e1 := B2.out.cell 1
  have e2 := B2.out.cell 2
  go_wp2_with fail
  refine (uclone_any _ _ _ _ _ (HA.out.call HB1.out) (Nat.le_refl _) (by omega)).mono ?_; rintro e w2 ⟨v3, rfl, ho, b2⟩
  have BL2 : Hid (Below w1.heap.size w1 w2) := hid b2
  have HO2 : Hid (w2.ownsRow w1.heap.size 31 1 v3 N (us (Sk.part l V n xs 0 0))) := hid (by rw [Sk.part_start]; exact ho)
  have hN1 : 0 < N := by
    rw [HNR.out]
    exact Nat.mul_pos (by omega) (by omega)
  obtain ⟨g3, c3, rfl, hg3, _⟩ := own_form ho hN1
  clear e0 e1 e2 ho b2
  go_wp2_with fail
  go_loopw [28] (fun i wr => ∃ k : Nat, i = .int .i64 (k : Int) ∧ k ≤ R ∧ Hid (wr.ownsRow w1.heap.size 31 1 (.slice (some ⟨g3, 0, none⟩) N c3) N (us (Sk.part l V n xs k 0))) ∧ Hid (Below w1.heap.size w1 wr)) (fun i _ => R - (intOf i).toNat)
  case atStart => exact ⟨0, rfl, Nat.zero_le _, HO2, BL2⟩
  case round =>
    clear HO2 BL2
    obtain ⟨k, rfl, hk, HO, HB⟩ := hrel
    have C2 := hid (B2.out.below HB.out B2.out.lt)
    by_cases hlt : k < R
    · have hki : (k : Int) < (R : Int) := by omega
      obtain ⟨b, o, rfl, hbb, hc⟩ := HX2.out (by omega)
      have hkl : k < l.length := by rw [HL.out.2]; exact hlt
      obtain ⟨q0, q1⟩ := hcs_cell hc hkl
      have hbw := HB1.out.trans (HB.out.mono HB1.out.size)
      have c0 := (hbw.cell (p := ⟨b, o + k * 2, none⟩) hbb).trans q0
      have c1 := (hbw.cell (p := ⟨b, o + k * 2 + 1, none⟩) hbb).trans q1
      have hsm := HS.out.2 _ (List.getElem_mem hkl)
      have hgd : l.getD k (0, 0) = l[k] := by simp [List.getD, hkl]
      have HGD : Hid (∃ h, h = l[k]) := hid ⟨_, rfl⟩
      obtain ⟨h, hh⟩ := HGD.out
      rw [← hh] at c0 c1 hsm hgd
      have HH := hid (And.intro hgd hsm)
      have kv := C2.out.cell 1
      have kn := cell_later (bel_new wr (.cells #[.int .u64 (h.1 : Int), .int .u64 (h.2 : Int)] 46)) kv
      have hkV : k * V + V ≤ N := by
        rw [HNR.out, show k * V + V = (k + 1) * V by rw [Nat.add_mul]; omega]
        exact Nat.mul_le_mul_right V hlt
      obtain ⟨kV, hkV2⟩ : ∃ kV, kV = k * V := ⟨_, rfl⟩
      have hkVi : (k : Int) * (V : Int) = (kV : Int) := by rw [hkV2]; simp
      rw [← hkV2] at hkV
      have HKV := hid hkV2
      have HKVI := hid hkVi
      clear q0 q1 hc hbw hh hgd hsm HGD hkV2 hkVi
      go_wp2_with fail
      refine (deep_any h n V HH.out.2 rfl hn (by omega)).mono ?_; rintro e w4 ⟨d, rfl, hd, b4⟩
      have hBA : Below wr.heap.size wr w4 := (bel_new wr _).trans (b4.mono (bel_new wr _).size)
      have HB4 := hid (HB.out.trans (hBA.mono HB.out.size))
      have HO4 : Hid (w4.ownsRow w1.heap.size 31 1 (.slice (some ⟨g3, 0, none⟩) N c3) N (us (Sk.part l V n xs k 0))) := hid (own_below HO.out hBA)
      have HDP := hid hd
      have hdV : d ≤ V := hd.1
      clear b4 hBA hd kv kn c0 c1
      go_wp2_with fail
      go_loopw [38] (fun i wr => ∃ i' : Nat, i = .int .i64 (i' : Int) ∧ i' ≤ d ∧ Hid (wr.ownsRow w1.heap.size 31 1 (.slice (some ⟨g3, 0, none⟩) N c3) N (us (Sk.part l V n xs k i'))) ∧ Hid (Below w1.heap.size w1 wr)) (fun i _ => d - (intOf i).toNat)
      case atStart => exact ⟨0, rfl, Nat.zero_le _, HO4, HB4⟩
      case round =>
        clear HO4 HB4
        obtain ⟨i, rfl, hi, HO5, HB5⟩ := hrel
        by_cases hid' : i < d
        · have hii : (i : Int) < (d : Int) := by omega
          have C5 := hid (B2.out.below HB5.out B2.out.lt)
          have kv := C5.out.cell 1
          have hkVi := HKVI.out
          have hidx : kV + i < N := by omega
          have w1' : wr.cell? ⟨g3, kV + i, none⟩ = some (.int .u64 ((Sk.part l V n xs k i).getD (kV + i) 0 : Nat)) := by
            rw [HO5.out.cellAt (kV + i) (by omega), us_at _ _ (by rw [Sk.len_part, HL.out.1]; exact hidx)]
          have f1 := HO5.out.frozenAt (kV + i)
          have hst := Sk.part_set l V n xs k i (by omega)
          have hsm := Sk.small_getD (Sk.small_part (l := l) (v := V) hn HS.out.1 k i) (kV + i)
          rw [← HKV.out] at hst
          have HST := hid hst
          generalize (Sk.part l V n xs k i).getD (kV + i) 0 = x at *
          have hxn := bits_xor_u64_nat x n hsm hn
          have hiN : ((kV : Int) + (i : Int)) < (N : Int) := by omega
          clear hst
          go_wp2
          go_roundw
          case rel => exact ⟨i + 1, by go_num, by omega, by rw [← HST.out, ← us_set]; exact (HO5.out.stored (kV + i) _).1, HB5.out.setCell hg3 _⟩
          case measure => simp [intOf]; omega
        · obtain rfl : i = d := by omega
          have hii : ¬ (i : Int) < (i : Int) := by omega
          have HRW := hid (Sk.part_row l V n xs k i (by omega) (by rw [HH.out.1]; exact HDP.out))
          go_wp2
          go_roundw
          case rel => exact ⟨k + 1, by go_num, by omega, by rw [← HRW.out]; exact HO5, HB5⟩
          case measure => simp [intOf]; omega
    · obtain rfl : k = R := by omega
      have hki : ¬ (k : Int) < (k : Int) := by omega
      have C4 := hid (B3.out.below HB.out B3.out.lt)
      have e0 := C2.out.cell 0
      have e1 := C2.out.cell 1
      have g0 := C4.out.cell 0
      have g1 := C4.out.cell 1
      have g2 := C4.out.cell 2
      have f0 := C4.out.frozen 0
      have f1 := C4.out.frozen 1
      have f2 := C4.out.frozen 2
      have HF : Hid (Sk.part l V n xs k 0 = Sk.tog l V n xs) := hid (by
        have := Sk.part_all l V n xs (by rw [HL.out.1, HL.out.2]; exact HNR.out)
        rw [HL.out.2] at this
        exact this)
      have HBW := hid (HB1.out.trans (HB.out.mono HB1.out.size))
      have hK4 : K2 + 1 < w1.heap.size := B3.out.lt
      have hK5 : w.heap.size ≤ K2 + 1 := by rw [HK.out]; omega
      go_wp2
      have hsl : Sl (((wr.setCell ⟨K2 + 1, 0, none⟩ (.int .i64 (k : Int))).setCell ⟨K2 + 1, 1, none⟩ (.int .i64 (V : Int))).setCell ⟨K2 + 1, 2, none⟩ (.slice (some ⟨g3, 0, none⟩) N c3)) (((wr.setCell ⟨K2 + 1, 0, none⟩ (.int .i64 (k : Int))).setCell ⟨K2 + 1, 1, none⟩ (.int .i64 (V : Int))).setCell ⟨K2 + 1, 2, none⟩ (.slice (some ⟨g3, 0, none⟩) N c3)).heap.size 1 (.slice (some ⟨g3, 0, none⟩) N c3) N (us (Sk.tog l V n xs)) := by
        rw [← HF.out]
        have hne : g3 ≠ K2 + 1 := by omega
        exact Sl.of_own (own_far (own_far (own_far HO.out (p := ⟨K2 + 1, 0, none⟩) hne (.int .i64 (k : Int))) (p := ⟨K2 + 1, 1, none⟩) hne (.int .i64 (V : Int))) (p := ⟨K2 + 1, 2, none⟩) hne (.slice (some ⟨g3, 0, none⟩) N c3))
      exact bodyPost_ret (v := .tuple #[.agg #[.int .i64 (k : Int), .int .i64 (V : Int), .slice (some ⟨g3, 0, none⟩) N c3], .int .i64 0]) (by simp [results, Try.results9, go_sem, g0, g1, g2]) rfl ⟨_, rfl, hsl, ((HBW.out.setCell (p := ⟨K2 + 1, 0, none⟩) hK5 _).setCell (p := ⟨K2 + 1, 1, none⟩) hK5 _).setCell (p := ⟨K2 + 1, 2, none⟩) hK5 _⟩
end Go.Proofs.Ytomgbhnalhddiaa
