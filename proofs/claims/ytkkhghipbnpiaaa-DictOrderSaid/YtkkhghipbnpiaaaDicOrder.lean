/- The walk of the law DictOrder. -/
import Derived.Test.YtkkhghipbnpiaaaDicH
import Derived.Test.YtkkhghipbnpiaaaDicK2
import Derived.Deep.DeepCutAuto
namespace Go.Proofs.Ytkkhghipbnpiaaa
open Go.RowKit Sq
set_option linter.unusedVariables false
attribute [local go_sem ↓] Go.wp_at_zero Go.wp_at_succ

set_option maxRecDepth 100000 in
set_option maxHeartbeats 8000000 in
theorem dictOrder_walk (v : Value) (nn : Nat) (ks : List Int) (by_ : Int) (w : World) (hs : Sl w w.heap.size 1 v nn (uks ks)) (hb : 0 ≤ by_ ∧ by_ ≤ 255) :
    Calls Try.prog 5 #[v, .int .u8 by_] w (IsTrue w) := by
  have hn : ks.length = nn := by have := hs.len; rw [len_uks] at this; omega
  obtain ⟨A, c, rfl, hnc, hcm, hll, hx⟩ := hs
  have HS : Hid (Sl w w.heap.size 1 (.slice A nn c) nn (uks ks)) := hid ⟨A, c, rfl, hnc, hcm, hll, hx⟩
  have HN := hid hn
  obtain ⟨by0, by1⟩ := hb
  obtain ⟨by_, rfl⟩ := Int.eq_ofNat_of_zero_le by0
  have hA : 0 < nn → ∃ b o, A = some ⟨b, o, none⟩ := fun h => by obtain ⟨b, o, h1, _⟩ := hx h; exact ⟨b, o, h1⟩
  have HAd := hid hA
  clear hn hx hll hA
  by_cases g1 : (60 : Int) < nn
  · go_enter Try.func5, Try.ntmps5
    go_wp2_with fail
    refine (dAwake_any _).mono ?_; rintro e w' ⟨rfl, hb⟩
    go_wp2
    go_ret
    exact ⟨rfl, hb⟩
  have HB : Hid (Below w.heap.size w w) := hid (Below.refl _ _)
  have I_z : Hid (IsD w none []) := hid (IsD.none_ _)
  have I_y : Hid (IsD w none []) := hid (IsD.none_ _)
  go_enter Try.func5, Try.ntmps5
  obtain ⟨w1, hw⟩ : ∃ w1, w1 = w.alloc (.cells #[.pointer none] 27) := ⟨_, rfl⟩
  obtain ⟨Kd, hK⟩ : ∃ Kd, Kd = w.heap.size := ⟨_, rfl⟩
  have b : Below w.heap.size w w1 := by rw [hw]; exact bel_new _ _
  have D_d' : Hid (Blk w1 Kd 27 [.pointer none]) := hid (by rw [hw, hK]; exact Blk.new w _ [.pointer none])
  have I_d' := hid (I_z.out.call b)
  have LO_d : Hid (w.heap.size ≤ Kd) := hid (by rw [hK]; exact HB.out.size)
  replace HB := hid (Bl.call HB.out b)
  have D_d := D_d'
  have I_d := I_d'
  have HW1 := hid hw
  have HK1 := hid hK
  clear b hw hK D_d' I_d' I_z
  replace I_y := hid (I_y.out.call (show Below w.heap.size w w1 by rw [HW1.out]; exact bel_new _ _))
  obtain ⟨w2, hw⟩ : ∃ w2, w2 = w1.alloc (.cells #[.pointer none] 27) := ⟨_, rfl⟩
  obtain ⟨Ke, hK⟩ : ∃ Ke, Ke = w1.heap.size := ⟨_, rfl⟩
  have b : Below w1.heap.size w1 w2 := by rw [hw]; exact bel_new _ _
  have D_e' : Hid (Blk w2 Ke 27 [.pointer none]) := hid (by rw [hw, hK]; exact Blk.new w1 _ [.pointer none])
  have I_e' := hid (I_y.out.call b)
  have LO_e : Hid (w.heap.size ≤ Ke) := hid (by rw [hK]; exact HB.out.size)
  have NEde : Hid (Kd ≠ Ke) := hid (by have := D_d.out.lt; omega)
  have NEed : Hid (Ke ≠ Kd) := hid (by have := D_d.out.lt; omega)
  replace D_d := hid (D_d.out.below b D_d.out.lt)
  replace I_d := hid (I_d.out.call b)
  replace HB := hid (Bl.call HB.out b)
  have D_e := D_e'
  have I_e := I_e'
  have HW2 := hid hw
  have HK2 := hid hK
  clear b hw hK D_e' I_e' I_y
  have HKe : Hid (Ke = w.heap.size + 1) := hid (by rw [HK2.out, HW1.out]; simp)
  go_wp2_with fail
  rw [← HKe.out, ← HK1.out, ← HW1.out, ← HW2.out]
  obtain ⟨wa, hwa⟩ : ∃ wa, wa = w2 := ⟨_, rfl⟩
  rw [← hwa] at D_d I_d D_e I_e HB
  rw [← hwa]
  clear hwa
  go_loop [7, 9, 21] (fun _ _ i => ∃ (j : Nat), i = .int .i64 (j : Int) ∧ j ≤ nn ∧ Hid (DistU ks j)) (fun _ _ i => nn - (intOf i).toNat)
  case atStart => exact ⟨0, rfl, Nat.zero_le _, hid (fun p q _ h => absurd h (Nat.not_lt_zero _))⟩
  case round =>
    obtain ⟨j, rfl, hj, HD⟩ := hrel
    by_cases hlt : j < nn
    · have i1 : (j : Int) < (nn : Int) := by omega
      have i2 : (0 : Int) ≤ (j : Int) := by omega
      have i3 : (j : Int) ≤ (c : Int) := by omega
      obtain ⟨b, o, rfl⟩ := HAd.out (by omega)
      go_wp2_with fail
      go_loop [9, 28] (fun _ k => ∃ (q : Nat), k = .int .i64 (q : Int) ∧ q ≤ j ∧ Hid (∀ p, p < q → ks.getD p 0 ≠ ks.getD j 0)) (fun _ k => j - (intOf k).toNat)
      case atStart => exact ⟨0, rfl, Nat.zero_le _, hid (fun p h => absurd h (Nat.not_lt_zero _))⟩
      case round =>
        obtain ⟨q, rfl, hq, HE⟩ := hrel
        by_cases hqj : q < j
        · have i4 : (q : Int) < (j : Int) := by omega
          have i5 : (q : Int) < (nn : Int) := by omega
          obtain ⟨b1, o1, e1, q0⟩ := uks_cells HS.out HB.out hlt HN.out
          obtain ⟨b2, o2, e2, q1⟩ := uks_cells HS.out HB.out (show q < nn by omega) HN.out
          injection e1 with e1; injection e1 with e11 e12 e13; subst e11 e12
          injection e2 with e2; injection e2 with e21 e22 e23; subst e21 e22
          have HES := HE
          by_cases heq : ks.getD q 0 = ks.getD j 0
          · rw [heq] at q1
            generalize ks.getD j 0 = kj at *
            have r5 : (kj == kj) = true := by simp
            clear heq
            go_wp2_with fail
            refine (dAwake_any _).mono ?_; rintro e wz ⟨rfl, bz⟩
            go_wp2
            go_ret
            exact ⟨rfl, Bl.call HB.out bz⟩
          · have HE2 : Hid (∀ p, p < q + 1 → ks.getD p 0 ≠ ks.getD j 0) := hid (fun p hp => by
              rcases Nat.lt_or_ge p q with h | h
              · exact HE.out p h
              · have : p = q := by omega
                subst this; exact heq)
            have r5 : (ks.getD q 0 == ks.getD j 0) = false := by rw [beq_eq_false_iff_ne]; exact heq
            clear heq HE HES
            obtain ⟨kq, hkq⟩ : ∃ kq, kq = ks.getD q 0 := ⟨_, rfl⟩
            obtain ⟨kj, hkj⟩ : ∃ kj, kj = ks.getD j 0 := ⟨_, rfl⟩
            rw [← hkq] at q1 r5
            rw [← hkj] at q0 r5
            clear hkq hkj
            go_wp2_with fail
            go_round
            case rel => exact ⟨q + 1, by go_num, by omega, HE2⟩
            case measure => simp [intOf]; omega
        · obtain rfl : q = j := by omega
          have i4 : ¬ (q : Int) < (q : Int) := by omega
          have HD2 := hid (distU_succ HD.out HE.out)
          go_wp2_with fail
          go_round
          case rel => exact ⟨q + 1, by go_num, by omega, HD2⟩
          case measure => simp [intOf]; omega
    · obtain rfl : j = nn := by omega
      have g1' : (j : Int) ≤ 60 := by omega
      have i1 : ¬ (j : Int) < (j : Int) := by omega
      go_wp2_with fail

      go_loopw [10, 11, 12, 43] (fun _ _ _ i wr => ∃ (p : Nat) (pd pe : Option Addr), i = .int .i64 (p : Int) ∧ p ≤ j ∧ Hid (Blk wr Kd 27 [.pointer pd]) ∧ Hid (IsD wr pd (pks ks p)) ∧ Hid (Blk wr Ke 27 [.pointer pe]) ∧ Hid (IsD wr pe (pks2 ks j by_ p)) ∧ Hid (Below w.heap.size w wr)) (fun _ _ _ i _ => j - (intOf i).toNat)
      case atStart => exact ⟨0, none, none, rfl, Nat.zero_le _, D_d, I_d, D_e, I_e, HB⟩
      case round =>
        clear D_d I_d D_e I_e HB
        obtain ⟨p, pd, pe, rfl, hp, D_d, I_d, D_e, I_e, HB⟩ := hrel
        by_cases hlt : p < j
        · have hi0 : (p : Int) < (j : Int) := by omega
          have hi1 : (0 : Int) ≤ (p : Int) := by omega
          have hi2 : (j : Int) ≤ 60 := g1'
          obtain ⟨b, o, rfl, q0⟩ := uks_cells HS.out HB.out hlt HN.out
          have htl := Dc.turn_lt j by_ p (by omega)
          obtain ⟨b2, o2, e2, q1⟩ := uks_cells HS.out HB.out htl HN.out
          injection e2 with e2; injection e2 with e21 e22 e23; subst e21 e22
          clear e23
          have HAC := hid (pks_succ ks p)
          have HAE := hid (pks2_succ ks j by_ p)
          have LL : Hid ((pks ks p).length ≤ 100000 ∧ (pks2 ks j by_ p).length ≤ 100000) := hid ⟨by have := len_pks ks p; omega, by have := len_pks2 ks j by_ p; omega⟩
          obtain ⟨t, ht⟩ : ∃ t, t = Dc.turn j by_ p := ⟨_, rfl⟩
          rw [← ht] at htl q1 HAE
          have et : ((j : Int) - (p : Int) + (by_ : Int)) % (j : Int) = (t : Int) := by rw [ht]; unfold Dc.turn; rw [Int.natCast_emod]; congr 1; omega
          have ET := hid et
          clear et ht
          obtain ⟨kp, hkp⟩ : ∃ kp, kp = ks.getD p 0 := ⟨_, rfl⟩
          obtain ⟨kt, hkt⟩ : ∃ kt, kt = ks.getD t 0 := ⟨_, rfl⟩
          rw [← hkp] at q0 HAC
          rw [← hkt] at q1 HAE
          have HKT := hid hkt
          clear hkp hkt q1
          have c_d : wr.cell? ⟨Kd, 0, none⟩ = some (.pointer pd) := D_d.out.cell 0
          have f_d : wr.frozen? ⟨Kd, 0, none⟩ = false := D_d.out.frozen 0
          have c_e : wr.cell? ⟨Ke, 0, none⟩ = some (.pointer pe) := D_e.out.cell 0
          have f_e : wr.frozen? ⟨Ke, 0, none⟩ = false := D_e.out.frozen 0
          go_wp2_with fail
          clear c_d f_d c_e f_e
          refine (put_is (k := kp) (n := (p : Int)) I_d.out LL.out.1 (Dc.put (pks ks p) kp (p : Int)) rfl).mono ?_; rintro e w1 ⟨v1, rfl, i, bb⟩
          replace D_d := hid (D_d.out.below bb D_d.out.lt)
          replace I_d := hid (I_d.out.call bb)
          replace D_e := hid (D_e.out.below bb D_e.out.lt)
          replace I_e := hid (I_e.out.call bb)
          replace HB := hid (Bl.call HB.out bb)
          have I_1 := hid i
          clear i bb q0
          have p_c : w1.cell? ⟨Kd, 0, none⟩ = some (.pointer pd) := D_d.out.cell 0
          have p_f : w1.frozen? ⟨Kd, 0, none⟩ = false := D_d.out.frozen 0
          obtain ⟨w2, hw⟩ : ∃ w2, w2 = w1.setCell ⟨Kd, 0, none⟩ (.pointer v1) := ⟨_, rfl⟩
          replace D_e : Hid (Blk w2 Ke 27 [.pointer pe]) := hid (by rw [hw]; exact D_e.out.far NEed.out _)
          replace I_e : Hid (IsD w2 pe (pks2 ks j by_ p)) := hid (by rw [hw]; exact I_e.out.other D_d.out (.pointer v1))
          replace I_d : Hid (IsD w2 v1 (Dc.put (pks ks p) kp (p : Int))) := hid (by rw [hw]; exact I_1.out.other D_d.out (.pointer v1))
          replace HB : Hid (Below w.heap.size w w2) := hid (by rw [hw]; exact HB.out.setCell (p := ⟨Kd, 0, none⟩) LO_d.out (.pointer v1))
          replace D_d : Hid (Blk w2 Kd 27 [.pointer v1]) := hid (by rw [hw]; exact D_d.out.put 0 _)
          have HW2 := hid hw
          clear hw I_1
          have c_d : (w1.setCell ⟨Kd, 0, none⟩ (.pointer v1)).cell? ⟨Kd, 0, none⟩ = some (.pointer v1) := by rw [← HW2.out]; exact D_d.out.cell 0
          have f_d : (w1.setCell ⟨Kd, 0, none⟩ (.pointer v1)).frozen? ⟨Kd, 0, none⟩ = false := by rw [← HW2.out]; exact D_d.out.frozen 0
          have c_e : (w1.setCell ⟨Kd, 0, none⟩ (.pointer v1)).cell? ⟨Ke, 0, none⟩ = some (.pointer pe) := by rw [← HW2.out]; exact D_e.out.cell 0
          have f_e : (w1.setCell ⟨Kd, 0, none⟩ (.pointer v1)).frozen? ⟨Ke, 0, none⟩ = false := by rw [← HW2.out]; exact D_e.out.frozen 0
          have hj0 : (0 : Int) < (j : Int) := by omega
          have t0 : (0 : Int) ≤ (t : Int) := by omega
          have t1 : (t : Int) < (j : Int) := by omega
          go_upto_region 19 with (fail)
          rw [← HW2.out]
          rw [ET.out]
          obtain ⟨b3, o3, e3, q2⟩ := uks_cells HS.out HB.out (show t < j by omega) HN.out
          injection e3 with e3; injection e3 with e31 e32 e33; subst e31 e32
          rw [← HKT.out] at q2
          clear e33
          clear c_d f_d c_e f_e p_c p_f
          have c_d : w2.cell? ⟨Kd, 0, none⟩ = some (.pointer v1) := D_d.out.cell 0
          have f_d : w2.frozen? ⟨Kd, 0, none⟩ = false := D_d.out.frozen 0
          have c_e : w2.cell? ⟨Ke, 0, none⟩ = some (.pointer pe) := D_e.out.cell 0
          have f_e : w2.frozen? ⟨Ke, 0, none⟩ = false := D_e.out.frozen 0
          go_region_with ((go_at_call 12; (with_reducible refine (put_is (pt := pe) (l := pks2 ks j by_ p) (k := kt) (n := (t : Int)) (by repeat (first | exact I_e.out | refine IsD.new ?_ _ | refine IsD.cqt ?_ (qt_drew _) | refine IsD.cqt ?_ (qt_of _ _) | refine IsD.call ?_ (by assumption) | refine IsD.cqt ?_ (by assumption))) LL.out.2 (Dc.put (pks2 ks j by_ p) kt (t : Int)) rfl).mono ?_); rintro e w3 ⟨v2, rfl, i2, b2⟩; have R3 : Blk w3 Ke 27 [.pointer pe] := D_e.out.thru (by first | exact Qt.refl _ | exact qt_drew _ | exact qt_of _ _) b2; have z0 : w3.cell? ⟨Ke, 0, none⟩ = some (.pointer pe) := R3.cell 0; have z1 : w3.frozen? ⟨Ke, 0, none⟩ = false := R3.frozen 0))
          all_goals
            have BX : Hid (Below w2.heap.size w2 w3) := hid (by first | exact b2 | exact Bl.call (qt_drew _).bel b2 | exact Bl.call (qt_of _ _).bel b2)
            replace D_d := hid (D_d.out.below BX.out D_d.out.lt)
            replace I_d := hid (I_d.out.call BX.out)
            replace D_e := hid R3
            replace I_e := hid (I_e.out.call BX.out)
            replace HB := hid (Bl.call HB.out BX.out)
            have I_2 := hid i2
            clear c_d f_d c_e f_e q2 b2 i2 BX R3 z0 z1
            have p_c : w3.cell? ⟨Ke, 0, none⟩ = some (.pointer pe) := D_e.out.cell 0
            have p_f : w3.frozen? ⟨Ke, 0, none⟩ = false := D_e.out.frozen 0
            obtain ⟨w4, hw⟩ : ∃ w4, w4 = w3.setCell ⟨Ke, 0, none⟩ (.pointer v2) := ⟨_, rfl⟩
            replace D_d : Hid (Blk w4 Kd 27 [.pointer v1]) := hid (by rw [hw]; exact D_d.out.far NEde.out _)
            replace I_d : Hid (IsD w4 v1 (Dc.put (pks ks p) kp (p : Int))) := hid (by rw [hw]; exact I_d.out.other D_e.out (.pointer v2))
            replace I_e : Hid (IsD w4 v2 (Dc.put (pks2 ks j by_ p) kt (t : Int))) := hid (by rw [hw]; exact I_2.out.other D_e.out (.pointer v2))
            replace HB : Hid (Below w.heap.size w w4) := hid (by rw [hw]; exact HB.out.setCell (p := ⟨Ke, 0, none⟩) LO_e.out (.pointer v2))
            replace D_e : Hid (Blk w4 Ke 27 [.pointer v2]) := hid (by rw [hw]; exact D_e.out.put 0 _)
            have HW4 := hid hw
            clear hw I_2
            go_wp2_with fail
            rw [← HW4.out]
            clear p_c p_f
            go_roundw
            case rel => exact ⟨p + 1, v1, v2, by go_num, by omega, D_d, by rw [HAC.out]; exact I_d, D_e, by rw [HAE.out]; exact I_e, HB⟩
            case measure => simp [intOf]; omega
        · obtain rfl : p = j := by omega
          have hi0 : ¬ (p : Int) < (p : Int) := by omega
          rw [pks_same by_ HD.out] at I_e
          have hlL := pks_len HD.out
          have hsr := srt_pks ks p
          obtain ⟨L, hL⟩ : ∃ L, L = pks ks p := ⟨_, rfl⟩
          rw [← hL] at I_d I_e hlL hsr
          have HLn := hid hlL
          have HSR := hid hsr
          have LL : Hid (L.length ≤ 100000) := hid (by omega)
          clear hL hlL hsr hi0
          have c_d : wr.cell? ⟨Kd, 0, none⟩ = some (.pointer pd) := D_d.out.cell 0
          have f_d : wr.frozen? ⟨Kd, 0, none⟩ = false := D_d.out.frozen 0
          have c_e : wr.cell? ⟨Ke, 0, none⟩ = some (.pointer pe) := D_e.out.cell 0
          have f_e : wr.frozen? ⟨Ke, 0, none⟩ = false := D_e.out.frozen 0
          go_wp2_with fail
          clear c_d f_d c_e f_e
          refine (pairs_is (l := L) I_d.out LL.out L p rfl HLn.out).mono ?_; rintro e w1 ⟨u6, rfl, s6, bb⟩
          replace D_d := hid (D_d.out.below bb D_d.out.lt)
          replace I_d := hid (I_d.out.call bb)
          replace D_e := hid (D_e.out.below bb D_e.out.lt)
          replace I_e := hid (I_e.out.call bb)
          replace HB := hid (Bl.call HB.out bb)
          clear bb
          have S6 := hid s6
          obtain ⟨A6, c6, rfl, hnc6, hcm6, hll6, hx6⟩ := s6
          have HX6 := hid hx6
          clear hx6 hll6
          go_wp2_with fail
          obtain ⟨y2, hy2⟩ : ∃ y2, y2 = w1 := ⟨_, rfl⟩
          rw [← hy2] at D_d I_d D_e I_e HB HX6 S6
          rw [← hy2]
          clear hy2
          go_loopw [14, 74] (fun _ i wr => ∃ (q : Nat), i = .int .i64 (q : Int) ∧ q ≤ p ∧ Qt y2 wr) (fun _ i _ => p - (intOf i).toNat)
          case atStart => exact ⟨0, rfl, Nat.zero_le _, Qt.refl _⟩
          case round =>
            obtain ⟨q, rfl, hq, hqt⟩ := hrel
            by_cases hlt : q < p
            · have i0 : (q : Int) < (p : Int) := by omega
              obtain ⟨b6, o6, rfl, hb6, hc6⟩ := HX6.out (by omega)
              cases q with
              | zero =>
                go_wp2_with fail
                go_quiet (fail)
                go_wp2_with fail
                go_roundw
                case rel => exact ⟨1, by go_num, by omega, hqt.drewN _⟩
                case measure => simp [intOf]; omega
              | succ m =>
                have k1 : m < L.length := by rw [HLn.out]; omega
                have k2 : m + 1 < L.length := by rw [HLn.out]; exact hlt
                have e1 := (prs_cell hc6 k1).1
                have e2 := (prs_cell hc6 k2).1
                have hs1 := (List.pairwise_iff_getElem.1 HSR.out) m (m + 1) k1 k2 (by omega)
                obtain ⟨x, hx⟩ : ∃ x, x = L[m] := ⟨_, rfl⟩
                obtain ⟨y, hy⟩ : ∃ y, y = L[m + 1] := ⟨_, rfl⟩
                rw [← hx] at e1 hs1
                rw [← hy] at e2 hs1
                obtain ⟨x1, x2⟩ := x
                obtain ⟨y1, y2'⟩ := y
                dsimp only at e1 e2 hs1
                have d1 := (hqt.cell ⟨b6, o6 + m * 2, none⟩).trans e1
                have d2 := (hqt.cell ⟨b6, o6 + (m + 1) * 2, none⟩).trans e2
                have t1 : decide (y1 ≤ x1) = false := decide_eq_false (by omega)
                have t2 : ¬ y1 ≤ x1 := by omega
                have j0 : (0 : Int) ≤ (m : Int) := by omega
                have j1 : (m : Int) < (p : Int) := by omega
                have j2 : (m : Int) + 1 < (p : Int) := by omega
                have j3 : (0 : Int) ≤ (m : Int) + 1 := by omega
                have j4 : (0 : Int) < (m : Int) + 1 := by omega
                have j5 : IntKind.i64.wrap ((m : Int) + 1 - 1) = (m : Int) := by rw [IntKind.wrap_i64]; omega
                have j6 : decide ((0 : Int) < (m : Int) + 1) = true := decide_eq_true j4
                clear hx hy e1 e2 hs1 k1 k2 hc6
                go_wp2_with fail
                go_quiet (fail)
                go_wp2_with fail
                go_roundw
                case rel => exact ⟨m + 1 + 1, by go_num, by omega, hqt.drewN _⟩
                case measure => simp [intOf]; omega
            · obtain rfl : q = p := by omega
              have i0 : ¬ (q : Int) < (q : Int) := by omega
              have HQ := hid hqt
              replace D_e := hid (D_e.out.thru HQ.out (Below.refl _ _))
              replace I_e := hid (I_e.out.cqt HQ.out)
              replace HB := hid (Bl.qt HB.out HQ.out)
              replace S6 := hid (S6.out.cqt HQ.out)
              clear hqt
              have s6 := S6.out
              have c_e : wr.cell? ⟨Ke, 0, none⟩ = some (.pointer pe) := D_e.out.cell 0
              have hL1 : L.length = q := HLn.out
              have r5 : ((q : Int) == (q : Int)) = true := by simp
              have HL1 := hid hL1
              have QL : Hid (q ≤ 100000) := hid (by omega)
              clear hL1
              go_wp2_with fail
              go_region_held3 (fun w' => w'.cell? ⟨Ke, 0, none⟩ = some (.pointer pe))
                (first | (first | go_keep | (go_split_ands; and_intros <;> (first | (refine cell_later (by assumption) ?_; first | assumption | (rw [Qt.cell (qt_of _ _)]; assumption) | (rw [Qt.cell (qt_drew _)]; assumption)) | (refine cell_later (bel_new _ _) ?_; assumption))) | (refine cell_later (by assumption) ?_; first | assumption | (rw [Qt.cell (qt_of _ _)]; assumption) | (rw [Qt.cell (qt_drew _)]; assumption)) | (refine cell_later (bel_new _ _) ?_; assumption)) | (rw [Qt.cell (by assumption)]; assumption))
                (first | (go_at_call 16; (with_reducible refine (pairs_is (pt := pe) (l := L) (by repeat (first | exact I_e.out | refine IsD.new ?_ _ | refine IsD.cqt ?_ (qt_drew _) | refine IsD.cqt ?_ (qt_of _ _) | refine IsD.call ?_ (by assumption) | refine IsD.cqt ?_ (by assumption))) LL.out L q rfl HL1.out).mono ?_); rintro e x3 ⟨u3, rfl, s3, b3⟩)
                       | (go_at_call 15; (with_reducible refine (refs_any (v := u3) (l := L) (by repeat (first | exact s3 | refine Sl.new ?_ _ | refine Sl.cqt ?_ (qt_drew _) | refine Sl.cqt ?_ (qt_of _ _) | refine Sl.call ?_ (by assumption) | refine Sl.cqt ?_ (by assumption))) QL.out).mono ?_); rintro e x4 ⟨u4, rfl, s4, b4⟩)
                       | (go_at_call 15; (with_reducible refine (refs_any (v := .slice A6 q c6) (l := L) (by repeat (first | exact s6 | refine Sl.new ?_ _ | refine Sl.cqt ?_ (qt_drew _) | refine Sl.cqt ?_ (qt_of _ _) | refine Sl.call ?_ (by assumption) | refine Sl.cqt ?_ (by assumption))) QL.out).mono ?_); rintro e x2 ⟨u2, rfl, s2, b2⟩)
                       | (go_at_call 8; (with_reducible refine (dAwake_any _).mono ?_); rintro e x6 ⟨rfl, b6⟩)
                       | (go_at_call 14; (with_reducible refine (rsame_n (v := u2) (v' := u4) (p := L) (n := q) (by repeat (first | exact s2 | refine Sl.new ?_ _ | refine Sl.cqt ?_ (qt_drew _) | refine Sl.cqt ?_ (qt_of _ _) | refine Sl.call ?_ (by assumption) | refine Sl.cqt ?_ (by assumption))) (by repeat (first | exact s4 | refine Sl.new ?_ _ | refine Sl.cqt ?_ (qt_drew _) | refine Sl.cqt ?_ (qt_of _ _) | refine Sl.call ?_ (by assumption) | refine Sl.cqt ?_ (by assumption)))).mono ?_); rintro e x5 ⟨rfl, q5⟩))
              all_goals
                go_wp2
                go_ret
                exact ⟨rfl, (by repeat (first | exact HB.out | refine Bl.new ?_ _ | refine Bl.call ?_ (by assumption) | refine Bl.qt ?_ (by assumption) | refine Bl.qt ?_ (qt_drew _) | refine Bl.qt ?_ (qt_of _ _)))⟩
end Go.Proofs.Ytkkhghipbnpiaaa
