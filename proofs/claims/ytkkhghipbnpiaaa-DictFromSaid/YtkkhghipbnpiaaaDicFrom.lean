/- The walk of the law DictFrom. -/
import Derived.Test.YtkkhghipbnpiaaaDicH
import Derived.Test.YtkkhghipbnpiaaaDicK
import Derived.Deep.DeepCutAuto
namespace Go.Proofs.Ytkkhghipbnpiaaa
open Go.RowKit Sq
set_option linter.unusedVariables false
attribute [local go_sem ↓] Go.wp_at_zero Go.wp_at_succ

set_option maxRecDepth 100000 in
set_option maxHeartbeats 8000000 in
theorem dictFrom_walk (v : Value) (nn : Nat) (ks : List Int) (a b : Int) (w : World) (hs : Sl w w.heap.size 1 v nn (uks ks)) (hk : ∀ e ∈ ks, 0 ≤ e ∧ e ≤ 18446744073709551615) (ha : 0 ≤ a ∧ a ≤ 18446744073709551615) (hb : 0 ≤ b ∧ b ≤ 18446744073709551615) :
    Calls Try.prog 6 #[v, .int .u64 a, .int .u64 b] w (IsTrue w) := by
  have hn : ks.length = nn := by have := hs.len; rw [len_uks] at this; omega
  obtain ⟨A, c, rfl, hnc, hcm, hll, hx⟩ := hs
  have HS : Hid (Sl w w.heap.size 1 (.slice A nn c) nn (uks ks)) := hid ⟨A, c, rfl, hnc, hcm, hll, hx⟩
  have HN := hid hn
  have HKS : Hid (∀ e ∈ ks, 0 ≤ e) := hid (fun e he => (hk e he).1)
  obtain ⟨x, y, hxy, hor⟩ : ∃ x y : Int, x ≤ y ∧ ((a = x ∧ b = y ∧ a < b) ∨ (a = x ∧ b = y ∧ a = b) ∨ (a = y ∧ b = x ∧ b < a)) := by
    rcases Int.lt_trichotomy a b with h | h | h
    · exact ⟨a, b, by omega, .inl ⟨rfl, rfl, h⟩⟩
    · exact ⟨a, b, by omega, .inr (.inl ⟨rfl, rfl, h⟩)⟩
    · exact ⟨b, a, by omega, .inr (.inr ⟨rfl, rfl, h⟩)⟩
  have OR := hid hor
  clear hn hx hll hk ha hb hor
  by_cases g1 : (60 : Int) < nn
  · go_enter Try.func6, Try.ntmps6
    go_wp2_with fail
    refine (dAwake_any _).mono ?_; rintro e w' ⟨rfl, hb⟩
    go_wp2
    go_ret
    exact ⟨rfl, hb⟩
  have HB : Hid (Below w.heap.size w w) := hid (Below.refl _ _)
  have I_z : Hid (IsD w none []) := hid (IsD.none_ _)
  go_enter Try.func6, Try.ntmps6
  obtain ⟨w1, hw⟩ : ∃ w1, w1 = w.alloc (.cells #[.pointer none] 27) := ⟨_, rfl⟩
  obtain ⟨Kd, hK⟩ : ∃ Kd, Kd = w.heap.size := ⟨_, rfl⟩
  have b : Below w.heap.size w w1 := by rw [hw]; exact bel_new _ _
  have D_d' : Hid (Blk w1 Kd 27 [.pointer none]) := hid (by rw [hw, hK]; exact Blk.new w _ [.pointer none])
  have I_d' := hid (I_z.out.call b)
  have LO_d : Hid (w.heap.size ≤ Kd) := hid (by rw [hK]; exact HB.out.size)
  replace HB := hid (Bl.call HB.out b)
  have D_d := D_d'
  have I_d := I_d'
  have HW1 := hid hw
  have HK1 := hid hK
  clear b hw hK D_d' I_d' I_z
  go_wp2_with fail
  rw [← HK1.out, ← HW1.out]
  go_loopw [8, 9, 22] (fun _ _ i wr => ∃ (j : Nat) (pt : Option Addr), i = .int .i64 (j : Int) ∧ j ≤ nn ∧ Hid (Blk wr Kd 27 [.pointer pt]) ∧ Hid (IsD wr pt (pks ks j)) ∧ Hid (Below w.heap.size w wr)) (fun _ _ i _ => nn - (intOf i).toNat)
  case atStart => exact ⟨0, none, rfl, Nat.zero_le _, D_d, I_d, HB⟩
  case round =>
    clear D_d I_d HB
    obtain ⟨j, pt, rfl, hj, D_d, I_d, HB⟩ := hrel
    by_cases hlt : j < nn
    · have hi0 : (j : Int) < (nn : Int) := by omega
      obtain ⟨bk, o, rfl, q0⟩ := uks_cells HS.out HB.out hlt HN.out
      have HAC := hid (pks_succ ks j)
      have hlen : (pks ks j).length ≤ 100000 := by have := len_pks ks j; omega
      generalize ks.getD j 0 = k at *
      have c_d : wr.cell? ⟨Kd, 0, none⟩ = some (.pointer pt) := D_d.out.cell 0
      have f_d : wr.frozen? ⟨Kd, 0, none⟩ = false := D_d.out.frozen 0
      go_wp2_with fail
      clear c_d f_d
      refine (put_is (k := k) (n := (j : Int)) I_d.out hlen (Dc.put (pks ks j) k (j : Int)) rfl).mono ?_; rintro e w1 ⟨v1, rfl, i, bb⟩
      replace D_d := hid (D_d.out.below bb D_d.out.lt)
      replace I_d := hid (I_d.out.call bb)
      replace HB := hid (Bl.call HB.out bb)
      have I_1 := hid i
      clear i bb q0
      have p_c : w1.cell? ⟨Kd, 0, none⟩ = some (.pointer pt) := D_d.out.cell 0
      have p_f : w1.frozen? ⟨Kd, 0, none⟩ = false := D_d.out.frozen 0
      obtain ⟨w2, hw⟩ : ∃ w2, w2 = w1.setCell ⟨Kd, 0, none⟩ (.pointer v1) := ⟨_, rfl⟩
      replace I_d : Hid (IsD w2 v1 (Dc.put (pks ks j) k (j : Int))) := hid (by rw [hw]; exact I_1.out.other D_d.out (.pointer v1))
      replace HB : Hid (Below w.heap.size w w2) := hid (by rw [hw]; exact HB.out.setCell (p := ⟨Kd, 0, none⟩) LO_d.out (.pointer v1))
      replace D_d : Hid (Blk w2 Kd 27 [.pointer v1]) := hid (by rw [hw]; exact D_d.out.put 0 _)
      have HW2 := hid hw
      clear hw I_1
      go_wp2_with fail
      rw [← HW2.out]
      clear p_c p_f
      go_roundw
      case rel => exact ⟨j + 1, v1, by go_num, by omega, D_d, by rw [HAC.out]; exact I_d, HB⟩
      case measure => simp [intOf]; omega
    · have hjn : j = nn := by omega
      subst hjn
      have hi0 : ¬ (j : Int) < (j : Int) := by omega
      have hsr := srt_pks ks j
      have hlen := len_pks ks j
      have hmem : ∀ e ∈ pks ks j, ∃ q, q < j ∧ e = (ks.getD q 0, (q : Int)) := fun e he => mem_pks he
      have hnn : ∀ e ∈ pks ks j, 0 ≤ e.1 := nonneg_pks HKS.out
      obtain ⟨L, hL2⟩ : ∃ L, L = pks ks j := ⟨_, rfl⟩
      rw [← hL2] at I_d hlen hsr hmem hnn
      have LO_d : Hid (w.heap.size ≤ Kd) := hid (by rw [HK1.out]; exact Nat.le_refl _)
      have hm1 := Dc.less_mono L x y hxy
      have hm2 := Dc.less_le L y
      have hm3 := Dc.less_zero hnn
      have HM := hid hmem
      have HSR := hid hsr
      have LL : Hid (L.length ≤ 100000) := hid (by omega)
      obtain ⟨nx, hx⟩ : ∃ nx, nx = Dc.less L x := ⟨_, rfl⟩
      obtain ⟨ny, hy⟩ : ∃ ny, ny = Dc.less L y := ⟨_, rfl⟩
      obtain ⟨nl, hl⟩ : ∃ nl, nl = L.length := ⟨_, rfl⟩
      rw [← hx, ← hy] at hm1
      rw [← hy, ← hl] at hm2
      have HX := hid hx
      have HY := hid hy
      have HLn := hid hl
      have HZ : Hid (((Dc.less L 0 : Nat) : Int) = 0) := hid (by rw [hm3]; rfl)
      have t1 : ¬ (ny : Int) < (nx : Int) := by omega
      have t2 : ¬ (nl : Int) < (ny : Int) := by omega
      have t1n : decide (ny < nx) = false := decide_eq_false (by omega)
      have t2n : decide (nl < ny) = false := decide_eq_false (by omega)
      have t1' : decide ((ny : Int) < (nx : Int)) = false := decide_eq_false t1
      have t2' : decide ((nl : Int) < (ny : Int)) = false := decide_eq_false t2
      clear hL2 hi0 hx hy hl hm3 hmem hsr hnn
      go_upto_region 9 with (fail)
      go_cut [10, 11] (fun s10 s11 wx => s10 = .int .u64 x ∧ s11 = .int .u64 y ∧ wr = wx)
      case first =>
        rcases OR.out with ⟨rfl, rfl, ho⟩ | ⟨rfl, rfl, ho⟩ | ⟨rfl, rfl, ho⟩
        all_goals try subst ho
        all_goals
          go_wp2_with fail
          go_meet
          exact ⟨rfl, rfl, rfl⟩
      case rest =>
      obtain ⟨rfl, rfl, rfl⟩ := hcut
      have c_d : wr.cell? ⟨Kd, 0, none⟩ = some (.pointer pt) := D_d.out.cell 0
      have f_d : wr.frozen? ⟨Kd, 0, none⟩ = false := D_d.out.frozen 0
      go_wp2_with fail
      go_region_held3 (fun w' => w'.cell? ⟨Kd, 0, none⟩ = some (.pointer pt))
        (first | (first | go_keep | (go_split_ands; and_intros <;> (first | (refine cell_later (by assumption) ?_; first | assumption | (rw [Qt.cell (qt_of _ _)]; assumption) | (rw [Qt.cell (qt_drew _)]; assumption)) | (refine cell_later (bel_new _ _) ?_; assumption))) | (refine cell_later (by assumption) ?_; first | assumption | (rw [Qt.cell (qt_of _ _)]; assumption) | (rw [Qt.cell (qt_drew _)]; assumption)) | (refine cell_later (bel_new _ _) ?_; assumption)) | (rw [Qt.cell (by assumption)]; assumption))
        (first | (go_at_call 19; (with_reducible refine (from_is (l := L) (k := x) (z := (nx : Int)) (by repeat (first | exact I_d.out | refine IsD.new ?_ _ | refine IsD.cqt ?_ (qt_drew _) | refine IsD.cqt ?_ (qt_of _ _) | refine IsD.call ?_ (by assumption) | refine IsD.cqt ?_ (by assumption))) LL.out (by rw [HX.out])).mono ?_); rintro e x1 ⟨rfl, b1⟩)
               | (go_at_call 19; (with_reducible refine (from_is (l := L) (k := y) (z := (ny : Int)) (by repeat (first | exact I_d.out | refine IsD.new ?_ _ | refine IsD.cqt ?_ (qt_drew _) | refine IsD.cqt ?_ (qt_of _ _) | refine IsD.call ?_ (by assumption) | refine IsD.cqt ?_ (by assumption))) LL.out (by rw [HY.out])).mono ?_); rintro e x1 ⟨rfl, b1⟩)
               | (go_at_call 19; (with_reducible refine (from_is (l := L) (k := 0) (z := 0) (by repeat (first | exact I_d.out | refine IsD.new ?_ _ | refine IsD.cqt ?_ (qt_drew _) | refine IsD.cqt ?_ (qt_of _ _) | refine IsD.call ?_ (by assumption) | refine IsD.cqt ?_ (by assumption))) LL.out HZ.out).mono ?_); rintro e x1 ⟨rfl, b1⟩)
               | (go_at_call 17; (with_reducible refine (many_is (l := L) (by repeat (first | exact I_d.out | refine IsD.new ?_ _ | refine IsD.cqt ?_ (qt_drew _) | refine IsD.cqt ?_ (qt_of _ _) | refine IsD.call ?_ (by assumption) | refine IsD.cqt ?_ (by assumption))) (nl : Int) (by rw [HLn.out])).mono ?_); rintro e x1 ⟨rfl, b1⟩))
      have WB : Hid (Below wr.heap.size wr x1) := hid (by repeat (first | exact Below.refl _ _ | exact Qt.bel (qt_drew _) | exact Qt.bel (qt_of _ _) | refine Bl.call ?_ b1 | refine Bl.call ?_ (by assumption) | refine Bl.qt ?_ (qt_drew _) | refine Bl.qt ?_ (qt_of _ _)))
      replace D_d := hid (D_d.out.below WB.out D_d.out.lt)
      replace I_d := hid (I_d.out.call WB.out)
      replace HB := hid (Bl.call HB.out WB.out)
      clear WB b1 c_d f_d t1 t2 t1n t2n t1' t2' hm1 hm2
      obtain ⟨y1, hy1⟩ : ∃ y1, y1 = x1 := ⟨_, rfl⟩
      rw [← hy1] at D_d I_d HB
      rw [← hy1]
      clear hy1
      have c_d : y1.cell? ⟨Kd, 0, none⟩ = some (.pointer pt) := D_d.out.cell 0
      have f_d : y1.frozen? ⟨Kd, 0, none⟩ = false := D_d.out.frozen 0
      go_wp2_with fail
      clear c_d f_d
      refine (pairs_is (l := L) I_d.out LL.out L nl rfl HLn.out.symm).mono ?_; rintro e w1 ⟨u6, rfl, s6, bb⟩
      replace D_d := hid (D_d.out.below bb D_d.out.lt)
      replace I_d := hid (I_d.out.call bb)
      replace HB := hid (Bl.call HB.out bb)
      clear bb
      obtain ⟨A6, c6, rfl, hnc6, hcm6, hll6, hx6⟩ := s6
      have HX6 := hid hx6
      clear hx6 hll6
      have nlb : nl ≤ 60 := by rw [HLn.out]; omega
      go_wp2_with fail
      obtain ⟨y2, hy2⟩ : ∃ y2, y2 = w1 := ⟨_, rfl⟩
      rw [← hy2] at D_d I_d HB HX6
      rw [← hy2]
      clear hy2
      go_loopw [12, 13, 14, 15, 61] (fun _ _ _ _ i wr => ∃ (q : Nat), i = .int .i64 (q : Int) ∧ q ≤ nl ∧ Hid (Blk wr Kd 27 [.pointer pt]) ∧ Hid (IsD wr pt L) ∧ Hid (Below w.heap.size w wr) ∧ Hid (Below y2.heap.size y2 wr)) (fun _ _ _ _ i _ => nl - (intOf i).toNat)
      case atStart => exact ⟨0, rfl, Nat.zero_le _, D_d, I_d, HB, hid (Below.refl _ _)⟩
      case round =>
        clear D_d I_d HB
        obtain ⟨i, rfl, hi, D_d, I_d, HB, HY2⟩ := hrel
        by_cases hlt : i < nl
        · have hi0 : (i : Int) < (nl : Int) := by omega
          have hiL : i < L.length := by rw [← HLn.out]; exact hlt
          obtain ⟨b6, o6, rfl, hb6, hc6⟩ := HX6.out (by omega)
          have hq := prs_cell hc6 hiL
          have hmL : L[i] ∈ L := List.getElem_mem hiL
          obtain ⟨q, hqj, hqe⟩ := HM.out _ hmL
          rw [hqe] at hmL
          have hgt := (Dc.get_some HSR.out).2 hmL
          have hls := Dc.less_at HSR.out i hiL
          rw [hqe] at hq hls
          obtain ⟨b5, o5, rfl, q2⟩ := uks_cells HS.out HB.out hqj HN.out
          generalize ks.getD q 0 = kx at *
          have q0 := cell_later HY2.out hq.1
          have q1 := cell_later HY2.out hq.2
          dsimp only at q0 q1
          have GT := hid hgt
          have LS : Hid (((Dc.less L kx : Nat) : Int) = (i : Int)) := hid (by rw [hls])
          clear hq hqe hgt hls hc6 hiL hmL
          obtain ⟨w1, hw⟩ : ∃ w1, w1 = wr.alloc (.cells #[.int .u64 kx, .int .i64 (q : Int)] 51) := ⟨_, rfl⟩
          have b : Below wr.heap.size wr w1 := by rw [hw]; exact bel_new _ _
          replace D_d := hid (D_d.out.below b D_d.out.lt)
          replace I_d := hid (I_d.out.call b)
          replace HB := hid (Bl.call HB.out b)
          have HW1 := hid hw
          clear b hw
          have z2 : w1.cell? ⟨b5, o5 + q, none⟩ = some (.int .u64 kx) := cell_later (by rw [HW1.out]; exact bel_new _ _) q2
          obtain ⟨KP, hKP⟩ : ∃ KP, KP = wr.heap.size := ⟨_, rfl⟩
          have HKP := hid hKP
          have PB : Hid (Blk w1 KP 51 [.int .u64 kx, .int .i64 (q : Int)]) := hid (by rw [HW1.out, hKP]; exact Blk.new _ _ _)
          clear hKP
          have c_d : (wr.alloc (.cells #[.int .u64 kx, .int .i64 (q : Int)] 51)).cell? ⟨Kd, 0, none⟩ = some (.pointer pt) := by rw [← HW1.out]; exact D_d.out.cell 0
          have f_d : (wr.alloc (.cells #[.int .u64 kx, .int .i64 (q : Int)] 51)).frozen? ⟨Kd, 0, none⟩ = false := by rw [← HW1.out]; exact D_d.out.frozen 0
          go_wp2_with fail
          rw [← HKP.out, ← HW1.out]
          clear c_d f_d
          refine (get_is (l := L) (k := kx) I_d.out LL.out (q : Int) true (by rw [GT.out]; rfl) (by rw [GT.out]; rfl)).mono ?_; rintro e w2 ⟨rfl, bb⟩
          have z3 : w2.cell? ⟨b5, o5 + q, none⟩ = some (.int .u64 kx) := cell_later bb z2
          have p0 : w2.cell? ⟨KP, 0, none⟩ = some (.int .u64 kx) := cell_later bb (PB.out.cell 0)
          have p1 : w2.cell? ⟨KP, 1, none⟩ = some (.int .i64 (q : Int)) := cell_later bb (PB.out.cell 1)
          have BZ : Hid (Below wr.heap.size wr w2) := hid (Bl.call (by rw [HW1.out]; exact bel_new _ _) bb)
          replace D_d := hid (D_d.out.below bb D_d.out.lt)
          replace I_d := hid (I_d.out.call bb)
          replace HB := hid (Bl.call HB.out bb)
          clear bb q0 q1 q2 z2
          have r1 : ¬ (q : Int) < 0 := by omega
          have r2 : ¬ (j : Int) ≤ (q : Int) := by omega
          have r2n : decide (j ≤ q) = false := decide_eq_false (by omega)
          have r3 : (0 : Int) ≤ (q : Int) := by omega
          have r4 : (q : Int) < (j : Int) := by omega
          have r5 : ((i : Int) != (i : Int)) = false := by simp
          have r6 : ((q : Int) != (q : Int)) = false := by simp
          have r7 : (kx != kx) = false := by simp
          have c_d : w2.cell? ⟨Kd, 0, none⟩ = some (.pointer pt) := D_d.out.cell 0
          have f_d : w2.frozen? ⟨Kd, 0, none⟩ = false := D_d.out.frozen 0
          go_wp2_with fail
          go_region_held3 (fun w' => w'.cell? ⟨Kd, 0, none⟩ = some (.pointer pt) ∧ w'.cell? ⟨KP, 0, none⟩ = some (.int .u64 kx) ∧ w'.cell? ⟨KP, 1, none⟩ = some (.int .i64 (q : Int)) ∧ w'.cell? ⟨b5, o5 + q, none⟩ = some (.int .u64 kx))
            (first | go_keep | (go_split_ands; and_intros <;> (first | (refine cell_later (by assumption) ?_; first | assumption | (rw [Qt.cell (qt_of _ _)]; assumption) | (rw [Qt.cell (qt_drew _)]; assumption)) | (refine cell_later (bel_new _ _) ?_; assumption) | (rw [Qt.cell (by assumption)]; first | assumption | (rw [Qt.cell (qt_of _ _)]; assumption) | (rw [Qt.cell (qt_drew _)]; assumption)))))
            (first | (go_at_call 19; (with_reducible refine (from_is (l := L) (k := kx) (z := (i : Int)) (by repeat (first | exact I_d.out | refine IsD.new ?_ _ | refine IsD.cqt ?_ (qt_drew _) | refine IsD.cqt ?_ (qt_of _ _) | refine IsD.call ?_ (by assumption) | refine IsD.cqt ?_ (by assumption))) LL.out LS.out).mono ?_); rintro e x3 ⟨rfl, b3⟩))
          have WB : Hid (Below w2.heap.size w2 x3) := hid (by repeat (first | exact Below.refl _ _ | exact Qt.bel (qt_drew _) | exact Qt.bel (qt_of _ _) | refine Bl.call ?_ b3 | refine Bl.qt ?_ (qt_drew _) | refine Bl.qt ?_ (qt_of _ _)))
          replace D_d := hid (D_d.out.below WB.out D_d.out.lt)
          replace I_d := hid (I_d.out.call WB.out)
          replace HB := hid (Bl.call HB.out WB.out)
          have HY3 := hid (Bl.call (Bl.call HY2.out BZ.out) WB.out)
          clear WB b3 c_d f_d p0 p1 z3 r1 r2 r2n r3 r4 r5 r6 r7
          go_wp2_with fail
          go_roundw
          case rel => exact ⟨i + 1, by go_num, by omega, D_d, I_d, HB, HY3⟩
          case measure => simp [intOf]; omega
        · have hi0 : ¬ (i : Int) < (nl : Int) := by omega
          go_wp2_with fail
          refine (dAwake_any _).mono ?_; rintro e wz ⟨rfl, bz⟩
          go_wp2
          go_ret
          exact ⟨rfl, Bl.call HB.out bz⟩
end Go.Proofs.Ytkkhghipbnpiaaa
