/- Contract of the document's Save. -/
import Derived.Test.YtbafbnkmmpaomaaSnY
namespace Go.Proofs.Ytbafbnkmmpaomaa
open Go.RowKit
set_option linter.unusedVariables false
set_option linter.unusedSimpArgs false
attribute [local go_sem ↓] Go.wp_at_zero Go.wp_at_succ
def RSavePost (w : World) (l : Sn.By) (e : Ending) (w' : World) : Prop := e = .returned (.string (str l)) ∧ Below w.heap.size w w'
/-- bytes, at whatever number's spelling. -/
theorem rbytes_n {w : World} (n k : Nat) (hn : n < 18446744073709551616) (hk : k ≤ 8) (x y : Int) (hx : x = (n : Int)) (hy : y = (k : Int)) (t : ByteArray) (ht : t = str (Sn.enc n k)) :
    Calls Try.prog 35 #[.int .u64 x, .int .i64 y] w fun e w' => e = .returned (.string t) ∧ Below w.heap.size w w' := by subst hx hy ht; exact rbytes_any hn hk
theorem big_no {a b : ByteArray} {m : Nat} (h : a.size + b.size ≤ m) (hm : m ≤ 9223372036854775807) : ¬ 9223372036854775807 < a.size + b.size := by omega
theorem mx {a m : Nat} (h : a + m ≤ 9223372036854775807) : ¬ 9223372036854775807 < a + m := by omega
theorem app_size (a b : ByteArray) : (a ++ b).size = a.size + b.size := ByteArray.size_append
set_option maxRecDepth 100000 in
set_option maxHeartbeats 32000000 in
theorem rsave_any {s : Sn.St} {vh ve vs : Value} {nh ne ns : Nat} {w : World} (h1 : Sl w w.heap.size 2 vh nh (hcz s.hs)) (h2 : Sl w w.heap.size 3 ve ne (eds s.es)) (h3 : Sl w w.heap.size 2 vs ns (sls s.ss)) (hn : ne ≤ 100000) (hok : Sn.Ok s) :
    Calls Try.prog 19 #[stV s.N s.L s.R vh ve vs] w (RSavePost w (Sn.save s)) := by
  obtain ⟨N, L, R, hs, es, ss⟩ := s
  have n0 : 0 ≤ N := hok.n0
  have l0 : 0 ≤ L := hok.l0
  have r0 : 0 ≤ R := hok.r0
  obtain ⟨N, rfl⟩ := Int.eq_ofNat_of_zero_le n0
  obtain ⟨L, rfl⟩ := Int.eq_ofNat_of_zero_le l0
  obtain ⟨R, rfl⟩ := Int.eq_ofNat_of_zero_le r0
  have hbH : ∀ i, (h : i < hs.length) → (0 ≤ hs[i].1 ∧ hs[i].1 < 18446744073709551616) ∧ 0 ≤ hs[i].2 ∧ hs[i].2 < 18446744073709551616 := hok.hb
  have hbS : ∀ i, (h : i < ss.length) → 0 ≤ ss[i].2 ∧ ss[i].2 < 18446744073709551616 := hok.sb
  have hbE : ∀ i, (h : i < es.length) → (0 ≤ es[i].1 ∧ es[i].1 < 65536) ∧ (0 ≤ es[i].2.1 ∧ es[i].2.1 < 65536) ∧ 0 ≤ es[i].2.2 ∧ es[i].2.2 < 256 := hok.eb
  have hsl : (ss.length : Int) = (N : Int) := hok.sl
  have hhl : (hs.length : Int) = (L : Int) * (R : Int) := hok.hl
  have n1 : (N : Int) ≤ 1024 := hok.n1
  have l1 : (L : Int) ≤ 16 := hok.l1
  have r1 : (R : Int) ≤ 8 := hok.r1
  obtain ⟨s0, hs0⟩ : ∃ s0 : Sn.St, s0 = { N := (N : Int), L := (L : Int), R := (R : Int), hs := hs, es := es, ss := ss } := ⟨_, rfl⟩
  rw [← hs0] at hok ⊢
  skip
  dsimp only at h1 h2 h3
  have HOK := hid hok
  have HS0 := hid hs0
  have e1 : s0.N = (N : Int) := by rw [hs0]
  have e2 : s0.L = (L : Int) := by rw [hs0]
  have e3 : s0.R = (R : Int) := by rw [hs0]
  have e4 : s0.hs = hs := by rw [hs0]
  have e5 : s0.es = es := by rw [hs0]
  have e6 : s0.ss = ss := by rw [hs0]
  rw [e1, e2, e3]
  have hl1 : hs.length = nh := by have := h1.len; rw [len_hcz] at this; omega
  have hl2 : es.length = ne := by have := h2.len; rw [len_eds] at this; omega
  have hl3 : ss.length = ns := by have := h3.len; rw [len_sls] at this; omega
  have hns : (ns : Int) = (N : Int) := by rw [← hl3]; exact hsl
  have hnh : nh ≤ 128 := by
    have e7 : (nh : Int) = (L : Int) * (R : Int) := by rw [← hl1]; exact hhl
    have e8 : (L : Int) * (R : Int) ≤ 16 * 8 := Int.mul_le_mul l1 r1 (by omega) (by omega)
    omega
  have HM : Hid (nh ≤ 128 ∧ ns ≤ 1024 ∧ ne ≤ 100000) := hid ⟨hnh, by omega, hn⟩
  have HBH := hid hbH
  have HBS := hid hbS
  have HBE := hid hbE
  clear hbH hbS hbE hok hsl hhl
  have S1 := hid h1
  have S2 := hid h2
  have S3 := hid h3
  obtain ⟨A1, c1, rfl, -, -, -, hx1⟩ := h1
  obtain ⟨A2, c2, rfl, -, -, -, hx2⟩ := h2
  obtain ⟨A3, c3, rfl, -, -, -, hx3⟩ := h3
  have HX1 := hid hx1
  have HX2 := hid hx2
  have HX3 := hid hx3
  have HL1 := hid hl1
  have HL2 := hid hl2
  have HL3 := hid hl3
  have HE : Hid (s0.hs = hs ∧ s0.es = es ∧ s0.ss = ss) := hid ⟨e4, e5, e6⟩
  have n1' : N ≤ 1024 := by omega
  have l1' : L ≤ 16 := by omega
  have r1' : R ≤ 8 := by omega
  clear hx1 hx2 hx3 hl1 hl2 hl3 hns hnh hs0 e1 e2 e3 e4 e5 e6 n1 l1 r1 n0 l0 r0
  unfold stV
  obtain ⟨w1, hw1⟩ : ∃ W, W = w.alloc (.cells #[.int .i64 (N : Int), .int .i64 (L : Int), .int .i64 (R : Int), .slice A1 nh c1, .slice A2 ne c2, .slice A3 ns c3] 39) := ⟨_, rfl⟩
  obtain ⟨K, hK⟩ : ∃ K, K = w.heap.size := ⟨_, rfl⟩
  obtain ⟨w2, hw2⟩ : ∃ W, W = w1.alloc (.cells #[.int .i64 (N : Int), .int .i64 (L : Int), .int .i64 (R : Int)] 23) := ⟨_, rfl⟩
  obtain ⟨Kc, hKc⟩ : ∃ K, K = w.heap.size + 1 := ⟨_, rfl⟩
  have D : Hid (Blk w2 K 39 [.int .i64 (N : Int), .int .i64 (L : Int), .int .i64 (R : Int), .slice A1 nh c1, .slice A2 ne c2, .slice A3 ns c3]) := hid (by rw [hw2, hw1, hK]; exact (Blk.new _ _ _).alloc _)
  have Dc : Hid (Blk w2 Kc 23 [.int .i64 (N : Int), .int .i64 (L : Int), .int .i64 (R : Int)]) := hid (by
    have e : w1.heap.size = w.heap.size + 1 := by rw [hw1]; simp
    rw [hw2, hKc, ← e]
    exact Blk.new _ _ _)
  have HB : Hid (Below w.heap.size w w2) := hid (by rw [hw2, hw1]; exact Bl.new (bel_new _ _) _)
  have HB0 := HB
  have HW1 := hid hw1
  have HW2 := hid hw2
  have HK := hid hK
  have HKc := hid hKc
  clear hw1 hw2 hK hKc
  obtain ⟨t1, ht1⟩ : ∃ t, t = str (Sn.enc N 2) := ⟨_, rfl⟩
  obtain ⟨t2, ht2⟩ : ∃ t, t = str (Sn.enc L 2) := ⟨_, rfl⟩
  obtain ⟨t3, ht3⟩ : ∃ t, t = str (Sn.enc R 2) := ⟨_, rfl⟩
  have z1 : t1.size = 2 := by rw [ht1, str_size, Sn.enc_len]
  have z2 : t2.size = 2 := by rw [ht2, str_size, Sn.enc_len]
  have z3 : t3.size = 2 := by rw [ht3, str_size, Sn.enc_len]
  have B1 : Hid (∀ w' : World, Calls Try.prog 35 #[.int .u64 (N : Int), .int .i64 2] w' fun e w'' => e = .returned (.string t1) ∧ Below w'.heap.size w' w'') := hid (fun w' => rbytes_n N 2 (by omega) (by decide) _ _ rfl rfl t1 ht1)
  have B2 : Hid (∀ w' : World, Calls Try.prog 35 #[.int .u64 (L : Int), .int .i64 2] w' fun e w'' => e = .returned (.string t2) ∧ Below w'.heap.size w' w'') := hid (fun w' => rbytes_n L 2 (by omega) (by decide) _ _ rfl rfl t2 ht2)
  have B3 : Hid (∀ w' : World, Calls Try.prog 35 #[.int .u64 (R : Int), .int .i64 2] w' fun e w'' => e = .returned (.string t3) ∧ Below w'.heap.size w' w'') := hid (fun w' => rbytes_n R 2 (by omega) (by decide) _ _ rfl rfl t3 ht3)
  obtain ⟨mk, hmk⟩ : ∃ mk : ByteArray, mk = { data := #[82, 65, 70, 84] } := ⟨_, rfl⟩
  have zm : mk.size = 4 := by rw [hmk]; rfl
  have g1 : ¬ 9223372036854775807 < mk.size + t1.size := by omega
  have g2 : ¬ 9223372036854775807 < (mk ++ t1).size + t2.size := by rw [app_size]; omega
  have g3 : ¬ 9223372036854775807 < (mk ++ t1 ++ t2).size + t3.size := by rw [app_size, app_size]; omega
  have HT : Hid (mk ++ t1 ++ t2 ++ t3 = str (Sn.head s0)) := hid (by
    have e : mk = str Sn.mark := hmk
    rw [e, ht1, ht2, ht3, HS0.out, str_app, str_app, str_app]
    simp only [Sn.head, Sn.encI, List.append_assoc, Int.toNat_natCast])
  have wn : IntKind.u64.wrap (N : Int) = (N : Int) := by rw [IntKind.wrap_u64]; omega
  have wl : IntKind.u64.wrap (L : Int) = (L : Int) := by rw [IntKind.wrap_u64]; omega
  have wr_ : IntKind.u64.wrap (R : Int) = (R : Int) := by rw [IntKind.wrap_u64]; omega
  clear ht1 ht2 ht3
  have x0 := Dc.out.cell 0
  have x1 := Dc.out.cell 1
  have x2 := Dc.out.cell 2
  skip
  have HB7 := hid (Below.refl w2.heap.size w2)
  subst hmk
  go_enter Try.func19, Try.ntmps19
  go_wp2_with fail
  rw [← HW1.out, ← HW2.out, ← HKc.out, ← HK.out]
  go_region_held3 (fun w' => w'.cell? ⟨Kc, 0, none⟩ = some (.int .i64 (N : Int)) ∧ w'.cell? ⟨Kc, 1, none⟩ = some (.int .i64 (L : Int)) ∧ w'.cell? ⟨Kc, 2, none⟩ = some (.int .i64 (R : Int)))
    (first | go_keep | (go_split_ands; and_intros <;> (first | (refine cell_later (by assumption) ?_; first | assumption | (rw [Qt.cell (qt_of _ _)]; assumption) | (rw [Qt.cell (qt_drew _)]; assumption)) | (refine cell_later (bel_new _ _) ?_; assumption) | (rw [Qt.cell (by assumption)]; first | assumption | (rw [Qt.cell (qt_of _ _)]; assumption) | (rw [Qt.cell (qt_drew _)]; assumption)))))
    (first | (go_at_call 35; (with_reducible refine (B1.out _).mono ?_); rintro e w3 ⟨rfl, b3⟩) | (go_at_call 35; (with_reducible refine (B2.out _).mono ?_); rintro e w4 ⟨rfl, b4⟩) | (go_at_call 35; (with_reducible refine (B3.out _).mono ?_); rintro e w5 ⟨rfl, b5⟩))
  have BB : Below w2.heap.size w2 w5 := (by repeat (first | exact HB7.out | refine Bl.new ?_ _ | refine Bl.call ?_ (by assumption) | refine Bl.qt ?_ (by assumption) | refine Bl.qt ?_ (qt_drew _) | refine Bl.qt ?_ (qt_of _ _)))
  replace D := hid (D.out.below BB D.out.lt)
  replace HB := hid (HB.out.trans (BB.mono HB.out.size))
  have HXL : Hid (w.heap.size ≤ w5.heap.size) := hid HB.out.size
  clear BB x0 x1 x2 g1 g2 g3 wn wl wr_
  obtain ⟨tt, htt⟩ : ∃ tt : ByteArray, tt = { data := #[82, 65, 70, 84] } ++ t1 ++ t2 ++ t3 := ⟨_, rfl⟩
  rw [← htt] at HT
  rw [← htt]
  have HTT := HT
  clear htt HT z1 z2 z3
  go_wp2_with fail
  go_loopw [4, 5] (fun bv iv wr => ∃ (i : Nat) (t : ByteArray), iv = .int .i64 (i : Int) ∧ i ≤ nh ∧ bv = .string t ∧ Hid (t = str (Sn.head s0 ++ (hs.take i).flatMap Sn.hB)) ∧ Hid (Below w5.heap.size w5 wr)) (fun _ iv _ => nh - (intOf iv).toNat)
  case atStart => exact ⟨0, _, rfl, Nat.zero_le _, rfl, hid (by rw [HTT.out]; simp), hid (Below.refl _ _)⟩
  case round =>
    obtain ⟨i, t, rfl, hi, rfl, HT, HBr⟩ := hrel
    obtain ⟨wa, rfl⟩ : ∃ x, x = wr := ⟨wr, rfl⟩
    by_cases hlt : i < nh
    case pos =>
      have j0 : (i : Int) < (nh : Int) := by omega
      have ib : i ≤ 100000 := by have := HM.out; omega
      have hil : i < hs.length := by rw [HL1.out]; exact hlt
      obtain ⟨b6, o6, rfl, hb6, hc6⟩ := HX1.out (by omega)
      obtain ⟨p0, p1⟩ := hcz_cell hc6 hil
      have hb7 : b6 < w5.heap.size := Nat.lt_of_lt_of_le hb6 HXL.out
      have q0 := (HBr.out.cell (p := ⟨b6, o6 + i * 2, none⟩) hb7).trans ((HB.out.cell (p := ⟨b6, o6 + i * 2, none⟩) hb6).trans p0)
      have q1 := (HBr.out.cell (p := ⟨b6, o6 + i * 2 + 1, none⟩) hb7).trans ((HB.out.cell (p := ⟨b6, o6 + i * 2 + 1, none⟩) hb6).trans p1)
      have hbd := HBH.out i hil
      have HFL := hid (flat_take Sn.hB hs hil)
      obtain ⟨e, he⟩ : ∃ e, e = hs[i] := ⟨_, rfl⟩
      rw [← he] at q0 q1 HFL hbd
      obtain ⟨x, y⟩ := e
      dsimp only at q0 q1 hbd
      obtain ⟨⟨d0, d1⟩, d2, d3⟩ := hbd
      obtain ⟨x, rfl⟩ := Int.eq_ofNat_of_zero_le d0
      obtain ⟨y, rfl⟩ := Int.eq_ofNat_of_zero_le d2
      clear he p0 p1 hc6 hil d0 d2
      obtain ⟨tx, htx⟩ : ∃ t, t = str (Sn.enc x 8) := ⟨_, rfl⟩
      have ztx : tx.size = 8 := by rw [htx, str_size, Sn.enc_len]
      have BX : Hid (∀ w' : World, Calls Try.prog 35 #[.int .u64 (x : Int), .int .i64 8] w' fun e w'' => e = .returned (.string tx) ∧ Below w'.heap.size w' w'') := hid (fun w' => rbytes_n x 8 (by omega) (by decide) _ _ rfl rfl tx htx)
      have Qtx := hid htx
      clear htx
      obtain ⟨ty, hty⟩ : ∃ t, t = str (Sn.enc y 8) := ⟨_, rfl⟩
      have zty : ty.size = 8 := by rw [hty, str_size, Sn.enc_len]
      have BY : Hid (∀ w' : World, Calls Try.prog 35 #[.int .u64 (y : Int), .int .i64 8] w' fun e w'' => e = .returned (.string ty) ∧ Below w'.heap.size w' w'') := hid (fun w' => rbytes_n y 8 (by omega) (by decide) _ _ rfl rfl ty hty)
      have Qty := hid hty
      clear hty
      have hsz : t.size ≤ 1000000 := by rw [HT.out, str_size, List.length_append, Sn.head_len, Sn.flat_len Sn.hB 16 Sn.hB_len, List.length_take]; have := HM.out; omega
      have g1 : ¬ 9223372036854775807 < t.size + 8 := by omega
      have g2 : ¬ 9223372036854775807 < t.size + 8 + 8 := by omega
      have D1 := hid (D.out.below HBr.out D.out.lt)
      have x3 := D1.out.cell 3
      have HB9 := HBr
      go_wp2_with fail
      go_region_held3 (fun w' => w'.cell? ⟨K, 3, none⟩ = some (.slice (some ⟨b6, o6, none⟩) nh c1) ∧ w'.cell? ⟨b6, o6 + i * 2, none⟩ = some (.int .u64 (x : Int)) ∧ w'.cell? ⟨b6, o6 + i * 2 + 1, none⟩ = some (.int .u64 (y : Int)))
        (first | go_keep | (go_split_ands; and_intros <;> (first | (refine cell_later (by assumption) ?_; first | assumption | (rw [Qt.cell (qt_of _ _)]; assumption) | (rw [Qt.cell (qt_drew _)]; assumption)) | (refine cell_later (bel_new _ _) ?_; assumption) | (rw [Qt.cell (by assumption)]; first | assumption | (rw [Qt.cell (qt_of _ _)]; assumption) | (rw [Qt.cell (qt_drew _)]; assumption)))))
        (first | (go_at_call 35; (with_reducible refine (BX.out _).mono ?_); rintro e w13 ⟨rfl, b13⟩) | (go_at_call 35; (with_reducible refine (BY.out _).mono ?_); rintro e w14 ⟨rfl, b14⟩))
      all_goals
        have BN : Hid (Below w5.heap.size w5 w14) := hid (by repeat (first | exact HB9.out | refine Bl.new ?_ _ | refine Bl.call ?_ (by assumption) | refine Bl.qt ?_ (by assumption) | refine Bl.qt ?_ (qt_drew _) | refine Bl.qt ?_ (qt_of _ _)))
        clear x3 q0 q1
        go_wp2_with fail
        go_roundw
        case rel => exact ⟨i + 1, _, by go_num, by omega, rfl, hid (by rw [HT.out, Qtx.out, Qty.out, str_app, str_app, HFL.out, List.append_assoc, List.append_assoc]; simp [Sn.hB, encI_nat]), BN⟩
        case measure => simp [intOf]; omega
    case neg =>
      obtain rfl : nh = i := by omega
      have j0 : ¬ (nh : Int) < (nh : Int) := by omega
      replace HT : Hid (t = str (Sn.head s0 ++ hs.flatMap Sn.hB)) := hid (by rw [HT.out, List.take_of_length_le (by rw [HL1.out]; exact Nat.le_refl _)])
      have HBw := hid (HB.out.trans (HBr.out.mono HB.out.size))
      have Dw := hid (D.out.below HBr.out D.out.lt)
      have x3 := Dw.out.cell 3
      go_wp2_with fail
      go_loopw [4, 6] (fun bv iv wr => ∃ (q : Nat) (t : ByteArray), iv = .int .i64 (q : Int) ∧ q ≤ ns ∧ bv = .string t ∧ Hid (t = str (Sn.head s0 ++ (hs.flatMap Sn.hB ++ (ss.take q).flatMap Sn.sB))) ∧ Hid (Below wa.heap.size wa wr)) (fun _ iv _ => ns - (intOf iv).toNat)
      case atStart => exact ⟨0, _, rfl, Nat.zero_le _, rfl, hid (by rw [HT.out]; simp), hid (Below.refl _ _)⟩
      case round =>
        clear HT x3 j0 HBr
        obtain ⟨q, t, rfl, hq, rfl, HT, HBr⟩ := hrel
        obtain ⟨wb, rfl⟩ : ∃ x, x = wr := ⟨wr, rfl⟩
        by_cases hlt : q < ns
        case pos =>
          have j0 : (q : Int) < (ns : Int) := by omega
          have ib : q ≤ 100000 := by have := HM.out; omega
          have hil : q < ss.length := by rw [HL3.out]; exact hlt
          obtain ⟨b6, o6, rfl, hb6, hc6⟩ := HX3.out (by omega)
          obtain ⟨p0, p1⟩ := sls_cell hc6 hil
          have hb7 : b6 < wa.heap.size := Nat.lt_of_lt_of_le hb6 HBw.out.size
          have q0 := (HBr.out.cell (p := ⟨b6, o6 + q * 2, none⟩) hb7).trans ((HBw.out.cell (p := ⟨b6, o6 + q * 2, none⟩) hb6).trans p0)
          have q1 := hid ((HBr.out.cell (p := ⟨b6, o6 + q * 2 + 1, none⟩) hb7).trans ((HBw.out.cell (p := ⟨b6, o6 + q * 2 + 1, none⟩) hb6).trans p1))
          have HLB := hid (Nat.lt_of_lt_of_le hb7 HBr.out.size)
          have hbd := HBS.out q hil
          have HFL := hid (flat_take Sn.sB ss hil)
          obtain ⟨e, he⟩ : ∃ e, e = ss[q] := ⟨_, rfl⟩
          rw [← he] at q0 q1 HFL hbd
          obtain ⟨u, y⟩ := e
          dsimp only at q0 q1 hbd
          obtain ⟨d2, d3⟩ := hbd
          obtain ⟨y, rfl⟩ := Int.eq_ofNat_of_zero_le d2
          clear he p0 p1 hc6 hil d2
          obtain ⟨ty, hty⟩ : ∃ t, t = str (Sn.enc y 8) := ⟨_, rfl⟩
          have zty : ty.size = 8 := by rw [hty, str_size, Sn.enc_len]
          have BY : Hid (∀ w' : World, Calls Try.prog 35 #[.int .u64 (y : Int), .int .i64 8] w' fun e w'' => e = .returned (.string ty) ∧ Below w'.heap.size w' w'') := hid (fun w' => rbytes_n y 8 (by omega) (by decide) _ _ rfl rfl ty hty)
          have Qty := hid hty
          clear hty
          have hsz : t.size ≤ 1000000 := by rw [HT.out, str_size, List.length_append, List.length_append, Sn.head_len, Sn.flat_len Sn.hB 16 Sn.hB_len, Sn.flat_len Sn.sB 9 Sn.sB_len, List.length_take]; have := HM.out; have := HL1.out; omega
          have g1 : ¬ 9223372036854775807 < t.size + 1 := by omega
          have g2 : ¬ 9223372036854775807 < t.size + 1 + 8 := by omega
          have D1 := hid (Dw.out.below HBr.out Dw.out.lt)
          have x5 := D1.out.cell 5
          cases u with
          | true =>
            obtain ⟨tx, htx⟩ : ∃ t, t = str (Sn.enc 1 1) := ⟨_, rfl⟩
            have ztx : tx.size = 1 := by rw [htx, str_size, Sn.enc_len]
            have BX : Hid (∀ w' : World, Calls Try.prog 35 #[.int .u64 1, .int .i64 1] w' fun e w'' => e = .returned (.string tx) ∧ Below w'.heap.size w' w'') := hid (fun w' => rbytes_n 1 1 (by decide) (by decide) _ _ rfl rfl tx htx)
            have Qtx := hid htx
            clear htx
            go_wp2_with fail
            refine (BX.out _).mono ?_; rintro e w13 ⟨rfl, b13⟩
            have x6 := (D1.out.below b13 D1.out.lt).cell 5
            have q2 := (b13.cell (p := ⟨b6, o6 + q * 2 + 1, none⟩) HLB.out).trans q1.out
            have HB13 := hid (Bl.call HBr.out b13)
            clear b13 x5 q0
            go_wp2_with fail
            refine (BY.out _).mono ?_; rintro e w14 ⟨rfl, b14⟩
            have HB14 := hid (Bl.call HB13.out b14)
            clear b14 x6 q2
            go_wp2_with fail
            go_roundw
            case rel => exact ⟨q + 1, _, by go_num, by omega, rfl, hid (by rw [HT.out, Qtx.out, Qty.out, str_app, str_app, HFL.out]; simp [Sn.sB, encI_nat]), HB14⟩
            case measure => simp [intOf]; omega
          | false =>
            obtain ⟨tx, htx⟩ : ∃ t, t = str (Sn.enc 0 1) := ⟨_, rfl⟩
            have ztx : tx.size = 1 := by rw [htx, str_size, Sn.enc_len]
            have BX : Hid (∀ w' : World, Calls Try.prog 35 #[.int .u64 0, .int .i64 1] w' fun e w'' => e = .returned (.string tx) ∧ Below w'.heap.size w' w'') := hid (fun w' => rbytes_n 0 1 (by decide) (by decide) _ _ rfl rfl tx htx)
            have Qtx := hid htx
            clear htx
            go_wp2_with fail
            refine (BX.out _).mono ?_; rintro e w13 ⟨rfl, b13⟩
            have x6 := (D1.out.below b13 D1.out.lt).cell 5
            have q2 := (b13.cell (p := ⟨b6, o6 + q * 2 + 1, none⟩) HLB.out).trans q1.out
            have HB13 := hid (Bl.call HBr.out b13)
            clear b13 x5 q0
            go_wp2_with fail
            refine (BY.out _).mono ?_; rintro e w14 ⟨rfl, b14⟩
            have HB14 := hid (Bl.call HB13.out b14)
            clear b14 x6 q2
            go_wp2_with fail
            go_roundw
            case rel => exact ⟨q + 1, _, by go_num, by omega, rfl, hid (by rw [HT.out, Qtx.out, Qty.out, str_app, str_app, HFL.out]; simp [Sn.sB, encI_nat]), HB14⟩
            case measure => simp [intOf]; omega
        case neg =>
          obtain rfl : ns = q := by omega
          have j0 : ¬ (ns : Int) < (ns : Int) := by omega
          replace HT : Hid (t = str (Sn.head s0 ++ (hs.flatMap Sn.hB ++ ss.flatMap Sn.sB))) := hid (by rw [HT.out, List.take_of_length_le (by rw [HL3.out]; exact Nat.le_refl _)])
          have HBx := hid (HBw.out.trans (HBr.out.mono HBw.out.size))
          have Dx := hid (Dw.out.below HBr.out Dw.out.lt)
          have x5 := Dx.out.cell 5
          have x4 := Dx.out.cell 4
          have wne : IntKind.u64.wrap (ne : Int) = (ne : Int) := by rw [IntKind.wrap_u64]; omega
          have neb : ne ≤ 100000 := hn
          obtain ⟨tn, htn⟩ : ∃ t, t = str (Sn.enc ne 4) := ⟨_, rfl⟩
          have ztn : tn.size = 4 := by rw [htn, str_size, Sn.enc_len]
          have BN : Hid (∀ w' : World, Calls Try.prog 35 #[.int .u64 (ne : Int), .int .i64 4] w' fun e w'' => e = .returned (.string tn) ∧ Below w'.heap.size w' w'') := hid (fun w' => rbytes_n ne 4 (by omega) (by decide) _ _ rfl rfl tn htn)
          have Qtn := hid htn
          clear htn
          have hsz : t.size ≤ 1000000 := by rw [HT.out, str_size, List.length_append, List.length_append, Sn.head_len, Sn.flat_len Sn.hB 16 Sn.hB_len, Sn.flat_len Sn.sB 9 Sn.sB_len]; have := HM.out; have := HL1.out; have := HL3.out; omega
          have g1 : ¬ 9223372036854775807 < t.size + 4 := by omega
          go_wp2_with fail
          refine (BN.out _).mono ?_; rintro e w20 ⟨rfl, b20⟩
          have HB20 := hid (Bl.call HBx.out b20)
          have D20 := hid (Dx.out.below b20 Dx.out.lt)
          clear b20 x5 x4 wne
          have x4 := D20.out.cell 4
          obtain ⟨tb, htb⟩ : ∃ tb, tb = t ++ tn := ⟨_, rfl⟩
          have HTB : Hid (tb = str (Sn.head s0 ++ (hs.flatMap Sn.hB ++ (ss.flatMap Sn.sB ++ Sn.enc es.length 4)))) := hid (by rw [htb, HT.out, Qtn.out, str_app, HL2.out]; simp only [List.append_assoc])
          go_wp2_with fail
          rw [← htb]
          clear htb g1 ztn hsz
          go_loopw [4, 7, 8] (fun bv iv ev wr => ∃ (k : Nat) (t : ByteArray), iv = .int .i64 (k : Int) ∧ k ≤ ne ∧ bv = .string t ∧ Hid (t = str (Sn.head s0 ++ (hs.flatMap Sn.hB ++ (ss.flatMap Sn.sB ++ (Sn.enc es.length 4 ++ (es.take k).flatMap Sn.eB))))) ∧ Hid (Below w20.heap.size w20 wr)) (fun _ iv _ _ => ne - (intOf iv).toNat)
          case atStart => exact ⟨0, _, rfl, Nat.zero_le _, rfl, hid (by rw [HTB.out]; simp), hid (Below.refl _ _)⟩
          case round =>
            clear x4 j0 HT HBr
            obtain ⟨k, t, rfl, hk, rfl, HT, HBr⟩ := hrel
            obtain ⟨wc, rfl⟩ : ∃ x, x = wr := ⟨wr, rfl⟩
            by_cases hlt : k < ne
            case pos =>
              have j0 : (k : Int) < (ne : Int) := by omega
              have ib : k ≤ 100000 := by have := HM.out; omega
              have hil : k < es.length := by rw [HL2.out]; exact hlt
              obtain ⟨b6, o6, rfl, hb6, hc6⟩ := HX2.out (by omega)
              obtain ⟨p0, p1, p2⟩ := eds_cell hc6 hil
              have hb7 : b6 < w20.heap.size := Nat.lt_of_lt_of_le hb6 HB20.out.size
              have q0 := (HBr.out.cell (p := ⟨b6, o6 + k * 3, none⟩) hb7).trans ((HB20.out.cell (p := ⟨b6, o6 + k * 3, none⟩) hb6).trans p0)
              have q1 := (HBr.out.cell (p := ⟨b6, o6 + k * 3 + 1, none⟩) hb7).trans ((HB20.out.cell (p := ⟨b6, o6 + k * 3 + 1, none⟩) hb6).trans p1)
              have q2 := (HBr.out.cell (p := ⟨b6, o6 + k * 3 + 2, none⟩) hb7).trans ((HB20.out.cell (p := ⟨b6, o6 + k * 3 + 2, none⟩) hb6).trans p2)
              have hbd := HBE.out k hil
              have HFL := hid (flat_take Sn.eB es hil)
              obtain ⟨e, he⟩ : ∃ e, e = es[k] := ⟨_, rfl⟩
              rw [← he] at q0 q1 q2 HFL hbd
              obtain ⟨x, y, z⟩ := e
              dsimp only at q0 q1 q2 hbd
              obtain ⟨⟨d0, d1⟩, ⟨d2, d3⟩, d4, d5⟩ := hbd
              obtain ⟨x, rfl⟩ := Int.eq_ofNat_of_zero_le d0
              obtain ⟨y, rfl⟩ := Int.eq_ofNat_of_zero_le d2
              obtain ⟨z, rfl⟩ := Int.eq_ofNat_of_zero_le d4
              clear he p0 p1 p2 hc6 hil d0 d2 d4
              obtain ⟨tx, htx⟩ : ∃ t, t = str (Sn.enc x 2) := ⟨_, rfl⟩
              have ztx : tx.size = 2 := by rw [htx, str_size, Sn.enc_len]
              have BX : Hid (∀ w' : World, Calls Try.prog 35 #[.int .u64 (x : Int), .int .i64 2] w' fun e w'' => e = .returned (.string tx) ∧ Below w'.heap.size w' w'') := hid (fun w' => rbytes_n x 2 (by omega) (by decide) _ _ rfl rfl tx htx)
              have Qtx := hid htx
              clear htx
              obtain ⟨ty, hty⟩ : ∃ t, t = str (Sn.enc y 2) := ⟨_, rfl⟩
              have zty : ty.size = 2 := by rw [hty, str_size, Sn.enc_len]
              have BY : Hid (∀ w' : World, Calls Try.prog 35 #[.int .u64 (y : Int), .int .i64 2] w' fun e w'' => e = .returned (.string ty) ∧ Below w'.heap.size w' w'') := hid (fun w' => rbytes_n y 2 (by omega) (by decide) _ _ rfl rfl ty hty)
              have Qty := hid hty
              clear hty
              obtain ⟨tz, htz⟩ : ∃ t, t = str (Sn.enc z 1) := ⟨_, rfl⟩
              have ztz : tz.size = 1 := by rw [htz, str_size, Sn.enc_len]
              have BZ : Hid (∀ w' : World, Calls Try.prog 35 #[.int .u64 (z : Int), .int .i64 1] w' fun e w'' => e = .returned (.string tz) ∧ Below w'.heap.size w' w'') := hid (fun w' => rbytes_n z 1 (by omega) (by decide) _ _ rfl rfl tz htz)
              have Qtz := hid htz
              clear htz
              have hsz : t.size ≤ 1000000 := by rw [HT.out, str_size, List.length_append, List.length_append, List.length_append, List.length_append, Sn.head_len, Sn.flat_len Sn.hB 16 Sn.hB_len, Sn.flat_len Sn.sB 9 Sn.sB_len, Sn.flat_len Sn.eB 5 Sn.eB_len, Sn.enc_len, List.length_take]; have := HM.out; have := HL1.out; have := HL3.out; omega
              have g1 : ¬ 9223372036854775807 < t.size + 2 := by omega
              have g2 : ¬ 9223372036854775807 < t.size + 2 + 2 := by omega
              have g3 : ¬ 9223372036854775807 < t.size + 2 + 2 + 1 := by omega
              have wx : IntKind.u64.wrap (x : Int) = (x : Int) := by rw [IntKind.wrap_u64]; omega
              have wy : IntKind.u64.wrap (y : Int) = (y : Int) := by rw [IntKind.wrap_u64]; omega
              have wz : IntKind.u64.wrap (z : Int) = (z : Int) := by rw [IntKind.wrap_u64]; omega
              have D1 := hid (D20.out.below HBr.out D20.out.lt)
              have x4 := D1.out.cell 4
              go_upto_region 19 with fail
              obtain ⟨wd, hwd⟩ : ∃ W, W = wc.alloc (.cells #[.int .i64 (x : Int), .int .i64 (y : Int), .int .i64 (z : Int)] 61) := ⟨_, rfl⟩
              obtain ⟨KE, hKE⟩ : ∃ K, K = wc.heap.size := ⟨_, rfl⟩
              have DE : Hid (Blk wd KE 61 [.int .i64 (x : Int), .int .i64 (y : Int), .int .i64 (z : Int)]) := hid (by rw [hwd, hKE]; exact Blk.new _ _ _)
              have HBd : Hid (Below w20.heap.size w20 wd) := hid (by rw [hwd]; exact Bl.new HBr.out _)
              rw [← hwd, ← hKE]
              clear hwd hKE x4 q0 q1 q2
              have y0 := DE.out.cell 0
              have y1 := DE.out.cell 1
              have y2 := DE.out.cell 2
              have HB9 := HBd
              go_region_held3 (fun w' => w'.cell? ⟨KE, 0, none⟩ = some (.int .i64 (x : Int)) ∧ w'.cell? ⟨KE, 1, none⟩ = some (.int .i64 (y : Int)) ∧ w'.cell? ⟨KE, 2, none⟩ = some (.int .i64 (z : Int)))
                (first | go_keep | (go_split_ands; and_intros <;> (first | (refine cell_later (by assumption) ?_; first | assumption | (rw [Qt.cell (qt_of _ _)]; assumption) | (rw [Qt.cell (qt_drew _)]; assumption)) | (refine cell_later (bel_new _ _) ?_; assumption) | (rw [Qt.cell (by assumption)]; first | assumption | (rw [Qt.cell (qt_of _ _)]; assumption) | (rw [Qt.cell (qt_drew _)]; assumption)))))
                (first | (go_at_call 35; (with_reducible refine (BX.out _).mono ?_); rintro e w23 ⟨rfl, b23⟩) | (go_at_call 35; (with_reducible refine (BY.out _).mono ?_); rintro e w24 ⟨rfl, b24⟩) | (go_at_call 35; (with_reducible refine (BZ.out _).mono ?_); rintro e w25 ⟨rfl, b25⟩))
              all_goals
                have BN2 : Hid (Below w20.heap.size w20 w25) := hid (by repeat (first | exact HB9.out | refine Bl.new ?_ _ | refine Bl.call ?_ (by assumption) | refine Bl.qt ?_ (by assumption) | refine Bl.qt ?_ (qt_drew _) | refine Bl.qt ?_ (qt_of _ _)))
                clear y0 y1 y2 wx wy wz
                go_wp2_with fail
                go_roundw
                case rel => exact ⟨k + 1, _, by go_num, by omega, rfl, hid (by rw [HT.out, Qtx.out, Qty.out, Qtz.out, str_app, str_app, str_app, HFL.out]; simp [Sn.eB, encI_nat]), BN2⟩
                case measure => simp [intOf]; omega
            case neg =>
              obtain rfl : ne = k := by omega
              have j0 : ¬ (ne : Int) < (ne : Int) := by omega
              have D1 := hid (D20.out.below HBr.out D20.out.lt)
              have x4 := D1.out.cell 4
              replace HT : Hid (t = str (Sn.body s0)) := hid (by rw [HT.out, List.take_of_length_le (by rw [HL2.out]; exact Nat.le_refl _)]; unfold Sn.body; rw [HE.out.1, HE.out.2.1, HE.out.2.2])
              have HB30 := hid (HB20.out.trans (HBr.out.mono HB20.out.size))
              obtain ⟨sm, hsm⟩ : ∃ sm, Sn.sum (Sn.body s0) = sm := ⟨_, rfl⟩
              have smb : sm < 18446744073709551616 := sn_small (by rw [← hsm]; exact Sn.sum_lt _)
              have hbl : (Sn.body s0).length ≤ 600000 := by rw [Sn.body_len, HE.out.1, HE.out.2.1, HE.out.2.2, HL1.out, HL2.out, HL3.out]; have := HM.out; omega
              have SS : Hid (∀ w' : World, Calls Try.prog 18 #[.string t] w' fun e w'' => e = .returned (.int .u64 (sm : Int)) ∧ Qt w' w'') := hid (fun w' => by rw [HT.out, ← hsm]; exact rsum_any (by omega))
              have hsz : t.size ≤ 600000 := by rw [HT.out, str_size]; exact hbl
              have HSM := hid hsm
              clear hsm
              obtain ⟨ts, hts⟩ : ∃ t, t = str (Sn.enc sm 8) := ⟨_, rfl⟩
              have zts : ts.size = 8 := by rw [hts, str_size, Sn.enc_len]
              have BS : Hid (∀ w' : World, Calls Try.prog 35 #[.int .u64 (sm : Int), .int .i64 8] w' fun e w'' => e = .returned (.string ts) ∧ Below w'.heap.size w' w'') := hid (fun w' => rbytes_n sm 8 (by omega) (by decide) _ _ rfl rfl ts hts)
              have Qts := hid hts
              clear hts
              have g1 : ¬ 9223372036854775807 < t.size + 8 := by omega
              go_wp2_with fail
              refine (SS.out _).mono ?_; rintro e w31 ⟨rfl, q31⟩
              replace HB30 := hid (Bl.qt HB30.out q31)
              clear q31
              go_wp2_with fail
              refine (BS.out _).mono ?_; rintro e w32 ⟨rfl, b32⟩
              replace HB30 := hid (Bl.call HB30.out b32)
              clear b32
              go_wp2
              go_ret
              exact ⟨by rw [HT.out, Qts.out, str_app, ← HSM.out]; rfl, HB30.out⟩
end Go.Proofs.Ytbafbnkmmpaomaa
