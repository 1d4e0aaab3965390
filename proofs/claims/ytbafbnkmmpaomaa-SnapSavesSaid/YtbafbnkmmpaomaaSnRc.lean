/- Contracts of the document's Right of a graph, of a state. -/
import Derived.Test.YtbafbnkmmpaomaaSnRb
namespace Go.Proofs.Ytbafbnkmmpaomaa
open Go.RowKit
set_option linter.unusedVariables false
set_option linter.unusedSimpArgs false
attribute [local go_sem ↓] Go.wp_at_zero Go.wp_at_succ
theorem tab_may {n : Nat} {l : List (Int × Int × Int)} (h : TabR (n : Int) l) (k : Int) : Pt.mayB n (frs k l) = true := by
  rw [Pt.mayB_iff]
  intro e he
  obtain ⟨x, hx, rfl⟩ := List.mem_map.1 he
  have hx2 := (List.mem_filter.1 hx).1
  obtain ⟨i, hi, rfl⟩ := List.getElem_of_mem hx2
  obtain ⟨o1, o2, o3, o4, o5⟩ := (h.2 i hi hi).1
  exact ⟨⟨o1, by omega⟩, by omega, o3⟩
set_option maxRecDepth 100000 in
set_option maxHeartbeats 16000000 in
theorem rgr_any {N L R : Int} {vh ve : Value} {nh ne : Nat} {hs : List (Int × Int)} {es : List (Int × Int × Int)} {w : World} (h1 : Sl w w.heap.size 2 vh nh (hcz hs)) (h2 : Sl w w.heap.size 3 ve ne (eds es)) (hn : ne ≤ 1000000)
    (b : Bool) (hb : GR N L R hs es ↔ b = true) :
    Calls Try.prog 28 #[grV N L R vh ve] w fun e w' => e = .returned (.bool b) ∧ Below w.heap.size w w' := by
  have hl1 : hs.length = nh := by have := h1.len; rw [len_hcz] at this; omega
  have hl2 : es.length = ne := by have := h2.len; rw [len_eds] at this; omega
  have S1 := hid h1
  have S2 := hid h2
  have HB := hid hb
  have HL1 := hid hl1
  have HL2 := hid hl2
  obtain ⟨A1, c1, rfl, hnc1, hcm1, -, hx1⟩ := h1
  obtain ⟨A2, c2, rfl, hnc2, hcm2, -, hx2⟩ := h2
  have hm1 : nh ≤ 9223372036854775807 := by unfold maxLen at hcm1; omega
  have hm2 : ne ≤ 9223372036854775807 := by omega
  have HX1 := hid hx1
  have HX2 := hid hx2
  clear hx1 hx2 hl1 hl2 hb hcm1 hcm2 hnc1 hnc2
  unfold grV
  have HBB : Hid (Below w.heap.size w ((w.alloc (.cells #[.int .i64 N, .int .i64 L, .int .i64 R, .slice A1 nh c1, .slice A2 ne c2] 27)).alloc (.cells #[.int .i64 N, .int .i64 L, .int .i64 R] 23))) := hid (Bl.new (bel_new _ _) _)
  by_cases g0 : 1 ≤ N
  case neg =>
    have HF : Hid (b = false) := hid (not_true HB.out (fun h => by have h2 := h.1; unfold GSz at h2; omega))
    go_enter Try.func28, Try.ntmps28
    go_wp2
    go_ret
    exact ⟨by rw [HF.out]; rfl, HBB.out⟩
  case pos =>
  by_cases g1 : N ≤ 1024
  case neg =>
    have HF : Hid (b = false) := hid (not_true HB.out (fun h => by have h2 := h.1; unfold GSz at h2; omega))
    go_enter Try.func28, Try.ntmps28
    go_wp2
    go_ret
    exact ⟨by rw [HF.out]; rfl, HBB.out⟩
  case pos =>
  by_cases g2 : 1 ≤ L
  case neg =>
    have HF : Hid (b = false) := hid (not_true HB.out (fun h => by have h2 := h.1; unfold GSz at h2; omega))
    go_enter Try.func28, Try.ntmps28
    go_wp2
    go_ret
    exact ⟨by rw [HF.out]; rfl, HBB.out⟩
  case pos =>
  by_cases g3 : L ≤ 16
  case neg =>
    have HF : Hid (b = false) := hid (not_true HB.out (fun h => by have h2 := h.1; unfold GSz at h2; omega))
    go_enter Try.func28, Try.ntmps28
    go_wp2
    go_ret
    exact ⟨by rw [HF.out]; rfl, HBB.out⟩
  case pos =>
  by_cases g4 : 1 ≤ R
  case neg =>
    have HF : Hid (b = false) := hid (not_true HB.out (fun h => by have h2 := h.1; unfold GSz at h2; omega))
    go_enter Try.func28, Try.ntmps28
    go_wp2
    go_ret
    exact ⟨by rw [HF.out]; rfl, HBB.out⟩
  case pos =>
  by_cases g5 : R ≤ 8
  case neg =>
    have HF : Hid (b = false) := hid (not_true HB.out (fun h => by have h2 := h.1; unfold GSz at h2; omega))
    go_enter Try.func28, Try.ntmps28
    go_wp2
    go_ret
    exact ⟨by rw [HF.out]; rfl, HBB.out⟩
  case pos =>
  have HSZ : Hid (GSz N L R) := hid ⟨g0, g1, g2, g3, g4, g5⟩
  obtain ⟨lr, hlr⟩ : ∃ lr, L * R = lr := ⟨_, rfl⟩
  have hlr1 : lr ≤ 128 := by rw [← hlr]; exact Int.le_trans (Int.mul_le_mul g3 g5 (by omega) (by omega)) (by decide)
  have hlr0 : 0 ≤ lr := by rw [← hlr]; exact Int.mul_nonneg (by omega) (by omega)
  have HLR := hid hlr
  by_cases k1 : (nh : Int) = lr
  case neg =>
    have k2 : ((nh : Int) != lr) = true := by simp [k1]
    have HF : Hid (b = false) := hid (not_true HB.out (fun h => k1 (by rw [← HLR.out, ← h.2.1, HL1.out])))
    clear k1
    go_enter Try.func28, Try.ntmps28
    go_wp2
    go_ret
    exact ⟨by rw [HF.out]; rfl, HBB.out⟩
  case pos =>
  have k2 : ((nh : Int) != lr) = false := by simp [k1]
  have HLL : Hid ((hs.length : Int) = L * R) := hid (by rw [HL1.out, HLR.out, k1])
  clear k1
  go_enter Try.func28, Try.ntmps28
  go_wp2_with fail
  obtain ⟨KG, hKG⟩ : ∃ K, K = w.heap.size := ⟨_, rfl⟩
  obtain ⟨w2, hw2⟩ : ∃ W, W = ((w.alloc (.cells #[.int .i64 N, .int .i64 L, .int .i64 R, .slice A1 nh c1, .slice A2 ne c2] 27)).alloc (.cells #[.int .i64 N, .int .i64 L, .int .i64 R] 23)) := ⟨_, rfl⟩
  have HB2 : Hid (Below w.heap.size w w2) := hid (by rw [hw2]; exact HBB.out)
  have DG : Hid (Blk w2 KG 27 [.int .i64 N, .int .i64 L, .int .i64 R, .slice A1 nh c1, .slice A2 ne c2]) := hid (by rw [hw2, hKG]; exact (Blk.new _ _ _).alloc _)
  have DC : Hid (Blk w2 (KG + 1) 23 [.int .i64 N, .int .i64 L, .int .i64 R]) := hid (by rw [hw2, hKG]; have := Blk.new (w.alloc (.cells #[.int .i64 N, .int .i64 L, .int .i64 R, .slice A1 nh c1, .slice A2 ne c2] 27)) 23 [.int .i64 N, .int .i64 L, .int .i64 R]; simpa using this)
  rw [← hKG, ← hw2]
  clear hKG hw2 HBB k2 hlr
  go_loop [4] (fun iv => ∃ i : Nat, i ≤ nh ∧ iv = .int .i64 (i : Int) ∧ Hid (HsOk hs i)) (fun iv => nh - (intOf iv).toNat)
  case atStart => exact ⟨0, Nat.zero_le _, rfl, hid (fun j _ h => absurd h (Nat.not_lt_zero _))⟩
  case round =>
    obtain ⟨i, hi, rfl, HP⟩ := hrel
    have n3 := DG.out.cell 3
    by_cases hlt : i < nh
    case pos =>
      have j0 : (i : Int) < (nh : Int) := by omega
      have hil : i < hs.length := by rw [HL1.out]; exact hlt
      obtain ⟨b6, o6, rfl, hb6, hc6⟩ := HX1.out (by omega)
      obtain ⟨p0, p1⟩ := hcz_cell hc6 hil
      have q0 := (HB2.out.cell (p := ⟨b6, o6 + i * 2, none⟩) hb6).trans p0
      have q1 := (HB2.out.cell (p := ⟨b6, o6 + i * 2 + 1, none⟩) hb6).trans p1
      have HNX := hid (fun h : hs[i].1 < 2305843009213693951 ∧ hs[i].2 < 2305843009213693951 => hs_next HP.out (fun _ => h))
      have HNO := hid (fun h : ¬ (hs[i].1 < 2305843009213693951 ∧ hs[i].2 < 2305843009213693951) => not_true HB.out (fun g => h (g.2.2.1 i hil hil)))
      obtain ⟨e, he⟩ : ∃ e, e = hs[i] := ⟨_, rfl⟩
      rw [← he] at q0 q1 HNX HNO
      obtain ⟨x, y⟩ := e
      dsimp only at q0 q1 HNX HNO
      clear he p0 p1 hc6 hil
      by_cases k1 : x < 2305843009213693951
      case neg =>
        have HF := hid (HNO.out (fun h => k1 h.1))
        have k3 : (2305843009213693951 : Int) ≤ x := by omega
        clear k1 HNO HNX
        go_wp2
        go_ret
        exact ⟨by rw [HF.out]; rfl, HB2.out⟩
      case pos =>
      by_cases k2 : y < 2305843009213693951
      case neg =>
        have HF := hid (HNO.out (fun h => k2 h.2))
        have k3 : (2305843009213693951 : Int) ≤ y := by omega
        clear k2 HNO HNX
        go_wp2
        go_ret
        exact ⟨by rw [HF.out]; rfl, HB2.out⟩
      case pos =>
        have HN := hid (HNX.out ⟨k1, k2⟩)
        have k3 : ¬ (2305843009213693951 : Int) ≤ x := by omega
        have k4 : ¬ (2305843009213693951 : Int) ≤ y := by omega
        clear HNO HNX k1 k2
        go_wp2_with fail
        go_round
        case rel => exact ⟨i + 1, by omega, by go_num, HN⟩
        case measure => simp [intOf]; omega
    case neg =>
      obtain rfl : i = nh := by omega
      have j0 : ¬ (i : Int) < (i : Int) := by omega
      have HP1 : Hid (HsOk hs hs.length) := hid (by rw [HL1.out]; exact HP.out)
      have S2r := hid (S2.out.call HB2.out)
      have n0 := DC.out.cell 0
      have n4 := DG.out.cell 4
      by_cases ht : TabR N es
      case neg =>
        have HF : Hid (b = false) := hid (not_true HB.out (fun h => ht h.2.2.2.1))
        have HT : Hid (TabR N es ↔ false = true) := hid (by simp only [ht]; simp)
        clear ht
        go_wp2_with fail
        refine (rtright_is S2r.out false HT.out).mono ?_; rintro e w4 ⟨rfl, b4⟩
        have HB4 := hid (Bl.call HB2.out b4)
        clear b4 n0 n4 n3
        go_wp2
        go_ret
        exact ⟨by rw [HF.out]; rfl, HB4.out⟩
      case pos =>
        have HT := hid ht
        clear ht
        go_wp2_with fail
        refine (rtright_is S2r.out true ⟨fun _ => rfl, fun _ => HT.out⟩).mono ?_; rintro e w4 ⟨rfl, b4⟩
        have HB4 := hid (Bl.call HB2.out b4)
        have DG4 := hid (DG.out.below b4 DG.out.lt)
        have DC4 := hid (DC.out.below b4 DC.out.lt)
        have S24 := hid (S2r.out.call b4)
        clear b4 n0 n4 n3
        go_wp2_with fail
        go_loopw [6] (fun iv wr => ∃ i : Nat, i ≤ ne ∧ iv = .int .i64 (i : Int) ∧ Hid (TrOk L es i) ∧ Hid (Below w4.heap.size w4 wr)) (fun iv _ => ne - (intOf iv).toNat)
        case atStart => exact ⟨0, Nat.zero_le _, rfl, hid (fun j _ h => absurd h (Nat.not_lt_zero _)), hid (Below.refl _ _)⟩
        case round =>
          obtain ⟨q, hq, rfl, HQ, HBq⟩ := hrel
          obtain ⟨w5, rfl⟩ : ∃ x, x = wr := ⟨wr, rfl⟩
          have DG5 := hid (DG4.out.below HBq.out DG4.out.lt)
          have DC5 := hid (DC4.out.below HBq.out DC4.out.lt)
          have S25 := hid (S24.out.call HBq.out)
          have HB5 := hid (HB4.out.trans (HBq.out.mono HB4.out.size))
          have n4 := DG5.out.cell 4
          by_cases hqt : q < ne
          case pos =>
            have j0 : (q : Int) < (ne : Int) := by omega
            have hil : q < es.length := by rw [HL2.out]; exact hqt
            obtain ⟨b6, o6, rfl, hb6, hc6⟩ := HX2.out (by omega)
            obtain ⟨p0, p1, p2⟩ := eds_cell hc6 hil
            have q2 := (HB5.out.cell (p := ⟨b6, o6 + q * 3 + 2, none⟩) hb6).trans p2
            have HNX := hid (fun h : es[q].2.2 ≤ L => tr_next HQ.out (fun _ => h))
            have HNO := hid (fun h : ¬ es[q].2.2 ≤ L => not_true HB.out (fun g => h (g.2.2.2.2.1 q hil hil)))
            obtain ⟨e, he⟩ : ∃ e, e = es[q] := ⟨_, rfl⟩
            rw [← he] at q2 HNX HNO
            obtain ⟨x, y, t⟩ := e
            dsimp only at q2 HNX HNO
            clear he p0 p1 p2 hc6 hil
            have m1 := DC5.out.cell 1
            by_cases k1 : t ≤ L
            case neg =>
              have HF := hid (HNO.out k1)
              have k3 : L < t := by omega
              clear k1 HNO HNX
              go_wp2_with fail
              go_quiet (fail)
              go_wp2
              go_ret
              exact ⟨by rw [HF.out]; rfl, Bl.qt HB5.out (qt_of _ _)⟩
            case pos =>
              have HN := hid (HNX.out k1)
              have k3 : ¬ L < t := by omega
              clear HNO HNX k1
              go_wp2_with fail
              go_quiet (fail)
              go_wp2_with fail
              go_roundw
              case rel => exact ⟨q + 1, by omega, by go_num, HN, hid (Bl.qt HBq.out (qt_of _ _))⟩
              case measure => simp [intOf]; omega
          case neg =>
            obtain rfl : q = ne := by omega
            have j0 : ¬ (q : Int) < (q : Int) := by omega
            have HQ1 : Hid (TrOk L es es.length) := hid (by rw [HL2.out]; exact HQ.out)
            obtain ⟨n, hnn⟩ := Int.eq_ofNat_of_zero_le (show 0 ≤ N by omega)
            subst hnn
            have hn2 : n ≤ 1024 := by omega
            have HN2 := hid hn2
            have m1 := DC5.out.cell 1
            have HMAY := hid (tab_may HT.out L)
            have HFL : Hid ((frs L es).length ≤ 1000000) := hid (by have := frs_len L es es.length; rw [List.take_length] at this; have := HL2.out; omega)
            go_wp2_with fail
            refine (rforest_any (k := L) S25.out hn).mono ?_; rintro e w6 ⟨v6, rfl, s6, b6⟩
            have HB6 := hid (Bl.call HB5.out b6)
            have m0 := (DC5.out.below b6 DC5.out.lt).cell 0
            have HS6 := hid s6
            obtain ⟨A6, c6, rfl, -⟩ := s6
            clear b6 n4 m1
            go_wp2_with fail
            refine (rspanning_any HN2.out HS6.out HMAY.out HFL.out).mono ?_; rintro e w7 ⟨A7, c7, q7, rfl, hq7, hf7, b7⟩
            have HB7 := hid (Bl.call HB6.out b7)
            have HF7 := hid hf7
            have hq8 : q7 ≤ 9223372036854775807 := by unfold maxLen at hq7; omega
            clear b7 m0 hf7 hq7
            obtain ⟨f6, hf6⟩ : ∃ f6, f6 = (frs L es).length := ⟨_, rfl⟩
            rw [← hf6] at HF7 ⊢
            clear hf6
            by_cases hf : q7 = f6
            case pos =>
              have HF : Hid (b = true) := hid (HB.out.1 ⟨HSZ.out, HLL.out, HP1.out, HT.out, HQ1.out, by have := HF7.out.1 hf; simpa using this⟩)
              subst hf
              go_wp2
              go_ret
              exact ⟨by rw [HF.out]; exact ret_bool (by simp), HB7.out⟩
            case neg =>
              have HF : Hid (b = false) := hid (not_true HB.out (fun h => hf (HF7.out.2 (by have := h.2.2.2.2.2; simpa using this))))
              have e1 : ((q7 : Int) == (f6 : Int)) = false := by rw [beq_eq_false_iff_ne]; omega
              go_wp2
              go_ret
              exact ⟨by rw [HF.out]; exact ret_bool (by first | exact e1 | (simp; done) | (simp; omega)), HB7.out⟩
end Go.Proofs.Ytbafbnkmmpaomaa
