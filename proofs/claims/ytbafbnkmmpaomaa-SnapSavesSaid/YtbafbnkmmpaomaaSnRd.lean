/- Contract of the document's Right of a state. -/
import Derived.Test.YtbafbnkmmpaomaaSnRc
namespace Go.Proofs.Ytbafbnkmmpaomaa
open Go.RowKit
set_option linter.unusedVariables false
set_option linter.unusedSimpArgs false
attribute [local go_sem ↓] Go.wp_at_zero Go.wp_at_succ
set_option maxRecDepth 100000 in
set_option maxHeartbeats 16000000 in
theorem rsr_any {N L R : Int} {vh ve vs : Value} {nh ne ns : Nat} {hs : List (Int × Int)} {es : List (Int × Int × Int)} {ss : List (Bool × Int)} {w : World} (h1 : Sl w w.heap.size 2 vh nh (hcz hs)) (h2 : Sl w w.heap.size 3 ve ne (eds es)) (h3 : Sl w w.heap.size 2 vs ns (sls ss)) (hn : ne ≤ 1000000) (hn3 : ns ≤ 1000000)
    (b : Bool) (hb : SR N L R hs es ss ↔ b = true) :
    Calls Try.prog 14 #[stV N L R vh ve vs] w fun e w' => e = .returned (.bool b) ∧ Below w.heap.size w w' := by
  have hl2 : es.length = ne := by have := h2.len; rw [len_eds] at this; omega
  have hl3 : ss.length = ns := by have := h3.len; rw [len_sls] at this; omega
  have S1 := hid h1
  have S2 := hid h2
  have S3 := hid h3
  obtain ⟨A1, c1, rfl, -⟩ := h1
  obtain ⟨A2, c2, rfl, hnc2, hcm2, -, hx2⟩ := h2
  obtain ⟨A3, c3, rfl, hnc3, hcm3, -, hx3⟩ := h3
  have HB := hid hb
  have HL2 := hid hl2
  have HL3 := hid hl3
  have HX2 := hid hx2
  have HX3 := hid hx3
  clear hx2 hx3 hl2 hl3 hb hcm2 hnc2 hcm3 hnc3
  unfold stV
  obtain ⟨w1, hw1⟩ : ∃ W, W = w.alloc (.cells #[.int .i64 N, .int .i64 L, .int .i64 R, .slice A1 nh c1, .slice A2 ne c2, .slice A3 ns c3] 39) := ⟨_, rfl⟩
  obtain ⟨KS, hKS⟩ : ∃ K, K = w.heap.size := ⟨_, rfl⟩
  have b1 : Below w.heap.size w w1 := by rw [hw1]; exact bel_new _ _
  have HB1 := hid b1
  have DS : Hid (Blk w1 KS 39 [.int .i64 N, .int .i64 L, .int .i64 R, .slice A1 nh c1, .slice A2 ne c2, .slice A3 ns c3]) := hid (by rw [hw1, hKS]; exact Blk.new _ _ _)
  have T1 := hid (S1.out.call b1)
  have T2 := hid (S2.out.call b1)
  have T3 := hid (S3.out.call b1)
  have HW := hid hw1
  have HK := hid hKS
  clear hw1 hKS b1
  obtain ⟨bg, hbg⟩ : ∃ bg : Bool, GR N L R hs es ↔ bg = true := by
    by_cases h : GR N L R hs es
    · exact ⟨true, by simp [h]⟩
    · exact ⟨false, by simp only [h]; simp⟩
  obtain ⟨bv, hbv⟩ : ∃ bv : Bool, Vt.Ok ss ↔ bv = true := by
    by_cases h : Vt.Ok ss
    · exact ⟨true, by simp [h]⟩
    · exact ⟨false, by simp only [h]; simp⟩
  have HBG := hid hbg
  have HBV := hid hbv
  have RG : Hid (∀ w' : World, Sl w' w'.heap.size 2 (.slice A1 nh c1) nh (hcz hs) → Sl w' w'.heap.size 3 (.slice A2 ne c2) ne (eds es) → Calls Try.prog 28 #[.agg #[.int .i64 N, .int .i64 L, .int .i64 R, .slice A1 nh c1, .slice A2 ne c2]] w' fun e w'' => e = .returned (.bool bg) ∧ Below w'.heap.size w' w'') := hid (fun w' a b => rgr_any a b hn bg hbg)
  have RV : Hid (∀ w' : World, Sl w' w'.heap.size 2 (.slice A3 ns c3) ns (sls ss) → Calls Try.prog 29 #[.slice A3 ns c3] w' fun e w'' => e = .returned (.bool bv) ∧ Qt w' w'') := hid (fun w' a => rright_is a bv hbv)
  clear hbg hbv
  have x0 := DS.out.cell 0
  have x1 := DS.out.cell 1
  have x2 := DS.out.cell 2
  have x3 := DS.out.cell 3
  have x4 := DS.out.cell 4
  have x5 := DS.out.cell 5
  have HB7 := hid (Below.refl w1.heap.size w1)
  go_enter Try.func14, Try.ntmps14
  go_wp2_with fail
  rw [← HW.out, ← HK.out]
  go_region_held3 (fun w' => w'.cell? ⟨KS, 0, none⟩ = some (.int .i64 N) ∧ w'.cell? ⟨KS, 1, none⟩ = some (.int .i64 L) ∧ w'.cell? ⟨KS, 2, none⟩ = some (.int .i64 R) ∧ w'.cell? ⟨KS, 3, none⟩ = some (.slice A1 nh c1) ∧ w'.cell? ⟨KS, 4, none⟩ = some (.slice A2 ne c2) ∧ w'.cell? ⟨KS, 5, none⟩ = some (.slice A3 ns c3))
    (first | (first | go_keep | (go_split_ands; and_intros <;> (first | (refine cell_later (by assumption) ?_; first | assumption | (rw [Qt.cell (qt_of _ _)]; assumption) | (rw [Qt.cell (qt_drew _)]; assumption)) | (refine cell_later (bel_new _ _) ?_; assumption) | (rw [Qt.cell (by assumption)]; first | assumption | (rw [Qt.cell (qt_of _ _)]; assumption) | (rw [Qt.cell (qt_drew _)]; assumption))))) | (go_split_ands; and_intros <;> (simp [*]; done)))
    (first | (go_at_call 28; (with_reducible refine (RG.out _ (by repeat (first | exact T1.out | refine Sl.new ?_ _ | refine Sl.cqt ?_ (qt_drew _) | refine Sl.cqt ?_ (qt_of _ _) | refine Sl.call ?_ (by assumption) | refine Sl.cqt ?_ (by assumption))) (by repeat (first | exact T2.out | refine Sl.new ?_ _ | refine Sl.cqt ?_ (qt_drew _) | refine Sl.cqt ?_ (qt_of _ _) | refine Sl.call ?_ (by assumption) | refine Sl.cqt ?_ (by assumption)))).mono ?_); rintro e w5 ⟨rfl, b5⟩) | (go_at_call 29; (with_reducible refine (RV.out _ (by repeat (first | exact T3.out | refine Sl.new ?_ _ | refine Sl.cqt ?_ (qt_drew _) | refine Sl.cqt ?_ (qt_of _ _) | refine Sl.call ?_ (by assumption) | refine Sl.cqt ?_ (by assumption)))).mono ?_); rintro e w6 ⟨rfl, q6⟩))
  have BB : Below w1.heap.size w1 w6 := (by repeat (first | exact HB7.out | refine Bl.new ?_ _ | refine Bl.call ?_ (by assumption) | refine Bl.qt ?_ (by assumption) | refine Bl.qt ?_ (qt_drew _) | refine Bl.qt ?_ (qt_of _ _)))
  clear x0 x1 x2 x3 x4 x5 b5 q6
  replace DS := hid (DS.out.below BB DS.out.lt)
  have HB3 := hid (HB1.out.trans (BB.mono HB1.out.size))
  clear BB
  cases bg with
  | false =>
    have HF : Hid (b = false) := hid (not_true HB.out (fun h => by have := HBG.out.1 h.1; cases this))
    go_wp2
    go_ret
    exact ⟨by rw [HF.out]; rfl, HB3.out⟩
  | true =>
  have HG : Hid (GR N L R hs es) := hid (HBG.out.2 rfl)
  cases bv with
  | false =>
    have HF : Hid (b = false) := hid (not_true HB.out (fun h => by have := HBV.out.1 h.2.1; cases this))
    go_wp2
    go_ret
    exact ⟨by rw [HF.out]; rfl, HB3.out⟩
  | true =>
  have HVO : Hid (Vt.Ok ss) := hid (HBV.out.2 rfl)
  have x0 := DS.out.cell 0
  have x5 := DS.out.cell 5
  by_cases hq : (ns : Int) = N
  case neg =>
    have HF : Hid (b = false) := hid (not_true HB.out (fun h => hq (by rw [← h.2.2.1, HL3.out])))
    have k2 : ((ns : Int) != N) = true := by simp [hq]
    clear hq
    go_wp2
    go_ret
    exact ⟨by rw [HF.out]; rfl, HB3.out⟩
  case pos =>
  have k2 : ((ns : Int) != N) = false := by simp [hq]
  have HNN : Hid ((ss.length : Int) = N) := hid (by rw [HL3.out]; exact hq)
  have HNS := hid hq
  clear hq
  go_wp2_with fail
  clear x0 x5 k2
  go_loopw [5] (fun iv wr => ∃ i : Nat, i ≤ ne ∧ iv = .int .i64 (i : Int) ∧ Hid (UsOk es ss i) ∧ Hid (Below w6.heap.size w6 wr)) (fun iv _ => ne - (intOf iv).toNat)
  case atStart => exact ⟨0, Nat.zero_le _, rfl, hid (fun j _ h => absurd h (Nat.not_lt_zero _)), hid (Below.refl _ _)⟩
  case round =>
    obtain ⟨i, hi, rfl, HP, HBr⟩ := hrel
    obtain ⟨w7, rfl⟩ : ∃ x, x = wr := ⟨wr, rfl⟩
    have HB4 := hid (HB3.out.trans (HBr.out.mono HB3.out.size))
    have DS4 := hid (DS.out.below HBr.out DS.out.lt)
    have x4 := DS4.out.cell 4
    by_cases hlt : i < ne
    case neg =>
      obtain rfl : i = ne := by omega
      have j0 : ¬ (i : Int) < (i : Int) := by omega
      have HF : Hid (b = true) := hid (HB.out.1 ⟨HG.out, HVO.out, HNN.out, by rw [HL2.out]; exact HP.out⟩)
      go_wp2
      go_ret
      exact ⟨by rw [HF.out]; rfl, HB4.out⟩
    case pos =>
      have j0 : (i : Int) < (ne : Int) := by omega
      have hil : i < es.length := by rw [HL2.out]; exact hlt
      obtain ⟨b6, o6, rfl, hb6, hc6⟩ := HX2.out (by omega)
      obtain ⟨p0, p1, p2⟩ := eds_cell hc6 hil
      have q0 := (HB4.out.cell (p := ⟨b6, o6 + i * 3, none⟩) hb6).trans p0
      have q1 := (HB4.out.cell (p := ⟨b6, o6 + i * 3 + 1, none⟩) hb6).trans p1
      have HNX := hid (fun h : usedAt ss es[i].1 = true ∧ usedAt ss es[i].2.1 = true => us_next HP.out (fun _ => h))
      have HNO := hid (fun h : ¬ (usedAt ss es[i].1 = true ∧ usedAt ss es[i].2.1 = true) => not_true HB.out (fun g => h (g.2.2.2 i hil hil)))
      have hok := (HG.out.2.2.2.1.2 i hil hil).1
      obtain ⟨e, he⟩ : ∃ e, e = es[i] := ⟨_, rfl⟩
      rw [← he] at q0 q1 HNX HNO hok
      obtain ⟨x, y, t⟩ := e
      dsimp only at q0 q1 HNX HNO
      obtain ⟨o1, o2, o3, -, -⟩ := hok
      dsimp only at o1 o2 o3
      have hns := HNS.out
      obtain ⟨x, rfl⟩ := Int.eq_ofNat_of_zero_le o1
      obtain ⟨y, rfl⟩ := Int.eq_ofNat_of_zero_le (show 0 ≤ y by omega)
      have hxl : x < ss.length := by rw [HL3.out]; omega
      have hyl : y < ss.length := by rw [HL3.out]; omega
      rw [used_nat ss hxl, used_nat ss hyl] at HNX HNO
      obtain ⟨b7, o7, rfl, hb7, hc7⟩ := HX3.out (by omega)
      have r0 := (HB4.out.cell (p := ⟨b7, o7 + x * 2, none⟩) hb7).trans (sls_cell hc7 hxl).1
      have r1 := (HB4.out.cell (p := ⟨b7, o7 + y * 2, none⟩) hb7).trans (sls_cell hc7 hyl).1
      have x5 := DS4.out.cell 5
      have j1 : (x : Int) < (ns : Int) := by omega
      have j2 : (y : Int) < (ns : Int) := by omega
      have j3 : (0 : Int) ≤ (x : Int) := by omega
      have j4 : (0 : Int) ≤ (y : Int) := by omega
      clear he p0 p1 p2 hc6 hc7 hil o1 o2 o3 hns
      obtain ⟨u, hu⟩ : ∃ u, u = ss[x].1 := ⟨_, rfl⟩
      obtain ⟨u', hu'⟩ : ∃ u, u = ss[y].1 := ⟨_, rfl⟩
      rw [← hu] at r0 HNX HNO
      rw [← hu'] at r1 HNX HNO
      clear hu hu' hxl hyl
      cases u with
      | false =>
        have HF := hid (HNO.out (by simp))
        clear HNO HNX
        go_wp2_with fail
        go_quiet (fail)
        go_wp2
        go_ret
        exact ⟨by rw [HF.out]; rfl, Bl.qt HB4.out (qt_of _ _)⟩
      | true =>
        cases u' with
        | false =>
          have HF := hid (HNO.out (by simp))
          clear HNO HNX
          go_wp2_with fail
          go_quiet (fail)
          go_wp2
          go_ret
          exact ⟨by rw [HF.out]; rfl, Bl.qt HB4.out (qt_of _ _)⟩
        | true =>
          have HN := hid (HNX.out ⟨rfl, rfl⟩)
          clear HNO HNX
          go_wp2_with fail
          go_quiet (fail)
          go_wp2_with fail
          go_roundw
          case rel => exact ⟨i + 1, by omega, by go_num, HN, hid (Bl.qt HBr.out (qt_of _ _))⟩
          case measure => simp [intOf]; omega
end Go.Proofs.Ytbafbnkmmpaomaa
