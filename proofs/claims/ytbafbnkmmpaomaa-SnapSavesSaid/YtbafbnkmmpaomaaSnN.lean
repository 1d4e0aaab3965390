/- Contract of the document's Same of states. -/
import Derived.Test.YtbafbnkmmpaomaaSnM
namespace Go.Proofs.Ytbafbnkmmpaomaa
open Go.RowKit
set_option linter.unusedVariables false
set_option linter.unusedSimpArgs false
attribute [local go_sem ↓] Go.wp_at_zero Go.wp_at_succ
set_option maxRecDepth 100000 in
set_option maxHeartbeats 8000000 in
theorem ssame_is {s s' : Sn.St} {vh ve vs vh' ve' vs' : Value} {nh ne ns nh' ne' ns' : Nat} {w : World}
    (h1 : Sl w w.heap.size 2 vh nh (hcz s.hs)) (h2 : Sl w w.heap.size 3 ve ne (eds s.es)) (h3 : Sl w w.heap.size 2 vs ns (sls s.ss)) (h1' : Sl w w.heap.size 2 vh' nh' (hcz s'.hs)) (h2' : Sl w w.heap.size 3 ve' ne' (eds s'.es)) (h3' : Sl w w.heap.size 2 vs' ns' (sls s'.ss))
    (r : Bool) (hr : s = s' ↔ r = true) :
    Calls Try.prog 21 #[stV s.N s.L s.R vh ve vs, stV s'.N s'.L s'.R vh' ve' vs'] w fun e w' => e = .returned (.bool r) ∧ Below w.heap.size w w' := by
  obtain ⟨N, L, R, hs, es, ss⟩ := s
  obtain ⟨N', L', R', hs', es', ss'⟩ := s'
  dsimp only at h1 h2 h3 h1' h2' h3' ⊢
  obtain ⟨r1, hr1⟩ : ∃ r1 : Bool, (((N = N' ∧ L = L' ∧ R = R') ∧ hs = hs') ∧ es = es') ↔ r1 = true := by
    by_cases h : (((N = N' ∧ L = L' ∧ R = R') ∧ hs = hs') ∧ es = es')
    · exact ⟨true, by simp [h]⟩
    · exact ⟨false, by simp only [h]; simp⟩
  obtain ⟨r2, hr2⟩ : ∃ r2, r2 = (ss == ss') := ⟨_, rfl⟩
  have hrr : r = (r1 && r2) := by
    rw [Bool.eq_iff_iff, ← hr, Bool.and_eq_true, ← hr1, hr2, beq_iff_eq]
    simp only [Sn.St.mk.injEq]
    constructor
    · rintro ⟨a, b, c, d, e, f⟩
      exact ⟨⟨⟨⟨a, b, c⟩, d⟩, e⟩, f⟩
    · rintro ⟨⟨⟨⟨a, b, c⟩, d⟩, e⟩, f⟩
      exact ⟨a, b, c, d, e, f⟩
  have HR := hid hrr
  have HR1 := hid hr1
  have HR2 : Hid ((ss == ss') = r2) := hid hr2.symm
  clear hr hr1 hr2 hrr
  have S1 := hid h1
  have S2 := hid h2
  have S3 := hid h3
  have S4 := hid h1'
  have S5 := hid h2'
  have S6 := hid h3'
  obtain ⟨A1, c1, rfl, -⟩ := h1
  obtain ⟨A2, c2, rfl, -⟩ := h2
  obtain ⟨A3, c3, rfl, -⟩ := h3
  obtain ⟨A4, c4, rfl, -⟩ := h1'
  obtain ⟨A5, c5, rfl, -⟩ := h2'
  obtain ⟨A6, c6, rfl, -⟩ := h3'
  unfold stV
  obtain ⟨KA, hKA⟩ : ∃ K, K = w.heap.size := ⟨_, rfl⟩
  obtain ⟨KB, hKB⟩ : ∃ K, K = w.heap.size + 1 := ⟨_, rfl⟩
  obtain ⟨w2, hw2⟩ : ∃ W, W = (w.alloc (.cells #[.int .i64 N, .int .i64 L, .int .i64 R, .slice A1 nh c1, .slice A2 ne c2, .slice A3 ns c3] 39)).alloc (.cells #[.int .i64 N', .int .i64 L', .int .i64 R', .slice A4 nh' c4, .slice A5 ne' c5, .slice A6 ns' c6] 39) := ⟨_, rfl⟩
  have b2 : Below w.heap.size w w2 := by rw [hw2]; exact Bl.new (bel_new _ _) _
  have HB2 := hid b2
  replace S1 := hid (S1.out.call b2)
  replace S2 := hid (S2.out.call b2)
  replace S3 := hid (S3.out.call b2)
  replace S4 := hid (S4.out.call b2)
  replace S5 := hid (S5.out.call b2)
  replace S6 := hid (S6.out.call b2)
  have DA : Hid (Blk w2 KA 39 [.int .i64 N, .int .i64 L, .int .i64 R, .slice A1 nh c1, .slice A2 ne c2, .slice A3 ns c3]) := hid (by rw [hw2, hKA]; exact (Blk.new _ _ _).alloc _)
  have DB : Hid (Blk w2 KB 39 [.int .i64 N', .int .i64 L', .int .i64 R', .slice A4 nh' c4, .slice A5 ne' c5, .slice A6 ns' c6]) := hid (by rw [hw2, hKB]; have := Blk.new (w.alloc (.cells #[.int .i64 N, .int .i64 L, .int .i64 R, .slice A1 nh c1, .slice A2 ne c2, .slice A3 ns c3] 39)) 39 [.int .i64 N', .int .i64 L', .int .i64 R', .slice A4 nh' c4, .slice A5 ne' c5, .slice A6 ns' c6]; simpa using this)
  have HW := hid hw2
  have HK1 := hid hKA
  have HK2 := hid hKB
  clear hw2 hKA hKB b2
  have GC : Hid (∀ w : World, Sl w w.heap.size 2 (.slice A1 nh c1) nh (hcz hs) → Sl w w.heap.size 3 (.slice A2 ne c2) ne (eds es) → Sl w w.heap.size 2 (.slice A4 nh' c4) nh' (hcz hs') → Sl w w.heap.size 3 (.slice A5 ne' c5) ne' (eds es') → Calls Try.prog 37 #[.agg #[.int .i64 N, .int .i64 L, .int .i64 R, .slice A1 nh c1, .slice A2 ne c2], .agg #[.int .i64 N', .int .i64 L', .int .i64 R', .slice A4 nh' c4, .slice A5 ne' c5]] w fun e w' => e = .returned (.bool r1) ∧ Below w.heap.size w w') := hid (fun w a b c d => gsame_is a b c d r1 HR1.out)
  have SC : Hid (∀ w : World, Sl w w.heap.size 2 (.slice A3 ns c3) ns (sls ss) → Sl w w.heap.size 2 (.slice A6 ns' c6) ns' (sls ss') → Calls Try.prog 38 #[.slice A3 ns c3, .slice A6 ns' c6] w fun e w' => e = .returned (.bool r2) ∧ Below w.heap.size w w') := hid (fun w a b => (rsame_is _ _ _ _ _ _ _ _ _ r2 HR2.out a b).mono fun _ _ ⟨h, q⟩ => ⟨h, q.bel⟩)
  go_enter Try.func21, Try.ntmps21
  go_wp2_with fail
  rw [← HK2.out, ← HK1.out, ← HW.out]
  have x0 := DA.out.cell 0
  have y0 := DB.out.cell 0
  have x1 := DA.out.cell 1
  have y1 := DB.out.cell 1
  have x2 := DA.out.cell 2
  have y2 := DB.out.cell 2
  have x3 := DA.out.cell 3
  have y3 := DB.out.cell 3
  have x4 := DA.out.cell 4
  have y4 := DB.out.cell 4
  have x5 := DA.out.cell 5
  have y5 := DB.out.cell 5
  go_region_held3 (fun w' => w'.cell? ⟨KA, 0, none⟩ = some (.int .i64 N) ∧ w'.cell? ⟨KA, 1, none⟩ = some (.int .i64 L) ∧ w'.cell? ⟨KA, 2, none⟩ = some (.int .i64 R) ∧ w'.cell? ⟨KA, 3, none⟩ = some (.slice A1 nh c1) ∧ w'.cell? ⟨KA, 4, none⟩ = some (.slice A2 ne c2) ∧ w'.cell? ⟨KA, 5, none⟩ = some (.slice A3 ns c3) ∧ w'.cell? ⟨KB, 0, none⟩ = some (.int .i64 N') ∧ w'.cell? ⟨KB, 1, none⟩ = some (.int .i64 L') ∧ w'.cell? ⟨KB, 2, none⟩ = some (.int .i64 R') ∧ w'.cell? ⟨KB, 3, none⟩ = some (.slice A4 nh' c4) ∧ w'.cell? ⟨KB, 4, none⟩ = some (.slice A5 ne' c5) ∧ w'.cell? ⟨KB, 5, none⟩ = some (.slice A6 ns' c6))
    (first | (first | go_keep | (go_split_ands; and_intros <;> (first | (refine cell_later (by assumption) ?_; first | assumption | (rw [Qt.cell (qt_of _ _)]; assumption) | (rw [Qt.cell (qt_drew _)]; assumption)) | (refine cell_later (bel_new _ _) ?_; assumption))) | (refine cell_later (by assumption) ?_; first | assumption | (rw [Qt.cell (qt_of _ _)]; assumption) | (rw [Qt.cell (qt_drew _)]; assumption)) | (refine cell_later (bel_new _ _) ?_; assumption)) | (go_split_ands; and_intros <;> (simp [*]; done)))
    (first | (go_at_call 37; (with_reducible refine (GC.out _ (by repeat (first | exact S1.out | refine Sl.new ?_ _ | refine Sl.cqt ?_ (qt_drew _) | refine Sl.cqt ?_ (qt_of _ _) | refine Sl.call ?_ (by assumption) | refine Sl.cqt ?_ (by assumption))) (by repeat (first | exact S2.out | refine Sl.new ?_ _ | refine Sl.cqt ?_ (qt_drew _) | refine Sl.cqt ?_ (qt_of _ _) | refine Sl.call ?_ (by assumption) | refine Sl.cqt ?_ (by assumption))) (by repeat (first | exact S4.out | refine Sl.new ?_ _ | refine Sl.cqt ?_ (qt_drew _) | refine Sl.cqt ?_ (qt_of _ _) | refine Sl.call ?_ (by assumption) | refine Sl.cqt ?_ (by assumption))) (by repeat (first | exact S5.out | refine Sl.new ?_ _ | refine Sl.cqt ?_ (qt_drew _) | refine Sl.cqt ?_ (qt_of _ _) | refine Sl.call ?_ (by assumption) | refine Sl.cqt ?_ (by assumption)))).mono ?_); rintro e w5 ⟨rfl, b5⟩) | (go_at_call 38; (with_reducible refine (SC.out _ (by repeat (first | exact S3.out | refine Sl.new ?_ _ | refine Sl.cqt ?_ (qt_drew _) | refine Sl.cqt ?_ (qt_of _ _) | refine Sl.call ?_ (by assumption) | refine Sl.cqt ?_ (by assumption))) (by repeat (first | exact S6.out | refine Sl.new ?_ _ | refine Sl.cqt ?_ (qt_drew _) | refine Sl.cqt ?_ (qt_of _ _) | refine Sl.call ?_ (by assumption) | refine Sl.cqt ?_ (by assumption)))).mono ?_); rintro e w7 ⟨rfl, b7⟩))
  all_goals
    cases r1 with
    | true =>
      go_wp2
      go_ret
      exact ⟨by rw [HR.out]; rfl, (by repeat (first | exact HB2.out | refine Bl.new ?_ _ | refine Bl.call ?_ (by assumption) | refine Bl.qt ?_ (by assumption) | refine Bl.qt ?_ (qt_drew _) | refine Bl.qt ?_ (qt_of _ _)))⟩
    | false =>
      go_wp2
      go_ret
      exact ⟨by rw [HR.out]; rfl, (by repeat (first | exact HB2.out | refine Bl.new ?_ _ | refine Bl.call ?_ (by assumption) | refine Bl.qt ?_ (by assumption) | refine Bl.qt ?_ (qt_drew _) | refine Bl.qt ?_ (qt_of _ _)))⟩
end Go.Proofs.Ytbafbnkmmpaomaa
