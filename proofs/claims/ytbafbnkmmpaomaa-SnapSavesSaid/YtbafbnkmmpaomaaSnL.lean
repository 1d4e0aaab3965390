/- Contracts of the document's Same of graphs, of states; of Ref. -/
import Derived.Test.YtbafbnkmmpaomaaSnK
namespace Go.Proofs.Ytbafbnkmmpaomaa
open Go.RowKit
set_option linter.unusedVariables false
set_option linter.unusedSimpArgs false
attribute [local go_sem ↓] Go.wp_at_zero Go.wp_at_succ
set_option maxRecDepth 100000 in
set_option maxHeartbeats 8000000 in
theorem gsame_is {N L R N' L' R' : Int} {vh ve vh' ve' : Value} {nh ne nh' ne' : Nat} {hs hs' : List (Int × Int)} {es es' : List (Int × Int × Int)} {w : World}
    (h1 : Sl w w.heap.size 2 vh nh (hcz hs)) (h2 : Sl w w.heap.size 3 ve ne (eds es)) (h1' : Sl w w.heap.size 2 vh' nh' (hcz hs')) (h2' : Sl w w.heap.size 3 ve' ne' (eds es'))
    (r : Bool) (hr : (((N = N' ∧ L = L' ∧ R = R') ∧ hs = hs') ∧ es = es') ↔ r = true) :
    Calls Try.prog 37 #[grV N L R vh ve, grV N' L' R' vh' ve'] w fun e w' => e = .returned (.bool r) ∧ Below w.heap.size w w' := by
  have HR := hid hr
  unfold grV
  have b2 : Below w.heap.size w ((w.alloc (.cells #[.int .i64 N, .int .i64 L, .int .i64 R, vh, ve] 27)).alloc (.cells #[.int .i64 N', .int .i64 L', .int .i64 R', vh', ve'] 27)) := Bl.new (bel_new _ _) _
  have HB := hid b2
  have S1 := hid (h1.call b2)
  have S2 := hid (h2.call b2)
  have S1' := hid (h1'.call b2)
  have S2' := hid (h2'.call b2)
  obtain ⟨A1, c1, rfl, -⟩ := h1
  obtain ⟨A2, c2, rfl, -⟩ := h2
  obtain ⟨A3, c3, rfl, -⟩ := h1'
  obtain ⟨A4, c4, rfl, -⟩ := h2'
  clear b2 hr
  by_cases k1 : N = N'
  case neg =>
    have HF : Hid (r = false) := hid (not_true HR.out (fun h => k1 h.1.1.1))
    have e1 : (N == N') = false := by simp [k1]
    clear k1
    go_enter Try.func37, Try.ntmps37
    go_wp2
    go_ret
    exact ⟨by rw [HF.out]; rfl, HB.out⟩
  case pos =>
  by_cases k2 : L = L'
  case neg =>
    have HF : Hid (r = false) := hid (not_true HR.out (fun h => k2 h.1.1.2.1))
    have e1 : (N == N') = true := by simp [k1]
    have e2 : (L == L') = false := by simp [k2]
    clear k1 k2
    go_enter Try.func37, Try.ntmps37
    go_wp2
    go_ret
    exact ⟨by rw [HF.out]; rfl, HB.out⟩
  case pos =>
  by_cases k3 : R = R'
  case neg =>
    have HF : Hid (r = false) := hid (not_true HR.out (fun h => k3 h.1.1.2.2))
    have e1 : (N == N') = true := by simp [k1]
    have e2 : (L == L') = true := by simp [k2]
    have e3 : (R == R') = false := by simp [k3]
    clear k1 k2 k3
    go_enter Try.func37, Try.ntmps37
    go_wp2
    go_ret
    exact ⟨by rw [HF.out]; rfl, HB.out⟩
  case pos =>
  subst k1 k2 k3
  by_cases k4 : hs = hs'
  case neg =>
    have HF : Hid (r = false) := hid (not_true HR.out (fun h => k4 h.1.2))
    have HE : Hid ((hs == hs') = false) := hid (by simp [k4])
    clear k4
    go_enter Try.func37, Try.ntmps37
    go_wp2_with fail
    refine (hsame_is _ _ _ _ _ _ _ _ _ false HE.out S1.out S1'.out).mono ?_; rintro e w2 ⟨rfl, q2⟩
    have HB2 := hid (HB.out.trans (q2.below _))
    clear q2
    go_wp2
    go_ret
    exact ⟨by rw [HF.out]; rfl, HB2.out⟩
  case pos =>
  have HE : Hid ((hs == hs') = true) := hid (by simp [k4])
  by_cases k5 : es = es'
  case neg =>
    have HF : Hid (r = false) := hid (not_true HR.out (fun h => k5 h.2))
    have HE2 : Hid ((es == es') = false) := hid (by simp [k5])
    clear k4 k5
    go_enter Try.func37, Try.ntmps37
    go_wp2_with fail
    refine (hsame_is _ _ _ _ _ _ _ _ _ true HE.out S1.out S1'.out).mono ?_; rintro e w2 ⟨rfl, q2⟩
    have HB2 := hid (HB.out.trans (q2.below _))
    have T2 := hid (S2.out.cqt q2)
    have T2' := hid (S2'.out.cqt q2)
    have y4 := (q2.cell ⟨w.heap.size, 4, none⟩).trans (((Blk.new w 27 [.int .i64 N, .int .i64 L, .int .i64 R, .slice A1 nh c1, .slice A2 ne c2]).alloc (.cells #[.int .i64 N, .int .i64 L, .int .i64 R, .slice A3 nh' c3, .slice A4 ne' c4] 27)).cell 4)
    have z4 := (q2.cell ⟨w.heap.size + 1, 4, none⟩).trans (show ((w.alloc (.cells #[.int .i64 N, .int .i64 L, .int .i64 R, .slice A1 nh c1, .slice A2 ne c2] 27)).alloc (.cells #[.int .i64 N, .int .i64 L, .int .i64 R, .slice A3 nh' c3, .slice A4 ne' c4] 27)).cell? ⟨w.heap.size + 1, 4, none⟩ = some (.slice A4 ne' c4) by simp)
    clear q2
    go_wp2_with fail
    refine (esame_is _ _ _ _ _ _ _ _ _ false HE2.out T2.out T2'.out).mono ?_; rintro e w3 ⟨rfl, q3⟩
    have HB3 := hid (HB2.out.trans (q3.below _))
    clear q3 y4 z4
    go_wp2
    go_ret
    exact ⟨by rw [HF.out]; rfl, HB3.out⟩
  case pos =>
    have HF : Hid (r = true) := hid (HR.out.1 ⟨⟨⟨rfl, rfl, rfl⟩, k4⟩, k5⟩)
    have HE2 : Hid ((es == es') = true) := hid (by simp [k5])
    clear k4 k5
    go_enter Try.func37, Try.ntmps37
    go_wp2_with fail
    refine (hsame_is _ _ _ _ _ _ _ _ _ true HE.out S1.out S1'.out).mono ?_; rintro e w2 ⟨rfl, q2⟩
    have HB2 := hid (HB.out.trans (q2.below _))
    have T2 := hid (S2.out.cqt q2)
    have T2' := hid (S2'.out.cqt q2)
    have y4 := (q2.cell ⟨w.heap.size, 4, none⟩).trans (((Blk.new w 27 [.int .i64 N, .int .i64 L, .int .i64 R, .slice A1 nh c1, .slice A2 ne c2]).alloc (.cells #[.int .i64 N, .int .i64 L, .int .i64 R, .slice A3 nh' c3, .slice A4 ne' c4] 27)).cell 4)
    have z4 := (q2.cell ⟨w.heap.size + 1, 4, none⟩).trans (show ((w.alloc (.cells #[.int .i64 N, .int .i64 L, .int .i64 R, .slice A1 nh c1, .slice A2 ne c2] 27)).alloc (.cells #[.int .i64 N, .int .i64 L, .int .i64 R, .slice A3 nh' c3, .slice A4 ne' c4] 27)).cell? ⟨w.heap.size + 1, 4, none⟩ = some (.slice A4 ne' c4) by simp)
    clear q2
    go_wp2_with fail
    refine (esame_is _ _ _ _ _ _ _ _ _ true HE2.out T2.out T2'.out).mono ?_; rintro e w3 ⟨rfl, q3⟩
    have HB3 := hid (HB2.out.trans (q3.below _))
    clear q3 y4 z4
    go_wp2
    go_ret
    exact ⟨by rw [HF.out]; rfl, HB3.out⟩
end Go.Proofs.Ytbafbnkmmpaomaa
