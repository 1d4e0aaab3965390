/- Contract of snap.Save, of what is no state. -/
import Derived.Test.YtbafbnkmmpaomaaSnI
namespace Go.Proofs.Ytbafbnkmmpaomaa
open Go.RowKit
set_option linter.unusedVariables false
set_option linter.unusedSimpArgs false
def NoPost (w : World) (e : Ending) (w' : World) : Prop := e = .returned (.tuple #[.string (str []), .int .i64 1]) ∧ Below w.heap.size w w'
set_option maxRecDepth 100000 in
set_option maxHeartbeats 4000000 in
theorem save_no {s : Sn.St} {vh ve vs : Value} {nh ne ns : Nat} {w : World} (h1 : Sl w w.heap.size 2 vh nh (hcz s.hs)) (h2 : Sl w w.heap.size 3 ve ne (eds s.es)) (h3 : Sl w w.heap.size 2 vs ns (sls s.ss)) (hn : ne ≤ 100000) (hr : ¬ SRS s) :
    Calls Try.prog 13 #[stV s.N s.L s.R vh ve vs] w (NoPost w) := by
  obtain ⟨N, L, R, hs, es, ss⟩ := s
  dsimp only at h1 h2 h3 ⊢
  have S1 := hid h1
  have S2 := hid h2
  have S3 := hid h3
  obtain ⟨A1, c1, rfl, -⟩ := h1
  obtain ⟨A2, c2, rfl, -⟩ := h2
  obtain ⟨A3, c3, rfl, -⟩ := h3
  have HR : Hid (SR N L R hs es ss ↔ false = true) := hid (by have : ¬ SR N L R hs es ss := hr; simp [this])
  have hn6 : ne ≤ 1000000 := by omega
  clear hr
  unfold stV
  have b1 := bel_new w (.cells #[.int .i64 N, .int .i64 L, .int .i64 R, .slice A1 nh c1, .slice A2 ne c2, .slice A3 ns c3] 30)
  have HB1 := hid b1
  have T1 := hid (S1.out.call b1)
  have T2 := hid (S2.out.call b1)
  have T3 := hid (S3.out.call b1)
  clear b1 S1 S2 S3
  go_enter Try.func13, Try.ntmps13
  go_wp2_with fail
  refine (sr_any T1.out T2.out T3.out hn6 false HR.out).mono ?_; rintro e w3 ⟨rfl, b3⟩
  have HB3 := hid (Bl.call HB1.out b3)
  clear b3
  go_wp2
  exact bodyPost_ret (v := .tuple #[.string (str []), .int .i64 1]) (by simp [results, Try.results13, go_sem, str]) rfl ⟨rfl, HB3.out⟩
end Go.Proofs.Ytbafbnkmmpaomaa
