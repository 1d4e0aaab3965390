/- Contracts of Small, small. -/
import Derived.Test.YtbafbnkmmpaomaaSnN
namespace Go.Proofs.Ytbafbnkmmpaomaa
open Go.RowKit
set_option linter.unusedVariables false
set_option linter.unusedSimpArgs false
def SmG (N L R : Int) (nh ne : Nat) : Prop := N ≤ 16 ∧ L ≤ 5 ∧ R ≤ 3 ∧ ne ≤ 40 ∧ nh ≤ 20
def SmS (N L R : Int) (nh ne ns : Nat) : Prop := SmG N L R nh ne ∧ ns ≤ 20
set_option maxRecDepth 100000 in
theorem smallg_is {N L R : Int} {A1 A2 : Option Addr} {nh c1 ne c2 : Nat} {w : World} (h1 : nh ≤ maxLen) (h2 : ne ≤ maxLen) (b : Bool) (hb : SmG N L R nh ne ↔ b = true) :
    Calls Try.prog 26 #[grV N L R (.slice A1 nh c1) (.slice A2 ne c2)] w fun e w' => e = .returned (.bool b) ∧ Below w.heap.size w w' := by
  unfold grV
  have HB := hid (bel_new w (.cells #[.int .i64 N, .int .i64 L, .int .i64 R, .slice A1 nh c1, .slice A2 ne c2] 27))
  have HR := hid hb
  clear hb
  unfold maxLen at h1 h2
  have no : ¬ SmG N L R nh ne → Hid (b = false) := fun h => hid (not_true HR.out h)
  by_cases k1 : N ≤ 16
  case neg =>
    have HF := no (fun h => k1 h.1)
    clear no
    go_enter Try.func26, Try.ntmps26
    go_wp2
    go_ret
    exact ⟨by rw [HF.out]; rfl, HB.out⟩
  case pos =>
  by_cases k2 : L ≤ 5
  case neg =>
    have HF := no (fun h => k2 h.2.1)
    clear no
    go_enter Try.func26, Try.ntmps26
    go_wp2
    go_ret
    exact ⟨by rw [HF.out]; rfl, HB.out⟩
  case pos =>
  by_cases k3 : R ≤ 3
  case neg =>
    have HF := no (fun h => k3 h.2.2.1)
    clear no
    go_enter Try.func26, Try.ntmps26
    go_wp2
    go_ret
    exact ⟨by rw [HF.out]; rfl, HB.out⟩
  case pos =>
  by_cases k4 : (ne : Int) ≤ 40
  case neg =>
    have HF := no (fun h => k4 (by have := h.2.2.2.1; omega))
    clear no
    go_enter Try.func26, Try.ntmps26
    go_wp2
    go_ret
    exact ⟨by rw [HF.out]; rfl, HB.out⟩
  case pos =>
  by_cases k5 : (nh : Int) ≤ 20
  case neg =>
    have HF := no (fun h => k5 (by have := h.2.2.2.2; omega))
    clear no
    go_enter Try.func26, Try.ntmps26
    go_wp2
    go_ret
    exact ⟨by rw [HF.out]; rfl, HB.out⟩
  case pos =>
    have HF : Hid (b = true) := hid (HR.out.1 ⟨k1, k2, k3, by omega, by omega⟩)
    clear no
    go_enter Try.func26, Try.ntmps26
    go_wp2
    go_ret
    exact ⟨by rw [HF.out]; rfl, HB.out⟩
set_option maxRecDepth 100000 in
theorem small_is {N L R : Int} {A1 A2 A3 : Option Addr} {nh c1 ne c2 ns c3 : Nat} {w : World} (h1 : nh ≤ maxLen) (h2 : ne ≤ maxLen) (b : Bool) (hb : SmS N L R nh ne ns ↔ b = true) :
    Calls Try.prog 11 #[stV N L R (.slice A1 nh c1) (.slice A2 ne c2) (.slice A3 ns c3)] w fun e w' => e = .returned (.bool b) ∧ Below w.heap.size w w' := by
  unfold stV
  have HB := hid (bel_new w (.cells #[.int .i64 N, .int .i64 L, .int .i64 R, .slice A1 nh c1, .slice A2 ne c2, .slice A3 ns c3] 30))
  have DS := hid (Blk.new w 30 [.int .i64 N, .int .i64 L, .int .i64 R, .slice A1 nh c1, .slice A2 ne c2, .slice A3 ns c3])
  have HR := hid hb
  clear hb
  by_cases k1 : SmG N L R nh ne
  case neg =>
    have HF : Hid (b = false) := hid (not_true HR.out (fun h => k1 h.1))
    have HG : Hid (SmG N L R nh ne ↔ false = true) := hid (by simp only [k1]; simp)
    clear k1
    go_enter Try.func11, Try.ntmps11
    go_wp2_with fail
    refine (smallg_is h1 h2 false HG.out).mono ?_; rintro e w2 ⟨rfl, b2⟩
    have HB2 := hid (Bl.call HB.out b2)
    clear b2
    go_wp2
    go_ret
    exact ⟨by rw [HF.out]; rfl, HB2.out⟩
  case pos =>
    have HG := hid k1
    by_cases k2 : (ns : Int) ≤ 20
    all_goals
      clear k1
      go_enter Try.func11, Try.ntmps11
      go_wp2_with fail
      refine (smallg_is h1 h2 true ⟨fun _ => rfl, fun _ => HG.out⟩).mono ?_; rintro e w2 ⟨rfl, b2⟩
      have HB2 := hid (Bl.call HB.out b2)
      have x5 := (DS.out.below b2 DS.out.lt).cell 5
      clear b2
    · have HF : Hid (b = true) := hid (HR.out.1 ⟨HG.out, by omega⟩)
      go_wp2
      go_ret
      exact ⟨by rw [HF.out]; exact ret_bool (by first | (simp; done) | (simp; omega)), HB2.out⟩
    · have HF : Hid (b = false) := hid (not_true HR.out (fun h => by have := h.2; omega))
      go_wp2
      go_ret
      exact ⟨by rw [HF.out]; exact ret_bool (by first | (simp; done) | (simp; omega)), HB2.out⟩
end Go.Proofs.Ytbafbnkmmpaomaa
