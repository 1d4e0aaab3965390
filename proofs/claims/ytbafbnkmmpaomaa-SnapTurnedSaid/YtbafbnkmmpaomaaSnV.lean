/- The walk of SnapOnce. -/
import Derived.Test.YtbafbnkmmpaomaaSnS
namespace Go.Proofs.Ytbafbnkmmpaomaa
open Go.RowKit
set_option linter.unusedVariables false
set_option linter.unusedSimpArgs false
attribute [local go_sem ↓] Go.wp_at_zero Go.wp_at_succ
theorem stat_nil {w : World} {vh ve vs : Value} {nh ne ns : Nat} (h : StAt w st0 vh ve vs nh ne ns) : nh = 0 ∧ ne = 0 ∧ ns = 0 := by
  obtain ⟨h1, h2, h3⟩ := h
  have e1 := h1.len
  have e2 := h2.len
  have e3 := h3.len
  rw [len_hcz] at e1
  rw [len_eds] at e2
  rw [len_sls] at e3
  have k1 : st0.hs.length = 0 := rfl
  have k2 : st0.es.length = 0 := rfl
  have k3 : st0.ss.length = 0 := rfl
  omega
set_option maxRecDepth 100000 in
set_option maxHeartbeats 8000000 in
theorem snapOnce_walk (a : ByteArray) (w : World) : Calls Try.prog 5 #[.string a] w (IsTrue w) := by
  have HB := hid (Below.refl w.heap.size w)
  by_cases k1 : a.size ≤ 1000
  case neg =>
    have d1 : (1000 : Int) < (a.size : Int) := by omega
    go_enter Try.func5, Try.ntmps5
    go_wp2_with fail
    refine (awake_any _).mono ?_; rintro e w1 ⟨rfl, b1⟩
    go_wp2
    go_ret
    exact ⟨rfl, Bl.call HB.out b1⟩
  have d1 : ¬ (1000 : Int) < (a.size : Int) := by omega
  obtain ⟨l, rfl, hla⟩ := str_of a
  have hl : l.length ≤ 100000 := by omega
  clear k1
  by_cases hg : Good l
  case neg =>
    obtain ⟨s, hs⟩ : ∃ s, s = str l := ⟨_, rfl⟩
    have RX : Hid (∀ w : World, Calls Try.prog 20 #[.string s] w (StP w st0 0 0 0 (.int .i64 12))) := hid (fun w => by rw [hs]; exact res_no' hl hg)
    rw [← hs] at d1 ⊢
    clear hs hg hla
    go_enter Try.func5, Try.ntmps5
    go_wp2_with fail
    refine (RX.out _).mono ?_; rintro e w1 ⟨A1, A2, A3, c1, c2, c3, n1, n2, n3, rfl, st_, b1⟩
    obtain ⟨rfl, rfl, rfl⟩ := stat_nil st_
    replace HB := hid (Bl.call HB.out b1)
    clear b1 st_
    go_wp2_with fail
    replace HB := hid (Bl.new HB.out (.cells #[.int .i64 0, .int .i64 0, .int .i64 0, .slice A1 0 c1, .slice A2 0 c2, .slice A3 0 c3] 30))
    refine (awake_any _).mono ?_; rintro e w2 ⟨rfl, b2⟩
    replace HB := hid (Bl.call HB.out b2)
    clear b2
    go_wp2
    go_ret
    exact ⟨rfl, HB.out⟩
  case pos =>
    obtain ⟨s, hs⟩ : ∃ s, s = str l := ⟨_, rfl⟩
    obtain ⟨S, hS⟩ : ∃ S, S = Sn.told l := ⟨_, rfl⟩
    have hsv : str (Sn.save S) = s := by rw [hS, hs, hg.2.2]
    have HSRS : Hid (SRS S) := hid (by rw [hS]; exact hg.2.1)
    have HW : Hid (Wide S) := hid (by rw [hS]; exact wide_told l)
    have HES : Hid (S.es.length ≤ 100000) := hid (by rw [hS]; exact told_es l hl)
    have RY : Hid (∀ w : World, Calls Try.prog 20 #[.string s] w (StP w S S.N S.L S.R (.int .i64 0))) := hid (fun w => by rw [hs, hS]; exact (res_yes hl hg).mono fun _ _ h => h.out)
    rw [← hs] at d1 ⊢
    have HSV := hid hsv
    clear hs hg hla hS hsv
    go_enter Try.func5, Try.ntmps5
    go_wp2_with fail
    refine (RY.out _).mono ?_; rintro e w1 ⟨A1, A2, A3, c1, c2, c3, n1, n2, n3, rfl, st_, b1⟩
    have U1 := hid st_.1
    have U2 := hid st_.2.1
    have U3 := hid st_.2.2
    replace HB := hid (Bl.call HB.out b1)
    clear b1 st_
    have HLE : Hid (n2 ≤ 100000) := hid (by have h1 := U2.out.len; rw [len_eds] at h1; have := HES.out; omega)
    go_wp2_with fail
    obtain ⟨w2, hw2⟩ : ∃ W, W = w1.alloc (.cells #[.int .i64 S.N, .int .i64 S.L, .int .i64 S.R, .slice A1 n1 c1, .slice A2 n2 c2, .slice A3 n3 c3] 30) := ⟨_, rfl⟩
    obtain ⟨KT, hKT⟩ : ∃ K, K = w1.heap.size := ⟨_, rfl⟩
    have DT : Hid (Blk w2 KT 30 [.int .i64 S.N, .int .i64 S.L, .int .i64 S.R, .slice A1 n1 c1, .slice A2 n2 c2, .slice A3 n3 c3]) := hid (by rw [hw2, hKT]; exact Blk.new _ _ _)
    have b2 : Below w1.heap.size w1 w2 := by rw [hw2]; exact bel_new _ _
    rw [← hw2, ← hKT]
    replace U1 := hid (U1.out.call b2)
    replace U2 := hid (U2.out.call b2)
    replace U3 := hid (U3.out.call b2)
    replace HB := hid (Bl.call HB.out b2)
    clear b2 hw2 hKT
    refine (save_any U1.out U2.out U3.out HLE.out HSRS.out HW.out).mono ?_; rintro e w3 ⟨rfl, b3⟩
    replace U1 := hid (U1.out.call b3)
    replace U2 := hid (U2.out.call b3)
    replace U3 := hid (U3.out.call b3)
    replace DT := hid (DT.out.below b3 DT.out.lt)
    replace HB := hid (Bl.call HB.out b3)
    clear b3
    rw [HSV.out]
    have x0 := DT.out.cell 0
    have x1 := DT.out.cell 1
    have x2 := DT.out.cell 2
    have x3 := DT.out.cell 3
    have x4 := DT.out.cell 4
    have x5 := DT.out.cell 5
    have hle6 : n2 ≤ 1000000 := by have := HLE.out; omega
    go_wp2_with fail
    refine (sr_any U1.out U2.out U3.out hle6 true ⟨fun _ => rfl, fun _ => HSRS.out⟩).mono ?_; rintro e w4 ⟨rfl, b4⟩
    replace HB := hid (Bl.call HB.out b4)
    clear b4 x0 x1 x2 x3 x4 x5
    go_wp2_with fail
    refine (awake_any _).mono ?_; rintro e w5 ⟨rfl, b5⟩
    replace HB := hid (Bl.call HB.out b5)
    clear b5
    go_wp2
    go_ret
    exact ⟨rfl, HB.out⟩
end Go.Proofs.Ytbafbnkmmpaomaa
