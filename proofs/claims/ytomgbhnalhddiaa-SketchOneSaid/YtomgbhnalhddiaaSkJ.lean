/- The document's Ends, and Names of one word. -/
import Derived.Test.YtomgbhnalhddiaaSkI
import Derived.Test.YtomgbhnalhddiaaSketchC
namespace Go.Proofs.Ytomgbhnalhddiaa
open Go.RowKit
set_option linter.unusedVariables false
set_option linter.unusedSimpArgs false

def REnds (b : Bool) (w : World) (e : Ending) (w' : World) : Prop := ∃ x y, e = .returned (.tuple #[.int .i64 x, .int .i64 y, .bool b]) ∧ w = w'
theorem rends_yes {n : Nat} (hn : n < 18446744073709551616) (h : Sk.isE n = true) (w : World) : Calls Try.prog 23 #[.int .u64 (n : Int)] w (REnds true w) := by
  have h' : n / 16777216 < n % 16777216 := by unfold Sk.isE at h; simpa using h
  have q : ((n : Int) - (n : Int) % 16777216) / 16777216 = (n : Int) / 16777216 := by omega
  have t1 : ¬ (16777216 ≤ (n : Int) / 16777216) := by omega
  have t2 : ¬ ((n : Int) % 16777216 ≤ (n : Int) / 16777216) := by omega
  clear h h'
  go_enter Try.func23, Try.ntmps23
  go_wp2
  refine bodyPost_ret (v := .tuple #[.int .i64 ((n : Int) / 16777216), .int .i64 ((n : Int) % 16777216), .bool true]) ?_ rfl ⟨_, _, rfl, rfl⟩
  simp [results, Try.results23, go_sem]
theorem rends_no {n : Nat} (hn : n < 18446744073709551616) (h : Sk.isE n = false) (w : World) : Calls Try.prog 23 #[.int .u64 (n : Int)] w (REnds false w) := by
  have h' : n % 16777216 ≤ n / 16777216 := by unfold Sk.isE at h; simpa using h
  have q : ((n : Int) - (n : Int) % 16777216) / 16777216 = (n : Int) / 16777216 := by omega
  by_cases h2 : 16777216 ≤ n / 16777216
  · have t1 : 16777216 ≤ (n : Int) / 16777216 := by omega
    clear h h' h2
    go_enter Try.func23, Try.ntmps23
    go_wp2
    refine bodyPost_ret (v := .tuple #[.int .i64 0, .int .i64 0, .bool false]) ?_ rfl ⟨_, _, rfl, rfl⟩
    simp [results, Try.results23, go_sem]
  · have t1 : ¬ 16777216 ≤ (n : Int) / 16777216 := by omega
    have t2 : (n : Int) % 16777216 ≤ (n : Int) / 16777216 := by omega
    clear h h' h2
    go_enter Try.func23, Try.ntmps23
    go_wp2
    refine bodyPost_ret (v := .tuple #[.int .i64 0, .int .i64 0, .bool false]) ?_ rfl ⟨_, _, rfl, rfl⟩
    simp [results, Try.results23, go_sem]

theorem rnames_ok {va : Value} {n : Nat} {xs : List Nat} {w : World} (hn : n ≤ 488) (ha : Sl w w.heap.size 1 va n (us xs)) (sa : Sk.Small xs) :
    Calls Try.prog 14 #[va] w (NmPost xs w) := by
  have hal : xs.length = n := by have := ha.len; rw [len_us] at this; omega
  have HL := hid hal
  have HS := hid sa
  obtain ⟨A, c, rfl, hnc, hcm, hl1, hx1⟩ := ha
  have HX := hid hx1
  clear hal sa hx1 hl1 hcm
  have hni : (n : Int) ≤ 488 := by omega
  go_enter Try.func14, Try.ntmps14
  go_wp2_with fail
  go_loopw [3, 4] (fun nv i wr => ∃ k : Nat, i = .int .i64 (k : Int) ∧ k ≤ n ∧ Hid (wr.ownsRow w.heap.size 31 1 nv (Sk.nms (xs.take k)).length (us (Sk.nms (xs.take k)))) ∧ Hid (Below w.heap.size w wr)) (fun _ i _ => n - (intOf i).toNat)
  case atStart => exact ⟨0, rfl, Nat.zero_le _, World.ownsRow_nil _ _ _ _, hid (Below.refl _ _)⟩
  case round =>
    obtain ⟨k, rfl, hk, HO, HB⟩ := hrel
    by_cases hlt : k < n
    · have hki : (k : Int) < (n : Int) := by omega
      obtain ⟨b, o, rfl, hbb, hc⟩ := HX.out (by omega)
      have hkx : k < xs.length := by rw [HL.out]; exact hlt
      have q0 := us_cell hc hkx
      have c0 := ((HB.out).cell (p := ⟨b, o + k, none⟩) hbb).trans q0
      have hst := Sk.nms_step xs k hkx
      have hln := Sk.nms_len (xs.take k)
      have hln2 : (Sk.nms (xs.take k)).length ≤ 488 := by rw [List.length_take] at hln; omega
      have hsm := Sk.small_getD HS.out k
      have hgd : xs.getD k 0 = xs[k] := by simp [List.getD, hkx]
      rw [← hgd] at hst
      have HST := hid hst
      generalize xs.getD k 0 = x at *
      have HSZ := hid HB.out.size
      have HLN := hid hln2
      clear q0 hc hst hln hgd hln2
      cases hE : Sk.isE x
      · have HE := hid hE
        clear hE
        go_wp2_with fail
        refine (rends_no hsm HE.out _).mono ?_; rintro e w' ⟨x1, y1, rfl, rfl⟩
        go_wp2
        go_roundw
        case rel => exact ⟨k + 1, by go_num, by omega, by rw [HST.out, HE.out]; simpa using HO, HB⟩
        case measure => simp [intOf]; omega
      · have HE := hid hE
        clear hE
        go_wp2_with fail
        refine (rends_yes hsm HE.out _).mono ?_; rintro e w' ⟨x1, y1, rfl, rfl⟩
        go_wp2_with (at_builtin; refine wl_app1 rfl _ _ Tus rfl (news := [.int .u64 (x : Int)]) rfl HO.out rfl rfl (us_one [x]) (by have := HLN.out; omega) HSZ.out ?_)
        intro v5 w5 hO5 hB5
        have HO5 := hid hO5
        have HB5 := hid (HB.out.trans hB5)
        clear hO5 hB5
        go_wp2
        go_roundw
        case rel => exact ⟨k + 1, by go_num, by omega, by rw [HST.out, HE.out, ← us_app, List.length_append]; exact HO5, HB5⟩
        case measure => simp [intOf]; omega
    · obtain rfl : k = n := by omega
      have hki : ¬ (k : Int) < (k : Int) := by omega
      go_wp2
      go_ret
      exact ⟨_, rfl, by rw [List.take_of_length_le (by rw [HL.out]; exact Nat.le_refl _)] at HO; exact Sl.of_own HO.out, HB.out⟩
end Go.Proofs.Ytomgbhnalhddiaa
