/- The walk of SnapChanged. -/
import Derived.Test.YtbafbnkmmpaomaaSnT
namespace Go.Proofs.Ytbafbnkmmpaomaa
open Go.RowKit
set_option linter.unusedVariables false
set_option linter.unusedSimpArgs false
attribute [local go_sem ↓] Go.wp_at_zero Go.wp_at_succ
theorem alloc_drewN (w : World) (n : Nat) (o : Obj) : (w.drewN n).alloc o = (w.alloc o).drewN n := rfl
theorem cell_drewN (w : World) (n : Nat) (a : Addr) : (w.drewN n).cell? a = w.cell? a := rfl
theorem size_drewN (w : World) (n : Nat) : (w.drewN n).heap.size = w.heap.size := rfl
attribute [local go_sem] conv_one isByteV_some byteV_some alloc_drewN cell_drewN size_drewN
set_option maxRecDepth 100000 in
set_option maxHeartbeats 8000000 in
theorem snapChanged_walk (a : ByteArray) (at_ by_ : Int) (w : World) (hat : 0 ≤ at_ ∧ at_ ≤ 65535) (hby : 0 ≤ by_ ∧ by_ ≤ 255) : Calls Try.prog 6 #[.string a, .int .u16 at_, .int .u8 by_] w (IsTrue w) := by
  have HB0 := hid (Below.refl w.heap.size w)
  by_cases k1 : a.size ≤ 300
  case neg =>
    have d1 : (300 : Int) < (a.size : Int) := by omega
    go_enter Try.func6, Try.ntmps6
    go_wp2_with fail
    refine (awake_any _).mono ?_; rintro e w1 ⟨rfl, b1⟩
    go_wp2
    go_ret
    exact ⟨rfl, Bl.call HB0.out b1⟩
  have d1 : ¬ (300 : Int) < (a.size : Int) := by omega
  by_cases k2 : a.size = 0
  case pos =>
    have d2 : (a.size : Int) = 0 := by omega
    clear k1 d1
    go_enter Try.func6, Try.ntmps6
    go_wp2_with fail
    refine (awake_any _).mono ?_; rintro e w1 ⟨rfl, b1⟩
    go_wp2
    go_ret
    exact ⟨rfl, Bl.call HB0.out b1⟩
  have dk2 : ((a.size : Int) == 0) = false := by rw [beq_eq_false_iff_ne]; omega
  by_cases k3 : by_ = 0
  case pos =>
    subst k3
    go_enter Try.func6, Try.ntmps6
    go_wp2_with fail
    refine (awake_any _).mono ?_; rintro e w1 ⟨rfl, b1⟩
    go_wp2
    go_ret
    exact ⟨rfl, Bl.call HB0.out b1⟩
  clear d1 dk2
  have d3 : (by_ == 0) = false := by rw [beq_eq_false_iff_ne]; exact k3
  obtain ⟨t, rfl⟩ := Int.eq_ofNat_of_zero_le hat.1
  obtain ⟨y, rfl⟩ := Int.eq_ofNat_of_zero_le hby.1
  obtain ⟨l, rfl, hla⟩ := str_of a
  have hll : l.length ≠ 0 := by omega
  have hll3 : l.length ≤ 300 := by omega
  obtain ⟨i, hi⟩ : ∃ i, t % l.length = i := ⟨_, rfl⟩
  have hil : i < l.length := by rw [← hi]; exact Nat.mod_lt _ (by omega)
  have hi2 : (t : Int) % (l.length : Int) = (i : Int) := by rw [← hi]; omega
  obtain ⟨cap, W, hcv, hWs, hWb, hWc, hWf⟩ := conv_sb l w
  obtain ⟨x, hx⟩ : ∃ x, (l[i]).toNat = x := ⟨_, rfl⟩
  have xb : x < 256 := by rw [← hx]; exact (l[i]).toNat_lt
  obtain ⟨z, hz⟩ : ∃ z, (x + y) % 256 = z := ⟨_, rfl⟩
  have zb : z < 256 := by omega
  have hwr : IntKind.u8.wrap ((x : Int) + (y : Int)) = (z : Int) := by rw [IntKind.wrap_u8]; omega
  obtain ⟨y1, hy1⟩ : ∃ y1, y - 1 = y1 := ⟨_, rfl⟩
  have hwr2 : IntKind.u8.wrap ((y : Int) - 1) = (y1 : Int) := by rw [IntKind.wrap_u8]; omega
  have hne : UInt8.ofNat z ≠ l[i] := by
    intro e
    have := congrArg UInt8.toNat e
    rw [hx, UInt8.toNat_ofNat'] at this
    omega
  have hzz : ((UInt8.ofNat z).toNat : Int) = (z : Int) := by rw [UInt8.toNat_ofNat']; omega
  have q0 : W.cell? ⟨w.heap.size, i, none⟩ = some (.int .u8 (x : Int)) := by rw [← hx]; exact hWc i hil
  have f0 := hWf i hil
  have hset := set_cells (b := UInt8.ofNat z) hil hWc
  rw [hzz] at hset
  have hsum := Sn.sum_changed (l.take i) (l.drop (i + 1)) hne
  rw [← Sn.set_split hil, ← Sn.self_split hil] at hsum
  have hsum2 := Sn.sum_changed l [] (show UInt8.ofNat y ≠ UInt8.ofNat y1 by
    intro e
    have := congrArg UInt8.toNat e
    rw [UInt8.toNat_ofNat', UInt8.toNat_ofNat'] at this
    omega)
  obtain ⟨l2, hl2⟩ : ∃ l2, l2 = l.set i (UInt8.ofNat z) := ⟨_, rfl⟩
  have hl2n : l2.length = l.length := by rw [hl2]; simp
  rw [← hl2] at hset hsum
  have HSET := hid hset
  have HN := hid hl2n
  obtain ⟨s, hs⟩ : ∃ s, s = str l := ⟨_, rfl⟩
  obtain ⟨s2, hs2⟩ : ∃ s2, s2 = str l2 := ⟨_, rfl⟩
  obtain ⟨x1, hx1⟩ : ∃ x1, Sn.sum l2 = x1 := ⟨_, rfl⟩
  obtain ⟨x2, hx2⟩ : ∃ x2, Sn.sum l = x2 := ⟨_, rfl⟩
  obtain ⟨x3, hx3⟩ : ∃ x3, Sn.sum (l ++ [UInt8.ofNat y]) = x3 := ⟨_, rfl⟩
  obtain ⟨x4, hx4⟩ : ∃ x4, Sn.sum (l ++ [UInt8.ofNat y1]) = x4 := ⟨_, rfl⟩
  rw [hx1, hx2] at hsum
  rw [hx3, hx4] at hsum2
  have SA : Hid (∀ w : World, Calls Try.prog 17 #[.string s2] w fun e w' => e = .returned (.int .u64 (x1 : Int)) ∧ Qt w w') := hid (fun w => by rw [← hx1, hs2]; exact bsum_any (by omega))
  have SB : Hid (∀ w : World, Calls Try.prog 17 #[.string s] w fun e w' => e = .returned (.int .u64 (x2 : Int)) ∧ Qt w w') := hid (fun w => by rw [← hx2, hs]; exact bsum_any (by omega))
  have SC : Hid (∀ w : World, Calls Try.prog 17 #[.string (s ++ strOfNums [(y : Int)])] w fun e w' => e = .returned (.int .u64 (x3 : Int)) ∧ Qt w w') := hid (fun w => by rw [← hx3, hs, nums_one, str_app]; exact bsum_any (by simp; omega))
  have SD : Hid (∀ w : World, Calls Try.prog 17 #[.string (s ++ strOfNums [(y1 : Int)])] w fun e w' => e = .returned (.int .u64 (x4 : Int)) ∧ Qt w w') := hid (fun w => by rw [← hx4, hs, nums_one, str_app]; exact bsum_any (by simp; omega))
  have e1 : ((x1 : Int) != (x2 : Int)) = true := by simp; omega
  have e2 : ((x3 : Int) != (x4 : Int)) = true := by simp; omega
  have hsz : s.size = l.length := by rw [hs, str_size]
  obtain ⟨m, hm⟩ : ∃ m, m = l.length := ⟨_, rfl⟩
  rw [← hs] at hcv ⊢
  rw [← hm] at hsz hcv hi2 hil hll3 hl2n
  have d1 : ¬ (300 : Int) < (m : Int) := by omega
  have d2 : ((m : Int) == 0) = false := by rw [beq_eq_false_iff_ne]; omega
  have HC3' := hid (conv_bs (w := (W.setCell ⟨w.heap.size, i, none⟩ (.int .u8 (z : Int))).drew) (cap := cap) hl2n (fun j h => by have := hset j h; simpa using this))
  rw [← hs2] at HC3'
  have AW : Hid (∀ w', Calls Try.prog 12 #[] w' fun e w'' => e = .returned (.bool true) ∧ Below w'.heap.size w' w'') := hid (fun w' => awake_any w')
  obtain ⟨W2, hW2⟩ : ∃ W2, W2 = W.setCell ⟨w.heap.size, i, none⟩ (.int .u8 (z : Int)) := ⟨_, rfl⟩
  obtain ⟨K, hK⟩ : ∃ K, K = w.heap.size := ⟨_, rfl⟩
  have HB : Hid (Below w.heap.size w W2) := hid (by rw [hW2]; exact Below.setCell hWb (Nat.le_refl _) _)
  have il : (i : Int) < (m : Int) := by omega
  have m300 : m ≤ 300 := by omega
  rw [← hW2, ← hK] at HC3'
  rw [← hK] at q0 f0 hW2 hcv
  have HW2 := hid hW2
  have HK := hid hK
  clear hW2 hK hset HSET hsum hsum2 hx1 hx2 hx3 hx4 hs hs2 hl2 hWc hWf hx hne hzz hll hWs hWb hl2n HN hla hi hm hll3 k1 k2
  have g1 : ¬ 9223372036854775807 < m + (strOfNums [(y : Int)]).size := by have e9 : (strOfNums [(y : Int)]).size = 1 := rfl; omega
  have g2 : ¬ 9223372036854775807 < m + (strOfNums [(y1 : Int)]).size := by have e9 : (strOfNums [(y1 : Int)]).size = 1 := rfl; omega
  clear hy1
  go_enter Try.func6, Try.ntmps6
  go_wp2_with fail
  rw [← HW2.out]
  have HC3 : (convert 50 9 (.slice (some ⟨K, 0, none⟩) m cap)).run Try.prog W2.drew = .ok (.string s2) W2.drew := HC3'.out
  go_region_law (first | (go_simp; go_at_call 17; (with_reducible refine (SA.out _).mono ?_); rintro e _ ⟨rfl, n5, rfl⟩) | (go_simp; go_at_call 17; (with_reducible refine (SB.out _).mono ?_); rintro e _ ⟨rfl, n6, rfl⟩) | (go_simp; go_at_call 17; (with_reducible refine (SC.out _).mono ?_); rintro e _ ⟨rfl, n7, rfl⟩) | (go_simp; go_at_call 17; (with_reducible refine (SD.out _).mono ?_); rintro e _ ⟨rfl, n8, rfl⟩) | (go_simp; go_at_call 12; (with_reducible refine (AW.out _).mono ?_); rintro e w9 ⟨rfl, b9⟩))
  all_goals
    go_wp2
    go_ret
    exact ⟨rfl, (by repeat (first | exact HB.out | refine Bl.new ?_ _ | refine Bl.call ?_ (by assumption) | refine Bl.qt ?_ (by assumption) | refine Bl.qt ?_ (qt_drew _) | refine Bl.qt ?_ (qt_of _ _)))⟩
end Go.Proofs.Ytbafbnkmmpaomaa
