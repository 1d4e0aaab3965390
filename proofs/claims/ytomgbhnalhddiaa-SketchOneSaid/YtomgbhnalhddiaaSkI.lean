/- The walk of SketchMerges. -/
import Derived.Test.YtomgbhnalhddiaaSkH
namespace Go.Proofs.Ytomgbhnalhddiaa
open Go.RowKit
set_option linter.unusedVariables false
set_option linter.unusedSimpArgs false
attribute [local go_sem ↓] Go.wp_at_zero Go.wp_at_succ

theorem nil_sl (w : World) : Sl w w.heap.size 1 (.slice none 0 0) 0 (us []) := Sl.none_ _ _ _
theorem rep_of {r v : Int} {n : Nat} (h : SOk r v n) : r * v = (n : Int) ∧ n ≤ 488 := by
  obtain ⟨⟨h1, h2, h3, h4⟩, h5⟩ := h
  have : r * v ≤ 8 * 61 := Int.mul_le_mul h2 h4 (by omega) (by omega)
  exact ⟨h5.symm, by omega⟩
theorem not_zero : ¬ SOk 0 0 0 := fun h => by have := h.1.1; omega
theorem mg_ok {r v : Int} {A A2 : Option Addr} {n c c2 : Nat} {xs ys zs : List Nat} {w : World} (h : SOk r v n) (ha : Sl w w.heap.size 1 (.slice A n c) n (us xs)) (hb : Sl w w.heap.size 1 (.slice A2 n c2) n (us ys)) (s : Sk.Small xs ∧ Sk.Small ys) (hz : Sk.xors xs ys = zs) :
    Calls Try.prog 10 #[.agg #[.int .i64 r, .int .i64 v, .slice A n c], .agg #[.int .i64 r, .int .i64 v, .slice A2 n c2]] w (SkPost r v n zs w) := by
  rw [← hz]; exact merge_ok h ha hb s.1 s.2
set_option maxHeartbeats 4000000 in
theorem merges_na (r v : Int) (A : Option Addr) (n c : Nat) (xa : List Nat) (r2 v2 : Int) (A2 : Option Addr) (n2 c2 : Nat) (xb : List Nat) (r3 v3 : Int) (A3 : Option Addr) (n3 c3 : Nat) (xc : List Nat) (w : World) (ha : Sl w w.heap.size 1 (.slice A n c) n (us xa)) (hb : Sl w w.heap.size 1 (.slice A2 n2 c2) n2 (us xb)) (hc : Sl w w.heap.size 1 (.slice A3 n3 c3) n3 (us xc)) (Ha : Hid (decide (n ≤ 600) = false)) : Calls Try.prog 5 #[.agg #[.int .i64 r, .int .i64 v, .slice A n c], .agg #[.int .i64 r2, .int .i64 v2, .slice A2 n2 c2], .agg #[.int .i64 r3, .int .i64 v3, .slice A3 n3 c3]] w (IsTrue w) := by
  obtain ⟨wx0, hwx0⟩ : ∃ z, z = w.alloc (.cells #[.int .i64 r, .int .i64 v, .slice A n c] 26) := ⟨_, rfl⟩
  obtain ⟨wx1, hwx1⟩ : ∃ z, z = wx0.alloc (.cells #[.int .i64 r2, .int .i64 v2, .slice A2 n2 c2] 26) := ⟨_, rfl⟩
  obtain ⟨w0, hw0⟩ : ∃ z, z = wx1.alloc (.cells #[.int .i64 r3, .int .i64 v3, .slice A3 n3 c3] 26) := ⟨_, rfl⟩
  obtain ⟨K2, hK2⟩ : ∃ K, K = w.heap.size := ⟨_, rfl⟩
  have s0 : wx0.heap.size = K2 + 1 := by rw [hwx0]; simp [hK2]
  have q0 : Below w.heap.size w wx0 := by rw [hwx0]; exact bel_new _ _
  have s1 : wx1.heap.size = K2 + 2 := by rw [hwx1]; simp [s0]
  have q1 : Below wx0.heap.size wx0 wx1 := by rw [hwx1]; exact bel_new _ _
  have s2 : w0.heap.size = K2 + 3 := by rw [hw0]; simp [s1]
  have q2 : Below wx1.heap.size wx1 w0 := by rw [hw0]; exact bel_new _ _
  have B2 : Hid (Blk w0 (K2) 26 [.int .i64 r, .int .i64 v, .slice A n c]) := hid (by rw [hK2]; exact (((show Blk wx0 w.heap.size 26 [.int .i64 r, .int .i64 v, .slice A n c] by rw [hwx0]; exact Blk.new _ _ _).on q1).on q2))
  have B3 : Hid (Blk w0 (K2 + 1) 26 [.int .i64 r2, .int .i64 v2, .slice A2 n2 c2]) := hid (by rw [← s0]; exact ((show Blk wx1 wx0.heap.size 26 [.int .i64 r2, .int .i64 v2, .slice A2 n2 c2] by rw [hwx1]; exact Blk.new _ _ _).on q2))
  have B4 : Hid (Blk w0 (K2 + 2) 26 [.int .i64 r3, .int .i64 v3, .slice A3 n3 c3]) := hid (by rw [← s1]; exact (show Blk w0 wx1.heap.size 26 [.int .i64 r3, .int .i64 v3, .slice A3 n3 c3] by rw [hw0]; exact Blk.new _ _ _))
  have HB0 : Hid (Below w.heap.size w w0) := hid (Bl.call (Bl.call q0 q1) q2)
  have HW : Hid (w0 = (((w.alloc (.cells #[.int .i64 r, .int .i64 v, .slice A n c] 26)).alloc (.cells #[.int .i64 r2, .int .i64 v2, .slice A2 n2 c2] 26)).alloc (.cells #[.int .i64 r3, .int .i64 v3, .slice A3 n3 c3] 26))) := hid (by rw [hw0, hwx1, hwx0])
  have HK : Hid (K2 = w.heap.size) := hid hK2
  clear hK2 hwx0 hwx1 hw0 s0 q0 s1 q1 s2 q2
  have HB := HB0
  have hbw : Below w.heap.size w w0 := HB0.out
  have V_a : Hid (Blk w0 K2 26 [.int .i64 r, .int .i64 v, .slice A n c]) := B2
  have V_b : Hid (Blk w0 (K2 + 1) 26 [.int .i64 r2, .int .i64 v2, .slice A2 n2 c2]) := B3
  have V_c : Hid (Blk w0 (K2 + 2) 26 [.int .i64 r3, .int .i64 v3, .slice A3 n3 c3]) := B4
  have S_a := hid (ha.call hbw)
  have S_b := hid (hb.call hbw)
  have S_c := hid (hc.call hbw)
  clear B2 B3 B4 HB0 hbw ha hb hc
  go_enter Try.func5, Try.ntmps5
  go_upto_region 1 with (fail)
  rw [← HW.out, ← HK.out]
  have ka0 := V_a.out.cell 0
  have ka1 := V_a.out.cell 1
  have ka2 := V_a.out.cell 2
  go_wp2_with fail
  refine (lsmall_is false S_a.out Ha.out).mono ?_; rintro e w1 ⟨rfl, bb⟩
  clear ka0 ka1 ka2
  replace V_a := hid (V_a.out.on bb)
  replace S_a := hid (S_a.out.call bb)
  replace V_b := hid (V_b.out.on bb)
  replace S_b := hid (S_b.out.call bb)
  replace V_c := hid (V_c.out.on bb)
  replace S_c := hid (S_c.out.call bb)
  replace HB := hid (Bl.call HB.out bb)
  clear bb
  go_wp2_with fail
  refine (skAwake_any _).mono ?_; rintro e w' ⟨rfl, hb⟩
  go_wp2
  go_ret
  exact ⟨rfl, Bl.call HB.out hb⟩
set_option maxHeartbeats 4000000 in
theorem merges_nb (r v : Int) (A : Option Addr) (n c : Nat) (xa : List Nat) (r2 v2 : Int) (A2 : Option Addr) (n2 c2 : Nat) (xb : List Nat) (r3 v3 : Int) (A3 : Option Addr) (n3 c3 : Nat) (xc : List Nat) (w : World) (ha : Sl w w.heap.size 1 (.slice A n c) n (us xa)) (hb : Sl w w.heap.size 1 (.slice A2 n2 c2) n2 (us xb)) (hc : Sl w w.heap.size 1 (.slice A3 n3 c3) n3 (us xc)) (Ha : Hid (decide (n ≤ 600) = true)) (Hb : Hid (decide (n2 ≤ 600) = false)) : Calls Try.prog 5 #[.agg #[.int .i64 r, .int .i64 v, .slice A n c], .agg #[.int .i64 r2, .int .i64 v2, .slice A2 n2 c2], .agg #[.int .i64 r3, .int .i64 v3, .slice A3 n3 c3]] w (IsTrue w) := by
  obtain ⟨wx0, hwx0⟩ : ∃ z, z = w.alloc (.cells #[.int .i64 r, .int .i64 v, .slice A n c] 26) := ⟨_, rfl⟩
  obtain ⟨wx1, hwx1⟩ : ∃ z, z = wx0.alloc (.cells #[.int .i64 r2, .int .i64 v2, .slice A2 n2 c2] 26) := ⟨_, rfl⟩
  obtain ⟨w0, hw0⟩ : ∃ z, z = wx1.alloc (.cells #[.int .i64 r3, .int .i64 v3, .slice A3 n3 c3] 26) := ⟨_, rfl⟩
  obtain ⟨K2, hK2⟩ : ∃ K, K = w.heap.size := ⟨_, rfl⟩
  have s0 : wx0.heap.size = K2 + 1 := by rw [hwx0]; simp [hK2]
  have q0 : Below w.heap.size w wx0 := by rw [hwx0]; exact bel_new _ _
  have s1 : wx1.heap.size = K2 + 2 := by rw [hwx1]; simp [s0]
  have q1 : Below wx0.heap.size wx0 wx1 := by rw [hwx1]; exact bel_new _ _
  have s2 : w0.heap.size = K2 + 3 := by rw [hw0]; simp [s1]
  have q2 : Below wx1.heap.size wx1 w0 := by rw [hw0]; exact bel_new _ _
  have B2 : Hid (Blk w0 (K2) 26 [.int .i64 r, .int .i64 v, .slice A n c]) := hid (by rw [hK2]; exact (((show Blk wx0 w.heap.size 26 [.int .i64 r, .int .i64 v, .slice A n c] by rw [hwx0]; exact Blk.new _ _ _).on q1).on q2))
  have B3 : Hid (Blk w0 (K2 + 1) 26 [.int .i64 r2, .int .i64 v2, .slice A2 n2 c2]) := hid (by rw [← s0]; exact ((show Blk wx1 wx0.heap.size 26 [.int .i64 r2, .int .i64 v2, .slice A2 n2 c2] by rw [hwx1]; exact Blk.new _ _ _).on q2))
  have B4 : Hid (Blk w0 (K2 + 2) 26 [.int .i64 r3, .int .i64 v3, .slice A3 n3 c3]) := hid (by rw [← s1]; exact (show Blk w0 wx1.heap.size 26 [.int .i64 r3, .int .i64 v3, .slice A3 n3 c3] by rw [hw0]; exact Blk.new _ _ _))
  have HB0 : Hid (Below w.heap.size w w0) := hid (Bl.call (Bl.call q0 q1) q2)
  have HW : Hid (w0 = (((w.alloc (.cells #[.int .i64 r, .int .i64 v, .slice A n c] 26)).alloc (.cells #[.int .i64 r2, .int .i64 v2, .slice A2 n2 c2] 26)).alloc (.cells #[.int .i64 r3, .int .i64 v3, .slice A3 n3 c3] 26))) := hid (by rw [hw0, hwx1, hwx0])
  have HK : Hid (K2 = w.heap.size) := hid hK2
  clear hK2 hwx0 hwx1 hw0 s0 q0 s1 q1 s2 q2
  have HB := HB0
  have hbw : Below w.heap.size w w0 := HB0.out
  have V_a : Hid (Blk w0 K2 26 [.int .i64 r, .int .i64 v, .slice A n c]) := B2
  have V_b : Hid (Blk w0 (K2 + 1) 26 [.int .i64 r2, .int .i64 v2, .slice A2 n2 c2]) := B3
  have V_c : Hid (Blk w0 (K2 + 2) 26 [.int .i64 r3, .int .i64 v3, .slice A3 n3 c3]) := B4
  have S_a := hid (ha.call hbw)
  have S_b := hid (hb.call hbw)
  have S_c := hid (hc.call hbw)
  clear B2 B3 B4 HB0 hbw ha hb hc
  go_enter Try.func5, Try.ntmps5
  go_upto_region 1 with (fail)
  rw [← HW.out, ← HK.out]
  have ka0 := V_a.out.cell 0
  have ka1 := V_a.out.cell 1
  have ka2 := V_a.out.cell 2
  go_wp2_with fail
  refine (lsmall_is true S_a.out Ha.out).mono ?_; rintro e w1 ⟨rfl, bb⟩
  clear ka0 ka1 ka2
  replace V_a := hid (V_a.out.on bb)
  replace S_a := hid (S_a.out.call bb)
  replace V_b := hid (V_b.out.on bb)
  replace S_b := hid (S_b.out.call bb)
  replace V_c := hid (V_c.out.on bb)
  replace S_c := hid (S_c.out.call bb)
  replace HB := hid (Bl.call HB.out bb)
  clear bb
  have kb0 := V_b.out.cell 0
  have kb1 := V_b.out.cell 1
  have kb2 := V_b.out.cell 2
  go_wp2_with fail
  refine (lsmall_is false S_b.out Hb.out).mono ?_; rintro e w2 ⟨rfl, bb⟩
  clear kb0 kb1 kb2
  replace V_a := hid (V_a.out.on bb)
  replace S_a := hid (S_a.out.call bb)
  replace V_b := hid (V_b.out.on bb)
  replace S_b := hid (S_b.out.call bb)
  replace V_c := hid (V_c.out.on bb)
  replace S_c := hid (S_c.out.call bb)
  replace HB := hid (Bl.call HB.out bb)
  clear bb
  go_wp2_with fail
  refine (skAwake_any _).mono ?_; rintro e w' ⟨rfl, hb⟩
  go_wp2
  go_ret
  exact ⟨rfl, Bl.call HB.out hb⟩
set_option maxHeartbeats 4000000 in
theorem merges_nc (r v : Int) (A : Option Addr) (n c : Nat) (xa : List Nat) (r2 v2 : Int) (A2 : Option Addr) (n2 c2 : Nat) (xb : List Nat) (r3 v3 : Int) (A3 : Option Addr) (n3 c3 : Nat) (xc : List Nat) (w : World) (ha : Sl w w.heap.size 1 (.slice A n c) n (us xa)) (hb : Sl w w.heap.size 1 (.slice A2 n2 c2) n2 (us xb)) (hc : Sl w w.heap.size 1 (.slice A3 n3 c3) n3 (us xc)) (Ha : Hid (decide (n ≤ 600) = true)) (Hb : Hid (decide (n2 ≤ 600) = true)) (Hc : Hid (decide (n3 ≤ 600) = false)) : Calls Try.prog 5 #[.agg #[.int .i64 r, .int .i64 v, .slice A n c], .agg #[.int .i64 r2, .int .i64 v2, .slice A2 n2 c2], .agg #[.int .i64 r3, .int .i64 v3, .slice A3 n3 c3]] w (IsTrue w) := by
  obtain ⟨wx0, hwx0⟩ : ∃ z, z = w.alloc (.cells #[.int .i64 r, .int .i64 v, .slice A n c] 26) := ⟨_, rfl⟩
  obtain ⟨wx1, hwx1⟩ : ∃ z, z = wx0.alloc (.cells #[.int .i64 r2, .int .i64 v2, .slice A2 n2 c2] 26) := ⟨_, rfl⟩
  obtain ⟨w0, hw0⟩ : ∃ z, z = wx1.alloc (.cells #[.int .i64 r3, .int .i64 v3, .slice A3 n3 c3] 26) := ⟨_, rfl⟩
  obtain ⟨K2, hK2⟩ : ∃ K, K = w.heap.size := ⟨_, rfl⟩
  have s0 : wx0.heap.size = K2 + 1 := by rw [hwx0]; simp [hK2]
  have q0 : Below w.heap.size w wx0 := by rw [hwx0]; exact bel_new _ _
  have s1 : wx1.heap.size = K2 + 2 := by rw [hwx1]; simp [s0]
  have q1 : Below wx0.heap.size wx0 wx1 := by rw [hwx1]; exact bel_new _ _
  have s2 : w0.heap.size = K2 + 3 := by rw [hw0]; simp [s1]
  have q2 : Below wx1.heap.size wx1 w0 := by rw [hw0]; exact bel_new _ _
  have B2 : Hid (Blk w0 (K2) 26 [.int .i64 r, .int .i64 v, .slice A n c]) := hid (by rw [hK2]; exact (((show Blk wx0 w.heap.size 26 [.int .i64 r, .int .i64 v, .slice A n c] by rw [hwx0]; exact Blk.new _ _ _).on q1).on q2))
  have B3 : Hid (Blk w0 (K2 + 1) 26 [.int .i64 r2, .int .i64 v2, .slice A2 n2 c2]) := hid (by rw [← s0]; exact ((show Blk wx1 wx0.heap.size 26 [.int .i64 r2, .int .i64 v2, .slice A2 n2 c2] by rw [hwx1]; exact Blk.new _ _ _).on q2))
  have B4 : Hid (Blk w0 (K2 + 2) 26 [.int .i64 r3, .int .i64 v3, .slice A3 n3 c3]) := hid (by rw [← s1]; exact (show Blk w0 wx1.heap.size 26 [.int .i64 r3, .int .i64 v3, .slice A3 n3 c3] by rw [hw0]; exact Blk.new _ _ _))
  have HB0 : Hid (Below w.heap.size w w0) := hid (Bl.call (Bl.call q0 q1) q2)
  have HW : Hid (w0 = (((w.alloc (.cells #[.int .i64 r, .int .i64 v, .slice A n c] 26)).alloc (.cells #[.int .i64 r2, .int .i64 v2, .slice A2 n2 c2] 26)).alloc (.cells #[.int .i64 r3, .int .i64 v3, .slice A3 n3 c3] 26))) := hid (by rw [hw0, hwx1, hwx0])
  have HK : Hid (K2 = w.heap.size) := hid hK2
  clear hK2 hwx0 hwx1 hw0 s0 q0 s1 q1 s2 q2
  have HB := HB0
  have hbw : Below w.heap.size w w0 := HB0.out
  have V_a : Hid (Blk w0 K2 26 [.int .i64 r, .int .i64 v, .slice A n c]) := B2
  have V_b : Hid (Blk w0 (K2 + 1) 26 [.int .i64 r2, .int .i64 v2, .slice A2 n2 c2]) := B3
  have V_c : Hid (Blk w0 (K2 + 2) 26 [.int .i64 r3, .int .i64 v3, .slice A3 n3 c3]) := B4
  have S_a := hid (ha.call hbw)
  have S_b := hid (hb.call hbw)
  have S_c := hid (hc.call hbw)
  clear B2 B3 B4 HB0 hbw ha hb hc
  go_enter Try.func5, Try.ntmps5
  go_upto_region 1 with (fail)
  rw [← HW.out, ← HK.out]
  have ka0 := V_a.out.cell 0
  have ka1 := V_a.out.cell 1
  have ka2 := V_a.out.cell 2
  go_wp2_with fail
  refine (lsmall_is true S_a.out Ha.out).mono ?_; rintro e w1 ⟨rfl, bb⟩
  clear ka0 ka1 ka2
  replace V_a := hid (V_a.out.on bb)
  replace S_a := hid (S_a.out.call bb)
  replace V_b := hid (V_b.out.on bb)
  replace S_b := hid (S_b.out.call bb)
  replace V_c := hid (V_c.out.on bb)
  replace S_c := hid (S_c.out.call bb)
  replace HB := hid (Bl.call HB.out bb)
  clear bb
  have kb0 := V_b.out.cell 0
  have kb1 := V_b.out.cell 1
  have kb2 := V_b.out.cell 2
  go_wp2_with fail
  refine (lsmall_is true S_b.out Hb.out).mono ?_; rintro e w2 ⟨rfl, bb⟩
  clear kb0 kb1 kb2
  replace V_a := hid (V_a.out.on bb)
  replace S_a := hid (S_a.out.call bb)
  replace V_b := hid (V_b.out.on bb)
  replace S_b := hid (S_b.out.call bb)
  replace V_c := hid (V_c.out.on bb)
  replace S_c := hid (S_c.out.call bb)
  replace HB := hid (Bl.call HB.out bb)
  clear bb
  have kc0 := V_c.out.cell 0
  have kc1 := V_c.out.cell 1
  have kc2 := V_c.out.cell 2
  go_wp2_with fail
  refine (lsmall_is false S_c.out Hc.out).mono ?_; rintro e w3 ⟨rfl, bb⟩
  clear kc0 kc1 kc2
  replace V_a := hid (V_a.out.on bb)
  replace S_a := hid (S_a.out.call bb)
  replace V_b := hid (V_b.out.on bb)
  replace S_b := hid (S_b.out.call bb)
  replace V_c := hid (V_c.out.on bb)
  replace S_c := hid (S_c.out.call bb)
  replace HB := hid (Bl.call HB.out bb)
  clear bb
  go_wp2_with fail
  refine (skAwake_any _).mono ?_; rintro e w' ⟨rfl, hb⟩
  go_wp2
  go_ret
  exact ⟨rfl, Bl.call HB.out hb⟩
set_option maxRecDepth 100000 in
set_option maxHeartbeats 4000000 in
theorem merges_no (r v : Int) (A : Option Addr) (n c : Nat) (xa : List Nat) (r2 v2 : Int) (A2 : Option Addr) (n2 c2 : Nat) (xb : List Nat) (r3 v3 : Int) (A3 : Option Addr) (n3 c3 : Nat) (xc : List Nat) (w : World) (ha : Sl w w.heap.size 1 (.slice A n c) n (us xa)) (hb : Sl w w.heap.size 1 (.slice A2 n2 c2) n2 (us xb)) (hc : Sl w w.heap.size 1 (.slice A3 n3 c3) n3 (us xc)) (Ha : Hid (decide (n ≤ 600) = true)) (Hb : Hid (decide (n2 ≤ 600) = true)) (Hc : Hid (decide (n3 ≤ 600) = true)) (h : ¬ (SOk r v n ∧ SOk r2 v2 n2 ∧ r = r2 ∧ v = v2)) : Calls Try.prog 5 #[.agg #[.int .i64 r, .int .i64 v, .slice A n c], .agg #[.int .i64 r2, .int .i64 v2, .slice A2 n2 c2], .agg #[.int .i64 r3, .int .i64 v3, .slice A3 n3 c3]] w (IsTrue w) := by
  have H1 := hid h
  have H2 : Hid (¬ (SOk r2 v2 n2 ∧ SOk r v n ∧ r2 = r ∧ v2 = v)) := hid (fun k => h ⟨k.2.1, k.1, k.2.2.1.symm, k.2.2.2.symm⟩)
  clear h
  obtain ⟨wx0, hwx0⟩ : ∃ z, z = w.alloc (.cells #[.int .i64 r, .int .i64 v, .slice A n c] 26) := ⟨_, rfl⟩
  obtain ⟨wx1, hwx1⟩ : ∃ z, z = wx0.alloc (.cells #[.int .i64 r2, .int .i64 v2, .slice A2 n2 c2] 26) := ⟨_, rfl⟩
  obtain ⟨w0, hw0⟩ : ∃ z, z = wx1.alloc (.cells #[.int .i64 r3, .int .i64 v3, .slice A3 n3 c3] 26) := ⟨_, rfl⟩
  obtain ⟨K2, hK2⟩ : ∃ K, K = w.heap.size := ⟨_, rfl⟩
  have s0 : wx0.heap.size = K2 + 1 := by rw [hwx0]; simp [hK2]
  have q0 : Below w.heap.size w wx0 := by rw [hwx0]; exact bel_new _ _
  have s1 : wx1.heap.size = K2 + 2 := by rw [hwx1]; simp [s0]
  have q1 : Below wx0.heap.size wx0 wx1 := by rw [hwx1]; exact bel_new _ _
  have s2 : w0.heap.size = K2 + 3 := by rw [hw0]; simp [s1]
  have q2 : Below wx1.heap.size wx1 w0 := by rw [hw0]; exact bel_new _ _
  have B2 : Hid (Blk w0 (K2) 26 [.int .i64 r, .int .i64 v, .slice A n c]) := hid (by rw [hK2]; exact (((show Blk wx0 w.heap.size 26 [.int .i64 r, .int .i64 v, .slice A n c] by rw [hwx0]; exact Blk.new _ _ _).on q1).on q2))
  have B3 : Hid (Blk w0 (K2 + 1) 26 [.int .i64 r2, .int .i64 v2, .slice A2 n2 c2]) := hid (by rw [← s0]; exact ((show Blk wx1 wx0.heap.size 26 [.int .i64 r2, .int .i64 v2, .slice A2 n2 c2] by rw [hwx1]; exact Blk.new _ _ _).on q2))
  have B4 : Hid (Blk w0 (K2 + 2) 26 [.int .i64 r3, .int .i64 v3, .slice A3 n3 c3]) := hid (by rw [← s1]; exact (show Blk w0 wx1.heap.size 26 [.int .i64 r3, .int .i64 v3, .slice A3 n3 c3] by rw [hw0]; exact Blk.new _ _ _))
  have HB0 : Hid (Below w.heap.size w w0) := hid (Bl.call (Bl.call q0 q1) q2)
  have HW : Hid (w0 = (((w.alloc (.cells #[.int .i64 r, .int .i64 v, .slice A n c] 26)).alloc (.cells #[.int .i64 r2, .int .i64 v2, .slice A2 n2 c2] 26)).alloc (.cells #[.int .i64 r3, .int .i64 v3, .slice A3 n3 c3] 26))) := hid (by rw [hw0, hwx1, hwx0])
  have HK : Hid (K2 = w.heap.size) := hid hK2
  clear hK2 hwx0 hwx1 hw0 s0 q0 s1 q1 s2 q2
  have HB := HB0
  have hbw : Below w.heap.size w w0 := HB0.out
  have V_a : Hid (Blk w0 K2 26 [.int .i64 r, .int .i64 v, .slice A n c]) := B2
  have V_b : Hid (Blk w0 (K2 + 1) 26 [.int .i64 r2, .int .i64 v2, .slice A2 n2 c2]) := B3
  have V_c : Hid (Blk w0 (K2 + 2) 26 [.int .i64 r3, .int .i64 v3, .slice A3 n3 c3]) := B4
  have S_a := hid (ha.call hbw)
  have S_b := hid (hb.call hbw)
  have S_c := hid (hc.call hbw)
  clear B2 B3 B4 HB0 hbw ha hb hc
  go_enter Try.func5, Try.ntmps5
  go_upto_region 1 with (fail)
  rw [← HW.out, ← HK.out]
  have ka0 := V_a.out.cell 0
  have ka1 := V_a.out.cell 1
  have ka2 := V_a.out.cell 2
  go_wp2_with fail
  refine (lsmall_is true S_a.out Ha.out).mono ?_; rintro e w1 ⟨rfl, bb⟩
  clear ka0 ka1 ka2
  replace V_a := hid (V_a.out.on bb)
  replace S_a := hid (S_a.out.call bb)
  replace V_b := hid (V_b.out.on bb)
  replace S_b := hid (S_b.out.call bb)
  replace V_c := hid (V_c.out.on bb)
  replace S_c := hid (S_c.out.call bb)
  replace HB := hid (Bl.call HB.out bb)
  clear bb
  have kb0 := V_b.out.cell 0
  have kb1 := V_b.out.cell 1
  have kb2 := V_b.out.cell 2
  go_wp2_with fail
  refine (lsmall_is true S_b.out Hb.out).mono ?_; rintro e w2 ⟨rfl, bb⟩
  clear kb0 kb1 kb2
  replace V_a := hid (V_a.out.on bb)
  replace S_a := hid (S_a.out.call bb)
  replace V_b := hid (V_b.out.on bb)
  replace S_b := hid (S_b.out.call bb)
  replace V_c := hid (V_c.out.on bb)
  replace S_c := hid (S_c.out.call bb)
  replace HB := hid (Bl.call HB.out bb)
  clear bb
  have kc0 := V_c.out.cell 0
  have kc1 := V_c.out.cell 1
  have kc2 := V_c.out.cell 2
  go_wp2_with fail
  refine (lsmall_is true S_c.out Hc.out).mono ?_; rintro e w3 ⟨rfl, bb⟩
  clear kc0 kc1 kc2
  replace V_a := hid (V_a.out.on bb)
  replace S_a := hid (S_a.out.call bb)
  replace V_b := hid (V_b.out.on bb)
  replace S_b := hid (S_b.out.call bb)
  replace V_c := hid (V_c.out.on bb)
  replace S_c := hid (S_c.out.call bb)
  replace HB := hid (Bl.call HB.out bb)
  clear bb
  have ka0 := V_a.out.cell 0
  have ka1 := V_a.out.cell 1
  have ka2 := V_a.out.cell 2
  have kb0 := V_b.out.cell 0
  have kb1 := V_b.out.cell 1
  have kb2 := V_b.out.cell 2
  go_wp2_with fail
  refine (merge_no H1.out).mono ?_; rintro e w4 ⟨rfl, bb⟩
  clear ka0 ka1 ka2 kb0 kb1 kb2
  replace V_a := hid (V_a.out.on bb)
  replace S_a := hid (S_a.out.call bb)
  replace V_b := hid (V_b.out.on bb)
  replace S_b := hid (S_b.out.call bb)
  replace V_c := hid (V_c.out.on bb)
  replace S_c := hid (S_c.out.call bb)
  replace HB := hid (Bl.call HB.out bb)
  clear bb
  have S_x := hid (nil_sl w4)
  obtain ⟨w5, hw⟩ : ∃ z, z = w4.alloc (.cells #[.int .i64 0, .int .i64 0, .slice none 0 0] 26) := ⟨_, rfl⟩
  obtain ⟨Kx, hK⟩ : ∃ z, z = w4.heap.size := ⟨_, rfl⟩
  have bb : Below w4.heap.size w4 w5 := by rw [hw]; exact bel_new _ _
  have V_x' : Hid (Blk w5 Kx 26 [.int .i64 0, .int .i64 0, .slice none 0 0]) := hid (by rw [hw, hK]; exact Blk.new _ _ _)
  have S_x' := hid (S_x.out.call bb)
  have LO_x : Hid (w.heap.size ≤ Kx) := hid (by rw [hK]; exact HB.out.size)
  have NEax : Hid (K2 ≠ Kx) := hid (by have := V_a.out.lt; omega)
  have NExa : Hid (Kx ≠ K2) := hid (by have := V_a.out.lt; omega)
  have NEbx : Hid (K2 + 1 ≠ Kx) := hid (by have := V_b.out.lt; omega)
  have NExb : Hid (Kx ≠ K2 + 1) := hid (by have := V_b.out.lt; omega)
  have NEcx : Hid (K2 + 2 ≠ Kx) := hid (by have := V_c.out.lt; omega)
  have NExc : Hid (Kx ≠ K2 + 2) := hid (by have := V_c.out.lt; omega)
  replace V_a := hid (V_a.out.on bb)
  replace S_a := hid (S_a.out.call bb)
  replace V_b := hid (V_b.out.on bb)
  replace S_b := hid (S_b.out.call bb)
  replace V_c := hid (V_c.out.on bb)
  replace S_c := hid (S_c.out.call bb)
  replace HB := hid (Bl.call HB.out bb)
  clear S_x
  have V_x := V_x'
  have S_x := S_x'
  have HW5 := hid hw
  have HK5 := hid hK
  clear bb hw hK V_x' S_x'
  go_upto_region 4 with (fail)
  rw [← HW5.out, ← HK5.out]
  have ka0 := V_a.out.cell 0
  have ka1 := V_a.out.cell 1
  have ka2 := V_a.out.cell 2
  have kb0 := V_b.out.cell 0
  have kb1 := V_b.out.cell 1
  have kb2 := V_b.out.cell 2
  go_wp2_with fail
  refine (merge_no H2.out).mono ?_; rintro e w6 ⟨rfl, bb⟩
  clear ka0 ka1 ka2 kb0 kb1 kb2
  replace V_a := hid (V_a.out.on bb)
  replace S_a := hid (S_a.out.call bb)
  replace V_b := hid (V_b.out.on bb)
  replace S_b := hid (S_b.out.call bb)
  replace V_c := hid (V_c.out.on bb)
  replace S_c := hid (S_c.out.call bb)
  replace V_x := hid (V_x.out.on bb)
  replace S_x := hid (S_x.out.call bb)
  replace HB := hid (Bl.call HB.out bb)
  clear bb
  have S_y := hid (nil_sl w6)
  obtain ⟨w7, hw⟩ : ∃ z, z = w6.alloc (.cells #[.int .i64 0, .int .i64 0, .slice none 0 0] 26) := ⟨_, rfl⟩
  obtain ⟨Ky, hK⟩ : ∃ z, z = w6.heap.size := ⟨_, rfl⟩
  have bb : Below w6.heap.size w6 w7 := by rw [hw]; exact bel_new _ _
  have V_y' : Hid (Blk w7 Ky 26 [.int .i64 0, .int .i64 0, .slice none 0 0]) := hid (by rw [hw, hK]; exact Blk.new _ _ _)
  have S_y' := hid (S_y.out.call bb)
  have LO_y : Hid (w.heap.size ≤ Ky) := hid (by rw [hK]; exact HB.out.size)
  have NEay : Hid (K2 ≠ Ky) := hid (by have := V_a.out.lt; omega)
  have NEya : Hid (Ky ≠ K2) := hid (by have := V_a.out.lt; omega)
  have NEby : Hid (K2 + 1 ≠ Ky) := hid (by have := V_b.out.lt; omega)
  have NEyb : Hid (Ky ≠ K2 + 1) := hid (by have := V_b.out.lt; omega)
  have NEcy : Hid (K2 + 2 ≠ Ky) := hid (by have := V_c.out.lt; omega)
  have NEyc : Hid (Ky ≠ K2 + 2) := hid (by have := V_c.out.lt; omega)
  have NExy : Hid (Kx ≠ Ky) := hid (by have := V_x.out.lt; omega)
  have NEyx : Hid (Ky ≠ Kx) := hid (by have := V_x.out.lt; omega)
  replace V_a := hid (V_a.out.on bb)
  replace S_a := hid (S_a.out.call bb)
  replace V_b := hid (V_b.out.on bb)
  replace S_b := hid (S_b.out.call bb)
  replace V_c := hid (V_c.out.on bb)
  replace S_c := hid (S_c.out.call bb)
  replace V_x := hid (V_x.out.on bb)
  replace S_x := hid (S_x.out.call bb)
  replace HB := hid (Bl.call HB.out bb)
  clear S_y
  have V_y := V_y'
  have S_y := S_y'
  have HW7 := hid hw
  have HK7 := hid hK
  clear bb hw hK V_y' S_y'
  go_upto_region 5 with (fail)
  rw [← HW7.out, ← HK7.out]
  have kx0 := V_x.out.cell 0
  have kx1 := V_x.out.cell 1
  have kx2 := V_x.out.cell 2
  have ky0 := V_y.out.cell 0
  have ky1 := V_y.out.cell 1
  have ky2 := V_y.out.cell 2
  go_wp2_with fail
  refine (lsame_is (p := []) S_x.out S_y.out).mono ?_; rintro e w8 ⟨rfl, bb⟩
  clear kx0 kx1 kx2 ky0 ky1 ky2
  replace V_a := hid (V_a.out.on bb)
  replace S_a := hid (S_a.out.call bb)
  replace V_b := hid (V_b.out.on bb)
  replace S_b := hid (S_b.out.call bb)
  replace V_c := hid (V_c.out.on bb)
  replace S_c := hid (S_c.out.call bb)
  replace V_x := hid (V_x.out.on bb)
  replace S_x := hid (S_x.out.call bb)
  replace V_y := hid (V_y.out.on bb)
  replace S_y := hid (S_y.out.call bb)
  replace HB := hid (Bl.call HB.out bb)
  clear bb
  go_wp2_with fail
  refine (skAwake_any _).mono ?_; rintro e w' ⟨rfl, hb⟩
  go_wp2
  go_ret
  exact ⟨rfl, Bl.call HB.out hb⟩
set_option maxRecDepth 100000 in
set_option maxHeartbeats 8000000 in
theorem merges_half (r v : Int) (A : Option Addr) (n c : Nat) (xa : List Nat) (A2 : Option Addr) (c2 : Nat) (xb : List Nat) (r3 v3 : Int) (A3 : Option Addr) (n3 c3 : Nat) (xc : List Nat) (w : World) (ha : Sl w w.heap.size 1 (.slice A n c) n (us xa)) (hb : Sl w w.heap.size 1 (.slice A2 n c2) n (us xb)) (hc : Sl w w.heap.size 1 (.slice A3 n3 c3) n3 (us xc)) (Ha : Hid (decide (n ≤ 600) = true)) (Hb : Hid (decide (n ≤ 600) = true)) (Hc : Hid (decide (n3 ≤ 600) = true)) (sa : Sk.Small xa) (sb : Sk.Small xb) (hok : SOk r v n) (h : ¬ (SOk r v n ∧ SOk r3 v3 n3 ∧ r = r3 ∧ v = v3)) : Calls Try.prog 5 #[.agg #[.int .i64 r, .int .i64 v, .slice A n c], .agg #[.int .i64 r, .int .i64 v, .slice A2 n c2], .agg #[.int .i64 r3, .int .i64 v3, .slice A3 n3 c3]] w (IsTrue w) := by
  have hal : xa.length = n := by have := ha.len; rw [len_us] at this; omega
  have HAA : Hid (Sk.xors xa xa = List.replicate n 0) := hid (by rw [Sk.xors_self, hal])
  have HA0 : Hid (Sk.xors xa (List.replicate n 0) = xa) := hid (by have h := Sk.xors_zero xa; rwa [hal] at h)
  have HSab := hid (And.intro sa sb)
  have HSba := hid (And.intro sb sa)
  have HSaa := hid (And.intro sa sa)
  have HSa0 := hid (And.intro sa (Sk.small_rep n))
  have HOK := hid hok
  have HRN := hid (rep_of hok)
  have r0 : (r == r) = true := by simp
  have v0 : (v == v) = true := by simp
  have H1 := hid h
  have H2 : Hid (¬ (SOk r v n ∧ SOk 0 0 0 ∧ r = 0 ∧ v = 0)) := hid (fun k => not_zero k.2.1)
  clear h hok sa sb hal
  obtain ⟨wx0, hwx0⟩ : ∃ z, z = w.alloc (.cells #[.int .i64 r, .int .i64 v, .slice A n c] 26) := ⟨_, rfl⟩
  obtain ⟨wx1, hwx1⟩ : ∃ z, z = wx0.alloc (.cells #[.int .i64 r, .int .i64 v, .slice A2 n c2] 26) := ⟨_, rfl⟩
  obtain ⟨w0, hw0⟩ : ∃ z, z = wx1.alloc (.cells #[.int .i64 r3, .int .i64 v3, .slice A3 n3 c3] 26) := ⟨_, rfl⟩
  obtain ⟨K2, hK2⟩ : ∃ K, K = w.heap.size := ⟨_, rfl⟩
  have s0 : wx0.heap.size = K2 + 1 := by rw [hwx0]; simp [hK2]
  have q0 : Below w.heap.size w wx0 := by rw [hwx0]; exact bel_new _ _
  have s1 : wx1.heap.size = K2 + 2 := by rw [hwx1]; simp [s0]
  have q1 : Below wx0.heap.size wx0 wx1 := by rw [hwx1]; exact bel_new _ _
  have s2 : w0.heap.size = K2 + 3 := by rw [hw0]; simp [s1]
  have q2 : Below wx1.heap.size wx1 w0 := by rw [hw0]; exact bel_new _ _
  have B2 : Hid (Blk w0 (K2) 26 [.int .i64 r, .int .i64 v, .slice A n c]) := hid (by rw [hK2]; exact (((show Blk wx0 w.heap.size 26 [.int .i64 r, .int .i64 v, .slice A n c] by rw [hwx0]; exact Blk.new _ _ _).on q1).on q2))
  have B3 : Hid (Blk w0 (K2 + 1) 26 [.int .i64 r, .int .i64 v, .slice A2 n c2]) := hid (by rw [← s0]; exact ((show Blk wx1 wx0.heap.size 26 [.int .i64 r, .int .i64 v, .slice A2 n c2] by rw [hwx1]; exact Blk.new _ _ _).on q2))
  have B4 : Hid (Blk w0 (K2 + 2) 26 [.int .i64 r3, .int .i64 v3, .slice A3 n3 c3]) := hid (by rw [← s1]; exact (show Blk w0 wx1.heap.size 26 [.int .i64 r3, .int .i64 v3, .slice A3 n3 c3] by rw [hw0]; exact Blk.new _ _ _))
  have HB0 : Hid (Below w.heap.size w w0) := hid (Bl.call (Bl.call q0 q1) q2)
  have HW : Hid (w0 = (((w.alloc (.cells #[.int .i64 r, .int .i64 v, .slice A n c] 26)).alloc (.cells #[.int .i64 r, .int .i64 v, .slice A2 n c2] 26)).alloc (.cells #[.int .i64 r3, .int .i64 v3, .slice A3 n3 c3] 26))) := hid (by rw [hw0, hwx1, hwx0])
  have HK : Hid (K2 = w.heap.size) := hid hK2
  clear hK2 hwx0 hwx1 hw0 s0 q0 s1 q1 s2 q2
  have HB := HB0
  have hbw : Below w.heap.size w w0 := HB0.out
  have V_a : Hid (Blk w0 K2 26 [.int .i64 r, .int .i64 v, .slice A n c]) := B2
  have V_b : Hid (Blk w0 (K2 + 1) 26 [.int .i64 r, .int .i64 v, .slice A2 n c2]) := B3
  have V_c : Hid (Blk w0 (K2 + 2) 26 [.int .i64 r3, .int .i64 v3, .slice A3 n3 c3]) := B4
  have S_a := hid (ha.call hbw)
  have S_b := hid (hb.call hbw)
  have S_c := hid (hc.call hbw)
  clear B2 B3 B4 HB0 hbw ha hb hc
  go_enter Try.func5, Try.ntmps5
  go_upto_region 1 with (fail)
  rw [← HW.out, ← HK.out]
  have ka0 := V_a.out.cell 0
  have ka1 := V_a.out.cell 1
  have ka2 := V_a.out.cell 2
  go_wp2_with fail
  refine (lsmall_is true S_a.out Ha.out).mono ?_; rintro e w1 ⟨rfl, bb⟩
  clear ka0 ka1 ka2
  replace V_a := hid (V_a.out.on bb)
  replace S_a := hid (S_a.out.call bb)
  replace V_b := hid (V_b.out.on bb)
  replace S_b := hid (S_b.out.call bb)
  replace V_c := hid (V_c.out.on bb)
  replace S_c := hid (S_c.out.call bb)
  replace HB := hid (Bl.call HB.out bb)
  clear bb
  have kb0 := V_b.out.cell 0
  have kb1 := V_b.out.cell 1
  have kb2 := V_b.out.cell 2
  go_wp2_with fail
  refine (lsmall_is true S_b.out Hb.out).mono ?_; rintro e w2 ⟨rfl, bb⟩
  clear kb0 kb1 kb2
  replace V_a := hid (V_a.out.on bb)
  replace S_a := hid (S_a.out.call bb)
  replace V_b := hid (V_b.out.on bb)
  replace S_b := hid (S_b.out.call bb)
  replace V_c := hid (V_c.out.on bb)
  replace S_c := hid (S_c.out.call bb)
  replace HB := hid (Bl.call HB.out bb)
  clear bb
  have kc0 := V_c.out.cell 0
  have kc1 := V_c.out.cell 1
  have kc2 := V_c.out.cell 2
  go_wp2_with fail
  refine (lsmall_is true S_c.out Hc.out).mono ?_; rintro e w3 ⟨rfl, bb⟩
  clear kc0 kc1 kc2
  replace V_a := hid (V_a.out.on bb)
  replace S_a := hid (S_a.out.call bb)
  replace V_b := hid (V_b.out.on bb)
  replace S_b := hid (S_b.out.call bb)
  replace V_c := hid (V_c.out.on bb)
  replace S_c := hid (S_c.out.call bb)
  replace HB := hid (Bl.call HB.out bb)
  clear bb
  have ka0 := V_a.out.cell 0
  have ka1 := V_a.out.cell 1
  have ka2 := V_a.out.cell 2
  have kb0 := V_b.out.cell 0
  have kb1 := V_b.out.cell 1
  have kb2 := V_b.out.cell 2
  go_wp2_with fail
  refine (mg_ok HOK.out S_a.out S_b.out HSab.out (zs := Sk.xors xa xb) rfl).mono ?_; rintro e w4 ⟨vx, rfl, sx, bb⟩
  clear ka0 ka1 ka2 kb0 kb1 kb2
  replace V_a := hid (V_a.out.on bb)
  replace S_a := hid (S_a.out.call bb)
  replace V_b := hid (V_b.out.on bb)
  replace S_b := hid (S_b.out.call bb)
  replace V_c := hid (V_c.out.on bb)
  replace S_c := hid (S_c.out.call bb)
  replace HB := hid (Bl.call HB.out bb)
  have S_x := hid sx
  clear sx bb
  obtain ⟨Ax, cx, hvx, _, _, _, _⟩ := S_x.out
  subst hvx
  obtain ⟨w5, hw⟩ : ∃ z, z = w4.alloc (.cells #[.int .i64 r, .int .i64 v, .slice Ax n cx] 26) := ⟨_, rfl⟩
  obtain ⟨Kx, hK⟩ : ∃ z, z = w4.heap.size := ⟨_, rfl⟩
  have bb : Below w4.heap.size w4 w5 := by rw [hw]; exact bel_new _ _
  have V_x' : Hid (Blk w5 Kx 26 [.int .i64 r, .int .i64 v, .slice Ax n cx]) := hid (by rw [hw, hK]; exact Blk.new _ _ _)
  have S_x' := hid (S_x.out.call bb)
  have LO_x : Hid (w.heap.size ≤ Kx) := hid (by rw [hK]; exact HB.out.size)
  have NEax : Hid (K2 ≠ Kx) := hid (by have := V_a.out.lt; omega)
  have NExa : Hid (Kx ≠ K2) := hid (by have := V_a.out.lt; omega)
  have NEbx : Hid (K2 + 1 ≠ Kx) := hid (by have := V_b.out.lt; omega)
  have NExb : Hid (Kx ≠ K2 + 1) := hid (by have := V_b.out.lt; omega)
  have NEcx : Hid (K2 + 2 ≠ Kx) := hid (by have := V_c.out.lt; omega)
  have NExc : Hid (Kx ≠ K2 + 2) := hid (by have := V_c.out.lt; omega)
  replace V_a := hid (V_a.out.on bb)
  replace S_a := hid (S_a.out.call bb)
  replace V_b := hid (V_b.out.on bb)
  replace S_b := hid (S_b.out.call bb)
  replace V_c := hid (V_c.out.on bb)
  replace S_c := hid (S_c.out.call bb)
  replace HB := hid (Bl.call HB.out bb)
  clear S_x
  have V_x := V_x'
  have S_x := S_x'
  have HW5 := hid hw
  have HK5 := hid hK
  clear bb hw hK V_x' S_x'
  go_upto_region 4 with (fail)
  rw [← HW5.out, ← HK5.out]
  have ka0 := V_a.out.cell 0
  have ka1 := V_a.out.cell 1
  have ka2 := V_a.out.cell 2
  have kb0 := V_b.out.cell 0
  have kb1 := V_b.out.cell 1
  have kb2 := V_b.out.cell 2
  go_wp2_with fail
  refine (mg_ok HOK.out S_b.out S_a.out HSba.out (zs := Sk.xors xa xb) (Sk.xors_comm _ _)).mono ?_; rintro e w6 ⟨vy, rfl, sx, bb⟩
  clear ka0 ka1 ka2 kb0 kb1 kb2
  replace V_a := hid (V_a.out.on bb)
  replace S_a := hid (S_a.out.call bb)
  replace V_b := hid (V_b.out.on bb)
  replace S_b := hid (S_b.out.call bb)
  replace V_c := hid (V_c.out.on bb)
  replace S_c := hid (S_c.out.call bb)
  replace V_x := hid (V_x.out.on bb)
  replace S_x := hid (S_x.out.call bb)
  replace HB := hid (Bl.call HB.out bb)
  have S_y := hid sx
  clear sx bb
  obtain ⟨Ay, cy, hvx, _, _, _, _⟩ := S_y.out
  subst hvx
  obtain ⟨w7, hw⟩ : ∃ z, z = w6.alloc (.cells #[.int .i64 r, .int .i64 v, .slice Ay n cy] 26) := ⟨_, rfl⟩
  obtain ⟨Ky, hK⟩ : ∃ z, z = w6.heap.size := ⟨_, rfl⟩
  have bb : Below w6.heap.size w6 w7 := by rw [hw]; exact bel_new _ _
  have V_y' : Hid (Blk w7 Ky 26 [.int .i64 r, .int .i64 v, .slice Ay n cy]) := hid (by rw [hw, hK]; exact Blk.new _ _ _)
  have S_y' := hid (S_y.out.call bb)
  have LO_y : Hid (w.heap.size ≤ Ky) := hid (by rw [hK]; exact HB.out.size)
  have NEay : Hid (K2 ≠ Ky) := hid (by have := V_a.out.lt; omega)
  have NEya : Hid (Ky ≠ K2) := hid (by have := V_a.out.lt; omega)
  have NEby : Hid (K2 + 1 ≠ Ky) := hid (by have := V_b.out.lt; omega)
  have NEyb : Hid (Ky ≠ K2 + 1) := hid (by have := V_b.out.lt; omega)
  have NEcy : Hid (K2 + 2 ≠ Ky) := hid (by have := V_c.out.lt; omega)
  have NEyc : Hid (Ky ≠ K2 + 2) := hid (by have := V_c.out.lt; omega)
  have NExy : Hid (Kx ≠ Ky) := hid (by have := V_x.out.lt; omega)
  have NEyx : Hid (Ky ≠ Kx) := hid (by have := V_x.out.lt; omega)
  replace V_a := hid (V_a.out.on bb)
  replace S_a := hid (S_a.out.call bb)
  replace V_b := hid (V_b.out.on bb)
  replace S_b := hid (S_b.out.call bb)
  replace V_c := hid (V_c.out.on bb)
  replace S_c := hid (S_c.out.call bb)
  replace V_x := hid (V_x.out.on bb)
  replace S_x := hid (S_x.out.call bb)
  replace HB := hid (Bl.call HB.out bb)
  clear S_y
  have V_y := V_y'
  have S_y := S_y'
  have HW7 := hid hw
  have HK7 := hid hK
  clear bb hw hK V_y' S_y'
  go_upto_region 5 with (fail)
  rw [← HW7.out, ← HK7.out]
  have kx0 := V_x.out.cell 0
  have kx1 := V_x.out.cell 1
  have kx2 := V_x.out.cell 2
  have ky0 := V_y.out.cell 0
  have ky1 := V_y.out.cell 1
  have ky2 := V_y.out.cell 2
  go_wp2_with fail
  refine (lsame_is S_x.out S_y.out).mono ?_; rintro e w8 ⟨rfl, bb⟩
  clear kx0 kx1 kx2 ky0 ky1 ky2
  replace V_a := hid (V_a.out.on bb)
  replace S_a := hid (S_a.out.call bb)
  replace V_b := hid (V_b.out.on bb)
  replace S_b := hid (S_b.out.call bb)
  replace V_c := hid (V_c.out.on bb)
  replace S_c := hid (S_c.out.call bb)
  replace V_x := hid (V_x.out.on bb)
  replace S_x := hid (S_x.out.call bb)
  replace V_y := hid (V_y.out.on bb)
  replace S_y := hid (S_y.out.call bb)
  replace HB := hid (Bl.call HB.out bb)
  clear bb
  go_upto_region 9 with (fail)
  have kx0 := V_x.out.cell 0
  have kx1 := V_x.out.cell 1
  have kx2 := V_x.out.cell 2
  have kc0 := V_c.out.cell 0
  have kc1 := V_c.out.cell 1
  have kc2 := V_c.out.cell 2
  go_wp2_with fail
  refine (merge_no H1.out).mono ?_; rintro e w9 ⟨rfl, bb⟩
  clear kx0 kx1 kx2 kc0 kc1 kc2
  replace V_a := hid (V_a.out.on bb)
  replace S_a := hid (S_a.out.call bb)
  replace V_b := hid (V_b.out.on bb)
  replace S_b := hid (S_b.out.call bb)
  replace V_c := hid (V_c.out.on bb)
  replace S_c := hid (S_c.out.call bb)
  replace V_x := hid (V_x.out.on bb)
  replace S_x := hid (S_x.out.call bb)
  replace V_y := hid (V_y.out.on bb)
  replace S_y := hid (S_y.out.call bb)
  replace HB := hid (Bl.call HB.out bb)
  clear bb
  have S_p := hid (nil_sl w9)
  obtain ⟨w10, hw⟩ : ∃ z, z = w9.alloc (.cells #[.int .i64 0, .int .i64 0, .slice none 0 0] 26) := ⟨_, rfl⟩
  obtain ⟨Kp, hK⟩ : ∃ z, z = w9.heap.size := ⟨_, rfl⟩
  have bb : Below w9.heap.size w9 w10 := by rw [hw]; exact bel_new _ _
  have V_p' : Hid (Blk w10 Kp 26 [.int .i64 0, .int .i64 0, .slice none 0 0]) := hid (by rw [hw, hK]; exact Blk.new _ _ _)
  have S_p' := hid (S_p.out.call bb)
  have LO_p : Hid (w.heap.size ≤ Kp) := hid (by rw [hK]; exact HB.out.size)
  have NEap : Hid (K2 ≠ Kp) := hid (by have := V_a.out.lt; omega)
  have NEpa : Hid (Kp ≠ K2) := hid (by have := V_a.out.lt; omega)
  have NEbp : Hid (K2 + 1 ≠ Kp) := hid (by have := V_b.out.lt; omega)
  have NEpb : Hid (Kp ≠ K2 + 1) := hid (by have := V_b.out.lt; omega)
  have NEcp : Hid (K2 + 2 ≠ Kp) := hid (by have := V_c.out.lt; omega)
  have NEpc : Hid (Kp ≠ K2 + 2) := hid (by have := V_c.out.lt; omega)
  have NExp : Hid (Kx ≠ Kp) := hid (by have := V_x.out.lt; omega)
  have NEpx : Hid (Kp ≠ Kx) := hid (by have := V_x.out.lt; omega)
  have NEyp : Hid (Ky ≠ Kp) := hid (by have := V_y.out.lt; omega)
  have NEpy : Hid (Kp ≠ Ky) := hid (by have := V_y.out.lt; omega)
  replace V_a := hid (V_a.out.on bb)
  replace S_a := hid (S_a.out.call bb)
  replace V_b := hid (V_b.out.on bb)
  replace S_b := hid (S_b.out.call bb)
  replace V_c := hid (V_c.out.on bb)
  replace S_c := hid (S_c.out.call bb)
  replace V_x := hid (V_x.out.on bb)
  replace S_x := hid (S_x.out.call bb)
  replace V_y := hid (V_y.out.on bb)
  replace S_y := hid (S_y.out.call bb)
  replace HB := hid (Bl.call HB.out bb)
  clear S_p
  have V_p := V_p'
  have S_p := S_p'
  have HW10 := hid hw
  have HK10 := hid hK
  clear bb hw hK V_p' S_p'
  go_upto_region 10 with (fail)
  rw [← HW10.out, ← HK10.out]
  have kb0 := V_b.out.cell 0
  have kb1 := V_b.out.cell 1
  have kb2 := V_b.out.cell 2
  have kc0 := V_c.out.cell 0
  have kc1 := V_c.out.cell 1
  have kc2 := V_c.out.cell 2
  go_wp2_with fail
  refine (merge_no H1.out).mono ?_; rintro e w11 ⟨rfl, bb⟩
  clear kb0 kb1 kb2 kc0 kc1 kc2
  replace V_a := hid (V_a.out.on bb)
  replace S_a := hid (S_a.out.call bb)
  replace V_b := hid (V_b.out.on bb)
  replace S_b := hid (S_b.out.call bb)
  replace V_c := hid (V_c.out.on bb)
  replace S_c := hid (S_c.out.call bb)
  replace V_x := hid (V_x.out.on bb)
  replace S_x := hid (S_x.out.call bb)
  replace V_y := hid (V_y.out.on bb)
  replace S_y := hid (S_y.out.call bb)
  replace V_p := hid (V_p.out.on bb)
  replace S_p := hid (S_p.out.call bb)
  replace HB := hid (Bl.call HB.out bb)
  clear bb
  have S_q := hid (nil_sl w11)
  obtain ⟨w12, hw⟩ : ∃ z, z = w11.alloc (.cells #[.int .i64 0, .int .i64 0, .slice none 0 0] 26) := ⟨_, rfl⟩
  obtain ⟨Kq, hK⟩ : ∃ z, z = w11.heap.size := ⟨_, rfl⟩
  have bb : Below w11.heap.size w11 w12 := by rw [hw]; exact bel_new _ _
  have V_q' : Hid (Blk w12 Kq 26 [.int .i64 0, .int .i64 0, .slice none 0 0]) := hid (by rw [hw, hK]; exact Blk.new _ _ _)
  have S_q' := hid (S_q.out.call bb)
  have LO_q : Hid (w.heap.size ≤ Kq) := hid (by rw [hK]; exact HB.out.size)
  have NEaq : Hid (K2 ≠ Kq) := hid (by have := V_a.out.lt; omega)
  have NEqa : Hid (Kq ≠ K2) := hid (by have := V_a.out.lt; omega)
  have NEbq : Hid (K2 + 1 ≠ Kq) := hid (by have := V_b.out.lt; omega)
  have NEqb : Hid (Kq ≠ K2 + 1) := hid (by have := V_b.out.lt; omega)
  have NEcq : Hid (K2 + 2 ≠ Kq) := hid (by have := V_c.out.lt; omega)
  have NEqc : Hid (Kq ≠ K2 + 2) := hid (by have := V_c.out.lt; omega)
  have NExq : Hid (Kx ≠ Kq) := hid (by have := V_x.out.lt; omega)
  have NEqx : Hid (Kq ≠ Kx) := hid (by have := V_x.out.lt; omega)
  have NEyq : Hid (Ky ≠ Kq) := hid (by have := V_y.out.lt; omega)
  have NEqy : Hid (Kq ≠ Ky) := hid (by have := V_y.out.lt; omega)
  have NEpq : Hid (Kp ≠ Kq) := hid (by have := V_p.out.lt; omega)
  have NEqp : Hid (Kq ≠ Kp) := hid (by have := V_p.out.lt; omega)
  replace V_a := hid (V_a.out.on bb)
  replace S_a := hid (S_a.out.call bb)
  replace V_b := hid (V_b.out.on bb)
  replace S_b := hid (S_b.out.call bb)
  replace V_c := hid (V_c.out.on bb)
  replace S_c := hid (S_c.out.call bb)
  replace V_x := hid (V_x.out.on bb)
  replace S_x := hid (S_x.out.call bb)
  replace V_y := hid (V_y.out.on bb)
  replace S_y := hid (S_y.out.call bb)
  replace V_p := hid (V_p.out.on bb)
  replace S_p := hid (S_p.out.call bb)
  replace HB := hid (Bl.call HB.out bb)
  clear S_q
  have V_q := V_q'
  have S_q := S_q'
  have HW12 := hid hw
  have HK12 := hid hK
  clear bb hw hK V_q' S_q'
  go_upto_region 11 with (fail)
  rw [← HW12.out, ← HK12.out]
  have ka0 := V_a.out.cell 0
  have ka1 := V_a.out.cell 1
  have ka2 := V_a.out.cell 2
  have kq0 := V_q.out.cell 0
  have kq1 := V_q.out.cell 1
  have kq2 := V_q.out.cell 2
  go_wp2_with fail
  refine (merge_no H2.out).mono ?_; rintro e w13 ⟨rfl, bb⟩
  clear ka0 ka1 ka2 kq0 kq1 kq2
  replace V_a := hid (V_a.out.on bb)
  replace S_a := hid (S_a.out.call bb)
  replace V_b := hid (V_b.out.on bb)
  replace S_b := hid (S_b.out.call bb)
  replace V_c := hid (V_c.out.on bb)
  replace S_c := hid (S_c.out.call bb)
  replace V_x := hid (V_x.out.on bb)
  replace S_x := hid (S_x.out.call bb)
  replace V_y := hid (V_y.out.on bb)
  replace S_y := hid (S_y.out.call bb)
  replace V_p := hid (V_p.out.on bb)
  replace S_p := hid (S_p.out.call bb)
  replace V_q := hid (V_q.out.on bb)
  replace S_q := hid (S_q.out.call bb)
  replace HB := hid (Bl.call HB.out bb)
  clear bb
  have S_z := hid (nil_sl w13)
  have kq0 := V_q.out.cell 0
  have kq1 := V_q.out.cell 1
  have kq2 := V_q.out.cell 2
  have fq0 := V_q.out.frozen 0
  have fq1 := V_q.out.frozen 1
  have fq2 := V_q.out.frozen 2
  obtain ⟨w14, hw⟩ : ∃ z, z = ((w13.setCell ⟨Kq, 0, none⟩ (.int .i64 0)).setCell ⟨Kq, 1, none⟩ (.int .i64 0)).setCell ⟨Kq, 2, none⟩ (.slice none 0 0) := ⟨_, rfl⟩
  have S_q' := hid (S_z.out.skset V_q.out (.int .i64 0) (.int .i64 0) (.slice none 0 0))
  rw [← hw] at S_q'
  replace V_a : Hid (Blk w14 (K2) 26 [.int .i64 r, .int .i64 v, .slice A n c]) := hid (by rw [hw]; exact ((V_a.out.far (p := ⟨Kq, 0, none⟩) NEaq.out _).far (p := ⟨Kq, 1, none⟩) NEaq.out _).far (p := ⟨Kq, 2, none⟩) NEaq.out _)
  replace S_a := hid (S_a.out.skset V_q.out (.int .i64 0) (.int .i64 0) (.slice none 0 0))
  rw [← hw] at S_a
  replace V_b : Hid (Blk w14 (K2 + 1) 26 [.int .i64 r, .int .i64 v, .slice A2 n c2]) := hid (by rw [hw]; exact ((V_b.out.far (p := ⟨Kq, 0, none⟩) NEbq.out _).far (p := ⟨Kq, 1, none⟩) NEbq.out _).far (p := ⟨Kq, 2, none⟩) NEbq.out _)
  replace S_b := hid (S_b.out.skset V_q.out (.int .i64 0) (.int .i64 0) (.slice none 0 0))
  rw [← hw] at S_b
  replace V_c : Hid (Blk w14 (K2 + 2) 26 [.int .i64 r3, .int .i64 v3, .slice A3 n3 c3]) := hid (by rw [hw]; exact ((V_c.out.far (p := ⟨Kq, 0, none⟩) NEcq.out _).far (p := ⟨Kq, 1, none⟩) NEcq.out _).far (p := ⟨Kq, 2, none⟩) NEcq.out _)
  replace S_c := hid (S_c.out.skset V_q.out (.int .i64 0) (.int .i64 0) (.slice none 0 0))
  rw [← hw] at S_c
  replace V_x : Hid (Blk w14 (Kx) 26 [.int .i64 r, .int .i64 v, .slice Ax n cx]) := hid (by rw [hw]; exact ((V_x.out.far (p := ⟨Kq, 0, none⟩) NExq.out _).far (p := ⟨Kq, 1, none⟩) NExq.out _).far (p := ⟨Kq, 2, none⟩) NExq.out _)
  replace S_x := hid (S_x.out.skset V_q.out (.int .i64 0) (.int .i64 0) (.slice none 0 0))
  rw [← hw] at S_x
  replace V_y : Hid (Blk w14 (Ky) 26 [.int .i64 r, .int .i64 v, .slice Ay n cy]) := hid (by rw [hw]; exact ((V_y.out.far (p := ⟨Kq, 0, none⟩) NEyq.out _).far (p := ⟨Kq, 1, none⟩) NEyq.out _).far (p := ⟨Kq, 2, none⟩) NEyq.out _)
  replace S_y := hid (S_y.out.skset V_q.out (.int .i64 0) (.int .i64 0) (.slice none 0 0))
  rw [← hw] at S_y
  replace V_p : Hid (Blk w14 (Kp) 26 [.int .i64 0, .int .i64 0, .slice none 0 0]) := hid (by rw [hw]; exact ((V_p.out.far (p := ⟨Kq, 0, none⟩) NEpq.out _).far (p := ⟨Kq, 1, none⟩) NEpq.out _).far (p := ⟨Kq, 2, none⟩) NEpq.out _)
  replace S_p := hid (S_p.out.skset V_q.out (.int .i64 0) (.int .i64 0) (.slice none 0 0))
  rw [← hw] at S_p
  replace HB : Hid (Below w.heap.size w w14) := hid (by rw [hw]; exact ((HB.out.setCell (p := ⟨Kq, 0, none⟩) LO_q.out _).setCell (p := ⟨Kq, 1, none⟩) LO_q.out _).setCell (p := ⟨Kq, 2, none⟩) LO_q.out _)
  replace V_q : Hid (Blk w14 Kq 26 [.int .i64 0, .int .i64 0, .slice none 0 0]) := hid (by rw [hw]; exact ((V_q.out.put 0 (.int .i64 0)).put 1 (.int .i64 0)).put 2 (.slice none 0 0))
  clear S_z S_q
  have S_q := S_q'
  have HW14 := hid hw
  clear hw S_q'
  go_upto_region 12 with (fail)
  rw [← HW14.out]
  clear kq0 kq1 kq2 fq0 fq1 fq2
  have ka0 := V_a.out.cell 0
  have ka1 := V_a.out.cell 1
  have ka2 := V_a.out.cell 2
  go_wp2_with fail
  refine (mg_ok HOK.out S_a.out S_a.out HSaa.out (zs := List.replicate n 0) HAA.out).mono ?_; rintro e w15 ⟨vs, rfl, sx, bb⟩
  clear ka0 ka1 ka2
  replace V_a := hid (V_a.out.on bb)
  replace S_a := hid (S_a.out.call bb)
  replace V_b := hid (V_b.out.on bb)
  replace S_b := hid (S_b.out.call bb)
  replace V_c := hid (V_c.out.on bb)
  replace S_c := hid (S_c.out.call bb)
  replace V_x := hid (V_x.out.on bb)
  replace S_x := hid (S_x.out.call bb)
  replace V_y := hid (V_y.out.on bb)
  replace S_y := hid (S_y.out.call bb)
  replace V_p := hid (V_p.out.on bb)
  replace S_p := hid (S_p.out.call bb)
  replace V_q := hid (V_q.out.on bb)
  replace S_q := hid (S_q.out.call bb)
  replace HB := hid (Bl.call HB.out bb)
  have S_s := hid sx
  clear sx bb
  obtain ⟨As, cs, hvx, _, _, _, _⟩ := S_s.out
  subst hvx
  obtain ⟨w16, hw⟩ : ∃ z, z = w15.alloc (.cells #[.int .i64 r, .int .i64 v, .slice As n cs] 26) := ⟨_, rfl⟩
  obtain ⟨Kss, hK⟩ : ∃ z, z = w15.heap.size := ⟨_, rfl⟩
  have bb : Below w15.heap.size w15 w16 := by rw [hw]; exact bel_new _ _
  have V_s' : Hid (Blk w16 Kss 26 [.int .i64 r, .int .i64 v, .slice As n cs]) := hid (by rw [hw, hK]; exact Blk.new _ _ _)
  have S_s' := hid (S_s.out.call bb)
  have LO_s : Hid (w.heap.size ≤ Kss) := hid (by rw [hK]; exact HB.out.size)
  have NEas : Hid (K2 ≠ Kss) := hid (by have := V_a.out.lt; omega)
  have NEsa : Hid (Kss ≠ K2) := hid (by have := V_a.out.lt; omega)
  have NEbs : Hid (K2 + 1 ≠ Kss) := hid (by have := V_b.out.lt; omega)
  have NEsb : Hid (Kss ≠ K2 + 1) := hid (by have := V_b.out.lt; omega)
  have NEcs : Hid (K2 + 2 ≠ Kss) := hid (by have := V_c.out.lt; omega)
  have NEsc : Hid (Kss ≠ K2 + 2) := hid (by have := V_c.out.lt; omega)
  have NExs : Hid (Kx ≠ Kss) := hid (by have := V_x.out.lt; omega)
  have NEsx : Hid (Kss ≠ Kx) := hid (by have := V_x.out.lt; omega)
  have NEys : Hid (Ky ≠ Kss) := hid (by have := V_y.out.lt; omega)
  have NEsy : Hid (Kss ≠ Ky) := hid (by have := V_y.out.lt; omega)
  have NEps : Hid (Kp ≠ Kss) := hid (by have := V_p.out.lt; omega)
  have NEsp : Hid (Kss ≠ Kp) := hid (by have := V_p.out.lt; omega)
  have NEqs : Hid (Kq ≠ Kss) := hid (by have := V_q.out.lt; omega)
  have NEsq : Hid (Kss ≠ Kq) := hid (by have := V_q.out.lt; omega)
  replace V_a := hid (V_a.out.on bb)
  replace S_a := hid (S_a.out.call bb)
  replace V_b := hid (V_b.out.on bb)
  replace S_b := hid (S_b.out.call bb)
  replace V_c := hid (V_c.out.on bb)
  replace S_c := hid (S_c.out.call bb)
  replace V_x := hid (V_x.out.on bb)
  replace S_x := hid (S_x.out.call bb)
  replace V_y := hid (V_y.out.on bb)
  replace S_y := hid (S_y.out.call bb)
  replace V_p := hid (V_p.out.on bb)
  replace S_p := hid (S_p.out.call bb)
  replace V_q := hid (V_q.out.on bb)
  replace S_q := hid (S_q.out.call bb)
  replace HB := hid (Bl.call HB.out bb)
  clear S_s
  have V_s := V_s'
  have S_s := S_s'
  have HW16 := hid hw
  have HK16 := hid hK
  clear bb hw hK V_s' S_s'
  go_upto_region 13 with (fail)
  rw [← HW16.out, ← HK16.out]
  have ka0 := V_a.out.cell 0
  have ka1 := V_a.out.cell 1
  have ka2 := V_a.out.cell 2
  go_wp2_with fail
  refine (snew_ok HOK.out.1 HRN.out.1 HRN.out.2 _).mono ?_; rintro e w17 ⟨vo, rfl, sx, bb⟩
  clear ka0 ka1 ka2
  replace V_a := hid (V_a.out.on bb)
  replace S_a := hid (S_a.out.call bb)
  replace V_b := hid (V_b.out.on bb)
  replace S_b := hid (S_b.out.call bb)
  replace V_c := hid (V_c.out.on bb)
  replace S_c := hid (S_c.out.call bb)
  replace V_x := hid (V_x.out.on bb)
  replace S_x := hid (S_x.out.call bb)
  replace V_y := hid (V_y.out.on bb)
  replace S_y := hid (S_y.out.call bb)
  replace V_p := hid (V_p.out.on bb)
  replace S_p := hid (S_p.out.call bb)
  replace V_q := hid (V_q.out.on bb)
  replace S_q := hid (S_q.out.call bb)
  replace V_s := hid (V_s.out.on bb)
  replace S_s := hid (S_s.out.call bb)
  replace HB := hid (Bl.call HB.out bb)
  have S_o := hid sx
  clear sx bb
  obtain ⟨Ao, co, hvx, _, _, _, _⟩ := S_o.out
  subst hvx
  obtain ⟨w18, hw⟩ : ∃ z, z = w17.alloc (.cells #[.int .i64 r, .int .i64 v, .slice Ao n co] 26) := ⟨_, rfl⟩
  obtain ⟨Ko, hK⟩ : ∃ z, z = w17.heap.size := ⟨_, rfl⟩
  have bb : Below w17.heap.size w17 w18 := by rw [hw]; exact bel_new _ _
  have V_o' : Hid (Blk w18 Ko 26 [.int .i64 r, .int .i64 v, .slice Ao n co]) := hid (by rw [hw, hK]; exact Blk.new _ _ _)
  have S_o' := hid (S_o.out.call bb)
  have LO_o : Hid (w.heap.size ≤ Ko) := hid (by rw [hK]; exact HB.out.size)
  have NEao : Hid (K2 ≠ Ko) := hid (by have := V_a.out.lt; omega)
  have NEoa : Hid (Ko ≠ K2) := hid (by have := V_a.out.lt; omega)
  have NEbo : Hid (K2 + 1 ≠ Ko) := hid (by have := V_b.out.lt; omega)
  have NEob : Hid (Ko ≠ K2 + 1) := hid (by have := V_b.out.lt; omega)
  have NEco : Hid (K2 + 2 ≠ Ko) := hid (by have := V_c.out.lt; omega)
  have NEoc : Hid (Ko ≠ K2 + 2) := hid (by have := V_c.out.lt; omega)
  have NExo : Hid (Kx ≠ Ko) := hid (by have := V_x.out.lt; omega)
  have NEox : Hid (Ko ≠ Kx) := hid (by have := V_x.out.lt; omega)
  have NEyo : Hid (Ky ≠ Ko) := hid (by have := V_y.out.lt; omega)
  have NEoy : Hid (Ko ≠ Ky) := hid (by have := V_y.out.lt; omega)
  have NEpo : Hid (Kp ≠ Ko) := hid (by have := V_p.out.lt; omega)
  have NEop : Hid (Ko ≠ Kp) := hid (by have := V_p.out.lt; omega)
  have NEqo : Hid (Kq ≠ Ko) := hid (by have := V_q.out.lt; omega)
  have NEoq : Hid (Ko ≠ Kq) := hid (by have := V_q.out.lt; omega)
  have NEso : Hid (Kss ≠ Ko) := hid (by have := V_s.out.lt; omega)
  have NEos : Hid (Ko ≠ Kss) := hid (by have := V_s.out.lt; omega)
  replace V_a := hid (V_a.out.on bb)
  replace S_a := hid (S_a.out.call bb)
  replace V_b := hid (V_b.out.on bb)
  replace S_b := hid (S_b.out.call bb)
  replace V_c := hid (V_c.out.on bb)
  replace S_c := hid (S_c.out.call bb)
  replace V_x := hid (V_x.out.on bb)
  replace S_x := hid (S_x.out.call bb)
  replace V_y := hid (V_y.out.on bb)
  replace S_y := hid (S_y.out.call bb)
  replace V_p := hid (V_p.out.on bb)
  replace S_p := hid (S_p.out.call bb)
  replace V_q := hid (V_q.out.on bb)
  replace S_q := hid (S_q.out.call bb)
  replace V_s := hid (V_s.out.on bb)
  replace S_s := hid (S_s.out.call bb)
  replace HB := hid (Bl.call HB.out bb)
  clear S_o
  have V_o := V_o'
  have S_o := S_o'
  have HW18 := hid hw
  have HK18 := hid hK
  clear bb hw hK V_o' S_o'
  go_upto_region 14 with (fail)
  rw [← HW18.out, ← HK18.out]
  have ka0 := V_a.out.cell 0
  have ka1 := V_a.out.cell 1
  have ka2 := V_a.out.cell 2
  have ko0 := V_o.out.cell 0
  have ko1 := V_o.out.cell 1
  have ko2 := V_o.out.cell 2
  go_wp2_with fail
  refine (mg_ok HOK.out S_a.out S_o.out HSa0.out (zs := xa) HA0.out).mono ?_; rintro e w19 ⟨vt, rfl, sx, bb⟩
  clear ka0 ka1 ka2 ko0 ko1 ko2
  replace V_a := hid (V_a.out.on bb)
  replace S_a := hid (S_a.out.call bb)
  replace V_b := hid (V_b.out.on bb)
  replace S_b := hid (S_b.out.call bb)
  replace V_c := hid (V_c.out.on bb)
  replace S_c := hid (S_c.out.call bb)
  replace V_x := hid (V_x.out.on bb)
  replace S_x := hid (S_x.out.call bb)
  replace V_y := hid (V_y.out.on bb)
  replace S_y := hid (S_y.out.call bb)
  replace V_p := hid (V_p.out.on bb)
  replace S_p := hid (S_p.out.call bb)
  replace V_q := hid (V_q.out.on bb)
  replace S_q := hid (S_q.out.call bb)
  replace V_s := hid (V_s.out.on bb)
  replace S_s := hid (S_s.out.call bb)
  replace V_o := hid (V_o.out.on bb)
  replace S_o := hid (S_o.out.call bb)
  replace HB := hid (Bl.call HB.out bb)
  have S_t := hid sx
  clear sx bb
  obtain ⟨At, ct, hvx, _, _, _, _⟩ := S_t.out
  subst hvx
  obtain ⟨w20, hw⟩ : ∃ z, z = w19.alloc (.cells #[.int .i64 r, .int .i64 v, .slice At n ct] 26) := ⟨_, rfl⟩
  obtain ⟨Kt, hK⟩ : ∃ z, z = w19.heap.size := ⟨_, rfl⟩
  have bb : Below w19.heap.size w19 w20 := by rw [hw]; exact bel_new _ _
  have V_t' : Hid (Blk w20 Kt 26 [.int .i64 r, .int .i64 v, .slice At n ct]) := hid (by rw [hw, hK]; exact Blk.new _ _ _)
  have S_t' := hid (S_t.out.call bb)
  have LO_t : Hid (w.heap.size ≤ Kt) := hid (by rw [hK]; exact HB.out.size)
  have NEat : Hid (K2 ≠ Kt) := hid (by have := V_a.out.lt; omega)
  have NEta : Hid (Kt ≠ K2) := hid (by have := V_a.out.lt; omega)
  have NEbt : Hid (K2 + 1 ≠ Kt) := hid (by have := V_b.out.lt; omega)
  have NEtb : Hid (Kt ≠ K2 + 1) := hid (by have := V_b.out.lt; omega)
  have NEct : Hid (K2 + 2 ≠ Kt) := hid (by have := V_c.out.lt; omega)
  have NEtc : Hid (Kt ≠ K2 + 2) := hid (by have := V_c.out.lt; omega)
  have NExt : Hid (Kx ≠ Kt) := hid (by have := V_x.out.lt; omega)
  have NEtx : Hid (Kt ≠ Kx) := hid (by have := V_x.out.lt; omega)
  have NEyt : Hid (Ky ≠ Kt) := hid (by have := V_y.out.lt; omega)
  have NEty : Hid (Kt ≠ Ky) := hid (by have := V_y.out.lt; omega)
  have NEpt : Hid (Kp ≠ Kt) := hid (by have := V_p.out.lt; omega)
  have NEtp : Hid (Kt ≠ Kp) := hid (by have := V_p.out.lt; omega)
  have NEqt : Hid (Kq ≠ Kt) := hid (by have := V_q.out.lt; omega)
  have NEtq : Hid (Kt ≠ Kq) := hid (by have := V_q.out.lt; omega)
  have NEst : Hid (Kss ≠ Kt) := hid (by have := V_s.out.lt; omega)
  have NEts : Hid (Kt ≠ Kss) := hid (by have := V_s.out.lt; omega)
  have NEot : Hid (Ko ≠ Kt) := hid (by have := V_o.out.lt; omega)
  have NEto : Hid (Kt ≠ Ko) := hid (by have := V_o.out.lt; omega)
  replace V_a := hid (V_a.out.on bb)
  replace S_a := hid (S_a.out.call bb)
  replace V_b := hid (V_b.out.on bb)
  replace S_b := hid (S_b.out.call bb)
  replace V_c := hid (V_c.out.on bb)
  replace S_c := hid (S_c.out.call bb)
  replace V_x := hid (V_x.out.on bb)
  replace S_x := hid (S_x.out.call bb)
  replace V_y := hid (V_y.out.on bb)
  replace S_y := hid (S_y.out.call bb)
  replace V_p := hid (V_p.out.on bb)
  replace S_p := hid (S_p.out.call bb)
  replace V_q := hid (V_q.out.on bb)
  replace S_q := hid (S_q.out.call bb)
  replace V_s := hid (V_s.out.on bb)
  replace S_s := hid (S_s.out.call bb)
  replace V_o := hid (V_o.out.on bb)
  replace S_o := hid (S_o.out.call bb)
  replace HB := hid (Bl.call HB.out bb)
  clear S_t
  have V_t := V_t'
  have S_t := S_t'
  have HW20 := hid hw
  have HK20 := hid hK
  clear bb hw hK V_t' S_t'
  go_upto_region 15 with (fail)
  rw [← HW20.out, ← HK20.out]
  have kp0 := V_p.out.cell 0
  have kp1 := V_p.out.cell 1
  have kp2 := V_p.out.cell 2
  have kq0 := V_q.out.cell 0
  have kq1 := V_q.out.cell 1
  have kq2 := V_q.out.cell 2
  go_wp2_with fail
  refine (lsame_is (p := []) S_p.out S_q.out).mono ?_; rintro e w21 ⟨rfl, bb⟩
  clear kp0 kp1 kp2 kq0 kq1 kq2
  replace V_a := hid (V_a.out.on bb)
  replace S_a := hid (S_a.out.call bb)
  replace V_b := hid (V_b.out.on bb)
  replace S_b := hid (S_b.out.call bb)
  replace V_c := hid (V_c.out.on bb)
  replace S_c := hid (S_c.out.call bb)
  replace V_x := hid (V_x.out.on bb)
  replace S_x := hid (S_x.out.call bb)
  replace V_y := hid (V_y.out.on bb)
  replace S_y := hid (S_y.out.call bb)
  replace V_p := hid (V_p.out.on bb)
  replace S_p := hid (S_p.out.call bb)
  replace V_q := hid (V_q.out.on bb)
  replace S_q := hid (S_q.out.call bb)
  replace V_s := hid (V_s.out.on bb)
  replace S_s := hid (S_s.out.call bb)
  replace V_o := hid (V_o.out.on bb)
  replace S_o := hid (S_o.out.call bb)
  replace V_t := hid (V_t.out.on bb)
  replace S_t := hid (S_t.out.call bb)
  replace HB := hid (Bl.call HB.out bb)
  clear bb
  have ks0 := V_s.out.cell 0
  have ks1 := V_s.out.cell 1
  have ks2 := V_s.out.cell 2
  have ko0 := V_o.out.cell 0
  have ko1 := V_o.out.cell 1
  have ko2 := V_o.out.cell 2
  go_wp2_with fail
  refine (lsame_is S_s.out S_o.out).mono ?_; rintro e w22 ⟨rfl, bb⟩
  clear ks0 ks1 ks2 ko0 ko1 ko2
  replace V_a := hid (V_a.out.on bb)
  replace S_a := hid (S_a.out.call bb)
  replace V_b := hid (V_b.out.on bb)
  replace S_b := hid (S_b.out.call bb)
  replace V_c := hid (V_c.out.on bb)
  replace S_c := hid (S_c.out.call bb)
  replace V_x := hid (V_x.out.on bb)
  replace S_x := hid (S_x.out.call bb)
  replace V_y := hid (V_y.out.on bb)
  replace S_y := hid (S_y.out.call bb)
  replace V_p := hid (V_p.out.on bb)
  replace S_p := hid (S_p.out.call bb)
  replace V_q := hid (V_q.out.on bb)
  replace S_q := hid (S_q.out.call bb)
  replace V_s := hid (V_s.out.on bb)
  replace S_s := hid (S_s.out.call bb)
  replace V_o := hid (V_o.out.on bb)
  replace S_o := hid (S_o.out.call bb)
  replace V_t := hid (V_t.out.on bb)
  replace S_t := hid (S_t.out.call bb)
  replace HB := hid (Bl.call HB.out bb)
  clear bb
  have kt0 := V_t.out.cell 0
  have kt1 := V_t.out.cell 1
  have kt2 := V_t.out.cell 2
  have ka0 := V_a.out.cell 0
  have ka1 := V_a.out.cell 1
  have ka2 := V_a.out.cell 2
  go_wp2_with fail
  refine (lsame_is S_t.out S_a.out).mono ?_; rintro e w23 ⟨rfl, bb⟩
  clear kt0 kt1 kt2 ka0 ka1 ka2
  replace V_a := hid (V_a.out.on bb)
  replace S_a := hid (S_a.out.call bb)
  replace V_b := hid (V_b.out.on bb)
  replace S_b := hid (S_b.out.call bb)
  replace V_c := hid (V_c.out.on bb)
  replace S_c := hid (S_c.out.call bb)
  replace V_x := hid (V_x.out.on bb)
  replace S_x := hid (S_x.out.call bb)
  replace V_y := hid (V_y.out.on bb)
  replace S_y := hid (S_y.out.call bb)
  replace V_p := hid (V_p.out.on bb)
  replace S_p := hid (S_p.out.call bb)
  replace V_q := hid (V_q.out.on bb)
  replace S_q := hid (S_q.out.call bb)
  replace V_s := hid (V_s.out.on bb)
  replace S_s := hid (S_s.out.call bb)
  replace V_o := hid (V_o.out.on bb)
  replace S_o := hid (S_o.out.call bb)
  replace V_t := hid (V_t.out.on bb)
  replace S_t := hid (S_t.out.call bb)
  replace HB := hid (Bl.call HB.out bb)
  clear bb
  go_wp2_with fail
  refine (skAwake_any _).mono ?_; rintro e w' ⟨rfl, hb⟩
  go_wp2
  go_ret
  exact ⟨rfl, Bl.call HB.out hb⟩
set_option maxRecDepth 100000 in
set_option maxHeartbeats 8000000 in
theorem merges_all (r v : Int) (A : Option Addr) (n c : Nat) (xa : List Nat) (A2 : Option Addr) (c2 : Nat) (xb : List Nat) (A3 : Option Addr) (c3 : Nat) (xc : List Nat) (w : World) (ha : Sl w w.heap.size 1 (.slice A n c) n (us xa)) (hb : Sl w w.heap.size 1 (.slice A2 n c2) n (us xb)) (hc : Sl w w.heap.size 1 (.slice A3 n c3) n (us xc)) (Ha : Hid (decide (n ≤ 600) = true)) (Hb : Hid (decide (n ≤ 600) = true)) (Hc : Hid (decide (n ≤ 600) = true)) (sa : Sk.Small xa) (sb : Sk.Small xb) (sc : Sk.Small xc) (hok : SOk r v n) : Calls Try.prog 5 #[.agg #[.int .i64 r, .int .i64 v, .slice A n c], .agg #[.int .i64 r, .int .i64 v, .slice A2 n c2], .agg #[.int .i64 r, .int .i64 v, .slice A3 n c3]] w (IsTrue w) := by
  have hal : xa.length = n := by have := ha.len; rw [len_us] at this; omega
  have HAA : Hid (Sk.xors xa xa = List.replicate n 0) := hid (by rw [Sk.xors_self, hal])
  have HA0 : Hid (Sk.xors xa (List.replicate n 0) = xa) := hid (by have h := Sk.xors_zero xa; rwa [hal] at h)
  have HSab := hid (And.intro sa sb)
  have HSba := hid (And.intro sb sa)
  have HSaa := hid (And.intro sa sa)
  have HSa0 := hid (And.intro sa (Sk.small_rep n))
  have HOK := hid hok
  have HRN := hid (rep_of hok)
  have r0 : (r == r) = true := by simp
  have v0 : (v == v) = true := by simp
  have HSxc := hid (And.intro (Sk.small_xors sa sb) sc)
  have HSbc := hid (And.intro sb sc)
  have HSaq := hid (And.intro sa (Sk.small_xors sb sc))
  clear hok sa sb sc hal
  obtain ⟨wx0, hwx0⟩ : ∃ z, z = w.alloc (.cells #[.int .i64 r, .int .i64 v, .slice A n c] 26) := ⟨_, rfl⟩
  obtain ⟨wx1, hwx1⟩ : ∃ z, z = wx0.alloc (.cells #[.int .i64 r, .int .i64 v, .slice A2 n c2] 26) := ⟨_, rfl⟩
  obtain ⟨w0, hw0⟩ : ∃ z, z = wx1.alloc (.cells #[.int .i64 r, .int .i64 v, .slice A3 n c3] 26) := ⟨_, rfl⟩
  obtain ⟨K2, hK2⟩ : ∃ K, K = w.heap.size := ⟨_, rfl⟩
  have s0 : wx0.heap.size = K2 + 1 := by rw [hwx0]; simp [hK2]
  have q0 : Below w.heap.size w wx0 := by rw [hwx0]; exact bel_new _ _
  have s1 : wx1.heap.size = K2 + 2 := by rw [hwx1]; simp [s0]
  have q1 : Below wx0.heap.size wx0 wx1 := by rw [hwx1]; exact bel_new _ _
  have s2 : w0.heap.size = K2 + 3 := by rw [hw0]; simp [s1]
  have q2 : Below wx1.heap.size wx1 w0 := by rw [hw0]; exact bel_new _ _
  have B2 : Hid (Blk w0 (K2) 26 [.int .i64 r, .int .i64 v, .slice A n c]) := hid (by rw [hK2]; exact (((show Blk wx0 w.heap.size 26 [.int .i64 r, .int .i64 v, .slice A n c] by rw [hwx0]; exact Blk.new _ _ _).on q1).on q2))
  have B3 : Hid (Blk w0 (K2 + 1) 26 [.int .i64 r, .int .i64 v, .slice A2 n c2]) := hid (by rw [← s0]; exact ((show Blk wx1 wx0.heap.size 26 [.int .i64 r, .int .i64 v, .slice A2 n c2] by rw [hwx1]; exact Blk.new _ _ _).on q2))
  have B4 : Hid (Blk w0 (K2 + 2) 26 [.int .i64 r, .int .i64 v, .slice A3 n c3]) := hid (by rw [← s1]; exact (show Blk w0 wx1.heap.size 26 [.int .i64 r, .int .i64 v, .slice A3 n c3] by rw [hw0]; exact Blk.new _ _ _))
  have HB0 : Hid (Below w.heap.size w w0) := hid (Bl.call (Bl.call q0 q1) q2)
  have HW : Hid (w0 = (((w.alloc (.cells #[.int .i64 r, .int .i64 v, .slice A n c] 26)).alloc (.cells #[.int .i64 r, .int .i64 v, .slice A2 n c2] 26)).alloc (.cells #[.int .i64 r, .int .i64 v, .slice A3 n c3] 26))) := hid (by rw [hw0, hwx1, hwx0])
  have HK : Hid (K2 = w.heap.size) := hid hK2
  clear hK2 hwx0 hwx1 hw0 s0 q0 s1 q1 s2 q2
  have HB := HB0
  have hbw : Below w.heap.size w w0 := HB0.out
  have V_a : Hid (Blk w0 K2 26 [.int .i64 r, .int .i64 v, .slice A n c]) := B2
  have V_b : Hid (Blk w0 (K2 + 1) 26 [.int .i64 r, .int .i64 v, .slice A2 n c2]) := B3
  have V_c : Hid (Blk w0 (K2 + 2) 26 [.int .i64 r, .int .i64 v, .slice A3 n c3]) := B4
  have S_a := hid (ha.call hbw)
  have S_b := hid (hb.call hbw)
  have S_c := hid (hc.call hbw)
  clear B2 B3 B4 HB0 hbw ha hb hc
  go_enter Try.func5, Try.ntmps5
  go_upto_region 1 with (fail)
  rw [← HW.out, ← HK.out]
  have ka0 := V_a.out.cell 0
  have ka1 := V_a.out.cell 1
  have ka2 := V_a.out.cell 2
  go_wp2_with fail
  refine (lsmall_is true S_a.out Ha.out).mono ?_; rintro e w1 ⟨rfl, bb⟩
  clear ka0 ka1 ka2
  replace V_a := hid (V_a.out.on bb)
  replace S_a := hid (S_a.out.call bb)
  replace V_b := hid (V_b.out.on bb)
  replace S_b := hid (S_b.out.call bb)
  replace V_c := hid (V_c.out.on bb)
  replace S_c := hid (S_c.out.call bb)
  replace HB := hid (Bl.call HB.out bb)
  clear bb
  have kb0 := V_b.out.cell 0
  have kb1 := V_b.out.cell 1
  have kb2 := V_b.out.cell 2
  go_wp2_with fail
  refine (lsmall_is true S_b.out Hb.out).mono ?_; rintro e w2 ⟨rfl, bb⟩
  clear kb0 kb1 kb2
  replace V_a := hid (V_a.out.on bb)
  replace S_a := hid (S_a.out.call bb)
  replace V_b := hid (V_b.out.on bb)
  replace S_b := hid (S_b.out.call bb)
  replace V_c := hid (V_c.out.on bb)
  replace S_c := hid (S_c.out.call bb)
  replace HB := hid (Bl.call HB.out bb)
  clear bb
  have kc0 := V_c.out.cell 0
  have kc1 := V_c.out.cell 1
  have kc2 := V_c.out.cell 2
  go_wp2_with fail
  refine (lsmall_is true S_c.out Hc.out).mono ?_; rintro e w3 ⟨rfl, bb⟩
  clear kc0 kc1 kc2
  replace V_a := hid (V_a.out.on bb)
  replace S_a := hid (S_a.out.call bb)
  replace V_b := hid (V_b.out.on bb)
  replace S_b := hid (S_b.out.call bb)
  replace V_c := hid (V_c.out.on bb)
  replace S_c := hid (S_c.out.call bb)
  replace HB := hid (Bl.call HB.out bb)
  clear bb
  have ka0 := V_a.out.cell 0
  have ka1 := V_a.out.cell 1
  have ka2 := V_a.out.cell 2
  have kb0 := V_b.out.cell 0
  have kb1 := V_b.out.cell 1
  have kb2 := V_b.out.cell 2
  go_wp2_with fail
  refine (mg_ok HOK.out S_a.out S_b.out HSab.out (zs := Sk.xors xa xb) rfl).mono ?_; rintro e w4 ⟨vx, rfl, sx, bb⟩
  clear ka0 ka1 ka2 kb0 kb1 kb2
  replace V_a := hid (V_a.out.on bb)
  replace S_a := hid (S_a.out.call bb)
  replace V_b := hid (V_b.out.on bb)
  replace S_b := hid (S_b.out.call bb)
  replace V_c := hid (V_c.out.on bb)
  replace S_c := hid (S_c.out.call bb)
  replace HB := hid (Bl.call HB.out bb)
  have S_x := hid sx
  clear sx bb
  obtain ⟨Ax, cx, hvx, _, _, _, _⟩ := S_x.out
  subst hvx
  obtain ⟨w5, hw⟩ : ∃ z, z = w4.alloc (.cells #[.int .i64 r, .int .i64 v, .slice Ax n cx] 26) := ⟨_, rfl⟩
  obtain ⟨Kx, hK⟩ : ∃ z, z = w4.heap.size := ⟨_, rfl⟩
  have bb : Below w4.heap.size w4 w5 := by rw [hw]; exact bel_new _ _
  have V_x' : Hid (Blk w5 Kx 26 [.int .i64 r, .int .i64 v, .slice Ax n cx]) := hid (by rw [hw, hK]; exact Blk.new _ _ _)
  have S_x' := hid (S_x.out.call bb)
  have LO_x : Hid (w.heap.size ≤ Kx) := hid (by rw [hK]; exact HB.out.size)
  have NEax : Hid (K2 ≠ Kx) := hid (by have := V_a.out.lt; omega)
  have NExa : Hid (Kx ≠ K2) := hid (by have := V_a.out.lt; omega)
  have NEbx : Hid (K2 + 1 ≠ Kx) := hid (by have := V_b.out.lt; omega)
  have NExb : Hid (Kx ≠ K2 + 1) := hid (by have := V_b.out.lt; omega)
  have NEcx : Hid (K2 + 2 ≠ Kx) := hid (by have := V_c.out.lt; omega)
  have NExc : Hid (Kx ≠ K2 + 2) := hid (by have := V_c.out.lt; omega)
  replace V_a := hid (V_a.out.on bb)
  replace S_a := hid (S_a.out.call bb)
  replace V_b := hid (V_b.out.on bb)
  replace S_b := hid (S_b.out.call bb)
  replace V_c := hid (V_c.out.on bb)
  replace S_c := hid (S_c.out.call bb)
  replace HB := hid (Bl.call HB.out bb)
  clear S_x
  have V_x := V_x'
  have S_x := S_x'
  have HW5 := hid hw
  have HK5 := hid hK
  clear bb hw hK V_x' S_x'
  go_upto_region 4 with (fail)
  rw [← HW5.out, ← HK5.out]
  have ka0 := V_a.out.cell 0
  have ka1 := V_a.out.cell 1
  have ka2 := V_a.out.cell 2
  have kb0 := V_b.out.cell 0
  have kb1 := V_b.out.cell 1
  have kb2 := V_b.out.cell 2
  go_wp2_with fail
  refine (mg_ok HOK.out S_b.out S_a.out HSba.out (zs := Sk.xors xa xb) (Sk.xors_comm _ _)).mono ?_; rintro e w6 ⟨vy, rfl, sx, bb⟩
  clear ka0 ka1 ka2 kb0 kb1 kb2
  replace V_a := hid (V_a.out.on bb)
  replace S_a := hid (S_a.out.call bb)
  replace V_b := hid (V_b.out.on bb)
  replace S_b := hid (S_b.out.call bb)
  replace V_c := hid (V_c.out.on bb)
  replace S_c := hid (S_c.out.call bb)
  replace V_x := hid (V_x.out.on bb)
  replace S_x := hid (S_x.out.call bb)
  replace HB := hid (Bl.call HB.out bb)
  have S_y := hid sx
  clear sx bb
  obtain ⟨Ay, cy, hvx, _, _, _, _⟩ := S_y.out
  subst hvx
  obtain ⟨w7, hw⟩ : ∃ z, z = w6.alloc (.cells #[.int .i64 r, .int .i64 v, .slice Ay n cy] 26) := ⟨_, rfl⟩
  obtain ⟨Ky, hK⟩ : ∃ z, z = w6.heap.size := ⟨_, rfl⟩
  have bb : Below w6.heap.size w6 w7 := by rw [hw]; exact bel_new _ _
  have V_y' : Hid (Blk w7 Ky 26 [.int .i64 r, .int .i64 v, .slice Ay n cy]) := hid (by rw [hw, hK]; exact Blk.new _ _ _)
  have S_y' := hid (S_y.out.call bb)
  have LO_y : Hid (w.heap.size ≤ Ky) := hid (by rw [hK]; exact HB.out.size)
  have NEay : Hid (K2 ≠ Ky) := hid (by have := V_a.out.lt; omega)
  have NEya : Hid (Ky ≠ K2) := hid (by have := V_a.out.lt; omega)
  have NEby : Hid (K2 + 1 ≠ Ky) := hid (by have := V_b.out.lt; omega)
  have NEyb : Hid (Ky ≠ K2 + 1) := hid (by have := V_b.out.lt; omega)
  have NEcy : Hid (K2 + 2 ≠ Ky) := hid (by have := V_c.out.lt; omega)
  have NEyc : Hid (Ky ≠ K2 + 2) := hid (by have := V_c.out.lt; omega)
  have NExy : Hid (Kx ≠ Ky) := hid (by have := V_x.out.lt; omega)
  have NEyx : Hid (Ky ≠ Kx) := hid (by have := V_x.out.lt; omega)
  replace V_a := hid (V_a.out.on bb)
  replace S_a := hid (S_a.out.call bb)
  replace V_b := hid (V_b.out.on bb)
  replace S_b := hid (S_b.out.call bb)
  replace V_c := hid (V_c.out.on bb)
  replace S_c := hid (S_c.out.call bb)
  replace V_x := hid (V_x.out.on bb)
  replace S_x := hid (S_x.out.call bb)
  replace HB := hid (Bl.call HB.out bb)
  clear S_y
  have V_y := V_y'
  have S_y := S_y'
  have HW7 := hid hw
  have HK7 := hid hK
  clear bb hw hK V_y' S_y'
  go_upto_region 5 with (fail)
  rw [← HW7.out, ← HK7.out]
  have kx0 := V_x.out.cell 0
  have kx1 := V_x.out.cell 1
  have kx2 := V_x.out.cell 2
  have ky0 := V_y.out.cell 0
  have ky1 := V_y.out.cell 1
  have ky2 := V_y.out.cell 2
  go_wp2_with fail
  refine (lsame_is S_x.out S_y.out).mono ?_; rintro e w8 ⟨rfl, bb⟩
  clear kx0 kx1 kx2 ky0 ky1 ky2
  replace V_a := hid (V_a.out.on bb)
  replace S_a := hid (S_a.out.call bb)
  replace V_b := hid (V_b.out.on bb)
  replace S_b := hid (S_b.out.call bb)
  replace V_c := hid (V_c.out.on bb)
  replace S_c := hid (S_c.out.call bb)
  replace V_x := hid (V_x.out.on bb)
  replace S_x := hid (S_x.out.call bb)
  replace V_y := hid (V_y.out.on bb)
  replace S_y := hid (S_y.out.call bb)
  replace HB := hid (Bl.call HB.out bb)
  clear bb
  go_upto_region 9 with (fail)
  have kx0 := V_x.out.cell 0
  have kx1 := V_x.out.cell 1
  have kx2 := V_x.out.cell 2
  have kc0 := V_c.out.cell 0
  have kc1 := V_c.out.cell 1
  have kc2 := V_c.out.cell 2
  go_wp2_with fail
  refine (mg_ok HOK.out S_x.out S_c.out HSxc.out (zs := Sk.xors (Sk.xors xa xb) xc) rfl).mono ?_; rintro e w9 ⟨vp, rfl, sx, bb⟩
  clear kx0 kx1 kx2 kc0 kc1 kc2
  replace V_a := hid (V_a.out.on bb)
  replace S_a := hid (S_a.out.call bb)
  replace V_b := hid (V_b.out.on bb)
  replace S_b := hid (S_b.out.call bb)
  replace V_c := hid (V_c.out.on bb)
  replace S_c := hid (S_c.out.call bb)
  replace V_x := hid (V_x.out.on bb)
  replace S_x := hid (S_x.out.call bb)
  replace V_y := hid (V_y.out.on bb)
  replace S_y := hid (S_y.out.call bb)
  replace HB := hid (Bl.call HB.out bb)
  have S_p := hid sx
  clear sx bb
  obtain ⟨Ap, cp, hvx, _, _, _, _⟩ := S_p.out
  subst hvx
  obtain ⟨w10, hw⟩ : ∃ z, z = w9.alloc (.cells #[.int .i64 r, .int .i64 v, .slice Ap n cp] 26) := ⟨_, rfl⟩
  obtain ⟨Kp, hK⟩ : ∃ z, z = w9.heap.size := ⟨_, rfl⟩
  have bb : Below w9.heap.size w9 w10 := by rw [hw]; exact bel_new _ _
  have V_p' : Hid (Blk w10 Kp 26 [.int .i64 r, .int .i64 v, .slice Ap n cp]) := hid (by rw [hw, hK]; exact Blk.new _ _ _)
  have S_p' := hid (S_p.out.call bb)
  have LO_p : Hid (w.heap.size ≤ Kp) := hid (by rw [hK]; exact HB.out.size)
  have NEap : Hid (K2 ≠ Kp) := hid (by have := V_a.out.lt; omega)
  have NEpa : Hid (Kp ≠ K2) := hid (by have := V_a.out.lt; omega)
  have NEbp : Hid (K2 + 1 ≠ Kp) := hid (by have := V_b.out.lt; omega)
  have NEpb : Hid (Kp ≠ K2 + 1) := hid (by have := V_b.out.lt; omega)
  have NEcp : Hid (K2 + 2 ≠ Kp) := hid (by have := V_c.out.lt; omega)
  have NEpc : Hid (Kp ≠ K2 + 2) := hid (by have := V_c.out.lt; omega)
  have NExp : Hid (Kx ≠ Kp) := hid (by have := V_x.out.lt; omega)
  have NEpx : Hid (Kp ≠ Kx) := hid (by have := V_x.out.lt; omega)
  have NEyp : Hid (Ky ≠ Kp) := hid (by have := V_y.out.lt; omega)
  have NEpy : Hid (Kp ≠ Ky) := hid (by have := V_y.out.lt; omega)
  replace V_a := hid (V_a.out.on bb)
  replace S_a := hid (S_a.out.call bb)
  replace V_b := hid (V_b.out.on bb)
  replace S_b := hid (S_b.out.call bb)
  replace V_c := hid (V_c.out.on bb)
  replace S_c := hid (S_c.out.call bb)
  replace V_x := hid (V_x.out.on bb)
  replace S_x := hid (S_x.out.call bb)
  replace V_y := hid (V_y.out.on bb)
  replace S_y := hid (S_y.out.call bb)
  replace HB := hid (Bl.call HB.out bb)
  clear S_p
  have V_p := V_p'
  have S_p := S_p'
  have HW10 := hid hw
  have HK10 := hid hK
  clear bb hw hK V_p' S_p'
  go_upto_region 10 with (fail)
  rw [← HW10.out, ← HK10.out]
  have kb0 := V_b.out.cell 0
  have kb1 := V_b.out.cell 1
  have kb2 := V_b.out.cell 2
  have kc0 := V_c.out.cell 0
  have kc1 := V_c.out.cell 1
  have kc2 := V_c.out.cell 2
  go_wp2_with fail
  refine (mg_ok HOK.out S_b.out S_c.out HSbc.out (zs := Sk.xors xb xc) rfl).mono ?_; rintro e w11 ⟨vq, rfl, sx, bb⟩
  clear kb0 kb1 kb2 kc0 kc1 kc2
  replace V_a := hid (V_a.out.on bb)
  replace S_a := hid (S_a.out.call bb)
  replace V_b := hid (V_b.out.on bb)
  replace S_b := hid (S_b.out.call bb)
  replace V_c := hid (V_c.out.on bb)
  replace S_c := hid (S_c.out.call bb)
  replace V_x := hid (V_x.out.on bb)
  replace S_x := hid (S_x.out.call bb)
  replace V_y := hid (V_y.out.on bb)
  replace S_y := hid (S_y.out.call bb)
  replace V_p := hid (V_p.out.on bb)
  replace S_p := hid (S_p.out.call bb)
  replace HB := hid (Bl.call HB.out bb)
  have S_q := hid sx
  clear sx bb
  obtain ⟨Aq, cq, hvx, _, _, _, _⟩ := S_q.out
  subst hvx
  obtain ⟨w12, hw⟩ : ∃ z, z = w11.alloc (.cells #[.int .i64 r, .int .i64 v, .slice Aq n cq] 26) := ⟨_, rfl⟩
  obtain ⟨Kq, hK⟩ : ∃ z, z = w11.heap.size := ⟨_, rfl⟩
  have bb : Below w11.heap.size w11 w12 := by rw [hw]; exact bel_new _ _
  have V_q' : Hid (Blk w12 Kq 26 [.int .i64 r, .int .i64 v, .slice Aq n cq]) := hid (by rw [hw, hK]; exact Blk.new _ _ _)
  have S_q' := hid (S_q.out.call bb)
  have LO_q : Hid (w.heap.size ≤ Kq) := hid (by rw [hK]; exact HB.out.size)
  have NEaq : Hid (K2 ≠ Kq) := hid (by have := V_a.out.lt; omega)
  have NEqa : Hid (Kq ≠ K2) := hid (by have := V_a.out.lt; omega)
  have NEbq : Hid (K2 + 1 ≠ Kq) := hid (by have := V_b.out.lt; omega)
  have NEqb : Hid (Kq ≠ K2 + 1) := hid (by have := V_b.out.lt; omega)
  have NEcq : Hid (K2 + 2 ≠ Kq) := hid (by have := V_c.out.lt; omega)
  have NEqc : Hid (Kq ≠ K2 + 2) := hid (by have := V_c.out.lt; omega)
  have NExq : Hid (Kx ≠ Kq) := hid (by have := V_x.out.lt; omega)
  have NEqx : Hid (Kq ≠ Kx) := hid (by have := V_x.out.lt; omega)
  have NEyq : Hid (Ky ≠ Kq) := hid (by have := V_y.out.lt; omega)
  have NEqy : Hid (Kq ≠ Ky) := hid (by have := V_y.out.lt; omega)
  have NEpq : Hid (Kp ≠ Kq) := hid (by have := V_p.out.lt; omega)
  have NEqp : Hid (Kq ≠ Kp) := hid (by have := V_p.out.lt; omega)
  replace V_a := hid (V_a.out.on bb)
  replace S_a := hid (S_a.out.call bb)
  replace V_b := hid (V_b.out.on bb)
  replace S_b := hid (S_b.out.call bb)
  replace V_c := hid (V_c.out.on bb)
  replace S_c := hid (S_c.out.call bb)
  replace V_x := hid (V_x.out.on bb)
  replace S_x := hid (S_x.out.call bb)
  replace V_y := hid (V_y.out.on bb)
  replace S_y := hid (S_y.out.call bb)
  replace V_p := hid (V_p.out.on bb)
  replace S_p := hid (S_p.out.call bb)
  replace HB := hid (Bl.call HB.out bb)
  clear S_q
  have V_q := V_q'
  have S_q := S_q'
  have HW12 := hid hw
  have HK12 := hid hK
  clear bb hw hK V_q' S_q'
  go_upto_region 11 with (fail)
  rw [← HW12.out, ← HK12.out]
  have ka0 := V_a.out.cell 0
  have ka1 := V_a.out.cell 1
  have ka2 := V_a.out.cell 2
  have kq0 := V_q.out.cell 0
  have kq1 := V_q.out.cell 1
  have kq2 := V_q.out.cell 2
  go_wp2_with fail
  refine (mg_ok HOK.out S_a.out S_q.out HSaq.out (zs := Sk.xors (Sk.xors xa xb) xc) (Sk.xors_assoc _ _ _).symm).mono ?_; rintro e w13 ⟨vz, rfl, sx, bb⟩
  clear ka0 ka1 ka2 kq0 kq1 kq2
  replace V_a := hid (V_a.out.on bb)
  replace S_a := hid (S_a.out.call bb)
  replace V_b := hid (V_b.out.on bb)
  replace S_b := hid (S_b.out.call bb)
  replace V_c := hid (V_c.out.on bb)
  replace S_c := hid (S_c.out.call bb)
  replace V_x := hid (V_x.out.on bb)
  replace S_x := hid (S_x.out.call bb)
  replace V_y := hid (V_y.out.on bb)
  replace S_y := hid (S_y.out.call bb)
  replace V_p := hid (V_p.out.on bb)
  replace S_p := hid (S_p.out.call bb)
  replace V_q := hid (V_q.out.on bb)
  replace S_q := hid (S_q.out.call bb)
  replace HB := hid (Bl.call HB.out bb)
  have S_z := hid sx
  clear sx bb
  obtain ⟨Az, cz, hvx, _, _, _, _⟩ := S_z.out
  subst hvx
  have kq0 := V_q.out.cell 0
  have kq1 := V_q.out.cell 1
  have kq2 := V_q.out.cell 2
  have fq0 := V_q.out.frozen 0
  have fq1 := V_q.out.frozen 1
  have fq2 := V_q.out.frozen 2
  obtain ⟨w14, hw⟩ : ∃ z, z = ((w13.setCell ⟨Kq, 0, none⟩ (.int .i64 r)).setCell ⟨Kq, 1, none⟩ (.int .i64 v)).setCell ⟨Kq, 2, none⟩ (.slice Az n cz) := ⟨_, rfl⟩
  have S_q' := hid (S_z.out.skset V_q.out (.int .i64 r) (.int .i64 v) (.slice Az n cz))
  rw [← hw] at S_q'
  replace V_a : Hid (Blk w14 (K2) 26 [.int .i64 r, .int .i64 v, .slice A n c]) := hid (by rw [hw]; exact ((V_a.out.far (p := ⟨Kq, 0, none⟩) NEaq.out _).far (p := ⟨Kq, 1, none⟩) NEaq.out _).far (p := ⟨Kq, 2, none⟩) NEaq.out _)
  replace S_a := hid (S_a.out.skset V_q.out (.int .i64 r) (.int .i64 v) (.slice Az n cz))
  rw [← hw] at S_a
  replace V_b : Hid (Blk w14 (K2 + 1) 26 [.int .i64 r, .int .i64 v, .slice A2 n c2]) := hid (by rw [hw]; exact ((V_b.out.far (p := ⟨Kq, 0, none⟩) NEbq.out _).far (p := ⟨Kq, 1, none⟩) NEbq.out _).far (p := ⟨Kq, 2, none⟩) NEbq.out _)
  replace S_b := hid (S_b.out.skset V_q.out (.int .i64 r) (.int .i64 v) (.slice Az n cz))
  rw [← hw] at S_b
  replace V_c : Hid (Blk w14 (K2 + 2) 26 [.int .i64 r, .int .i64 v, .slice A3 n c3]) := hid (by rw [hw]; exact ((V_c.out.far (p := ⟨Kq, 0, none⟩) NEcq.out _).far (p := ⟨Kq, 1, none⟩) NEcq.out _).far (p := ⟨Kq, 2, none⟩) NEcq.out _)
  replace S_c := hid (S_c.out.skset V_q.out (.int .i64 r) (.int .i64 v) (.slice Az n cz))
  rw [← hw] at S_c
  replace V_x : Hid (Blk w14 (Kx) 26 [.int .i64 r, .int .i64 v, .slice Ax n cx]) := hid (by rw [hw]; exact ((V_x.out.far (p := ⟨Kq, 0, none⟩) NExq.out _).far (p := ⟨Kq, 1, none⟩) NExq.out _).far (p := ⟨Kq, 2, none⟩) NExq.out _)
  replace S_x := hid (S_x.out.skset V_q.out (.int .i64 r) (.int .i64 v) (.slice Az n cz))
  rw [← hw] at S_x
  replace V_y : Hid (Blk w14 (Ky) 26 [.int .i64 r, .int .i64 v, .slice Ay n cy]) := hid (by rw [hw]; exact ((V_y.out.far (p := ⟨Kq, 0, none⟩) NEyq.out _).far (p := ⟨Kq, 1, none⟩) NEyq.out _).far (p := ⟨Kq, 2, none⟩) NEyq.out _)
  replace S_y := hid (S_y.out.skset V_q.out (.int .i64 r) (.int .i64 v) (.slice Az n cz))
  rw [← hw] at S_y
  replace V_p : Hid (Blk w14 (Kp) 26 [.int .i64 r, .int .i64 v, .slice Ap n cp]) := hid (by rw [hw]; exact ((V_p.out.far (p := ⟨Kq, 0, none⟩) NEpq.out _).far (p := ⟨Kq, 1, none⟩) NEpq.out _).far (p := ⟨Kq, 2, none⟩) NEpq.out _)
  replace S_p := hid (S_p.out.skset V_q.out (.int .i64 r) (.int .i64 v) (.slice Az n cz))
  rw [← hw] at S_p
  replace HB : Hid (Below w.heap.size w w14) := hid (by rw [hw]; exact ((HB.out.setCell (p := ⟨Kq, 0, none⟩) LO_q.out _).setCell (p := ⟨Kq, 1, none⟩) LO_q.out _).setCell (p := ⟨Kq, 2, none⟩) LO_q.out _)
  replace V_q : Hid (Blk w14 Kq 26 [.int .i64 r, .int .i64 v, .slice Az n cz]) := hid (by rw [hw]; exact ((V_q.out.put 0 (.int .i64 r)).put 1 (.int .i64 v)).put 2 (.slice Az n cz))
  clear S_z S_q
  have S_q := S_q'
  have HW14 := hid hw
  clear hw S_q'
  go_upto_region 12 with (fail)
  rw [← HW14.out]
  clear kq0 kq1 kq2 fq0 fq1 fq2
  have ka0 := V_a.out.cell 0
  have ka1 := V_a.out.cell 1
  have ka2 := V_a.out.cell 2
  go_wp2_with fail
  refine (mg_ok HOK.out S_a.out S_a.out HSaa.out (zs := List.replicate n 0) HAA.out).mono ?_; rintro e w15 ⟨vs, rfl, sx, bb⟩
  clear ka0 ka1 ka2
  replace V_a := hid (V_a.out.on bb)
  replace S_a := hid (S_a.out.call bb)
  replace V_b := hid (V_b.out.on bb)
  replace S_b := hid (S_b.out.call bb)
  replace V_c := hid (V_c.out.on bb)
  replace S_c := hid (S_c.out.call bb)
  replace V_x := hid (V_x.out.on bb)
  replace S_x := hid (S_x.out.call bb)
  replace V_y := hid (V_y.out.on bb)
  replace S_y := hid (S_y.out.call bb)
  replace V_p := hid (V_p.out.on bb)
  replace S_p := hid (S_p.out.call bb)
  replace V_q := hid (V_q.out.on bb)
  replace S_q := hid (S_q.out.call bb)
  replace HB := hid (Bl.call HB.out bb)
  have S_s := hid sx
  clear sx bb
  obtain ⟨As, cs, hvx, _, _, _, _⟩ := S_s.out
  subst hvx
  obtain ⟨w16, hw⟩ : ∃ z, z = w15.alloc (.cells #[.int .i64 r, .int .i64 v, .slice As n cs] 26) := ⟨_, rfl⟩
  obtain ⟨Kss, hK⟩ : ∃ z, z = w15.heap.size := ⟨_, rfl⟩
  have bb : Below w15.heap.size w15 w16 := by rw [hw]; exact bel_new _ _
  have V_s' : Hid (Blk w16 Kss 26 [.int .i64 r, .int .i64 v, .slice As n cs]) := hid (by rw [hw, hK]; exact Blk.new _ _ _)
  have S_s' := hid (S_s.out.call bb)
  have LO_s : Hid (w.heap.size ≤ Kss) := hid (by rw [hK]; exact HB.out.size)
  have NEas : Hid (K2 ≠ Kss) := hid (by have := V_a.out.lt; omega)
  have NEsa : Hid (Kss ≠ K2) := hid (by have := V_a.out.lt; omega)
  have NEbs : Hid (K2 + 1 ≠ Kss) := hid (by have := V_b.out.lt; omega)
  have NEsb : Hid (Kss ≠ K2 + 1) := hid (by have := V_b.out.lt; omega)
  have NEcs : Hid (K2 + 2 ≠ Kss) := hid (by have := V_c.out.lt; omega)
  have NEsc : Hid (Kss ≠ K2 + 2) := hid (by have := V_c.out.lt; omega)
  have NExs : Hid (Kx ≠ Kss) := hid (by have := V_x.out.lt; omega)
  have NEsx : Hid (Kss ≠ Kx) := hid (by have := V_x.out.lt; omega)
  have NEys : Hid (Ky ≠ Kss) := hid (by have := V_y.out.lt; omega)
  have NEsy : Hid (Kss ≠ Ky) := hid (by have := V_y.out.lt; omega)
  have NEps : Hid (Kp ≠ Kss) := hid (by have := V_p.out.lt; omega)
  have NEsp : Hid (Kss ≠ Kp) := hid (by have := V_p.out.lt; omega)
  have NEqs : Hid (Kq ≠ Kss) := hid (by have := V_q.out.lt; omega)
  have NEsq : Hid (Kss ≠ Kq) := hid (by have := V_q.out.lt; omega)
  replace V_a := hid (V_a.out.on bb)
  replace S_a := hid (S_a.out.call bb)
  replace V_b := hid (V_b.out.on bb)
  replace S_b := hid (S_b.out.call bb)
  replace V_c := hid (V_c.out.on bb)
  replace S_c := hid (S_c.out.call bb)
  replace V_x := hid (V_x.out.on bb)
  replace S_x := hid (S_x.out.call bb)
  replace V_y := hid (V_y.out.on bb)
  replace S_y := hid (S_y.out.call bb)
  replace V_p := hid (V_p.out.on bb)
  replace S_p := hid (S_p.out.call bb)
  replace V_q := hid (V_q.out.on bb)
  replace S_q := hid (S_q.out.call bb)
  replace HB := hid (Bl.call HB.out bb)
  clear S_s
  have V_s := V_s'
  have S_s := S_s'
  have HW16 := hid hw
  have HK16 := hid hK
  clear bb hw hK V_s' S_s'
  go_upto_region 13 with (fail)
  rw [← HW16.out, ← HK16.out]
  have ka0 := V_a.out.cell 0
  have ka1 := V_a.out.cell 1
  have ka2 := V_a.out.cell 2
  go_wp2_with fail
  refine (snew_ok HOK.out.1 HRN.out.1 HRN.out.2 _).mono ?_; rintro e w17 ⟨vo, rfl, sx, bb⟩
  clear ka0 ka1 ka2
  replace V_a := hid (V_a.out.on bb)
  replace S_a := hid (S_a.out.call bb)
  replace V_b := hid (V_b.out.on bb)
  replace S_b := hid (S_b.out.call bb)
  replace V_c := hid (V_c.out.on bb)
  replace S_c := hid (S_c.out.call bb)
  replace V_x := hid (V_x.out.on bb)
  replace S_x := hid (S_x.out.call bb)
  replace V_y := hid (V_y.out.on bb)
  replace S_y := hid (S_y.out.call bb)
  replace V_p := hid (V_p.out.on bb)
  replace S_p := hid (S_p.out.call bb)
  replace V_q := hid (V_q.out.on bb)
  replace S_q := hid (S_q.out.call bb)
  replace V_s := hid (V_s.out.on bb)
  replace S_s := hid (S_s.out.call bb)
  replace HB := hid (Bl.call HB.out bb)
  have S_o := hid sx
  clear sx bb
  obtain ⟨Ao, co, hvx, _, _, _, _⟩ := S_o.out
  subst hvx
  obtain ⟨w18, hw⟩ : ∃ z, z = w17.alloc (.cells #[.int .i64 r, .int .i64 v, .slice Ao n co] 26) := ⟨_, rfl⟩
  obtain ⟨Ko, hK⟩ : ∃ z, z = w17.heap.size := ⟨_, rfl⟩
  have bb : Below w17.heap.size w17 w18 := by rw [hw]; exact bel_new _ _
  have V_o' : Hid (Blk w18 Ko 26 [.int .i64 r, .int .i64 v, .slice Ao n co]) := hid (by rw [hw, hK]; exact Blk.new _ _ _)
  have S_o' := hid (S_o.out.call bb)
  have LO_o : Hid (w.heap.size ≤ Ko) := hid (by rw [hK]; exact HB.out.size)
  have NEao : Hid (K2 ≠ Ko) := hid (by have := V_a.out.lt; omega)
  have NEoa : Hid (Ko ≠ K2) := hid (by have := V_a.out.lt; omega)
  have NEbo : Hid (K2 + 1 ≠ Ko) := hid (by have := V_b.out.lt; omega)
  have NEob : Hid (Ko ≠ K2 + 1) := hid (by have := V_b.out.lt; omega)
  have NEco : Hid (K2 + 2 ≠ Ko) := hid (by have := V_c.out.lt; omega)
  have NEoc : Hid (Ko ≠ K2 + 2) := hid (by have := V_c.out.lt; omega)
  have NExo : Hid (Kx ≠ Ko) := hid (by have := V_x.out.lt; omega)
  have NEox : Hid (Ko ≠ Kx) := hid (by have := V_x.out.lt; omega)
  have NEyo : Hid (Ky ≠ Ko) := hid (by have := V_y.out.lt; omega)
  have NEoy : Hid (Ko ≠ Ky) := hid (by have := V_y.out.lt; omega)
  have NEpo : Hid (Kp ≠ Ko) := hid (by have := V_p.out.lt; omega)
  have NEop : Hid (Ko ≠ Kp) := hid (by have := V_p.out.lt; omega)
  have NEqo : Hid (Kq ≠ Ko) := hid (by have := V_q.out.lt; omega)
  have NEoq : Hid (Ko ≠ Kq) := hid (by have := V_q.out.lt; omega)
  have NEso : Hid (Kss ≠ Ko) := hid (by have := V_s.out.lt; omega)
  have NEos : Hid (Ko ≠ Kss) := hid (by have := V_s.out.lt; omega)
  replace V_a := hid (V_a.out.on bb)
  replace S_a := hid (S_a.out.call bb)
  replace V_b := hid (V_b.out.on bb)
  replace S_b := hid (S_b.out.call bb)
  replace V_c := hid (V_c.out.on bb)
  replace S_c := hid (S_c.out.call bb)
  replace V_x := hid (V_x.out.on bb)
  replace S_x := hid (S_x.out.call bb)
  replace V_y := hid (V_y.out.on bb)
  replace S_y := hid (S_y.out.call bb)
  replace V_p := hid (V_p.out.on bb)
  replace S_p := hid (S_p.out.call bb)
  replace V_q := hid (V_q.out.on bb)
  replace S_q := hid (S_q.out.call bb)
  replace V_s := hid (V_s.out.on bb)
  replace S_s := hid (S_s.out.call bb)
  replace HB := hid (Bl.call HB.out bb)
  clear S_o
  have V_o := V_o'
  have S_o := S_o'
  have HW18 := hid hw
  have HK18 := hid hK
  clear bb hw hK V_o' S_o'
  go_upto_region 14 with (fail)
  rw [← HW18.out, ← HK18.out]
  have ka0 := V_a.out.cell 0
  have ka1 := V_a.out.cell 1
  have ka2 := V_a.out.cell 2
  have ko0 := V_o.out.cell 0
  have ko1 := V_o.out.cell 1
  have ko2 := V_o.out.cell 2
  go_wp2_with fail
  refine (mg_ok HOK.out S_a.out S_o.out HSa0.out (zs := xa) HA0.out).mono ?_; rintro e w19 ⟨vt, rfl, sx, bb⟩
  clear ka0 ka1 ka2 ko0 ko1 ko2
  replace V_a := hid (V_a.out.on bb)
  replace S_a := hid (S_a.out.call bb)
  replace V_b := hid (V_b.out.on bb)
  replace S_b := hid (S_b.out.call bb)
  replace V_c := hid (V_c.out.on bb)
  replace S_c := hid (S_c.out.call bb)
  replace V_x := hid (V_x.out.on bb)
  replace S_x := hid (S_x.out.call bb)
  replace V_y := hid (V_y.out.on bb)
  replace S_y := hid (S_y.out.call bb)
  replace V_p := hid (V_p.out.on bb)
  replace S_p := hid (S_p.out.call bb)
  replace V_q := hid (V_q.out.on bb)
  replace S_q := hid (S_q.out.call bb)
  replace V_s := hid (V_s.out.on bb)
  replace S_s := hid (S_s.out.call bb)
  replace V_o := hid (V_o.out.on bb)
  replace S_o := hid (S_o.out.call bb)
  replace HB := hid (Bl.call HB.out bb)
  have S_t := hid sx
  clear sx bb
  obtain ⟨At, ct, hvx, _, _, _, _⟩ := S_t.out
  subst hvx
  obtain ⟨w20, hw⟩ : ∃ z, z = w19.alloc (.cells #[.int .i64 r, .int .i64 v, .slice At n ct] 26) := ⟨_, rfl⟩
  obtain ⟨Kt, hK⟩ : ∃ z, z = w19.heap.size := ⟨_, rfl⟩
  have bb : Below w19.heap.size w19 w20 := by rw [hw]; exact bel_new _ _
  have V_t' : Hid (Blk w20 Kt 26 [.int .i64 r, .int .i64 v, .slice At n ct]) := hid (by rw [hw, hK]; exact Blk.new _ _ _)
  have S_t' := hid (S_t.out.call bb)
  have LO_t : Hid (w.heap.size ≤ Kt) := hid (by rw [hK]; exact HB.out.size)
  have NEat : Hid (K2 ≠ Kt) := hid (by have := V_a.out.lt; omega)
  have NEta : Hid (Kt ≠ K2) := hid (by have := V_a.out.lt; omega)
  have NEbt : Hid (K2 + 1 ≠ Kt) := hid (by have := V_b.out.lt; omega)
  have NEtb : Hid (Kt ≠ K2 + 1) := hid (by have := V_b.out.lt; omega)
  have NEct : Hid (K2 + 2 ≠ Kt) := hid (by have := V_c.out.lt; omega)
  have NEtc : Hid (Kt ≠ K2 + 2) := hid (by have := V_c.out.lt; omega)
  have NExt : Hid (Kx ≠ Kt) := hid (by have := V_x.out.lt; omega)
  have NEtx : Hid (Kt ≠ Kx) := hid (by have := V_x.out.lt; omega)
  have NEyt : Hid (Ky ≠ Kt) := hid (by have := V_y.out.lt; omega)
  have NEty : Hid (Kt ≠ Ky) := hid (by have := V_y.out.lt; omega)
  have NEpt : Hid (Kp ≠ Kt) := hid (by have := V_p.out.lt; omega)
  have NEtp : Hid (Kt ≠ Kp) := hid (by have := V_p.out.lt; omega)
  have NEqt : Hid (Kq ≠ Kt) := hid (by have := V_q.out.lt; omega)
  have NEtq : Hid (Kt ≠ Kq) := hid (by have := V_q.out.lt; omega)
  have NEst : Hid (Kss ≠ Kt) := hid (by have := V_s.out.lt; omega)
  have NEts : Hid (Kt ≠ Kss) := hid (by have := V_s.out.lt; omega)
  have NEot : Hid (Ko ≠ Kt) := hid (by have := V_o.out.lt; omega)
  have NEto : Hid (Kt ≠ Ko) := hid (by have := V_o.out.lt; omega)
  replace V_a := hid (V_a.out.on bb)
  replace S_a := hid (S_a.out.call bb)
  replace V_b := hid (V_b.out.on bb)
  replace S_b := hid (S_b.out.call bb)
  replace V_c := hid (V_c.out.on bb)
  replace S_c := hid (S_c.out.call bb)
  replace V_x := hid (V_x.out.on bb)
  replace S_x := hid (S_x.out.call bb)
  replace V_y := hid (V_y.out.on bb)
  replace S_y := hid (S_y.out.call bb)
  replace V_p := hid (V_p.out.on bb)
  replace S_p := hid (S_p.out.call bb)
  replace V_q := hid (V_q.out.on bb)
  replace S_q := hid (S_q.out.call bb)
  replace V_s := hid (V_s.out.on bb)
  replace S_s := hid (S_s.out.call bb)
  replace V_o := hid (V_o.out.on bb)
  replace S_o := hid (S_o.out.call bb)
  replace HB := hid (Bl.call HB.out bb)
  clear S_t
  have V_t := V_t'
  have S_t := S_t'
  have HW20 := hid hw
  have HK20 := hid hK
  clear bb hw hK V_t' S_t'
  go_upto_region 15 with (fail)
  rw [← HW20.out, ← HK20.out]
  have kp0 := V_p.out.cell 0
  have kp1 := V_p.out.cell 1
  have kp2 := V_p.out.cell 2
  have kq0 := V_q.out.cell 0
  have kq1 := V_q.out.cell 1
  have kq2 := V_q.out.cell 2
  go_wp2_with fail
  refine (lsame_is S_p.out S_q.out).mono ?_; rintro e w21 ⟨rfl, bb⟩
  clear kp0 kp1 kp2 kq0 kq1 kq2
  replace V_a := hid (V_a.out.on bb)
  replace S_a := hid (S_a.out.call bb)
  replace V_b := hid (V_b.out.on bb)
  replace S_b := hid (S_b.out.call bb)
  replace V_c := hid (V_c.out.on bb)
  replace S_c := hid (S_c.out.call bb)
  replace V_x := hid (V_x.out.on bb)
  replace S_x := hid (S_x.out.call bb)
  replace V_y := hid (V_y.out.on bb)
  replace S_y := hid (S_y.out.call bb)
  replace V_p := hid (V_p.out.on bb)
  replace S_p := hid (S_p.out.call bb)
  replace V_q := hid (V_q.out.on bb)
  replace S_q := hid (S_q.out.call bb)
  replace V_s := hid (V_s.out.on bb)
  replace S_s := hid (S_s.out.call bb)
  replace V_o := hid (V_o.out.on bb)
  replace S_o := hid (S_o.out.call bb)
  replace V_t := hid (V_t.out.on bb)
  replace S_t := hid (S_t.out.call bb)
  replace HB := hid (Bl.call HB.out bb)
  clear bb
  have ks0 := V_s.out.cell 0
  have ks1 := V_s.out.cell 1
  have ks2 := V_s.out.cell 2
  have ko0 := V_o.out.cell 0
  have ko1 := V_o.out.cell 1
  have ko2 := V_o.out.cell 2
  go_wp2_with fail
  refine (lsame_is S_s.out S_o.out).mono ?_; rintro e w22 ⟨rfl, bb⟩
  clear ks0 ks1 ks2 ko0 ko1 ko2
  replace V_a := hid (V_a.out.on bb)
  replace S_a := hid (S_a.out.call bb)
  replace V_b := hid (V_b.out.on bb)
  replace S_b := hid (S_b.out.call bb)
  replace V_c := hid (V_c.out.on bb)
  replace S_c := hid (S_c.out.call bb)
  replace V_x := hid (V_x.out.on bb)
  replace S_x := hid (S_x.out.call bb)
  replace V_y := hid (V_y.out.on bb)
  replace S_y := hid (S_y.out.call bb)
  replace V_p := hid (V_p.out.on bb)
  replace S_p := hid (S_p.out.call bb)
  replace V_q := hid (V_q.out.on bb)
  replace S_q := hid (S_q.out.call bb)
  replace V_s := hid (V_s.out.on bb)
  replace S_s := hid (S_s.out.call bb)
  replace V_o := hid (V_o.out.on bb)
  replace S_o := hid (S_o.out.call bb)
  replace V_t := hid (V_t.out.on bb)
  replace S_t := hid (S_t.out.call bb)
  replace HB := hid (Bl.call HB.out bb)
  clear bb
  have kt0 := V_t.out.cell 0
  have kt1 := V_t.out.cell 1
  have kt2 := V_t.out.cell 2
  have ka0 := V_a.out.cell 0
  have ka1 := V_a.out.cell 1
  have ka2 := V_a.out.cell 2
  go_wp2_with fail
  refine (lsame_is S_t.out S_a.out).mono ?_; rintro e w23 ⟨rfl, bb⟩
  clear kt0 kt1 kt2 ka0 ka1 ka2
  replace V_a := hid (V_a.out.on bb)
  replace S_a := hid (S_a.out.call bb)
  replace V_b := hid (V_b.out.on bb)
  replace S_b := hid (S_b.out.call bb)
  replace V_c := hid (V_c.out.on bb)
  replace S_c := hid (S_c.out.call bb)
  replace V_x := hid (V_x.out.on bb)
  replace S_x := hid (S_x.out.call bb)
  replace V_y := hid (V_y.out.on bb)
  replace S_y := hid (S_y.out.call bb)
  replace V_p := hid (V_p.out.on bb)
  replace S_p := hid (S_p.out.call bb)
  replace V_q := hid (V_q.out.on bb)
  replace S_q := hid (S_q.out.call bb)
  replace V_s := hid (V_s.out.on bb)
  replace S_s := hid (S_s.out.call bb)
  replace V_o := hid (V_o.out.on bb)
  replace S_o := hid (S_o.out.call bb)
  replace V_t := hid (V_t.out.on bb)
  replace S_t := hid (S_t.out.call bb)
  replace HB := hid (Bl.call HB.out bb)
  clear bb
  go_wp2_with fail
  refine (skAwake_any _).mono ?_; rintro e w' ⟨rfl, hb⟩
  go_wp2
  go_ret
  exact ⟨rfl, Bl.call HB.out hb⟩

theorem sketchMerges_walk (r v : Int) (va : Value) (n : Nat) (xa : List Nat) (r2 v2 : Int) (vb : Value) (n2 : Nat) (xb : List Nat) (r3 v3 : Int) (vc : Value) (n3 : Nat) (xc : List Nat) (w : World) (ha : Sl w w.heap.size 1 va n (us xa)) (sa : Sk.Small xa) (hb : Sl w w.heap.size 1 vb n2 (us xb)) (sb : Sk.Small xb) (hc : Sl w w.heap.size 1 vc n3 (us xc)) (sc : Sk.Small xc) :
    Calls Try.prog 5 #[.agg #[.int .i64 r, .int .i64 v, va], .agg #[.int .i64 r2, .int .i64 v2, vb], .agg #[.int .i64 r3, .int .i64 v3, vc]] w (IsTrue w) := by
  obtain ⟨A, c, rfl, _, _, _, _⟩ := id ha
  obtain ⟨A2, c2, rfl, _, _, _, _⟩ := id hb
  obtain ⟨A3, c3, rfl, _, _, _, _⟩ := id hc
  cases h1 : decide (n ≤ 600)
  · exact merges_na _ _ _ _ _ _ _ _ _ _ _ _ _ _ _ _ _ _ _ ha hb hc h1
  cases h2 : decide (n2 ≤ 600)
  · exact merges_nb _ _ _ _ _ _ _ _ _ _ _ _ _ _ _ _ _ _ _ ha hb hc h1 h2
  cases h3 : decide (n3 ≤ 600)
  · exact merges_nc _ _ _ _ _ _ _ _ _ _ _ _ _ _ _ _ _ _ _ ha hb hc h1 h2 h3
  by_cases h : SOk r v n ∧ SOk r2 v2 n2 ∧ r = r2 ∧ v = v2
  · obtain ⟨hok, hok2, rfl, rfl⟩ := h
    have e : n = n2 := by have h1 := hok.2; have h2 := hok2.2; omega
    subst e
    by_cases h' : SOk r v n ∧ SOk r3 v3 n3 ∧ r = r3 ∧ v = v3
    · obtain ⟨_, hok3, rfl, rfl⟩ := h'
      have e : n = n3 := by have h1 := hok.2; have h2 := hok3.2; omega
      subst e
      exact merges_all _ _ _ _ _ _ _ _ _ _ _ _ _ ha hb hc h1 h2 h3 sa sb sc hok
    · exact merges_half _ _ _ _ _ _ _ _ _ _ _ _ _ _ _ _ ha hb hc h1 h2 h3 sa sb hok h'
  · exact merges_no _ _ _ _ _ _ _ _ _ _ _ _ _ _ _ _ _ _ _ ha hb hc h1 h2 h3 h
end Go.Proofs.Ytomgbhnalhddiaa
