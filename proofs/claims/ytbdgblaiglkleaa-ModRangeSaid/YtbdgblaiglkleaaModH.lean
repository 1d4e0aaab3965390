/- Walks of ModTells, ModRange. -/
import Derived.Test.YtbdgblaiglkleaaModG
namespace Go.Proofs.Ytbdgblaiglkleaa
open Go.RowKit
set_option linter.unusedVariables false

theorem modTells_walk (a b : Int) (w : World) (ha : 0 ≤ a ∧ a ≤ 18446744073709551615) (hb : 0 ≤ b ∧ b ≤ 18446744073709551615) :
    Calls Try.prog 4 #[.int .u64 a, .int .u64 b] w (IsTrue w) := by
  obtain ⟨a, rfl⟩ := Int.eq_ofNat_of_zero_le ha.1
  obtain ⟨b, rfl⟩ := Int.eq_ofNat_of_zero_le hb.1
  obtain ⟨-, ha⟩ := ha
  obtain ⟨-, hb⟩ := hb
  have la : a < 18446744073709551616 := by omega
  have lb : b < 18446744073709551616 := by omega
  have E1 : Hid (((a % Md.P : Nat) : Int) = (a : Int) % 2305843009213693951) := hid (by rw [Md.P_eq]; omega)
  go_enter Try.func4, Try.ntmps4
  go_wp2_with fail
  refine (modOf_z a rfl la E1.out).mono ?_; rintro e w' ⟨rfl, rfl⟩
  go_wp2_with fail
  refine (modAdd_z a b rfl rfl la lb rfl).mono ?_; rintro e w' ⟨rfl, rfl⟩
  go_wp2_with fail
  refine (refAdd_z a b rfl rfl la lb rfl).mono ?_; rintro e w' ⟨rfl, rfl⟩
  go_wp2_with fail
  refine (modSub_z a b rfl rfl la lb rfl).mono ?_; rintro e w' ⟨rfl, rfl⟩
  go_wp2_with fail
  refine (refSub_z a b rfl rfl la lb rfl).mono ?_; rintro e w' ⟨rfl, rfl⟩
  go_wp2_with fail
  refine (modMul_z a b rfl rfl la lb rfl).mono ?_; rintro e w1 ⟨rfl, q1⟩
  have Q1 := hid q1
  clear q1
  go_wp2_with fail
  refine (refMul_z a b rfl rfl la lb rfl).mono ?_; rintro e w' ⟨rfl, rfl⟩
  go_wp2_with fail
  refine (modAwake_any _).mono ?_; rintro e wz ⟨rfl, qz⟩
  go_wp2
  go_ret
  exact ⟨rfl, (Q1.out.trans qz).bel⟩
theorem cell_five {w : World} {k : Nat} {t : TypeId} {x0 x1 x2 x3 x4 : Value} (h : Blk w k t [x0, x1, x2, x3, x4]) :
    w.cell? ⟨k, 0, none⟩ = some x0 ∧ w.cell? ⟨k, 1, none⟩ = some x1 ∧ w.cell? ⟨k, 2, none⟩ = some x2 ∧ w.cell? ⟨k, 3, none⟩ = some x3 ∧ w.cell? ⟨k, 4, none⟩ = some x4 :=
  ⟨h.cell 0, h.cell 1, h.cell 2, h.cell 3, h.cell 4⟩
set_option maxRecDepth 100000 in
theorem modRange_walk (a b : Int) (w : World) (ha : 0 ≤ a ∧ a ≤ 18446744073709551615) (hb : 0 ≤ b ∧ b ≤ 18446744073709551615) :
    Calls Try.prog 7 #[.int .u64 a, .int .u64 b] w (IsTrue w) := by
  obtain ⟨a, rfl⟩ := Int.eq_ofNat_of_zero_le ha.1
  obtain ⟨b, rfl⟩ := Int.eq_ofNat_of_zero_le hb.1
  obtain ⟨-, ha⟩ := ha
  obtain ⟨-, hb⟩ := hb
  have la : a < 18446744073709551616 := by omega
  have lb : b < 18446744073709551616 := by omega
  have p0 : a % Md.P < 2305843009213693951 := Nat.mod_lt _ Md.P_pos
  have p1 := Md.add_lt a b
  have p2 := Md.sub_lt a b
  have p3 := Md.mul_lt a b
  have p4 := Md.inv_lt a
  rw [Md.P_eq] at p1 p2 p3 p4
  have soa := small_of a
  have sob := small_of b
  obtain ⟨x, hx⟩ : ∃ x, x = a % Md.P := ⟨_, rfl⟩
  obtain ⟨y, hy⟩ : ∃ y, y = b % Md.P := ⟨_, rfl⟩
  have E1 := zc (Md.add_of a b)
  have E2 := zc (Md.sub_of a b)
  have E3 := zc (Md.mul_of a b)
  have E4 := zc (Md.inv_of a)
  have ha2 := Md.mul_comm a b
  have EX := zc hx.symm
  have EY := zc hy.symm
  rw [← hx] at p0 soa E1 E2 E3 E4
  rw [← hy] at sob E1 E2 E3
  clear hx hy ha2
  have i0 : (x : Int) < 2305843009213693951 := by omega
  have i1 : (Md.add a b : Int) < 2305843009213693951 := by omega
  have i2 : (Md.sub a b : Int) < 2305843009213693951 := by omega
  have i3 : (Md.mul a b : Int) < 2305843009213693951 := by omega
  have i4 : (Md.inv a : Int) < 2305843009213693951 := by omega
  obtain ⟨n1, e1⟩ : ∃ n, n = Md.add a b := ⟨_, rfl⟩
  obtain ⟨n2, e2⟩ : ∃ n, n = Md.sub a b := ⟨_, rfl⟩
  obtain ⟨n3, e3⟩ : ∃ n, n = Md.mul a b := ⟨_, rfl⟩
  obtain ⟨n4, e4⟩ : ∃ n, n = Md.inv a := ⟨_, rfl⟩
  have D1 := zc e1.symm
  have D2 := zc e2.symm
  have D3 := zc e3.symm
  have D4 := zc e4.symm
  rw [← e1] at E1 i1
  rw [← e2] at E2 i2
  rw [← e3] at E3 i3
  rw [← e4] at E4 i4
  clear e1 e2 e3 e4 p0 p1 p2 p3 p4
  go_enter Try.func7, Try.ntmps7
  go_wp2_with fail
  refine (modOf_z a rfl la EX.out).mono ?_; rintro e w' ⟨rfl, rfl⟩
  go_wp2_with fail
  refine (modOf_z b rfl lb EY.out).mono ?_; rintro e w' ⟨rfl, rfl⟩
  go_wp2_with fail
  refine (modAdd_z a b rfl rfl la lb D1.out).mono ?_; rintro e w' ⟨rfl, rfl⟩
  go_wp2_with fail
  refine (modSub_z a b rfl rfl la lb D2.out).mono ?_; rintro e w' ⟨rfl, rfl⟩
  go_wp2_with fail
  refine (modMul_z a b rfl rfl la lb D3.out).mono ?_; rintro e w1 ⟨rfl, q1⟩
  have Q1 := hid q1
  clear q1
  go_wp2_with fail
  refine (modInv_z a rfl la D4.out).mono ?_; rintro e w2 ⟨rfl, q2⟩
  have Q2 := hid (Q1.out.trans q2)
  clear q2
  have HB := hid (cell_five (Blk.new w2 22 [.int .u64 (x : Int), .int .u64 (n1 : Int), .int .u64 (n2 : Int), .int .u64 (n3 : Int), .int .u64 (n4 : Int)]))
  have HL := hid (Bl.new Q2.out.bel (.cells [.int .u64 (x : Int), .int .u64 (n1 : Int), .int .u64 (n2 : Int), .int .u64 (n3 : Int), .int .u64 (n4 : Int)].toArray 22))
  obtain ⟨K, hK⟩ : ∃ K, K = w2.heap.size := ⟨_, rfl⟩
  go_wp2_with fail
  rw [← hK]
  have HK := hid hK
  clear hK
  obtain ⟨w3, hw3⟩ : ∃ w3, w3 = w2.alloc (.cells #[.int .u64 (x : Int), .int .u64 (n1 : Int), .int .u64 (n2 : Int), .int .u64 (n3 : Int), .int .u64 (n4 : Int)] 22) := ⟨_, rfl⟩
  have HB3 : Hid (w3.cell? ⟨K, 0, none⟩ = some (.int .u64 (x : Int)) ∧ w3.cell? ⟨K, 1, none⟩ = some (.int .u64 (n1 : Int)) ∧ w3.cell? ⟨K, 2, none⟩ = some (.int .u64 (n2 : Int)) ∧ w3.cell? ⟨K, 3, none⟩ = some (.int .u64 (n3 : Int)) ∧ w3.cell? ⟨K, 4, none⟩ = some (.int .u64 (n4 : Int))) := hid (by rw [hw3, HK.out]; exact HB.out)
  have HL3 : Hid (Below w.heap.size w w3) := hid (by rw [hw3]; exact HL.out)
  rw [← hw3]
  clear hw3 HB HL
  obtain ⟨c0, c1, c2, c3, c4⟩ := HB3.out
  go_loop [8, 27] (fun _ c => ∃ k : Nat, k ≤ 5 ∧ c = .int .i64 k) (fun _ c => 5 - (intOf c).toNat)
  case atStart => exact ⟨0, by omega, rfl⟩
  case round =>
    obtain ⟨k, hk, rfl⟩ := hrel
    have hk' : k = 0 ∨ k = 1 ∨ k = 2 ∨ k = 3 ∨ k = 4 ∨ k = 5 := by omega
    rcases hk' with rfl | rfl | rfl | rfl | rfl | rfl
    · have dc : decide ((2305843009213693951 : Int) ≤ (x : Int)) = false := decide_eq_false (by omega)
      clear i0 i1 i2 i3 i4 ha hb la lb soa sob
      go_wp2_with fail
      go_round
      case rel => exact ⟨1, by omega, by go_num⟩
      case measure => simp [intOf]
    · have dc : decide ((2305843009213693951 : Int) ≤ (n1 : Int)) = false := decide_eq_false (by omega)
      clear i0 i1 i2 i3 i4 ha hb la lb soa sob
      go_wp2_with fail
      go_round
      case rel => exact ⟨2, by omega, by go_num⟩
      case measure => simp [intOf]
    · have dc : decide ((2305843009213693951 : Int) ≤ (n2 : Int)) = false := decide_eq_false (by omega)
      clear i0 i1 i2 i3 i4 ha hb la lb soa sob
      go_wp2_with fail
      go_round
      case rel => exact ⟨3, by omega, by go_num⟩
      case measure => simp [intOf]
    · have dc : decide ((2305843009213693951 : Int) ≤ (n3 : Int)) = false := decide_eq_false (by omega)
      clear i0 i1 i2 i3 i4 ha hb la lb soa sob
      go_wp2_with fail
      go_round
      case rel => exact ⟨4, by omega, by go_num⟩
      case measure => simp [intOf]
    · have dc : decide ((2305843009213693951 : Int) ≤ (n4 : Int)) = false := decide_eq_false (by omega)
      clear i0 i1 i2 i3 i4 ha hb la lb soa sob
      go_wp2_with fail
      go_round
      case rel => exact ⟨5, by omega, by go_num⟩
      case measure => simp [intOf]
    · clear c0 c1 c2 c3 c4 i0 i1 i2 i3 i4
      go_wp2_with fail
      refine (modAdd_z x y rfl rfl soa sob E1.out).mono ?_; rintro e w' ⟨rfl, rfl⟩
      go_wp2_with fail
      refine (modAdd_z a b rfl rfl la lb D1.out).mono ?_; rintro e w' ⟨rfl, rfl⟩
      go_wp2_with fail
      refine (modSub_z x y rfl rfl soa sob E2.out).mono ?_; rintro e w' ⟨rfl, rfl⟩
      go_wp2_with fail
      refine (modSub_z a b rfl rfl la lb D2.out).mono ?_; rintro e w' ⟨rfl, rfl⟩
      go_wp2_with fail
      refine (modMul_z x y rfl rfl soa sob E3.out).mono ?_; rintro e w1 ⟨rfl, q1⟩
      have Q1 := hid q1
      clear q1
      go_wp2_with fail
      refine (modMul_z a b rfl rfl la lb D3.out).mono ?_; rintro e w2 ⟨rfl, q2⟩
      have Q2 := hid (Q1.out.trans q2)
      clear q2
      go_wp2_with fail
      refine (modInv_z x rfl soa E4.out).mono ?_; rintro e w3 ⟨rfl, q3⟩
      have Q3 := hid (Q2.out.trans q3)
      clear q3
      go_wp2_with fail
      refine (modInv_z a rfl la D4.out).mono ?_; rintro e w4 ⟨rfl, q4⟩
      have Q4 := hid (Q3.out.trans q4)
      clear q4
      go_wp2_with fail
      refine (modAwake_any _).mono ?_; rintro e wz ⟨rfl, qz⟩
      go_wp2
      go_ret
      exact ⟨rfl, Bl.qt HL3.out (Q4.out.trans qz)⟩
end Go.Proofs.Ytbdgblaiglkleaa
