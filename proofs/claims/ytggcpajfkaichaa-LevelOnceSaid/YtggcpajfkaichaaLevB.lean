/- Contract of awake; walks of LevelBounds, LevelSums, LevelOnce. -/
import Derived.Test.YtggcpajfkaichaaLevA
namespace Go.Proofs.Ytggcpajfkaichaa
open Go.RowKit
set_option linter.unusedVariables false
attribute [local go_sem ↓] Go.wp_at_zero Go.wp_at_succ

set_option maxRecDepth 100000 in
theorem len_4 (w : World) : Calls Try.prog 19 #[.int .u64 4] w fun e w' => e = .returned (.int .i64 3) ∧ w = w' := by
  go_enter Try.func19, Try.ntmps19
  go_wp2
  go_ret
  exact ⟨ret_int (by decide +kernel), rfl⟩
set_option maxRecDepth 100000 in
theorem len_0 (w : World) : Calls Try.prog 19 #[.int .u64 0] w fun e w' => e = .returned (.int .i64 0) ∧ w = w' := by
  go_enter Try.func19, Try.ntmps19
  go_wp2
  go_ret
  exact ⟨ret_int (by decide +kernel), rfl⟩
theorem levels_5 (w : World) : Calls Try.prog 14 #[.int .i64 5] w fun e w' => e = .returned (.int .i64 8) ∧ w = w' := by
  go_enter Try.func14, Try.ntmps14
  go_wp2_with fail
  refine (len_4 _).mono ?_; rintro e w' ⟨rfl, rfl⟩
  go_wp2
  go_ret
  exact ⟨rfl, rfl⟩
theorem levels_1 (w : World) : Calls Try.prog 14 #[.int .i64 1] w fun e w' => e = .returned (.int .i64 2) ∧ w = w' := by
  go_enter Try.func14, Try.ntmps14
  go_wp2_with fail
  refine (len_0 _).mono ?_; rintro e w' ⟨rfl, rfl⟩
  go_wp2
  go_ret
  exact ⟨rfl, rfl⟩
theorem levels_0 (w : World) : Calls Try.prog 14 #[.int .i64 0] w fun e w' => e = .returned (.int .i64 0) ∧ w = w' := by
  go_enter Try.func14, Try.ntmps14
  go_wp2
  go_ret
  exact ⟨rfl, rfl⟩
theorem deep_lit {x l z : Int} {w : World} (h : Nat × Nat) (n lim d : Nat) (hh : HSmall h) (hx : x = (n : Int)) (hl' : l = (lim : Int)) (hn : n < 18446744073709551616) (hl : lim ≤ 61) (hd : Sk.IsDeep (Sk.val h n) lim d) (hz : ((d : Nat) : Int) = z) :
    Calls Try.prog 13 #[hashV h, .int .u64 x, .int .i64 l] w fun e w' => e = .returned (.int .i64 z) ∧ Below w.heap.size w w' := by
  subst hl' hz
  refine (deep_any h n lim hh hx hn hl).mono ?_
  rintro e w' ⟨d', rfl, h1, h2⟩
  rw [Sk.deep_eq h1 hd]
  exact ⟨rfl, h2⟩
theorem v12 : ((Sk.val (1, 5) 7 : Nat) : Int) = 12 := by decide +kernel
theorem d22 : Sk.IsDeep (Sk.val (1, 5) 7) 22 22 := Sk.deep_of (Nat.le_refl _) (by decide +kernel) (by decide +kernel)
theorem d58 : Sk.IsDeep (Sk.val (1, 5) 7) 61 58 := Sk.deep_of (by decide) (by decide +kernel) (by decide +kernel)
theorem bn0 : ((Sk.bnd 0 : Nat) : Int) = 2305843009213693951 := by decide +kernel
theorem bn60 : ((Sk.bnd 60 : Nat) : Int) = 1 := by decide +kernel
theorem hs15 : HSmall (1, 5) := by constructor <;> decide
theorem hashV_15 : Value.agg #[.int .u64 1, .int .u64 5] = hashV (1, 5) := rfl
set_option maxRecDepth 100000 in
theorem levAwake_any (w : World) : Calls Try.prog 7 #[] w (IsTrue w) := by
  have V := @value_z
  have D := @deep_lit
  have VH := hid (fun w => @value_z 7 12 w (1, 5) 7 hs15 rfl (by decide) v12)
  have DH := hid (fun w => @deep_lit 7 22 22 w (1, 5) 7 22 22 hs15 rfl rfl (by decide) (by decide) d22 rfl)
  have EH := hid (fun w => @deep_lit 7 61 58 w (1, 5) 7 61 58 hs15 rfl rfl (by decide) (by decide) d58 rfl)
  rw [← hashV_15] at VH DH EH
  have HB := hid (bel_new w (.cells #[.int .u64 1, .int .u64 5] 27))
  have HC := hid (And.intro ((Blk.new w 27 [.int .u64 1, .int .u64 5]).cell 0) ((Blk.new w 27 [.int .u64 1, .int .u64 5]).cell 1))
  clear V D
  go_enter Try.func7, Try.ntmps7
  have B0 := HB
  go_wp2_with fail
  refine (VH.out _).mono ?_; rintro e w1 ⟨rfl, b1⟩
  have B1 := hid (Bl.call B0.out b1)
  have c0 : w1.cell? ⟨w.heap.size, 0, none⟩ = some (.int .u64 1) := cell_later b1 HC.out.1
  have c1 : w1.cell? ⟨w.heap.size, 1, none⟩ = some (.int .u64 5) := cell_later b1 HC.out.2
  clear b1
  go_wp2_with fail
  refine (bound_in 0 rfl (by decide) bn0).mono ?_; rintro e w' ⟨rfl, rfl⟩
  go_wp2_with fail
  refine (bound_in 60 rfl (by decide) bn60).mono ?_; rintro e w' ⟨rfl, rfl⟩
  go_wp2_with fail
  refine (bound_out (.inr (by decide))).mono ?_; rintro e w' ⟨rfl, rfl⟩
  go_wp2_with fail
  refine (DH.out _).mono ?_; rintro e w2 ⟨rfl, b2⟩
  have B2 := hid (Bl.call B1.out b2)
  have d0 : w2.cell? ⟨w.heap.size, 0, none⟩ = some (.int .u64 1) := cell_later b2 c0
  have d1 : w2.cell? ⟨w.heap.size, 1, none⟩ = some (.int .u64 5) := cell_later b2 c1
  clear b2 c0 c1
  go_wp2_with fail
  refine (EH.out _).mono ?_; rintro e w3 ⟨rfl, b3⟩
  have B3 := hid (Bl.call B2.out b3)
  clear b3 d0 d1
  go_wp2_with fail
  refine (levels_5 _).mono ?_; rintro e w' ⟨rfl, rfl⟩
  go_wp2_with fail
  refine (levels_1 _).mono ?_; rintro e w' ⟨rfl, rfl⟩
  go_wp2_with fail
  refine (levels_0 _).mono ?_; rintro e w' ⟨rfl, rfl⟩
  go_wp2
  go_ret
  exact ⟨rfl, B3.out⟩

theorem bnd_pos (j : Nat) (h : j ≤ 60) : 0 < Sk.bnd j := by
  have := Sk.bnd_le j 60 h
  have e : Sk.bnd 60 = 1 := by decide +kernel
  omega
theorem levelBounds_walk (l v : Int) (w : World) (hl : 0 ≤ l ∧ l ≤ 255) (hv : 0 ≤ v ∧ v ≤ 18446744073709551615) :
    Calls Try.prog 3 #[.int .u8 l, .int .u64 v] w (IsTrue w) := by
  obtain ⟨hl0, hl1⟩ := hl
  obtain ⟨i, hi⟩ : ∃ i : Nat, (i : Int) = l % 60 := ⟨(l % 60).toNat, by omega⟩
  have hi59 : i ≤ 59 := by omega
  have HI := hid hi
  obtain ⟨b, hb⟩ : ∃ b, b = Sk.bnd (i + 1) := ⟨_, rfl⟩
  obtain ⟨a, ha⟩ : ∃ a, a = Sk.bnd i := ⟨_, rfl⟩
  have e2 : b = a / 2 := by rw [hb, ha, Sk.bnd_succ]
  have e3 : 0 < b := by rw [hb]; exact bnd_pos _ (by omega)
  have la : a < 18446744073709551616 := by rw [ha]; have := Sk.bnd_le 0 i (Nat.zero_le _); rw [Sk.bnd_zero, Md.P_eq] at this; omega
  have EA := zc' ha.symm
  have EB := zc' hb.symm
  have e4 : ((b : Int) == (a : Int) / 2) = true := by rw [beq_iff_eq]; omega
  have e5 : (0 : Int) < (b : Int) := by omega
  have e6 : (b : Int) ≤ (a : Int) := by omega
  clear hi ha hb e2
  by_cases hvb : (b : Int) ≤ v
  · go_enter Try.func3, Try.ntmps3
    go_wp2_with fail
    rw [← HI.out]
    refine (bound_in i rfl (by omega) EA.out).mono ?_; rintro e w' ⟨rfl, rfl⟩
    go_wp2_with fail
    refine (bound_in (i + 1) rfl (by omega) EB.out).mono ?_; rintro e w' ⟨rfl, rfl⟩
    go_wp2_with fail
    refine (levAwake_any _).mono ?_; rintro e w' ⟨rfl, hb⟩
    go_wp2
    go_ret
    exact ⟨rfl, hb⟩
  · have hva : v < (a : Int) := by omega
    go_enter Try.func3, Try.ntmps3
    go_wp2_with fail
    rw [← HI.out]
    refine (bound_in i rfl (by omega) EA.out).mono ?_; rintro e w' ⟨rfl, rfl⟩
    go_wp2_with fail
    refine (bound_in (i + 1) rfl (by omega) EB.out).mono ?_; rintro e w' ⟨rfl, rfl⟩
    go_wp2_with fail
    refine (levAwake_any _).mono ?_; rintro e w' ⟨rfl, hb⟩
    go_wp2
    go_ret
    exact ⟨rfl, hb⟩

set_option maxRecDepth 100000 in
theorem levelSums_walk (h : Nat × Nat) (n m : Int) (w : World) (hh : HSmall h) (hn : 0 ≤ n ∧ n ≤ 18446744073709551615) (hm : 0 ≤ m ∧ m ≤ 18446744073709551615) :
    Calls Try.prog 4 #[hashV h, .int .u64 n, .int .u64 m] w (IsTrue w) := by
  obtain ⟨n, rfl⟩ := Int.eq_ofNat_of_zero_le hn.1
  obtain ⟨m, rfl⟩ := Int.eq_ofNat_of_zero_le hm.1
  obtain ⟨-, hn⟩ := hn
  obtain ⟨-, hm⟩ := hm
  have ln : n < 18446744073709551616 := by omega
  have lm : m < 18446744073709551616 := by omega
  have HH := hid hh
  obtain ⟨A, B⟩ := h
  obtain ⟨lA, lB⟩ := hh
  dsimp only at lA lB
  have E1 : Hid (((Md.sub (Sk.val (A, B) n) (Sk.val (A, B) m) : Nat) : Int) = ((Md.mul A (Md.sub n m) : Nat) : Int)) := zc' (by unfold Sk.val; rw [Md.sub_sub_, ← Md.mul_sub])
  have E2 : Hid (((Sk.val (A, B) 0 : Nat) : Int) = ((B % Md.P : Nat) : Int)) := zc' (by unfold Sk.val; rw [Md.mul_eq, Nat.mul_zero, Nat.zero_mod, Md.add_eq, Nat.zero_add])
  obtain ⟨x, hx⟩ : ∃ x, x = Sk.val (A, B) n := ⟨_, rfl⟩
  obtain ⟨y, hy⟩ : ∃ y, y = Sk.val (A, B) m := ⟨_, rfl⟩
  obtain ⟨z, hz⟩ : ∃ z, z = B % Md.P := ⟨_, rfl⟩
  have EX := zc' hx.symm
  have EY := zc' hy.symm
  have EZ := zc' hz.symm
  rw [← hx, ← hy] at E1
  rw [← hz] at E2
  have lx : x < 18446744073709551616 := by rw [hx]; exact small_val _ _
  have ly : y < 18446744073709551616 := by rw [hy]; exact small_val _ _
  have ls := small_sub n m
  have HB := hid (bel_new w (.cells #[.int .u64 (A : Int), .int .u64 (B : Int)] 27))
  have VN : Hid (∀ w, Calls Try.prog 9 #[.agg #[.int .u64 (A : Int), .int .u64 (B : Int)], .int .u64 (n : Int)] w fun e w' => e = .returned (.int .u64 (x : Int)) ∧ Below w.heap.size w w') := hid (fun w => value_z (A, B) n HH.out rfl ln EX.out)
  have VM : Hid (∀ w, Calls Try.prog 9 #[.agg #[.int .u64 (A : Int), .int .u64 (B : Int)], .int .u64 (m : Int)] w fun e w' => e = .returned (.int .u64 (y : Int)) ∧ Below w.heap.size w w') := hid (fun w => value_z (A, B) m HH.out rfl lm EY.out)
  have VZ : Hid (∀ w, Calls Try.prog 9 #[.agg #[.int .u64 (A : Int), .int .u64 (B : Int)], .int .u64 0] w fun e w' => e = .returned (.int .u64 (z : Int)) ∧ Below w.heap.size w w') := hid (fun w => value_z (A, B) 0 HH.out rfl (by decide) E2.out)
  clear hx hy hz
  obtain ⟨K, hK⟩ : ∃ K, K = w.heap.size := ⟨_, rfl⟩
  have HC : Hid ((w.alloc (.cells #[.int .u64 (A : Int), .int .u64 (B : Int)] 27)).cell? ⟨K, 0, none⟩ = some (.int .u64 (A : Int)) ∧ (w.alloc (.cells #[.int .u64 (A : Int), .int .u64 (B : Int)] 27)).cell? ⟨K, 1, none⟩ = some (.int .u64 (B : Int))) :=
    hid (by rw [hK]; exact ⟨(Blk.new w _ [.int .u64 (A : Int), .int .u64 (B : Int)]).cell 0, (Blk.new w _ [.int .u64 (A : Int), .int .u64 (B : Int)]).cell 1⟩)
  unfold hashV
  go_enter Try.func4, Try.ntmps4
  go_wp2_with fail
  rw [← hK]
  generalize w.alloc (.cells #[.int .u64 (A : Int), .int .u64 (B : Int)] 27) = w0 at *
  obtain ⟨c0, c1⟩ := HC.out
  clear hK
  go_region_held3 (fun w' => w'.cell? ⟨K, 0, none⟩ = some (.int .u64 (A : Int)) ∧ w'.cell? ⟨K, 1, none⟩ = some (.int .u64 (B : Int)))
    (first | go_keep | (go_split_ands; refine ⟨?_, ?_⟩ <;> (refine cell_later (by assumption) ?_; first | assumption | (rw [Qt.cell (qt_drew _)]; assumption) | (rw [Qt.cell (qt_of _ _)]; assumption))) | (go_split_ands; refine ⟨?_, ?_⟩ <;> (rw [Qt.cell (by assumption)]; assumption)))
    (first | (go_at_call 9; (with_reducible refine (VN.out _).mono ?_); rintro e w1 ⟨rfl, b1⟩)
           | (go_at_call 9; (with_reducible refine (VM.out _).mono ?_); rintro e w2 ⟨rfl, b2⟩)
           | (go_at_call 9; (with_reducible refine (VZ.out _).mono ?_); rintro e w5 ⟨rfl, b5⟩)
           | (go_at_call 8; (with_reducible refine (modSub_z x y rfl rfl lx ly E1.out).mono ?_); rintro e w' ⟨rfl, rfl⟩)
           | (go_at_call 8; (with_reducible refine (modSub_z n m rfl rfl ln lm rfl).mono ?_); rintro e w' ⟨rfl, rfl⟩)
           | (go_at_call 10; (with_reducible refine (modMul_z A (Md.sub n m) rfl rfl lA ls rfl).mono ?_); rintro e w4 ⟨rfl, q4⟩)
           | (go_at_call 11; (with_reducible refine (modOf_z B rfl lB EZ.out).mono ?_); rintro e w' ⟨rfl, rfl⟩)
           | (go_at_call 7; (with_reducible refine (levAwake_any _).mono ?_); rintro e w6 ⟨rfl, b6⟩))
  go_wp2
  go_ret
  exact ⟨rfl, (by repeat (first | exact HB.out | refine Bl.call ?_ (by assumption) | refine Bl.qt ?_ (by assumption) | refine Bl.qt ?_ (qt_drew _) | refine Bl.qt ?_ (qt_of _ _)))⟩

theorem once_eq (A B v : Nat) (hA : A % Md.P ≠ 0) : Sk.val (A, B) (Md.mul (Md.sub v B) (Md.inv A)) = v % Md.P := by
  unfold Sk.val
  dsimp only
  rw [Md.mul_comm (Md.sub v B), ← Md.mul_assoc, Md.mul_inv A hA, Md.mul_comm, Md.mul_one]
  rw [← Md.add_of, Md.of_of, Md.add_of, Md.sub_add]
theorem once_zero (A B v : Nat) (hA : A % Md.P = 0) : Sk.val (A, B) v = B % Md.P := by
  unfold Sk.val
  dsimp only
  rw [Md.mul_eq, Nat.mul_mod, hA, Nat.zero_mul, Nat.zero_mod, Md.add_eq, Nat.zero_add]
set_option maxRecDepth 100000 in
theorem levelOnce_walk (h : Nat × Nat) (v : Int) (w : World) (hh : HSmall h) (hv : 0 ≤ v ∧ v ≤ 18446744073709551615) :
    Calls Try.prog 5 #[hashV h, .int .u64 v] w (IsTrue w) := by
  obtain ⟨v, rfl⟩ := Int.eq_ofNat_of_zero_le hv.1
  obtain ⟨-, hv⟩ := hv
  have lv : v < 18446744073709551616 := by omega
  have HH := hid hh
  obtain ⟨A, B⟩ := h
  obtain ⟨lA, lB⟩ := hh
  dsimp only at lA lB
  have HB := hid (bel_new w (.cells #[.int .u64 (A : Int), .int .u64 (B : Int)] 27))
  obtain ⟨K, hK⟩ : ∃ K, K = w.heap.size := ⟨_, rfl⟩
  have HC : Hid ((w.alloc (.cells #[.int .u64 (A : Int), .int .u64 (B : Int)] 27)).cell? ⟨K, 0, none⟩ = some (.int .u64 (A : Int)) ∧ (w.alloc (.cells #[.int .u64 (A : Int), .int .u64 (B : Int)] 27)).cell? ⟨K, 1, none⟩ = some (.int .u64 (B : Int))) :=
    hid (by rw [hK]; exact ⟨(Blk.new w _ [.int .u64 (A : Int), .int .u64 (B : Int)]).cell 0, (Blk.new w _ [.int .u64 (A : Int), .int .u64 (B : Int)]).cell 1⟩)
  obtain ⟨z, hz⟩ : ∃ z, z = B % Md.P := ⟨_, rfl⟩
  have EZ := zc' hz.symm
  by_cases hA : A % Md.P = 0
  · have E0 : Hid (((A % Md.P : Nat) : Int) = 0) := hid (by rw [hA]; rfl)
    have E1 : Hid (((Sk.val (A, B) v : Nat) : Int) = (z : Int)) := zc' (by rw [hz]; exact once_zero A B v hA)
    have VN : Hid (∀ w, Calls Try.prog 9 #[.agg #[.int .u64 (A : Int), .int .u64 (B : Int)], .int .u64 (v : Int)] w fun e w' => e = .returned (.int .u64 (z : Int)) ∧ Below w.heap.size w w') := hid (fun w => value_z (A, B) v HH.out rfl lv E1.out)
    clear hz hA
    unfold hashV
    go_enter Try.func5, Try.ntmps5
    go_wp2_with fail
    refine (modOf_z A rfl lA E0.out).mono ?_; rintro e w' ⟨rfl, rfl⟩
    go_wp2_with fail
    rw [← hK]
    generalize w.alloc (.cells #[.int .u64 (A : Int), .int .u64 (B : Int)] 27) = w0 at *
    obtain ⟨c0, c1⟩ := HC.out
    clear hK
    go_region_held3 (fun w' => w'.cell? ⟨K, 0, none⟩ = some (.int .u64 (A : Int)) ∧ w'.cell? ⟨K, 1, none⟩ = some (.int .u64 (B : Int)))
      (first | go_keep | (go_split_ands; refine ⟨?_, ?_⟩ <;> (refine cell_later (by assumption) ?_; first | assumption | (rw [Qt.cell (qt_drew _)]; assumption) | (rw [Qt.cell (qt_of _ _)]; assumption))) | (go_split_ands; refine ⟨?_, ?_⟩ <;> (rw [Qt.cell (by assumption)]; first | assumption | (rw [Qt.cell (qt_drew _)]; assumption) | (rw [Qt.cell (qt_of _ _)]; assumption))))
      (first | (go_at_call 9; (with_reducible refine (VN.out _).mono ?_); rintro e w1 ⟨rfl, b1⟩)
             | (go_at_call 11; (with_reducible refine (modOf_z B rfl lB EZ.out).mono ?_); rintro e w' ⟨rfl, rfl⟩)
             | (go_at_call 7; (with_reducible refine (levAwake_any _).mono ?_); rintro e w6 ⟨rfl, b6⟩))
    go_wp2
    go_ret
    exact ⟨rfl, (by repeat (first | exact HB.out | refine Bl.call ?_ (by assumption) | refine Bl.qt ?_ (by assumption) | refine Bl.qt ?_ (qt_drew _) | refine Bl.qt ?_ (qt_of _ _)))⟩
  · have e0 : (((A % Md.P : Nat) : Int) == 0) = false := by rw [beq_eq_false_iff_ne]; omega
    have E1 : Hid (((Sk.val (A, B) (Md.mul (Md.sub v B) (Md.inv A)) : Nat) : Int) = ((v % Md.P : Nat) : Int)) := zc' (once_eq A B v hA)
    obtain ⟨n, hn⟩ : ∃ n, n = Md.mul (Md.sub v B) (Md.inv A) := ⟨_, rfl⟩
    have EN := zc' hn.symm
    rw [← hn] at E1
    have ln : n < 18446744073709551616 := by rw [hn]; exact small_mul _ _
    have lnP : n < 2305843009213693951 := by rw [hn]; exact Md.mul_lt _ _
    have lnP' : (n : Int) < 2305843009213693951 := by omega
    obtain ⟨t, ht⟩ : ∃ t, t = v % Md.P := ⟨_, rfl⟩
    have ET := zc' ht.symm
    rw [← ht] at E1
    obtain ⟨s, hs⟩ : ∃ s, s = A % Md.P := ⟨_, rfl⟩
    have ES := zc' hs.symm
    rw [← hs] at e0
    have VN : Hid (∀ w, Calls Try.prog 9 #[.agg #[.int .u64 (A : Int), .int .u64 (B : Int)], .int .u64 (n : Int)] w fun e w' => e = .returned (.int .u64 (t : Int)) ∧ Below w.heap.size w w') := hid (fun w => value_z (A, B) n HH.out rfl ln E1.out)
    have lsb := small_sub v B
    have lia := small_inv A
    clear hz hA hn lnP ht hs
    unfold hashV
    go_enter Try.func5, Try.ntmps5
    go_wp2_with fail
    refine (modOf_z A rfl lA ES.out).mono ?_; rintro e w' ⟨rfl, rfl⟩
    go_wp2_with fail
    rw [← hK]
    generalize w.alloc (.cells #[.int .u64 (A : Int), .int .u64 (B : Int)] 27) = w0 at *
    obtain ⟨c0, c1⟩ := HC.out
    clear hK
    go_region_held3 (fun w' => w'.cell? ⟨K, 0, none⟩ = some (.int .u64 (A : Int)) ∧ w'.cell? ⟨K, 1, none⟩ = some (.int .u64 (B : Int)))
      (first | go_keep | (go_split_ands; refine ⟨?_, ?_⟩ <;> (refine cell_later (by assumption) ?_; first | assumption | (rw [Qt.cell (qt_drew _)]; assumption) | (rw [Qt.cell (qt_of _ _)]; assumption))) | (go_split_ands; refine ⟨?_, ?_⟩ <;> (rw [Qt.cell (by assumption)]; first | assumption | (rw [Qt.cell (qt_drew _)]; assumption) | (rw [Qt.cell (qt_of _ _)]; assumption))))
      (first | (go_at_call 8; (with_reducible refine (modSub_z v B rfl rfl lv lB rfl).mono ?_); rintro e w' ⟨rfl, rfl⟩)
             | (go_at_call 12; (with_reducible refine (modInv_z A rfl lA rfl).mono ?_); rintro e w3 ⟨rfl, q3⟩)
             | (go_at_call 10; (with_reducible refine (modMul_z (Md.sub v B) (Md.inv A) rfl rfl lsb lia EN.out).mono ?_); rintro e w4 ⟨rfl, q4⟩))
    obtain ⟨d0, d1⟩ : w4.cell? ⟨K, 0, none⟩ = some (.int .u64 (A : Int)) ∧ w4.cell? ⟨K, 1, none⟩ = some (.int .u64 (B : Int)) := by assumption
    have B4 : Hid (Below w.heap.size w w4) := hid (by repeat (first | exact HB.out | refine Bl.call ?_ (by assumption) | refine Bl.qt ?_ (by assumption) | refine Bl.qt ?_ (qt_drew _) | refine Bl.qt ?_ (qt_of _ _)))
    clear q3 q4 c0 c1
    go_wp2_with fail
    refine (VN.out _).mono ?_; rintro e w5 ⟨rfl, b5⟩
    go_wp2_with fail
    refine (modOf_z v rfl lv ET.out).mono ?_; rintro e w' ⟨rfl, rfl⟩
    go_wp2_with fail
    refine (levAwake_any _).mono ?_; rintro e w6 ⟨rfl, b6⟩
    go_wp2
    go_ret
    exact ⟨rfl, Bl.call (Bl.call B4.out b5) b6⟩
end Go.Proofs.Ytggcpajfkaichaa
