/- Contract of the document's Least. -/
import Derived.Test.YtkkhghipbnpiaaaDicU
namespace Go.Proofs.Ytkkhghipbnpiaaa
open Go.RowKit Sq
set_option linter.unusedVariables false

theorem mn_pow2 (h : Nat) : mn h ≤ 2 ^ (h + 1) ∧ mn (h + 1) ≤ 2 ^ (h + 2) := by
  induction h with
  | zero => decide
  | succ h ih =>
    have e : mn (h + 1 + 1) = mn (h + 1) + mn h := rfl
    have e1 : 2 ^ (h + 2) = 2 * 2 ^ (h + 1) := by rw [Nat.pow_succ]; omega
    have e2 : 2 ^ (h + 1 + 2) = 2 * 2 ^ (h + 2) := by rw [show h + 1 + 2 = h + 2 + 1 by omega, Nat.pow_succ]; omega
    refine ⟨ih.2, ?_⟩
    omega
theorem mn_small {h : Nat} (hh : h ≤ 61) : mn h ≤ 4611686018427387904 := Nat.le_trans (mn_pow2 h).1 (Nat.pow_le_pow_right (n := 2) (by omega) (show h + 1 ≤ 62 by omega))
theorem mn_pos (h : Nat) : 0 < mn h := (mn_mono h).2.2.2
set_option maxRecDepth 100000 in
theorem least_any (h : Nat) (hh : h ≤ 60) (w : World) :
    Calls Try.prog 22 #[.int .i64 (h : Int)] w fun e w' => e = .returned (.int .i64 ((mn h : Nat) - 1 : Int)) ∧ w = w' := by
  obtain ⟨r, hr⟩ : ∃ r : Int, r = (mn h : Int) - 1 := ⟨_, rfl⟩
  rw [← hr]
  have HR := hid hr
  clear hr
  go_enter Try.func22, Try.ntmps22
  go_wp2_with fail
  go_loop [3, 4, 5] (fun a b i => ∃ (k : Nat) (x y : Int), k ≤ h ∧ i = .int .i64 (k : Int) ∧ a = .int .i64 x ∧ b = .int .i64 y ∧ Hid (x = (mn k : Int) - 1 ∧ y = (mn (k + 1) : Int) - 1)) (fun _ _ i => h - (intOf i).toNat)
  case atStart => exact ⟨0, 0, 1, Nat.zero_le _, rfl, rfl, rfl, hid ⟨rfl, rfl⟩⟩
  case round =>
    obtain ⟨k, x, y, hk, rfl, rfl, rfl, hxy⟩ := hrel
    by_cases hlt : k < h
    · have i0 : (k : Int) < (h : Int) := by omega
      have b1 := mn_small (h := k) (by omega)
      have b2 := mn_small (h := k + 1) (by omega)
      have p1 := mn_pos k
      have p2 := mn_pos (k + 1)
      have e : mn (k + 2) = mn (k + 1) + mn k := rfl
      obtain ⟨hx, hy⟩ := hxy.out
      have x0 : 0 ≤ x := by omega
      have y0 : 0 ≤ y := by omega
      have x1 : x ≤ 4611686018427387903 := by omega
      have y1 : y ≤ 4611686018427387903 := by omega
      have s1 : 1 + x + y ≤ 9223372036854775807 := by omega
      have HN : Hid (y = (mn (k + 1) : Int) - 1 ∧ 1 + x + y = (mn (k + 1 + 1) : Int) - 1) := hid ⟨hy, by rw [show mn (k + 1 + 1) = mn (k + 1) + mn k from rfl]; omega⟩
      clear hx hy e b1 b2 p1 p2
      go_wp2_with fail
      go_round
      case rel => exact ⟨k + 1, y, 1 + x + y, by omega, by go_num, rfl, by go_num, HN⟩
      case measure => simp [intOf]; omega
    · have i0 : ¬ (k : Int) < (h : Int) := by omega
      obtain rfl : k = h := by omega
      have HF : Hid (x = r) := hid (by rw [hxy.out.1, HR.out])
      go_wp2
      go_ret
      exact ⟨by rw [HF.out]; rfl, rfl⟩
end Go.Proofs.Ytkkhghipbnpiaaa
