/- Contract of snap.Sum. -/
import Derived.Test.YtbafbnkmmpaomaaSnB
namespace Go.Proofs.Ytbafbnkmmpaomaa
open Go.RowKit
set_option linter.unusedVariables false
set_option linter.unusedSimpArgs false
attribute [local go_sem ↓] Go.wp_at_zero Go.wp_at_succ
theorem step_md (s : Nat) (b : UInt8) : Md.add (Md.mul s 257) (b.toNat + 1) = Sn.step s b := by
  rw [Md.add_eq, Md.mul_eq]
  unfold Sn.step
  show (s * 257 % Md.P + (b.toNat + 1)) % Md.P = (s * 257 + (b.toNat + 1)) % Md.P
  rw [Nat.add_mod, Nat.mod_mod, ← Nat.add_mod]
theorem sn_small {n : Nat} (h : n < Sn.P) : n < 18446744073709551616 := Nat.lt_of_lt_of_le h (by decide)
theorem sum_take (l : Sn.By) {j : Nat} (h : j < l.length) : Sn.sum (l.take (j + 1)) = Sn.step (Sn.sum (l.take j)) l[j] := by
  rw [List.take_succ_eq_append_getElem h, Sn.sum_snoc]
set_option maxRecDepth 100000 in
set_option maxHeartbeats 4000000 in
theorem bsum_any {l : Sn.By} {w : World} (hl : l.length ≤ 1000000) :
    Calls Try.prog 17 #[.string (str l)] w fun e w' => e = .returned (.int .u64 (Sn.sum l : Nat)) ∧ Qt w w' := by
  obtain ⟨s, hs⟩ : ∃ s, s = str l := ⟨_, rfl⟩
  have hsz : s.size = l.length := by rw [hs]; exact str_size l
  have HG : Hid (∀ i, (h1 : i < s.size) → (h2 : i < l.length) → s[i] = l[i]) := hid (by subst hs; exact fun i _ _ => rfl)
  rw [← hs]
  clear hs
  go_enter Try.func17, Try.ntmps17
  go_wp2_with fail
  go_loopw [3, 4] (fun nv iv wr => ∃ (j q : Nat), iv = .int .i64 (j : Int) ∧ j ≤ l.length ∧ nv = .int .u64 (q : Int) ∧ Hid (q = Sn.sum (l.take j)) ∧ Qt w wr) (fun _ iv _ => l.length - (intOf iv).toNat)
  case atStart => exact ⟨0, 1, rfl, Nat.zero_le _, rfl, hid rfl, Qt.refl _⟩
  case round =>
    obtain ⟨j, q, rfl, hj, rfl, HQ, hqt⟩ := hrel
    by_cases hlt : j < l.length
    · have j0 : (j : Int) < (l.length : Int) := by omega
      have j1 : (0 : Int) ≤ (j : Int) := by omega
      have hlt' : j < s.size := by omega
      have HGE := hid (HG.out j hlt' hlt)
      have hq := sn_small (n := q) (by rw [HQ.out]; exact Sn.sum_lt _)
      have hb8 := (l[j]).toNat_lt
      have HST := hid (step_md q l[j])
      have HN : Hid (Sn.step q l[j] = Sn.sum (l.take (j + 1))) := hid (by rw [sum_take l hlt, ← HQ.out])
      obtain ⟨b, hb⟩ : ∃ b, b = l[j] := ⟨_, rfl⟩
      rw [← hb] at HGE HST HN hb8
      have hb9 : b.toNat + 1 < 18446744073709551616 := by omega
      obtain ⟨y, hy⟩ : ∃ y, y = Md.mul q 257 := ⟨_, rfl⟩
      have hys : y < 18446744073709551616 := by rw [hy]; exact small_mul _ _
      rw [← hy] at HST
      have HM : Hid (∀ n : Nat, Calls Try.prog 22 #[.int .u64 (q : Int), .int .u64 257] (wr.drewN n) fun e w'' => e = .returned (.int .u64 (y : Int)) ∧ ∃ m, w'' = wr.drewN m) := hid (fun n => by
        have := quiet_qt (modMul_any q 257 hq (by omega) (wr.drewN n))
        rw [hy]; exact this)
      have hsb : (s[j]).toNat < 256 := (s[j]).toNat_lt
      have hsb2 : ((s[j]).toNat : Int) ≤ 255 := by omega
      have HD : Hid (∀ n : Nat, Calls Try.prog 25 #[.int .u64 (y : Int), .int .u64 (((s[j]).toNat : Int) + 1)] (wr.drewN n) fun e w'' => e = .returned (.int .u64 (Sn.step q b : Nat)) ∧ ∃ m, w'' = wr.drewN m) := hid (fun n => by
        have h9 := quiet_eq (modAdd_any y (b.toNat + 1) hys hb9 (wr.drewN n))
        rw [HST.out] at h9
        rw [HGE.out]
        exact h9)
      clear hb hy hj hb8 hb9 hys hq
      go_wp2_with fail
      go_quiet (first | (go_at_call 22; with_reducible exact HM.out _) | (go_at_call 25; with_reducible exact HD.out _))
      go_wp2_with fail
      go_roundw
      case rel => exact ⟨j + 1, Sn.step q b, by go_num, by omega, rfl, HN, hqt.drewN _⟩
      case measure => simp [intOf]; omega
    · obtain rfl : j = l.length := by omega
      have j0 : ¬ (l.length : Int) < (l.length : Int) := by omega
      go_wp2
      go_ret
      exact ⟨by rw [HQ.out, List.take_length]; rfl, hqt⟩
end Go.Proofs.Ytbafbnkmmpaomaa
