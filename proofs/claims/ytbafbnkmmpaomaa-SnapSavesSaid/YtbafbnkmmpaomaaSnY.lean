/- Contracts of the document's bytes, Sum. -/
import Derived.Test.YtbafbnkmmpaomaaSnCv
import Derived.Test.YtbafbnkmmpaomaaModG
namespace Go.Proofs.Ytbafbnkmmpaomaa
open Go.RowKit
set_option linter.unusedVariables false
set_option linter.unusedSimpArgs false
attribute [local go_sem ↓] Go.wp_at_zero Go.wp_at_succ
attribute [local go_sem] conv_one isByteV_some byteV_some
theorem enc_str (n j q : Nat) (hq : q = n / 256 ^ j) : str (Sn.enc n j) ++ strOfNums [(q : Int) % 256] = str (Sn.enc n (j + 1)) := by
  rw [nums_one, str_app, Sn.enc_snoc, ← hq]
  congr 3
set_option maxRecDepth 100000 in
theorem rbytes_any {n k : Nat} {w : World} (hn : n < 18446744073709551616) (hk : k ≤ 8) :
    Calls Try.prog 35 #[.int .u64 (n : Int), .int .i64 (k : Int)] w fun e w' => e = .returned (.string (str (Sn.enc n k))) ∧ Below w.heap.size w w' := by
  go_enter Try.func35, Try.ntmps35
  go_wp2_with fail
  go_loopw [0, 5, 6] (fun nv sv iv wr => ∃ (j q : Nat) (t : ByteArray), iv = .int .i64 (j : Int) ∧ j ≤ k ∧ nv = .int .u64 (q : Int) ∧ Hid (q = n / 256 ^ j) ∧ q < 18446744073709551616 ∧ sv = .string t ∧ Hid (t = str (Sn.enc n j)) ∧ Hid (Below w.heap.size w wr)) (fun _ _ iv _ => k - (intOf iv).toNat)
  case atStart => exact ⟨0, n, _, rfl, Nat.zero_le _, rfl, hid (by simp), hn, rfl, hid rfl, hid (Below.refl _ _)⟩
  case round =>
    obtain ⟨j, q, t, rfl, hj, rfl, HQ, hq, rfl, HT, HB⟩ := hrel
    by_cases hlt : j < k
    · have j0 : (j : Int) < (k : Int) := by omega
      have hss : ¬ 9223372036854775807 < t.size + (strOfNums [(q : Int) % 256]).size := by
        have e1 : t.size = j := by rw [HT.out, str_size, Sn.enc_len]
        have e2 : (strOfNums [(q : Int) % 256]).size = 1 := rfl
        omega
      have HN := hid (half_q HQ.out hq)
      have HE := hid (enc_str n j q HQ.out)
      have HB2 := hid (Bl.new HB.out (.cells #[.int .u8 ((q : Int) % 256)] 5))
      go_wp2_with fail
      go_roundw
      case rel => exact ⟨j + 1, q / 256, _, by go_num, by omega, by go_num, HN.out.1, HN.out.2, rfl, hid (by rw [HT.out]; exact HE.out), HB2⟩
      case measure => simp [intOf]; omega
    · obtain rfl : j = k := by omega
      have j0 : ¬ (j : Int) < (j : Int) := by omega
      go_wp2
      go_ret
      exact ⟨by rw [HT.out]; rfl, HB.out⟩
theorem refAdd_n (a b : Nat) (w : World) (ha : a < 18446744073709551616) (hb : b < 18446744073709551616) (c : Nat) (hc : Md.add a b = c) : Calls Try.prog 33 #[.int .u64 (a : Int), .int .u64 (b : Int)] w fun e w' => e = .returned (.int .u64 (c : Int)) ∧ w = w' := refAdd_z a b rfl rfl ha hb (by rw [hc])
theorem refMul_n (a b : Nat) (w : World) (ha : a < 18446744073709551616) (hb : b < 18446744073709551616) (c : Nat) (hc : Md.mul a b = c) : Calls Try.prog 34 #[.int .u64 (a : Int), .int .u64 (b : Int)] w fun e w' => e = .returned (.int .u64 (c : Int)) ∧ w = w' := refMul_z a b rfl rfl ha hb (by rw [hc])
set_option maxRecDepth 100000 in
set_option maxHeartbeats 4000000 in
theorem rsum_any {l : Sn.By} {w : World} (hl : l.length ≤ 1000000) :
    Calls Try.prog 18 #[.string (str l)] w fun e w' => e = .returned (.int .u64 (Sn.sum l : Nat)) ∧ Qt w w' := by
  obtain ⟨s, hs⟩ : ∃ s, s = str l := ⟨_, rfl⟩
  have hsz : s.size = l.length := by rw [hs]; exact str_size l
  have HG : Hid (∀ i, (h1 : i < s.size) → (h2 : i < l.length) → s[i] = l[i]) := hid (by subst hs; exact fun i _ _ => rfl)
  rw [← hs]
  clear hs
  go_enter Try.func18, Try.ntmps18
  go_wp2_with fail
  go_loopw [3, 4] (fun nv iv wr => ∃ (j q : Nat), iv = .int .i64 (j : Int) ∧ j ≤ l.length ∧ nv = .int .u64 (q : Int) ∧ Hid (q = Sn.sum (l.take j)) ∧ Qt w wr) (fun _ iv _ => l.length - (intOf iv).toNat)
  case atStart => exact ⟨0, 1, rfl, Nat.zero_le _, rfl, hid rfl, Qt.refl _⟩
  case round =>
    obtain ⟨j, q, rfl, hj, rfl, HQ, hqt⟩ := hrel
    by_cases hlt : j < l.length
    · have j0 : (j : Int) < (l.length : Int) := by omega
      have j1 : (0 : Int) ≤ (j : Int) := by omega
      have hlt' : j < s.size := by omega
      have HGE := hid (HG.out j hlt' hlt)
      have hq := sn_small (n := q) (by rw [HQ.out]; exact Sn.sum_lt _)
      have hb8 := (l[j]).toNat_lt
      have HST := hid (step_md q l[j])
      have HN : Hid (Sn.step q l[j] = Sn.sum (l.take (j + 1))) := hid (by rw [sum_take l hlt, ← HQ.out])
      obtain ⟨b, hb⟩ : ∃ b, b = l[j] := ⟨_, rfl⟩
      rw [← hb] at HGE HST HN hb8
      have hb9 : b.toNat + 1 < 18446744073709551616 := by omega
      obtain ⟨y, hy⟩ : ∃ y, y = Md.mul q 257 := ⟨_, rfl⟩
      have hys : y < 18446744073709551616 := by rw [hy]; exact small_mul _ _
      rw [← hy] at HST
      have HM : Hid (∀ n : Nat, Calls Try.prog 34 #[.int .u64 (q : Int), .int .u64 257] (wr.drewN n) fun e w'' => e = .returned (.int .u64 (y : Int)) ∧ ∃ m, w'' = wr.drewN m) := hid (fun n => quiet_eq (refMul_n q 257 (wr.drewN n) hq (by omega) y hy.symm))
      have hsb : (s[j]).toNat < 256 := (s[j]).toNat_lt
      have hsb2 : ((s[j]).toNat : Int) ≤ 255 := by omega
      have HD : Hid (∀ n : Nat, Calls Try.prog 33 #[.int .u64 (y : Int), .int .u64 (((s[j]).toNat : Int) + 1)] (wr.drewN n) fun e w'' => e = .returned (.int .u64 (Sn.step q b : Nat)) ∧ ∃ m, w'' = wr.drewN m) := hid (fun n => by
        have h9 := quiet_eq (refAdd_n y (b.toNat + 1) (wr.drewN n) hys hb9 _ HST.out)
        rw [HGE.out]
        exact h9)
      clear hb hy hj hb8 hb9 hys hq
      go_wp2_with fail
      go_quiet (first | (go_at_call 34; with_reducible exact HM.out _) | (go_at_call 33; with_reducible exact HD.out _))
      go_wp2_with fail
      go_roundw
      case rel => exact ⟨j + 1, Sn.step q b, by go_num, by omega, rfl, HN, hqt.drewN _⟩
      case measure => simp [intOf]; omega
    · obtain rfl : j = l.length := by omega
      have j0 : ¬ (l.length : Int) < (l.length : Int) := by omega
      go_wp2
      go_ret
      exact ⟨by rw [HQ.out, List.take_length]; rfl, hqt⟩
end Go.Proofs.Ytbafbnkmmpaomaa
