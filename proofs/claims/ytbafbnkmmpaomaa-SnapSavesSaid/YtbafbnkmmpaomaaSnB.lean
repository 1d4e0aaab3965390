/- Contract of snap.get. -/
import Derived.Test.YtbafbnkmmpaomaaSnA
namespace Go.Proofs.Ytbafbnkmmpaomaa
open Go.RowKit
set_option linter.unusedVariables false
set_option linter.unusedSimpArgs false
attribute [local go_sem ↓] Go.wp_at_zero Go.wp_at_succ

/-- A text of bytes. -/
def str (l : Sn.By) : ByteArray := ⟨l.toArray⟩
theorem str_size (l : Sn.By) : (str l).size = l.length := by simp [str, ByteArray.size]
theorem str_get (l : Sn.By) (i : Nat) (h : i < (str l).size) (h2 : i < l.length) : (str l)[i] = l[i] := rfl
/-- The bytes of a text from a place on. -/
def part (l : Sn.By) (at_ k : Nat) : Sn.By := (l.drop at_).take k
theorem part_step (l : Sn.By) {at_ k j : Nat} (hj : j < k) (h : at_ + k ≤ l.length) (h2 : at_ + j < l.length) : Sn.dec (part l (at_ + j) (k - j)) = l[at_ + j].toNat + 256 * Sn.dec (part l (at_ + (j + 1)) (k - (j + 1))) := by
  unfold part
  rw [List.drop_eq_getElem_cons h2, show k - j = (k - (j + 1)) + 1 by omega, List.take_succ_cons]
  rfl
theorem part_lt (l : Sn.By) (at_ k : Nat) : Sn.dec (part l at_ k) < 256 ^ k := by
  have h := Sn.dec_lt (part l at_ k)
  have h2 : (part l at_ k).length ≤ k := by simp [part]; omega
  exact Nat.lt_of_lt_of_le h (Nat.pow_le_pow_right (by omega) h2)
theorem or_byte (q b : Nat) (hq : q < 72057594037927936) (hb : b < 256) : bits .or .u64 ((q : Int) * 256) (IntKind.u64.wrap (b : Int)) = ((q * 256 + b : Nat) : Int) := by
  have e1 : (q : Int) * 256 = ((q * 256 : Nat) : Int) := by omega
  have e2 : IntKind.u64.wrap (b : Int) = (b : Int) := by rw [IntKind.wrap_u64]; omega
  rw [e1, e2]
  have h := bits_or_u64_nat (q * 256) b (by omega) (by omega)
  have e : q * 256 ||| b = q * 256 + b := by
    have := Nat.shiftLeft_add_eq_or_of_lt (a := q) (b := b) (i := 8) (by omega)
    rw [Nat.shiftLeft_eq] at this
    exact this.symm
  rw [e] at h
  exact h
set_option maxRecDepth 100000 in
theorem bget_any {l : Sn.By} {at_ k : Nat} {w : World} (hk : k ≤ 8) (h : at_ + k ≤ l.length) (hl : l.length ≤ 1000000) :
    Calls Try.prog 49 #[.string (str l), .int .i64 (at_ : Int), .int .i64 (k : Int)] w fun e w' => e = .returned (.int .u64 (Sn.dec (part l at_ k) : Nat)) ∧ w = w' := by
  have HS := hid (str_size l)
  obtain ⟨s, hs⟩ : ∃ s, s = str l := ⟨_, rfl⟩
  have hsz : s.size = l.length := by rw [hs]; exact str_size l
  have HG : Hid (∀ i, (h1 : i < s.size) → (h2 : i < l.length) → s[i] = l[i]) := hid (by subst hs; exact fun i _ _ => rfl)
  rw [← hs]
  clear hs
  go_enter Try.func49, Try.ntmps49
  go_wp2_with fail
  go_loop [7, 8] (fun nv iv => ∃ (j q : Nat), iv = .int .i64 ((j : Int) - 1) ∧ j ≤ k ∧ nv = .int .u64 (q : Int) ∧ Hid (q = Sn.dec (part l (at_ + j) (k - j)))) (fun _ iv => ((intOf iv) + 1).toNat)
  case atStart => exact ⟨k, 0, by first | rfl | go_num, Nat.le_refl _, rfl, hid (by simp [part, Sn.dec])⟩
  case round =>
    obtain ⟨j, q, rfl, hj, rfl, HQ⟩ := hrel
    cases j with
    | succ j =>
      have j0 : (0 : Int) ≤ (j : Int) := by omega
      have hlt : at_ + j < l.length := by omega
      have hlt' : at_ + j < s.size := by omega
      have HST := hid (part_step l (show j < k by omega) h hlt)
      have HGE := hid (HG.out (at_ + j) hlt' hlt)
      have hq8 : q < 72057594037927936 := by
        have h1 := part_lt l (at_ + (j + 1)) (k - (j + 1))
        rw [← HQ.out] at h1
        exact Nat.lt_of_lt_of_le h1 (Nat.le_trans (Nat.pow_le_pow_right (j := 7) (by omega) (show k - (j + 1) ≤ 7 by omega)) (by decide))
      have hb8 := (l[at_ + j]).toNat_lt
      have HOR := hid (or_byte q (l[at_ + j]).toNat hq8 (by omega))
      go_wp2_with fail
      go_round
      case rel =>
        refine ⟨j, q * 256 + (l[at_ + j]).toNat, rfl, by omega, ?_, hid ?_⟩
        · rw [HGE.out, HOR.out]
        · have e1 := HST.out
          have e2 := HQ.out
          omega
      case measure => simp [intOf] <;> omega
    | zero =>
      go_wp2
      go_ret
      exact ⟨by rw [HQ.out]; rfl, rfl⟩
end Go.Proofs.Ytbafbnkmmpaomaa
