/- Contracts of the document's Get, Delete, Put, Less. -/
import Derived.Test.YtkkhghipbnpiaaaDicH
import Derived.Test.YtkkhghipbnpiaaaDictRef
namespace Go.Proofs.Ytkkhghipbnpiaaa
open Go.RowKit Sq
set_option linter.unusedVariables false
attribute [local go_sem ↓] Go.wp_at_zero Go.wp_at_succ

theorem own_snoc {w : World} {b : Nat} {v : Value} {T : TypeId} {R : List (Int × Int)} {x : Int × Int} (h : w.ownsRow b T 2 v (R.length + 1) (prs R ++ prs [x])) : w.ownsRow b T 2 v (R ++ [x]).length (prs (R ++ [x])) := by
  rw [prs_app] at h; rw [List.length_append]; exact h
theorem src_ref (w : World) (x : Int × Int) : Sl (w.alloc (.cells #[.int .u64 x.1, .int .i64 x.2] 55)) (w.alloc (.cells #[.int .u64 x.1, .int .i64 x.2] 55)).heap.size 2 (.slice (some ⟨w.heap.size, 0, none⟩) 1 1) 1 (prs [x]) :=
  (Blk.new w 55 (prs [x])).sl (B := (w.alloc (.cells #[.int .u64 x.1, .int .i64 x.2] 55)).heap.size) (sz := 2) (n := 1) (c := 1) (by simp) (Nat.le_refl _) (by decide) (by rw [len_prs]; rfl)
theorem take_snoc' (l : List (Int × Int)) (m : Nat) (h : m < l.length) : l.take (m + 1) = l.take m ++ [l[m]] := List.take_succ_eq_append_getElem h
set_option maxRecDepth 100000 in
set_option maxHeartbeats 4000000 in
theorem rget_any {v : Value} {n : Nat} {l : List (Int × Int)} {k : Int} {w : World} {B : Nat} (hs : Sl w B 2 v n (prs l)) (z : Int) (b : Bool) (hz : (Dc.get l k).getD 0 = z) (hb : (Dc.get l k).isSome = b) :
    Calls Try.prog 9 #[v, .int .u64 k] w fun e w' => e = .returned (.tuple #[.int .i64 z, .bool b]) ∧ w = w' := by
  have hl : l.length = n := by have := hs.len; rw [len_prs] at this; omega
  obtain ⟨A, c, rfl, hnc, hcm, hll, hx⟩ := hs
  have hm : n ≤ 9223372036854775807 := by unfold maxLen at hcm; omega
  have HX := hid hx
  have HL := hid hl
  have HZ := hid hz
  have HBo := hid hb
  clear hx hll hl hz hb hcm
  go_enter Try.func9, Try.ntmps9
  go_wp2_with fail
  go_loop [6] (fun i => ∃ m : Nat, m ≤ n ∧ i = .int .i64 (m : Int) ∧ Hid (∀ j, (hj : j < m) → (hj2 : j < l.length) → l[j].1 ≠ k)) (fun i => n - (intOf i).toNat)
  case atStart => exact ⟨0, Nat.zero_le _, rfl, hid (fun j hj => absurd hj (Nat.not_lt_zero _))⟩
  case round =>
    obtain ⟨m, hm2, rfl, hall⟩ := hrel
    by_cases hlt : m < n
    · have i0 : (m : Int) < (n : Int) := by omega
      have i1 : (0 : Int) ≤ (m : Int) := by omega
      have hml : m < l.length := by rw [HL.out]; exact hlt
      obtain ⟨b6, o6, rfl, hb6, hc6⟩ := HX.out (by omega)
      have hq := prs_cell hc6 hml
      have HH := hid (fun (h : (l[m]).1 = k) => Dc.get_here hml (fun j hj => hall.out j hj (by omega)) h)
      have HN := hid (fun (h : (l[m]).1 ≠ k) => (show ∀ j, (hj : j < m + 1) → (hj2 : j < l.length) → l[j].1 ≠ k from fun j hj hj2 => by
        rcases Nat.lt_or_ge j m with h1 | h1
        · exact hall.out j h1 hj2
        · have : j = m := by omega
          subst this; exact h))
      obtain ⟨x, hx⟩ : ∃ x, x = l[m] := ⟨_, rfl⟩
      rw [← hx] at hq HH HN
      obtain ⟨q0, q1⟩ := hq
      clear hx hml hc6 hall
      by_cases he : x.1 = k
      · have r0 : (x.1 == k) = true := by simp [he]
        have HG := hid (HH.out he)
        clear he
        go_wp2
        go_ret2
        exact ⟨by rw [← HZ.out, ← HBo.out, HG.out]; rfl, rfl⟩
      · have r0 : (x.1 == k) = false := by simp [he]
        have HG := hid (HN.out he)
        clear he
        go_wp2_with fail
        go_round
        case rel => exact ⟨m + 1, by omega, by go_num, HG⟩
        case measure => simp [intOf]; omega
    · have i0 : ¬ (m : Int) < (n : Int) := by omega
      have HG : Hid (Dc.get l k = none) := hid (Dc.get_nowhere (fun j hj => hall.out j (by rw [HL.out] at hj; omega) hj))
      go_wp2
      go_ret2
      exact ⟨by rw [← HZ.out, ← HBo.out, HG.out]; rfl, rfl⟩
set_option maxRecDepth 100000 in
set_option maxHeartbeats 4000000 in
theorem rless_any {v : Value} {n : Nat} {l : List (Int × Int)} {k : Int} {w : World} {B : Nat} (hs : Sl w B 2 v n (prs l)) :
    Calls Try.prog 20 #[v, .int .u64 k] w fun e w' => e = .returned (.int .i64 (Dc.less l k : Nat)) ∧ w = w' := by
  have hl : l.length = n := by have := hs.len; rw [len_prs] at this; omega
  obtain ⟨A, c, rfl, hnc, hcm, hll, hx⟩ := hs
  have hm : n ≤ 9223372036854775807 := by unfold maxLen at hcm; omega
  have HX := hid hx
  have HL := hid hl
  clear hx hll hl hcm
  go_enter Try.func20, Try.ntmps20
  go_wp2_with fail
  go_loop [5, 6] (fun o i => ∃ (m r : Nat), m ≤ n ∧ r ≤ m ∧ i = .int .i64 (m : Int) ∧ o = .int .i64 (r : Int) ∧ Hid (Dc.less (l.take m) k = r)) (fun _ i => n - (intOf i).toNat)
  case atStart => exact ⟨0, 0, Nat.zero_le _, Nat.le_refl _, rfl, rfl, hid rfl⟩
  case round =>
    obtain ⟨m, r, hm2, hrm, rfl, rfl, hr⟩ := hrel
    by_cases hlt : m < n
    · have i0 : (m : Int) < (n : Int) := by omega
      have i1 : (0 : Int) ≤ (m : Int) := by omega
      have hml : m < l.length := by rw [HL.out]; exact hlt
      obtain ⟨b6, o6, rfl, hb6, hc6⟩ := HX.out (by omega)
      have hq := (prs_cell hc6 hml).1
      have HT := hid (take_snoc' l m hml)
      obtain ⟨x, hx⟩ : ∃ x, x = l[m] := ⟨_, rfl⟩
      rw [← hx] at hq HT
      have HS := hid (Dc.less_snoc (l.take m) x k)
      clear hx hml hc6
      by_cases he : x.1 < k
      · have HG : Hid (Dc.less (l.take (m + 1)) k = r + 1) := hid (by rw [HT.out, HS.out.1 he, hr.out])
        go_wp2_with fail
        go_round
        case rel => exact ⟨m + 1, r + 1, by omega, by omega, by go_num, by go_num, HG⟩
        case measure => simp [intOf]; omega
      · have HG : Hid (Dc.less (l.take (m + 1)) k = r) := hid (by rw [HT.out, HS.out.2 he, hr.out])
        go_wp2_with fail
        go_round
        case rel => exact ⟨m + 1, r, by omega, by omega, by go_num, rfl, HG⟩
        case measure => simp [intOf]; omega
    · have i0 : ¬ (m : Int) < (n : Int) := by omega
      obtain rfl : m = n := by omega
      have HG : Hid (Dc.less l k = r) := hid (by have := hr.out; rwa [List.take_of_length_le (by rw [HL.out]; exact Nat.le_refl _)] at this)
      go_wp2
      go_ret
      exact ⟨by rw [HG.out]; rfl, rfl⟩
end Go.Proofs.Ytkkhghipbnpiaaa
