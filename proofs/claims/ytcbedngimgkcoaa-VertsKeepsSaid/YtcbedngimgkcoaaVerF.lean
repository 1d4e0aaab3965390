/- Contracts of slices.IndexFunc and slices.Clone of slots. -/
import Derived.Test.YtcbedngimgkcoaaVerE
namespace Go.Proofs.Ytcbedngimgkcoaa
open Go.RowKit
set_option linter.unusedVariables false
set_option linter.unusedSimpArgs false

theorem kd_cases (l : List (Bool × Int)) : (∃ d, kd l = some d ∧ Vt.Of l d ∧ Vt.Ok l) ∨ (kd l = none ∧ ¬ Vt.Ok l) := by
  unfold kd
  by_cases h : 1 ≤ l.length ∧ l.length ≤ 1024
  · rw [if_pos h]
    rcases Vt.keyed_cases l with ⟨d, h1, h2, h3⟩ | ⟨h1, h2⟩
    · exact .inl ⟨d, h1, h2, h.1, h.2, h3⟩
    · exact .inr ⟨h1, fun h' => h2 h'.2.2⟩
  · rw [if_neg h]
    exact .inr ⟨rfl, fun h' => h ⟨h'.1, h'.2.1⟩⟩
theorem kd_ok {l : List (Bool × Int)} (h : Vt.Ok l) : ∃ d, kd l = some d ∧ Vt.Of l d := by
  rcases kd_cases l with ⟨d, h1, h2, _⟩ | ⟨_, h2⟩
  · exact ⟨d, h1, h2⟩
  · exact absurd h h2
theorem kd_bad {l : List (Bool × Int)} (h : ¬ Vt.Ok l) : kd l = none := by
  rcases kd_cases l with ⟨d, _, _, h2⟩ | ⟨h1, _⟩
  · exact absurd h2 h
  · exact h1
theorem fd_ok {l : List (Bool × Int)} (h : Vt.Ok l) (k : Int) : fdP l k = (Vt.fn l k).map fun i : Nat => (i : Int) := by
  obtain ⟨d, h1, h2⟩ := kd_ok h
  unfold fdP; rw [h1]; exact Vt.get_fn h2 h.2.2 k
theorem vunused {u : Bool} {k : Int} (w : World) : Calls Try.prog 27 #[.agg #[.bool u, .int .u64 k]] w fun e w' => e = .returned (.bool (!u)) ∧ Below w.heap.size w w' := by
  have HB := hid (bel_new w (.cells #[.bool u, .int .u64 k] 55))
  have c0 := (Blk.new w 55 [.bool u, .int .u64 k]).cell 0
  go_enter Try.func27, Try.ntmps27
  go_wp2
  go_ret
  exact ⟨rfl, HB.out⟩
def ffZ (l : List (Bool × Int)) : Int := match Vt.ff l with | none => -1 | some i => (i : Int)
set_option maxRecDepth 100000 in
theorem vindex_is {v : Value} {n : Nat} {l : List (Bool × Int)} {w : World} (hl : Sl w w.heap.size 2 v n (sls l)) (z : Int) (hz : ffZ l = z) :
    Calls Try.prog 26 #[v, .func (Fn.func 27) #[] #[]] w fun e w' => e = .returned (.int .i64 z) ∧ Below w.heap.size w w' := by
  have hll : l.length = n := by have := hl.len; rw [len_sls] at this; omega
  have HLN := hid hll
  have HZ := hid hz
  obtain ⟨A, c, rfl, hnc, hcm, _, hx⟩ := hl
  have HX := hid hx
  have hmi : (n : Int) ≤ 9223372036854775807 := by unfold maxLen at hcm; omega
  clear hx hll hcm hnc hz
  go_enter Try.func26, Try.ntmps26
  go_wp2_with fail
  go_loopw [8] (fun iv wr => ∃ (j : Nat), iv = .int .i64 (j : Int) ∧ j ≤ n ∧ Hid (∀ i, (h : i < l.length) → i < j → l[i].1 = true) ∧ Hid (Below w.heap.size w wr)) (fun iv _ => n - (intOf iv).toNat)
  case atStart => exact ⟨0, rfl, Nat.zero_le _, hid (fun i _ h => absurd h (Nat.not_lt_zero _)), hid (Below.refl _ _)⟩
  case round =>
    obtain ⟨j, rfl, hj, HA, HB⟩ := hrel
    by_cases hlt : j < n
    · have hji : (j : Int) < (n : Int) := by omega
      have hkl : j < l.length := by rw [HLN.out]; exact hlt
      obtain ⟨b, o, rfl, hbb, hc⟩ := HX.out (by omega)
      obtain ⟨q0, q1⟩ := sls_cell hc hkl
      have c0 := (HB.out.cell (p := ⟨b, o + j * 2, none⟩) hbb).trans q0
      have c1 := (HB.out.cell (p := ⟨b, o + j * 2 + 1, none⟩) hbb).trans q1
      cases hu : l[j].1 with
      | true =>
        rw [hu] at c0
        have HA2 : Hid (∀ i, (h : i < l.length) → i < j + 1 → l[i].1 = true) := hid (fun i h h' => by
          rcases Nat.lt_or_ge i j with h1 | h1
          · exact HA.out i h h1
          · have : i = j := by omega
            subst this; exact hu)
        generalize l[j].2 = k at *
        clear hu hc q0 q1
        go_wp2_with fail
        refine (vunused _).mono ?_; rintro e w5 ⟨rfl, b5⟩
        have HB5 := hid (Bl.call HB.out b5)
        clear b5 c0 c1
        go_wp2_with fail
        go_roundw
        case rel => exact ⟨j + 1, by go_num, by omega, HA2, HB5⟩
        case measure => simp [intOf]; omega
      | false =>
        rw [hu] at c0
        have hz2 : Hid ((j : Int) = z) := hid (by
          rw [← HZ.out]; unfold ffZ
          rw [Vt.ff_here hkl (fun i hi => HA.out i (by omega) hi) hu])
        generalize l[j].2 = k at *
        clear hu hc q0 q1
        go_wp2_with fail
        refine (vunused _).mono ?_; rintro e w5 ⟨rfl, b5⟩
        have HB5 := hid (Bl.call HB.out b5)
        clear b5 c0 c1
        go_wp2
        go_ret
        exact ⟨by rw [hz2.out]; rfl, HB5.out⟩
    · obtain rfl : j = n := by omega
      have hji : ¬ (j : Int) < (j : Int) := by omega
      have hz2 : Hid ((-1 : Int) = z) := hid (by
        rw [← HZ.out]; unfold ffZ
        rw [Vt.ff_none (fun i hi => HA.out i hi (by have := HLN.out; omega))])
      go_wp2
      go_ret
      exact ⟨by rw [hz2.out]; rfl, HB.out⟩
theorem vclone_any (v : Value) (n B : Nat) (p : List (Bool × Int)) (w : World) (hs : Sl w B 2 v n (sls p)) (hB : B ≤ w.heap.size) (hr : n ≤ 1000000) :
    Calls Try.prog 28 #[v] w fun e w' => ∃ v', e = .returned v' ∧ w'.ownsRow w.heap.size 55 2 v' n (sls p) ∧ Below w.heap.size w w' := by
  have hs0 := hid hs
  obtain ⟨A, c, rfl, hnc, hcm, hl, hx⟩ := hs
  have heq := fun w => Lib.run_eql_slice_nil (P := Try.prog) w 22 55 A n c 0 0 Try.underlying22
  cases A with
  | none =>
    have hn : n = 0 := by
      rcases Nat.eq_zero_or_pos n with h | h
      · exact h
      · obtain ⟨_, _, h', _⟩ := hx h; cases h'
    subst hn
    have hp : p = [] := List.eq_nil_of_length_eq_zero (by rw [len_sls] at hl; omega)
    subst hp
    go_enter Try.func28, Try.ntmps28
    go_wp2
    go_ret
    exact ⟨_, rfl, World.ownsRow_nil _ _ _ _, Below.refl _ _⟩
  | some ad =>
    clear hx
    go_enter Try.func28, Try.ntmps28
    go_wp2_with (at_builtin; refine wl_app rfl _ _ Tsls rfl rfl (own_empty w _ _ _ (Nat.le_refl _)) rfl (hs0.out.alloc hB _) (sls_one _) (by omega) (by simp) ?_)
    intro v' w' hown hbel
    go_wp2
    go_ret
    exact ⟨_, rfl, hown, ((Below.refl _ _).alloc (Nat.le_refl _) _).trans hbel⟩

end Go.Proofs.Ytcbedngimgkcoaa
