/- Contracts of part.Right, part.single, slices.Clone. -/
import Derived.Test.YtholhmdmpomabaaPartA
namespace Go.Proofs.Ytholhmdmpomabaa
open Go.RowKit Pt
set_option linter.unusedVariables false

theorem all_range_false {n k : Nat} (hk : k < n) {f : Nat → Bool} (h : f k = false) : (List.range n).all f = false := by
  rw [List.all_eq_false]; exact ⟨k, by simpa using hk, by simp [h]⟩
theorem all_range_true {n : Nat} {f : Nat → Bool} (h : ∀ i, i < n → f i = true) : (List.range n).all f = true := by
  rw [List.all_eq_true]; exact fun k hk => h k (by simpa using hk)

set_option maxHeartbeats 400000 in
theorem right_any (v : Value) (n B : Nat) (p : List Int) (w : World) (hs : Sl w B 1 v n (ints p)) :
    Calls Try.prog 23 #[v] w fun e w' => e = .returned (.bool (rightB p)) ∧ w = w' := by
  obtain ⟨A, c, rfl, hnc, hcm, hl, hx⟩ := hs
  have hn : p.length = n := by rw [len_ints] at hl; omega
  subst hn
  have hm : p.length ≤ 9223372036854775807 := by unfold maxLen at hcm; omega
  clear hl hcm
  have HX := hid hx
  clear hx
  go_enter Try.func23, Try.ntmps23
  go_wp2
  go_loop [7] (fun i => ∃ k : Nat, k ≤ p.length ∧ i = .int .i64 k ∧ Hid (∀ j, j < k → okAt p j = true)) (fun i => p.length - (intOf i).toNat)
  case atStart => exact ⟨0, Nat.zero_le _, rfl, fun j hj => by omega⟩
  case round =>
    obtain ⟨k, hk, rfl, hall⟩ := hrel
    by_cases hlt : k < p.length
    · obtain ⟨b, o, rfl, hb, hc⟩ := HX.out (by omega)
      have c1 := ints_cell hc hlt
      obtain ⟨x, hxx⟩ : ∃ x, x = p.getD k 0 := ⟨_, rfl⟩
      rw [← hxx] at c1
      have hgx : g p (k : Int) = x := by rw [hxx]; simp [g]
      have HG := hid hgx
      clear hgx hxx hc
      cases hp : placeB (p.length : Int) x
      · have HP := hid hp
        clear hp
        go_wp2_with (go_at_call 21; refine (place_is false HP.out _).mono ?_; rintro e w' ⟨rfl, rfl⟩)
        go_ret
        refine ⟨ret_bool ?_, rfl⟩
        exact (all_range_false hlt (by unfold okAt; rw [HG.out, HP.out]; rfl)).symm
      · have HP := hid hp
        have hp' := (placeB_iff _ _).1 hp
        have x1 : 0 ≤ x := hp'.1
        have x2 : x < p.length := hp'.2
        clear hp hp'
        by_cases hgt : x ≤ k
        · have c2 : w.cell? ⟨b, o + x.toNat, none⟩ = some (.int .i64 (g p x)) := ints_cell (by obtain ⟨b', o', h1, _, h2⟩ := HX.out (by omega); injection h1 with h1; injection h1 with h1 h3; subst h1; subst h3; exact h2) (by omega)
          obtain ⟨y, hy⟩ : ∃ y, y = g p x := ⟨_, rfl⟩
          rw [← hy] at c2
          have HY := hid hy
          clear hy
          by_cases he : y = x
          · subst he
            go_wp2_with (go_at_call 21; refine (place_is true HP.out _).mono ?_; rintro e w' ⟨rfl, rfl⟩)
            go_round
            case rel =>
              refine ⟨k + 1, by omega, by go_num, hid fun j hj => ?_⟩
              by_cases hjk : j = k
              · subst hjk
                unfold okAt
                rw [HG.out, HP.out, ← HY.out]
                simp [hgt]
              · exact hall.out j (by omega)
            case measure => simp [intOf]; omega
          · have e1 : (y != x) = true := by simp [he]
            have HE := hid he
            clear he
            go_wp2_with (go_at_call 21; refine (place_is true HP.out _).mono ?_; rintro e w' ⟨rfl, rfl⟩)
            go_ret
            refine ⟨ret_bool ?_, rfl⟩
            exact (all_range_false hlt (by unfold okAt; rw [HG.out, ← HY.out]; simp [HE.out])).symm
        · go_wp2_with (go_at_call 21; refine (place_is true HP.out _).mono ?_; rintro e w' ⟨rfl, rfl⟩)
          go_ret
          refine ⟨ret_bool ?_, rfl⟩
          exact (all_range_false hlt (by unfold okAt; rw [HG.out]; simp; intros; omega)).symm
    · go_wp2
      go_ret
      exact ⟨ret_bool (all_range_true fun i hi => hall.out i (by omega)).symm, rfl⟩
end Go.Proofs.Ytholhmdmpomabaa
