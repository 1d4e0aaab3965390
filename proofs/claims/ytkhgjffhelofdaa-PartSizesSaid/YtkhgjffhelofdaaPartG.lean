/- Contract of raftsmanref09.May. -/
import Derived.Test.YtkhgjffhelofdaaPartF
namespace Go.Proofs.Ytkhgjffhelofdaa
open Go.RowKit Pt
set_option linter.unusedVariables false

theorem may_any (v : Value) (m B : Nat) (n : Int) (l : List Ed) (w : World) (hs : Sl w B 3 v m (eds l)) :
    Calls Try.prog 11 #[.int .i64 n, v] w fun e w' => e = .returned (.bool (mayB n l)) ∧ w = w' := by
  obtain ⟨A, c, rfl, hnc, hcm, hl, hx⟩ := hs
  have hn : l.length = m := by rw [len_eds] at hl; omega
  subst hn
  have hm : l.length ≤ 9223372036854775807 := by unfold maxLen at hcm; omega
  clear hl hcm
  have HX := hid hx
  clear hx
  go_enter Try.func11, Try.ntmps11
  go_wp2
  go_loop [5] (fun i => ∃ k : Nat, k ≤ l.length ∧ i = .int .i64 k ∧ Hid (∀ j (h : j < l.length), j < k → edB n l[j] = true)) (fun i => l.length - (intOf i).toNat)
  case atStart => exact ⟨0, Nat.zero_le _, rfl, fun j _ hj => by omega⟩
  case round =>
    obtain ⟨k, hk, rfl, hall⟩ := hrel
    by_cases hlt : k < l.length
    · obtain ⟨b, o, rfl, hb, hc⟩ := HX.out (by omega)
      obtain ⟨c1, c2, _⟩ := eds_cell hc hlt
      have HF : Hid (edB n l[k] = false → mayB n l = false) := hid (fun h => by
        unfold mayB; rw [List.all_eq_false]; exact ⟨l[k], List.getElem_mem _, by simp [h]⟩)
      have HU : Hid (edB n l[k] = (placeB n l[k].1 && placeB n l[k].2.1)) := hid rfl
      clear hc
      generalize l[k].1 = x at *
      generalize l[k].2.1 = y at *
      go_wp2
      all_goals first
        | (go_ret
           refine ⟨ret_bool ?_, rfl⟩
           symm
           refine HF.out ?_
           rw [HU.out]
           simp [placeB]
           omega)
        | (go_round
           case rel =>
             refine ⟨k + 1, by omega, by go_num, hid fun j hj hjk => ?_⟩
             by_cases h : j = k
             · subst h; rw [HU.out]; simp [placeB]; omega
             · exact hall.out j hj (by omega)
           case measure => simp [intOf]; omega)
    · go_wp2
      go_ret
      refine ⟨ret_bool ?_, rfl⟩
      unfold mayB
      symm
      rw [List.all_eq_true]
      intro e he
      obtain ⟨j, hj, rfl⟩ := List.getElem_of_mem he
      exact hall.out j hj (by omega)
end Go.Proofs.Ytkhgjffhelofdaa
