/- Contracts of part.Refines, part.Join. -/
import Derived.Test.YtholhmdmpomabaaPartE
namespace Go.Proofs.Ytholhmdmpomabaa
open Go.RowKit Pt
set_option linter.unusedVariables false

theorem join_own (v : Value) (n B : Nat) (p : List Int) (u t : Int) (w : World) (hs : Sl w B 1 v n (ints p)) (hB : B ≤ w.heap.size) (hr : n ≤ 17592186044416) (hok : rightB p = true ∧ placeB p.length u = true ∧ placeB p.length t = true) :
    Calls Try.prog 25 #[v, .int .i64 u, .int .i64 t] w fun e w' => ∃ v', e = .returned v' ∧ w'.ownsRow w.heap.size 3 1 v' n (ints (joinF p u t)) ∧ Below w.heap.size w w' := by
  have HS := hid hs
  obtain ⟨A, c, rfl, hnc, hcm, hl, hx⟩ := hs
  have hn : p.length = n := by rw [len_ints] at hl; omega
  subst hn
  clear hl hcm
  have HX := hid hx
  clear hx
  obtain ⟨hr, hp, hq⟩ := hok
  have hjf : joinF p u t = joinL p u t := by unfold joinF; rw [hr, hp, hq]; rfl
  have HJ := hid hjf
  have HR := hid hr
  have HP := hid hp
  have HQ := hid hq
  obtain ⟨u1, u2⟩ := (placeB_iff _ _).1 hp
  obtain ⟨t1, t2⟩ := (placeB_iff _ _).1 hq
  clear hr hp hq hjf
  obtain ⟨b, o, rfl, hb, hc⟩ := HX.out (by omega)
  have c1 := ints_cell hc (k := u.toNat) (by omega)
  have c2 := ints_cell hc (k := t.toNat) (by omega)
  have hgu : g p u = p.getD u.toNat 0 := rfl
  have hgt : g p t = p.getD t.toNat 0 := rfl
  rw [← hgu] at c1
  rw [← hgt] at c2
  clear hgu hgt hc
  obtain ⟨x, hx⟩ : ∃ x, x = g p u := ⟨_, rfl⟩
  obtain ⟨y, hy⟩ : ∃ y, y = g p t := ⟨_, rfl⟩
  rw [← hx] at c1
  rw [← hy] at c2
  have HXY := hid (And.intro hx hy)
  clear hx hy
  go_enter Try.func25, Try.ntmps25
  go_wp2_with fail
  refine (right_is true HR.out HS.out).mono ?_; rintro e w' ⟨rfl, rfl⟩
  go_wp2_with fail
  refine (place_is true HP.out _).mono ?_; rintro e w' ⟨rfl, rfl⟩
  go_wp2_with fail
  refine (place_is true HQ.out _).mono ?_; rintro e w' ⟨rfl, rfl⟩
  go_wp2_with fail
  go_quiet (fail)
  generalize hlo : (if y < x then y else x) = lo
  generalize hhi : (if x < y then y else x) = hi
  have HLO : Hid (lo = min x y) := hid (by rw [← hlo]; split <;> omega)
  have HHI : Hid (hi = max x y) := hid (by rw [← hhi]; split <;> omega)
  clear hlo hhi
  go_wp2_with fail
  refine (clone_any _ _ _ _ _ (HS.out.qt ⟨nq, rfl⟩) hB hr).mono ?_; rintro e w1 ⟨v', rfl, hown, hbel⟩
  obtain ⟨k0, cap, hv', hk0, hlt0⟩ := own_form hown (by omega)
  subst hv'
  have hbel' : Below w.heap.size w w1 := ((Qt.refl w).drewN nq).below _ |>.trans hbel
  have hown' : w1.ownsRow w.heap.size 3 1 (.slice (some ⟨k0, 0, none⟩) p.length cap) p.length (ints (joinK p u t 0)) := by rw [joinK_zero]; exact hown
  have hk0' : w.heap.size ≤ k0 := hk0
  clear hown hbel hk0 c1 c2
  go_wp2_with fail
  go_loopw [52] (fun i wr => ∃ k : Nat, k ≤ p.length ∧ i = .int .i64 k ∧ wr.ownsRow w.heap.size 3 1 (.slice (some ⟨k0, 0, none⟩) p.length cap) p.length (ints (joinK p u t k)) ∧ Below w.heap.size w wr) (fun i _ => p.length - (intOf i).toNat)
  case atStart => exact ⟨0, Nat.zero_le _, rfl, hown', hbel'⟩
  case round =>
    obtain ⟨k, hk, rfl, hown, hbel⟩ := hrel
    clear hown' hbel'
    by_cases hlt : k < p.length
    · have c1 : wr.cell? ⟨k0, k, none⟩ = some (.int .i64 (p.getD k 0)) := by
        rw [hown.cellAt k (by omega), ints_at _ _ (by rw [len_joinK _ _ _ hk]; exact hlt), joinK_at _ _ _ hlt]
      have f1 := hown.frozenAt k
      have HS1 := hid (joinK_step p u t hlt)
      have HS2 := hid (fun h => joinK_keep p u t hlt h)
      have HO := hid hown
      clear hown
      generalize p.getD k 0 = z at *
      by_cases he : z = hi
      · have HE := hid he
        have e1 : (z == hi) = true := by simp [he]
        clear he
        go_wp2
        go_roundw
        case rel =>
          refine ⟨k + 1, by omega, by go_num, ?_, hbel.setCell hk0' _⟩
          rw [HS1.out, ← HXY.out.1, ← HXY.out.2, ← HHI.out, ← HLO.out, if_pos HE.out, ← ints_set]
          exact (HO.out.stored k _).1
        case measure => simp [intOf]; omega
      · have HE := hid he
        have e1 : (z == hi) = false := by simp [he]
        clear he
        go_wp2
        go_roundw
        case rel =>
          refine ⟨k + 1, by omega, by go_num, ?_, hbel⟩
          rw [HS2.out (by rw [← HXY.out.1, ← HXY.out.2, ← HHI.out]; exact HE.out)]
          exact HO.out
        case measure => simp [intOf]; omega
    · have hkn : k = p.length := by omega
      subst hkn
      go_wp2
      go_ret
      exact ⟨_, rfl, by rw [HJ.out, ← joinK_all]; exact hown, hbel⟩

theorem join_any (v : Value) (n B : Nat) (p : List Int) (u t : Int) (w : World) (hs : Sl w B 1 v n (ints p)) (hB : B ≤ w.heap.size) (hr : n ≤ 17592186044416) :
    Calls Try.prog 25 #[v, .int .i64 u, .int .i64 t] w fun e w' => ∃ v', e = .returned v' ∧ Sl w' w'.heap.size 1 v' n (ints (joinF p u t)) ∧ Below w.heap.size w w' := by
  by_cases hok : rightB p = true ∧ placeB p.length u = true ∧ placeB p.length t = true
  case pos => exact (join_own v n B p u t w hs hB hr hok).mono fun e w' ⟨v', h1, h2, h3⟩ => ⟨v', h1, Sl.of_own h2, h3⟩
  have HS := hid hs
  obtain ⟨A, c, rfl, hnc, hcm, hl, hx⟩ := hs
  have hn : p.length = n := by rw [len_ints] at hl; omega
  subst hn
  clear hl hcm
  have HX := hid hx
  clear hx
  case neg =>
    have hjf : joinF p u t = p := by
      unfold joinF; rw [if_neg]; simpa [and_assoc] using hok
    rw [hjf]
    have H := hid hok
    clear hok hjf
    cases hr : rightB p
    · have HR := hid hr
      clear hr
      go_enter Try.func25, Try.ntmps25
      go_wp2_with fail
      refine (right_is false HR.out HS.out).mono ?_; rintro e w' ⟨rfl, rfl⟩
      go_wp2
      go_ret
      exact ⟨_, rfl, HS.out.more hB, Below.refl _ _⟩
    · have HR := hid hr
      clear hr
      cases hp : placeB p.length u
      · have HP := hid hp
        clear hp
        go_enter Try.func25, Try.ntmps25
        go_wp2_with fail
        refine (right_is true HR.out HS.out).mono ?_; rintro e w' ⟨rfl, rfl⟩
        go_wp2_with fail
        refine (place_is false HP.out _).mono ?_; rintro e w' ⟨rfl, rfl⟩
        go_wp2
        go_ret
        exact ⟨_, rfl, HS.out.more hB, Below.refl _ _⟩
      · have HP := hid hp
        clear hp
        have HQ : Hid (placeB p.length t = false) := by
          have := H.out
          rw [HR.out, HP.out] at this
          unfold Hid
          simpa using this
        clear H
        go_enter Try.func25, Try.ntmps25
        go_wp2_with fail
        refine (right_is true HR.out HS.out).mono ?_; rintro e w' ⟨rfl, rfl⟩
        go_wp2_with fail
        refine (place_is true HP.out _).mono ?_; rintro e w' ⟨rfl, rfl⟩
        go_wp2_with fail
        refine (place_is false HQ.out _).mono ?_; rintro e w' ⟨rfl, rfl⟩
        go_wp2
        go_ret
        exact ⟨_, rfl, HS.out.more hB, Below.refl _ _⟩
end Go.Proofs.Ytholhmdmpomabaa
