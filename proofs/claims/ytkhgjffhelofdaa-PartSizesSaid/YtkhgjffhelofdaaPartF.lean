/- Contracts of part.Refines, part.Join. -/
import Derived.Test.YtkhgjffhelofdaaPartE
namespace Go.Proofs.Ytkhgjffhelofdaa
open Go.RowKit Pt
set_option linter.unusedVariables false

theorem refines_any (v v' : Value) (n n' B B' : Nat) (p q : List Int) (w : World) (hs : Sl w B 1 v n (ints p)) (hs' : Sl w B' 1 v' n' (ints q)) :
    Calls Try.prog 15 #[v, v'] w fun e w' => e = .returned (.bool (refinesB p q)) ∧ Qt w w' := by
  by_cases hok : rightB p = true ∧ rightB q = true ∧ p.length = q.length
  case neg =>
    refine refines_no v v' n n' B B' p q w hs hs' ?_
    rcases Bool.eq_false_or_eq_true (rightB p) with h1 | h1
    · rcases Bool.eq_false_or_eq_true (rightB q) with h2 | h2
      · exact .inr (.inr fun h => hok ⟨h1, h2, h⟩)
      · exact .inr (.inl h2)
    · exact .inl h1
  obtain ⟨hr, hr2, hlen⟩ := hok
  have HS := hid hs
  have HS' := hid hs'
  obtain ⟨A, c, rfl, hnc, hcm, hl, hx⟩ := hs
  have hn : p.length = n := by rw [len_ints] at hl; omega
  subst hn
  have hm : p.length ≤ 9223372036854775807 := by unfold maxLen at hcm; omega
  obtain ⟨A', c', rfl, hnc', hcm', hl', hx'⟩ := hs'
  have hn : q.length = n' := by rw [len_ints] at hl'; omega
  subst hn
  have hm' : q.length ≤ 9223372036854775807 := by unfold maxLen at hcm'; omega
  clear hl hcm hl' hcm'
  have HX := hid hx
  have HX' := hid hx'
  have HR := hid hr
  have HR2 := hid hr2
  have HL := hid hlen
  have hle : p.length ≤ q.length := by omega
  have hRt := hid ((rightB_iff p).1 hr)
  have e0 : ((p.length : Int) != (q.length : Int)) = false := by simp; omega
  clear hx hx' hr hr2 hlen
  go_enter Try.func15, Try.ntmps15
  go_wp2_with fail
  refine (right_is true HR.out HS.out).mono ?_; rintro e w' ⟨rfl, rfl⟩
  go_wp2_with fail
  refine (right_is true HR2.out HS'.out).mono ?_; rintro e w' ⟨rfl, rfl⟩
  go_wp2
  go_loopw [24] (fun i wr => ∃ k : Nat, k ≤ p.length ∧ i = .int .i64 k ∧ Hid (∀ j, j < k → refAt p q j = true) ∧ Qt w wr) (fun i _ => p.length - (intOf i).toNat)
  case atStart => exact ⟨0, Nat.zero_le _, rfl, fun j hj => by omega, Qt.refl _⟩
  case round =>
    obtain ⟨k, hk, rfl, hall, hq⟩ := hrel
    by_cases hlt : k < p.length
    · obtain ⟨b, o, rfl, hb, hc⟩ := HX.out (by omega)
      obtain ⟨b', o', rfl, hb', hc'⟩ := HX'.out (by omega)
      have hx := hRt.out (k : Int) ⟨by omega, by omega⟩
      have hgx : g p (k : Int) = p.getD k 0 := by simp [g]
      have hgq : g q (k : Int) = q.getD k 0 := by simp [g]
      have c1 := (hq.cell ⟨b, o + k, none⟩).trans (ints_cell hc hlt)
      have c2 := (hq.cell ⟨b', o' + k, none⟩).trans (ints_cell hc' (k := k) (by omega))
      have c3 := (hq.cell ⟨b', o' + (g p (k : Int)).toNat, none⟩).trans (ints_cell hc' (k := (g p (k : Int)).toNat) (by omega))
      have hgz : g q (g p (k : Int)) = q.getD (g p (k : Int)).toNat 0 := rfl
      rw [← hgx] at c1
      rw [← hgq] at c2
      rw [← hgz] at c3
      have i1 : (k : Int) < p.length := by omega
      have i2 : (k : Int) < q.length := by omega
      obtain ⟨x1, x2, _⟩ := hx
      obtain ⟨x, hxx⟩ : ∃ x, x = g p (k : Int) := ⟨_, rfl⟩
      obtain ⟨y, hyy⟩ : ∃ y, y = g q (k : Int) := ⟨_, rfl⟩
      obtain ⟨z, hzz⟩ : ∃ z, z = g q x := ⟨_, rfl⟩
      rw [← hxx] at x1 x2 c1 c3
      rw [← hyy] at c2
      rw [← hzz] at c3
      have HG := hid (And.intro hxx (And.intro hyy hzz))
      have i3 : x < q.length := by omega
      clear hc hc' hgx hgq hgz hxx hyy hzz
      by_cases he : y = z
      · have e1 : (y != z) = false := by simp [he]
        have HE := hid he
        clear he
        go_wp2_with fail
        go_quiet (fail)
        go_wp2
        go_roundw
        case rel =>
          refine ⟨k + 1, by omega, by go_num, hid fun j hj => ?_, hq.drewN _⟩
          by_cases hjk : j = k
          · subst hjk; unfold refAt; rw [← HG.out.1, ← HG.out.2.1, ← HG.out.2.2, HE.out]; simp
          · exact hall.out j (by omega)
        case measure => simp [intOf]; omega
      · have e1 : (y != z) = true := by simp [he]
        have HE := hid he
        clear he
        go_wp2_with fail
        go_quiet (fail)
        go_wp2
        go_ret
        refine ⟨ret_bool ?_, hq.drewN _⟩
        unfold refinesB
        rw [HR.out, HR2.out, all_range_false hlt (by unfold refAt; rw [← HG.out.1, ← HG.out.2.1, ← HG.out.2.2]; simp [HE.out])]
        simp
    · have hkn : k = p.length := by omega
      subst hkn
      go_wp2
      go_ret
      refine ⟨ret_bool ?_, hq⟩
      unfold refinesB
      rw [HR.out, HR2.out, all_range_true fun i hi => hall.out i hi]
      simp [HL.out]

theorem join_any (v : Value) (n B : Nat) (p : List Int) (u t : Int) (w : World) (hs : Sl w B 1 v n (ints p)) (hB : B ≤ w.heap.size) (hr : n ≤ 17592186044416) :
    Calls Try.prog 16 #[v, .int .i64 u, .int .i64 t] w fun e w' => ∃ v', e = .returned v' ∧ Sl w' w'.heap.size 1 v' n (ints (joinF p u t)) ∧ Below w.heap.size w w' := by
  have HS := hid hs
  obtain ⟨A, c, rfl, hnc, hcm, hl, hx⟩ := hs
  have hn : p.length = n := by rw [len_ints] at hl; omega
  subst hn
  clear hl hcm
  have HX := hid hx
  clear hx
  by_cases hok : rightB p = true ∧ placeB p.length u = true ∧ placeB p.length t = true
  case neg =>
    have hjf : joinF p u t = p := by
      unfold joinF; rw [if_neg]; simpa [and_assoc] using hok
    rw [hjf]
    have H := hid hok
    clear hok hjf
    cases hr : rightB p
    · have HR := hid hr
      clear hr
      go_enter Try.func16, Try.ntmps16
      go_wp2_with fail
      refine (right_is false HR.out HS.out).mono ?_; rintro e w' ⟨rfl, rfl⟩
      go_wp2
      go_ret
      exact ⟨_, rfl, HS.out.more hB, Below.refl _ _⟩
    · have HR := hid hr
      clear hr
      cases hp : placeB p.length u
      · have HP := hid hp
        clear hp
        go_enter Try.func16, Try.ntmps16
        go_wp2_with fail
        refine (right_is true HR.out HS.out).mono ?_; rintro e w' ⟨rfl, rfl⟩
        go_wp2_with fail
        refine (place_is false HP.out _).mono ?_; rintro e w' ⟨rfl, rfl⟩
        go_wp2
        go_ret
        exact ⟨_, rfl, HS.out.more hB, Below.refl _ _⟩
      · have HP := hid hp
        clear hp
        have HQ : Hid (placeB p.length t = false) := by
          have := H.out
          rw [HR.out, HP.out] at this
          unfold Hid
          simpa using this
        clear H
        go_enter Try.func16, Try.ntmps16
        go_wp2_with fail
        refine (right_is true HR.out HS.out).mono ?_; rintro e w' ⟨rfl, rfl⟩
        go_wp2_with fail
        refine (place_is true HP.out _).mono ?_; rintro e w' ⟨rfl, rfl⟩
        go_wp2_with fail
        refine (place_is false HQ.out _).mono ?_; rintro e w' ⟨rfl, rfl⟩
        go_wp2
        go_ret
        exact ⟨_, rfl, HS.out.more hB, Below.refl _ _⟩
  obtain ⟨hr, hp, hq⟩ := hok
  have hjf : joinF p u t = joinL p u t := by unfold joinF; rw [hr, hp, hq]; rfl
  have HJ := hid hjf
  have HR := hid hr
  have HP := hid hp
  have HQ := hid hq
  obtain ⟨u1, u2⟩ := (placeB_iff _ _).1 hp
  obtain ⟨t1, t2⟩ := (placeB_iff _ _).1 hq
  clear hr hp hq hjf
  obtain ⟨b, o, rfl, hb, hc⟩ := HX.out (by omega)
  have c1 := ints_cell hc (k := u.toNat) (by omega)
  have c2 := ints_cell hc (k := t.toNat) (by omega)
  have hgu : g p u = p.getD u.toNat 0 := rfl
  have hgt : g p t = p.getD t.toNat 0 := rfl
  rw [← hgu] at c1
  rw [← hgt] at c2
  clear hgu hgt hc
  obtain ⟨x, hx⟩ : ∃ x, x = g p u := ⟨_, rfl⟩
  obtain ⟨y, hy⟩ : ∃ y, y = g p t := ⟨_, rfl⟩
  rw [← hx] at c1
  rw [← hy] at c2
  have HXY := hid (And.intro hx hy)
  clear hx hy
  go_enter Try.func16, Try.ntmps16
  go_wp2_with fail
  refine (right_is true HR.out HS.out).mono ?_; rintro e w' ⟨rfl, rfl⟩
  go_wp2_with fail
  refine (place_is true HP.out _).mono ?_; rintro e w' ⟨rfl, rfl⟩
  go_wp2_with fail
  refine (place_is true HQ.out _).mono ?_; rintro e w' ⟨rfl, rfl⟩
  go_wp2_with fail
  go_quiet (fail)
  generalize hlo : (if y < x then y else x) = lo
  generalize hhi : (if x < y then y else x) = hi
  have HLO : Hid (lo = min x y) := hid (by rw [← hlo]; split <;> omega)
  have HHI : Hid (hi = max x y) := hid (by rw [← hhi]; split <;> omega)
  clear hlo hhi
  go_wp2_with fail
  refine (clone_any _ _ _ _ _ (HS.out.qt ⟨nq, rfl⟩) hB hr).mono ?_; rintro e w1 ⟨v', rfl, hown, hbel⟩
  obtain ⟨k0, cap, hv', hk0, hlt0⟩ := own_form hown (by omega)
  subst hv'
  have hbel' : Below w.heap.size w w1 := ((Qt.refl w).drewN nq).below _ |>.trans hbel
  have hown' : w1.ownsRow w.heap.size 3 1 (.slice (some ⟨k0, 0, none⟩) p.length cap) p.length (ints (joinK p u t 0)) := by rw [joinK_zero]; exact hown
  have hk0' : w.heap.size ≤ k0 := hk0
  clear hown hbel hk0 c1 c2
  go_wp2_with fail
  go_loopw [52] (fun i wr => ∃ k : Nat, k ≤ p.length ∧ i = .int .i64 k ∧ wr.ownsRow w.heap.size 3 1 (.slice (some ⟨k0, 0, none⟩) p.length cap) p.length (ints (joinK p u t k)) ∧ Below w.heap.size w wr) (fun i _ => p.length - (intOf i).toNat)
  case atStart => exact ⟨0, Nat.zero_le _, rfl, hown', hbel'⟩
  case round =>
    obtain ⟨k, hk, rfl, hown, hbel⟩ := hrel
    clear hown' hbel'
    by_cases hlt : k < p.length
    · have c1 : wr.cell? ⟨k0, k, none⟩ = some (.int .i64 (p.getD k 0)) := by
        rw [hown.cellAt k (by omega), ints_at _ _ (by rw [len_joinK _ _ _ hk]; exact hlt), joinK_at _ _ _ hlt]
      have f1 := hown.frozenAt k
      have HS1 := hid (joinK_step p u t hlt)
      have HS2 := hid (fun h => joinK_keep p u t hlt h)
      have HO := hid hown
      clear hown
      generalize p.getD k 0 = z at *
      by_cases he : z = hi
      · have HE := hid he
        have e1 : (z == hi) = true := by simp [he]
        clear he
        go_wp2
        go_roundw
        case rel =>
          refine ⟨k + 1, by omega, by go_num, ?_, hbel.setCell hk0' _⟩
          rw [HS1.out, ← HXY.out.1, ← HXY.out.2, ← HHI.out, ← HLO.out, if_pos HE.out, ← ints_set]
          exact (HO.out.stored k _).1
        case measure => simp [intOf]; omega
      · have HE := hid he
        have e1 : (z == hi) = false := by simp [he]
        clear he
        go_wp2
        go_roundw
        case rel =>
          refine ⟨k + 1, by omega, by go_num, ?_, hbel⟩
          rw [HS2.out (by rw [← HXY.out.1, ← HXY.out.2, ← HHI.out]; exact HE.out)]
          exact HO.out
        case measure => simp [intOf]; omega
    · have hkn : k = p.length := by omega
      subst hkn
      go_wp2
      go_ret
      exact ⟨_, rfl, by rw [HJ.out, ← joinK_all]; exact Sl.of_own hown, hbel⟩
end Go.Proofs.Ytkhgjffhelofdaa
