/- Contracts of the document's Same of hashes, of edges. -/
import Derived.Test.YtbafbnkmmpaomaaSnJ
namespace Go.Proofs.Ytbafbnkmmpaomaa
open Go.RowKit
set_option linter.unusedVariables false
set_option linter.unusedSimpArgs false
attribute [local go_sem ↓] Go.wp_at_zero Go.wp_at_succ
set_option maxRecDepth 100000 in
set_option maxHeartbeats 4000000 in
theorem hsame_is (v v' : Value) (n n' B B' : Nat) (p q : List (Int × Int)) (w : World) (r : Bool) (hr : (p == q) = r) (hs : Sl w B 2 v n (hcz p)) (hs' : Sl w B' 2 v' n' (hcz q)) :
    Calls Try.prog 50 #[v, v'] w fun e w' => e = .returned (.bool r) ∧ Qt w w' := by
  have hn : p.length = n := by have := hs.len; rw [len_hcz] at this; omega
  have hn' : q.length = n' := by have := hs'.len; rw [len_hcz] at this; omega
  obtain ⟨A, c, rfl, hnc, hcm, hl, hx⟩ := hs
  obtain ⟨A', c', rfl, hnc', hcm', hl', hx'⟩ := hs'
  have HX := hid hx
  have HX' := hid hx'
  have HN := hid hn
  have HN' := hid hn'
  have HR := hid hr
  clear hx hx' hl hl' hn hn' hr
  have hm : n ≤ 9223372036854775807 := by unfold maxLen at hcm; omega
  have hm' : n' ≤ 9223372036854775807 := by unfold maxLen at hcm'; omega
  clear hcm hcm'
  by_cases hlen : n = n'
  · subst hlen
    have e0 : ((n : Int) != (n : Int)) = false := by simp
    go_enter Try.func50, Try.ntmps50
    go_wp2
    go_loopw [5] (fun i wr => ∃ k : Nat, k ≤ n ∧ i = .int .i64 (k : Int) ∧ Hid (p.take k = q.take k) ∧ Qt w wr) (fun i _ => n - (intOf i).toNat)
    case atStart => exact ⟨0, Nat.zero_le _, rfl, hid rfl, Qt.refl _⟩
    case round =>
      obtain ⟨k, hk, rfl, hall, hq⟩ := hrel
      by_cases hlt : k < n
      · obtain ⟨b, o, rfl, hb, hc⟩ := HX.out (by omega)
        obtain ⟨b', o', rfl, hb', hc'⟩ := HX'.out (by omega)
        have kp : k < p.length := by rw [HN.out]; exact hlt
        have kq : k < q.length := by rw [HN'.out]; exact hlt
        have c1 := hcz_cell hc kp
        have c2 := hcz_cell hc' kq
        have HT1 := hid (List.take_succ_eq_append_getElem kp)
        have HT2 := hid (List.take_succ_eq_append_getElem kq)
        have HG1 := hid (List.getElem?_eq_getElem kp)
        have HG2 := hid (List.getElem?_eq_getElem kq)
        obtain ⟨x, hgx⟩ : ∃ x, x = p[k] := ⟨_, rfl⟩
        obtain ⟨y, hgy⟩ : ∃ y, y = q[k] := ⟨_, rfl⟩
        rw [← hgx] at c1 HT1 HG1
        rw [← hgy] at c2 HT2 HG2
        obtain ⟨x1, x2⟩ := x
        obtain ⟨y1, y2⟩ := y
        have d1 := (hq.cell ⟨b, o + k * 2, none⟩).trans c1.1
        have d2 := (hq.cell ⟨b, o + k * 2 + 1, none⟩).trans c1.2
        have d3 := (hq.cell ⟨b', o' + k * 2, none⟩).trans c2.1
        have d4 := (hq.cell ⟨b', o' + k * 2 + 1, none⟩).trans c2.2
        dsimp only at d1 d2 d3 d4
        have i1 : (k : Int) < (n : Int) := by omega
        have i0 : (0 : Int) ≤ (k : Int) := by omega
        clear hc hc' hgx hgy c1 c2 kp kq
        by_cases he : x1 = y1 ∧ x2 = y2
        · obtain ⟨rfl, rfl⟩ := he
          go_wp2_with fail
          go_quiet (fail)
          go_wp2
          go_roundw
          case rel => exact ⟨k + 1, by omega, by go_num, hid (by rw [HT1.out, HT2.out, hall.out]), hq.drewN _⟩
          case measure => simp [intOf]; omega
        · have HD : Hid (r = false) := hid (by
            rw [← HR.out, beq_eq_false_iff_ne]
            intro hpq
            have h1 := HG1.out
            rw [hpq, HG2.out] at h1
            injection h1 with h1
            injection h1 with h1 h2
            exact he ⟨h1.symm, h2.symm⟩)
          by_cases h1 : x1 = y1
          · have h2 : ¬ x2 = y2 := fun h => he ⟨h1, h⟩
            have e1 : (x1 != y1) = false := by simp [h1]
            have e2 : (x2 != y2) = true := by simp [h2]
            have e3 : (x1 == y1) = true := by simp [h1]
            have e4 : (x2 == y2) = false := by simp [h2]
            clear he h1 h2
            go_wp2_with fail
            go_quiet (fail)
            go_wp2
            go_ret
            exact ⟨by rw [HD.out]; rfl, hq.drewN _⟩
          · have e3 : (x1 == y1) = false := by simp [h1]
            have e1 : (x1 != y1) = true := by simp [h1]
            clear he h1
            go_wp2_with fail
            go_quiet (fail)
            go_wp2
            go_ret
            exact ⟨by rw [HD.out]; rfl, hq.drewN _⟩
      · obtain rfl : k = n := by omega
        have HD : Hid (r = true) := hid (by
          rw [← HR.out, beq_iff_eq]
          have := hall.out
          rwa [List.take_of_length_le (by rw [HN.out]; exact Nat.le_refl _), List.take_of_length_le (by rw [HN'.out]; exact Nat.le_refl _)] at this)
        go_wp2
        go_ret
        exact ⟨by rw [HD.out]; rfl, hq⟩
  · have e0 : ((n : Int) != (n' : Int)) = true := by simp; omega
    have HD : Hid (r = false) := hid (by
      rw [← HR.out, beq_eq_false_iff_ne]
      intro h
      exact hlen (by rw [← HN.out, ← HN'.out, h]))
    clear hlen
    go_enter Try.func50, Try.ntmps50
    go_wp2
    go_ret
    exact ⟨by rw [HD.out]; rfl, Qt.refl _⟩
set_option maxRecDepth 100000 in
set_option maxHeartbeats 4000000 in
theorem esame_is (v v' : Value) (n n' B B' : Nat) (p q : List (Int × Int × Int)) (w : World) (r : Bool) (hr : (p == q) = r) (hs : Sl w B 3 v n (eds p)) (hs' : Sl w B' 3 v' n' (eds q)) :
    Calls Try.prog 51 #[v, v'] w fun e w' => e = .returned (.bool r) ∧ Qt w w' := by
  have hn : p.length = n := by have := hs.len; rw [len_eds] at this; omega
  have hn' : q.length = n' := by have := hs'.len; rw [len_eds] at this; omega
  obtain ⟨A, c, rfl, hnc, hcm, hl, hx⟩ := hs
  obtain ⟨A', c', rfl, hnc', hcm', hl', hx'⟩ := hs'
  have HX := hid hx
  have HX' := hid hx'
  have HN := hid hn
  have HN' := hid hn'
  have HR := hid hr
  clear hx hx' hl hl' hn hn' hr
  have hm : n ≤ 9223372036854775807 := by unfold maxLen at hcm; omega
  have hm' : n' ≤ 9223372036854775807 := by unfold maxLen at hcm'; omega
  clear hcm hcm'
  by_cases hlen : n = n'
  · subst hlen
    have e0 : ((n : Int) != (n : Int)) = false := by simp
    go_enter Try.func51, Try.ntmps51
    go_wp2
    go_loopw [5] (fun i wr => ∃ k : Nat, k ≤ n ∧ i = .int .i64 (k : Int) ∧ Hid (p.take k = q.take k) ∧ Qt w wr) (fun i _ => n - (intOf i).toNat)
    case atStart => exact ⟨0, Nat.zero_le _, rfl, hid rfl, Qt.refl _⟩
    case round =>
      obtain ⟨k, hk, rfl, hall, hq⟩ := hrel
      by_cases hlt : k < n
      · obtain ⟨b, o, rfl, hb, hc⟩ := HX.out (by omega)
        obtain ⟨b', o', rfl, hb', hc'⟩ := HX'.out (by omega)
        have kp : k < p.length := by rw [HN.out]; exact hlt
        have kq : k < q.length := by rw [HN'.out]; exact hlt
        have c1 := eds_cell hc kp
        have c2 := eds_cell hc' kq
        have HT1 := hid (List.take_succ_eq_append_getElem kp)
        have HT2 := hid (List.take_succ_eq_append_getElem kq)
        have HG1 := hid (List.getElem?_eq_getElem kp)
        have HG2 := hid (List.getElem?_eq_getElem kq)
        obtain ⟨x, hgx⟩ : ∃ x, x = p[k] := ⟨_, rfl⟩
        obtain ⟨y, hgy⟩ : ∃ y, y = q[k] := ⟨_, rfl⟩
        rw [← hgx] at c1 HT1 HG1
        rw [← hgy] at c2 HT2 HG2
        obtain ⟨x1, x2, x3⟩ := x
        obtain ⟨y1, y2, y3⟩ := y
        have d1 := (hq.cell ⟨b, o + k * 3, none⟩).trans c1.1
        have d2 := (hq.cell ⟨b, o + k * 3 + 1, none⟩).trans c1.2.1
        have d5 := (hq.cell ⟨b, o + k * 3 + 2, none⟩).trans c1.2.2
        have d3 := (hq.cell ⟨b', o' + k * 3, none⟩).trans c2.1
        have d4 := (hq.cell ⟨b', o' + k * 3 + 1, none⟩).trans c2.2.1
        have d6 := (hq.cell ⟨b', o' + k * 3 + 2, none⟩).trans c2.2.2
        dsimp only at d1 d2 d3 d4 d5 d6
        have i1 : (k : Int) < (n : Int) := by omega
        have i0 : (0 : Int) ≤ (k : Int) := by omega
        clear hc hc' hgx hgy c1 c2 kp kq
        by_cases he : x1 = y1 ∧ x2 = y2 ∧ x3 = y3
        · obtain ⟨rfl, rfl, rfl⟩ := he
          go_wp2_with fail
          go_quiet (fail)
          go_wp2
          go_roundw
          case rel => exact ⟨k + 1, by omega, by go_num, hid (by rw [HT1.out, HT2.out, hall.out]), hq.drewN _⟩
          case measure => simp [intOf]; omega
        · have HD : Hid (r = false) := hid (by
            rw [← HR.out, beq_eq_false_iff_ne]
            intro hpq
            have h1 := HG1.out
            rw [hpq, HG2.out] at h1
            injection h1 with h1
            injection h1 with h1 h2
            injection h2 with h2 h3
            exact he ⟨h1.symm, h2.symm, h3.symm⟩)
          by_cases h1 : x1 = y1
          · by_cases h2 : x2 = y2
            · have h3 : ¬ x3 = y3 := fun h => he ⟨h1, h2, h⟩
              have e1 : (x1 == y1) = true := by simp [h1]
              have e2 : (x2 == y2) = true := by simp [h2]
              have e3 : (x3 == y3) = false := by simp [h3]
              have e4 : (x3 != y3) = true := by simp [h3]
              clear he h1 h2 h3
              go_wp2_with fail
              go_quiet (fail)
              go_wp2
              go_ret
              exact ⟨by rw [HD.out]; rfl, hq.drewN _⟩
            · have e1 : (x1 == y1) = true := by simp [h1]
              have e2 : (x2 == y2) = false := by simp [h2]
              have e4 : (x2 != y2) = true := by simp [h2]
              clear he h1 h2
              go_wp2_with fail
              go_quiet (fail)
              go_wp2
              go_ret
              exact ⟨by rw [HD.out]; rfl, hq.drewN _⟩
          · have e3 : (x1 == y1) = false := by simp [h1]
            have e1 : (x1 != y1) = true := by simp [h1]
            clear he h1
            go_wp2_with fail
            go_quiet (fail)
            go_wp2
            go_ret
            exact ⟨by rw [HD.out]; rfl, hq.drewN _⟩
      · obtain rfl : k = n := by omega
        have HD : Hid (r = true) := hid (by
          rw [← HR.out, beq_iff_eq]
          have := hall.out
          rwa [List.take_of_length_le (by rw [HN.out]; exact Nat.le_refl _), List.take_of_length_le (by rw [HN'.out]; exact Nat.le_refl _)] at this)
        go_wp2
        go_ret
        exact ⟨by rw [HD.out]; rfl, hq⟩
  · have e0 : ((n : Int) != (n' : Int)) = true := by simp; omega
    have HD : Hid (r = false) := hid (by
      rw [← HR.out, beq_eq_false_iff_ne]
      intro h
      exact hlen (by rw [← HN.out, ← HN'.out, h]))
    clear hlen
    go_enter Try.func51, Try.ntmps51
    go_wp2
    go_ret
    exact ⟨by rw [HD.out]; rfl, Qt.refl _⟩
end Go.Proofs.Ytbafbnkmmpaomaa
