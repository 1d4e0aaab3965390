/- The walk of the law PartSizes, where all three are partitions. -/
import Derived.Test.YtkhgjffhelofdaaPartP
namespace Go.Proofs.Ytkhgjffhelofdaa
open Go.RowKit Pt
set_option linter.unusedVariables false

def SizesRel (p : List Int) (k0 : Nat) (w : World) (c i : Value) (wr : World) : Prop :=
  ∃ k : Nat, k ≤ p.length ∧ i = .int .i64 k ∧ c = .int .i64 (cntK p k) ∧ Blk wr k0 3 (ints (seenJ p k [] 0)) ∧ Below w.heap.size w wr
def SizesIn (p : List Int) (k k0 : Nat) (w w3 : World) (i : Value) (wr : World) : Prop :=
  ∃ j : Nat, j ≤ (clK p (k : Int) p.length).length ∧ i = .int .i64 j ∧ Blk wr k0 3 (ints (seenJ p k (clK p (k : Int) p.length) j)) ∧ Below w.heap.size w wr ∧ Only k0 w3 wr

set_option maxRecDepth 100000 in
set_option maxHeartbeats 8000000 in
theorem sizes_in (v1 v2 v3 : Value) (n1 n2 n3 : Nat) (p q r : List Int) (w : World) (hs1 : Sl w w.heap.size 1 v1 n1 (ints p)) (hs2 : Sl w w.heap.size 1 v2 n2 (ints q)) (hs3 : Sl w w.heap.size 1 v3 n3 (ints r))
    (q1 : ¬ 60 < p.length) (q2 : ¬ 60 < q.length) (q3 : ¬ 60 < r.length) (hr1 : rightB p = true) (hr2 : rightB q = true) (hr3 : rightB r = true) :
    Calls Try.prog 5 #[v1, v2, v3] w (IsTrue w) := by
  have HS1 := hid hs1
  have HS2 := hid hs2
  have HS3 := hid hs3
  obtain ⟨hn, A1, c1, rfl, _, _, hx1⟩ := sl_ints_open hs1
  subst hn
  obtain ⟨hn, A2, c2, rfl, _, _, _⟩ := sl_ints_open hs2
  subst hn
  obtain ⟨hn, A3, c3, rfl, _, _, _⟩ := sl_ints_open hs3
  subst hn
  have HX1 := hid hx1
  have HR1 := hid hr1
  have HR2 := hid hr2
  have HR3 := hid hr3
  have HRt := hid ((rightB_iff p).1 hr1)
  have i1 : ¬ (60 : Int) < (p.length : Int) := by omega
  have i2 : ¬ (60 : Int) < (q.length : Int) := by omega
  have i3 : ¬ (60 : Int) < (r.length : Int) := by omega
  clear hs1 hs2 hs3 hx1 hr1 hr2 hr3
  have hmk := fun w => run_make_ints p.length (by omega) w
  go_enter Try.func5, Try.ntmps5
  go_wp2_with fail
  refine (right_is true HR1.out HS1.out).mono ?_; rintro e w' ⟨rfl, rfl⟩
  go_wp2_with fail
  refine (right_is true HR2.out HS2.out).mono ?_; rintro e w' ⟨rfl, rfl⟩
  go_wp2_with fail
  refine (right_is true HR3.out HS3.out).mono ?_; rintro e w' ⟨rfl, rfl⟩
  go_wp2_with fail
  have hb0 : Blk (w.alloc (.cells (ints (List.replicate p.length 0)).toArray 3)) w.heap.size 3 (ints (seenJ p 0 [] 0)) := by rw [seen_start HRt.out]; exact Blk.new _ _ _
  have hw0 : Below w.heap.size w (w.alloc (.cells (ints (List.replicate p.length 0)).toArray 3)) := bel_new _ _
  clear hmk
  go_loopw [8, 52] (SizesRel p w.heap.size w) (fun _ i _ => p.length - (intOf i).toNat)
  case atStart => exact ⟨0, Nat.zero_le _, rfl, rfl, hb0, hw0⟩
  case round =>
    obtain ⟨k, hk, rfl, rfl, hb, hbel⟩ := hrel
    clear hb0 hw0
    obtain ⟨wo, hwo⟩ : ∃ wo : World, wo = wr := ⟨_, rfl⟩
    subst hwo
    by_cases hlt : k < p.length
    · obtain ⟨b, o, rfl, hbb, hc⟩ := HX1.out (by omega)
      have hck := cntK_le p k
      have d1 := (hbel.cell (p := ⟨b, o + k, none⟩) (by show b < _; omega)).trans (ints_cell hc hlt)
      have hgk : p.getD k 0 = g p (k : Int) := by simp [g]
      rw [hgk] at d1
      have HC := hid (cntK_step p k)
      have HSk := hid (fun h => seen_skip HRt.out hlt h)
      clear hc hgk
      by_cases he : (k : Int) = g p (k : Int)
      · have HE := hid he
        have e1 : ((k : Int) != g p (k : Int)) = false := by simp [← he]
        have HCl := hid (seen_class HRt.out hlt he.symm)
        have HN : Hid (∀ j, j < (clK p (k : Int) p.length).length → _) := hid (fun j hj => seen_next (j := j) he.symm hj)
        have HB := hid hb
        have HBel := hid hbel
        have HcR := hid (classL_eq HRt.out (v := (k : Int)) ⟨by omega, by omega⟩)
        clear he hb hbel
        generalize g p (k : Int) = gk at *
        generalize hcn : cntK p k = cn at *
        clear hcn
        go_wp2_with fail
        refine (class_any _ _ _ _ _ _ (HS1.out.call HBel.out) (Nat.le_refl _) (by omega)).mono ?_; rintro e w3 ⟨vc, rfl, hown, hbc⟩
        rw [HcR.out] at hown
        have hb3 := HB.out.below hbc HB.out.lt
        have hB3 := Bl.call HBel.out hbc
        have hlk : w.heap.size < wo.heap.size := HB.out.lt
        have hlcl := clK_le p (k : Int) p.length
        have HO := hid hown
        have hshape : ∃ A c, vc = .slice A (clK p (k : Int) p.length).length c ∧ (0 < (clK p (k : Int) p.length).length → ∃ kk, A = some ⟨kk, 0, none⟩ ∧ wo.heap.size ≤ kk) := by
          rcases hown.2 with ⟨hv, h0⟩ | ⟨kk, cap, cur, hv, hkk, _⟩
          · exact ⟨none, 0, by rw [hv, h0], fun h => by omega⟩
          · exact ⟨_, cap, hv, fun _ => ⟨kk, rfl, hkk⟩⟩
        obtain ⟨A, cc, rfl, hA⟩ := hshape
        have HA := hid hA
        have hcl0 := hid (first_clK HRt.out (v := (k : Int)) ⟨by omega, by omega⟩)
        have H3 := hid (And.intro hb3 hB3)
        clear hA hown hbc hb3 hB3
        go_wp2_with fail
        go_loopw [66] (SizesIn p k w.heap.size w w3) (fun i _ => (clK p (k : Int) p.length).length - (intOf i).toNat)
        case atStart => exact ⟨0, Nat.zero_le _, rfl, by rw [seen_zero]; exact H3.out.1, H3.out.2, Only.refl _ _⟩
        case round =>
          obtain ⟨j, hj, rfl, hb4, hbel4, honly⟩ := hrel
          by_cases hjl : j < (clK p (k : Int) p.length).length
          · obtain ⟨kk, rfl, hkk⟩ := HA.out (by omega)
            have hne : kk ≠ w.heap.size := by omega
            have d2 := honly.keeps (o := j) hne ((HO.out.cellAt j (by omega)).trans (ints_at _ j hjl))
            obtain ⟨hvr, hv0, hvs⟩ := HN.out j hjl
            have HVS := hid hvs
            have HOn := hid honly
            have d3 : wr.cell? ⟨w.heap.size, ((clK p (k : Int) p.length).getD j 0).toNat, none⟩ = some (.int .i64 0) := by
              rw [hb4.cell, ints_at _ _ (by rw [len_seenJ]; unfold InR at hvr; omega), hv0]
            have f3 := hb4.frozen ((clK p (k : Int) p.length).getD j 0).toNat
            have HB4 := hid (And.intro hb4 hbel4)
            obtain ⟨v0, v1⟩ := hvr
            clear hv0 hvs hb4 hbel4 honly
            generalize hcl : clK p (k : Int) p.length = cl at *
            have HCLe := hid hcl
            clear hcl
            generalize hvv : cl.getD j 0 = v at *
            clear hvv
            go_wp2
            go_roundw
            case rel =>
              refine ⟨j + 1, by rw [HCLe.out]; omega, by go_num, ?_, HB4.out.2.setCell (Nat.le_refl _) _, HOn.out.put _ _⟩
              rw [HCLe.out, ← HVS.out, ← ints_set]
              exact HB4.out.1.put _ _
            case measure => simp [intOf]; omega
          · have hjl' : j = (clK p (k : Int) p.length).length := by omega
            have HJ := hid hjl'
            have HB4 := hid (And.intro hb4 hbel4)
            clear hjl' hb4 hbel4 honly
            go_wp2
            go_roundw
            case rel =>
              refine ⟨k + 1, by omega, by go_num, ?_, ?_, HB4.out.2⟩
              · rw [HC.out, if_pos (HE.out.symm)]; go_num
              · have := HB4.out.1
                rw [HJ.out, HCl.out] at this
                exact this
            case measure => simp [intOf]; omega
      · have HE := hid he
        have e1 : ((k : Int) != g p (k : Int)) = true := by simp [he]
        clear he
        generalize hG : g p (k : Int) = gk at *
        generalize hcn : cntK p k = cn at *
        clear hcn
        have HG := hid hG
        clear hG
        go_wp2
        go_roundw
        case rel =>
          refine ⟨k + 1, by omega, by go_num, ?_, ?_, hbel⟩
          · rw [HC.out, if_neg (fun h => HE.out h.symm)]; go_num
          · rw [HSk.out (fun h => HE.out h.symm)]; exact hb
        case measure => simp [intOf]; omega
    · obtain rfl : k = p.length := by omega
      have HB := hid hb
      have HBel := hid hbel
      have hcm : (manyZ p : Int) = (cntK p p.length : Int) := by rw [manyZ_of HRt.out]; rfl
      have HCM := hid hcm
      have hlen := len_seenJ p p.length [] 0
      have HAll := hid (fun x (hx : x < p.length) => seen_all HRt.out hx)
      have HBo : Hid ((refinesB p q && refinesB q p) = sameB p q) := hid (refines_both HR1.out)
      have HTr : Hid (refinesB p q = true → refinesB q r = true → refinesB p r = true) := hid refines_trans
      clear hb hbel hcm
      generalize seenJ p p.length [] 0 = sn at *
      generalize cntK p p.length = cn at *
      go_wp2
      go_loopw [88] (fun i wr => ∃ j : Nat, j ≤ p.length ∧ i = .int .i64 j ∧ wr = wo) (fun i _ => p.length - (intOf i).toNat)
      case atStart => exact ⟨0, Nat.zero_le _, rfl, rfl⟩
      case round =>
        obtain ⟨j, hj, rfl, rfl⟩ := hrel
        by_cases hjl : j < p.length
        · have d1 : wr.cell? ⟨w.heap.size, j, none⟩ = some (.int .i64 1) := by
            rw [HB.out.cell, ints_at _ _ (by omega), HAll.out j hjl]
          go_wp2
          go_roundw
          case rel => exact ⟨j + 1, by omega, by go_num, by first | rfl | trivial⟩
          case measure => simp [intOf]; omega
        · obtain rfl : j = p.length := by omega
          have hP := HS1.out.call HBel.out
          have hQ := HS2.out.call HBel.out
          have hR := HS3.out.call HBel.out
          cases hA : refinesB p q
          · have HA := hid hA
            have HSm : Hid (sameB p q = false) := hid (by rw [← HBo.out, HA.out]; rfl)
            clear hA
            cases hB2 : refinesB q r <;> cases hC2 : refinesB p r
            all_goals
              have HB2 := hid hB2
              have HC2 := hid hC2
              clear hB2 hC2
              go_wp2_with fail
              refine (refines_is _ HA.out hP hQ).mono ?_; rintro e w4 ⟨rfl, hq4⟩
              have hP4 := hP.cqt hq4
              have hQ4 := hQ.cqt hq4
              have hR4 := hR.cqt hq4
              have hB4 := Bl.qt HBel.out hq4
              clear hP hQ hR hq4
              go_wp2_with fail
              refine (refines_is _ HB2.out hQ4 hR4).mono ?_; rintro e w5 ⟨rfl, hq5⟩
              have hP5 := hP4.cqt hq5
              have hQ5 := hQ4.cqt hq5
              have hR5 := hR4.cqt hq5
              have hB5 := Bl.qt hB4 hq5
              clear hP4 hQ4 hR4 hB4 hq5
              go_wp2_with fail
              refine (refines_is _ HC2.out hP5 hR5).mono ?_; rintro e w6 ⟨rfl, hq6⟩
              have hP6 := hP5.cqt hq6
              have hQ6 := hQ5.cqt hq6
              have hB6 := Bl.qt hB5 hq6
              clear hP5 hQ5 hR5 hB5 hq6
              go_wp2_with fail
              refine (many_is (cn : Int) HCM.out hP6).mono ?_; rintro e w' ⟨rfl, rfl⟩
              go_wp2_with fail
              refine (same_is false HSm.out hP6 hQ6).mono ?_; rintro e w8 ⟨rfl, hq8⟩
              have hB8 := Bl.qt hB6 hq8
              clear hP6 hQ6 hB6 hq8
              go_wp2_with fail
              refine (awake_any _).mono ?_; rintro e w9 ⟨rfl, hb9⟩
              go_wp2
              go_ret
              exact ⟨rfl, Bl.call hB8 hb9⟩
          · have HA := hid hA
            clear hA
            have hc : (refinesB q r = false ∧ (refinesB p r = true ∨ refinesB p r = false)) ∨ (refinesB q r = true ∧ refinesB p r = true) := by
              cases hB2 : refinesB q r
              · cases refinesB p r <;> simp
              · exact .inr ⟨rfl, HTr.out HA.out hB2⟩
            have hd : (refinesB q p = true ∧ sameB p q = true) ∨ (refinesB q p = false ∧ sameB p q = false) := by
              have := HBo.out
              rw [HA.out] at this
              cases hD : refinesB q p
              · rw [hD] at this; exact .inr ⟨rfl, this.symm⟩
              · rw [hD] at this; exact .inl ⟨rfl, this.symm⟩
            rcases hc with ⟨hB2, hC2 | hC2⟩ | ⟨hB2, hC2⟩ <;> rcases hd with ⟨hD, hSm⟩ | ⟨hD, hSm⟩
            all_goals
              have HB2 := hid hB2
              have HC2 := hid hC2
              have HD := hid hD
              have HSm := hid hSm
              clear hB2 hC2 hD hSm
              go_wp2_with fail
              refine (refines_is _ HA.out hP hQ).mono ?_; rintro e w4 ⟨rfl, hq4⟩
              have hP4 := hP.cqt hq4
              have hQ4 := hQ.cqt hq4
              have hR4 := hR.cqt hq4
              have hB4 := Bl.qt HBel.out hq4
              clear hP hQ hR hq4
              go_wp2_with fail
              refine (refines_is _ HB2.out hQ4 hR4).mono ?_; rintro e w5 ⟨rfl, hq5⟩
              have hP5 := hP4.cqt hq5
              have hQ5 := hQ4.cqt hq5
              have hR5 := hR4.cqt hq5
              have hB5 := Bl.qt hB4 hq5
              clear hP4 hQ4 hR4 hB4 hq5
              go_wp2_with fail
              refine (refines_is _ HC2.out hP5 hR5).mono ?_; rintro e w6 ⟨rfl, hq6⟩
              have hP6 := hP5.cqt hq6
              have hQ6 := hQ5.cqt hq6
              have hB6 := Bl.qt hB5 hq6
              clear hP5 hQ5 hR5 hB5 hq6
              go_wp2_with fail
              refine (many_is (cn : Int) HCM.out hP6).mono ?_; rintro e w' ⟨rfl, rfl⟩
              go_wp2_with fail
              refine (refines_is _ HD.out hQ6 hP6).mono ?_; rintro e w7 ⟨rfl, hq7⟩
              have hP7 := hP6.cqt hq7
              have hQ7 := hQ6.cqt hq7
              have hB7 := Bl.qt hB6 hq7
              clear hP6 hQ6 hB6 hq7
              go_wp2_with fail
              refine (same_is _ HSm.out hP7 hQ7).mono ?_; rintro e w8 ⟨rfl, hq8⟩
              have hB8 := Bl.qt hB7 hq8
              clear hP7 hQ7 hB7 hq8
              go_wp2_with fail
              refine (awake_any _).mono ?_; rintro e w9 ⟨rfl, hb9⟩
              go_wp2
              go_ret
              exact ⟨rfl, Bl.call hB8 hb9⟩

theorem partSizes_walk (v1 : Value) (n1 : Nat) (p : List Int) (v2 : Value) (n2 : Nat) (q : List Int) (v3 : Value) (n3 : Nat) (r : List Int) (w : World) (hs1 : Sl w w.heap.size 1 v1 n1 (ints p)) (_ : ∀ e ∈ p, wfI e)
    (hs2 : Sl w w.heap.size 1 v2 n2 (ints q)) (_ : ∀ e ∈ q, wfI e) (hs3 : Sl w w.heap.size 1 v3 n3 (ints r)) (_ : ∀ e ∈ r, wfI e) :
    Calls Try.prog 5 #[v1, v2, v3] w (IsTrue w) := by
  by_cases h : 60 < p.length ∨ 60 < q.length ∨ 60 < r.length ∨ rightB p = false ∨ rightB q = false ∨ rightB r = false
  · exact sizes_out v1 v2 v3 n1 n2 n3 p q r w hs1 hs2 hs3 h
  · simp only [not_or, Bool.not_eq_false] at h
    exact sizes_in v1 v2 v3 n1 n2 n3 p q r w hs1 hs2 hs3 h.1 h.2.1 h.2.2.1 h.2.2.2.1 h.2.2.2.2.1 h.2.2.2.2.2
end Go.Proofs.Ytkhgjffhelofdaa
