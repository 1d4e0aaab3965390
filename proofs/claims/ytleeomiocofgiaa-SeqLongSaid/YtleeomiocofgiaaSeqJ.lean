/- The walk of the law SeqMany. -/
import Derived.Test.YtleeomiocofgiaaSeqI
import Derived.Test.YtleeomiocofgiaaRowKit
namespace Go.Proofs.Ytleeomiocofgiaa
open Go.RowKit Sq
set_option linter.unusedVariables false

/-- What At answers at a list. -/
def AtL (l : List Int) (i : Int) (r : Int) (k : Bool) : Prop := (0 ≤ i ∧ k = true ∧ l[i.toNat]? = some r) ∨ ((i < 0 ∨ (l.length : Int) ≤ i) ∧ k = false ∧ r = 0)
theorem AtL.ex (l : List Int) (i : Int) : ∃ r k, AtL l i r k := by
  by_cases h : 0 ≤ i ∧ i < l.length
  · exact ⟨l[i.toNat]'(by omega), true, .inl ⟨h.1, rfl, List.getElem?_eq_getElem _⟩⟩
  · exact ⟨0, false, .inr ⟨by omega, rfl, rfl⟩⟩
theorem at_gen {v : Option Addr} {t : Tr Int} {B : Nat} {w : World} {i : Int} {r : Int} {k : Bool} (h : IsTr w B v t) (hs : sz t ≤ 1000000000) (ha : AtL (ls t) i r k) :
    Calls Try.prog 9 #[.pointer v, .int .i64 i] w fun e w' => e = .returned (.tuple #[.int .i64 r, .bool k]) ∧ w = w' := by
  rcases ha with ⟨h0, rfl, hr⟩ | ⟨h0, rfl, rfl⟩
  · exact at_is r h h0 hr hs
  · exact at_out h (by rw [← len_ls]; exact h0)

set_option maxRecDepth 100000 in
set_option maxHeartbeats 4000000 in
theorem seqMany_walk (va : Value) (na : Nat) (A : List Int) (vb : Value) (nb : Nat) (B : List Int) (vc : Value) (nc : Nat) (C : List Int) (i : Int) (w : World)
    (hsA : Sl w w.heap.size 1 va na (ints A)) (hlA : ∀ e ∈ A, wfI e) (hsB : Sl w w.heap.size 1 vb nb (ints B)) (hlB : ∀ e ∈ B, wfI e) (hsC : Sl w w.heap.size 1 vc nc (ints C)) (hlC : ∀ e ∈ C, wfI e) (hi : wfI i) :
    Calls Try.prog 3 #[va, vb, vc, .int .i64 i] w (IsTrue w) := by
  clear hlA hlB hlC
  have SA := hid hsA
  have SB := hid hsB
  have SC := hid hsC
  have eA : A.length = na := by have := hsA.len; rw [len_ints] at this; omega
  have eB : B.length = nb := by have := hsB.len; rw [len_ints] at this; omega
  have eC : C.length = nc := by have := hsC.len; rw [len_ints] at this; omega
  obtain ⟨xa, ca, rfl, ha1, ha2, ha3, ha4⟩ := hsA
  obtain ⟨xb, cb, rfl, hb1, hb2, hb3, hb4⟩ := hsB
  obtain ⟨xc, cc, rfl, hc1, hc2, hc3, hc4⟩ := hsC
  clear ha1 ha2 ha3 ha4 hb1 hb2 hb3 hb4 hc1 hc2 hc3 hc4
  have EA := hid eA
  have EB := hid eB
  have EC := hid eC
  clear eA eB eC
  obtain ⟨hi1, hi2⟩ := hi
  by_cases g1 : 100 < na ∨ 100 < nb ∨ 100 < nc
  · have aw : ∀ w, Calls Try.prog 6 #[] w (IsTrue w) := awake_any
    by_cases f1 : 100 < na
    · have f1' : (100 : Int) < na := by omega
      clear g1
      go_enter Try.func3, Try.ntmps3
      go_wp2_with fail
      refine (aw _).mono ?_; rintro e w' ⟨rfl, hb⟩
      go_wp2
      go_ret
      exact ⟨rfl, hb⟩
    · have f1' : ¬ (100 : Int) < na := by omega
      by_cases f2 : 100 < nb
      · have f2' : (100 : Int) < nb := by omega
        clear g1
        go_enter Try.func3, Try.ntmps3
        go_wp2_with fail
        refine (aw _).mono ?_; rintro e w' ⟨rfl, hb⟩
        go_wp2
        go_ret
        exact ⟨rfl, hb⟩
      · have f2' : ¬ (100 : Int) < nb := by omega
        have f3' : (100 : Int) < nc := by omega
        clear g1
        go_enter Try.func3, Try.ntmps3
        go_wp2_with fail
        refine (aw _).mono ?_; rintro e w' ⟨rfl, hb⟩
        go_wp2
        go_ret
        exact ⟨rfl, hb⟩
  have f1 : ¬ (100 : Int) < na := by omega
  have f2 : ¬ (100 : Int) < nb := by omega
  have f3 : ¬ (100 : Int) < nc := by omega
  have k1 : na ≤ 100 := by omega
  have k2 : nb ≤ 100 := by omega
  have k3 : nc ≤ 100 := by omega
  have za : sz (ofL A) = na := by rw [← len_ls, ls_ofL]; exact EA.out
  have zb : sz (ofL B) = nb := by rw [← len_ls, ls_ofL]; exact EB.out
  have zc : sz (ofL C) = nc := by rw [← len_ls, ls_ofL]; exact EC.out
  have lB : Hid (ls (ofL B) = B) := hid (ls_ofL B)
  have l1 : Hid (ls (join (join (ofL A) (ofL B)) (ofL C)) = A ++ B ++ C) := hid (by simp [ls_join, ls_ofL])
  have l2 : Hid (ls (join (ofL A) (join (ofL B) (ofL C))) = A ++ B ++ C) := hid (by simp [ls_join, ls_ofL])
  generalize hx : ofL A = x at *
  generalize hy : ofL B = y at *
  generalize hz : ofL C = z at *
  have HX := hid hx
  have HY := hid hy
  have HZ := hid hz
  clear hx hy hz g1
  have z1 : sz (join x y) = na + nb := by rw [sz_join, za, zb]
  have z2 : sz (join y z) = nb + nc := by rw [sz_join, zb, zc]
  have z3 : sz (join (join x y) z) = na + nb + nc := by rw [sz_join, z1, zc]
  have z4 : sz (join x (join y z)) = na + nb + nc := by rw [sz_join, z2, za]; omega
  have Z1 := hid z1
  have Z2 := hid z2
  have Z3 := hid z3
  have Z4 := hid z4
  have ZA := hid za
  have ZB := hid zb
  have ZC := hid zc
  clear z1 z2 z3 z4 za zb zc
  obtain ⟨r, k, hr⟩ := AtL.ex (A ++ B ++ C) i
  have HR := hid hr
  clear hr
  go_enter Try.func3, Try.ntmps3
  go_wp2_with fail
  refine (of_any EA.out SA.out (by omega)).mono ?_; rintro e w1 ⟨v1, rfl, h1, b1⟩
  rw [HX.out] at h1
  have H1 := hid h1
  have B1 := hid b1
  have SB1 := hid (SB.out.call b1)
  have SC1 := hid (SC.out.call b1)
  clear h1 b1
  go_wp2_with fail
  refine (of_any EB.out SB1.out (by omega)).mono ?_; rintro e w2 ⟨v2, rfl, h2, b2⟩
  rw [HY.out] at h2
  have H2 := hid h2
  have H1 := hid (H1.out.call b2)
  have SC2 := hid (SC1.out.call b2)
  have B2 := hid (Bl.call B1.out b2)
  clear h2 b2
  go_wp2_with fail
  refine (of_any EC.out SC2.out (by omega)).mono ?_; rintro e w3 ⟨v3, rfl, h3, b3⟩
  rw [HZ.out] at h3
  have H3 := hid h3
  have H2 := hid (H2.out.call b3)
  have H1 := hid (H1.out.call b3)
  have B3 := hid (Bl.call B2.out b3)
  clear h3 b3
  go_wp2_with fail
  refine (join_any H1.out H2.out (by rw [ZA.out]; omega) (by rw [ZB.out]; omega)).mono ?_; rintro e w4 ⟨v4, rfl, h4, b4⟩
  have H4 := hid h4
  have H3 := hid (H3.out.call b4)
  have H2 := hid (H2.out.call b4)
  have H1 := hid (H1.out.call b4)
  have B4 := hid (Bl.call B3.out b4)
  clear h4 b4
  go_wp2_with fail
  refine (join_any H4.out H3.out (by rw [Z1.out]; omega) (by rw [ZC.out]; omega)).mono ?_; rintro e w5 ⟨v5, rfl, h5, b5⟩
  have H5 := hid h5
  have H3 := hid (H3.out.call b5)
  have H2 := hid (H2.out.call b5)
  have H1 := hid (H1.out.call b5)
  have B5 := hid (Bl.call B4.out b5)
  clear h5 b5
  go_wp2_with fail
  refine (join_any H2.out H3.out (by rw [ZB.out]; omega) (by rw [ZC.out]; omega)).mono ?_; rintro e w6 ⟨v6, rfl, h6, b6⟩
  have H6 := hid h6
  have H5 := hid (H5.out.call b6)
  have H3 := hid (H3.out.call b6)
  have H2 := hid (H2.out.call b6)
  have H1 := hid (H1.out.call b6)
  have B6 := hid (Bl.call B5.out b6)
  clear h6 b6
  go_wp2_with fail
  refine (join_any H1.out H6.out (by rw [ZA.out]; omega) (by rw [Z2.out]; omega)).mono ?_; rintro e w7 ⟨v7, rfl, h7, b7⟩
  have H7 := hid h7
  have H5 := hid (H5.out.call b7)
  have H3 := hid (H3.out.call b7)
  have H2 := hid (H2.out.call b7)
  have H1 := hid (H1.out.call b7)
  have B7 := hid (Bl.call B6.out b7)
  clear h7 b7
  go_wp2_with fail
  refine (at_gen (r := r) (k := k) H5.out (by rw [Z3.out]; omega) (by rw [l1.out]; exact HR.out)).mono ?_; rintro e w' ⟨rfl, rfl⟩
  go_wp2_with fail
  refine (at_gen (r := r) (k := k) H7.out (by rw [Z4.out]; omega) (by rw [l2.out]; exact HR.out)).mono ?_; rintro e w' ⟨rfl, rfl⟩
  go_wp2_with fail
  refine (list_any H5.out (by rw [Z3.out]; omega)).mono ?_; rintro e w8 ⟨v8, rfl, h8, b8⟩
  rw [l1.out] at h8
  have H8 := hid h8
  have H7 := hid (H7.out.call b8)
  have H5 := hid (H5.out.call b8)
  have H3 := hid (H3.out.call b8)
  have H2 := hid (H2.out.call b8)
  have H1 := hid (H1.out.call b8)
  have B8 := hid (Bl.call B7.out b8)
  clear h8 b8
  go_wp2_with fail
  refine (list_any H7.out (by rw [Z4.out]; omega)).mono ?_; rintro e w9 ⟨v9, rfl, h9, b9⟩
  rw [l2.out] at h9
  have H9 := hid h9
  have H8 := hid (H8.out.call b9)
  have H5 := hid (H5.out.call b9)
  have H3 := hid (H3.out.call b9)
  have H2 := hid (H2.out.call b9)
  have H1 := hid (H1.out.call b9)
  have B9 := hid (Bl.call B8.out b9)
  clear h9 b9
  go_wp2_with fail
  refine (same_is true (by simp [sameB]) H8.out H9.out).mono ?_; rintro e wq ⟨rfl, hq⟩
  have H5 := hid (H5.out.cqt hq)
  have H3 := hid (H3.out.cqt hq)
  have H2 := hid (H2.out.cqt hq)
  have H1 := hid (H1.out.cqt hq)
  have BQ := hid (Bl.qt B9.out hq)
  have L5 := hid (len_any H5.out)
  have L1 := hid (len_any H1.out)
  have L2 := hid (len_any H2.out)
  have L3 := hid (len_any H3.out)
  rw [Z3.out] at L5
  rw [ZA.out] at L1
  rw [ZB.out] at L2
  rw [ZC.out] at L3
  clear hq
  go_wp2_with fail
  refine L5.out.mono ?_; rintro e w' ⟨rfl, rfl⟩
  go_wp2_with fail
  refine L1.out.mono ?_; rintro e w' ⟨rfl, rfl⟩
  go_wp2_with fail
  refine L2.out.mono ?_; rintro e w' ⟨rfl, rfl⟩
  go_wp2_with fail
  refine L3.out.mono ?_; rintro e w' ⟨rfl, rfl⟩
  have n0 : (((na + nb + nc : Nat) : Int) != (na : Int) + (nb : Int) + (nc : Int)) = false := by simp
  by_cases q1 : (na : Int) ≤ i
  · by_cases q2 : i < (na : Int) + (nb : Int)
    · have q2' : i < ((na + nb : Nat) : Int) := by omega
      have ek : k = true ∧ B[(i - na).toNat]? = some r := by
        have ea := EA.out
        have eb := EB.out
        rcases HR.out with ⟨h0, hk, hr⟩ | ⟨h0, hk, hr⟩
        · refine ⟨hk, ?_⟩
          rw [List.append_assoc, List.getElem?_append_right (by omega), List.getElem?_append_left (by omega)] at hr
          rw [← hr]; congr 1; omega
        · exfalso
          simp only [List.length_append] at h0
          omega
      obtain ⟨rfl, er⟩ := ek
      have ER := hid er
      clear er
      go_wp2_with fail
      refine (at_is (i := i - na) r H2.out (by omega) (by rw [lB.out]; exact ER.out) (by rw [ZB.out]; omega)).mono ?_; rintro e w' ⟨rfl, rfl⟩
      go_wp2_with fail
      refine (awake_any _).mono ?_; rintro e w' ⟨rfl, hb⟩
      go_wp2
      go_ret
      exact ⟨rfl, Bl.call BQ.out hb⟩
    · go_wp2_with fail
      refine (awake_any _).mono ?_; rintro e w' ⟨rfl, hb⟩
      go_wp2
      go_ret
      exact ⟨rfl, Bl.call BQ.out hb⟩
  · go_wp2_with fail
    refine (awake_any _).mono ?_; rintro e w' ⟨rfl, hb⟩
    go_wp2
    go_ret
    exact ⟨rfl, Bl.call BQ.out hb⟩
end Go.Proofs.Ytleeomiocofgiaa
