/- The walk of the law PartSizes. -/
import Derived.Test.YtkhgjffhelofdaaPartN
import Derived.Test.YtkhgjffhelofdaaPartLaws4
namespace Go.Proofs.Ytkhgjffhelofdaa
open Go.RowKit Pt
set_option linter.unusedVariables false

theorem Only.keeps {k : Nat} {w w' : World} (h : Only k w w') {b o : Nat} {v : Value} (hne : b ≠ k) (hc : w.cell? ⟨b, o, none⟩ = some v) : w'.cell? ⟨b, o, none⟩ = some v :=
  World.grownBy.cell h hc (fun e => hne (by injection e))

set_option maxRecDepth 100000 in
set_option maxHeartbeats 4000000 in
theorem sizes_out (v1 v2 v3 : Value) (n1 n2 n3 : Nat) (p q r : List Int) (w : World) (hs1 : Sl w w.heap.size 1 v1 n1 (ints p)) (hs2 : Sl w w.heap.size 1 v2 n2 (ints q)) (hs3 : Sl w w.heap.size 1 v3 n3 (ints r))
    (h : 60 < p.length ∨ 60 < q.length ∨ 60 < r.length ∨ rightB p = false ∨ rightB q = false ∨ rightB r = false) :
    Calls Try.prog 5 #[v1, v2, v3] w (IsTrue w) := by
  have HS1 := hid hs1
  have HS2 := hid hs2
  have HS3 := hid hs3
  obtain ⟨hn, A1, c1, rfl, _, _, _⟩ := sl_ints_open hs1
  subst hn
  obtain ⟨hn, A2, c2, rfl, _, _, _⟩ := sl_ints_open hs2
  subst hn
  obtain ⟨hn, A3, c3, rfl, _, _, _⟩ := sl_ints_open hs3
  subst hn
  clear hs1 hs2 hs3
  have H := hid h
  clear h
  by_cases q1 : 60 < p.length
  · have i1 : (60 : Int) < (p.length : Int) := by omega
    go_enter Try.func5, Try.ntmps5
    go_wp2_with fail
    refine (awake_any _).mono ?_; rintro e w' ⟨rfl, hb⟩
    go_wp2
    go_ret
    exact ⟨rfl, hb⟩
  have i1 : ¬ (60 : Int) < (p.length : Int) := by omega
  by_cases q2 : 60 < q.length
  · have i2 : (60 : Int) < (q.length : Int) := by omega
    go_enter Try.func5, Try.ntmps5
    go_wp2_with fail
    refine (awake_any _).mono ?_; rintro e w' ⟨rfl, hb⟩
    go_wp2
    go_ret
    exact ⟨rfl, hb⟩
  have i2 : ¬ (60 : Int) < (q.length : Int) := by omega
  by_cases q3 : 60 < r.length
  · have i3 : (60 : Int) < (r.length : Int) := by omega
    go_enter Try.func5, Try.ntmps5
    go_wp2_with fail
    refine (awake_any _).mono ?_; rintro e w' ⟨rfl, hb⟩
    go_wp2
    go_ret
    exact ⟨rfl, hb⟩
  have i3 : ¬ (60 : Int) < (r.length : Int) := by omega
  cases hr1 : rightB p
  · have HR1 := hid hr1
    clear hr1
    go_enter Try.func5, Try.ntmps5
    go_wp2_with fail
    refine (right_is false HR1.out HS1.out).mono ?_; rintro e w' ⟨rfl, rfl⟩
    go_wp2_with fail
    refine (awake_any _).mono ?_; rintro e w' ⟨rfl, hb⟩
    go_wp2
    go_ret
    exact ⟨rfl, hb⟩
  have HR1 := hid hr1
  clear hr1
  cases hr2 : rightB q
  · have HR2 := hid hr2
    clear hr2
    go_enter Try.func5, Try.ntmps5
    go_wp2_with fail
    refine (right_is true HR1.out HS1.out).mono ?_; rintro e w' ⟨rfl, rfl⟩
    go_wp2_with fail
    refine (right_is false HR2.out HS2.out).mono ?_; rintro e w' ⟨rfl, rfl⟩
    go_wp2_with fail
    refine (awake_any _).mono ?_; rintro e w' ⟨rfl, hb⟩
    go_wp2
    go_ret
    exact ⟨rfl, hb⟩
  have HR2 := hid hr2
  clear hr2
  have HR3 : Hid (rightB r = false) := by
    have := H.out
    rw [HR1.out, HR2.out] at this
    unfold Hid
    simpa [q1, q2, q3] using this
  clear H
  go_enter Try.func5, Try.ntmps5
  go_wp2_with fail
  refine (right_is true HR1.out HS1.out).mono ?_; rintro e w' ⟨rfl, rfl⟩
  go_wp2_with fail
  refine (right_is true HR2.out HS2.out).mono ?_; rintro e w' ⟨rfl, rfl⟩
  go_wp2_with fail
  refine (right_is false HR3.out HS3.out).mono ?_; rintro e w' ⟨rfl, rfl⟩
  go_wp2_with fail
  refine (awake_any _).mono ?_; rintro e w' ⟨rfl, hb⟩
  go_wp2
  go_ret
  exact ⟨rfl, hb⟩
end Go.Proofs.Ytkhgjffhelofdaa
