/- Contract of awake: the fixed answer is true. -/
import Derived.Test.YtkhgjffhelofdaaPartI
namespace Go.Proofs.Ytkhgjffhelofdaa
open Go.RowKit Pt
set_option linter.unusedVariables false

theorem same_is {v v' : Value} {n n' B B' : Nat} {p q : List Int} {w : World} (b : Bool) (h : sameB p q = b) (hs : Sl w B 1 v n (ints p)) (hs' : Sl w B' 1 v' n' (ints q)) :
    Calls Try.prog 12 #[v, v'] w fun e w' => e = .returned (.bool b) ∧ Qt w w' := by
  rw [← h]; exact same_any v v' n n' B B' p q w hs hs'
theorem refines_is {v v' : Value} {n n' B B' : Nat} {p q : List Int} {w : World} (b : Bool) (h : refinesB p q = b) (hs : Sl w B 1 v n (ints p)) (hs' : Sl w B' 1 v' n' (ints q)) :
    Calls Try.prog 15 #[v, v'] w fun e w' => e = .returned (.bool b) ∧ Qt w w' := by
  rw [← h]; exact refines_any v v' n n' B B' p q w hs hs'
theorem may_is {v : Value} {m B : Nat} {n : Int} {l : List Ed} {w : World} (b : Bool) (h : mayB n l = b) (hs : Sl w B 3 v m (eds l)) :
    Calls Try.prog 11 #[.int .i64 n, v] w fun e w' => e = .returned (.bool b) ∧ w = w' := by
  rw [← h]; exact may_any v m B n l w hs
theorem many_is {v : Value} {n B : Nat} {p : List Int} {w : World} (k : Int) (h : (manyZ p : Int) = k) (hs : Sl w B 1 v n (ints p)) :
    Calls Try.prog 17 #[v] w fun e w' => e = .returned (.int .i64 k) ∧ w = w' := by
  rw [← h]; exact many_any v n B p w hs
/-- part.Of of edges that may be. -/
theorem of_ok {n : Nat} (hn : n ≤ 1024) {v : Value} {m B : Nat} {l : List Ed} {w : World} (hs : Sl w B 3 v m (eds l)) (hB : B ≤ w.heap.size) (hm : mayB n l = true) :
    Calls Try.prog 10 #[.int .i64 n, v] w fun e w' => ∃ v', e = .returned (.tuple #[v', .int .i64 0]) ∧ Sl w' w'.heap.size 1 v' n (ints (partOf n (uv l))) ∧ Below w.heap.size w w' :=
  (of_any n hn v m B l w hs hB).mono fun e w' ⟨hb, h⟩ => by
    rcases h with ⟨_, v', he, ho⟩ | ⟨h, _⟩
    · exact ⟨v', he, Sl.of_own ho, hb⟩
    · rw [hm] at h; cases h
theorem of_no {n : Nat} (hn : n ≤ 1024) {v : Value} {m B : Nat} {l : List Ed} {w : World} (hs : Sl w B 3 v m (eds l)) (hB : B ≤ w.heap.size) (hm : mayB n l = false) :
    Calls Try.prog 10 #[.int .i64 n, v] w fun e w' => e = .returned (.tuple #[.slice none 0 0, .int .i64 1]) ∧ Below w.heap.size w w' :=
  (of_any n hn v m B l w hs hB).mono fun e w' ⟨hb, h⟩ => by
    rcases h with ⟨h, _⟩ | ⟨_, he⟩
    · rw [hm] at h; cases h
    · exact ⟨he, hb⟩
/-- part.Of of a number that is too great or too small. -/
theorem of_out {n : Int} (hn : n < 0 ∨ 1024 < n) (v : Value) (w : World) :
    Calls Try.prog 10 #[.int .i64 n, v] w fun e w' => e = .returned (.tuple #[.slice none 0 0, .int .i64 1]) ∧ w = w' := by
  rcases hn with hn | hn
  · go_enter Try.func10, Try.ntmps10
    go_wp2
    go_ret2
    exact ⟨rfl, rfl⟩
  · have h0 : 0 ≤ n := by omega
    go_enter Try.func10, Try.ntmps10
    go_wp2
    go_ret2
    exact ⟨rfl, rfl⟩

set_option maxRecDepth 100000 in
set_option maxHeartbeats 2000000 in
theorem awake_any (w : World) : Calls Try.prog 9 #[] w (IsTrue w) := by
  go_enter Try.func9, Try.ntmps9
  go_wp2_with fail
  refine (of_ok (n := 4) (by decide) (lit_eds w _ [(0, 2, 0), (2, 3, 0)] (by decide)) (Nat.le_refl _) (by decide)).mono ?_
  rintro e w1 ⟨v1, rfl, hS1, hb1⟩
  have hB1 : Below w.heap.size w w1 := Bl.call (bel_new _ _) hb1
  have hS1' : Sl w1 w1.heap.size 1 v1 4 (ints [0, 1, 0, 0]) := hS1
  clear hb1 hS1
  go_wp2_with fail
  refine (of_no (n := 2) (by decide) (lit_eds w1 _ [(0, 2, 0)] (by decide)) (Nat.le_refl _) (by decide)).mono ?_
  rintro e w2 ⟨rfl, hb2⟩
  have hB2 := Bl.call (Bl.new hB1 _) hb2
  have hS2 := (hS1'.new _).call hb2
  clear hb2 hS1' hB1
  go_wp2_with fail
  refine (same_is true (by decide) (hS2.new _) (lit_ints w2 _ [0, 1, 0, 0] (by decide))).mono ?_
  rintro e w3 ⟨rfl, hq3⟩
  have hB3 := Bl.qt (Bl.new hB2 _) hq3
  have hS3 := (hS2.new _).cqt hq3
  clear hq3 hS2 hB2
  go_wp2_with fail
  refine (many_is 2 (by decide) hS3).mono ?_
  rintro e w' ⟨rfl, rfl⟩
  go_wp2_with fail
  refine (class_any _ _ _ _ _ _ hS3 (Nat.le_refl _) (by omega)).mono ?_
  rintro e w4 ⟨v2, rfl, ho4, hb4⟩
  have hB4 := Bl.call hB3 hb4
  have hS4 := hS3.call hb4
  have hT4 := Sl.of_own ho4
  have hT4' : Sl w4 w4.heap.size 1 v2 3 (ints [0, 2, 3]) := hT4
  clear hb4 ho4 hS3 hB3 hT4
  go_wp2_with fail
  refine (same_is true (by decide) (hT4'.new _) (lit_ints w4 _ [0, 2, 3] (by decide))).mono ?_
  rintro e w5 ⟨rfl, hq5⟩
  have hB5 := Bl.qt (Bl.new hB4 _) hq5
  have hS5 := (hS4.new _).cqt hq5
  clear hq5 hS4 hB4 hT4'
  go_wp2_with fail
  refine (refines_is true (by decide) (lit_ints w5 _ [0, 1, 2, 0] (by decide)) (hS5.new _)).mono ?_
  rintro e w6 ⟨rfl, hq6⟩
  have hB6 := Bl.qt (Bl.new hB5 _) hq6
  have hS6 := (hS5.new _).cqt hq6
  clear hq6 hS5 hB5
  go_wp2_with fail
  refine (refines_is false (by decide) (hS6.new _) (lit_ints w6 _ [0, 1, 2, 0] (by decide))).mono ?_
  rintro e w7 ⟨rfl, hq7⟩
  have hB7 := Bl.qt (Bl.new hB6 _) hq7
  have hS7 := (hS6.new _).cqt hq7
  clear hq7 hS6 hB6
  go_wp2_with fail
  refine (join_any _ _ _ _ _ _ _ hS7 (Nat.le_refl _) (by omega)).mono ?_
  rintro e w8 ⟨v3, rfl, hT8, hb8⟩
  have hB8 := Bl.call hB7 hb8
  have hT8' : Sl w8 w8.heap.size 1 v3 4 (ints [0, 0, 0, 0]) := hT8
  clear hb8 hT8 hS7 hB7
  go_wp2_with fail
  refine (same_is true (by decide) (hT8'.new _) (lit_ints w8 _ [0, 0, 0, 0] (by decide))).mono ?_
  rintro e w9 ⟨rfl, hq9⟩
  have hB9 := Bl.qt (Bl.new hB8 _) hq9
  clear hq9 hT8' hB8
  go_wp2_with fail
  refine (right_is false (by decide) (lit_ints w9 _ [1] (by decide))).mono ?_
  rintro e w' ⟨rfl, rfl⟩
  go_wp2
  go_ret
  exact ⟨rfl, Bl.new hB9 _⟩
end Go.Proofs.Ytkhgjffhelofdaa
