/- Contract of awake: the fixed answer is true. -/
import Derived.Test.YtholhmdmpomabaaPartI
namespace Go.Proofs.Ytholhmdmpomabaa
open Go.RowKit Pt
set_option linter.unusedVariables false

theorem same_is {v v' : Value} {n n' B B' : Nat} {p q : List Int} {w : World} (b : Bool) (h : sameB p q = b) (hs : Sl w B 1 v n (ints p)) (hs' : Sl w B' 1 v' n' (ints q)) :
    Calls Try.prog 11 #[v, v'] w fun e w' => e = .returned (.bool b) ∧ Qt w w' := by
  rw [← h]; exact same_any v v' n n' B B' p q w hs hs'
theorem many_is {v : Value} {n B : Nat} {p : List Int} {w : World} (k : Int) (h : (manyZ p : Int) = k) (hs : Sl w B 1 v n (ints p)) :
    Calls Try.prog 14 #[v] w fun e w' => e = .returned (.int .i64 k) ∧ w = w' := by
  rw [← h]; exact many_any v n B p w hs
/-- part.Of of edges that may be. -/
theorem of_ok {n : Nat} (hn : n ≤ 1024) {v : Value} {m B : Nat} {l : List Ed} {w : World} (hs : Sl w B 3 v m (eds l)) (hB : B ≤ w.heap.size) (hm : mayB n l = true) :
    Calls Try.prog 10 #[.int .i64 n, v] w fun e w' => ∃ v', e = .returned (.tuple #[v', .int .i64 0]) ∧ Sl w' w'.heap.size 1 v' n (ints (partOf n (uv l))) ∧ Below w.heap.size w w' :=
  (of_any n hn v m B l w hs hB).mono fun e w' ⟨hb, h⟩ => by
    rcases h with ⟨_, v', he, ho⟩ | ⟨h, _⟩
    · exact ⟨v', he, Sl.of_own ho, hb⟩
    · rw [hm] at h; cases h
theorem of_no {n : Nat} (hn : n ≤ 1024) {v : Value} {m B : Nat} {l : List Ed} {w : World} (hs : Sl w B 3 v m (eds l)) (hB : B ≤ w.heap.size) (hm : mayB n l = false) :
    Calls Try.prog 10 #[.int .i64 n, v] w fun e w' => e = .returned (.tuple #[.slice none 0 0, .int .i64 1]) ∧ Below w.heap.size w w' :=
  (of_any n hn v m B l w hs hB).mono fun e w' ⟨hb, h⟩ => by
    rcases h with ⟨h, _⟩ | ⟨_, he⟩
    · rw [hm] at h; cases h
    · exact ⟨he, hb⟩
/-- part.Of of a number that is too great or too small. -/
theorem of_out {n : Int} (hn : n < 0 ∨ 1024 < n) (v : Value) (w : World) :
    Calls Try.prog 10 #[.int .i64 n, v] w fun e w' => e = .returned (.tuple #[.slice none 0 0, .int .i64 1]) ∧ w = w' := by
  rcases hn with hn | hn
  · go_enter Try.func10, Try.ntmps10
    go_wp2
    go_ret2
    exact ⟨rfl, rfl⟩
  · have h0 : 0 ≤ n := by omega
    go_enter Try.func10, Try.ntmps10
    go_wp2
    go_ret2
    exact ⟨rfl, rfl⟩

end Go.Proofs.Ytholhmdmpomabaa
