/- Keys put in another order. -/
import Derived.Test.YtkkhghipbnpiaaaDicK
import Derived.Test.YtkkhghipbnpiaaaDicH
namespace Go.Proofs.Ytkkhghipbnpiaaa
open Go.RowKit Sq
set_option linter.unusedVariables false

theorem Blk.thru {w a b : World} {k : Nat} {T : TypeId} {cs : List Value} (h : Blk w k T cs) (hq : Qt w a) (hb : Below a.heap.size a b) : Blk b k T cs := by
  have h2 : Blk a k T cs := by obtain ⟨j, rfl⟩ := hq; exact h
  exact h2.below hb h2.lt
def DistU (ks : List Int) (j : Nat) : Prop := ∀ p q, p < q → q < j → ks.getD p 0 ≠ ks.getD q 0
theorem distU_succ {ks : List Int} {j : Nat} (h : DistU ks j) (h2 : ∀ p, p < j → ks.getD p 0 ≠ ks.getD j 0) : DistU ks (j + 1) := by
  intro p q hpq hq
  rcases Nat.lt_or_ge q j with h3 | h3
  · exact h p q hpq h3
  · have : q = j := by omega
    subst this
    exact h2 p hpq
theorem distU_inj {ks : List Int} {n : Nat} (h : DistU ks n) : ∀ i j, i < n → j < n → ks.getD i 0 = ks.getD j 0 → i = j := by
  intro i j hi hj he
  rcases Nat.lt_trichotomy i j with h1 | h1 | h1
  · exact absurd he (h i j h1 hj)
  · exact h1
  · exact absurd he.symm (h j i h1 hi)
def pks2 (ks : List Int) (n by_ j : Nat) : List (Int × Int) := Dc.putAll (fun i => ks.getD i 0) ((List.range j).map (Dc.turn n by_))
theorem pks2_succ (ks : List Int) (n by_ j : Nat) : pks2 ks n by_ (j + 1) = Dc.put (pks2 ks n by_ j) (ks.getD (Dc.turn n by_ j) 0) (Dc.turn n by_ j : Int) := by
  unfold pks2; rw [List.range_succ, List.map_append, List.map_cons, List.map_nil, Dc.putAll_snoc]
theorem len_pks2 (ks : List Int) (n by_ j : Nat) : (pks2 ks n by_ j).length ≤ j := by
  induction j with
  | zero => exact Nat.le_refl _
  | succ j ih => rw [pks2_succ]; have := Dc.len_put_le (Dc.srt_putAll (fun i => ks.getD i 0) ((List.range j).map (Dc.turn n by_))) (ks.getD (Dc.turn n by_ j) 0) (Dc.turn n by_ j : Int); unfold pks2 at *; omega
theorem pks_same {ks : List Int} {n : Nat} (by_ : Nat) (h : DistU ks n) : pks2 ks n by_ n = pks ks n := (Dc.order_same (fun i => ks.getD i 0) n by_ (distU_inj h)).symm
theorem pks_len {ks : List Int} {n : Nat} (h : DistU ks n) : (pks ks n).length = n := Dc.len_putAll (fun i => ks.getD i 0) n (distU_inj h) n (Nat.le_refl _)
theorem rsame_n {v v' : Value} {p : List (Int × Int)} {n : Nat} {w : World} (hs : Sl w w.heap.size 2 v n (prs p)) (hs' : Sl w w.heap.size 2 v' n (prs p)) :
    Calls Try.prog 14 #[v, v'] w fun e w' => e = .returned (.bool true) ∧ Qt w w' := rsame_is _ _ _ _ _ _ _ _ _ true (by simp) hs hs'
end Go.Proofs.Ytkkhghipbnpiaaa
