/- Contracts of part.place and part.root. -/
import Derived.Test.YtholhmdmpomabaaPartPlain
import Derived.Test.YtholhmdmpomabaaBase
namespace Go.Proofs.Ytholhmdmpomabaa
open Go.RowKit Pt
set_option linter.unusedVariables false

theorem place_any (n v : Int) (w : World) :
    Calls Try.prog 21 #[.int .i64 n, .int .i64 v] w fun e w' => e = .returned (.bool (placeB n v)) ∧ w = w' := by
  by_cases h1 : 0 ≤ v
  · go_enter Try.func21, Try.ntmps21
    go_wp2
    go_ret
    exact ⟨ret_bool (by simp [placeB, h1]), rfl⟩
  · go_enter Try.func21, Try.ntmps21
    go_wp2
    go_ret
    exact ⟨ret_bool (by simp [placeB]; omega), rfl⟩

theorem place_is {n v : Int} (b : Bool) (h : placeB n v = b) (w : World) :
    Calls Try.prog 21 #[.int .i64 n, .int .i64 v] w fun e w' => e = .returned (.bool b) ∧ w = w' := by
  rw [← h]; exact place_any n v w

/-- What root leaves: the row k of the ways, which still lead to what P says. -/
def Rooted (k : Nat) (P : List Int) (v : Int) (w : World) (e : Ending) (w' : World) : Prop :=
  e = .returned (.int .i64 (g P v)) ∧ ∃ zs, Blk w' k 3 (ints zs) ∧ Uf zs P ∧ Only k w w'
def RootRel (k : Nat) (P : List Int) (v0 : Int) (w : World) (v : Value) (wr : World) : Prop :=
  ∃ (x : Int) (zs : List Int), v = .int .i64 x ∧ InR P.length x ∧ g P x = g P v0 ∧ Blk wr k 3 (ints zs) ∧ Uf zs P ∧ Only k w wr

theorem root_any (k n : Nat) (zs P : List Int) (v : Int) (w : World) (hn : zs.length = n) (hm : n ≤ maxLen) (hb : Blk w k 3 (ints zs)) (hu : Uf zs P) (hv : InR P.length v) :
    Calls Try.prog 22 #[.slice (some ⟨k, 0, none⟩) n n, .int .i64 v] w (Rooted k P v w) := by
  unfold maxLen at hm
  have HN := hid hn
  clear hn
  go_enter Try.func22, Try.ntmps22
  go_wp2
  go_loopw [1] (fun x wr => RootRel k P v w x wr) (fun x _ => (intOf x).toNat)
  case atStart => exact ⟨v, zs, rfl, hv, rfl, hb, hu, Only.refl _ _⟩
  case round =>
    obtain ⟨x, ys, rfl, hx, hg, hb', hu', ho⟩ := hrel
    have hl : ys.length = n := by rw [hu'.1, ← hu.1]; exact HN.out
    have hy := hu'.inr hx
    have hx1 := hu'.2 x hx
    have hy1 := hu'.2 _ hy
    have c1 : wr.cell? ⟨k, x.toNat, none⟩ = some (.int .i64 (g ys x)) := by
      rw [hb'.cell, ints_at _ _ (by rw [hu'.1]; unfold InR at hx; omega)]; rfl
    have c2 : wr.cell? ⟨k, (g ys x).toNat, none⟩ = some (.int .i64 (g ys (g ys x))) := by
      rw [hb'.cell, ints_at _ _ (by rw [hu'.1]; unfold InR at hy; omega)]; rfl
    have f1 := hb'.frozen x.toNat
    have b1 : 0 ≤ x := hx.1
    have b2 : x < n := by have := hx.2; rw [← hu'.1, hl] at this; exact this
    have b3 : 0 ≤ g ys x := hy.1
    have b4 : g ys x ≤ x := hx1.2.1
    have HP := hid (And.intro hg hx1)
    have HY := hid (And.intro hy hy1)
    have HU := hid hu'
    clear hg hx1 hy1 hu' hy
    by_cases he : g ys x = x
    · have HE := hid he
      have e1 : (g ys x != x) = false := by simp [he]
      clear he c2
      go_wp2
      go_ret
      have h1 := HP.out
      exact ⟨ret_int (by rw [← h1.1, h1.2.2.2.2 HE.out]), ys, hb', HU.out, ho⟩
    · have e1 : (g ys x != x) = true := by simp [he]
      go_wp2
      go_roundw
      case rel =>
        have h1 := HP.out
        have h2 := HY.out
        refine ⟨_, ys.set x.toNat (g ys (g ys x)), rfl, HU.out.inr h2.1, ?_, ?_, HU.out.short hx, ho.put _ _⟩
        · rw [h2.2.2.2.1, h1.2.2.2.1, h1.1]
        · rw [← ints_set]; exact hb'.put _ _
      case measure =>
        have h1 := HP.out
        have h2 := HY.out
        simp [intOf]; omega
end Go.Proofs.Ytholhmdmpomabaa
