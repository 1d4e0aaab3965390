/- Contracts of verts.Right, verts.Find. -/
import Derived.Test.YtcbedngimgkcoaaVerC
namespace Go.Proofs.Ytcbedngimgkcoaa
open Go.RowKit
set_option linter.unusedVariables false
set_option linter.unusedSimpArgs false
theorem kd_len {l : List (Bool × Int)} : ((kd l).getD []).length ≤ 100000 := by
  unfold kd
  split
  · rename_i h
    rcases Vt.keyed_cases l with ⟨d, h1, h2, _⟩ | ⟨h1, _⟩
    · rw [h1]; have := h2.2.1; simp; omega
    · rw [h1]; simp
  · simp
theorem vright_is {v : Value} {n : Nat} {l : List (Bool × Int)} {w : World} (hl : Sl w w.heap.size 2 v n (sls l)) (b : Bool) (hb : (kd l).isSome = b) :
    Calls Try.prog 18 #[v] w fun e w' => e = .returned (.bool b) ∧ Below w.heap.size w w' := by
  have HL := hid hl
  have HB := hid hb
  clear hl hb
  go_enter Try.func18, Try.ntmps18
  go_wp2_with fail
  refine (keyed_any HL.out).mono ?_; rintro e w1 ⟨pt, rfl, i1, b1⟩
  rw [HB.out]
  have BB := hid (Bl.new b1 (.cells #[.pointer pt] 60))
  clear i1 b1
  go_wp2
  go_ret
  exact ⟨rfl, BB.out⟩
/-- The vertex of a key. -/
def fdP (l : List (Bool × Int)) (k : Int) : Option Int := (kd l).bind fun d => Dc.get d k
theorem vfind_is {v : Value} {n : Nat} {l : List (Bool × Int)} {k : Int} {w : World} (hl : Sl w w.heap.size 2 v n (sls l)) (z : Int) (b : Bool) (hz : (fdP l k).getD 0 = z) (hb : (fdP l k).isSome = b) :
    Calls Try.prog 16 #[v, .int .u64 k] w fun e w' => e = .returned (.tuple #[.int .i64 z, .bool b]) ∧ Below w.heap.size w w' := by
  have HL := hid hl
  have HLen := hid (kd_len (l := l))
  clear hl
  cases hk : kd l with
  | none =>
    have hz' : z = 0 := by rw [← hz]; unfold fdP; rw [hk]; rfl
    have hb' : b = false := by rw [← hb]; unfold fdP; rw [hk]; rfl
    subst hz' hb'
    have HK := hid hk
    clear hk hz hb
    go_enter Try.func16, Try.ntmps16
    go_wp2_with fail
    refine (keyed_any HL.out).mono ?_; rintro e w1 ⟨pt, rfl, i1, b1⟩
    rw [HK.out]
    have BB := hid (Bl.new b1 (.cells #[.pointer pt] 60))
    clear i1 b1
    go_wp2
    go_ret2
    exact ⟨rfl, BB.out⟩
  | some d =>
    have hz' : (Dc.get d k).getD 0 = z := by rw [← hz]; unfold fdP; rw [hk]; rfl
    have hb' : (Dc.get d k).isSome = b := by rw [← hb]; unfold fdP; rw [hk]; rfl
    have HK := hid hk
    have HZ := hid (And.intro hz' hb')
    clear hk hz hb hz' hb'
    go_enter Try.func16, Try.ntmps16
    go_wp2_with fail
    refine (keyed_any HL.out).mono ?_; rintro e w1 ⟨pt, rfl, i1, b1⟩
    rw [HK.out]
    have BB2 := hid (Bl.new b1 (.cells #[.pointer pt] 60))
    have I2 : Hid (IsD (w1.alloc (.cells #[.pointer pt] 60)) pt d) := hid (by rw [HK.out] at i1; exact i1.new _)
    have HLd : Hid (d.length ≤ 100000) := hid (by have := HLen.out; rw [HK.out] at this; exact this)
    clear i1 b1
    go_wp2_with fail
    refine (get_any (k := k) I2.out HLd.out).mono ?_; rintro e w2 ⟨rfl, b2⟩
    rw [HZ.out.1, HZ.out.2]
    have BB3 := hid (Bl.call BB2.out b2)
    clear b2
    go_wp2
    go_ret2
    exact ⟨rfl, BB3.out⟩
end Go.Proofs.Ytcbedngimgkcoaa
