/- Contract of seq.List. -/
import Derived.Test.YtcbedngimgkcoaaPsG
namespace Go.Proofs.Ytcbedngimgkcoaa
open Go.RowKit Sq
set_option linter.unusedVariables false
attribute [local go_sem ↓] Go.wp_at_zero Go.wp_at_succ

/-- make([]Pair, 0, n) -/
theorem run_make_room (n : Nat) (h : n ≤ 1000000) (w : World) : ∃ X : Array Value, X.size = n * 2 ∧
    (Instr.makeSlice 68 (.int .i64 0) (.int .i64 (n : Int))).run Try.prog w = .ok (.slice (some ⟨w.heap.size, 0, none⟩) 0 n) (w.alloc (.cells X 71)) := by
  obtain ⟨hu, ⟨i, hi, hz, hsz, hby⟩, hzs, h0, h0b⟩ := Tprs
  have hr := run_make (P := Try.prog) w 68 71 i (.agg #[.int .u64 0, .int .i64 0]) hu hi hz .i64 .i64 0 n (by omega) (by omega) (by rw [hby]; omega) (by omega)
  rw [hsz] at hr
  refine ⟨madeCells (Value.agg #[Value.int IntKind.u64 0, Value.int IntKind.i64 0]).cells ((n : Int).toNat * 2), by rw [size_madeCells]; simp, hr⟩
theorem own_room (w : World) (n : Nat) (X : Array Value) (hX : X.size = n * 2) (h : n ≤ 1000000) : (w.alloc (.cells X 71)).ownsRow w.heap.size 71 2 (.slice (some ⟨w.heap.size, 0, none⟩) 0 n) 0 (prs []) :=
  ⟨rfl, .inr ⟨w.heap.size, n, _, rfl, Nat.le_refl _, Blk.new w 71 X.toList, Nat.zero_le _, by unfold maxLen; omega, by simp [hX], by simp [prs]⟩⟩

def LiPost (w : World) (t : Tr (Int × Int)) (e : Ending) (w' : World) : Prop := ∃ v, e = .returned v ∧ Sl w' w'.heap.size 2 v (sz t) (prs (ls t)) ∧ Below w.heap.size w w'
theorem list_any {t : Tr (Int × Int)} {pt : Option Addr} {w : World} (ht : IsTr w w.heap.size pt t) (hle : sz t ≤ 1000000) :
    Calls Try.prog 35 #[.pointer pt] w (LiPost w t) := by
  have HT := hid ht
  obtain ⟨X, hX, hm⟩ := run_make_room (sz t) hle w
  have HT2 := hid (ht.alloc (Nat.le_refl _) (.cells X 71))
  have HO := own_room w (sz t) X hX hle
  have hz : w.heap.size ≤ (w.alloc (.cells X 71)).heap.size := by simp
  have hb0 := hid (bel_new w (.cells X 71))
  have HA := hid (appended_any HO hz HT2.out (by omega))
  clear hX
  clear ht HO
  generalize w.alloc (.cells X 71) = w2 at *
  go_enter Try.func35, Try.ntmps35
  go_wp2_with fail
  refine (len_any HT.out).mono ?_; rintro e w' ⟨rfl, rfl⟩
  go_wp2_with fail
  refine HA.out.mono ?_; rintro e w3 ⟨v3, rfl, hO3, hG3, hB3⟩
  go_wp2
  go_ret
  refine ⟨_, rfl, ?_, hb0.out.trans hB3⟩
  have := Sl.of_own hO3
  simpa using this
end Go.Proofs.Ytcbedngimgkcoaa
