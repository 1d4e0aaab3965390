/- Contract of seq.List. -/
import Derived.Test.YtleeomiocofgiaaSeqG
namespace Go.Proofs.Ytleeomiocofgiaa
open Go.RowKit Sq
set_option linter.unusedVariables false

/-- make([]int, 0, n) -/
theorem run_make_room (n : Nat) (h : n ≤ 1000000) (w : World) :
    (Instr.makeSlice 22 (.int .i64 0) (.int .i64 (n : Int))).run Try.prog w = .ok (.slice (some ⟨w.heap.size, 0, none⟩) 0 n) (w.alloc (.cells (ints (List.replicate n 0)).toArray 3)) := by
  obtain ⟨hu, ⟨i, hi, hz, hsz, hby⟩, hzs, h0, h0b⟩ := Tints
  have hr := run_make (P := Try.prog) w 22 3 i (.int .i64 0) hu hi hz .i64 .i64 0 n (by omega) (by omega) (by rw [hby]; omega) (by omega)
  rw [hr, hsz]
  have e : madeCells (Value.int IntKind.i64 0).cells ((n : Int).toNat * 1) = (ints (List.replicate n 0)).toArray := by
    have := toList_madeCells_one (.int .i64 0) n
    simp only [Int.toNat_natCast, Nat.mul_one, ints, List.map_replicate]
    rw [← this]
    rfl
  rw [e]
  simp
theorem own_room (w : World) (n : Nat) (h : n ≤ 1000000) : (w.alloc (.cells (ints (List.replicate n 0)).toArray 3)).ownsRow w.heap.size 3 1 (.slice (some ⟨w.heap.size, 0, none⟩) 0 n) 0 (ints []) :=
  ⟨rfl, .inr ⟨w.heap.size, n, _, rfl, Nat.le_refl _, Blk.new w 3 (ints (List.replicate n 0)), Nat.zero_le _, by unfold maxLen; omega, by simp [ints], by simp [ints]⟩⟩

def LiPost (w : World) (t : Tr Int) (e : Ending) (w' : World) : Prop := ∃ v, e = .returned v ∧ Sl w' w'.heap.size 1 v (sz t) (ints (ls t)) ∧ Below w.heap.size w w'
theorem list_any {t : Tr Int} {pt : Option Addr} {w : World} (ht : IsTr w w.heap.size pt t) (hle : sz t ≤ 1000000) :
    Calls Try.prog 11 #[.pointer pt] w (LiPost w t) := by
  have HT := hid ht
  have hm := run_make_room (sz t) hle w
  have HT2 := hid (ht.alloc (Nat.le_refl _) (.cells (ints (List.replicate (sz t) 0)).toArray 3))
  have HO := own_room w (sz t) hle
  have hz : w.heap.size ≤ (w.alloc (.cells (ints (List.replicate (sz t) 0)).toArray 3)).heap.size := by simp
  have hb0 := hid (bel_new w (.cells (ints (List.replicate (sz t) 0)).toArray 3))
  have HA := hid (appended_any HO hz HT2.out (by omega))
  clear ht HO
  generalize w.alloc (.cells (ints (List.replicate (sz t) 0)).toArray 3) = w2 at *
  go_enter Try.func11, Try.ntmps11
  go_wp2_with fail
  refine (len_any HT.out).mono ?_; rintro e w' ⟨rfl, rfl⟩
  go_wp2_with fail
  refine HA.out.mono ?_; rintro e w3 ⟨v3, rfl, hO3, hG3, hB3⟩
  go_wp2
  go_ret
  refine ⟨_, rfl, ?_, hb0.out.trans hB3⟩
  have := Sl.of_own hO3
  simpa using this
end Go.Proofs.Ytleeomiocofgiaa
