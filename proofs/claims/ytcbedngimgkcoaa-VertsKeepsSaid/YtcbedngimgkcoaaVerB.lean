/- make of slots; verts.New. -/
import Derived.Test.YtcbedngimgkcoaaVerA
namespace Go.Proofs.Ytcbedngimgkcoaa
open Go.RowKit
set_option linter.unusedVariables false
set_option linter.unusedSimpArgs false
theorem sls_zero (n : Nat) : sls (List.replicate (n + 1) (false, 0)) = [.bool false, .int .u64 0] ++ sls (List.replicate n (false, 0)) := by simp [sls, List.replicate_succ]
theorem len_vnew (n : Nat) : (sls (List.replicate n (false, 0))).length = n * 2 := by rw [len_sls]; simp
theorem made_sls (n : Nat) : madeCells #[.bool false, .int .u64 0] (n * 2) = (sls (List.replicate n (false, 0))).toArray := by
  apply Array.ext
  · simp [madeCells, len_sls]
  · intro i h1 h2
    have hi : i < n * 2 := by simpa [madeCells] using h1
    have e := sls_at (List.replicate n (false, 0)) (i / 2) (by simp; omega)
    rw [List.getElem_replicate] at e
    have h2' : i < (sls (List.replicate n (false, 0))).length := by simpa using h2
    have g : (sls (List.replicate n (false, 0)))[i]? = some ((sls (List.replicate n (false, 0)))[i]) := List.getElem?_eq_getElem h2'
    rcases Nat.mod_two_eq_zero_or_one i with h | h
    · rw [show i / 2 * 2 = i by omega, g] at e
      have := Option.some.inj e.1
      simp [madeCells, h, this]
    · rw [show i / 2 * 2 + 1 = i by omega, g] at e
      have := Option.some.inj e.2
      simp [madeCells, h, this]
theorem run_make_sls (n : Nat) (h : n ≤ 1000000) (w : World) :
    (Instr.makeSlice 22 (.int .i64 (n : Int)) (.int .i64 (n : Int))).run Try.prog w = .ok (.slice (some ⟨w.heap.size, 0, none⟩) n n) (w.alloc (.cells (sls (List.replicate n (false, 0))).toArray 55)) := by
  obtain ⟨hu, ⟨i, hi, hz, hsz, hby⟩, hzs, h0, h0b⟩ := Tsls
  have hr := run_make (P := Try.prog) w 22 55 i (.agg #[.bool false, .int .u64 0]) hu hi hz .i64 .i64 n n (by omega) (by omega) (by rw [hby]; omega) (by omega)
  rw [hr, hsz]
  have e : madeCells (Value.agg #[.bool false, .int .u64 0]).cells ((n : Int).toNat * 2) = (sls (List.replicate n (false, 0))).toArray := by
    rw [← made_sls]
    rfl
  rw [e]
  simp
theorem vnew_no {n : Int} (h : ¬ (1 ≤ n ∧ n ≤ 1024)) (w : World) : Calls Try.prog 23 #[.int .i64 n] w fun e w' => e = .returned (.tuple #[.slice none 0 0, .int .i64 1]) ∧ w = w' := by
  have H := hid h
  clear h
  go_enter Try.func23, Try.ntmps23
  go_wp2_with fail
  refine (vsized_no H.out _).mono ?_; rintro e w' ⟨rfl, rfl⟩
  go_wp2
  exact bodyPost_ret (v := .tuple #[.slice none 0 0, .int .i64 1]) (by simp [results, Try.results23, go_sem]) rfl ⟨rfl, rfl⟩
def VNewPost (n : Nat) (w : World) (e : Ending) (w' : World) : Prop := ∃ v, e = .returned (.tuple #[v, .int .i64 0]) ∧ Sl w' w'.heap.size 2 v n (sls (List.replicate n (false, 0))) ∧ Below w.heap.size w w'
theorem vnew_ok {n : Nat} (h : 1 ≤ n ∧ n ≤ 1024) (w : World) : Calls Try.prog 23 #[.int .i64 (n : Int)] w (VNewPost n w) := by
  have H : Hid (1 ≤ (n : Int) ∧ (n : Int) ≤ 1024) := hid (by omega)
  have hmk := fun w => run_make_sls n (by omega) w
  have hsl : Sl (w.alloc (.cells (sls (List.replicate n (false, 0))).toArray 55)) (w.alloc (.cells (sls (List.replicate n (false, 0))).toArray 55)).heap.size 2 (.slice (some ⟨w.heap.size, 0, none⟩) n n) n (sls (List.replicate n (false, 0))) :=
    (Blk.new w 55 (sls (List.replicate n (false, 0)))).sl (by simp) (Nat.le_refl _) (by unfold maxLen; omega) (len_vnew n)
  have HS := hid hsl
  clear h hsl
  go_enter Try.func23, Try.ntmps23
  go_wp2_with fail
  refine (vsized_yes H.out _).mono ?_; rintro e w' ⟨rfl, rfl⟩
  go_wp2
  exact bodyPost_ret (v := .tuple #[.slice (some ⟨w.heap.size, 0, none⟩) n n, .int .i64 0]) (by simp [results, Try.results23, go_sem]) rfl ⟨_, rfl, HS.out, bel_new _ _⟩
end Go.Proofs.Ytcbedngimgkcoaa
