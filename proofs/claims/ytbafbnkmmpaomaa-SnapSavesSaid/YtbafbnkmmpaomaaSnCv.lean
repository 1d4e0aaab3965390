/- Texts and rows of bytes, to and fro. -/
import Derived.Test.YtbafbnkmmpaomaaSnO
import Derived.Lib.ConvBytes
namespace Go.Proofs.Ytbafbnkmmpaomaa
open Go.RowKit
set_option linter.unusedVariables false
set_option linter.unusedSimpArgs false
attribute [local go_sem ↓] Go.wp_at_zero Go.wp_at_succ
/-- []byte(s): a new row. -/
theorem conv_sb (l : Sn.By) (w : World) : ∃ cap W, (convert 9 50 (.string (str l))).run Try.prog w = .ok (.slice (some ⟨w.heap.size, 0, none⟩) l.length cap) W ∧ W.heap.size = w.heap.size + 1 ∧ Below w.heap.size w W ∧
    (∀ j, (h : j < l.length) → W.cell? ⟨w.heap.size, j, none⟩ = some (.int .u8 (l[j].toNat : Int))) ∧ (∀ j, j < l.length → W.frozen? ⟨w.heap.size, j, none⟩ = false) := by
  refine ⟨grownCap w l.length 0 5, Lib.bytesWorld w 5 (str l), ?_, Lib.bytesWorld_size _ _ _, ?_, fun j h => ?_, fun j h => ?_⟩
  · have h := Lib.run_convert_string_bytes (P := Try.prog) w 9 50 5 (str l) (u := .string) (by kernel_rfl) Try.underlying50 (by kernel_rfl)
    rw [str_size] at h
    exact h
  · refine ⟨?_, ?_, ?_, by rw [Lib.bytesWorld_size]; omega, fun k hk => Lib.bytesWorld_at_old w _ _ k hk⟩
    all_goals simp [Lib.bytesWorld, World.freeze, World.alloc, World.drew, -World.alloc_eq, -World.drew_eq]
  · rw [Lib.bytesWorld_cell _ _ _ _ (by rw [str_size]; exact h)]
    simp [str, List.getD, h]
  · have h2 := Lib.bytesWorld_at_new w 5 (str l)
    have h3 : (Lib.bytesCells w 5 (str l)).size ≥ l.length := by simp [Lib.bytesCells, str]
    simp [World.frozen?, h2]
    omega
/-- string(c) of a row's bytes. -/
theorem conv_bs {l : Sn.By} {w : World} {K n cap : Nat} (hn : l.length = n) (hc : ∀ j, (h : j < l.length) → w.cell? ⟨K, j, none⟩ = some (.int .u8 (l[j].toNat : Int))) :
    (convert 50 9 (.slice (some ⟨K, 0, none⟩) n cap)).run Try.prog w = .ok (.string (str l)) w := by
  subst hn
  exact run_convert_bytes_back w 50 9 5 ⟨K, 0, none⟩ cap l Try.underlying50 (by kernel_rfl) (by kernel_rfl) (fun j hj => by rw [Addr.add_lit, Nat.zero_add]; exact hc j hj)
def isByteV : Option Value → Bool
  | some (.int .u8 _) => true
  | _ => false
def byteV : Option Value → Int
  | some (.int .u8 x) => x
  | _ => 0
theorem isByteV_some (x : Int) : isByteV (some (.int .u8 x)) = true := rfl
theorem byteV_some (x : Int) : byteV (some (.int .u8 x)) = x := rfl
/-- string([]byte{x}). -/
theorem conv_one (w : World) (H c : Nat) (h : isByteV (w.cell? ⟨H, 0, none⟩) = true) : (convert 50 9 (.slice (some ⟨H, 0, none⟩) 1 c)).run Try.prog w = .ok (.string (strOfNums [byteV (w.cell? ⟨H, 0, none⟩)])) w := by
  refine run_convert_bytes_arg w 50 5 Try.underlying50 (by kernel_rfl) H 0 1 c _ rfl (fun i hi => ?_) 9 (by kernel_rfl)
  obtain rfl : i = 0 := by omega
  rcases hx : w.cell? ⟨H, 0, none⟩ with _ | v
  · rw [hx] at h; cases h
  · rw [hx] at h
    unfold isByteV at h
    split at h
    · rename_i x he
      injection he with he
      subst he
      simp [hx, byteV]
    · cases h
theorem str_app (a b : Sn.By) : str a ++ str b = str (a ++ b) := by
  apply ByteArray.ext
  simp [str]
theorem str_of (b : ByteArray) : ∃ l, b = str l ∧ l.length = b.size := by
  refine ⟨b.data.toList, ?_, ?_⟩
  · apply ByteArray.ext; simp [str]
  · exact Array.length_toList
theorem nums_one (x : Int) : strOfNums [x] = str [UInt8.ofNat x.toNat] := rfl
theorem set_cells {l : Sn.By} {w : World} {K i : Nat} {b : UInt8} (hi : i < l.length) (hc : ∀ j, (h : j < l.length) → w.cell? ⟨K, j, none⟩ = some (.int .u8 (l[j].toNat : Int))) :
    ∀ j, (h : j < (l.set i b).length) → (w.setCell ⟨K, i, none⟩ (.int .u8 (b.toNat : Int))).cell? ⟨K, j, none⟩ = some (.int .u8 ((l.set i b)[j].toNat : Int)) := by
  intro j h
  have hj : j < l.length := by simpa using h
  by_cases hij : j = i
  · subst hij
    have h2 : (w.cell? ⟨K, j, none⟩).isSome = true := by rw [hc j hj]; rfl
    simp only [List.getElem_set_self]
    exact World.cell?_setCell_same' w ⟨K, j, none⟩ _ h2
  · rw [List.getElem_set_ne (by omega)]
    rw [← hc j hj]
    exact World.cell?_setCell_other w ⟨K, i, none⟩ ⟨K, j, none⟩ _ (by intro e; injection e with _ e2 _; omega)
end Go.Proofs.Ytbafbnkmmpaomaa
