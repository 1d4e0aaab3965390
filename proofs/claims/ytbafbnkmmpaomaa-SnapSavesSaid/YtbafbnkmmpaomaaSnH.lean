/- Bytes as a text; what a state's bytes need. -/
import Derived.Test.YtbafbnkmmpaomaaSnG
import Derived.Test.YtbafbnkmmpaomaaMgA
namespace Go.Proofs.Ytbafbnkmmpaomaa
open Go.RowKit
set_option linter.unusedVariables false
set_option linter.unusedSimpArgs false
theorem Grw.ne {w w' : World} {v v' : Value} {K : Nat} (h : Grw w w' v v') (hk : K < w.heap.size) (hne : some K ≠ v.ownBlock) : some K ≠ v'.ownBlock := by
  rcases h.2 with h2 | h2
  · rw [h2]; exact hne
  · intro e
    have := h2 K e.symm
    omega
theorem own_cast {w : World} {base n n' : Nat} {v : Value} {l l' : Sn.By} (h : w.ownsRow base 5 1 v n (bys l)) (hn : n = n') (hl : l = l') : w.ownsRow base 5 1 v n' (bys l') := by subst hn hl; exact h
theorem nums_str (l : Sn.By) : strOfNums (l.map fun b : UInt8 => (b.toNat : Int)) = str l := by
  unfold strOfNums str
  congr 2
  rw [List.map_map]
  conv => rhs; rw [← List.map_id l]
  apply List.map_congr_left
  intro a _
  simp
theorem conv_own {w : World} {base n : Nat} {v : Value} {l : Sn.By} (h : w.ownsRow base 5 1 v n (bys l)) (hp : 0 < n) : (convert 50 9 v).run Try.prog w = .ok (.string (str l)) w := by
  obtain ⟨g, cap, rfl, -, -⟩ := own_form h hp
  have hl : l.length = n := by have := h.1; rw [len_bys] at this; omega
  rw [← nums_str]
  refine run_convert_bytes_arg w 50 5 Try.underlying50 (by kernel_rfl) g 0 n cap _ (by simp [hl]) (fun i hi => ?_) 9 (by kernel_rfl)
  rw [Nat.zero_add, h.cellAt i (by omega)]
  have : i < l.length := by omega
  simp [bys, List.getD, this]
theorem flat_take {α : Type} (f : α → Sn.By) (l : List α) {i : Nat} (h : i < l.length) : (l.take (i + 1)).flatMap f = (l.take i).flatMap f ++ f l[i] := by
  rw [List.take_succ_eq_append_getElem h, List.flatMap_append]
  simp
def SRS (s : Sn.St) : Prop := SR s.N s.L s.R s.hs s.es s.ss
/-- Numbers that a machine holds. -/
def Wide (s : Sn.St) : Prop := (∀ h ∈ s.hs, 0 ≤ h.1 ∧ 0 ≤ h.2) ∧ ∀ x ∈ s.ss, 0 ≤ x.2 ∧ x.2 ≤ 18446744073709551615
theorem ok_srs {s : Sn.St} (h : SRS s) (hw : Wide s) (hn : s.es.length ≤ 100000) : Sn.Ok s := by
  obtain ⟨⟨⟨n0, n1, l0, l1, r0, r1⟩, hl, hh, ht, htr, -⟩, hv, hs, hu⟩ := h
  refine ⟨by omega, n1, by omega, l1, by omega, r1, hl, hs, by omega, fun i hi => ?_, fun i hi => ?_, fun i hi => ?_⟩
  · have h1 := hh i hi hi
    have h2 := hw.1 _ (List.getElem_mem hi)
    exact ⟨⟨h2.1, by omega⟩, h2.2, by omega⟩
  · have h2 := hw.2 _ (List.getElem_mem hi)
    exact ⟨h2.1, by omega⟩
  · obtain ⟨o1, o2, o3, o4, o5⟩ := (ht.2 i hi hi).1
    exact ⟨⟨o1, by omega⟩, ⟨by omega, by omega⟩, o4, by omega⟩
end Go.Proofs.Ytbafbnkmmpaomaa
