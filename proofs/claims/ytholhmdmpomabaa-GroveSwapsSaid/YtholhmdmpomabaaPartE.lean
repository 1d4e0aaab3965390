/- Contracts of part.Refines, part.Join, raftsmanref06.Same. -/
import Derived.Test.YtholhmdmpomabaaPartD
namespace Go.Proofs.Ytholhmdmpomabaa
open Go.RowKit Pt
set_option linter.unusedVariables false

def sameB (p q : List Int) : Bool := p == q
theorem same_any (v v' : Value) (n n' B B' : Nat) (p q : List Int) (w : World) (hs : Sl w B 1 v n (ints p)) (hs' : Sl w B' 1 v' n' (ints q)) :
    Calls Try.prog 11 #[v, v'] w fun e w' => e = .returned (.bool (sameB p q)) ∧ Qt w w' := by
  obtain ⟨A, c, rfl, hnc, hcm, hl, hx⟩ := hs
  have hn : p.length = n := by rw [len_ints] at hl; omega
  subst hn
  have hm : p.length ≤ 9223372036854775807 := by unfold maxLen at hcm; omega
  obtain ⟨A', c', rfl, hnc', hcm', hl', hx'⟩ := hs'
  have hn : q.length = n' := by rw [len_ints] at hl'; omega
  subst hn
  have hm' : q.length ≤ 9223372036854775807 := by unfold maxLen at hcm'; omega
  clear hl hcm hl' hcm'
  have HX := hid hx
  have HX' := hid hx'
  clear hx hx'
  by_cases hlen : p.length = q.length
  · have e0 : ((p.length : Int) != (q.length : Int)) = false := by simp [hlen]
    have HL := hid hlen
    have hlen' : p.length ≤ q.length := by omega
    clear hlen
    go_enter Try.func11, Try.ntmps11
    go_wp2
    go_loopw [5] (fun i wr => ∃ k : Nat, k ≤ p.length ∧ i = .int .i64 k ∧ Hid (∀ j, j < k → p.getD j 0 = q.getD j 0) ∧ Qt w wr) (fun i _ => p.length - (intOf i).toNat)
    case atStart => exact ⟨0, Nat.zero_le _, rfl, fun j hj => by omega, Qt.refl _⟩
    case round =>
      obtain ⟨k, hk, rfl, hall, hq⟩ := hrel
      by_cases hlt : k < p.length
      · obtain ⟨b, o, rfl, hb, hc⟩ := HX.out (by omega)
        obtain ⟨b', o', rfl, hb', hc'⟩ := HX'.out (by omega)
        have c1 := (hq.cell ⟨b, o + k, none⟩).trans (ints_cell hc hlt)
        have c2 := (hq.cell ⟨b', o' + k, none⟩).trans (ints_cell hc' (by omega))
        obtain ⟨x, hgx⟩ : ∃ x, x = p.getD k 0 := ⟨_, rfl⟩
        obtain ⟨y, hgy⟩ : ∃ y, y = q.getD k 0 := ⟨_, rfl⟩
        rw [← hgx] at c1
        rw [← hgy] at c2
        have HG := hid (And.intro hgx hgy)
        have i1 : (k : Int) < p.length := by omega
        have i2 : (k : Int) < q.length := by omega
        clear hc hc' hgx hgy
        by_cases he : x = y
        · have e1 : (x != y) = false := by simp [he]
          have HE := hid he
          clear he
          go_wp2_with fail
          go_quiet (fail)
          go_wp2
          go_roundw
          case rel =>
            refine ⟨k + 1, by omega, by go_num, hid fun j hj => ?_, hq.drewN _⟩
            by_cases hjk : j = k
            · subst hjk; rw [← HG.out.1, ← HG.out.2, HE.out]
            · exact hall.out j (by omega)
          case measure => simp [intOf]; omega
        · have e1 : (x != y) = true := by simp [he]
          have HE := hid he
          clear he
          go_wp2_with fail
          go_quiet (fail)
          go_wp2
          go_ret
          refine ⟨ret_bool ?_, hq.drewN _⟩
          unfold sameB
          symm
          rw [beq_eq_false_iff_ne]
          intro h
          have := HG.out
          rw [h] at this
          exact HE.out (this.1.trans this.2.symm)
      · have hkn : k = p.length := by omega
        subst hkn
        go_wp2
        go_ret
        refine ⟨ret_bool ?_, hq⟩
        unfold sameB
        symm
        rw [beq_iff_eq]
        refine List.ext_getElem HL.out fun i h1 h2 => ?_
        have := hall.out i h1
        simpa [List.getD, h1, h2] using this
  · have e0 : ((p.length : Int) != (q.length : Int)) = true := by simp; omega
    have HL := hid hlen
    clear hlen
    go_enter Try.func11, Try.ntmps11
    go_wp2
    go_ret
    refine ⟨ret_bool ?_, Qt.refl _⟩
    unfold sameB
    symm
    rw [beq_eq_false_iff_ne]
    intro h
    exact HL.out (by rw [h])

end Go.Proofs.Ytholhmdmpomabaa
