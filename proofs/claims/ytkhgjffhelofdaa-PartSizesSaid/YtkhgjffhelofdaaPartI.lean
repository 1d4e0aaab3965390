/- Contract of raftsmanref09.Of. -/
import Derived.Test.YtkhgjffhelofdaaPartH
import Derived.Deep.LoopGhost
namespace Go.Proofs.Ytkhgjffhelofdaa
open Go.RowKit Pt
set_option linter.unusedVariables false

def RefRel (n : Nat) (l : List Ed) (v : Value) (W : World) (gk : Nat) (again : Value) (wr : World) : Prop :=
  ∃ (a : Bool) (q : List Int), again = .bool a ∧ wr.ownsRow W.heap.size 3 1 v n (ints q) ∧ Below W.heap.size W wr ∧ LI n (partOf n (uv l)) q ∧ gk = 2 * sumI q + (if a then 1 else 0) ∧ (a = false → ∀ e ∈ uv l, g q e.1 = g q e.2)
def RefIn (n : Nat) (l : List Ed) (v : Value) (W : World) (s0 : Nat) (again i : Value) (wr : World) : Prop :=
  ∃ (a : Bool) (k : Nat) (q : List Int), again = .bool a ∧ i = .int .i64 k ∧ k ≤ l.length ∧ wr.ownsRow W.heap.size 3 1 v n (ints q) ∧ Below W.heap.size W wr ∧ LI n (partOf n (uv l)) q ∧ sumI q ≤ s0 ∧ (a = true → sumI q < s0) ∧
    (a = false → ∀ j (h : j < l.length), j < k → g q l[j].1 = g q l[j].2.1)

set_option maxHeartbeats 1000000 in
theorem refOf_any (n : Nat) (hn : n ≤ 1024) (v : Value) (m B : Nat) (l : List Ed) (w : World) (hs : Sl w B 3 v m (eds l)) (hB : B ≤ w.heap.size) (hmay : mayB n l = true) :
    Calls Try.prog 13 #[.int .i64 n, v] w fun e w' => ∃ v', e = .returned v' ∧ w'.ownsRow w.heap.size 3 1 v' n (ints (partOf n (uv l))) ∧ Below w.heap.size w w' := by
  obtain ⟨A, c, rfl, hnc, hcm, hl, hx⟩ := hs
  have hm : l.length = m := by rw [len_eds] at hl; omega
  subst hm
  have hm : l.length ≤ 9223372036854775807 := by unfold maxLen at hcm; omega
  clear hl hcm
  have HX := hid hx
  have HM := hid ((mayB_iff _ _).1 hmay)
  clear hx hmay
  go_enter Try.func13, Try.ntmps13
  go_wp2
  go_loopw [5, 6] (fun p i wr => ∃ k : Nat, k ≤ n ∧ i = .int .i64 k ∧ wr.ownsRow w.heap.size 3 1 p k (ints (idl k)) ∧ Below w.heap.size w wr) (fun _ i _ => n - (intOf i).toNat)
  case atStart => exact ⟨0, Nat.zero_le _, rfl, World.ownsRow_nil _ _ _ _, Below.refl _ _⟩
  case round =>
    obtain ⟨k, hk, rfl, hown, hbel⟩ := hrel
    have hsz := hbel.size
    by_cases hlt : k < n
    · go_wp2_with (at_builtin; refine wl_app1 rfl _ _ Tints rfl (news := [.int .i64 (k : Int)]) rfl hown rfl rfl (ints_one [(k : Int)]) (by omega) hsz ?_)
      intro v' w' hown' hbel'
      go_wp2
      go_roundw
      case rel => exact ⟨k + 1, by omega, by go_num, by rw [← idl_snoc, ← ints_app]; exact hown', hbel.trans hbel'⟩
      case measure => simp [intOf]; omega
    · obtain rfl : n = k := by omega
      go_wp2
      go_loopg [7] (2 * sumI (idl n) + 1) (RefRel n l u5 w)
      case atStart => exact ⟨true, idl n, rfl, hown, hbel, LI_id, rfl, fun h => by cases h⟩
      case round =>
        obtain ⟨a, q, rfl, hown2, hbel2, hLI, hgk, hdone⟩ := hrel
        clear hown hbel hsz
        have HG := hid hgk
        have HD := hid hdone
        have HLI := hid hLI
        clear hgk hdone hLI
        cases a
        · go_wp2
          go_ret
          have := HLI.out.done HM.out (HD.out (by first | rfl | trivial))
          exact ⟨_, rfl, by rw [← this]; exact hown2, hbel2⟩
        · go_wp2
          have HO2 := hid (And.intro hown2 hbel2)
          clear hown2 hbel2
          obtain ⟨wo, hwo⟩ : ∃ wo : World, wo = wr := ⟨_, rfl⟩
          subst hwo
          go_loopw [7, 8] (RefIn n l u5 w (sumI q)) (fun _ i _ => l.length - (intOf i).toNat)
          case atStart => exact ⟨false, 0, q, rfl, rfl, Nat.zero_le _, HO2.out.1, HO2.out.2, HLI.out, Nat.le_refl _, fun h => (by cases h), fun _ j _ hj => by omega⟩
          case round =>
            obtain ⟨a, k, q', rfl, rfl, hk', hown, hbel, hLI, hle, hlt1, heq⟩ := hrel
            have HLI' := hid hLI
            have HS := hid (And.intro hle (And.intro hlt1 heq))
            clear hLI hle hlt1 heq
            by_cases hkl : k < l.length
            · have hxy := HM.out (l[k].1, l[k].2.1) (List.mem_map.2 ⟨l[k], List.getElem_mem _, rfl⟩)
              have hP : g (partOf n (uv l)) l[k].1 = g (partOf n (uv l)) l[k].2.1 := made_partOf HM.out (l[k].1, l[k].2.1) (List.mem_map.2 ⟨l[k], List.getElem_mem _, rfl⟩)
              obtain ⟨hxr, hyr⟩ := hxy
              simp only [] at hxr hyr
              obtain ⟨g0, cap, rfl, hg0, _⟩ := own_form hown (by unfold InR at hxr; omega)
              obtain ⟨b, o, rfl, hbB, hc⟩ := HX.out (by omega)
              obtain ⟨d1, d2, _⟩ := eds_cell hc hkl
              have c1 := (hbel.cell (p := ⟨b, o + k * 3, none⟩) (by show b < _; omega)).trans d1
              have c2 := (hbel.cell (p := ⟨b, o + k * 3 + 1, none⟩) (by show b < _; omega)).trans d2
              have HST : Hid (∀ q'', (∀ j (h : j < l.length), j < k → g q'' l[j].1 = g q'' l[j].2.1) → g q'' l[k].1 = g q'' l[k].2.1 → ∀ j (h : j < l.length), j < k + 1 → g q'' l[j].1 = g q'' l[j].2.1) := hid (fun q'' h1 h2 j hj hjk => by
                by_cases h : j = k
                · subst h; exact h2
                · exact h1 j hj (by omega))
              clear d1 d2 hc
              generalize l[k].1 = x at *
              generalize l[k].2.1 = y at *
              have hx0 : 0 ≤ x := hxr.1
              have hx1 : x < n := hxr.2
              have hy0 : 0 ≤ y := hyr.1
              have hy1 : y < n := hyr.2
              have hlq : q'.length = n := HLI'.out.1
              have ca : wr.cell? ⟨g0, x.toNat, none⟩ = some (.int .i64 (g q' x)) := by
                rw [hown.cellAt _ (by omega), ints_at _ _ (by omega)]; rfl
              have cb : wr.cell? ⟨g0, y.toNat, none⟩ = some (.int .i64 (g q' y)) := by
                rw [hown.cellAt _ (by omega), ints_at _ _ (by omega)]; rfl
              have fa := hown.frozenAt x.toNat
              have fb := hown.frozenAt y.toNat
              have HO := hid (And.intro hown hbel)
              have HR := hid (And.intro hxr (And.intro hyr hP))
              clear hown hbel hxr hyr hP hlq
              obtain ⟨pa, hpa⟩ : ∃ z, z = g q' x := ⟨_, rfl⟩
              obtain ⟨pb, hpb⟩ : ∃ z, z = g q' y := ⟨_, rfl⟩
              rw [← hpa] at ca
              rw [← hpb] at cb
              have HP := hid (And.intro hpa hpb)
              clear hpa hpb
              rcases Int.lt_trichotomy pa pb with hc | hc | hc
              · have e1 : ¬ pb < pa := by omega
                go_wp2_with fail
                go_quiet (fail)
                go_wp2
                go_roundw
                case rel =>
                  have h2 := HR.out
                  have h3 := HLI'.out.step h2.1 h2.2.1 h2.2.2 (by rw [← HP.out.1, ← HP.out.2]; exact hc)
                  have h4 := HS.out.1
                  refine ⟨true, k + 1, q'.set y.toNat (g q' x), rfl, by go_num, by omega, ?_, (HO.out.2.trans (((Qt.refl _).drewN _).below _)).setCell hg0 _, h3.1, by omega, fun _ => by omega, fun h => by cases h⟩
                  rw [← ints_set, ← HP.out.1]
                  exact ((own_below HO.out.1 (((Qt.refl _).drewN _).below _)).stored _ _).1
                case measure => simp [intOf]; omega
              · have HC := hid hc
                have e1 : ¬ pb < pa := by omega
                have e2 : ¬ pa < pb := by omega
                clear hc
                go_wp2_with fail
                go_quiet (fail)
                go_wp2
                go_roundw
                case rel =>
                  refine ⟨a, k + 1, q', rfl, by go_num, by omega, own_below HO.out.1 (((Qt.refl _).drewN _).below _), HO.out.2.trans (((Qt.refl _).drewN _).below _), HLI'.out, HS.out.1, HS.out.2.1, fun ha => HST.out q' (HS.out.2.2 ha) ?_⟩
                  rw [← HP.out.1, ← HP.out.2, HC.out]
                case measure => simp [intOf]; omega
              · have e1 : ¬ pa < pb := by omega
                go_wp2_with fail
                go_quiet (fail)
                go_wp2
                go_roundw
                case rel =>
                  have h2 := HR.out
                  have h3 := HLI'.out.step h2.2.1 h2.1 h2.2.2.symm (by rw [← HP.out.1, ← HP.out.2]; exact hc)
                  have h4 := HS.out.1
                  refine ⟨true, k + 1, q'.set x.toNat (g q' y), rfl, by go_num, by omega, ?_, (HO.out.2.trans (((Qt.refl _).drewN _).below _)).setCell hg0 _, h3.1, by omega, fun _ => by omega, fun h => by cases h⟩
                  rw [← ints_set, ← HP.out.2]
                  exact ((own_below HO.out.1 (((Qt.refl _).drewN _).below _)).stored _ _).1
                case measure => simp [intOf]; omega
            · have hkn : k = l.length := by omega
              have HK := hid hkn
              clear hkn
              go_wp2
              go_roundg (2 * sumI q' + (if a then 1 else 0))
              case measure =>
                have h1 := HS.out
                rw [HG.out]
                cases a
                · have := h1.1; simp; omega
                · have := h1.2.1 rfl; simp; omega
              case rel =>
                refine ⟨a, q', rfl, hown, hbel, HLI'.out, rfl, fun ha e he => ?_⟩
                obtain ⟨d, hd, rfl⟩ := List.mem_map.1 he
                obtain ⟨j, hj, rfl⟩ := List.getElem_of_mem hd
                exact HS.out.2.2 ha j hj (by rw [HK.out]; exact hj)
end Go.Proofs.Ytkhgjffhelofdaa
