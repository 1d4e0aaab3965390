/- Contract of seq.Of. -/
import Derived.Test.YtleeomiocofgiaaSeqC
namespace Go.Proofs.Ytleeomiocofgiaa
open Go.RowKit Sq
set_option linter.unusedVariables false

theorem sl_take {w : World} {B b o c n h : Nat} {p : List Int} (hb : b < B) (hn : p.length = n) (hh : h ≤ n) (hnc : n ≤ c) (hc : c ≤ maxLen) (hx : ∀ j u, (ints p)[j]? = some u → w.cell? ⟨b, o + j, none⟩ = some u) :
    Sl w B 1 (.slice (some ⟨b, o, none⟩) h c) h (ints (p.take h)) :=
  ⟨_, c, rfl, by omega, hc, by simp [ints]; omega, fun _ => ⟨b, o, rfl, hb, fun j u hu => hx j u (by
    simp only [ints, List.map_take] at hu ⊢
    rw [List.getElem?_take] at hu
    split at hu
    · exact hu
    · cases hu)⟩⟩
theorem sl_drop {w : World} {B b o o' c n h m d : Nat} {p : List Int} (hb : b < B) (hn : p.length = n) (hh : h ≤ n) (hnc : n ≤ c) (hc : c ≤ maxLen) (hm : m = n - h) (hd : d = c - h) (ho : o' = o + h) (hx : ∀ j u, (ints p)[j]? = some u → w.cell? ⟨b, o + j, none⟩ = some u) :
    Sl w B 1 (.slice (some ⟨b, o', none⟩) m d) m (ints (p.drop h)) := by
  subst hm hd ho
  refine ⟨_, _, rfl, by omega, by omega, by simp [ints]; omega, fun _ => ⟨b, o + h, rfl, hb, fun j u hu => ?_⟩⟩
  rw [Nat.add_assoc]
  refine hx (h + j) u ?_
  simp only [ints, List.map_drop] at hu ⊢
  rw [List.getElem?_drop] at hu
  exact hu

def OfSaid (n : Nat) : Prop := ∀ (v : Value) (p : List Int) (w : World), p.length = n → Sl w w.heap.size 1 v n (ints p) → n ≤ 1000000 →
    Calls Try.prog 7 #[v] w (TrPost w (ofL p))

set_option maxRecDepth 100000 in
set_option maxHeartbeats 2000000 in
theorem of_said (n : Nat) : OfSaid n := by
  induction n using Nat.strongRecOn with
  | _ n ih =>
    intro v p w hn hs hle
    obtain ⟨A, c, rfl, hnc, hcm, hl, hx⟩ := hs
    by_cases h0 : n = 0
    · subst h0
      have : p = [] := List.eq_nil_of_length_eq_zero hn
      subst this
      clear hx hl ih
      go_enter Try.func7, Try.ntmps7
      go_wp2
      go_ret
      exact ⟨_, rfl, rfl, Below.refl _ _⟩
    · obtain ⟨b, o, rfl, hb, hc⟩ := hx (by omega)
      have hlt : p.length / 2 < p.length := by omega
      rw [ofL_node (by omega)]
      obtain ⟨x, hxe⟩ : ∃ x, x = p[p.length / 2] := ⟨_, rfl⟩
      rw [← hxe]
      obtain ⟨h, hh⟩ : ∃ h, h = n / 2 := ⟨_, rfl⟩
      have hcx : w.cell? ⟨b, o + h, none⟩ = some (.int .i64 x) := by
        have := ints_cell hc (k := p.length / 2) hlt
        rw [hh, ← hn, this, hxe]; simp [hlt]
      rw [hn, ← hh]
      have HL := hid (sl_take (w := w) (B := w.heap.size) (h := h) hb hn (by omega) hnc hcm hc)
      have HR := hid (fun (m d o' : Nat) (hm : m = n - (h + 1)) (hd : d = c - (h + 1)) (ho : o' = o + (h + 1)) => sl_drop (w := w) (B := w.heap.size) (h := h + 1) hb hn (by omega) hnc hcm hm hd ho hc)
      have IL : ∀ {v : Value} {w : World}, Sl w w.heap.size 1 v h (ints (p.take h)) → Hid (h < n ∧ h ≤ 1000000 ∧ (p.take h).length = h) → Calls Try.prog 7 #[v] w (TrPost w (ofL (p.take h))) :=
        fun {v w} h1 h3 => ih h h3.out.1 v _ w h3.out.2.2 h1 h3.out.2.1
      have IR : ∀ {v : Value} {w : World}, Sl w w.heap.size 1 v (n - (h + 1)) (ints (p.drop (h + 1))) → Hid (n - (h + 1) < n ∧ n - (h + 1) ≤ 1000000 ∧ (p.drop (h + 1)).length = n - (h + 1)) → Calls Try.prog 7 #[v] w (TrPost w (ofL (p.drop (h + 1)))) :=
        fun {v w} h1 h3 => ih _ h3.out.1 v _ w h3.out.2.2 h1 h3.out.2.1
      have gL : Hid (h < n ∧ h ≤ 1000000 ∧ (p.take h).length = h) := hid ⟨by omega, by omega, by simp; omega⟩
      have gR : Hid (n - (h + 1) < n ∧ n - (h + 1) ≤ 1000000 ∧ (p.drop (h + 1)).length = n - (h + 1)) := hid ⟨by omega, by omega, by simp; omega⟩
      have n0 : ((n : Int) == 0) = false := by simp; omega
      have i1 : h < n := by omega
      have i2 : (h : Int) < n := by omega
      have i3 : h + 1 ≤ n := by omega
      have i4 : (h : Int) + 1 ≤ n := by omega
      have i5 : h ≤ c := by omega
      have i11 : IntKind.i64.wrap ((h : Int) + 1) = (h : Int) + 1 := by rw [IntKind.wrap_i64]; omega
      have i8 : (0 : Int) ≤ (h : Int) := by omega
      have i9 : (0 : Int) ≤ (h : Int) + 1 := by omega
      have i10 : (n : Int) ≤ (c : Int) := by omega
      have i6 : (h : Int) ≤ c := by omega
      have i7 : n ≤ 1000000 := by omega
      have z1 : sz (ofL (p.take h)) ≤ 1000000000 := by rw [← len_ls, ls_ofL, gL.out.2.2]; omega
      have z2 : sz (ofL (p.drop (h + 1))) ≤ 1000000000 := by rw [← len_ls, ls_ofL, gR.out.2.2]; omega
      have g0 : Hid (n ≤ c ∧ h < n ∧ h = n / 2) := hid ⟨hnc, by omega, hh⟩
      clear hx hl ih hc hxe hlt
      by_cases hch : c = h + 1
      · have e0 : (h = 0 ∧ n = 1) ∨ (h = 1 ∧ n = 2) := by have := g0.out; omega
        rcases e0 with ⟨e1, e2⟩ | ⟨e1, e2⟩
        · subst e1 e2
          have e3 : c = 1 := by omega
          subst e3
          have HR0 : Hid (Sl w w.heap.size 1 (.slice (some ⟨b, o, none⟩) 0 0) 0 (ints (p.drop (0 + 1)))) := hid ⟨_, _, rfl, Nat.le_refl _, Nat.zero_le _, by have := gR.out.2.2; rw [len_ints, this], fun h => absurd h (by omega)⟩
          have hcy : w.cell? ⟨b, o, none⟩ = some (.int .i64 x) := hcx
          have i12 : IntKind.i64.wrap 1 = 1 := by decide
          have i13 : IntKind.i64.wrap ((0 : Int) + 1) = 1 := by decide
          have i14 : IntKind.i64.wrap 1 = 1 := by decide
          clear hcx hch i1 i2 i3 i4 i5 i6 i7 i8 i9 i10 i11 hnc hcm h0 n0 hh hle
          go_enter Try.func7, Try.ntmps7
          go_wp2_with fail
          go_region_held3 (fun w' => w'.cell? ⟨b, o, none⟩ = some (.int .i64 x))
            (first | exact hcy | go_keep | (refine cell_later hb4 ?_; assumption) | (refine cell_later hb3 ?_; assumption) | (refine cell_later hb2 ?_; first | assumption | (rw [Qt.cell (qt_of _ _)]; assumption) | (rw [Qt.cell (qt_drew _)]; assumption)))
            (first | (go_at_call 7; (with_reducible refine (IL (HL.out.cqt (qt_drew _)) gL).mono ?_); rintro e w' ⟨v1, rfl, hT, hb2⟩)
                   | (go_at_call 7; (with_reducible refine (IL (HL.out.cqt (qt_of _ _)) gL).mono ?_); rintro e w' ⟨v1, rfl, hT, hb2⟩)
                   | (go_at_call 7; (with_reducible refine (IR ((HR0.out.cqt (qt_drew _)).call hb2) gR).mono ?_); rintro e w' ⟨v2, rfl, hT2, hb3⟩)
                   | (go_at_call 7; (with_reducible refine (IR ((HR0.out.cqt (qt_of _ _)).call hb2) gR).mono ?_); rintro e w' ⟨v2, rfl, hT2, hb3⟩)
                   | (go_at_call 15; (with_reducible refine (tree_any (hT.call hb3) hT2 z1 z2).mono ?_); rintro e w' ⟨v3, rfl, hT3, hb4⟩))
          go_wp2
          go_ret
          exact ⟨_, rfl, hT3, (by first | exact Bl.call (Bl.call (Bl.call ((Qt.refl w).drewN _).bel hb2) hb3) hb4 | exact Bl.call (Bl.call (Bl.call (qt_drew w).bel hb2) hb3) hb4)⟩
        · subst e1 e2
          have e3 : c = 2 := by omega
          subst e3
          have HR0 : Hid (Sl w w.heap.size 1 (.slice (some ⟨b, o, none⟩) 0 0) 0 (ints (p.drop (1 + 1)))) := hid ⟨_, _, rfl, Nat.le_refl _, Nat.zero_le _, by have := gR.out.2.2; rw [len_ints, this], fun h => absurd h (by omega)⟩
          have hcy : w.cell? ⟨b, o + 1, none⟩ = some (.int .i64 x) := hcx
          have i12 : IntKind.i64.wrap 1 = 1 := by decide
          have i13 : IntKind.i64.wrap ((1 : Int) + 1) = 2 := by decide
          have i14 : IntKind.i64.wrap 2 = 2 := by decide
          clear hcx hch i1 i2 i3 i4 i5 i6 i7 i8 i9 i10 i11 hnc hcm h0 n0 hh hle
          go_enter Try.func7, Try.ntmps7
          go_wp2_with fail
          go_region_held3 (fun w' => w'.cell? ⟨b, o + 1, none⟩ = some (.int .i64 x))
            (first | exact hcy | go_keep | (refine cell_later hb4 ?_; assumption) | (refine cell_later hb3 ?_; assumption) | (refine cell_later hb2 ?_; first | assumption | (rw [Qt.cell (qt_of _ _)]; assumption) | (rw [Qt.cell (qt_drew _)]; assumption)))
            (first | (go_at_call 7; (with_reducible refine (IL (HL.out.cqt (qt_drew _)) gL).mono ?_); rintro e w' ⟨v1, rfl, hT, hb2⟩)
                   | (go_at_call 7; (with_reducible refine (IL (HL.out.cqt (qt_of _ _)) gL).mono ?_); rintro e w' ⟨v1, rfl, hT, hb2⟩)
                   | (go_at_call 7; (with_reducible refine (IR ((HR0.out.cqt (qt_drew _)).call hb2) gR).mono ?_); rintro e w' ⟨v2, rfl, hT2, hb3⟩)
                   | (go_at_call 7; (with_reducible refine (IR ((HR0.out.cqt (qt_of _ _)).call hb2) gR).mono ?_); rintro e w' ⟨v2, rfl, hT2, hb3⟩)
                   | (go_at_call 15; (with_reducible refine (tree_any (hT.call hb3) hT2 z1 z2).mono ?_); rintro e w' ⟨v3, rfl, hT3, hb4⟩))
          go_wp2
          go_ret
          exact ⟨_, rfl, hT3, (by first | exact Bl.call (Bl.call (Bl.call ((Qt.refl w).drewN _).bel hb2) hb3) hb4 | exact Bl.call (Bl.call (Bl.call (qt_drew w).bel hb2) hb3) hb4)⟩
      · have j1 : ¬ (c : Int) = (h : Int) + 1 := by omega
        have HR1 : Hid (Sl w w.heap.size 1 (.slice (some ⟨b, o + (h + 1), none⟩) (n - (h + 1)) (c - (h + 1))) (n - (h + 1)) (ints (p.drop (h + 1)))) := hid (HR.out _ _ _ rfl rfl rfl)
        go_enter Try.func7, Try.ntmps7
        go_wp2_with fail
        rw [show ((n : Int) / 2) = (h : Int) by omega]
        clear hh
        go_region_held3 (fun w' => w'.cell? ⟨b, o + h, none⟩ = some (.int .i64 x))
          (first | exact hcx | go_keep | (refine cell_later hb4 ?_; assumption) | (refine cell_later hb3 ?_; assumption) | (refine cell_later hb2 ?_; first | assumption | (rw [Qt.cell (qt_of _ _)]; assumption) | (rw [Qt.cell (qt_drew _)]; assumption)))
          (first | (go_at_call 7; (with_reducible refine (IL (HL.out.cqt (qt_drew _)) gL).mono ?_); rintro e w' ⟨v1, rfl, hT, hb2⟩)
                 | (go_at_call 7; (with_reducible refine (IL (HL.out.cqt (qt_of _ _)) gL).mono ?_); rintro e w' ⟨v1, rfl, hT, hb2⟩)
                 | (go_at_call 7; (with_reducible refine (IR ((HR1.out.cqt (qt_drew _)).call hb2) gR).mono ?_); rintro e w' ⟨v2, rfl, hT2, hb3⟩)
                 | (go_at_call 7; (with_reducible refine (IR ((HR1.out.cqt (qt_of _ _)).call hb2) gR).mono ?_); rintro e w' ⟨v2, rfl, hT2, hb3⟩)
                 | (go_at_call 15; (with_reducible refine (tree_any (hT.call hb3) hT2 z1 z2).mono ?_); rintro e w' ⟨v3, rfl, hT3, hb4⟩))
        go_wp2
        go_ret
        exact ⟨_, rfl, hT3, (by first | exact Bl.call (Bl.call (Bl.call ((Qt.refl w).drewN _).bel hb2) hb3) hb4 | exact Bl.call (Bl.call (Bl.call (qt_drew w).bel hb2) hb3) hb4)⟩
end Go.Proofs.Ytleeomiocofgiaa
