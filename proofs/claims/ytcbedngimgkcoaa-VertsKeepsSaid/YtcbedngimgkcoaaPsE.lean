/- Contracts of seq.Split, seq.Join. -/
import Derived.Test.YtcbedngimgkcoaaPsD
namespace Go.Proofs.Ytcbedngimgkcoaa
open Go.RowKit Sq
set_option linter.unusedVariables false
attribute [local go_sem ↓] Go.wp_at_zero Go.wp_at_succ

theorem split_sz (t : Tr (Int × Int)) (i : Int) : sz (split t i).1 ≤ sz t ∧ sz (split t i).2 ≤ sz t := by
  have := ls_split t i
  constructor
  · rw [← len_ls, this.1, ← len_ls t, List.length_take]; omega
  · rw [← len_ls, this.2, ← len_ls t, List.length_drop]; omega
def SpPost (w : World) (t : Tr (Int × Int)) (i : Int) (e : Ending) (w' : World) : Prop :=
  ∃ v1 v2, e = .returned (.tuple #[.pointer v1, .pointer v2]) ∧ IsTr w' w'.heap.size v1 (split t i).1 ∧ IsTr w' w'.heap.size v2 (split t i).2 ∧ Below w.heap.size w w'
theorem split_low {v : Option Addr} {t : Tr (Int × Int)} {i : Int} {w : World} (h : IsTr w w.heap.size v t) (hi : i ≤ 0) :
    Calls Try.prog 36 #[.pointer v, .int .i64 i] w (SpPost w t i) := by
  have H := hid h
  have e : split t i = (.nil, t) := by cases t with
    | nil => rfl
    | node a x b => rw [split, if_pos hi]
  have E := hid e
  clear h e
  go_enter Try.func36, Try.ntmps36
  go_wp2
  go_ret2
  exact ⟨_, _, rfl, by rw [E.out]; rfl, by rw [E.out]; exact H.out, Below.refl _ _⟩
theorem split_high {v : Option Addr} {t : Tr (Int × Int)} {i : Int} {w : World} (h : IsTr w w.heap.size v t) (hi : ¬ i ≤ 0) (hs : (sz t : Int) ≤ i) :
    Calls Try.prog 36 #[.pointer v, .int .i64 i] w (SpPost w t i) := by
  have H := hid h
  have e : split t i = (t, .nil) := by cases t with
    | nil => rfl
    | node a x b => rw [split, if_neg hi, if_pos hs]
  have E := hid e
  clear h e
  go_enter Try.func36, Try.ntmps36
  go_wp2_with fail
  refine (len_any H.out).mono ?_; rintro e w' ⟨rfl, rfl⟩
  go_wp2
  go_ret2
  exact ⟨_, _, rfl, by rw [E.out]; exact H.out, by rw [E.out]; rfl, Below.refl _ _⟩
set_option maxRecDepth 100000 in
set_option maxHeartbeats 2000000 in
theorem split_any {v : Option Addr} {t : Tr (Int × Int)} {i : Int} {w : World} (h : IsTr w w.heap.size v t) (hsz : sz t ≤ 1000000) (hwf : -9223372036854775808 ≤ i ∧ i ≤ 9223372036854775807) :
    Calls Try.prog 36 #[.pointer v, .int .i64 i] w (SpPost w t i) := by
  induction t generalizing v i w with
  | nil => 
    by_cases h0 : i ≤ 0
    · exact split_low h h0
    · exact split_high h h0 (by simp [sz]; omega)
  | node a x b iha ihb =>
    by_cases h0 : i ≤ 0
    · exact split_low h h0
    by_cases h1 : (sz (.node a x b) : Int) ≤ i
    · exact split_high h h0 h1
    have HS := hid h
    obtain ⟨k, pa, pb, rfl, hlt, c0, c1, c2, c2', c3, c4, hpa, hpb⟩ := h
    have HPA := hid hpa
    have HPB := hid hpb
    have hn : Hid (sz (.node a x b) = sz a + 1 + sz b) := hid rfl
    have hn' := hn.out
    by_cases h2 : i ≤ (sz a : Int)
    · have E : Hid (split (.node a x b) i = ((split a i).1, around (split a i).2 x b)) := hid (by rw [split, if_neg h0, if_neg h1, if_pos h2])
      have IA := hid (iha hpa (by omega) hwf)
      have q := (split_sz a i).2
      have q1 : sz (split a i).2 + sz b ≤ 10000000 := by omega
      clear iha ihb hpa hpb c3 c4 hn' 
      go_enter Try.func36, Try.ntmps36
      go_wp2_with fail
      refine (len_any HS.out).mono ?_; rintro e w' ⟨rfl, rfl⟩
      go_wp2_with fail
      refine (len_any HPA.out).mono ?_; rintro e w' ⟨rfl, rfl⟩
      go_wp2_with fail
      refine IA.out.mono ?_; rintro e wb ⟨v1, v2, rfl, hT1, hT2, hb2⟩
      have d1 : wb.cell? ⟨k, 1, none⟩ = some (.pointer pb) := cell_later hb2 c1
      have d2 : wb.cell? ⟨k, 2, none⟩ = some (.int .u64 x.1) := cell_later hb2 c2
      have d2' : wb.cell? ⟨k, 3, none⟩ = some (.int .i64 x.2) := cell_later hb2 c2'
      have HT1 := hid hT1
      have HT2 := hid hT2
      have HB2 := hid (HPB.out.call hb2)
      clear hT1 hT2 c0 c1 c2 c2'
      go_wp2_with fail
      go_region_held3 (fun w' => w'.cell? ⟨k, 1, none⟩ = some (.pointer pb) ∧ w'.cell? ⟨k, 2, none⟩ = some (.int .u64 x.1) ∧ w'.cell? ⟨k, 3, none⟩ = some (.int .i64 x.2))
        (first | go_keep | (go_split_ands; and_intros <;> (refine cell_later (by assumption) ?_; first | assumption | (rw [Qt.cell (qt_of _ _)]; assumption) | (rw [Qt.cell (qt_drew _)]; assumption))) | (refine cell_later (by assumption) ?_; first | assumption | (rw [Qt.cell (qt_of _ _)]; assumption) | (rw [Qt.cell (qt_drew _)]; assumption)))
        (first | (go_at_call 43; (with_reducible refine (around_any (HT2.out.cqt (qt_of _ _)) (HB2.out.cqt (qt_of _ _)) q1).mono ?_); rintro e w' ⟨vt, rfl, hT, hb3⟩)
               | (go_at_call 43; (with_reducible refine (around_any (HT2.out.cqt (qt_drew _)) (HB2.out.cqt (qt_drew _)) q1).mono ?_); rintro e w' ⟨vt, rfl, hT, hb3⟩))
      go_wp2
      go_ret2
      have hk : Below wb.heap.size wb w' := by first | exact Bl.call (qt_of wb _).bel hb3 | exact Bl.call (qt_drew wb).bel hb3
      exact ⟨_, _, rfl, by rw [E.out]; exact HT1.out.call hk, by rw [E.out]; exact hT, Bl.call hb2 hk⟩
    · have E : Hid (split (.node a x b) i = (around a x (split b (i - sz a - 1)).1, (split b (i - sz a - 1)).2)) := hid (by rw [split, if_neg h0, if_neg h1, if_neg h2])
      have IB := hid (ihb (i := i - sz a - 1) hpb (by omega) (by omega))
      have q := (split_sz b (i - sz a - 1)).1
      have q1 : sz a + sz (split b (i - sz a - 1)).1 ≤ 10000000 := by omega
      clear iha ihb hpa hpb c3 c4 hn'
      go_enter Try.func36, Try.ntmps36
      go_wp2_with fail
      refine (len_any HS.out).mono ?_; rintro e w' ⟨rfl, rfl⟩
      go_wp2_with fail
      refine (len_any HPA.out).mono ?_; rintro e w' ⟨rfl, rfl⟩
      go_wp2_with fail
      refine IB.out.mono ?_; rintro e wb ⟨v1, v2, rfl, hT1, hT2, hb2⟩
      have d1 : wb.cell? ⟨k, 0, none⟩ = some (.pointer pa) := cell_later hb2 c0
      have d2 : wb.cell? ⟨k, 2, none⟩ = some (.int .u64 x.1) := cell_later hb2 c2
      have d2' : wb.cell? ⟨k, 3, none⟩ = some (.int .i64 x.2) := cell_later hb2 c2'
      have HT1 := hid hT1
      have HT2 := hid hT2
      have HA2 := hid (HPA.out.call hb2)
      clear hT1 hT2 c0 c1 c2 c2'
      go_wp2_with fail
      go_region_held3 (fun w' => w'.cell? ⟨k, 0, none⟩ = some (.pointer pa) ∧ w'.cell? ⟨k, 2, none⟩ = some (.int .u64 x.1) ∧ w'.cell? ⟨k, 3, none⟩ = some (.int .i64 x.2))
        (first | go_keep | (go_split_ands; and_intros <;> (refine cell_later (by assumption) ?_; first | assumption | (rw [Qt.cell (qt_of _ _)]; assumption) | (rw [Qt.cell (qt_drew _)]; assumption))) | (refine cell_later (by assumption) ?_; first | assumption | (rw [Qt.cell (qt_of _ _)]; assumption) | (rw [Qt.cell (qt_drew _)]; assumption)))
        (first | (go_at_call 43; (with_reducible refine (around_any (HA2.out.cqt (qt_of _ _)) (HT1.out.cqt (qt_of _ _)) q1).mono ?_); rintro e w' ⟨vt, rfl, hT, hb3⟩)
               | (go_at_call 43; (with_reducible refine (around_any (HA2.out.cqt (qt_drew _)) (HT1.out.cqt (qt_drew _)) q1).mono ?_); rintro e w' ⟨vt, rfl, hT, hb3⟩))
      go_wp2
      go_ret2
      have hk : Below wb.heap.size wb w' := by first | exact Bl.call (qt_of wb _).bel hb3 | exact Bl.call (qt_drew wb).bel hb3
      exact ⟨_, _, rfl, by rw [E.out]; exact hT, by rw [E.out]; exact HT2.out.call hk, Bl.call hb2 hk⟩
end Go.Proofs.Ytcbedngimgkcoaa
