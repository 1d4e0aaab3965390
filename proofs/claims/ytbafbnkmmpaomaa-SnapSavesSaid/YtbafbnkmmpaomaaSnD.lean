/- Contracts of table.tiered, name.Less, table.Right. -/
import Derived.Test.YtbafbnkmmpaomaaSnC
import Derived.Test.YtbafbnkmmpaomaaGroB
import Derived.Deep.RegionHeld3
namespace Go.Proofs.Ytbafbnkmmpaomaa
open Go.RowKit
set_option linter.unusedVariables false
set_option linter.unusedSimpArgs false
attribute [local go_sem ↓] Go.wp_at_zero Go.wp_at_succ
def lessE (a b : Int × Int × Int) : Bool := decide (a.1 < b.1) || (decide (a.1 = b.1) && decide (a.2.1 < b.2.1))
theorem less_any (x y t x2 y2 t2 : Int) (w : World) :
    Calls Try.prog 56 #[.agg #[.int .i64 x, .int .i64 y, .int .i64 t], .agg #[.int .i64 x2, .int .i64 y2, .int .i64 t2]] w fun e w' => e = .returned (.bool (lessE (x, y, t) (x2, y2, t2))) ∧ Below w.heap.size w w' := by
  have hb : Below w.heap.size w ((w.alloc (.cells #[.int .i64 x, .int .i64 y, .int .i64 t] 61)).alloc (.cells #[.int .i64 x2, .int .i64 y2, .int .i64 t2] 61)) := Bl.new (bel_new _ _) _
  have HB := hid hb
  clear hb
  rcases Int.lt_trichotomy x x2 with h | h | h
  · have H : Hid (lessE (x, y, t) (x2, y2, t2) = true) := hid (by simp [lessE, h])
    go_enter Try.func56, Try.ntmps56
    go_wp2
    go_ret
    exact ⟨ret_bool H.out.symm, HB.out⟩
  · subst h
    have h1 : ¬ x < x := by omega
    have e1 : (x == x) = true := by simp
    by_cases hy : y < y2
    · have H : Hid (lessE (x, y, t) (x, y2, t2) = true) := hid (by simp [lessE, hy])
      go_enter Try.func56, Try.ntmps56
      go_wp2
      go_ret
      exact ⟨ret_bool H.out.symm, HB.out⟩
    · have H : Hid (lessE (x, y, t) (x, y2, t2) = false) := hid (by simp [lessE, hy])
      go_enter Try.func56, Try.ntmps56
      go_wp2
      go_ret
      exact ⟨ret_bool H.out.symm, HB.out⟩
  · have h1 : ¬ x < x2 := by omega
    have e1 : (x == x2) = false := by simp; omega
    have H : Hid (lessE (x, y, t) (x2, y2, t2) = false) := hid (by simp [lessE]; omega)
    go_enter Try.func56, Try.ntmps56
    go_wp2
    go_ret
    exact ⟨ret_bool H.out.symm, HB.out⟩
theorem less_is {x y t x2 y2 t2 : Int} (b : Bool) (h : lessE (x, y, t) (x2, y2, t2) = b) (w : World) :
    Calls Try.prog 56 #[.agg #[.int .i64 x, .int .i64 y, .int .i64 t], .agg #[.int .i64 x2, .int .i64 y2, .int .i64 t2]] w fun e w' => e = .returned (.bool b) ∧ Below w.heap.size w w' := by
  rw [← h]; exact less_any x y t x2 y2 t2 w


theorem tiered_is {t : Int} (b : Bool) (h : (0 ≤ t ∧ t ≤ 16) ↔ b = true) (w : World) : Calls Try.prog 55 #[.int .i64 t] w fun e w' => e = .returned (.bool b) ∧ w = w' := by
  by_cases h1 : 0 ≤ t
  · by_cases h2 : t ≤ 16
    · have HB : Hid (b = true) := hid (h.1 ⟨h1, h2⟩)
      clear h
      go_enter Try.func55, Try.ntmps55
      go_wp2
      go_ret
      exact ⟨by rw [HB.out]; rfl, rfl⟩
    · have HB : Hid (b = false) := hid (by cases b with | false => rfl | true => exact absurd (h.2 rfl).2 h2)
      clear h
      go_enter Try.func55, Try.ntmps55
      go_wp2
      go_ret
      exact ⟨by rw [HB.out]; rfl, rfl⟩
  · have HB : Hid (b = false) := hid (by cases b with | false => rfl | true => exact absurd (h.2 rfl).1 h1)
    clear h
    go_enter Try.func55, Try.ntmps55
    go_wp2
    go_ret
    exact ⟨by rw [HB.out]; rfl, rfl⟩
/-- An edge that may stand in a table of n vertices. -/
def EdOk (n : Int) (e : Int × Int × Int) : Prop := 0 ≤ e.1 ∧ e.1 < e.2.1 ∧ e.2.1 < n ∧ 0 ≤ e.2.2 ∧ e.2.2 ≤ 16
/-- The first i edges may stand so. -/
def TabPre (n : Int) (l : List (Int × Int × Int)) (i : Nat) : Prop := ∀ j, (h : j < l.length) → j < i → EdOk n l[j] ∧ ∀ k, (hk : k + 1 = j) → lessE (l[k]'(by omega)) l[j] = true
def TabR (n : Int) (l : List (Int × Int × Int)) : Prop := (0 ≤ n ∧ n ≤ 1024) ∧ TabPre n l l.length
theorem tab_next {n : Int} {l : List (Int × Int × Int)} {i : Nat} (hp : TabPre n l i) (h1 : ∀ (h : i < l.length), EdOk n l[i] ∧ ∀ k, (hk : k + 1 = i) → lessE (l[k]'(by omega)) l[i] = true) : TabPre n l (i + 1) := by
  intro j h hj
  rcases Nat.lt_or_ge j i with h3 | h3
  · exact hp j h h3
  · have : j = i := by omega
    subst this
    exact h1 h
theorem tab_no {n : Int} {l : List (Int × Int × Int)} {b : Bool} (hb : TabR n l ↔ b = true) {i : Nat} (hi : i < l.length) (h : ¬ EdOk n l[i]) : b = false := by
  cases b with
  | false => rfl
  | true => exact absurd ((hb.2 rfl).2 i hi hi).1 h
theorem tab_no2 {n : Int} {l : List (Int × Int × Int)} {b : Bool} (hb : TabR n l ↔ b = true) {i : Nat} (hi : i + 1 < l.length) (h : lessE (l[i]'(by omega)) l[i + 1] = false) : b = false := by
  cases b with
  | false => rfl
  | true =>
    have := ((hb.2 rfl).2 (i + 1) hi hi).2 i rfl
    rw [h] at this; cases this
set_option maxRecDepth 100000 in
set_option maxHeartbeats 8000000 in
theorem tright_is {n : Int} {v : Value} {m : Nat} {l : List (Int × Int × Int)} {w : World} (hs : Sl w w.heap.size 3 v m (eds l)) (b : Bool) (hb : TabR n l ↔ b = true) :
    Calls Try.prog 45 #[.int .i64 n, v] w fun e w' => e = .returned (.bool b) ∧ Below w.heap.size w w' := by
  have hl : l.length = m := by have := hs.len; rw [len_eds] at this; omega
  have HB := hid hb
  obtain ⟨A, c, rfl, hnc, hcm, hll, hx⟩ := hs
  have hm : m ≤ 9223372036854775807 := by unfold maxLen at hcm; omega
  have HX := hid hx
  have HL := hid hl
  clear hx hll hl hb hcm hnc
  by_cases h1 : 0 ≤ n
  case neg =>
    have HF : Hid (b = false) := hid (by cases b with | false => rfl | true => exact absurd (HB.out.2 rfl).1.1 h1)
    go_enter Try.func45, Try.ntmps45
    go_wp2
    go_ret
    exact ⟨by rw [HF.out]; rfl, Below.refl _ _⟩
  case pos =>
    by_cases h2 : n ≤ 1024
    case neg =>
      have HF : Hid (b = false) := hid (by cases b with | false => rfl | true => exact absurd (HB.out.2 rfl).1.2 h2)
      go_enter Try.func45, Try.ntmps45
      go_wp2
      go_ret
      exact ⟨by rw [HF.out]; rfl, Below.refl _ _⟩
    case pos =>
      have HN := hid (And.intro h1 h2)
      go_enter Try.func45, Try.ntmps45
      go_wp2_with fail
      go_loopw [15] (fun iv wr => ∃ i : Nat, i ≤ m ∧ iv = .int .i64 (i : Int) ∧ Hid (TabPre n l i) ∧ Hid (Below w.heap.size w wr)) (fun iv _ => m - (intOf iv).toNat)
      case atStart => exact ⟨0, Nat.zero_le _, rfl, hid (fun j _ hj => absurd hj (Nat.not_lt_zero _)), hid (Below.refl _ _)⟩
      case round =>
        obtain ⟨i, hi, rfl, HP, HBr⟩ := hrel
        obtain ⟨w1, rfl⟩ : ∃ x, x = wr := ⟨wr, rfl⟩
        by_cases hlt : i < m
        · have j0 : (i : Int) < (m : Int) := by omega
          have hil : i < l.length := by rw [HL.out]; exact hlt
          obtain ⟨b6, o6, rfl, hb6, hc6⟩ := HX.out (by omega)
          obtain ⟨p0, p1, p2⟩ := eds_cell hc6 hil
          have q0 := (HBr.out.cell (p := ⟨b6, o6 + i * 3, none⟩) hb6).trans p0
          have q1 := (HBr.out.cell (p := ⟨b6, o6 + i * 3 + 1, none⟩) hb6).trans p1
          have q2 := (HBr.out.cell (p := ⟨b6, o6 + i * 3 + 2, none⟩) hb6).trans p2
          have HNO := hid (tab_no HB.out hil)
          have HNX := hid (fun (h1 : EdOk n l[i]) (h2 : ∀ k, (hk : k + 1 = i) → lessE (l[k]'(by omega)) l[i] = true) => tab_next HP.out (fun _ => ⟨h1, h2⟩))
          obtain ⟨e, he⟩ : ∃ e, e = l[i] := ⟨_, rfl⟩
          rw [← he] at q0 q1 q2 HNO HNX
          have HE := hid he
          obtain ⟨x, y, t⟩ := e
          dsimp only at q0 q1 q2
          clear he p0 p1 p2
          have HBN := hid (Bl.new HBr.out (.cells #[.int .i64 x, .int .i64 y, .int .i64 t] 61))
          by_cases k1 : x < 0
          case pos =>
            have HF : Hid (b = false) := hid (HNO (fun h => by simp only [EdOk] at h; omega))
            clear HNO HNX HE hil hc6
            go_wp2
            go_ret
            exact ⟨by rw [HF.out]; rfl, HBN.out⟩
          by_cases k2 : y ≤ x
          case pos =>
            have HF : Hid (b = false) := hid (HNO (fun h => by simp only [EdOk] at h; omega))
            clear HNO HNX HE hil hc6
            go_wp2
            go_ret
            exact ⟨by rw [HF.out]; rfl, HBN.out⟩
          by_cases k3 : n ≤ y
          case pos =>
            have HF : Hid (b = false) := hid (HNO (fun h => by simp only [EdOk] at h; omega))
            clear HNO HNX HE hil hc6
            go_wp2
            go_ret
            exact ⟨by rw [HF.out]; rfl, HBN.out⟩
          have l1 : 0 ≤ x := by omega
          have l2 : x < y := by omega
          have l3 : y < n := by omega
          by_cases k4 : 0 ≤ t ∧ t ≤ 16
          case neg =>
            have HF : Hid (b = false) := hid (HNO (fun h => by simp only [EdOk] at h; omega))
            have HT : Hid ((0 ≤ t ∧ t ≤ 16) ↔ false = true) := hid (by simp only [k4]; simp)
            clear HNO HNX HE hil hc6 k4
            go_wp2_with fail
            refine (tiered_is false HT.out _).mono ?_; rintro e w' ⟨rfl, rfl⟩
            go_wp2
            go_ret
            exact ⟨by rw [HF.out]; rfl, HBN.out⟩
          case pos =>
            have HT : Hid (0 ≤ t ∧ t ≤ 16) := hid k4
            have HOKE : Hid (EdOk n (x, y, t)) := hid ⟨l1, l2, l3, k4.1, k4.2⟩
            clear k4 HNO
            go_wp2_with fail
            refine (tiered_is true ⟨fun _ => rfl, fun _ => HT.out⟩ _).mono ?_; rintro e w' ⟨rfl, rfl⟩
            go_wp2_with fail
            cases i with
            | zero =>
              have HN2 := hid (HNX HOKE.out (fun k hk => by omega))
              clear HNX HE hil hc6 q0 q1 q2
              go_quiet (fail)
              go_wp2_with fail
              go_roundw
              case rel => exact ⟨1, by omega, rfl, HN2, hid (Bl.qt HBN.out (qt_of _ _))⟩
              case measure => simp [intOf]; omega
            | succ i =>
              have hil2 : i < l.length := by omega
              obtain ⟨r0, r1, r2⟩ := eds_cell hc6 hil2
              have hz1 := HBr.out.size
              have s0 := cell_later (bel_new w1 (.cells #[.int .i64 x, .int .i64 y, .int .i64 t] 61)) ((HBr.out.cell (p := ⟨b6, o6 + i * 3, none⟩) hb6).trans r0)
              have s1 := cell_later (bel_new w1 (.cells #[.int .i64 x, .int .i64 y, .int .i64 t] 61)) ((HBr.out.cell (p := ⟨b6, o6 + i * 3 + 1, none⟩) hb6).trans r1)
              have s2 := cell_later (bel_new w1 (.cells #[.int .i64 x, .int .i64 y, .int .i64 t] 61)) ((HBr.out.cell (p := ⟨b6, o6 + i * 3 + 2, none⟩) hb6).trans r2)
              have e0 := (Blk.new w1 61 [.int .i64 x, .int .i64 y, .int .i64 t]).cell 0
              have e1 := (Blk.new w1 61 [.int .i64 x, .int .i64 y, .int .i64 t]).cell 1
              have e2 := (Blk.new w1 61 [.int .i64 x, .int .i64 y, .int .i64 t]).cell 2
              have HNL := hid (fun h : lessE l[i] l[i + 1] = false => tab_no2 HB.out hil h)
              have HNX2 : Hid (lessE l[i] (x, y, t) = true → TabPre n l (i + 1 + 1)) := hid (fun h => by
                refine HNX HOKE.out (fun k hk => ?_)
                obtain rfl : k = i := by omega
                exact h)
              rw [← HE.out] at HNL
              obtain ⟨pe, hpe⟩ : ∃ e, e = l[i] := ⟨_, rfl⟩
              rw [← hpe] at s0 s1 s2 HNL HNX2
              obtain ⟨px, py, pt⟩ := pe
              dsimp only at s0 s1 s2
              have j9 : IntKind.i64.wrap ((i : Int) + 1 - 1) = (i : Int) := by rw [IntKind.wrap_i64]; omega
              have j8 : (i : Int) + 1 < (m : Int) := by omega
              have j10 : IntKind.i64.wrap (((i + 1 : Nat) : Int) - 1) = (i : Int) := by rw [IntKind.wrap_i64]; omega
              have j7 : (i : Int) < (m : Int) := by omega
              have j6 : (0 : Int) ≤ (i : Int) := by omega
              have j5 : (0 : Int) < ((i + 1 : Nat) : Int) := by omega
              have j4 : (0 : Int) < (i : Int) + 1 := by omega
              have j3 : IntKind.i64.wrap (i : Int) = (i : Int) := IntWalk.i64_in _ (by omega)
              have jm : (m : Int) ≤ 9223372036854775807 := by omega
              clear HNX HE hil hil2 hc6 r0 r1 r2 hpe q0 q1 q2
              have NK := Nat.lt_succ_self w1.heap.size
              obtain ⟨KB, hKB⟩ : ∃ K, K = w1.heap.size := ⟨_, rfl⟩
              obtain ⟨w2, hw2⟩ : ∃ W, W = w1.alloc (.cells #[.int .i64 x, .int .i64 y, .int .i64 t] 61) := ⟨_, rfl⟩
              have HB2 : Hid (Below w.heap.size w w2) := hid (by rw [hw2]; exact HBN.out)
              rw [← hKB, ← hw2] at e0 e1 e2 ⊢
              rw [← hw2] at s0 s1 s2
              clear hKB hw2 NK HBN
              cases hls : lessE (px, py, pt) (x, y, t) with
              | true =>
                have HN2 := hid (HNX2.out hls)
                have HLS := hid hls
                clear hls
                go_region_held3 (fun w' => w'.cell? ⟨b6, o6 + i * 3, none⟩ = some (.int .i64 px) ∧ w'.cell? ⟨b6, o6 + i * 3 + 1, none⟩ = some (.int .i64 py) ∧ w'.cell? ⟨b6, o6 + i * 3 + 2, none⟩ = some (.int .i64 pt) ∧ w'.cell? ⟨KB, 0, none⟩ = some (.int .i64 x) ∧ w'.cell? ⟨KB, 1, none⟩ = some (.int .i64 y) ∧ w'.cell? ⟨KB, 2, none⟩ = some (.int .i64 t))
                  (first | go_keep | (go_split_ands; and_intros <;> (first | (refine cell_later (by assumption) ?_; first | assumption | (rw [Qt.cell (qt_of _ _)]; assumption) | (rw [Qt.cell (qt_drew _)]; assumption)) | (refine cell_later (bel_new _ _) ?_; assumption))) | (refine cell_later (by assumption) ?_; first | assumption | (rw [Qt.cell (qt_of _ _)]; assumption) | (rw [Qt.cell (qt_drew _)]; assumption)) | (refine cell_later (bel_new _ _) ?_; assumption))
                  ((go_at_call 56; (with_reducible refine (less_is true HLS.out _).mono ?_); rintro e w5 ⟨rfl, b5⟩))
                all_goals
                  go_wp2_with fail
                  go_roundw
                  case rel => exact ⟨i + 1 + 1, by omega, by go_num, HN2, hid (by repeat (first | exact HB2.out | refine Bl.new ?_ _ | refine Bl.call ?_ (by assumption) | refine Bl.qt ?_ (by assumption) | refine Bl.qt ?_ (qt_drew _) | refine Bl.qt ?_ (qt_of _ _)))⟩
                  case measure => simp [intOf]; omega
              | false =>
                have HF := hid (HNL.out hls)
                have HLS := hid hls
                clear hls
                go_region_held3 (fun w' => w'.cell? ⟨b6, o6 + i * 3, none⟩ = some (.int .i64 px) ∧ w'.cell? ⟨b6, o6 + i * 3 + 1, none⟩ = some (.int .i64 py) ∧ w'.cell? ⟨b6, o6 + i * 3 + 2, none⟩ = some (.int .i64 pt) ∧ w'.cell? ⟨KB, 0, none⟩ = some (.int .i64 x) ∧ w'.cell? ⟨KB, 1, none⟩ = some (.int .i64 y) ∧ w'.cell? ⟨KB, 2, none⟩ = some (.int .i64 t))
                  (first | go_keep | (go_split_ands; and_intros <;> (first | (refine cell_later (by assumption) ?_; first | assumption | (rw [Qt.cell (qt_of _ _)]; assumption) | (rw [Qt.cell (qt_drew _)]; assumption)) | (refine cell_later (bel_new _ _) ?_; assumption))) | (refine cell_later (by assumption) ?_; first | assumption | (rw [Qt.cell (qt_of _ _)]; assumption) | (rw [Qt.cell (qt_drew _)]; assumption)) | (refine cell_later (bel_new _ _) ?_; assumption))
                  ((go_at_call 56; (with_reducible refine (less_is false HLS.out _).mono ?_); rintro e w5 ⟨rfl, b5⟩))
                all_goals
                  go_wp2
                  go_ret
                  exact ⟨by rw [HF.out]; rfl, (by repeat (first | exact HB2.out | refine Bl.new ?_ _ | refine Bl.call ?_ (by assumption) | refine Bl.qt ?_ (by assumption) | refine Bl.qt ?_ (qt_drew _) | refine Bl.qt ?_ (qt_of _ _)))⟩
        · have j0 : ¬ (i : Int) < (m : Int) := by omega
          obtain rfl : i = m := by omega
          have HF : Hid (b = true) := hid (HB.out.1 ⟨HN.out, by rw [HL.out]; exact HP.out⟩)
          go_wp2
          go_ret
          exact ⟨by rw [HF.out]; rfl, HBr.out⟩
end Go.Proofs.Ytbafbnkmmpaomaa
