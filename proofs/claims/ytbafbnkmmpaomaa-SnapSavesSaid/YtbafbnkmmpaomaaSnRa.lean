/- Contracts of the document's Less, Right of a table, Forest. -/
import Derived.Test.YtbafbnkmmpaomaaSnO
import Derived.Test.YtbafbnkmmpaomaaSnCv
namespace Go.Proofs.Ytbafbnkmmpaomaa
open Go.RowKit
set_option linter.unusedVariables false
set_option linter.unusedSimpArgs false
attribute [local go_sem ↓] Go.wp_at_zero Go.wp_at_succ
theorem rless_any (x y t x2 y2 t2 : Int) (w : World) :
    Calls Try.prog 53 #[.agg #[.int .i64 x, .int .i64 y, .int .i64 t], .agg #[.int .i64 x2, .int .i64 y2, .int .i64 t2]] w fun e w' => e = .returned (.bool (lessE (x, y, t) (x2, y2, t2))) ∧ Below w.heap.size w w' := by
  have hb : Below w.heap.size w ((w.alloc (.cells #[.int .i64 x, .int .i64 y, .int .i64 t] 61)).alloc (.cells #[.int .i64 x2, .int .i64 y2, .int .i64 t2] 61)) := Bl.new (bel_new _ _) _
  have HB := hid hb
  clear hb
  rcases Int.lt_trichotomy x x2 with h | h | h
  · have h2 : (x != x2) = true := by simp; omega
    have H : Hid (lessE (x, y, t) (x2, y2, t2) = true) := hid (by simp [lessE, h])
    go_enter Try.func53, Try.ntmps53
    go_wp2
    go_ret
    exact ⟨by rw [H.out]; exact ret_bool (by simp [h]), HB.out⟩
  · subst h
    by_cases hy : y < y2
    · have H : Hid (lessE (x, y, t) (x, y2, t2) = true) := hid (by simp [lessE, hy])
      go_enter Try.func53, Try.ntmps53
      go_wp2
      go_ret
      exact ⟨by rw [H.out]; exact ret_bool (by simp [hy]), HB.out⟩
    · have H : Hid (lessE (x, y, t) (x, y2, t2) = false) := hid (by simp [lessE, hy])
      go_enter Try.func53, Try.ntmps53
      go_wp2
      go_ret
      exact ⟨by rw [H.out]; exact ret_bool (by simp [hy]), HB.out⟩
  · have h2 : (x != x2) = true := by simp; omega
    have h1 : ¬ x < x2 := by omega
    have H : Hid (lessE (x, y, t) (x2, y2, t2) = false) := hid (by simp [lessE]; omega)
    go_enter Try.func53, Try.ntmps53
    go_wp2
    go_ret
    exact ⟨by rw [H.out]; exact ret_bool (by simp [h1]), HB.out⟩
theorem rless_is {x y t x2 y2 t2 : Int} (b : Bool) (h : lessE (x, y, t) (x2, y2, t2) = b) (w : World) :
    Calls Try.prog 53 #[.agg #[.int .i64 x, .int .i64 y, .int .i64 t], .agg #[.int .i64 x2, .int .i64 y2, .int .i64 t2]] w fun e w' => e = .returned (.bool b) ∧ Below w.heap.size w w' := by
  subst h; exact rless_any _ _ _ _ _ _ _
set_option maxRecDepth 100000 in
set_option maxHeartbeats 8000000 in
theorem rtright_is {n : Int} {v : Value} {m : Nat} {l : List (Int × Int × Int)} {w : World} (hs : Sl w w.heap.size 3 v m (eds l)) (b : Bool) (hb : TabR n l ↔ b = true) :
    Calls Try.prog 42 #[.int .i64 n, v] w fun e w' => e = .returned (.bool b) ∧ Below w.heap.size w w' := by
  have hl : l.length = m := by have := hs.len; rw [len_eds] at this; omega
  have HB := hid hb
  obtain ⟨A, c, rfl, hnc, hcm, hll, hx⟩ := hs
  have hm : m ≤ 9223372036854775807 := by unfold maxLen at hcm; omega
  have HX := hid hx
  have HL := hid hl
  clear hx hll hl hb hcm hnc
  by_cases h1 : 0 ≤ n
  case neg =>
    have HF : Hid (b = false) := hid (by cases b with | false => rfl | true => exact absurd (HB.out.2 rfl).1.1 h1)
    go_enter Try.func42, Try.ntmps42
    go_wp2
    go_ret
    exact ⟨by rw [HF.out]; rfl, Below.refl _ _⟩
  case pos =>
    by_cases h2 : n ≤ 1024
    case neg =>
      have HF : Hid (b = false) := hid (by cases b with | false => rfl | true => exact absurd (HB.out.2 rfl).1.2 h2)
      go_enter Try.func42, Try.ntmps42
      go_wp2
      go_ret
      exact ⟨by rw [HF.out]; rfl, Below.refl _ _⟩
    case pos =>
      have HN := hid (And.intro h1 h2)
      go_enter Try.func42, Try.ntmps42
      go_wp2_with fail
      go_loopw [5] (fun iv wr => ∃ i : Nat, i ≤ m ∧ iv = .int .i64 (i : Int) ∧ Hid (TabPre n l i) ∧ Hid (Below w.heap.size w wr)) (fun iv _ => m - (intOf iv).toNat)
      case atStart => exact ⟨0, Nat.zero_le _, rfl, hid (fun j _ hj => absurd hj (Nat.not_lt_zero _)), hid (Below.refl _ _)⟩
      case round =>
        obtain ⟨i, hi, rfl, HP, HBr⟩ := hrel
        obtain ⟨w1, rfl⟩ : ∃ x, x = wr := ⟨wr, rfl⟩
        by_cases hlt : i < m
        · have j0 : (i : Int) < (m : Int) := by omega
          have hil : i < l.length := by rw [HL.out]; exact hlt
          obtain ⟨b6, o6, rfl, hb6, hc6⟩ := HX.out (by omega)
          obtain ⟨p0, p1, p2⟩ := eds_cell hc6 hil
          have q0 := (HBr.out.cell (p := ⟨b6, o6 + i * 3, none⟩) hb6).trans p0
          have q1 := (HBr.out.cell (p := ⟨b6, o6 + i * 3 + 1, none⟩) hb6).trans p1
          have q2 := (HBr.out.cell (p := ⟨b6, o6 + i * 3 + 2, none⟩) hb6).trans p2
          have HNO := hid (tab_no HB.out hil)
          have HNX := hid (fun (h1 : EdOk n l[i]) (h2 : ∀ k, (hk : k + 1 = i) → lessE (l[k]'(by omega)) l[i] = true) => tab_next HP.out (fun _ => ⟨h1, h2⟩))
          obtain ⟨e, he⟩ : ∃ e, e = l[i] := ⟨_, rfl⟩
          rw [← he] at q0 q1 q2 HNO HNX
          have HE := hid he
          obtain ⟨x, y, t⟩ := e
          dsimp only at q0 q1 q2
          clear he p0 p1 p2
          have HOKE : Hid (0 ≤ x → x < y → y < n → 0 ≤ t → t ≤ 16 → EdOk n (x, y, t)) := hid (fun l1 l2 l3 l4 l5 => ⟨l1, l2, l3, l4, l5⟩)
          by_cases k1 : x < 0
          case pos =>
            have HF : Hid (b = false) := hid (HNO (fun h => by simp only [EdOk] at h; omega))
            clear HNO HNX HE hil hc6
            go_wp2_with fail
            go_quiet (fail)
            go_wp2
            go_ret
            exact ⟨by rw [HF.out]; rfl, Bl.qt HBr.out (qt_of _ _)⟩
          by_cases k2 : y ≤ x
          case pos =>
            have HF : Hid (b = false) := hid (HNO (fun h => by simp only [EdOk] at h; omega))
            clear HNO HNX HE hil hc6
            go_wp2_with fail
            go_quiet (fail)
            go_wp2
            go_ret
            exact ⟨by rw [HF.out]; rfl, Bl.qt HBr.out (qt_of _ _)⟩
          by_cases k3 : n ≤ y
          case pos =>
            have HF : Hid (b = false) := hid (HNO (fun h => by simp only [EdOk] at h; omega))
            clear HNO HNX HE hil hc6
            go_wp2_with fail
            go_quiet (fail)
            go_wp2
            go_ret
            exact ⟨by rw [HF.out]; rfl, Bl.qt HBr.out (qt_of _ _)⟩
          by_cases k4 : t < 0
          case pos =>
            have HF : Hid (b = false) := hid (HNO (fun h => by simp only [EdOk] at h; omega))
            clear HNO HNX HE hil hc6
            go_wp2_with fail
            go_quiet (fail)
            go_wp2
            go_ret
            exact ⟨by rw [HF.out]; rfl, Bl.qt HBr.out (qt_of _ _)⟩
          by_cases k5 : 16 < t
          case pos =>
            have HF : Hid (b = false) := hid (HNO (fun h => by simp only [EdOk] at h; omega))
            clear HNO HNX HE hil hc6
            go_wp2_with fail
            go_quiet (fail)
            go_wp2
            go_ret
            exact ⟨by rw [HF.out]; rfl, Bl.qt HBr.out (qt_of _ _)⟩
          have HED := hid (HOKE.out (by omega) (by omega) (by omega) (by omega) (by omega))
          clear HNO HOKE
          go_wp2_with fail
          go_quiet (fail)
          cases i with
          | zero =>
            have HN2 := hid (HNX HED.out (fun k hk => by omega))
            clear HNX HE hil hc6 q0 q1 q2
            go_wp2_with fail
            go_quiet (fail)
            go_wp2_with fail
            go_roundw
            case rel => exact ⟨1, by omega, rfl, HN2, hid (Bl.qt HBr.out (qt_of _ _))⟩
            case measure => simp [intOf]; omega
          | succ i =>
            have hil2 : i < l.length := by omega
            obtain ⟨r0, r1, r2⟩ := eds_cell hc6 hil2
            have s0 := (HBr.out.cell (p := ⟨b6, o6 + i * 3, none⟩) hb6).trans r0
            have s1 := (HBr.out.cell (p := ⟨b6, o6 + i * 3 + 1, none⟩) hb6).trans r1
            have s2 := (HBr.out.cell (p := ⟨b6, o6 + i * 3 + 2, none⟩) hb6).trans r2
            have HNL := hid (fun h : lessE l[i] l[i + 1] = false => tab_no2 HB.out hil h)
            have HNX2 : Hid (lessE l[i] (x, y, t) = true → TabPre n l (i + 1 + 1)) := hid (fun h => by
              refine HNX HED.out (fun k hk => ?_)
              obtain rfl : k = i := by omega
              exact h)
            rw [← HE.out] at HNL
            obtain ⟨pe, hpe⟩ : ∃ e, e = l[i] := ⟨_, rfl⟩
            rw [← hpe] at s0 s1 s2 HNL HNX2
            obtain ⟨px, py, pt⟩ := pe
            dsimp only at s0 s1 s2
            have j9 : IntKind.i64.wrap ((i : Int) + 1 - 1) = (i : Int) := by rw [IntKind.wrap_i64]; omega
            have j8 : (i : Int) + 1 < (m : Int) := by omega
            have j10 : IntKind.i64.wrap (((i + 1 : Nat) : Int) - 1) = (i : Int) := by rw [IntKind.wrap_i64]; omega
            have j7 : (i : Int) < (m : Int) := by omega
            have j6 : (0 : Int) ≤ (i : Int) := by omega
            have j5 : (0 : Int) < ((i + 1 : Nat) : Int) := by omega
            have j4 : (0 : Int) < (i : Int) + 1 := by omega
            have j3 : IntKind.i64.wrap (i : Int) = (i : Int) := IntWalk.i64_in _ (by omega)
            have jm : (m : Int) ≤ 9223372036854775807 := by omega
            have j2 : (0 : Int) ≤ (i : Int) + 1 := by omega
            have j1 : ((i : Int) + 1).toNat = i + 1 := by omega
            clear HNX HE hil hil2 hc6 r0 r1 r2 hpe
            go_wp2_with fail
            generalize hw2 : World.drewN w1 _ = w2
            have hq2 : Qt w1 w2 := ⟨_, hw2.symm⟩
            have HB2 := hid (Bl.qt HBr.out hq2)
            rw [← hq2.cell] at q0 q1 q2 s0 s1 s2
            clear hw2 hq2
            cases hls : lessE (px, py, pt) (x, y, t) with
            | true =>
              have HN2 := hid (HNX2.out hls)
              have HLS := hid hls
              clear hls
              go_region_held3 (fun w' => w'.cell? ⟨b6, o6 + i * 3, none⟩ = some (.int .i64 px) ∧ w'.cell? ⟨b6, o6 + i * 3 + 1, none⟩ = some (.int .i64 py) ∧ w'.cell? ⟨b6, o6 + i * 3 + 2, none⟩ = some (.int .i64 pt) ∧ w'.cell? ⟨b6, o6 + (i + 1) * 3, none⟩ = some (.int .i64 x) ∧ w'.cell? ⟨b6, o6 + (i + 1) * 3 + 1, none⟩ = some (.int .i64 y) ∧ w'.cell? ⟨b6, o6 + (i + 1) * 3 + 2, none⟩ = some (.int .i64 t))
                (first | go_keep | (go_split_ands; and_intros <;> (first | (refine cell_later (by assumption) ?_; first | assumption | (rw [Qt.cell (qt_of _ _)]; assumption) | (rw [Qt.cell (qt_drew _)]; assumption)) | (refine cell_later (bel_new _ _) ?_; assumption))) | (refine cell_later (by assumption) ?_; first | assumption | (rw [Qt.cell (qt_of _ _)]; assumption) | (rw [Qt.cell (qt_drew _)]; assumption)) | (refine cell_later (bel_new _ _) ?_; assumption))
                ((go_at_call 53; (with_reducible refine (rless_is true HLS.out _).mono ?_); rintro e w5 ⟨rfl, b5⟩))
              all_goals
                go_wp2_with fail
                go_roundw
                case rel => exact ⟨i + 1 + 1, by omega, by go_num, HN2, hid (by repeat (first | exact HB2.out | refine Bl.new ?_ _ | refine Bl.call ?_ (by assumption) | refine Bl.qt ?_ (by assumption) | refine Bl.qt ?_ (qt_drew _) | refine Bl.qt ?_ (qt_of _ _)))⟩
                case measure => simp [intOf]; omega
            | false =>
              have HF := hid (HNL.out hls)
              have HLS := hid hls
              clear hls
              go_region_held3 (fun w' => w'.cell? ⟨b6, o6 + i * 3, none⟩ = some (.int .i64 px) ∧ w'.cell? ⟨b6, o6 + i * 3 + 1, none⟩ = some (.int .i64 py) ∧ w'.cell? ⟨b6, o6 + i * 3 + 2, none⟩ = some (.int .i64 pt) ∧ w'.cell? ⟨b6, o6 + (i + 1) * 3, none⟩ = some (.int .i64 x) ∧ w'.cell? ⟨b6, o6 + (i + 1) * 3 + 1, none⟩ = some (.int .i64 y) ∧ w'.cell? ⟨b6, o6 + (i + 1) * 3 + 2, none⟩ = some (.int .i64 t))
                (first | go_keep | (go_split_ands; and_intros <;> (first | (refine cell_later (by assumption) ?_; first | assumption | (rw [Qt.cell (qt_of _ _)]; assumption) | (rw [Qt.cell (qt_drew _)]; assumption)) | (refine cell_later (bel_new _ _) ?_; assumption))) | (refine cell_later (by assumption) ?_; first | assumption | (rw [Qt.cell (qt_of _ _)]; assumption) | (rw [Qt.cell (qt_drew _)]; assumption)) | (refine cell_later (bel_new _ _) ?_; assumption))
                ((go_at_call 53; (with_reducible refine (rless_is false HLS.out _).mono ?_); rintro e w5 ⟨rfl, b5⟩))
              all_goals
                go_wp2
                go_ret
                exact ⟨by rw [HF.out]; rfl, (by repeat (first | exact HB2.out | refine Bl.new ?_ _ | refine Bl.call ?_ (by assumption) | refine Bl.qt ?_ (by assumption) | refine Bl.qt ?_ (qt_drew _) | refine Bl.qt ?_ (qt_of _ _)))⟩
        · have j0 : ¬ (i : Int) < (m : Int) := by omega
          obtain rfl : i = m := by omega
          have HF : Hid (b = true) := hid (HB.out.1 ⟨HN.out, by rw [HL.out]; exact HP.out⟩)
          go_wp2
          go_ret
          exact ⟨by rw [HF.out]; rfl, HBr.out⟩
end Go.Proofs.Ytbafbnkmmpaomaa
