/- Contract of search.Right. -/
import Derived.Test.YtbafbnkmmpaomaaSnE
namespace Go.Proofs.Ytbafbnkmmpaomaa
open Go.RowKit
set_option linter.unusedVariables false
set_option linter.unusedSimpArgs false
attribute [local go_sem ↓] Go.wp_at_zero Go.wp_at_succ
/-- The cells of hashes. -/
def hcz (l : List (Int × Int)) : List Value := l.flatMap fun h => [.int .u64 h.1, .int .u64 h.2]
theorem len_hcz (l : List (Int × Int)) : (hcz l).length = l.length * 2 := by
  induction l with
  | nil => rfl
  | cons e l ih => simp [hcz] at ih ⊢; omega
theorem hcz_at (l : List (Int × Int)) (k : Nat) (h : k < l.length) : (hcz l)[k * 2]? = some (.int .u64 l[k].1) ∧ (hcz l)[k * 2 + 1]? = some (.int .u64 l[k].2) := by
  induction l generalizing k with
  | nil => simp at h
  | cons e l ih =>
    cases k with
    | zero => simp [hcz]
    | succ k =>
      have := ih k (by simpa using h)
      simp only [hcz, List.flatMap_cons, List.getElem_cons_succ] at this ⊢
      rw [show (k + 1) * 2 = (k * 2) + 2 by omega]
      exact this
theorem hcz_app (p q : List (Int × Int)) : hcz p ++ hcz q = hcz (p ++ q) := by simp [hcz]
theorem hcz_one (l : List (Int × Int)) : ∀ u ∈ hcz l, u.oneCell' = true := by
  intro u hu
  obtain ⟨_, _, h⟩ := List.mem_flatMap.1 hu
  simp at h
  rcases h with rfl | rfl <;> rfl
theorem hcz_cell {w : World} {b o : Nat} {l : List (Int × Int)} (h : ∀ j u, (hcz l)[j]? = some u → w.cell? ⟨b, o + j, none⟩ = some u) {k : Nat} (hk : k < l.length) :
    w.cell? ⟨b, o + k * 2, none⟩ = some (.int .u64 l[k].1) ∧ w.cell? ⟨b, o + k * 2 + 1, none⟩ = some (.int .u64 l[k].2) := by
  have e := hcz_at l k hk
  exact ⟨h _ _ e.1, by rw [Nat.add_assoc]; exact h _ _ e.2⟩
def GSz (N L R : Int) : Prop := 1 ≤ N ∧ N ≤ 1024 ∧ 1 ≤ L ∧ L ≤ 16 ∧ 1 ≤ R ∧ R ≤ 8
def HsOk (hs : List (Int × Int)) (i : Nat) : Prop := ∀ j, (h : j < hs.length) → j < i → hs[j].1 < 2305843009213693951 ∧ hs[j].2 < 2305843009213693951
def TrOk (L : Int) (es : List (Int × Int × Int)) (i : Nat) : Prop := ∀ j, (h : j < es.length) → j < i → es[j].2.2 ≤ L
/-- What may be a graph. -/
def GR (N L R : Int) (hs : List (Int × Int)) (es : List (Int × Int × Int)) : Prop :=
  GSz N L R ∧ (hs.length : Int) = L * R ∧ HsOk hs hs.length ∧ TabR N es ∧ TrOk L es es.length ∧ Pt.Fst N.toNat (Pt.uv (frs L es))
theorem not_true {p : Prop} {b : Bool} (h : p ↔ b = true) (hn : ¬ p) : b = false := by
  cases b with
  | false => rfl
  | true => exact absurd (h.2 rfl) hn
theorem hs_next {hs : List (Int × Int)} {i : Nat} (hp : HsOk hs i) (h1 : ∀ h : i < hs.length, hs[i].1 < 2305843009213693951 ∧ hs[i].2 < 2305843009213693951) : HsOk hs (i + 1) := by
  intro j h hj
  rcases Nat.lt_or_ge j i with h3 | h3
  · exact hp j h h3
  · have : j = i := by omega
    subst this; exact h1 h
theorem tr_next {L : Int} {es : List (Int × Int × Int)} {i : Nat} (hp : TrOk L es i) (h1 : ∀ h : i < es.length, es[i].2.2 ≤ L) : TrOk L es (i + 1) := by
  intro j h hj
  rcases Nat.lt_or_ge j i with h3 | h3
  · exact hp j h h3
  · have : j = i := by omega
    subst this; exact h1 h
/-- A graph as a value. -/
def grV (N L R : Int) (vh ve : Value) : Value := .agg #[.int .i64 N, .int .i64 L, .int .i64 R, vh, ve]
set_option maxRecDepth 100000 in
set_option maxHeartbeats 16000000 in
theorem gr_any {N L R : Int} {vh ve : Value} {nh ne : Nat} {hs : List (Int × Int)} {es : List (Int × Int × Int)} {w : World} (h1 : Sl w w.heap.size 2 vh nh (hcz hs)) (h2 : Sl w w.heap.size 3 ve ne (eds es)) (hn : ne ≤ 1000000)
    (b : Bool) (hb : GR N L R hs es ↔ b = true) :
    Calls Try.prog 31 #[grV N L R vh ve] w fun e w' => e = .returned (.bool b) ∧ Below w.heap.size w w' := by
  have hl1 : hs.length = nh := by have := h1.len; rw [len_hcz] at this; omega
  have hl2 : es.length = ne := by have := h2.len; rw [len_eds] at this; omega
  have S1 := hid h1
  have S2 := hid h2
  have HB := hid hb
  have HL1 := hid hl1
  have HL2 := hid hl2
  obtain ⟨A1, c1, rfl, hnc1, hcm1, -, hx1⟩ := h1
  obtain ⟨A2, c2, rfl, hnc2, hcm2, -, hx2⟩ := h2
  have hm1 : nh ≤ 9223372036854775807 := by unfold maxLen at hcm1; omega
  have hm2 : ne ≤ 9223372036854775807 := by omega
  have HX1 := hid hx1
  have HX2 := hid hx2
  clear hx1 hx2 hl1 hl2 hb hcm1 hcm2 hnc1 hnc2
  unfold grV
  have HBB : Hid (Below w.heap.size w ((w.alloc (.cells #[.int .i64 N, .int .i64 L, .int .i64 R, .slice A1 nh c1, .slice A2 ne c2] 27)).alloc (.cells #[.int .i64 N, .int .i64 L, .int .i64 R] 23))) := hid (Bl.new (bel_new _ _) _)
  by_cases g0 : 1 ≤ N
  case neg =>
    have HF : Hid (b = false) := hid (not_true HB.out (fun h => by have h2 := h.1; unfold GSz at h2; omega))
    go_enter Try.func31, Try.ntmps31
    go_wp2
    go_ret
    exact ⟨by rw [HF.out]; rfl, HBB.out⟩
  case pos =>
  by_cases g1 : N ≤ 1024
  case neg =>
    have HF : Hid (b = false) := hid (not_true HB.out (fun h => by have h2 := h.1; unfold GSz at h2; omega))
    go_enter Try.func31, Try.ntmps31
    go_wp2
    go_ret
    exact ⟨by rw [HF.out]; rfl, HBB.out⟩
  case pos =>
  by_cases g2 : 1 ≤ L
  case neg =>
    have HF : Hid (b = false) := hid (not_true HB.out (fun h => by have h2 := h.1; unfold GSz at h2; omega))
    go_enter Try.func31, Try.ntmps31
    go_wp2
    go_ret
    exact ⟨by rw [HF.out]; rfl, HBB.out⟩
  case pos =>
  by_cases g3 : L ≤ 16
  case neg =>
    have HF : Hid (b = false) := hid (not_true HB.out (fun h => by have h2 := h.1; unfold GSz at h2; omega))
    go_enter Try.func31, Try.ntmps31
    go_wp2
    go_ret
    exact ⟨by rw [HF.out]; rfl, HBB.out⟩
  case pos =>
  by_cases g4 : 1 ≤ R
  case neg =>
    have HF : Hid (b = false) := hid (not_true HB.out (fun h => by have h2 := h.1; unfold GSz at h2; omega))
    go_enter Try.func31, Try.ntmps31
    go_wp2
    go_ret
    exact ⟨by rw [HF.out]; rfl, HBB.out⟩
  case pos =>
  by_cases g5 : R ≤ 8
  case neg =>
    have HF : Hid (b = false) := hid (not_true HB.out (fun h => by have h2 := h.1; unfold GSz at h2; omega))
    go_enter Try.func31, Try.ntmps31
    go_wp2
    go_ret
    exact ⟨by rw [HF.out]; rfl, HBB.out⟩
  case pos =>
  have HSZ : Hid (GSz N L R) := hid ⟨g0, g1, g2, g3, g4, g5⟩
  obtain ⟨lr, hlr⟩ : ∃ lr, L * R = lr := ⟨_, rfl⟩
  have hlr1 : lr ≤ 128 := by rw [← hlr]; exact Int.le_trans (Int.mul_le_mul g3 g5 (by omega) (by omega)) (by decide)
  have hlr0 : 0 ≤ lr := by rw [← hlr]; exact Int.mul_nonneg (by omega) (by omega)
  have HLR := hid hlr
  by_cases k1 : (nh : Int) = lr
  case neg =>
    have k2 : ((nh : Int) != lr) = true := by simp [k1]
    have HF : Hid (b = false) := hid (not_true HB.out (fun h => k1 (by rw [← HLR.out, ← h.2.1, HL1.out])))
    clear k1
    go_enter Try.func31, Try.ntmps31
    go_wp2
    go_ret
    exact ⟨by rw [HF.out]; rfl, HBB.out⟩
  case pos =>
  have k2 : ((nh : Int) != lr) = false := by simp [k1]
  have HLL : Hid ((hs.length : Int) = L * R) := hid (by rw [HL1.out, HLR.out, k1])
  clear k1
  go_enter Try.func31, Try.ntmps31
  go_wp2_with fail
  obtain ⟨KG, hKG⟩ : ∃ K, K = w.heap.size := ⟨_, rfl⟩
  obtain ⟨w2, hw2⟩ : ∃ W, W = ((w.alloc (.cells #[.int .i64 N, .int .i64 L, .int .i64 R, .slice A1 nh c1, .slice A2 ne c2] 27)).alloc (.cells #[.int .i64 N, .int .i64 L, .int .i64 R] 23)) := ⟨_, rfl⟩
  have HB2 : Hid (Below w.heap.size w w2) := hid (by rw [hw2]; exact HBB.out)
  have DG : Hid (Blk w2 KG 27 [.int .i64 N, .int .i64 L, .int .i64 R, .slice A1 nh c1, .slice A2 ne c2]) := hid (by rw [hw2, hKG]; exact (Blk.new _ _ _).alloc _)
  have DC : Hid (Blk w2 (KG + 1) 23 [.int .i64 N, .int .i64 L, .int .i64 R]) := hid (by rw [hw2, hKG]; have := Blk.new (w.alloc (.cells #[.int .i64 N, .int .i64 L, .int .i64 R, .slice A1 nh c1, .slice A2 ne c2] 27)) 23 [.int .i64 N, .int .i64 L, .int .i64 R]; simpa using this)
  rw [← hKG, ← hw2]
  clear hKG hw2 HBB k2 hlr
  go_loopw [50] (fun iv wr => ∃ i : Nat, i ≤ nh ∧ iv = .int .i64 (i : Int) ∧ Hid (HsOk hs i) ∧ Hid (Below w2.heap.size w2 wr)) (fun iv _ => nh - (intOf iv).toNat)
  case atStart => exact ⟨0, Nat.zero_le _, rfl, hid (fun j _ h => absurd h (Nat.not_lt_zero _)), hid (Below.refl _ _)⟩
  case round =>
    obtain ⟨i, hi, rfl, HP, HBr⟩ := hrel
    obtain ⟨w3, rfl⟩ : ∃ x, x = wr := ⟨wr, rfl⟩
    by_cases hlt : i < nh
    case pos =>
      have j0 : (i : Int) < (nh : Int) := by omega
      have hil : i < hs.length := by rw [HL1.out]; exact hlt
      obtain ⟨b6, o6, rfl, hb6, hc6⟩ := HX1.out (by omega)
      obtain ⟨p0, p1⟩ := hcz_cell hc6 hil
      have hb7 := Nat.lt_of_lt_of_le hb6 HB2.out.size
      have q0 := (HBr.out.cell (p := ⟨b6, o6 + i * 2, none⟩) hb7).trans ((HB2.out.cell (p := ⟨b6, o6 + i * 2, none⟩) hb6).trans p0)
      have q1 := (HBr.out.cell (p := ⟨b6, o6 + i * 2 + 1, none⟩) hb7).trans ((HB2.out.cell (p := ⟨b6, o6 + i * 2 + 1, none⟩) hb6).trans p1)
      have HNX := hid (fun h : hs[i].1 < 2305843009213693951 ∧ hs[i].2 < 2305843009213693951 => hs_next HP.out (fun _ => h))
      have HNO := hid (fun h : ¬ (hs[i].1 < 2305843009213693951 ∧ hs[i].2 < 2305843009213693951) => not_true HB.out (fun g => h (g.2.2.1 i hil hil)))
      obtain ⟨e, he⟩ : ∃ e, e = hs[i] := ⟨_, rfl⟩
      rw [← he] at q0 q1 HNX HNO
      obtain ⟨x, y⟩ := e
      dsimp only at q0 q1 HNX HNO
      clear he p0 p1 hc6 hb7 hil
      have HBN := hid (Bl.new HBr.out (.cells #[.int .u64 x, .int .u64 y] 59))
      by_cases k1 : x < 2305843009213693951
      case neg =>
        have HF := hid (HNO.out (fun h => k1 h.1))
        have k3 : (2305843009213693951 : Int) ≤ x := by omega
        clear k1 HNO HNX
        go_wp2
        go_ret
        exact ⟨by rw [HF.out]; rfl, HB2.out.trans (HBN.out.mono HB2.out.size)⟩
      case pos =>
      by_cases k2 : y < 2305843009213693951
      case neg =>
        have HF := hid (HNO.out (fun h => k2 h.2))
        have k3 : (2305843009213693951 : Int) ≤ y := by omega
        clear k2 HNO HNX
        go_wp2
        go_ret
        exact ⟨by rw [HF.out]; rfl, HB2.out.trans (HBN.out.mono HB2.out.size)⟩
      case pos =>
        have HN := hid (HNX.out ⟨k1, k2⟩)
        have k3 : ¬ (2305843009213693951 : Int) ≤ x := by omega
        have k4 : ¬ (2305843009213693951 : Int) ≤ y := by omega
        clear HNO HNX k1 k2
        go_wp2_with fail
        go_roundw
        case rel => exact ⟨i + 1, by omega, by go_num, HN, HBN⟩
        case measure => simp [intOf]; omega
    case neg =>
      obtain rfl : i = nh := by omega
      have j0 : ¬ (i : Int) < (i : Int) := by omega
      have HP1 : Hid (HsOk hs hs.length) := hid (by rw [HL1.out]; exact HP.out)
      have S2r := hid ((S2.out.call HB2.out).call HBr.out)
      have DG3 := hid (DG.out.below HBr.out DG.out.lt)
      have DC3 := hid (DC.out.below HBr.out DC.out.lt)
      have n0 := DC3.out.cell 0
      have n4 := DG3.out.cell 4
      by_cases ht : TabR N es
      case neg =>
        have HF : Hid (b = false) := hid (not_true HB.out (fun h => ht h.2.2.2.1))
        have HT : Hid (TabR N es ↔ false = true) := hid (by simp only [ht]; simp)
        clear ht
        go_wp2_with fail
        refine (tright_is S2r.out false HT.out).mono ?_; rintro e w4 ⟨rfl, b4⟩
        have HB4 := hid (Bl.call (HB2.out.trans (HBr.out.mono HB2.out.size)) b4)
        clear b4 n0 n4
        go_wp2
        go_ret
        exact ⟨by rw [HF.out]; rfl, HB4.out⟩
      case pos =>
        have HT := hid ht
        clear ht
        go_wp2_with fail
        refine (tright_is S2r.out true ⟨fun _ => rfl, fun _ => HT.out⟩).mono ?_; rintro e w4 ⟨rfl, b4⟩
        have HB4 := hid (Bl.call (HB2.out.trans (HBr.out.mono HB2.out.size)) b4)
        have DG4 := hid (DG3.out.below b4 DG3.out.lt)
        have DC4 := hid (DC3.out.below b4 DC3.out.lt)
        have S24 := hid (S2r.out.call b4)
        clear b4 n0 n4
        have n4 := DG4.out.cell 4
        go_wp2_with fail
        go_loopw [72] (fun iv wr => ∃ i : Nat, i ≤ ne ∧ iv = .int .i64 (i : Int) ∧ Hid (TrOk L es i) ∧ Hid (Below w4.heap.size w4 wr)) (fun iv _ => ne - (intOf iv).toNat)
        case atStart => exact ⟨0, Nat.zero_le _, rfl, hid (fun j _ h => absurd h (Nat.not_lt_zero _)), hid (Below.refl _ _)⟩
        case round =>
          clear n4
          obtain ⟨q, hq, rfl, HQ, HBq⟩ := hrel
          have DG5 := hid (DG4.out.below HBq.out DG4.out.lt)
          have DC5 := hid (DC4.out.below HBq.out DC4.out.lt)
          have S25 := hid (S24.out.call HBq.out)
          have HB5 := hid (HB4.out.trans (HBq.out.mono HB4.out.size))
          by_cases hqt : q < ne
          case pos =>
            have j0 : (q : Int) < (ne : Int) := by omega
            have hil : q < es.length := by rw [HL2.out]; exact hqt
            obtain ⟨b6, o6, rfl, hb6, hc6⟩ := HX2.out (by omega)
            obtain ⟨p0, p1, p2⟩ := eds_cell hc6 hil
            have q0 := (HB5.out.cell (p := ⟨b6, o6 + q * 3, none⟩) hb6).trans p0
            have q1 := (HB5.out.cell (p := ⟨b6, o6 + q * 3 + 1, none⟩) hb6).trans p1
            have q2 := (HB5.out.cell (p := ⟨b6, o6 + q * 3 + 2, none⟩) hb6).trans p2
            have HNX := hid (fun h : es[q].2.2 ≤ L => tr_next HQ.out (fun _ => h))
            have HNO := hid (fun h : ¬ es[q].2.2 ≤ L => not_true HB.out (fun g => h (g.2.2.2.2.1 q hil hil)))
            obtain ⟨e, he⟩ : ∃ e, e = es[q] := ⟨_, rfl⟩
            rw [← he] at q0 q1 q2 HNX HNO
            obtain ⟨x, y, t⟩ := e
            dsimp only at q0 q1 q2 HNX HNO
            clear he p0 p1 p2 hc6 hil
            have HBN := hid (Bl.new HB5.out (.cells #[.int .i64 x, .int .i64 y, .int .i64 t] 61))
            have HBM := hid (HBq.out.alloc HBq.out.size (.cells #[.int .i64 x, .int .i64 y, .int .i64 t] 61))
            have DC6 := hid (DC5.out.alloc (.cells #[.int .i64 x, .int .i64 y, .int .i64 t] 61))
            have m1 := DC6.out.cell 1
            by_cases k1 : t ≤ L
            case neg =>
              have HF := hid (HNO.out k1)
              have k3 : L < t := by omega
              clear k1 HNO HNX
              go_wp2
              go_ret
              exact ⟨by rw [HF.out]; rfl, HBN.out⟩
            case pos =>
              have HN := hid (HNX.out k1)
              have k3 : ¬ L < t := by omega
              clear HNO HNX k1
              go_wp2_with fail
              go_roundw
              case rel => exact ⟨q + 1, by omega, by go_num, HN, HBM⟩
              case measure => simp [intOf]; omega
          case neg =>
            obtain rfl : q = ne := by omega
            have j0 : ¬ (q : Int) < (q : Int) := by omega
            have HQ1 : Hid (TrOk L es es.length) := hid (by rw [HL2.out]; exact HQ.out)
            obtain ⟨n, hnn⟩ := Int.eq_ofNat_of_zero_le (show 0 ≤ N by omega)
            subst hnn
            have hn2 : n ≤ 1024 := by omega
            have HN2 := hid hn2
            have m0 := DC5.out.cell 0
            have m1 := DC5.out.cell 1
            have m4 := DG5.out.cell 4
            by_cases hf : Pt.Fst n (Pt.uv (frs L es))
            case pos =>
              have HFF := hid hf
              have HF : Hid (b = true) := hid (HB.out.1 ⟨HSZ.out, HLL.out, HP1.out, HT.out, HQ1.out, by simpa using hf⟩)
              clear hf
              go_wp2_with fail
              go_region_held3 (fun w' => w'.cell? ⟨KG + 1, 0, none⟩ = some (.int .i64 (n : Int)) ∧ w'.cell? ⟨KG + 1, 1, none⟩ = some (.int .i64 L) ∧ w'.cell? ⟨KG, 4, none⟩ = some (.slice A2 q c2))
                (first | go_keep | (go_split_ands; and_intros <;> (first | (refine cell_later (by assumption) ?_; first | assumption | (rw [Qt.cell (qt_of _ _)]; assumption) | (rw [Qt.cell (qt_drew _)]; assumption)) | (refine cell_later (bel_new _ _) ?_; assumption))) | (refine cell_later (by assumption) ?_; first | assumption | (rw [Qt.cell (qt_of _ _)]; assumption) | (rw [Qt.cell (qt_drew _)]; assumption)) | (refine cell_later (bel_new _ _) ?_; assumption))
                (first | (go_at_call 47; (with_reducible refine (tforest_any (n := (n : Int)) (k := L) (by repeat (first | exact S25.out | refine Sl.new ?_ _ | refine Sl.cqt ?_ (qt_drew _) | refine Sl.cqt ?_ (qt_of _ _) | refine Sl.call ?_ (by assumption) | refine Sl.cqt ?_ (by assumption))) HT.out hn).mono ?_); rintro e w6 ⟨v6, rfl, s6, b6⟩) | (go_at_call 46; (with_reducible refine (gright_yes HN2.out s6 HFF.out).mono ?_); rintro e w7 ⟨rfl, b7⟩))
              all_goals
                go_wp2
                go_ret
                exact ⟨by rw [HF.out]; rfl, (by repeat (first | exact HB5.out | refine Bl.new ?_ _ | refine Bl.call ?_ (by assumption) | refine Bl.qt ?_ (by assumption) | refine Bl.qt ?_ (qt_drew _) | refine Bl.qt ?_ (qt_of _ _)))⟩
            case neg =>
              have HFF := hid hf
              have HF : Hid (b = false) := hid (not_true HB.out (fun h => hf (by have := h.2.2.2.2.2; simpa using this)))
              clear hf
              go_wp2_with fail
              go_region_held3 (fun w' => w'.cell? ⟨KG + 1, 0, none⟩ = some (.int .i64 (n : Int)) ∧ w'.cell? ⟨KG + 1, 1, none⟩ = some (.int .i64 L) ∧ w'.cell? ⟨KG, 4, none⟩ = some (.slice A2 q c2))
                (first | go_keep | (go_split_ands; and_intros <;> (first | (refine cell_later (by assumption) ?_; first | assumption | (rw [Qt.cell (qt_of _ _)]; assumption) | (rw [Qt.cell (qt_drew _)]; assumption)) | (refine cell_later (bel_new _ _) ?_; assumption))) | (refine cell_later (by assumption) ?_; first | assumption | (rw [Qt.cell (qt_of _ _)]; assumption) | (rw [Qt.cell (qt_drew _)]; assumption)) | (refine cell_later (bel_new _ _) ?_; assumption))
                (first | (go_at_call 47; (with_reducible refine (tforest_any (n := (n : Int)) (k := L) (by repeat (first | exact S25.out | refine Sl.new ?_ _ | refine Sl.cqt ?_ (qt_drew _) | refine Sl.cqt ?_ (qt_of _ _) | refine Sl.call ?_ (by assumption) | refine Sl.cqt ?_ (by assumption))) HT.out hn).mono ?_); rintro e w6 ⟨v6, rfl, s6, b6⟩) | (go_at_call 46; (with_reducible refine (gright_no HN2.out s6 HFF.out).mono ?_); rintro e w7 ⟨rfl, b7⟩))
              all_goals
                go_wp2
                go_ret
                exact ⟨by rw [HF.out]; rfl, (by repeat (first | exact HB5.out | refine Bl.new ?_ _ | refine Bl.call ?_ (by assumption) | refine Bl.qt ?_ (by assumption) | refine Bl.qt ?_ (qt_drew _) | refine Bl.qt ?_ (qt_of _ _)))⟩
end Go.Proofs.Ytbafbnkmmpaomaa
