/- Contract of snap.Right. -/
import Derived.Test.YtbafbnkmmpaomaaSnF
namespace Go.Proofs.Ytbafbnkmmpaomaa
open Go.RowKit
set_option linter.unusedVariables false
set_option linter.unusedSimpArgs false
attribute [local go_sem ↓] Go.wp_at_zero Go.wp_at_succ
def usedAt (ss : List (Bool × Int)) (x : Int) : Bool := (ss.getD x.toNat (false, 0)).1
def UsOk (es : List (Int × Int × Int)) (ss : List (Bool × Int)) (i : Nat) : Prop := ∀ j, (h : j < es.length) → j < i → usedAt ss es[j].1 = true ∧ usedAt ss es[j].2.1 = true
/-- What is a state. -/
def SR (N L R : Int) (hs : List (Int × Int)) (es : List (Int × Int × Int)) (ss : List (Bool × Int)) : Prop :=
  GR N L R hs es ∧ Vt.Ok ss ∧ (ss.length : Int) = N ∧ UsOk es ss es.length
theorem us_next {es : List (Int × Int × Int)} {ss : List (Bool × Int)} {i : Nat} (hp : UsOk es ss i) (h1 : ∀ h : i < es.length, usedAt ss es[i].1 = true ∧ usedAt ss es[i].2.1 = true) : UsOk es ss (i + 1) := by
  intro j h hj
  rcases Nat.lt_or_ge j i with h3 | h3
  · exact hp j h h3
  · have : j = i := by omega
    subst this; exact h1 h
theorem kd_yes' {l : List (Bool × Int)} (h : Vt.Ok l) : (kd l).isSome = true := by obtain ⟨d, h1, -⟩ := kd_ok h; rw [h1]; rfl
theorem kd_no' {l : List (Bool × Int)} (h : ¬ Vt.Ok l) : (kd l).isSome = false := by rw [kd_bad h]; rfl
def stV (N L R : Int) (vh ve vs : Value) : Value := .agg #[.int .i64 N, .int .i64 L, .int .i64 R, vh, ve, vs]
theorem used_nat (ss : List (Bool × Int)) {x : Nat} (h : x < ss.length) : usedAt ss (x : Int) = ss[x].1 := by simp [usedAt, List.getD, h]
set_option maxRecDepth 100000 in
set_option maxHeartbeats 16000000 in
theorem sr_any {N L R : Int} {vh ve vs : Value} {nh ne ns : Nat} {hs : List (Int × Int)} {es : List (Int × Int × Int)} {ss : List (Bool × Int)} {w : World} (h1 : Sl w w.heap.size 2 vh nh (hcz hs)) (h2 : Sl w w.heap.size 3 ve ne (eds es)) (h3 : Sl w w.heap.size 2 vs ns (sls ss)) (hn : ne ≤ 1000000)
    (b : Bool) (hb : SR N L R hs es ss ↔ b = true) :
    Calls Try.prog 16 #[stV N L R vh ve vs] w fun e w' => e = .returned (.bool b) ∧ Below w.heap.size w w' := by
  have hl2 : es.length = ne := by have := h2.len; rw [len_eds] at this; omega
  have hl3 : ss.length = ns := by have := h3.len; rw [len_sls] at this; omega
  have S1 := hid h1
  obtain ⟨A1, c1, rfl, -⟩ := h1
  have S2 := hid h2
  have S3 := hid h3
  obtain ⟨A2, c2, rfl, -, -, -, hx2⟩ := h2
  obtain ⟨A3, c3, rfl, hnc3, hcm3, -, hx3⟩ := h3
  have HB := hid hb
  have HL2 := hid hl2
  have HL3 := hid hl3
  have hm3 : ns ≤ 9223372036854775807 := by unfold maxLen at hcm3; omega
  have HX2 := hid hx2
  have HX3 := hid hx3
  clear hx2 hx3 hl2 hl3 hb hcm3 hnc3
  unfold stV
  obtain ⟨w1, hw1⟩ : ∃ W, W = w.alloc (.cells #[.int .i64 N, .int .i64 L, .int .i64 R, .slice A1 nh c1, .slice A2 ne c2, .slice A3 ns c3] 30) := ⟨_, rfl⟩
  obtain ⟨KS, hKS⟩ : ∃ K, K = w.heap.size := ⟨_, rfl⟩
  have b1 : Below w.heap.size w w1 := by rw [hw1]; exact bel_new _ _
  have HB1 := hid b1
  have DS : Hid (Blk w1 KS 30 [.int .i64 N, .int .i64 L, .int .i64 R, .slice A1 nh c1, .slice A2 ne c2, .slice A3 ns c3]) := hid (by rw [hw1, hKS]; exact Blk.new _ _ _)
  have T1 := hid (S1.out.call b1)
  have T2 := hid (S2.out.call b1)
  have T3 := hid (S3.out.call b1)
  have HW := hid hw1
  have HK := hid hKS
  have x0 := DS.out.cell 0
  have x1 := DS.out.cell 1
  have x2 := DS.out.cell 2
  have x3 := DS.out.cell 3
  have x4 := DS.out.cell 4
  clear hw1 hKS b1
  by_cases hg : GR N L R hs es
  case neg =>
    have HF : Hid (b = false) := hid (not_true HB.out (fun h => hg h.1))
    have HG : Hid (GR N L R hs es ↔ false = true) := hid (by simp only [hg]; simp)
    clear hg
    go_enter Try.func16, Try.ntmps16
    clear x0 x1 x2 x3 x4
    go_wp2_with fail
    rw [← HW.out, ← HK.out]
    refine (gr_any T1.out T2.out hn false HG.out).mono ?_; rintro e w2 ⟨rfl, b2⟩
    have HB2 := hid (Bl.call HB1.out b2)
    clear b2
    go_wp2
    go_ret
    exact ⟨by rw [HF.out]; rfl, HB2.out⟩
  case pos =>
  have HG := hid hg
  clear hg
  go_enter Try.func16, Try.ntmps16
  clear x0 x1 x2 x3 x4
  go_wp2_with fail
  rw [← HW.out, ← HK.out]
  refine (gr_any T1.out T2.out hn true ⟨fun _ => rfl, fun _ => HG.out⟩).mono ?_; rintro e w2 ⟨rfl, b2⟩
  have HB2 := hid (Bl.call HB1.out b2)
  have DS2 := hid (DS.out.below b2 DS.out.lt)
  have U3 := hid (T3.out.call b2)
  clear b2
  have x5 := DS2.out.cell 5
  by_cases hv : Vt.Ok ss
  case neg =>
    have HF : Hid (b = false) := hid (not_true HB.out (fun h => hv h.2.1))
    have HV : Hid ((kd ss).isSome = false) := hid (kd_no' hv)
    clear hv
    go_wp2_with fail
    refine (vright_is U3.out false HV.out).mono ?_; rintro e w3 ⟨rfl, b3⟩
    have HB3 := hid (Bl.call HB2.out b3)
    clear b3 x5
    go_wp2
    go_ret
    exact ⟨by rw [HF.out]; rfl, HB3.out⟩
  case pos =>
  have HVO := hid hv
  have HV : Hid ((kd ss).isSome = true) := hid (kd_yes' hv)
  clear hv
  go_wp2_with fail
  refine (vright_is U3.out true HV.out).mono ?_; rintro e w3 ⟨rfl, b3⟩
  have HB3 := hid (Bl.call HB2.out b3)
  have DS3 := hid (DS2.out.below b3 DS2.out.lt)
  clear b3 x5
  have x0 := DS3.out.cell 0
  have x4 := DS3.out.cell 4
  have x5 := DS3.out.cell 5
  by_cases hq : (ns : Int) = N
  case neg =>
    have HF : Hid (b = false) := hid (not_true HB.out (fun h => hq (by rw [← h.2.2.1, HL3.out])))
    have k2 : ((ns : Int) != N) = true := by simp [hq]
    clear hq
    go_wp2
    go_ret
    exact ⟨by rw [HF.out]; rfl, HB3.out⟩
  case pos =>
  have k2 : ((ns : Int) != N) = false := by simp [hq]
  have HNN : Hid ((ss.length : Int) = N) := hid (by rw [HL3.out]; exact hq)
  have HNS := hid hq
  clear hq
  go_wp2_with fail
  clear x0 x4 x5 k2
  go_loopw [29] (fun iv wr => ∃ i : Nat, i ≤ ne ∧ iv = .int .i64 (i : Int) ∧ Hid (UsOk es ss i) ∧ Hid (Below w3.heap.size w3 wr)) (fun iv _ => ne - (intOf iv).toNat)
  case atStart => exact ⟨0, Nat.zero_le _, rfl, hid (fun j _ h => absurd h (Nat.not_lt_zero _)), hid (Below.refl _ _)⟩
  case round =>
    obtain ⟨i, hi, rfl, HP, HBr⟩ := hrel
    have HB4 := hid (HB3.out.trans (HBr.out.mono HB3.out.size))
    by_cases hlt : i < ne
    case neg =>
      obtain rfl : i = ne := by omega
      have j0 : ¬ (i : Int) < (i : Int) := by omega
      have HF : Hid (b = true) := hid (HB.out.1 ⟨HG.out, HVO.out, HNN.out, by rw [HL2.out]; exact HP.out⟩)
      go_wp2
      go_ret
      exact ⟨by rw [HF.out]; rfl, HB4.out⟩
    case pos =>
      have j0 : (i : Int) < (ne : Int) := by omega
      have hil : i < es.length := by rw [HL2.out]; exact hlt
      obtain ⟨b6, o6, rfl, hb6, hc6⟩ := HX2.out (by omega)
      obtain ⟨p0, p1, p2⟩ := eds_cell hc6 hil
      have q0 := (HB4.out.cell (p := ⟨b6, o6 + i * 3, none⟩) hb6).trans p0
      have q1 := (HB4.out.cell (p := ⟨b6, o6 + i * 3 + 1, none⟩) hb6).trans p1
      have q2 := (HB4.out.cell (p := ⟨b6, o6 + i * 3 + 2, none⟩) hb6).trans p2
      have HNX := hid (fun h : usedAt ss es[i].1 = true ∧ usedAt ss es[i].2.1 = true => us_next HP.out (fun _ => h))
      have HNO := hid (fun h : ¬ (usedAt ss es[i].1 = true ∧ usedAt ss es[i].2.1 = true) => not_true HB.out (fun g => h (g.2.2.2 i hil hil)))
      have hok := (HG.out.2.2.2.1.2 i hil hil).1
      obtain ⟨e, he⟩ : ∃ e, e = es[i] := ⟨_, rfl⟩
      rw [← he] at q0 q1 q2 HNX HNO hok
      obtain ⟨x, y, t⟩ := e
      dsimp only at q0 q1 q2 HNX HNO
      obtain ⟨o1, o2, o3, -, -⟩ := hok
      dsimp only at o1 o2 o3
      have hns := HNS.out
      obtain ⟨x, rfl⟩ := Int.eq_ofNat_of_zero_le o1
      obtain ⟨y, rfl⟩ := Int.eq_ofNat_of_zero_le (show 0 ≤ y by omega)
      have hxl : x < ss.length := by rw [HL3.out]; omega
      have hyl : y < ss.length := by rw [HL3.out]; omega
      rw [used_nat ss hxl, used_nat ss hyl] at HNX HNO
      obtain ⟨b7, o7, rfl, hb7, hc7⟩ := HX3.out (by omega)
      have HBN := hid (Bl.new HB4.out (.cells #[.int .i64 (x : Int), .int .i64 (y : Int), .int .i64 t] 61))
      have HBM := hid (HBr.out.alloc HBr.out.size (.cells #[.int .i64 (x : Int), .int .i64 (y : Int), .int .i64 t] 61))
      have r0 := (HBN.out.cell (p := ⟨b7, o7 + x * 2, none⟩) hb7).trans (sls_cell hc7 hxl).1
      have r1 := (HBN.out.cell (p := ⟨b7, o7 + y * 2, none⟩) hb7).trans (sls_cell hc7 hyl).1
      have DS4 := hid ((DS3.out.below HBr.out DS3.out.lt).alloc (.cells #[.int .i64 (x : Int), .int .i64 (y : Int), .int .i64 t] 61))
      have x5 := DS4.out.cell 5
      have j1 : (x : Int) < (ns : Int) := by omega
      have j2 : (y : Int) < (ns : Int) := by omega
      have j3 : (0 : Int) ≤ (x : Int) := by omega
      have j4 : (0 : Int) ≤ (y : Int) := by omega
      clear he p0 p1 p2 hc6 hc7 hil o1 o2 o3 hns
      obtain ⟨u, hu⟩ : ∃ u, u = ss[x].1 := ⟨_, rfl⟩
      obtain ⟨u', hu'⟩ : ∃ u, u = ss[y].1 := ⟨_, rfl⟩
      rw [← hu] at r0 HNX HNO
      rw [← hu'] at r1 HNX HNO
      clear hu hu' hxl hyl
      cases u with
      | false =>
        have HF := hid (HNO.out (by simp))
        clear HNO HNX
        go_wp2
        go_ret
        exact ⟨by rw [HF.out]; rfl, HBN.out⟩
      | true =>
        cases u' with
        | false =>
          have HF := hid (HNO.out (by simp))
          clear HNO HNX
          go_wp2
          go_ret
          exact ⟨by rw [HF.out]; rfl, HBN.out⟩
        | true =>
          have HN := hid (HNX.out ⟨rfl, rfl⟩)
          clear HNO HNX
          go_wp2_with fail
          go_roundw
          case rel => exact ⟨i + 1, by omega, by go_num, HN, HBM⟩
          case measure => simp [intOf]; omega
end Go.Proofs.Ytbafbnkmmpaomaa
